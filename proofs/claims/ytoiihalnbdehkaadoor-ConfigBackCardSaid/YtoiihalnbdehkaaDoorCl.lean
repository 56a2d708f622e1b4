/-
  Layer 23: the table of slots, and numerals, at the model's worlds.
-/
import Derived.Test.YtoiihalnbdehkaaDoorKT
import Derived.Test.YtoiihalnbdehkaaDoorCf
import Derived.Test.YtoiihalnbdehkaaDoorCc
import Derived.Test.YtoiihalnbdehkaaDoorAbV
import Derived.Deep.RegionHeld3
import Derived.Lib.Hide
namespace Go.Proofs.YtoiihalnbdehkaaDoor.B
open Go Go.RowKit
set_option linter.unusedVariables false
set_option linter.unusedSimpArgs false
set_option maxRecDepth 100000
/-- The world holds the powers of ten. -/
def PowW (W : World) : Prop := ∃ cs t fz, W.heap[3]? = some (.cells cs t fz) ∧ ∀ (i : Nat) v, powRow[i]? = some v → cs[i]? = some v
theorem PowW.lt {W : World} (k : PowW W) : 3 < W.heap.size := let ⟨_, _, _, h, _⟩ := k; (Array.getElem?_eq_some_iff.1 h).1
theorem PowW.of_eq {W W' : World} (k : PowW W) (h : W'.heap[3]? = W.heap[3]?) : PowW W' := let ⟨cs, t, fz, h1, h2⟩ := k; ⟨cs, t, fz, h.trans h1, h2⟩
theorem PowW.below {W W' : World} (k : PowW W) (h : Below W.heap.size W W') : PowW W' := k.of_eq (h.block 3 k.lt)
def hD : AHeap := hC ++ [.dead]
theorem hD_dead : ∀ (b : Nat) (o : AObj), hD[b]? = some o → o = .dead ∨ (b = 3 ∧ o = .row .ro powRow) := by
  intro b o h
  match b, h with
  | 0, h => cases h; exact .inl rfl
  | 1, h => cases h; exact .inl rfl
  | 2, h => cases h; exact .inl rfl
  | 3, h => cases h; exact .inr ⟨rfl, rfl⟩
  | 4, h => cases h; exact .inl rfl
  | 5, h => cases h; exact .inl rfl
  | 6, h => cases h; exact .inl rfl
  | 7, h => cases h; exact .inl rfl
  | 8, h => cases h; exact .inl rfl
  | n + 9, h => cases h
theorem hD_rw {b : Nat} : ¬ RW hD b := by
  rintro ⟨o, h1, h2⟩
  rcases hD_dead b o h1 with rfl | ⟨rfl, rfl⟩
  · exact h2
  · exact h2
theorem hD_live {b : Nat} (h : Live hD b) : b = 3 := by
  obtain ⟨o, h1, h2⟩ := h
  rcases hD_dead b o h1 with rfl | ⟨rfl, rfl⟩
  · exact absurd rfl h2
  · rfl
theorem powRow_plain : powRow.all plain = true := by kernel_rfl
theorem PowW.sim {W : World} (k : PowW W) (bR : Nat) : ∃ μ : Ren, Sim nG μ hD W ∧ μ 8 = some ⟨bR, 0, 0⟩ := by
  obtain ⟨cs, t, fz, h1, h2⟩ := k
  refine ⟨fun b => if b < 8 then some ⟨b, 0, cs.size⟩ else if b = 8 then some ⟨bR, 0, 0⟩ else none, ⟨fun g hg => ⟨cs.size, ?_⟩, fun b x hb => ?_, fun b x o hb ho => ?_, fun b c x y _ _ lb lc _ => (hD_live lb).trans (hD_live lc).symm⟩, rfl⟩
  · have : g < 8 := hg
    simp [this]
  · show b < 9
    have hb : (if b < 8 then some (⟨b, 0, cs.size⟩ : Pl) else if b = 8 then some ⟨bR, 0, 0⟩ else none) = some x := hb
    split at hb
    · omega
    · split at hb
      · omega
      · cases hb
  · rcases hD_dead b o ho with rfl | ⟨rfl, rfl⟩
    · trivial
    · have hb' : some (⟨3, 0, cs.size⟩ : Pl) = some x := hb
      cases hb'
      refine ⟨cs, t, fz, h1, rfl, fun q => q.elim, fun i v hi => ⟨v, by rw [Nat.zero_add]; exact h2 i v hi, VR.plain (List.all_eq_true.1 powRow_plain _ (List.mem_of_getElem? hi))⟩⟩
theorem below_of {μ μ' : Ren} {h' : AHeap} {W W' : World} (st : Step nG μ hD W μ' h' W') : Below W.heap.size W W' :=
  ⟨st.fr.os, st.fr.tape, st.fr.output, st.fr.size, fun k hk => st.fr.block k hk fun b x _ hrw => absurd hrw hD_rw⟩
theorem itoa_world {W : World} (k : PowW W) {n : Int} (hn : in64 n) : Calls Tryd.prog 66 #[.int .i64 n] W fun e w' => e = .returned (.string (wholeS n)) ∧ Below W.heap.size W w' := by
  obtain ⟨μ, s, _⟩ := k.sim 0
  have hg : PowV hD := PowG.powV (show PowG hD from rfl)
  refine (itoa_spec hg hn μ W #[.int .i64 n] s (VL.plain rfl)).mono fun e w' ⟨v', μ', he, hr, st⟩ => ?_
  rw [hr.plain_inv rfl] at he
  exact ⟨he, below_of st⟩
theorem slots_exact (h : AHeap) (b : Nat) : Spec Tryd.prog nG fn.config_Rules_slots [.pointer (some ⟨b, 0, none⟩)] h (.slice (some ⟨h.length, 0, none⟩) 15 15) (h ++ [.row (.grow 4) (idx15.flatMap (slotC b))]) := by
  apply ir.config_Rules_slots.spec (Nat.le_of_ble_eq_true rfl)
  simp (dsimp := false) only [↓ir.config_Rules_slots.bw, ir.config_Rules_slots.rs, go_sem, Nat.reduceAdd, Nat.reduceEqDiff, Nat.reduceMul, Nat.reduceLeDiff, Nat.reduceSub, Nat.reduceLT, ↓reduceIte, reduceCtorEq, List.reduceReplicate, List.flatten_cons, List.flatten_nil, List.append_nil, eq_self, Int.reduceLE, Int.reduceLT, Int.reduceToNat, Nat.min_eq_left, Int.reducePow, Int.reduceNeg, Int.reduceEq]
  exact .inl ⟨rfl, rfl⟩
theorem slot_cells (b : Nat) : ∀ i, i < 15 → (idx15.flatMap (slotC b))[4 * i]? = some (.string (slotN i)) ∧ (idx15.flatMap (slotC b))[4 * i + 1]? = some (.pointer (some ⟨b, i, none⟩)) ∧
    (idx15.flatMap (slotC b))[4 * i + 2]? = some (.int .i64 (slotLo i)) ∧ (idx15.flatMap (slotC b))[4 * i + 3]? = some (.int .i64 (slotHi i)) := by
  intro i hi
  have : i = 0 ∨ i = 1 ∨ i = 2 ∨ i = 3 ∨ i = 4 ∨ i = 5 ∨ i = 6 ∨ i = 7 ∨ i = 8 ∨ i = 9 ∨ i = 10 ∨ i = 11 ∨ i = 12 ∨ i = 13 ∨ i = 14 := by omega
  rcases this with rfl | rfl | rfl | rfl | rfl | rfl | rfl | rfl | rfl | rfl | rfl | rfl | rfl | rfl | rfl <;> exact ⟨rfl, rfl, rfl, rfl⟩
/-- The table of slots, as it lies in a block of its own. -/
def SlotsAt (bR sb so : Nat) (w : World) : Prop := ∀ i, i < 15 → w.cell? ⟨sb, so + 4 * i, none⟩ = some (.string (slotN i)) ∧ w.cell? ⟨sb, so + 4 * i + 1, none⟩ = some (.pointer (some ⟨bR, i, none⟩)) ∧
    w.cell? ⟨sb, so + 4 * i + 2, none⟩ = some (.int .i64 (slotLo i)) ∧ w.cell? ⟨sb, so + 4 * i + 3, none⟩ = some (.int .i64 (slotHi i))
def SlotsEnd (W : World) (bR : Nat) (e : Ending) (w' : World) : Prop := ∃ sb so cap, e = .returned (.slice (some ⟨sb, so, none⟩) 15 cap) ∧ Below W.heap.size W w' ∧ W.heap.size ≤ sb ∧ sb < w'.heap.size ∧ SlotsAt bR sb so w'
theorem slots_world {W : World} (k : PowW W) (bR : Nat) : Calls Tryd.prog 71 #[.pointer (some ⟨bR, 0, none⟩)] W (SlotsEnd W bR) := by
  obtain ⟨μ, s, h8⟩ := k.sim bR
  have hp : VR μ hD (.pointer (some ⟨8, 0, none⟩)) (.pointer (some ⟨bR, 0, none⟩)) := .ptr 0 h8
  refine (slots_exact hD 8 μ W #[.pointer (some ⟨bR, 0, none⟩)] s (VL.cons hp .nil)).mono fun e w' ⟨v', μ', he, hr, st⟩ => ?_
  cases hr with
  | slice off len cap cap' hb hc =>
    rename_i x
    have hnew : W.heap.size ≤ x.blk := by
      rcases st.fresh _ _ hb (Nat.le_refl _) with q | ⟨b0, x0, _, q, _⟩
      · exact q
      · exact absurd q hD_rw
    have ob := st.sim.obj _ _ _ hb (List.getElem?_concat_length (l := hD))
    have hbd := ob.bound (by simp)
    obtain ⟨cs, t, fz, h1, h2, h3, h4⟩ := ob
    refine ⟨x.blk, x.off + 0, cap', he, below_of st, hnew, hbd, fun i hi => ?_⟩
    obtain ⟨c0, c1, c2, c3⟩ := slot_cells 8 i hi
    obtain ⟨u0, a0, b0⟩ := h4 _ _ c0
    obtain ⟨u1, a1, b1⟩ := h4 _ _ c1
    obtain ⟨u2, a2, b2⟩ := h4 _ _ c2
    obtain ⟨u3, a3, b3⟩ := h4 _ _ c3
    cases b0
    cases b2
    cases b3
    cases b1 with
    | ptr _ hb8 =>
      rename_i y
      have h8' := st.ren _ _ h8
      rw [h8'] at hb8
      cases hb8
      refine ⟨?_, ?_, ?_, ?_⟩
      · rw [cell_at h1]; simpa [Nat.add_assoc] using a0
      · rw [cell_at h1]; simpa [Nat.add_assoc] using a1
      · rw [cell_at h1]; simpa [Nat.add_assoc] using a2
      · rw [cell_at h1]; simpa [Nat.add_assoc] using a3
end Go.Proofs.YtoiihalnbdehkaaDoor.B
/-
  Layer 23: config.Text at the model's worlds.
-/
namespace Go.Proofs.YtoiihalnbdehkaaDoor.B
open Go Go.RowKit
set_option linter.unusedVariables false
set_option linter.unusedSimpArgs false
set_option maxRecDepth 100000
set_option maxHeartbeats 2000000
/-- What holds ahead of a round. -/
structure TI (L : List Int) (n0 S sb so : Nat) (w1 : World) (i : Nat) (w : World) : Prop where
  kp : Kp S (n0 + 1) w1 w
  bd : ∃ p, (p = .pointer none ∨ p = .pointer (some ⟨n0 + 1, 0, none⟩)) ∧ Bd S (n0 + 1) p (Lib.byteCells (headT L i)) w
/-- What stands behind the table's making. -/
structure TB (L : List Int) (W : World) (n0 S sb so : Nat) (w1 : World) : Prop where
  hS : S = w1.heap.size
  n0S : n0 + 1 < S
  sbS : sb < S
  sbn : n0 + 1 < sb
  pow : PowW w1
  n3 : 3 < n0
  slots : SlotsAt n0 sb so w1
  rbox : ∀ i, i < 15 → w1.cell? ⟨n0, i, none⟩ = some (.int .i64 (L.getD i 0))
abbrev Sc (bx n0 i : Nat) (nm : ByteArray) (N : Int) (w : World) : Prop := w.cell? ⟨bx, 0, none⟩ = some (.string nm) ∧ w.cell? ⟨bx, 1, none⟩ = some (.pointer (some ⟨n0, i, none⟩)) ∧ w.cell? ⟨n0, i, none⟩ = some (.int .i64 N)
theorem Sc.of {bx n0 i : Nat} {nm : ByteArray} {N : Int} {w w' : World} (h : Sc bx n0 i nm N w) (h1 : w'.heap[bx]? = w.heap[bx]?) (h2 : w'.heap[n0]? = w.heap[n0]?) : Sc bx n0 i nm N w' := by
  unfold Sc World.cell? at *
  simp only at *
  rw [h1, h2]
  exact h
/-- What holds in a round, its own box made. -/
structure TR (L : List Int) (n0 S : Nat) (w1 : World) (i : Nat) (w : World) : Prop where
  kp : Kp S (n0 + 1) w1 w
  pow : PowW w
  le : S ≤ w.heap.size
  bd : ∃ p, (p = .pointer none ∨ p = .pointer (some ⟨n0 + 1, 0, none⟩)) ∧ Bd S (n0 + 1) p (Lib.byteCells (headT L i)) w
theorem line_cells {L : List Int} {i : Nat} {N : Int} (hN : L.getD i 0 = N) : Lib.byteCells (headT L i) ++ Lib.strCells (slotN i ++ ⟨#[32]⟩ ++ wholeS N ++ ⟨#[10]⟩) = Lib.byteCells (headT L (i + 1)) := by
  rw [Lib.strCells_eq, ← Lib.byteCells_append, headT, lineT, hN]
  simp only [ByteArray.data_append, Array.toList_append, List.append_assoc, List.cons_append, List.nil_append]
theorem TR.itoa {L : List Int} {n0 S i : Nat} {w1 w w' : World} (h : TR L n0 S w1 i w) (h3 : 3 < S) (hn : n0 + 1 < S) (hb : Below w.drew.heap.size w.drew w') : Kp S (n0 + 1) w w' ∧ TR L n0 S w1 i w' := by
  have hle : S ≤ w.heap.size := h.le
  have hk : Kp S (n0 + 1) w w' := ⟨hb.os, hb.tape, hb.output, hb.size, fun k hk _ => hb.block k (Nat.lt_of_lt_of_le hk hle)⟩
  obtain ⟨p, hp, hbd⟩ := h.bd
  exact ⟨hk, ⟨h.kp.trans hk, h.pow.of_eq (hb.block 3 (Nat.lt_of_lt_of_le h3 hle)), Nat.le_trans hle hb.size, p, hp, Bd.kept (w := w.drew) hbd hb (Nat.lt_of_lt_of_le hn hle)⟩⟩
theorem TR.make {L : List Int} {n0 S sb so i : Nat} {w1 w : World} (h : TI L n0 S sb so w1 i w) (hS : S = w1.heap.size) (hpow : PowW w1) (h3 : 3 < n0) (hn : n0 + 1 < S) (o : Obj) : Kp S (n0 + 1) w (w.alloc o) ∧ TR L n0 S w1 i (w.alloc o) := by
  have hle : S ≤ w.heap.size := hS ▸ h.kp.size
  have hb : Below w.heap.size w (w.alloc o) := (Below.refl w.heap.size w).alloc (Nat.le_refl _) o
  have hk := Kp.of_below (b := n0 + 1) hb hle
  obtain ⟨p, hp, hbd⟩ := h.bd
  have hk1 := h.kp.trans hk
  exact ⟨hk, ⟨hk1, hpow.of_eq (hk1.block 3 (by omega) (by omega)), Nat.le_trans hle hb.size, p, hp, Bd.kept hbd hb (by omega)⟩⟩
theorem Bd.isBuilder {S B b : Nat} {p : Value} {bs : List Value} {w : World} (hp : p = .pointer none ∨ p = .pointer (some ⟨b, 0, none⟩)) (h : Bd S b p bs w) (hB : B ≤ b) (hb : b < S) : Lib.IsBuilder 155 5 B b bs w := by
  obtain ⟨v, h1, h2⟩ := h
  have hown : w.ownsRow B 5 1 v bs.length bs := by
    refine ⟨h2.1, ?_⟩
    rcases h2.2 with q | ⟨g, cap, cur, q1, q2, q3⟩
    · exact .inl q
    · exact .inr ⟨g, cap, cur, q1, by omega, q3⟩
  have hne : v.ownBlock ≠ some b := by
    rcases h2.2 with ⟨rfl, _⟩ | ⟨g, cap, cur, rfl, q2, q3⟩
    · simp [Value.ownBlock]
    · simp only [Value.ownBlock, ne_eq, Option.some.injEq]
      omega
  rcases hp with rfl | rfl
  · exact .inl ⟨hB, v, h1, hown, hne⟩
  · exact .inr ⟨hB, v, h1, hown, hne⟩
theorem slotN_size {i : Nat} (hi : i < 15) : (slotN i).size ≤ 11 := by
  have := (slot_ok i hi).2.2.1
  have e : (slotL i).length = (slotN i).size := Array.length_toList
  omega
theorem string_world {S B b : Nat} {p : Value} {l : List UInt8} {w : World} (hp : p = .pointer none ∨ p = .pointer (some ⟨b, 0, none⟩)) (h : Bd S b p (Lib.byteCells l) w) (hB : B ≤ b) (hb : b < S) (hBw : B ≤ w.heap.size) :
    Calls Tryd.prog 77 #[.pointer (some ⟨b, 0, none⟩)] w fun e w' => e = .returned (.string ⟨l.toArray⟩) ∧ Below B w w' :=
  Any.Builder_String_any (ρ := Tryd.lays156_ren) { Tryd.lays156 with } bX B b l w (h.isBuilder hp hB hb) hBw
theorem text_world {L : List Int} (hL : L.length = 15) (hn : ∀ i, i < 15 → in64 (L.getD i 0)) {W : World} (k : PowW W) :
    Calls Tryd.prog 35 #[.agg ⟨rulC L⟩] W fun e w' => e = .returned (.string ⟨(headT L 15).toArray⟩) ∧ Below W.heap.size W w' := by
  have hn3 := k.lt
  have hW2 : ∀ (o1 o2 : Obj), PowW ((W.alloc o1).alloc o2) := fun o1 o2 => k.of_eq (((Below.refl W.heap.size W).alloc (Nat.le_refl _) o1).alloc (by simp) o2 |>.block 3 hn3)
  have hb2 : ∀ (o1 o2 : Obj), Below W.heap.size W ((W.alloc o1).alloc o2) := fun o1 o2 => ((Below.refl W.heap.size W).alloc (Nat.le_refl _) o1).alloc (by simp) o2
  have HN := Lib.hid hn
  have HL := Lib.hid hL
  have HP := Lib.hid hW2
  have HB := Lib.hid hb2
  clear k hn hL hW2 hb2
  go_enter Tryd.func35, Tryd.ntmps35
  go_wp2_with fail
  refine (slots_world (HP.out _ _) W.heap.size).mono ?_
  rintro e w1 ⟨sb, so, cap, rfl, hbl, hsb1, hsb2, hsl⟩
  have hsz : W.heap.size + 2 ≤ w1.heap.size := by have := hbl.size; simp at this; omega
  have hsb3 : W.heap.size + 1 < sb := by simp at hsb1; omega
  have hd1 : w1.heap[W.heap.size]? = some (.cells ⟨rulC L⟩ 63) := (hbl.block _ (by simp; omega)).trans ((Lib.alloc_old _ _ _ (by simp)).trans (heap_alloc_new W _))
  have hd2 : w1.heap[W.heap.size + 1]? = some (.cells #[.pointer none, .slice none 0 0] 155) := (hbl.block _ (by simp)).trans (by have := heap_alloc_new (W.alloc (Obj.cells ⟨rulC L⟩ 63)) (.cells #[.pointer none, .slice none 0 0] 155); simpa using this)
  have HT : Hid (TB L W W.heap.size w1.heap.size sb so w1) := Lib.hid ⟨rfl, by omega, hsb2, hsb3, (HP.out _ _).below hbl, hn3, hsl, fun i hi => by
    rw [Lib.cell_of_heap hd1]
    rw [List.getElem?_toArray]
    have hi2 : i < L.length := by rw [HL.out]; exact hi
    rw [rulC, List.getElem?_map, List.getElem?_eq_getElem hi2, List.getD_eq_getElem?_getD, List.getElem?_eq_getElem hi2]; rfl⟩
  have HBl : Hid (Below W.heap.size W w1) := Lib.hid ((HB.out _ _).trans (hbl.mono (by simp; omega)))
  have HI : Hid (TI L W.heap.size w1.heap.size sb so w1 0 w1) := Lib.hid ⟨Kp.refl _ _ _, .pointer none, .inl rfl, .slice none 0 0, hd2, World.ownsRow_nil _ _ _ _⟩
  clear hsl hbl hsb1 hsb2 HP HB hd1 hd2 hsb3
  go_wp2_with fail
  go_loopw [8] (fun x wr => ∃ i : Nat, i ≤ 15 ∧ x = .int .i64 i ∧ Hid (TI L W.heap.size w1.heap.size sb so w1 i wr)) (fun x _ => 15 - (intOf x).toNat)
  case atStart => exact ⟨0, Nat.zero_le _, rfl, HI⟩
  case round =>
    obtain ⟨i, hi, rfl, HR⟩ := hrel
    clear HI
    by_cases hlt : i < 15
    · have hkp := HR.out.kp
      have hsl := HT.out.slots i hlt
      have hbn := HT.out.sbn
      have hbS := HT.out.sbS
      have hS := HT.out.hS
      obtain ⟨q0, q1, q2, q3⟩ := hsl
      have s0 : wr.cell? ⟨sb, so + i * 4, none⟩ = some (.string (slotN i)) := by rw [hkp.cell hbS (show sb ≠ W.heap.size + 1 by omega), Nat.mul_comm]; exact q0
      have s1 : wr.cell? ⟨sb, so + i * 4 + 1, none⟩ = some (.pointer (some ⟨W.heap.size, i, none⟩)) := by rw [hkp.cell hbS (show sb ≠ W.heap.size + 1 by omega), Nat.mul_comm]; exact q1
      have s2 : wr.cell? ⟨sb, so + i * 4 + 2, none⟩ = some (.int .i64 (slotLo i)) := by rw [hkp.cell hbS (show sb ≠ W.heap.size + 1 by omega), Nat.mul_comm]; exact q2
      have s3 : wr.cell? ⟨sb, so + i * 4 + 3, none⟩ = some (.int .i64 (slotHi i)) := by rw [hkp.cell hbS (show sb ≠ W.heap.size + 1 by omega), Nat.mul_comm]; exact q3
      have r0 : wr.cell? ⟨W.heap.size, i, none⟩ = some (.int .i64 (L.getD i 0)) := by rw [hkp.cell (show W.heap.size < w1.heap.size by have := HT.out.n0S; omega) (show W.heap.size ≠ W.heap.size + 1 by omega)]; exact HT.out.rbox i hlt
      clear q0 q1 q2 q3 hS hbS hbn hkp
      obtain ⟨N, hN⟩ : ∃ N, L.getD i 0 = N := ⟨_, rfl⟩
      rw [hN] at r0
      have hNb : in64 N := hN ▸ HN.out i hlt
      have Hlc := Lib.hid (line_cells hN)
      clear hN
      go_wp2_with fail
      have hS3k := TR.make HR.out HT.out.hS HT.out.pow HT.out.n3 HT.out.n0S (Obj.cells #[.string (slotN i), .pointer (some ⟨W.heap.size, i, none⟩), .int .i64 (slotLo i), .int .i64 (slotHi i)] 151)
      have hB3 : (wr.alloc (Obj.cells #[.string (slotN i), .pointer (some ⟨W.heap.size, i, none⟩), .int .i64 (slotLo i), .int .i64 (slotHi i)] 151)).heap[wr.heap.size]? = _ := heap_alloc_new _ _
      have hS3 : Sc wr.heap.size W.heap.size i (slotN i) N (wr.alloc (Obj.cells #[.string (slotN i), .pointer (some ⟨W.heap.size, i, none⟩), .int .i64 (slotLo i), .int .i64 (slotHi i)] 151)) := ⟨by rw [Lib.cell_of_heap (heap_alloc_new _ _)]; rfl, by rw [Lib.cell_of_heap (heap_alloc_new _ _)]; rfl, by rw [hS3k.1.cell (show W.heap.size < w1.heap.size by have := HT.out.n0S; omega) (show W.heap.size ≠ W.heap.size + 1 by omega)]; exact r0⟩
      have hR3 : TR L W.heap.size w1.heap.size w1 i (wr.alloc (Obj.cells #[.string (slotN i), .pointer (some ⟨W.heap.size, i, none⟩), .int .i64 (slotLo i), .int .i64 (slotHi i)] 151)) := hS3k.2
      have hwle : w1.heap.size ≤ wr.heap.size := HR.out.kp.size
      clear hS3k
      generalize wr.alloc (Obj.cells #[.string (slotN i), .pointer (some ⟨W.heap.size, i, none⟩), .int .i64 (slotLo i), .int .i64 (slotHi i)] 151) = w3 at hB3 hS3 hR3 ⊢
      have HR3 := Lib.hid hR3
      have HB3 := Lib.hid hB3
      have HS3 := Lib.hid hS3
      have hn03 : W.heap.size < w3.heap.size := by have := HT.out.n0S; have := HR3.out.le; omega
      clear hB3 hR3 HR s0 s1 s2 s3 r0
      have hz1 : (slotN i).size ≤ 11 := slotN_size hlt
      have hz2 : (wholeS N).size ≤ 21 := wholeS_size hNb
      have HLen : Hid ((Lib.byteCells (headT L i)).length + (slotN i ++ ⟨#[32]⟩ ++ wholeS N ++ ⟨#[10]⟩ : ByteArray).size ≤ 140737488355328) := Lib.hid (by
        have q := headT_len HN.out i (by omega)
        have e1 : (⟨#[32]⟩ : ByteArray).size = 1 := rfl
        have e2 : (⟨#[10]⟩ : ByteArray).size = 1 := rfl
        rw [Lib.byteCells_length, ByteArray.size_append, ByteArray.size_append, ByteArray.size_append]
        omega)
      have a1 : ¬ (9223372036854775807 < (slotN i).size + 1) := by omega
      have a2 : ¬ (9223372036854775807 ≤ (slotN i).size) := by omega
      have a3 : ¬ (9223372036854775807 < (slotN i).size + 1 + (wholeS N).size) := by omega
      have a4 : ¬ (9223372036854775807 < (slotN i).size + 1 + (wholeS N).size + 1) := by omega
      have a5 : ¬ (9223372036854775807 ≤ (slotN i).size + 1 + (wholeS N).size) := by omega
      go_region_held3 (fun w' => w'.cell? ⟨wr.heap.size, 0, none⟩ = some (.string (slotN i)) ∧ w'.cell? ⟨wr.heap.size, 1, none⟩ = some (.pointer (some ⟨W.heap.size, i, none⟩)) ∧ w'.cell? ⟨W.heap.size, i, none⟩ = some (.int .i64 N)) (first | exact hS3 | exact hS4 | exact hS5) (first
        | (go_at_call 66; refine (itoa_world (by exact HR3.out.pow) hNb).mono ?_; rintro e w4 ⟨rfl, hb4⟩; have hS4 : Sc wr.heap.size W.heap.size i (slotN i) N w4 := HS3.out.of (hb4.block _ (Array.getElem?_eq_some_iff.1 HB3.out).1) (hb4.block _ hn03); have HR4 : Hid (TR L W.heap.size w1.heap.size w1 i w4) := Lib.hid (HR3.out.itoa (by have := HT.out.n0S; omega) HT.out.n0S hb4).2; have HB4 := Lib.hid ((hb4.block _ (Array.getElem?_eq_some_iff.1 HB3.out).1).trans HB3.out); have HS4 := Lib.hid hS4; clear hb4)
        | (go_at_call 76; refine (write_world (S := w1.heap.size) HR4.out.bd.choose_spec.1 HR4.out.bd.choose_spec.2 (by have := HT.out.n0S; omega) HR4.out.le (by exact HLen.out)).mono ?_; rintro e w5 ⟨rfl, hb5, hk5, ho5⟩; have hS5 : Sc wr.heap.size W.heap.size i (slotN i) N w5 := HS4.out.of ((ho5 _ _ HB4.out (by have := HT.out.n0S; omega) (by intro c fz; simp)).trans HB4.out.symm) (hk5.block _ (by have := HT.out.n0S; omega) (by omega)); have HI5 : Hid (TI L W.heap.size w1.heap.size sb so w1 (i + 1) w5) := Lib.hid ⟨HR4.out.kp.trans hk5, _, .inr rfl, Hlc.out ▸ hb5⟩; clear hb5 hk5 ho5))
      go_wp2
      exact ⟨⟨i + 1, by omega, by go_num, HI5⟩, by simp [intOf]; omega⟩
    · obtain rfl : i = 15 := by omega
      go_wp2_with fail
      refine (string_world (B := W.heap.size) HR.out.bd.choose_spec.1 HR.out.bd.choose_spec.2 (Nat.le_succ _) HT.out.n0S (by have := HR.out.kp.size; omega)).mono ?_
      rintro e w5 ⟨rfl, hb5⟩
      have HF : Hid (Below W.heap.size W w5) := Lib.hid ((HBl.out.trans ⟨HR.out.kp.os, HR.out.kp.tape, HR.out.kp.output, HR.out.kp.size, fun k hk => HR.out.kp.block k (by have := HT.out.n0S; omega) (by omega)⟩).trans hb5)
      clear hb5
      go_wp2
      go_ret
      exact ⟨rfl, HF.out⟩
end Go.Proofs.YtoiihalnbdehkaaDoor.B
