/-
  DERIVED: THE SHELF's CONTRACTS AT THIS DUMP, IN PLAIN WORDS (tools/lay-plain.mjs out of 'YtoiihalnbdehkaaDoorKJ0.lean', which tools/lay-shelf.mjs wrote): THE SAME DECLARATIONS UNDER THE SAME NAMES: 'import', 'namespace', 'open', 'def', 'theorem' AND NOTHING ELSE: no command of the shelf's: FOR A HAND-IN. Each laying: the table of numbers ('.._ren') and one theorem, a field a fact of the dump's own or the kernel's comparison; each contract: ONE APPLICATION.
-/
import Derived.Shelf.Strings.Builder1
import Derived.Shelf.LaysM
import Derived.Test.YtoiihalnbdehkaaDoorProg
import Derived.Lib.AppendStr
import Derived.Lib.Builder
import Derived.Below
import Derived.WalkKit
import Derived.Lib.Hide
namespace Go.Proofs
open Go.Shelf
def Tryd.lays156_ren : Go.Shelf.Ren := ⟨fun | 156 => 89 | 165 => 110 | 166 => 76 | 169 => 77 | 240 => 105 | 241 => 128 | 276 => 126 | 277 => 150 | n => n, fun | 31 => 80 | 9 => 9 | 3 => 3 | 4 => 4 | 0 => 0 | 20 => 20 | 72 => 155 | 76 => 158 | 70 => 153 | 37 => 110 | 75 => 157 | 127 => 195 | 164 => 212 | 5 => 5 | 80 => 160 | n => n, fun | n => n⟩
theorem Tryd.lays156 : Go.Proofs.Lays.n156 Tryd.prog Tryd.lays156_ren := {
  mixed := by kernel_rfl
  f156 := Tryd.func89.trans (congrArg some (by kernel_rfl))
  f165 := Tryd.func110.trans (congrArg some (by kernel_rfl))
  f166 := Tryd.func76.trans (congrArg some (by kernel_rfl))
  f169 := Tryd.func77.trans (congrArg some (by kernel_rfl))
  f240 := Tryd.func105.trans (congrArg some (by kernel_rfl))
  f241 := Tryd.func128.trans (congrArg some (by kernel_rfl))
  f276 := Tryd.func126.trans (congrArg some (by kernel_rfl))
  f277 := Tryd.func150.trans (congrArg some (by kernel_rfl))
  t0 := Tryd.underlying0
  a0 := Tryd.isAgg0
  z0 := Tryd.sizeOf0
  v0 := Tryd.zeroValue0
  t3 := Tryd.underlying3
  a3 := Tryd.isAgg3
  z3 := Tryd.sizeOf3
  v3 := Tryd.zeroValue3
  t4 := Tryd.underlying4
  a4 := Tryd.isAgg4
  z4 := Tryd.sizeOf4
  v4 := Tryd.zeroValue4
  t9 := Tryd.underlying9
  a9 := Tryd.isAgg9
  z9 := Tryd.sizeOf9
  v9 := Tryd.zeroValue9
  t20 := Tryd.underlying20
  a20 := Tryd.isAgg20
  z20 := Tryd.sizeOf20
  v20 := Tryd.zeroValue20
  t31 := Tryd.underlying80
  a31 := Tryd.isAgg80
  z31 := Tryd.sizeOf80
  v31 := Tryd.zeroValue80
  t37 := Tryd.underlying110
  a37 := Tryd.isAgg110
  z37 := Tryd.sizeOf110
  v37 := Tryd.zeroValue110
  t70 := Tryd.underlying153
  a70 := Tryd.isAgg153
  z70 := Tryd.sizeOf153
  v70 := Tryd.zeroValue153
  t72 := Tryd.underlying155
  a72 := Tryd.isAgg155
  z72 := Tryd.sizeOf155
  v72 := Tryd.zeroValue155
  t75 := Tryd.underlying157
  a75 := Tryd.isAgg157
  z75 := Tryd.sizeOf157
  v75 := Tryd.zeroValue157
  t76 := Tryd.underlying158
  a76 := Tryd.isAgg158
  z76 := Tryd.sizeOf158
  v76 := Tryd.zeroValue158
  t127 := Tryd.underlying195
  a127 := Tryd.isAgg195
  z127 := Tryd.sizeOf195
  v127 := Tryd.zeroValue195
  t164 := Tryd.underlying212
  a164 := Tryd.isAgg212
  z164 := Tryd.sizeOf212
  v164 := Tryd.zeroValue212 }
theorem Tryd.Builder_Extra_156 : Builder.Extra Tryd.prog Tryd.lays156_ren := {
  sizeBuilder := by kernel_rfl
  liesBuilder := by kernel_rfl
  t5 := Tryd.underlying5
  a5 := Tryd.isAgg5
  z5 := Tryd.sizeOf5
  v5 := Tryd.zeroValue5
  infoByte := by kernel_rfl
  cellsByte := by kernel_rfl
  sizeByte := by kernel_rfl
  neB5 := by decide }
end Go.Proofs
/-
  Layer 23: strings.Builder at the model's worlds, in a frame that names the one block that a writer turns.
-/
namespace Go.Proofs.YtoiihalnbdehkaaDoor.B
open Go Go.RowKit Go.Shelf Go.Proofs
set_option linter.unusedVariables false
set_option linter.unusedSimpArgs false
/-- Below S all stands but block b. -/
structure Kp (S b : Nat) (w w' : World) : Prop where
  os : w'.os = w.os
  tape : w'.tape = w.tape
  output : w'.output = w.output
  size : w.heap.size ≤ w'.heap.size
  block : ∀ k, k < S → k ≠ b → w'.heap[k]? = w.heap[k]?
theorem Kp.refl (S b : Nat) (w : World) : Kp S b w w := ⟨rfl, rfl, rfl, Nat.le_refl _, fun _ _ _ => rfl⟩
theorem Kp.trans {S b : Nat} {w w1 w2 : World} (h : Kp S b w w1) (k : Kp S b w1 w2) : Kp S b w w2 :=
  ⟨k.os.trans h.os, k.tape.trans h.tape, k.output.trans h.output, Nat.le_trans h.size k.size, fun i hi hb => (k.block i hi hb).trans (h.block i hi hb)⟩
theorem Kp.of_below {S b : Nat} {w w' : World} (h : Below w.heap.size w w') (hS : S ≤ w.heap.size) : Kp S b w w' :=
  ⟨h.os, h.tape, h.output, h.size, fun k hk _ => h.block k (by omega)⟩
theorem Kp.cell {S b : Nat} {w w' : World} (h : Kp S b w w') {p : Addr} (h1 : p.block < S) (h2 : p.block ≠ b) : w'.cell? p = w.cell? p := by
  simp only [World.cell?, h.block _ h1 h2]
/-- A builder in block b, its bytes above S. -/
def Bd (S b : Nat) (p : Value) (bs : List Value) (w : World) : Prop :=
  ∃ v, w.heap[b]? = some (.cells #[p, v] 155 (0, 0)) ∧ w.ownsRow S 5 1 v bs.length bs
theorem Bd.kept {S b : Nat} {p : Value} {bs : List Value} {w w' : World} (h : Bd S b p bs w) (hb : Below w.heap.size w w') (hbw : b < w.heap.size) : Bd S b p bs w' := by
  obtain ⟨v, h1, h2⟩ := h
  refine ⟨v, (hb.block b hbw).trans h1, h2.1, ?_⟩
  rcases h2.2 with q | ⟨g, cap, cur, q1, q2, q3, q4⟩
  · exact .inl q
  · exact .inr ⟨g, cap, cur, q1, q2, (hb.block g (Array.getElem?_eq_some_iff.1 q3).1).trans q3, q4⟩
/-- All stands but the builder's block and rows of bytes. -/
def Oth (b : Nat) (w w' : World) : Prop := ∀ k o, w.heap[k]? = some o → k ≠ b → (∀ c fz, o ≠ .cells c 5 fz) → w'.heap[k]? = some o
abbrev bX : Builder.Extra Tryd.prog Tryd.lays156_ren := Tryd.Builder_Extra_156
/-- copyCheck: behind it the builder knows its own address. -/
theorem copy_world {S b : Nat} {p : Value} {bs : List Value} {w : World} (hp : p = .pointer none ∨ p = .pointer (some ⟨b, 0, none⟩)) (h : Bd S b p bs w) (hbS : b < S) :
    Calls Tryd.prog 105 #[.pointer (some ⟨b, 0, none⟩)] w fun e w' => e = .returned (.tuple #[]) ∧ Bd S b (.pointer (some ⟨b, 0, none⟩)) bs w' ∧ Kp S b w w' ∧ ∀ k, k ≠ b → w'.heap[k]? = w.heap[k]? := by
  obtain ⟨v, h1, h2⟩ := h
  have c0 : w.cell? ⟨b, 0, none⟩ = some p := by rw [Lib.cell_of_heap h1]; rfl
  rcases hp with rfl | rfl
  · refine (Any.Builder_copyCheck_fresh (ρ := Tryd.lays156_ren) { Tryd.lays156 with } bX.toX72 b w c0 (by simp [World.shape?, h1]; rfl) (Lib.frozen_of_heap h1 0)).mono ?_
    rintro e w' ⟨rfl, rfl⟩
    refine ⟨rfl, ⟨v, by simp [World.setCell, Array.getElem?_modify, h1], h2.1, ?_⟩, ⟨rfl, rfl, rfl, by simp [World.setCell], fun k hk hne => Below.heap_setCell _ _ _ _ (fun e => hne e)⟩, fun k hne => Below.heap_setCell _ _ _ _ (fun e => hne e)⟩
    rcases h2.2 with q | ⟨g, cap, cur, q1, q2, q3, q4⟩
    · exact .inl q
    · exact .inr ⟨g, cap, cur, q1, q2, by rw [Below.heap_setCell _ _ _ _ (show g ≠ (⟨b, 0, none⟩ : Addr).block by simp only; omega)]; exact q3, q4⟩
  · refine (Any.Builder_copyCheck_used (ρ := Tryd.lays156_ren) { Tryd.lays156 with } bX.toX72 b w c0).mono ?_
    rintro e w' ⟨rfl, rfl⟩
    exact ⟨rfl, ⟨v, h1, h2⟩, Kp.refl _ _ _, fun _ _ => rfl⟩
set_option maxHeartbeats 2000000 in
set_option maxRecDepth 100000 in
/-- WriteString. -/
theorem write_world {S b : Nat} {p : Value} {bs : List Value} {s : ByteArray} {w : World} (hp : p = .pointer none ∨ p = .pointer (some ⟨b, 0, none⟩)) (h : Bd S b p bs w) (hbS : b < S) (hSw : S ≤ w.heap.size) (hlen : bs.length + s.size ≤ 140737488355328) :
    Calls Tryd.prog 76 #[.pointer (some ⟨b, 0, none⟩), .string s] w fun e w' => e = .returned (.tuple #[.int .i64 s.size, .nilIface]) ∧ Bd S b (.pointer (some ⟨b, 0, none⟩)) (bs ++ Lib.strCells s) w' ∧ Kp S b w w' ∧ Oth b w w' := by
  obtain ⟨i0, hi, hz0, hz1, hz2⟩ := info_parts bX.infoByte
  go_enter Tryd.func76, Tryd.ntmps76
  go_wp2_with fail
  refine (copy_world hp h hbS).mono ?_
  rintro e w1 ⟨rfl, h1, hk1, ho1⟩
  obtain ⟨v, hbk, hown⟩ := h1
  have hS1 : S ≤ w1.heap.size := Nat.le_trans hSw hk1.size
  have c0 : w1.cell? ⟨b, 0, none⟩ = some (.pointer (some ⟨b, 0, none⟩)) := by rw [Lib.cell_of_heap hbk]; rfl
  have c1 : w1.cell? ⟨b, 1, none⟩ = some v := by rw [Lib.cell_of_heap hbk]; rfl
  go_wp2_with (at_builtin; refine Lib.wpList_append_own_string _ rfl _ _ 110 9 rfl S 5 i0 Tryd.underlying110 Tryd.underlying9 hi hz0 hz1 hz2 _ _ _ rfl hown s rfl ?c3 ?c4 ?c5 ?_)
  case c3 => unfold maxLen; omega
  case c4 => omega
  case c5 => omega
  intro v' w2 hown' hgrow _
  have hlt : b < w1.heap.size := (Array.getElem?_eq_some_iff.1 hbk).1
  have hrow : ∀ g, v.ownBlock = some g → S ≤ g := fun g hg => by
    rcases hown.2 with ⟨rfl, _⟩ | ⟨g', cap, cur, rfl, q2, _⟩
    · cases hg
    · simp only [Value.ownBlock, Option.some.injEq] at hg
      omega
  have hrow' : ∀ g, v'.ownBlock = some g → S ≤ g := fun g hg => by
    rcases hown'.2 with ⟨rfl, _⟩ | ⟨g', cap, cur, rfl, q2, _⟩
    · cases hg
    · simp only [Value.ownBlock, Option.some.injEq] at hg
      omega
  have hkeep : ∀ k, k < S → w2.heap[k]? = w1.heap[k]? := fun k hk => hgrow.block k (by omega) (fun e => by have := hrow k e.symm; omega)
  have hb2 : w2.heap[b]? = some (.cells #[.pointer (some ⟨b, 0, none⟩), v] 155 (0, 0)) := (hkeep b hbS).trans hbk
  have d0 : w2.cell? ⟨b, 0, none⟩ = some (.pointer (some ⟨b, 0, none⟩)) := by rw [Lib.cell_of_heap hb2]; rfl
  have d1 : w2.cell? ⟨b, 1, none⟩ = some v := by rw [Lib.cell_of_heap hb2]; rfl
  have f1 : w2.frozen? ⟨b, 1, none⟩ = false := Lib.frozen_of_heap hb2 1
  obtain ⟨ao, n', cap, rfl⟩ : ∃ ao n' cap, v' = .slice ao n' cap := by
    rcases hown'.2 with ⟨hv, _⟩ | ⟨g, cap, cur, hv, _⟩
    · exact ⟨_, _, _, hv⟩
    · exact ⟨_, _, _, hv⟩
  have hoth : Oth b w w2 := fun k o h1 h2 h3 => by
    have h4 : w1.heap[k]? = some o := (ho1 k h2).trans h1
    rw [hgrow.block k (Array.getElem?_eq_some_iff.1 h4).1 (fun e => ?_)]
    · exact h4
    · rcases hown.2 with ⟨rfl, _⟩ | ⟨g', cap, cur, rfl, q2, q3, _⟩
      · cases e
      · simp only [Value.ownBlock, Option.some.injEq] at e
        subst e
        rw [h4] at q3
        exact h3 _ _ (Option.some.inj q3)
  have HO := Lib.hid hoth
  clear hoth ho1
  go_wp2
  go_ret2
  refine ⟨rfl, ⟨.slice ao n' cap, by simp [World.setCell, Array.getElem?_modify, hb2], ?_⟩, hk1.trans ⟨hgrow.os, hgrow.tape, hgrow.output, by simp only [World.setCell, Array.size_modify]; exact hgrow.size, fun k hk hne => (Below.heap_setCell _ _ _ _ (fun e => hne e)).trans (hkeep k hk)⟩, fun k o h1 h2 h3 => (Below.heap_setCell _ _ _ _ (fun e => h2 e)).trans (HO.out k o h1 h2 h3)⟩
  have e1 : (bs ++ Lib.strCells s).length = bs.length + s.size := by rw [List.length_append, Lib.strCells_length]
  rw [e1]
  refine ⟨hown'.1, ?_⟩
  rcases hown'.2 with q | ⟨g, cap', cur, q1, q2, q3, q4⟩
  · exact .inl q
  · exact .inr ⟨g, cap', cur, q1, q2, by rw [Below.heap_setCell _ _ _ _ (show g ≠ (⟨b, 1, none⟩ : Addr).block by simp only; omega)]; exact q3, q4⟩
end Go.Proofs.YtoiihalnbdehkaaDoor.B
