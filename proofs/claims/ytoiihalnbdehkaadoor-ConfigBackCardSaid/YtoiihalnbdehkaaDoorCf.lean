/-
  Layer 23: the number that a word is.
-/
import Derived.Test.YtoiihalnbdehkaaDoorCe
import Derived.Test.YtoiihalnbdehkaaDoorCa
import Derived.Test.YtoiihalnbdehkaaDoorCc
import Derived.Test.YtoiihalnbdehkaaDoorArK
import Derived.Test.YtoiihalnbdehkaaDoorArA
namespace Go.Proofs.YtoiihalnbdehkaaDoor.B
open Go Go.RowKit
set_option linter.unusedVariables false
set_option linter.unusedSimpArgs false
set_option maxRecDepth 100000
abbrev maxN : Nat := 9223372036854775807
theorem parse10_val : ∀ (l : List UInt8) (a : Nat), digs l = true → vlF a l ≤ maxN → Lib.parseUint10 a l = .ok (vlF a l)
  | [], a, _, _ => rfl
  | c :: l, a, hd, hv => by
    rw [digs, List.all_cons, Bool.and_eq_true, decide_eq_true_eq] at hd
    have h1 : vlF a (c :: l) = vlF (a * 10 + (c.toNat - 48)) l := rfl
    have h2 := vlF_ge l (a * 10 + (c.toNat - 48))
    unfold maxN at hv
    rw [h1] at hv ⊢
    rw [Lib.parseUint10, if_pos hd.1, if_neg (by omega), if_neg (by omega)]
    exact parse10_val l _ hd.2 hv
theorem atoi_dec {u : Nat} (hu : u ≤ maxN) : Lib.atoiAll (decL u) = .ok (u : Int) := by
  obtain ⟨⟨h1, h2, h3⟩, h4, _⟩ := decL_ok u
  have hv : vlF 0 (decL u) = u := h4
  have hp := parse10_val (decL u) 0 h1 (by rw [hv]; exact hu)
  rw [hv] at hp
  generalize decL u = l at h1 h2 hp
  cases l with
  | nil => exact absurd rfl h2
  | cons c r =>
    have hc : 48 ≤ c.toNat ∧ c.toNat ≤ 57 := by
      rw [digs, List.all_cons, Bool.and_eq_true, decide_eq_true_eq] at h1
      exact h1.1
    unfold maxN at hu
    simp only [Lib.atoiAll]
    rw [if_neg (by omega), Lib.parseMag, if_neg (by simp), hp]
    simp only
    rw [if_neg (by omega), if_neg (by omega), if_neg (by omega)]
theorem cnum_iff (l : List UInt8) (n : Int) : (Lib.atoiAll l = .ok n ∧ (wholeS n).data.toList = l ∧ 0 ≤ n) → numL maxN l = some n.toNat := by
  rintro ⟨h1, h2, h3⟩
  obtain ⟨b0, b1⟩ := Lib.atoiAll_bounds h1
  obtain ⟨u, rfl⟩ : ∃ u : Nat, n = u := ⟨n.toNat, by omega⟩
  rw [wholeS_nat] at h2
  subst h2
  rw [numL_dec (by unfold maxN; omega)]
  simp
theorem cnum_none {l : List UInt8} (h : ∀ n, Lib.atoiAll l = .ok n → (wholeS n).data.toList = l → ¬ 0 ≤ n) : numL maxN l = none := by
  unfold numL
  refine if_neg fun ⟨q1, q2⟩ => ?_
  have e := canon_dec l q1
  have ha := atoi_dec q2
  rw [e] at ha
  exact h _ ha (by rw [wholeS_nat]; exact e) (by omega)
structure ErrV (h : AHeap) : Prop where
  syn : ∃ m te, h[gv.strconv_ErrSyntax]? = some (.row m [.iface te undef])
  rng : ∃ m te, h[gv.strconv_ErrRange]? = some (.row m [.iface te undef])
theorem ErrV.pre {h h' : AHeap} (p : Pre h h') (k : ErrV h) : ErrV h' := ⟨let ⟨m, te, q⟩ := k.syn; ⟨m, te, get_pre p q⟩, let ⟨m, te, q⟩ := k.rng; ⟨m, te, get_pre p q⟩⟩
theorem iface_cell {μ : Ren} {h : AHeap} {w : World} {g : Nat} {m : Mode} {te : TypeId} (s : Sim nG μ h w) (hg : g < nG) (k : h[g]? = some (.row m [.iface te undef])) : ∃ ev, w.cell? ⟨g, 0, none⟩ = some ev ∧ (ev = .nilIface ∨ ∃ te pe, ev = .iface te pe) := by
  obtain ⟨n, hn⟩ := s.glob g hg
  obtain ⟨cs, t, fz, k1, k2, k3, k4⟩ := s.obj g _ _ hn k
  obtain ⟨z, z1, z2⟩ := k4 0 _ rfl
  cases z2
  exact ⟨_, by rw [cell_at k1]; exact z1, .inr ⟨_, _, rfl⟩⟩
theorem atoi_spec {h : AHeap} (k : ErrV h) {t : ByteArray} (hm : t.size ≤ 140737488351232) :
    ∃ (n : Int) (err : Value), Spec Tryd.prog nG fn.strconv_Atoi [.string t] h (.tuple #[.int .i64 n, err]) h ∧ ((err = .nilIface ∧ Lib.atoiAll t.data.toList = .ok n) ∨ ((∃ te, err = .iface te undef) ∧ ∀ u, Lib.atoiAll t.data.toList ≠ .ok u)) := by
  cases hp : Lib.atoiAll t.data.toList with
  | ok u => exact ⟨u, .nilIface, atoi_ok hm hp, .inl ⟨rfl, rfl⟩⟩
  | «syntax» =>
    refine ⟨0, .iface (Tryd.laysC172_ren.t 168) undef, fun μ w args' s l => ?_, .inr ⟨⟨_, rfl⟩, fun u q => by cases q⟩⟩
    rw [args_one l]
    obtain ⟨m, te, q⟩ := k.syn
    obtain ⟨ev, hv, hev⟩ := iface_cell s (by decide) q
    exact (Any.strconv_Atoi_syntax Tryd.laysC172 t (by omega) hp ev w hv hev).mono fun e w' ⟨N, he, _, _, hw⟩ => ⟨_, μ, he, vr_pair (.int _ _) (.iface _ (.any _)), Step.of_below s hw⟩
  | range =>
    refine ⟨Lib.atoiSat t.data.toList, .iface (Tryd.laysC172_ren.t 168) undef, fun μ w args' s l => ?_, .inr ⟨⟨_, rfl⟩, fun u q => by cases q⟩⟩
    rw [args_one l]
    obtain ⟨m, te, q⟩ := k.rng
    obtain ⟨ev, hv, hev⟩ := iface_cell s (by decide) q
    exact (Any.strconv_Atoi_range Tryd.laysC172 t (by omega) hp ev w hv hev).mono fun e w' ⟨N, he, _, _, hw⟩ => ⟨_, μ, he, vr_pair (.int _ _) (.iface _ (.any _)), Step.of_below s hw⟩
theorem cnumber_spec {h : AHeap} (k : ErrV h) (hg : PowV h) {t : ByteArray} (hm : t.size ≤ 140737488351232) :
    ∃ (n : Int) (ok : Bool), Spec Tryd.prog nG fn.config_number [.string t] h (.tuple #[.int .i64 n, .bool ok]) h ∧ ((ok = true ∧ 0 ≤ n ∧ numL maxN t.data.toList = some n.toNat) ∨ (ok = false ∧ numL maxN t.data.toList = none)) := by
  obtain ⟨n, err, hs, hq⟩ := atoi_spec k hm
  rcases hq with ⟨rfl, hp⟩ | ⟨⟨te, rfl⟩, hp⟩
  · obtain ⟨b0, b1⟩ := Lib.atoiAll_bounds hp
    obtain ⟨b, hb⟩ : ∃ b, ((wholeS n).toList == t.toList) = b := ⟨_, rfl⟩
    have hb2 : (b = true → (wholeS n).data.toList = t.data.toList) ∧ (b = false → (wholeS n).data.toList ≠ t.data.toList) := by
      rw [ByteArray.toList_eq, ByteArray.toList_eq] at hb
      subst hb
      exact ⟨fun q => by simpa using q, fun q => by simpa using q⟩
    cases b with
    | false =>
      refine ⟨n, false, ?_, .inr ⟨rfl, cnum_none fun m h1 h2 => ?_⟩⟩
      · apply ir.config_number.spec (Nat.le_of_ble_eq_true rfl)
        simp (dsimp := false) only [↓ir.config_number.bw, ir.config_number.rs, go_sem, Nat.reduceAdd, Nat.reduceEqDiff, Nat.reduceMul, Nat.reduceLeDiff, Nat.reduceSub, Nat.reduceLT, ↓reduceIte, reduceCtorEq, List.reduceReplicate, List.flatten_cons, List.flatten_nil, List.append_nil, eq_self, Int.reduceLE, Int.reduceLT, Int.reduceToNat, Nat.min_eq_left, Int.reducePow, Int.reduceNeg, Int.reduceEq]
        refine callV_of hs ?_
        simp (dsimp := false) only [go_sem, Nat.reduceAdd, Nat.reduceEqDiff, Nat.reduceMul, Nat.reduceLeDiff, Nat.reduceSub, Nat.reduceLT, ↓reduceIte, reduceCtorEq, List.reduceReplicate, List.flatten_cons, List.flatten_nil, List.append_nil, eq_self, Int.reduceLE, Int.reduceLT, Int.reduceToNat, Nat.min_eq_left, Int.reducePow, Int.reduceNeg, Int.reduceEq]
        refine callV_of (itoa_spec hg ⟨b0, b1⟩) ?_
        simp (dsimp := false) only [go_sem, Nat.reduceAdd, Nat.reduceEqDiff, Nat.reduceMul, Nat.reduceLeDiff, Nat.reduceSub, Nat.reduceLT, ↓reduceIte, reduceCtorEq, List.reduceReplicate, List.flatten_cons, List.flatten_nil, List.append_nil, eq_self, Int.reduceLE, Int.reduceLT, Int.reduceToNat, Nat.min_eq_left, Int.reducePow, Int.reduceNeg, Int.reduceEq, hb]
        exact .inl ⟨rfl, rfl⟩
      · rw [hp] at h1
        obtain rfl : n = m := by simpa using h1
        exact absurd h2 (hb2.2 rfl)
    | true =>
      by_cases h0 : 0 ≤ n
      · refine ⟨n, true, ?_, .inl ⟨rfl, h0, cnum_iff _ _ ⟨hp, hb2.1 rfl, h0⟩⟩⟩
        apply ir.config_number.spec (Nat.le_of_ble_eq_true rfl)
        simp (dsimp := false) only [↓ir.config_number.bw, ir.config_number.rs, go_sem, Nat.reduceAdd, Nat.reduceEqDiff, Nat.reduceMul, Nat.reduceLeDiff, Nat.reduceSub, Nat.reduceLT, ↓reduceIte, reduceCtorEq, List.reduceReplicate, List.flatten_cons, List.flatten_nil, List.append_nil, eq_self, Int.reduceLE, Int.reduceLT, Int.reduceToNat, Nat.min_eq_left, Int.reducePow, Int.reduceNeg, Int.reduceEq]
        refine callV_of hs ?_
        simp (dsimp := false) only [go_sem, Nat.reduceAdd, Nat.reduceEqDiff, Nat.reduceMul, Nat.reduceLeDiff, Nat.reduceSub, Nat.reduceLT, ↓reduceIte, reduceCtorEq, List.reduceReplicate, List.flatten_cons, List.flatten_nil, List.append_nil, eq_self, Int.reduceLE, Int.reduceLT, Int.reduceToNat, Nat.min_eq_left, Int.reducePow, Int.reduceNeg, Int.reduceEq]
        refine callV_of (itoa_spec hg ⟨b0, b1⟩) ?_
        simp (dsimp := false) only [go_sem, Nat.reduceAdd, Nat.reduceEqDiff, Nat.reduceMul, Nat.reduceLeDiff, Nat.reduceSub, Nat.reduceLT, ↓reduceIte, reduceCtorEq, List.reduceReplicate, List.flatten_cons, List.flatten_nil, List.append_nil, eq_self, Int.reduceLE, Int.reduceLT, Int.reduceToNat, Nat.min_eq_left, Int.reducePow, Int.reduceNeg, Int.reduceEq, hb, ge_iff_le, h0, decide_true]
        exact .inl ⟨rfl, rfl⟩
      · refine ⟨n, false, ?_, .inr ⟨rfl, cnum_none fun m h1 h2 => ?_⟩⟩
        · apply ir.config_number.spec (Nat.le_of_ble_eq_true rfl)
          simp (dsimp := false) only [↓ir.config_number.bw, ir.config_number.rs, go_sem, Nat.reduceAdd, Nat.reduceEqDiff, Nat.reduceMul, Nat.reduceLeDiff, Nat.reduceSub, Nat.reduceLT, ↓reduceIte, reduceCtorEq, List.reduceReplicate, List.flatten_cons, List.flatten_nil, List.append_nil, eq_self, Int.reduceLE, Int.reduceLT, Int.reduceToNat, Nat.min_eq_left, Int.reducePow, Int.reduceNeg, Int.reduceEq]
          refine callV_of hs ?_
          simp (dsimp := false) only [go_sem, Nat.reduceAdd, Nat.reduceEqDiff, Nat.reduceMul, Nat.reduceLeDiff, Nat.reduceSub, Nat.reduceLT, ↓reduceIte, reduceCtorEq, List.reduceReplicate, List.flatten_cons, List.flatten_nil, List.append_nil, eq_self, Int.reduceLE, Int.reduceLT, Int.reduceToNat, Nat.min_eq_left, Int.reducePow, Int.reduceNeg, Int.reduceEq]
          refine callV_of (itoa_spec hg ⟨b0, b1⟩) ?_
          simp (dsimp := false) only [go_sem, Nat.reduceAdd, Nat.reduceEqDiff, Nat.reduceMul, Nat.reduceLeDiff, Nat.reduceSub, Nat.reduceLT, ↓reduceIte, reduceCtorEq, List.reduceReplicate, List.flatten_cons, List.flatten_nil, List.append_nil, eq_self, Int.reduceLE, Int.reduceLT, Int.reduceToNat, Nat.min_eq_left, Int.reducePow, Int.reduceNeg, Int.reduceEq, hb, ge_iff_le, h0, decide_false]
          exact .inl ⟨rfl, rfl⟩
        · rw [hp] at h1
          obtain rfl : n = m := by simpa using h1
          exact h0
  · refine ⟨n, false, ?_, .inr ⟨rfl, cnum_none fun m h1 h2 => absurd h1 (hp m)⟩⟩
    apply ir.config_number.spec (Nat.le_of_ble_eq_true rfl)
    simp (dsimp := false) only [↓ir.config_number.bw, ir.config_number.rs, go_sem, Nat.reduceAdd, Nat.reduceEqDiff, Nat.reduceMul, Nat.reduceLeDiff, Nat.reduceSub, Nat.reduceLT, ↓reduceIte, reduceCtorEq, List.reduceReplicate, List.flatten_cons, List.flatten_nil, List.append_nil, eq_self, Int.reduceLE, Int.reduceLT, Int.reduceToNat, Nat.min_eq_left, Int.reducePow, Int.reduceNeg, Int.reduceEq]
    refine callV_of hs ?_
    simp (dsimp := false) only [go_sem, Nat.reduceAdd, Nat.reduceEqDiff, Nat.reduceMul, Nat.reduceLeDiff, Nat.reduceSub, Nat.reduceLT, ↓reduceIte, reduceCtorEq, List.reduceReplicate, List.flatten_cons, List.flatten_nil, List.append_nil, eq_self, Int.reduceLE, Int.reduceLT, Int.reduceToNat, Nat.min_eq_left, Int.reducePow, Int.reduceNeg, Int.reduceEq]
    exact .inl ⟨rfl, rfl⟩
end Go.Proofs.YtoiihalnbdehkaaDoor.B
/-
  Layer 23: what the rules of a text are, as plain functions; which lines were seen, as a map of names.
-/
namespace Go.Proofs.YtoiihalnbdehkaaDoor.B
open Go
set_option linter.unusedVariables false
set_option linter.unusedSimpArgs false
set_option maxRecDepth 100000
abbrev slotL (w : Nat) : List UInt8 := (slotN w).data.toList
def which (a : List UInt8) : Option Nat := (List.range 15).find? fun w => decide (slotL w = a)
inductive LR where
  | skip
  | bad (name : List UInt8) (e : Int)
  | put (w : Nat) (n : Int)
/-- A line. -/
noncomputable def lineF (A : List Int) (ln : List UInt8) : LR :=
  if ln = [] ∨ ln.head? = some 35 then .skip
  else match cutL 32 ln with
    | none => .bad ln 10
    | some (a, b) => match numL maxN b with
      | none => .bad a 10
      | some n => match which a with
        | none => .bad a 6
        | some w => if 0 < A.getD w 0 then .bad a 7 else .put w n
inductive PR where
  | bad (line : Int) (name : List UInt8) (e : Int)
  | fin (R A : List Int)
noncomputable def linesF : Nat → List (List UInt8) → List Int → List Int → PR
  | _, [], R, A => .fin R A
  | i, ln :: r, R, A => match lineF A ln with
    | .skip => linesF (i + 1) r R A
    | .bad a e => .bad ((i : Int) + 1) a e
    | .put w n => linesF (i + 1) r (R.set w n) (A.set w ((i : Int) + 1))
def rul0 : List Int := [0, 0, 0, 0, 0, 0, 0, 0, 0, 0, 0, 0, 0, 0, 0]
def rulD : List Int := [4, 6, 3, 4, 32, 200, 60, 20000, 6000, 6, 60, 10, 2, 700, 20]
open Classical in
noncomputable def firstBad (R : List Int) : Option Nat := (List.range 15).find? fun i => decide (¬ goodI i (R.getD i 0))
structure CfgR where
  R : List Int
  line : Int
  name : List UInt8
  err : Int
noncomputable def endF (R A : List Int) : CfgR := match firstBad R with
  | some i => ⟨rul0, A.getD i 0, slotL i, 30⟩
  | none => ⟨R, 0, [], 0⟩
noncomputable def parseF (t : List UInt8) : CfgR :=
  if 4096 < t.length then ⟨rul0, 0, [], 8⟩
  else match linesF 0 (splitL 10 t) rulD rul0 with
    | .bad line name e => ⟨rul0, line, name, e⟩
    | .fin R A => endF R A
abbrev misC (line : Int) (name : List UInt8) (e : Int) : List Value := [.int .i64 line, sV name, .int .i64 e]
abbrev resV (x : CfgR) : Value := .tuple #[.agg ⟨rulC x.R⟩, .agg ⟨misC x.line x.name x.err⟩]
theorem slotL_inj : ∀ a b : Nat, a < 15 → b < 15 → slotL a = slotL b → a = b := by
  have : ∀ a : Nat, a < 15 → ∀ b : Nat, b < 15 → slotL a = slotL b → a = b := by decide +kernel
  exact fun a b ha hb => this a ha b hb
theorem which_some {a : List UInt8} {w : Nat} (hw : w < 15) (h : slotL w = a) : which a = some w := by
  unfold which
  rw [List.find?_eq_some_iff_getElem]
  refine ⟨by simpa using h, w, by simpa using hw, by simp, fun j hj => ?_⟩
  simp only [List.getElem_range, Bool.not_eq_true', decide_eq_false_iff_not]
  intro e
  exact absurd (slotL_inj j w (by omega) hw (e.trans h.symm)) (by omega)
theorem which_none {a : List UInt8} (h : ∀ w, w < 15 → slotL w ≠ a) : which a = none := by
  unfold which
  rw [List.find?_eq_none]
  intro w hw
  simpa using h w (by simpa using hw)
theorem firstBad_some {R : List Int} {i : Nat} (hi : i < 15) (h : ¬ goodI i (R.getD i 0)) (h2 : ∀ j, j < i → goodI j (R.getD j 0)) : firstBad R = some i := by
  unfold firstBad
  rw [List.find?_eq_some_iff_getElem]
  refine ⟨by simpa using h, i, by simpa using hi, by simp, fun j hj => ?_⟩
  simpa using h2 j hj
theorem firstBad_none {R : List Int} (h2 : ∀ j, j < 15 → goodI j (R.getD j 0)) : firstBad R = none := by
  unfold firstBad
  rw [List.find?_eq_none]
  intro w hw
  simpa using h2 w (by simpa using hw)
/-- The lines that were seen, as the program's map. -/
def encS (kc : List (Int × Value)) : List (Value × Value) := kc.map fun p => (.string (slotN p.1.toNat), p.2)
def KeyOK (kc : List (Int × Value)) : Prop := ∀ p ∈ kc, 0 ≤ p.1 ∧ p.1 < 15
theorem findIx_S {w : Nat} (hw : w < 15) : ∀ {kc : List (Int × Value)}, KeyOK kc → findIx 1 (.string (slotN w)) (encS kc) = some (ixM (w : Int) kc)
  | [], _ => rfl
  | p :: r, k => by
    have ih := findIx_S hw (kc := r) fun q hq => k q (by simp [hq])
    obtain ⟨k0, k1⟩ := k p (by simp)
    simp only [encS, List.map_cons, findIx, keyEqS] at ih ⊢
    rw [ByteArray.toList_eq, ByteArray.toList_eq]
    by_cases e : (w : Int) = p.1
    · have e2 : p.1.toNat = w := by omega
      rw [e2]
      simp [e, ixM]
    · have e2 : slotL w ≠ slotL p.1.toNat := fun q => by
        have := slotL_inj w p.1.toNat hw (by omega) q
        omega
      have : ((slotN w).data.toList == (slotN p.1.toNat).data.toList) = false := by simpa using e2
      rw [this]
      simp only
      rw [ih]
      simp [ixM, e]
theorem findV_S {w : Nat} (hw : w < 15) {kc : List (Int × Value)} (k : KeyOK kc) : findV 1 (.string (slotN w)) (encS kc) = some (getM (w : Int) kc) := by
  unfold findV getM
  rw [findIx_S hw k]
  simp only [Option.map_some, encS, List.getElem?_map]
  cases ixM (w : Int) kc with
  | none => rfl
  | some i => simp only [Option.bind_some]; cases kc[i]? <;> rfl
theorem setEs_S {w : Nat} (hw : w < 15) (v : Value) {kc : List (Int × Value)} (k : KeyOK kc) : setEs 1 (.string (slotN w)) v (encS kc) = some (encS (putM (w : Int) v kc)) := by
  unfold setEs putM
  rw [findIx_S hw k]
  cases ixM (w : Int) kc with
  | none => simp [encS]
  | some i => simp [encS]
theorem KeyOK.put {w : Nat} (hw : w < 15) {v : Value} {kc : List (Int × Value)} (k : KeyOK kc) : KeyOK (putM (w : Int) v kc) := by
  unfold putM
  cases ixM (w : Int) kc with
  | none =>
    intro p hp
    rcases List.mem_append.1 hp with q | q
    · exact k p q
    · obtain rfl : p = _ := by simpa using q
      exact ⟨by simp, by simp; omega⟩
  | some i =>
    intro p hp
    rcases List.mem_or_eq_of_mem_set hp with q | q
    · exact k p q
    · subst q
      exact ⟨by simp, by simp; omega⟩
/-- The map tells of the lines. -/
structure Seen (kc : List (Int × Value)) (A : List Int) : Prop where
  keys : KeyOK kc
  len : A.length = 15
  pos : ∀ w : Nat, 0 ≤ A.getD w 0
  at_ : ∀ w : Nat, w < 15 → getM (w : Int) kc = if A.getD w 0 = 0 then none else some (.int .i64 (A.getD w 0))
theorem rul0_at (w : Nat) : rul0.getD w 0 = 0 := by
  unfold rul0
  match w with
  | 0 | 1 | 2 | 3 | 4 | 5 | 6 | 7 | 8 | 9 | 10 | 11 | 12 | 13 | 14 => rfl
  | n + 15 => rfl
theorem Seen.start : Seen [] rul0 := by
  refine ⟨fun p hp => (by cases hp), rfl, fun w => (by rw [rul0_at]; omega), fun w hw => ?_⟩
  rw [rul0_at, if_pos rfl]; rfl
theorem getD_set {L : List Int} {w v : Nat} {x : Int} (hw : w < L.length) : (L.set w x).getD v 0 = if v = w then x else L.getD v 0 := by
  simp only [List.getD_eq_getElem?_getD, List.getElem?_set]
  by_cases e : v = w
  · subst e; simp [hw]
  · rw [if_neg (fun q => e q.symm), if_neg e]
theorem Seen.put {kc : List (Int × Value)} {A : List Int} (k : Seen kc A) {w : Nat} (hw : w < 15) {x : Int} (hx : 0 < x) : Seen (putM (w : Int) (.int .i64 x) kc) (A.set w x) := by
  refine ⟨k.keys.put hw, by simpa using k.len, fun v => ?_, fun v hv => ?_⟩
  · rw [getD_set (by rw [k.len]; exact hw)]
    split
    · omega
    · exact k.pos v
  · rw [getM_put, getD_set (by rw [k.len]; exact hw)]
    by_cases e : v = w
    · subst e
      rw [if_pos rfl, if_pos rfl, if_neg (by omega)]
    · rw [if_neg (by omega), if_neg e]
      exact k.at_ v hv
theorem Seen.look {kc : List (Int × Value)} {A : List Int} (k : Seen kc A) {w : Nat} (hw : w < 15) {h : AHeap} {b : Nat} (hm : h[b]? = some (.map true (encS kc))) {K : Value → AHeap → Prop} {u : Hold K} :
    lookupV 1 (.int .i64 0) false (.map (some b)) (.string (slotN w)) h K u = K (.int .i64 (A.getD w 0)) h := by
  unfold lookupV
  simp only [mapEs, hm, Option.bind_some, findV_S hw k.keys, optV, lookV, k.at_ w hw]
  by_cases e : A.getD w 0 = 0
  · rw [if_pos e, e]; rfl
  · rw [if_neg e]; rfl
theorem Seen.store {kc : List (Int × Value)} {A : List Int} (k : Seen kc A) {w : Nat} (hw : w < 15) {h : AHeap} {b : Nat} (hm : h[b]? = some (.map true (encS kc))) {v : Value} {K : Value → AHeap → Prop} {u : Hold K} :
    mapsetV 1 (.map (some b)) (.string (slotN w)) v h K u = K undef (h.set b (.map true (encS (putM (w : Int) v kc)))) := by
  rw [mapsetV_map]
  simp only [mapAt, hm, Option.bind_some, setEs_S hw v k.keys, optV]
/-- The last operation, ordered behind all others, comes last. -/
theorem wpA_last {P : Program} {G : Nat} {l : List GI} {d : Option Nat} {ins : I} {preds : List (List Nat)} {e : Env} {h : AHeap} {K : Env → AHeap → Prop} (hp : ∀ j, j < l.length ↔ j ∈ preds.getD l.length [])
    (k : wpA P G l preds l.length (List.replicate l.length false) e h fun e' h' => wpI P G ins (look e') h' fun v h'' => K (putE e' d v) h'') :
    wpA P G (l ++ [⟨d, ins, none⟩]) preds (l.length + 1) (List.replicate (l.length + 1) false) e h K := by
  have main : ∀ (n : Nat) (dn : List Bool) (e : Env) (h : AHeap), dn.length = l.length → dn.count false = n → wpA P G l preds n dn e h (fun e' h' => wpI P G ins (look e') h' fun v h'' => K (putE e' d v) h'') →
      wpA P G (l ++ [⟨d, ins, none⟩]) preds (n + 1) (dn ++ [false]) e h K := by
    intro n
    induction n with
    | zero =>
      intro dn e h hl hc hk
      obtain ⟨hr, hk⟩ := hk
      have all : ∀ i : Nat, i < dn.length → dn[i]? = some true := fun i hi => by
        rw [List.getElem?_eq_getElem hi]
        cases q : dn[i] with
        | true => rfl
        | false =>
          have : 0 < dn.count false := List.count_pos_iff.2 (by rw [← q]; exact List.getElem_mem hi)
          omega
      have mem : ∀ i, i ∈ readyL preds (dn ++ [false]) ↔ i = l.length := fun i => by
        unfold readyL
        rw [List.mem_filter, List.mem_range, Bool.and_eq_true, List.all_eq_true]
        constructor
        · rintro ⟨h1, h2, _⟩
          simp only [List.length_append, List.length_singleton] at h1
          by_cases q : i < dn.length
          · simp [List.getD, List.getElem?_append_left q, all i q] at h2
          · omega
        · rintro rfl
          refine ⟨by simp [hl], by simp [List.getD, List.getElem?_append_right, hl], fun j hj => ?_⟩
          have hj' := (hp j).2 hj
          simp [List.getD, List.getElem?_append_left (by omega : j < dn.length), all j (by omega)]
      refine ⟨fun q => ?_, allL_of fun i hi => ?_⟩
      · have := (mem l.length).2 rfl
        rw [q] at this
        cases this
      · obtain rfl := (mem i).1 hi
        simp only [List.getElem?_append_right (Nat.le_refl _), Nat.sub_self, List.getElem?_cons_zero]
        refine wpI_mono (fun v h' q => ⟨?_, q⟩) hk
        unfold readyL
        rw [List.filter_eq_nil_iff]
        intro j hj
        simp only [List.length_set, List.length_append, List.length_singleton, List.mem_range] at hj
        by_cases q : j < dn.length
        · have : ((dn ++ [false]).set l.length true)[j]? = some true := by rw [List.getElem?_set_ne (by omega), List.getElem?_append_left q, all j q]
          simp [List.getD, this]
        · obtain rfl : j = l.length := by omega
          have : ((dn ++ [false]).set l.length true)[l.length]? = some true := List.getElem?_set_self (by simp [hl])
          simp [List.getD, this]
    | succ n ih =>
      intro dn e h hl hc hk
      obtain ⟨hr, hk⟩ := hk
      obtain ⟨z, hz, hzf⟩ : ∃ z : Nat, z < dn.length ∧ dn[z]? = some false := by
        have : 0 < dn.count false := by omega
        obtain ⟨i, hi, h⟩ := List.getElem_of_mem (List.count_pos_iff.1 this)
        exact ⟨i, hi, by rw [List.getElem?_eq_getElem hi, h]⟩
      have eqr : readyL preds (dn ++ [false]) = readyL preds dn := by
        unfold readyL
        rw [List.length_append, List.length_singleton, List.range_succ, List.filter_append]
        have e1 : (List.filter (fun i => !(dn ++ [false]).getD i true && (preds.getD i []).all fun j => (dn ++ [false]).getD j false) [dn.length]) = [] := by
          rw [List.filter_eq_nil_iff]
          intro i hi
          obtain rfl : i = dn.length := by simpa using hi
          rw [Bool.and_eq_true, List.all_eq_true]
          rintro ⟨_, h2⟩
          have := h2 z (by rw [hl]; exact (hp z).1 (by omega))
          simp [List.getD, List.getElem?_append_left hz, hzf] at this
        rw [e1, List.append_nil]
        refine List.filter_congr fun i hi => ?_
        rw [List.mem_range] at hi
        have e2 : (dn ++ [false]).getD i true = dn.getD i true := by simp [List.getD, List.getElem?_append_left hi]
        have e3 : ((preds.getD i []).all fun j => (dn ++ [false]).getD j false) = (preds.getD i []).all fun j => dn.getD j false := by
          refine List.all_congr rfl fun j => ?_
          by_cases q : j < dn.length
          · simp [List.getD, List.getElem?_append_left q]
          · rw [List.getD_eq_getElem?_getD, List.getD_eq_getElem?_getD, List.getElem?_eq_none (l := dn) (by omega)]
            by_cases q2 : j = dn.length
            · subst q2; simp
            · rw [List.getElem?_eq_none (by simp; omega)]
        rw [e2, e3]
      rw [wpA, eqr]
      refine ⟨hr, allL_of fun i hi => ?_⟩
      have hki := allL_mem hk i hi
      have hid : i < dn.length := by
        unfold readyL at hi
        rw [List.mem_filter, List.mem_range] at hi
        exact hi.1
      have hif : dn[i]? = some false := by
        unfold readyL at hi
        rw [List.mem_filter, Bool.and_eq_true] at hi
        have := hi.2.1
        rw [List.getElem?_eq_getElem hid]
        simp only [List.getD, List.getElem?_eq_getElem hid, Option.getD_some] at this
        cases q : dn[i] with
        | false => rfl
        | true => rw [q] at this; cases this
      rw [List.getElem?_append_left (by omega)]
      split at hki
      · rename_i d2 ins2 hli
        first | rw [hli] | skip
        refine wpI_mono (fun v h' q => ?_) hki
        have := ih (dn.set i true) (putE e d2 v) h' (by simpa using hl) (by have := cnt_set hif; omega) q
        rwa [List.set_append_left _ _ hid]
      · exact hki.elim
  have := main l.length (List.replicate l.length false) e h (by simp) (by simp) k
  rwa [← List.replicate_succ'] at this
end Go.Proofs.YtoiihalnbdehkaaDoor.B
/-
  Layer 23: the rules of a text, in the program.
-/
namespace Go.Proofs.YtoiihalnbdehkaaDoor.B
open Go
set_option linter.unusedVariables false
set_option linter.unusedSimpArgs false
set_option maxRecDepth 100000
theorem default_spec (h : AHeap) : Spec Tryd.prog nG fn.config_Default [] h (.agg ⟨rulC rulD⟩) h := by
  apply ir.config_Default.spec (Nat.le_of_ble_eq_true rfl)
  simp (dsimp := false) only [↓ir.config_Default.bw, ir.config_Default.rs, go_sem, Nat.reduceAdd, Nat.reduceEqDiff, Nat.reduceMul, Nat.reduceLeDiff, Nat.reduceSub, Nat.reduceLT, ↓reduceIte, reduceCtorEq, List.reduceReplicate, List.flatten_cons, List.flatten_nil, List.append_nil, eq_self, Int.reduceLE, Int.reduceLT, Int.reduceToNat, Nat.min_eq_left, Int.reducePow, Int.reduceNeg, Int.reduceEq]
  exact Fin.agg rfl rfl
/-- What stands behind the first line: results, rules, the map. -/
structure PSt (h h2 : AHeap) (R A : List Int) (kc : List (Int × Value)) : Prop where
  pre : Pre h h2
  f2 : Fx h2 h.length (rulC rul0)
  f3 : Fx h2 (h.length + 1) (misC 0 [] 0)
  f4 : Fx h2 (h.length + 2) (rulC R)
  m5 : h2[h.length + 3]? = some (.map true (encS kc))
  len : R.length = 15
  seen : Seen kc A
section
variable {h h2 : AHeap} {R A : List Int} {kc : List (Int × Value)}
theorem PSt.app (k : PSt h h2 R A kc) {h3 : AHeap} (p : Pre h2 h3) : PSt h h3 R A kc := ⟨k.pre.trans p, k.f2.pre p, k.f3.pre p, k.f4.pre p, get_pre p k.m5, k.len, k.seen⟩
end
theorem rulC_len (L : List Int) : (rulC L).length = L.length := by simp [rulC]
theorem rulC_one (L : List Int) : (rulC L).all oneA = true := by simp [rulC, oneA]
theorem rulC_set (L : List Int) (i : Nat) (x : Int) : setC (rulC L) i [.int .i64 x] = rulC (L.set i x) := by
  rw [setC_cons, setC_nil, rulC, rulC, List.map_set]
theorem misC_set (a b c : Value) (a' b' c' : Value) : setC [a, b, c] 0 [a', b', c'] = [a', b', c'] := rfl
/-- What ends the function: its two results, written. -/
theorem PSt.out {h h2 : AHeap} {R A : List Int} {kc : List (Int × Value)} (k : PSt h h2 R A kc) {L : List Int} (hL : L.length = 15) (x y z : Value) : ∃ h3 h4, wrs h2 h.length 0 (rulC L) = some h3 ∧ wrs h3 (h.length + 1) 0 [x, y, z] = some h4 ∧ rds h4 h.length 0 15 = some (rulC L) ∧ rds h4 (h.length + 1) 0 3 = some [x, y, z] ∧ Pre h h4 := by
  have e1 : setC (rulC rul0) 0 (rulC L) = rulC L := by
    rw [setC_eq (by rw [rulC_len, rulC_len, hL]; decide), List.take_zero, List.nil_append, List.drop_of_length_le (by rw [rulC_len, rulC_len, hL]; decide), List.append_nil]
  have w1 := k.f2.wr (off := 0) (vs := rulC L) (by rw [rulC_len, rulC_len, hL]; decide)
  rw [e1] at w1
  have g3 := k.f3.other (show h.length ≠ h.length + 1 by omega) (.row .fix (rulC L))
  have w2 := g3.wr (off := 0) (vs := [x, y, z]) (by simp)
  have g2 := (k.f2.set (rulC L)).other (show h.length + 1 ≠ h.length by omega) (.row .fix (setC (misC 0 [] 0) 0 [x, y, z]))
  refine ⟨_, _, w1, w2, g2.rd (by rw [List.drop_zero, List.take_of_length_le (by rw [rulC_len, hL]; exact Nat.le_refl _)]) (by rw [rulC_len, hL]; exact Nat.le_refl _), (g3.set _).rd rfl (by simp [misC, setC_cons, setC_nil]), (k.pre.put (Nat.le_refl _) _).put (by omega) _⟩
theorem splitL_mem {c : UInt8} : ∀ {l ln : List UInt8}, ln ∈ splitL c l → ln.length ≤ l.length
  | [], ln, h => by
    obtain rfl : ln = [] := by simpa [splitL] using h
    exact Nat.le_refl _
  | x :: r, ln, h => by
    rw [splitL] at h
    split at h
    · rcases List.mem_cons.1 h with rfl | h
      · exact Nat.zero_le _
      · have := splitL_mem h
        simp; omega
    · split at h
      · obtain rfl : ln = [x] := by simpa using h
        simp
      · rename_i p ps hq
        rcases List.mem_cons.1 h with rfl | h
        · have := splitL_mem (c := c) (l := r) (ln := p) (by rw [hq]; simp)
          simp; omega
        · have := splitL_mem (c := c) (l := r) (ln := ln) (by rw [hq]; simp [h])
          simp; omega
theorem Ow.nmap {h0 h : AHeap} {sz n b : Nat} {v : Value} {cs : List Value} {es : List (Value × Value)} (k : Ow h0 h sz v n cs) (f : h[b]? = some (.map true es)) : v = nilS ∨ b ≠ sb v := by
  rcases k.gr with q | ⟨_, m, cells, q⟩
  · exact .inl q
  · refine .inr fun e => ?_
    subst e
    rw [f] at q
    cases q
theorem PSt.step {h h2 : AHeap} {R A : List Int} {kc : List (Int × Value)} (k : PSt h h2 R A kc) {j : Nat} (hj : j < 15) (n : Int) {x : Int} (hx : 0 < x) :
    PSt h ((h2.set (h.length + 2) (.row .fix (rulC (R.set j n)))).set (h.length + 3) (.map true (encS (putM (j : Int) (.int .i64 x) kc)))) (R.set j n) (A.set j x) (putM (j : Int) (.int .i64 x) kc) := by
  have hlt := (List.getElem?_eq_some_iff.1 k.m5).1
  refine ⟨(k.pre.put (by omega) _).put (by omega) _, (k.f2.other (by omega) _).other (by omega) _, (k.f3.other (by omega) _).other (by omega) _, (k.f4.set _).other (by omega) _, ?_, by simpa using k.len, k.seen.put hj hx⟩
  rw [List.getElem?_set_self (by simpa using hlt)]
theorem bytes_eq {a b : ByteArray} (h : a.data.toList = b.data.toList) : a = b := ByteArray.ext (Array.toList_inj.1 h)
theorem parse_spec {h : AHeap} (k : ErrV h) (hg : PowG h) {t : ByteArray} (hm : t.size ≤ 140737488351232) : SpecX Tryd.prog nG fn.config_Parse [.string t] h fun v' h' => Pre h h' ∧ v' = resV (parseF t.data.toList) := by
  refine SpecX.of_body (ir.config_Parse.spec (Nat.le_of_ble_eq_true rfl)) ?_
  have htl : t.data.toList.length = t.size := Array.length_toList
  have e1 : (rulC rulD).length = 15 := rfl
  have e2 := rulC_one rulD
  have e3 : setC [Value.int .i64 0, .int .i64 0, .int .i64 0, .int .i64 0, .int .i64 0, .int .i64 0, .int .i64 0, .int .i64 0, .int .i64 0, .int .i64 0, .int .i64 0, .int .i64 0, .int .i64 0, .int .i64 0, .int .i64 0] 0 (rulC rulD) = rulC rulD := rfl
  simp (dsimp := false) only [↓ir.config_Parse.bw, ir.config_Parse.rs, go_sem, Nat.reduceAdd, Nat.reduceEqDiff, Nat.reduceMul, Nat.reduceLeDiff, Nat.reduceSub, Nat.reduceLT, ↓reduceIte, reduceCtorEq, List.reduceReplicate, List.flatten_cons, List.flatten_nil, List.append_nil, eq_self, Int.reduceLE, Int.reduceLT, Int.reduceToNat, Nat.min_eq_left, Int.reducePow, Int.reduceNeg, Int.reduceEq]
  refine callV_of (default_spec _) ?_
  simp (dsimp := false) only [go_sem, Nat.reduceAdd, Nat.reduceEqDiff, Nat.reduceMul, Nat.reduceLeDiff, Nat.reduceSub, Nat.reduceLT, ↓reduceIte, reduceCtorEq, List.reduceReplicate, List.flatten_cons, List.flatten_nil, List.append_nil, eq_self, Int.reduceLE, Int.reduceLT, Int.reduceToNat, Nat.min_eq_left, Int.reducePow, Int.reduceNeg, Int.reduceEq, e1, e2, e3, Option.map_some, Nat.le_refl, gt_iff_lt]
  refine cVd (fun c => ?_) (fun c => ?_)
  · have hf : parseF t.data.toList = ⟨rul0, 0, [], 8⟩ := by unfold parseF; exact if_pos (by omega)
    simp (dsimp := false) only [go_sem, Nat.reduceAdd, Nat.reduceEqDiff, Nat.reduceMul, Nat.reduceLeDiff, Nat.reduceSub, Nat.reduceLT, ↓reduceIte, reduceCtorEq, List.reduceReplicate, List.flatten_cons, List.flatten_nil, List.append_nil, eq_self, Int.reduceLE, Int.reduceLT, Int.reduceToNat, Nat.min_eq_left, Int.reducePow, Int.reduceNeg, Int.reduceEq]
    rw [hf]
    rfl
  have hf : parseF t.data.toList = match linesF 0 (splitL 10 t.data.toList) rulD rul0 with
    | .bad line name e => ⟨rul0, line, name, e⟩
    | .fin R A => endF R A := by unfold parseF; exact if_neg (by omega)
  simp (dsimp := false) only [go_sem, Nat.reduceAdd, Nat.reduceEqDiff, Nat.reduceMul, Nat.reduceLeDiff, Nat.reduceSub, Nat.reduceLT, ↓reduceIte, reduceCtorEq, List.reduceReplicate, List.flatten_cons, List.flatten_nil, List.append_nil, eq_self, Int.reduceLE, Int.reduceLT, Int.reduceToNat, Nat.min_eq_left, Int.reducePow, Int.reduceNeg, Int.reduceEq]
  obtain ⟨h1, eh1⟩ : ∃ h1, h ++
      [AObj.row Mode.fix
          [Value.int .i64 0, .int .i64 0, .int .i64 0, .int .i64 0, .int .i64 0, .int .i64 0, .int .i64 0, .int .i64 0, .int .i64 0, .int .i64 0, .int .i64 0, .int .i64 0, .int .i64 0, .int .i64 0, .int .i64 0],
        AObj.row Mode.fix [Value.int .i64 0, .string ByteArray.empty, .int .i64 0], AObj.row Mode.fix (rulC rulD), AObj.map true []] = h1 := ⟨_, rfl⟩
  have ps1 : PSt h h1 rulD rul0 [] := by
    rw [← eh1]
    exact ⟨.app _ _, Fx.here _ _ _, by simp [Fx]; rfl, by simp [Fx], by simp [encS], rfl, Seen.start⟩
  rw [eh1]
  clear eh1 e1 e2 e3
  obtain ⟨lines, hlines⟩ : ∃ lines, splitL 10 t.data.toList = lines := ⟨_, rfl⟩
  have hsp := split_spec (h := h1) (t := t) (by omega) 10
  rw [hlines] at hsp hf
  have hnl : lines.length ≤ 4097 := by
    rw [← hlines, splitL_len]
    have := List.count_le_length (a := (10 : UInt8)) (l := t.data.toList)
    omega
  have hsz : ∀ ln ∈ lines, ln.length ≤ 4096 := by
    rw [← hlines]
    intro ln hln
    have := splitL_mem hln
    omega
  clear hlines
  refine callV_x hsp ?_
  rintro v h2 ⟨hp2, ho⟩
  have ls0 : Ls h2 1 isStr v lines := by
    have := ho.sl
    rw [← sV_rows] at this
    exact this.ls (fun _ => rfl) rfl
  simp (dsimp := false) only [go_sem, Nat.reduceAdd, Nat.reduceEqDiff, Nat.reduceMul, Nat.reduceLeDiff, Nat.reduceSub, Nat.reduceLT, ↓reduceIte, reduceCtorEq, List.reduceReplicate, List.flatten_cons, List.flatten_nil, List.append_nil, eq_self, Int.reduceLE, Int.reduceLT, Int.reduceToNat, Nat.min_eq_left, Int.reducePow, Int.reduceNeg, Int.reduceEq, ls0.lenV]
  clear ls0 hsp
  refine loopV_of (fun m e h3 => ∃ (i : Nat) (R A : List Int) (kc : List (Int × Value)), m = lines.length - i ∧ i ≤ lines.length ∧ PSt h h3 R A kc ∧ Ow h1 h3 1 v lines.length (lines.map sV) ∧ linesF 0 lines rulD rul0 = linesF i (lines.drop i) R A ∧
    e = [(2, .pointer (some ⟨h.length, 0, none⟩)), (3, .pointer (some ⟨h.length + 1, 0, none⟩)), (4, .pointer (some ⟨h.length + 2, 0, none⟩)), (5, .map (some (h.length + 3))), (25, v), (26, .int .i64 lines.length), (27, .int .i64 i)]) _
    ⟨0, rulD, rul0, [], rfl, Nat.zero_le _, ps1.app hp2, ho, by rw [List.drop_zero], rfl⟩ ?_
  clear ho hp2 ps1
  clear h2
  rintro m e h2 ⟨i, R, A, kc, rfl, hi, ps, ho, hln, rfl⟩
  have ls : Ls h2 1 isStr v lines := by
    have := ho.sl
    rw [← sV_rows] at this
    exact this.ls (fun _ => rfl) rfl
  rcases Nat.lt_or_ge i lines.length with hlt | hge
  · have wi : IntKind.i64.wrap ((i : Int) + 1) = ((i + 1 : Nat) : Int) := wrap_succ hlt (by unfold maxI; omega)
    obtain ⟨_, _, t0, r0, r1⟩ := ls.rd2 (.refl _) hlt
    subst t0
    have hs0 := hsz _ (List.getElem_mem hlt)
    rw [List.drop_eq_getElem_cons hlt, linesF] at hln
    obtain ⟨s, hs⟩ : ∃ s : ByteArray, (⟨lines[i].toArray⟩ : ByteArray) = s := ⟨_, rfl⟩
    have hsl : lines[i] = s.data.toList := by rw [← hs]
    have r0' : rds h2 (sb v) (so v + i * 1) 1 = some [.string s] := by rw [r0, ← hs]; rfl
    rw [hsl] at hln hs0
    have hss : s.size ≤ 4096 := by
      have : s.data.toList.length = s.size := Array.length_toList
      omega
    clear r0 r1 hs hsl
    have skip : lineF A s.data.toList = .skip → ∃ m', m' < lines.length - i ∧ ∃ (j : Nat) (R A : List Int) (kc : List (Int × Value)), m' = lines.length - j ∧ j ≤ lines.length ∧ PSt h h2 R A kc ∧ Ow h1 h2 1 v lines.length (lines.map sV) ∧ linesF 0 lines rulD rul0 = linesF j (lines.drop j) R A ∧
        [(2, Value.pointer (some ⟨h.length, 0, none⟩)), (3, .pointer (some ⟨h.length + 1, 0, none⟩)), (4, .pointer (some ⟨h.length + 2, 0, none⟩)), (5, .map (some (h.length + 3))), (25, v), (26, .int .i64 lines.length), (27, .int .i64 ((i + 1 : Nat) : Int))] =
        [(2, Value.pointer (some ⟨h.length, 0, none⟩)), (3, .pointer (some ⟨h.length + 1, 0, none⟩)), (4, .pointer (some ⟨h.length + 2, 0, none⟩)), (5, .map (some (h.length + 3))), (25, v), (26, .int .i64 lines.length), (27, .int .i64 (j : Int))] := fun q =>
      ⟨lines.length - (i + 1), by omega, i + 1, R, A, kc, rfl, hlt, ps, ho, by rw [hln, q], rfl⟩
    simp (dsimp := false) only [↓ir.config_Parse.l2.bw, go_sem, Nat.reduceAdd, Nat.reduceEqDiff, Nat.reduceMul, Nat.reduceLeDiff, Nat.reduceSub, Nat.reduceLT, ↓reduceIte, reduceCtorEq, List.reduceReplicate, List.flatten_cons, List.flatten_nil, List.append_nil, eq_self, Int.reduceLE, Int.reduceLT, Int.reduceToNat, Nat.min_eq_left, Int.reducePow, Int.reduceNeg, Int.reduceEq, Int.ofNat_lt, hlt, decide_true, ls.ixsN hlt, r0']
    cases hsd : s.data.toList with
    | nil =>
      have w0 : (s.toList == (⟨#[]⟩ : ByteArray).toList) = true := by rw [ByteArray.toList_eq, ByteArray.toList_eq, hsd]; rfl
      simp (dsimp := false) only [go_sem, Nat.reduceAdd, Nat.reduceEqDiff, Nat.reduceMul, Nat.reduceLeDiff, Nat.reduceSub, Nat.reduceLT, ↓reduceIte, reduceCtorEq, List.reduceReplicate, List.flatten_cons, List.flatten_nil, List.append_nil, eq_self, Int.reduceLE, Int.reduceLT, Int.reduceToNat, Nat.min_eq_left, Int.reducePow, Int.reduceNeg, Int.reduceEq, w0, wi]
      exact skip (by rw [hsd]; unfold lineF; exact if_pos (.inl rfl))
    | cons x xs =>
      have w0 : (s.toList == (⟨#[]⟩ : ByteArray).toList) = false := by rw [ByteArray.toList_eq, ByteArray.toList_eq, hsd]; rfl
      have g0 : s[0]? = some x := by
        have : s.data[0]? = some x := by rw [← Array.getElem?_toList, hsd]; rfl
        exact this
      simp (dsimp := false) only [go_sem, Nat.reduceAdd, Nat.reduceEqDiff, Nat.reduceMul, Nat.reduceLeDiff, Nat.reduceSub, Nat.reduceLT, ↓reduceIte, reduceCtorEq, List.reduceReplicate, List.flatten_cons, List.flatten_nil, List.append_nil, eq_self, Int.reduceLE, Int.reduceLT, Int.reduceToNat, Nat.min_eq_left, Int.reducePow, Int.reduceNeg, Int.reduceEq, w0, ixstrV_str, Int.toNat_zero, g0]
      refine cVe (fun c35 => ?_) (fun c35 => ?_)
      · simp (dsimp := false) only [go_sem, Nat.reduceAdd, Nat.reduceEqDiff, Nat.reduceMul, Nat.reduceLeDiff, Nat.reduceSub, Nat.reduceLT, ↓reduceIte, reduceCtorEq, List.reduceReplicate, List.flatten_cons, List.flatten_nil, List.append_nil, eq_self, Int.reduceLE, Int.reduceLT, Int.reduceToNat, Nat.min_eq_left, Int.reducePow, Int.reduceNeg, Int.reduceEq, wi]
        have hh : (x :: xs).head? = some 35 := by
          have e : x = 35 := UInt8.toNat_inj.1 (by show x.toNat = 35; omega)
          rw [e]; rfl
        exact skip (by rw [hsd]; unfold lineF; exact if_pos (.inr hh))
      · have hlf : lineF A s.data.toList = match cutL 32 s.data.toList with
            | none => .bad s.data.toList 10
            | some (a, b) => match numL maxN b with
              | none => .bad a 10
              | some n => match which a with
                | none => .bad a 6
                | some w => if 0 < A.getD w 0 then .bad a 7 else .put w n := by
          unfold lineF
          refine if_neg ?_
          rw [hsd]
          rintro (q | q)
          · cases q
          · have e : x = 35 := by simpa using q
            rw [e] at c35
            exact c35 rfl
        simp (dsimp := false) only [go_sem, Nat.reduceAdd, Nat.reduceEqDiff, Nat.reduceMul, Nat.reduceLeDiff, Nat.reduceSub, Nat.reduceLT, ↓reduceIte, reduceCtorEq, List.reduceReplicate, List.flatten_cons, List.flatten_nil, List.append_nil, eq_self, Int.reduceLE, Int.reduceLT, Int.reduceToNat, Nat.min_eq_left, Int.reducePow, Int.reduceNeg, Int.reduceEq]
        clear g0 w0 c35 hsd skip
        clear x xs
        obtain ⟨nm, vl, fd, hcv, hcut, hvs, hns⟩ : ∃ (nm vl : ByteArray) (fd : Bool), cutV s 32 = .tuple #[.string nm, .string vl, .bool fd] ∧ ((fd = true ∧ cutL 32 s.data.toList = some (nm.data.toList, vl.data.toList)) ∨ (fd = false ∧ cutL 32 s.data.toList = none ∧ nm = s)) ∧ vl.size ≤ 4096 ∧ nm.size ≤ 4096 := by
          unfold cutV
          cases q : cutL 32 s.data.toList with
          | none => exact ⟨s, ⟨#[]⟩, false, rfl, .inr ⟨rfl, rfl, rfl⟩, by decide, hss⟩
          | some p =>
            obtain ⟨a, b⟩ := p
            refine ⟨⟨a.toArray⟩, ⟨b.toArray⟩, true, rfl, .inl ⟨rfl, rfl⟩, ?_, ?_⟩
            all_goals
              unfold cutL at q
              split at q
              · obtain ⟨rfl, rfl⟩ := Prod.mk.inj (Option.some.inj q)
                show Array.size _ ≤ _
                simp
                have : s.data.size = s.size := rfl
                omega
              · cases q
        have hcs := cut_spec (h := h2) (s := s) (by omega) 32
        rw [hcv] at hcs
        obtain ⟨n, ok, hns2, hnq⟩ := cnumber_spec (h := h2) (k.pre ps.pre) (hg.pre ps.pre).powV (t := vl) (by omega)
        have wl : IntKind.i64.wrap ((i : Int) + 1) = ((i : Int) + 1) := by rw [wi]; omega
        have bad : ∀ (a : ByteArray) (e : Int) (h3 : AHeap), lineF A s.data.toList = .bad a.data.toList e → PSt h h3 R A kc → ∃ h4 h5, wrs h3 h.length 0 [Value.int .i64 0, .int .i64 0, .int .i64 0, .int .i64 0, .int .i64 0, .int .i64 0, .int .i64 0, .int .i64 0, .int .i64 0, .int .i64 0, .int .i64 0, .int .i64 0, .int .i64 0, .int .i64 0, .int .i64 0] = some h4 ∧ wrs h4 (h.length + 1) 0 [.int .i64 ((i + 1 : Nat) : Int), .string a, .int .i64 e] = some h5 ∧
            rds h5 h.length 0 15 = some [Value.int .i64 0, .int .i64 0, .int .i64 0, .int .i64 0, .int .i64 0, .int .i64 0, .int .i64 0, .int .i64 0, .int .i64 0, .int .i64 0, .int .i64 0, .int .i64 0, .int .i64 0, .int .i64 0, .int .i64 0] ∧ rds h5 (h.length + 1) 0 3 = some [.int .i64 ((i + 1 : Nat) : Int), .string a, .int .i64 e] ∧ Pre h h5 ∧ parseF t.data.toList = ⟨rul0, ((i + 1 : Nat) : Int), a.data.toList, e⟩ := fun a e h3 q p3 => by
          obtain ⟨h4, h5, a1, a2, a3, a4, a5⟩ := p3.out (L := rul0) rfl (.int .i64 ((i + 1 : Nat) : Int)) (.string a) (.int .i64 e)
          exact ⟨h4, h5, a1, a2, a3, a4, a5, by rw [hf, hln, q]; rfl⟩
        refine callV_of hcs ?_
        simp (dsimp := false) only [go_sem, Nat.reduceAdd, Nat.reduceEqDiff, Nat.reduceMul, Nat.reduceLeDiff, Nat.reduceSub, Nat.reduceLT, ↓reduceIte, reduceCtorEq, List.reduceReplicate, List.flatten_cons, List.flatten_nil, List.append_nil, eq_self, Int.reduceLE, Int.reduceLT, Int.reduceToNat, Nat.min_eq_left, Int.reducePow, Int.reduceNeg, Int.reduceEq]
        refine callV_of hns2 ?_
        simp (dsimp := false) only [go_sem, Nat.reduceAdd, Nat.reduceEqDiff, Nat.reduceMul, Nat.reduceLeDiff, Nat.reduceSub, Nat.reduceLT, ↓reduceIte, reduceCtorEq, List.reduceReplicate, List.flatten_cons, List.flatten_nil, List.append_nil, eq_self, Int.reduceLE, Int.reduceLT, Int.reduceToNat, Nat.min_eq_left, Int.reducePow, Int.reduceNeg, Int.reduceEq]
        have bad10 : fd = false ∨ ok = false → lineF A s.data.toList = .bad nm.data.toList 10 := by
          intro q
          rw [hlf]
          rcases hcut with ⟨qf, q2⟩ | ⟨_, q2, rfl⟩
          · rw [q2]
            rcases hnq with ⟨rfl, _, q3⟩ | ⟨rfl, q3⟩
            · rcases q with q | q
              · rw [q] at qf; cases qf
              · cases q
            · simp only [q3]
          · rw [q2]
        cases fd with
        | false =>
          obtain ⟨h4, h5, a1, a2, a3, a4, a5, a6⟩ := bad nm 10 h2 (bad10 (.inl rfl)) ps
          simp (dsimp := false) only [go_sem, Nat.reduceAdd, Nat.reduceEqDiff, Nat.reduceMul, Nat.reduceLeDiff, Nat.reduceSub, Nat.reduceLT, ↓reduceIte, reduceCtorEq, List.reduceReplicate, List.flatten_cons, List.flatten_nil, List.append_nil, eq_self, Int.reduceLE, Int.reduceLT, Int.reduceToNat, Nat.min_eq_left, Int.reducePow, Int.reduceNeg, Int.reduceEq, Bool.not_false, wi, a1, a2, a3, a4]
          exact ⟨a5, by rw [a6]; rfl⟩
        | true =>
          cases ok with
          | false =>
            obtain ⟨h4, h5, a1, a2, a3, a4, a5, a6⟩ := bad nm 10 h2 (bad10 (.inr rfl)) ps
            simp (dsimp := false) only [go_sem, Nat.reduceAdd, Nat.reduceEqDiff, Nat.reduceMul, Nat.reduceLeDiff, Nat.reduceSub, Nat.reduceLT, ↓reduceIte, reduceCtorEq, List.reduceReplicate, List.flatten_cons, List.flatten_nil, List.append_nil, eq_self, Int.reduceLE, Int.reduceLT, Int.reduceToNat, Nat.min_eq_left, Int.reducePow, Int.reduceNeg, Int.reduceEq, Bool.not_false, Bool.not_true, wi, a1, a2, a3, a4]
            exact ⟨a5, by rw [a6]; rfl⟩
          | true =>
            clear bad10
            simp (dsimp := false) only [go_sem, Nat.reduceAdd, Nat.reduceEqDiff, Nat.reduceMul, Nat.reduceLeDiff, Nat.reduceSub, Nat.reduceLT, ↓reduceIte, reduceCtorEq, List.reduceReplicate, List.flatten_cons, List.flatten_nil, List.append_nil, eq_self, Int.reduceLE, Int.reduceLT, Int.reduceToNat, Nat.min_eq_left, Int.reducePow, Int.reduceNeg, Int.reduceEq, Bool.not_true]
            have hput : lineF A s.data.toList = match which nm.data.toList with
                | none => .bad nm.data.toList 6
                | some w => if 0 < A.getD w 0 then .bad nm.data.toList 7 else .put w n := by
              rcases hcut with ⟨_, q2⟩ | ⟨q, _⟩
              · rcases hnq with ⟨_, q0, q3⟩ | ⟨q, _⟩
                · rw [hlf, q2]
                  simp only [q3, Int.toNat_of_nonneg q0]
                · cases q
              · cases q
            clear hlf hcut hnq hcs hcv hns2
            refine callV_x (slots_spec _ (h.length + 2)) ?_
            rintro v3 h3 ⟨hp3, l3⟩
            have hlen15 : idx15.length = 15 := rfl
            simp (dsimp := false) only [go_sem, Nat.reduceAdd, Nat.reduceEqDiff, Nat.reduceMul, Nat.reduceLeDiff, Nat.reduceSub, Nat.reduceLT, ↓reduceIte, reduceCtorEq, List.reduceReplicate, List.flatten_cons, List.flatten_nil, List.append_nil, eq_self, Int.reduceLE, Int.reduceLT, Int.reduceToNat, Nat.min_eq_left, Int.reducePow, Int.reduceNeg, Int.reduceEq, l3.lenV, hlen15]
            have ps3 := ps.app hp3
            have ho3 := ho.pre hp3
            refine loopV_of (fun m e h4 => ∃ j : Nat, m = 15 - j ∧ j ≤ 15 ∧ Pre h3 h4 ∧ (∀ k, k < j → slotL k ≠ nm.data.toList) ∧ e = [(2, .pointer (some ⟨h.length, 0, none⟩)), (3, .pointer (some ⟨h.length + 1, 0, none⟩)), (4, .pointer (some ⟨h.length + 2, 0, none⟩)), (5, .map (some (h.length + 3))), (6, .int .i64 i), (8, .string nm), (11, .int .i64 n), (25, v), (26, .int .i64 lines.length), (27, .int .i64 i), (61, v3), (62, .int .i64 15), (63, .int .i64 j)]) _ ⟨0, rfl, Nat.zero_le _, .refl _, fun k hk => absurd hk (Nat.not_lt_zero _), rfl⟩ ?_
            rintro m e h4 ⟨j, rfl, hj, hp4, hno, rfl⟩
            rcases Nat.lt_or_ge j 15 with hjl | hjg
            · have e0 : (j : Int) < 15 := by omega
              have wj : IntKind.i64.wrap ((j : Int) + 1) = ((j + 1 : Nat) : Int) := wrap_succ hjl (by unfold maxI; omega)
              obtain ⟨_, _, t0, r0, r1⟩ := l3.rd2 hp4 (i := j) (by rw [hlen15]; exact hjl)
              rw [idx15_at] at t0
              subst t0
              obtain ⟨W, hW⟩ : ∃ W, ((slotN j).toList == nm.toList) = W := ⟨_, rfl⟩
              have hW2 := hW
              rw [ByteArray.toList_eq, ByteArray.toList_eq] at hW2
              simp (dsimp := false) only [↓ir.config_Parse.l1.bw, go_sem, Nat.reduceAdd, Nat.reduceEqDiff, Nat.reduceMul, Nat.reduceLeDiff, Nat.reduceSub, Nat.reduceLT, ↓reduceIte, reduceCtorEq, List.reduceReplicate, List.flatten_cons, List.flatten_nil, List.append_nil, eq_self, Int.reduceLE, Int.reduceLT, Int.reduceToNat, Nat.min_eq_left, Int.reducePow, Int.reduceNeg, Int.reduceEq, e0, decide_true, l3.ixsN (show j < idx15.length by rw [hlen15]; exact hjl), r0, slotC, hW]
              cases W with
              | false =>
                simp (dsimp := false) only [go_sem, Nat.reduceAdd, Nat.reduceEqDiff, Nat.reduceMul, Nat.reduceLeDiff, Nat.reduceSub, Nat.reduceLT, ↓reduceIte, reduceCtorEq, List.reduceReplicate, List.flatten_cons, List.flatten_nil, List.append_nil, eq_self, Int.reduceLE, Int.reduceLT, Int.reduceToNat, Nat.min_eq_left, Int.reducePow, Int.reduceNeg, Int.reduceEq, Bool.not_false, wj]
                refine ⟨15 - (j + 1), by omega, j + 1, rfl, hjl, hp4.app' _, fun k hk => ?_, rfl⟩
                rcases Nat.lt_or_ge k j with z | z
                · exact hno k z
                · obtain rfl : k = j := by omega
                  simpa using hW2
              | true =>
                have hnm : slotN j = nm := bytes_eq (by simpa using hW2)
                subst hnm
                have hwh : which (slotN j).data.toList = some j := which_some hjl rfl
                have ps4 := (ps3.app hp4).app (.app h4 [AObj.row .fix (slotC (h.length + 2) j)])
                have hlk := fun (K : Value → AHeap → Prop) (u : Hold K) => ps4.seen.look (K := K) (u := u) hjl ps4.m5
                unfold slotC at ps4 hlk
                simp (dsimp := false) only [go_sem, Nat.reduceAdd, Nat.reduceEqDiff, Nat.reduceMul, Nat.reduceLeDiff, Nat.reduceSub, Nat.reduceLT, ↓reduceIte, reduceCtorEq, List.reduceReplicate, List.flatten_cons, List.flatten_nil, List.append_nil, eq_self, Int.reduceLE, Int.reduceLT, Int.reduceToNat, Nat.min_eq_left, Int.reducePow, Int.reduceNeg, Int.reduceEq, Bool.not_true, hlk, gt_iff_lt]
                refine cVd (fun c7 => ?_) (fun c7 => ?_)
                · obtain ⟨h5, h6, a1, a2, a3, a4, a5, a6⟩ := bad (slotN j) 7 _ (by rw [hput, hwh]; exact if_pos c7) ps4
                  simp (dsimp := false) only [go_sem, Nat.reduceAdd, Nat.reduceEqDiff, Nat.reduceMul, Nat.reduceLeDiff, Nat.reduceSub, Nat.reduceLT, ↓reduceIte, reduceCtorEq, List.reduceReplicate, List.flatten_cons, List.flatten_nil, List.append_nil, eq_self, Int.reduceLE, Int.reduceLT, Int.reduceToNat, Nat.min_eq_left, Int.reducePow, Int.reduceNeg, Int.reduceEq, wi, a1, a2, a3, a4]
                  exact ⟨a5, by rw [a6]; rfl⟩
                · have hjR : j < R.length := by rw [ps.len]; exact hjl
                  have w4 := ps4.f4.wr (off := j) (vs := [.int .i64 n]) (by rw [rulC_len]; simp; omega)
                  rw [rulC_set] at w4
                  have m5 : ((h4 ++ [AObj.row .fix [.string (slotN j), .pointer (some ⟨h.length + 2, j, none⟩), .int .i64 (slotLo j), .int .i64 (slotHi j)]]).set (h.length + 2) (.row .fix (rulC (R.set j n))))[h.length + 3]? = some (.map true (encS kc)) := by
                    rw [List.getElem?_set_ne (by omega)]; exact ps4.m5
                  have hst := fun (v : Value) (K : Value → AHeap → Prop) (u : Hold K) => ps4.seen.store (v := v) (K := K) (u := u) hjl m5
                  simp (dsimp := false) only [go_sem, Nat.reduceAdd, Nat.reduceEqDiff, Nat.reduceMul, Nat.reduceLeDiff, Nat.reduceSub, Nat.reduceLT, ↓reduceIte, reduceCtorEq, List.reduceReplicate, List.flatten_cons, List.flatten_nil, List.append_nil, eq_self, Int.reduceLE, Int.reduceLT, Int.reduceToNat, Nat.min_eq_left, Int.reducePow, Int.reduceNeg, Int.reduceEq, wi, w4, hst]
                  have ho4 := (ho3.pre hp4).pre (.app h4 [AObj.row .fix [.string (slotN j), .pointer (some ⟨h.length + 2, j, none⟩), .int .i64 (slotLo j), .int .i64 (slotHi j)]])
                  have ps5 := ps4.step hjl n (x := ((i + 1 : Nat) : Int)) (by omega)
                  have ho5 := (ho4.put (ho4.nfix ps4.f4) (.row .fix (rulC (R.set j n)))).put (ho4.nmap ps4.m5) (.map true (encS (putM (j : Int) (.int .i64 ((i + 1 : Nat) : Int)) kc)))
                  refine ⟨lines.length - (i + 1), by omega, i + 1, _, _, _, rfl, hlt, ps5, ho5, ?_, rfl⟩
                  rw [hln, hput, hwh]
                  simp only [c7, if_false]
                  rfl
            · obtain rfl : j = 15 := by omega
              have hwh : which nm.data.toList = none := which_none hno
              obtain ⟨h5, h6, a1, a2, a3, a4, a5, a6⟩ := bad nm 6 h4 (by rw [hput, hwh]) (ps3.app hp4)
              simp (dsimp := false) only [↓ir.config_Parse.l1.bw, go_sem, Nat.reduceAdd, Nat.reduceEqDiff, Nat.reduceMul, Nat.reduceLeDiff, Nat.reduceSub, Nat.reduceLT, ↓reduceIte, reduceCtorEq, List.reduceReplicate, List.flatten_cons, List.flatten_nil, List.append_nil, eq_self, Int.reduceLE, Int.reduceLT, Int.reduceToNat, Nat.min_eq_left, Int.reducePow, Int.reduceNeg, Int.reduceEq, show ¬ ((15 : Nat) : Int) < 15 by omega, decide_false, wi, a1, a2, a3, a4]
              exact ⟨a5, by rw [a6]; rfl⟩
  · obtain rfl : i = lines.length := by omega
    rw [List.drop_length, linesF] at hln
    rw [hln] at hf
    simp only at hf
    obtain ⟨bn, be, hcs, hcq⟩ := check_spec (h := h2) ps.len
    have rr4 := ps.f4.rd (off := 0) (n := 15) (vs := rulC R) (by rw [List.drop_zero, List.take_of_length_le (by rw [rulC_len, ps.len]; exact Nat.le_refl _)]) (by rw [rulC_len, ps.len]; exact Nat.le_refl _)
    have ag : aggOf true (rulC R) = some (.agg ⟨rulC R⟩) := rfl
    simp (dsimp := false) only [↓ir.config_Parse.l2.bw, go_sem, Nat.reduceAdd, Nat.reduceEqDiff, Nat.reduceMul, Nat.reduceLeDiff, Nat.reduceSub, Nat.reduceLT, ↓reduceIte, reduceCtorEq, List.reduceReplicate, List.flatten_cons, List.flatten_nil, List.append_nil, eq_self, Int.reduceLE, Int.reduceLT, Int.reduceToNat, Nat.min_eq_left, Int.reducePow, Int.reduceNeg, Int.reduceEq, Int.ofNat_lt, Nat.lt_irrefl, decide_false, rr4, ag]
    refine callV_of hcs ?_
    rcases hcq with ⟨rfl, rfl, hgood⟩ | ⟨rfl, b, hb, rfl, hbad, hgood⟩
    · have hfb := firstBad_none hgood
      obtain ⟨h5, h6, a1, a2, a3, a4, a5⟩ := ps.out (L := R) ps.len (.int .i64 0) (.string ByteArray.empty) (.int .i64 0)
      have e1 : (rulC R).length = 15 := by rw [rulC_len, ps.len]
      simp (dsimp := false) only [go_sem, Nat.reduceAdd, Nat.reduceEqDiff, Nat.reduceMul, Nat.reduceLeDiff, Nat.reduceSub, Nat.reduceLT, ↓reduceIte, reduceCtorEq, List.reduceReplicate, List.flatten_cons, List.flatten_nil, List.append_nil, eq_self, Int.reduceLE, Int.reduceLT, Int.reduceToNat, Nat.min_eq_left, Int.reducePow, Int.reduceNeg, Int.reduceEq, (show ((0 : Int) != 0) = false from rfl), rr4, ag, e1, rulC_one, a1, a2, a3, a4]
      refine ⟨a5, ?_⟩
      rw [hf, endF, hfb]
      rfl
    · have hfb := firstBad_some hb hbad hgood
      simp (dsimp := false) only [go_sem, Nat.reduceAdd, Nat.reduceEqDiff, Nat.reduceMul, Nat.reduceLeDiff, Nat.reduceSub, Nat.reduceLT, ↓reduceIte, reduceCtorEq, List.reduceReplicate, List.flatten_cons, List.flatten_nil, List.append_nil, eq_self, Int.reduceLE, Int.reduceLT, Int.reduceToNat, Nat.min_eq_left, Int.reducePow, Int.reduceNeg, Int.reduceEq, (show ((30 : Int) != 0) = true from rfl)]
      have hlk := fun (K : Value → AHeap → Prop) (u : Hold K) => ps.seen.look (K := K) (u := u) hb ps.m5
      obtain ⟨x, hx⟩ : ∃ x, A.getD b 0 = x := ⟨_, rfl⟩
      rw [hx] at hlk
      have e15 : (rulC rul0).length = 15 := rfl
      have w1 := ps.f2.wr (off := 0) (vs := rulC rul0) (by rw [rulC_len]; exact Nat.le_refl _)
      have es : setC (rulC rul0) 0 (rulC rul0) = rulC rul0 := rfl
      rw [es] at w1
      have g2 := ps.f2.set (rulC rul0)
      have g3 := ps.f3.other (show h.length ≠ h.length + 1 by omega) (.row .fix (rulC rul0))
      have m5 : (h2.set h.length (.row .fix (rulC rul0)))[h.length + 3]? = some (.map true (encS kc)) := by rw [List.getElem?_set_ne (by omega)]; exact ps.m5
      have hlk2 := fun (K : Value → AHeap → Prop) (u : Hold K) => ps.seen.look (K := K) (u := u) hb m5
      rw [hx] at hlk2
      have w2 := g3.wr (off := 0) (vs := [.int .i64 x, .string (slotN b), .int .i64 30]) (by simp)
      have hpre := (ps.pre.put (Nat.le_refl _) (.row .fix (rulC rul0))).put (show h.length ≤ h.length + 1 by omega) (.row .fix (setC (misC 0 [] 0) 0 [.int .i64 x, .string (slotN b), .int .i64 30]))
      have r2 := (g2.other (show h.length + 1 ≠ h.length by omega) (.row .fix (setC (misC 0 [] 0) 0 [.int .i64 x, .string (slotN b), .int .i64 30]))).rd (off := 0) (n := 15) (vs := [.int .i64 0, .int .i64 0, .int .i64 0, .int .i64 0, .int .i64 0, .int .i64 0, .int .i64 0, .int .i64 0, .int .i64 0, .int .i64 0, .int .i64 0, .int .i64 0, .int .i64 0, .int .i64 0, .int .i64 0]) rfl (by rw [e15]; exact Nat.le_refl _)
      have r3 := (g3.set (setC (misC 0 [] 0) 0 [.int .i64 x, .string (slotN b), .int .i64 30])).rd (off := 0) (n := 3) (vs := [.int .i64 x, .string (slotN b), .int .i64 30]) rfl (by simp [misC, setC_cons, setC_nil])
      generalize hH5 : h2.set h.length (.row .fix (rulC rul0)) = h5 at w1 w2 hlk2 hpre r2 r3
      generalize h5.set (h.length + 1) (.row .fix (setC (misC 0 [] 0) 0 [.int .i64 x, .string (slotN b), .int .i64 30])) = h6 at w2 hpre r2 r3
      refine anyV_of [(2, .pointer (some ⟨h.length, 0, none⟩)), (3, .pointer (some ⟨h.length + 1, 0, none⟩))] h6 ?_ ?_
      · refine wpA_last (l := [⟨some 104, .build [.int .i64 0, .int .i64 0, .int .i64 0, .int .i64 0, .int .i64 0, .int .i64 0, .int .i64 0, .int .i64 0, .int .i64 0, .int .i64 0, .int .i64 0, .int .i64 0, .int .i64 0, .int .i64 0, .int .i64 0] [], none⟩, ⟨some 105, .mv (.tmp 5), none⟩, ⟨some 106, .mv (.tmp 15), none⟩, ⟨some 107, .lookup 1 (.int .i64 0) false (.tmp 105) (.tmp 106), none⟩, ⟨some 108, .mv (.tmp 15), none⟩, ⟨some 109, .mv (.tmp 16), none⟩, ⟨some 110, .build [.int .i64 0, .string ByteArray.empty, .int .i64 0] [(0, 1, .tmp 107), (1, 1, .tmp 108), (2, 1, .tmp 109)], none⟩, ⟨none, .store 15 (.tmp 2) (.tmp 104), none⟩])
          (d := none) (ins := .store 3 (.tmp 3) (.tmp 110)) (fun j => by simp; omega) ?_
        refine wpA_calm _ h2 h5 7 [.agg ⟨rulC rul0⟩, .map (some (h.length + 3)), .string (slotN b), .int .i64 x, .string (slotN b), .int .i64 30, .agg #[.int .i64 x, .string (slotN b), .int .i64 30], undef] ?_ ?_ (by decide) ?_ ?_
        · decide
        · exact dst_inj (by decide)
        · intro i hi
          unfold calmOK
          match i, hi with
          | 0, _ =>
            intro e hh p q c
            simp (dsimp := false) only [go_sem, Nat.reduceAdd, Nat.reduceEqDiff, Nat.reduceMul, Nat.reduceLeDiff, Nat.reduceSub, Nat.reduceLT, ↓reduceIte, reduceCtorEq, List.reduceReplicate, List.flatten_cons, List.flatten_nil, List.append_nil, eq_self, Int.reduceLE, Int.reduceLT, Int.reduceToNat, Nat.min_eq_left, Int.reducePow, Int.reduceNeg, Int.reduceEq]
            exact rfl
          | 1, _ =>
            intro e hh p q c
            have b1 := q 5 (dst_not (by decide))
            simp (dsimp := false) only [go_sem, Nat.reduceAdd, Nat.reduceEqDiff, Nat.reduceMul, Nat.reduceLeDiff, Nat.reduceSub, Nat.reduceLT, ↓reduceIte, reduceCtorEq, List.reduceReplicate, List.flatten_cons, List.flatten_nil, List.append_nil, eq_self, Int.reduceLE, Int.reduceLT, Int.reduceToNat, Nat.min_eq_left, Int.reducePow, Int.reduceNeg, Int.reduceEq, b1]
            exact rfl
          | 2, _ =>
            intro e hh p q c
            have b1 := q 15 (dst_not (by decide))
            simp (dsimp := false) only [go_sem, Nat.reduceAdd, Nat.reduceEqDiff, Nat.reduceMul, Nat.reduceLeDiff, Nat.reduceSub, Nat.reduceLT, ↓reduceIte, reduceCtorEq, List.reduceReplicate, List.flatten_cons, List.flatten_nil, List.append_nil, eq_self, Int.reduceLE, Int.reduceLT, Int.reduceToNat, Nat.min_eq_left, Int.reducePow, Int.reduceNeg, Int.reduceEq, b1]
            exact rfl
          | 3, _ =>
            intro e hh p q c
            have b1 := p 1 (by simp) _ _ rfl rfl
            have b2 := p 2 (by simp) _ _ rfl rfl
            simp only [List.getD, List.getElem?_cons_zero, List.getElem?_cons_succ, Option.getD_some] at b1 b2
            rw [if_neg (by decide)] at c
            rcases c with rfl | rfl
            · simp (dsimp := false) only [go_sem, Nat.reduceAdd, Nat.reduceEqDiff, Nat.reduceMul, Nat.reduceLeDiff, Nat.reduceSub, Nat.reduceLT, ↓reduceIte, reduceCtorEq, List.reduceReplicate, List.flatten_cons, List.flatten_nil, List.append_nil, eq_self, Int.reduceLE, Int.reduceLT, Int.reduceToNat, Nat.min_eq_left, Int.reducePow, Int.reduceNeg, Int.reduceEq, b1, b2, hlk]
              exact rfl
            · simp (dsimp := false) only [go_sem, Nat.reduceAdd, Nat.reduceEqDiff, Nat.reduceMul, Nat.reduceLeDiff, Nat.reduceSub, Nat.reduceLT, ↓reduceIte, reduceCtorEq, List.reduceReplicate, List.flatten_cons, List.flatten_nil, List.append_nil, eq_self, Int.reduceLE, Int.reduceLT, Int.reduceToNat, Nat.min_eq_left, Int.reducePow, Int.reduceNeg, Int.reduceEq, b1, b2, hlk2]
              exact rfl
          | 4, _ =>
            intro e hh p q c
            have b1 := q 15 (dst_not (by decide))
            simp (dsimp := false) only [go_sem, Nat.reduceAdd, Nat.reduceEqDiff, Nat.reduceMul, Nat.reduceLeDiff, Nat.reduceSub, Nat.reduceLT, ↓reduceIte, reduceCtorEq, List.reduceReplicate, List.flatten_cons, List.flatten_nil, List.append_nil, eq_self, Int.reduceLE, Int.reduceLT, Int.reduceToNat, Nat.min_eq_left, Int.reducePow, Int.reduceNeg, Int.reduceEq, b1]
            exact rfl
          | 5, _ =>
            intro e hh p q c
            have b1 := q 16 (dst_not (by decide))
            simp (dsimp := false) only [go_sem, Nat.reduceAdd, Nat.reduceEqDiff, Nat.reduceMul, Nat.reduceLeDiff, Nat.reduceSub, Nat.reduceLT, ↓reduceIte, reduceCtorEq, List.reduceReplicate, List.flatten_cons, List.flatten_nil, List.append_nil, eq_self, Int.reduceLE, Int.reduceLT, Int.reduceToNat, Nat.min_eq_left, Int.reducePow, Int.reduceNeg, Int.reduceEq, b1]
            exact rfl
          | 6, _ =>
            intro e hh p q c
            have b1 := p 3 (by simp) _ _ rfl rfl
            have b2 := p 4 (by simp) _ _ rfl rfl
            have b3 := p 5 (by simp) _ _ rfl rfl
            simp only [List.getD, List.getElem?_cons_zero, List.getElem?_cons_succ, Option.getD_some] at b1 b2 b3
            simp (dsimp := false) only [go_sem, Nat.reduceAdd, Nat.reduceEqDiff, Nat.reduceMul, Nat.reduceLeDiff, Nat.reduceSub, Nat.reduceLT, ↓reduceIte, reduceCtorEq, List.reduceReplicate, List.flatten_cons, List.flatten_nil, List.append_nil, eq_self, Int.reduceLE, Int.reduceLT, Int.reduceToNat, Nat.min_eq_left, Int.reducePow, Int.reduceNeg, Int.reduceEq, b1, b2, b3]
            exact rfl
          | 7, _ =>
            intro e hh p q c
            have b1 := q 2 (dst_not (by decide))
            have b2 := p 0 (by simp) _ _ rfl rfl
            simp only [List.getD, List.getElem?_cons_zero, List.getElem?_cons_succ, Option.getD_some] at b2
            rw [if_pos rfl] at c
            subst c
            simp (dsimp := false) only [go_sem, Nat.reduceAdd, Nat.reduceEqDiff, Nat.reduceMul, Nat.reduceLeDiff, Nat.reduceSub, Nat.reduceLT, ↓reduceIte, reduceCtorEq, List.reduceReplicate, List.flatten_cons, List.flatten_nil, List.append_nil, eq_self, Int.reduceLE, Int.reduceLT, Int.reduceToNat, Nat.min_eq_left, Int.reducePow, Int.reduceNeg, Int.reduceEq, b1, b2, e15, rulC_one, w1]
            exact rfl
        · intro e hd ho2
          have b3 := ho2 3 (dst_not (by decide))
          have b2 := ho2 2 (dst_not (by decide))
          have b1 := hd 6 _ _ rfl rfl
          simp only [List.getD, List.getElem?_cons_zero, List.getElem?_cons_succ, Option.getD_some] at b1
          simp (dsimp := false) only [go_sem, Nat.reduceAdd, Nat.reduceEqDiff, Nat.reduceMul, Nat.reduceLeDiff, Nat.reduceSub, Nat.reduceLT, ↓reduceIte, reduceCtorEq, List.reduceReplicate, List.flatten_cons, List.flatten_nil, List.append_nil, eq_self, Int.reduceLE, Int.reduceLT, Int.reduceToNat, Nat.min_eq_left, Int.reducePow, Int.reduceNeg, Int.reduceEq, b3, b1, w2]
          rw [b2]; rfl
      · simp (dsimp := false) only [go_sem, Nat.reduceAdd, Nat.reduceEqDiff, Nat.reduceMul, Nat.reduceLeDiff, Nat.reduceSub, Nat.reduceLT, ↓reduceIte, reduceCtorEq, List.reduceReplicate, List.flatten_cons, List.flatten_nil, List.append_nil, eq_self, Int.reduceLE, Int.reduceLT, Int.reduceToNat, Nat.min_eq_left, Int.reducePow, Int.reduceNeg, Int.reduceEq, r2, r3]
        refine ⟨hpre, ?_⟩
        rw [hf, endF, hfb]
        simp only [hx]
        rfl
end Go.Proofs.YtoiihalnbdehkaaDoor.B
/-
  Layer 23: rules as a text (plain), and what reading such a text gives.
-/
namespace Go.Proofs.YtoiihalnbdehkaaDoor.B
open Go
set_option linter.unusedVariables false
set_option linter.unusedSimpArgs false
set_option maxRecDepth 100000
abbrev wholeL (n : Int) : List UInt8 := (wholeS n).data.toList
abbrev in64 (n : Int) : Prop := -9223372036854775808 ≤ n ∧ n ≤ 9223372036854775807
/-- A line of rules' text. -/
def lineT (L : List Int) (i : Nat) : List UInt8 := slotL i ++ 32 :: wholeL (L.getD i 0)
/-- The last lines. -/
def restT (L : List Int) : Nat → List UInt8
  | 0 => []
  | k + 1 => lineT L (14 - k) ++ 10 :: restT L k
/-- The first lines. -/
def headT (L : List Int) : Nat → List UInt8
  | 0 => []
  | k + 1 => headT L k ++ (lineT L k ++ [10])
theorem headT_all (L : List Int) : headT L 15 = restT L 15 := by
  simp only [headT, restT, List.append_assoc, List.cons_append, List.nil_append, List.append_nil]
theorem slot_ok : ∀ i, i < 15 → (10 : UInt8) ∉ slotL i ∧ (32 : UInt8) ∉ slotL i ∧ (slotL i).length ≤ 11 ∧ slotL i ≠ [] ∧ (slotL i).head? ≠ some 35 := by
  have : ∀ i : Nat, i < 15 → ((slotL i).all (fun c => decide (c ≠ 10 ∧ c ≠ 32)) && decide ((slotL i).length ≤ 11) && decide (slotL i ≠ []) && decide ((slotL i).head? ≠ some 35)) = true := by decide +kernel
  intro i hi
  have h := this i hi
  simp only [Bool.and_eq_true, decide_eq_true_eq, List.all_eq_true] at h
  obtain ⟨⟨⟨h1, h2⟩, h3⟩, h4⟩ := h
  exact ⟨fun q => (h1 _ q).1 rfl, fun q => (h1 _ q).2 rfl, h2, h3, h4⟩
theorem whole_neg {n : Int} (h : n < 0) : wholeL n = 45 :: decL n.natAbs := by
  unfold wholeL wholeS
  rw [if_pos h, ByteArray.data_append, Array.toList_append]
  rfl
theorem whole_pos {n : Int} (h : 0 ≤ n) : wholeL n = decL n.toNat := by
  unfold wholeL wholeS
  rw [if_neg (by omega)]
theorem whole_not {n : Int} {c : UInt8} (hc : c.toNat < 48 ∨ 57 < c.toNat) (h45 : c ≠ 45) : c ∉ wholeL n := by
  rcases Int.lt_or_le n 0 with h | h
  · rw [whole_neg h]
    intro q
    rcases List.mem_cons.1 q with q | q
    · exact h45 q
    · exact dec_not _ hc q
  · rw [whole_pos h]
    exact dec_not _ hc
theorem whole_num {n : Int} (hn : in64 n) : numL maxN (wholeL n) = if 0 ≤ n then some n.toNat else none := by
  unfold in64 at hn
  by_cases h : 0 ≤ n
  · rw [if_pos h, whole_pos h, numL_dec (by unfold maxN; omega)]
  · rw [if_neg h, whole_neg (by omega), numL_bad]
    unfold digs
    rw [List.all_cons]
    rfl
theorem line_no {L : List Int} {i : Nat} (hi : i < 15) : (10 : UInt8) ∉ lineT L i := by
  unfold lineT
  intro q
  rcases List.mem_append.1 q with q | q
  · exact (slot_ok i hi).1 q
  · rcases List.mem_cons.1 q with q | q
    · cases q
    · exact whole_not (by decide) (by decide) q
theorem line_len {L : List Int} {i : Nat} (hi : i < 15) (hn : in64 (L.getD i 0)) : (lineT L i).length ≤ 33 := by
  have h1 := (slot_ok i hi).2.2.1
  have h2 : (wholeL (L.getD i 0)).length ≤ 21 := by
    have := wholeS_size hn
    have e : (wholeL (L.getD i 0)).length = (wholeS (L.getD i 0)).size := Array.length_toList
    omega
  unfold lineT
  rw [List.length_append, List.length_cons]
  omega
theorem headT_len {L : List Int} (hn : ∀ i, i < 15 → in64 (L.getD i 0)) : ∀ k, k ≤ 15 → (headT L k).length ≤ 34 * k
  | 0, _ => Nat.le_refl _
  | k + 1, hk => by
    have := headT_len hn k (by omega)
    have h2 := line_len (L := L) (i := k) (by omega) (hn k (by omega))
    rw [headT, List.length_append, List.length_append, List.length_singleton]
    omega
theorem splitL_app {c : UInt8} {A R : List UInt8} (h : c ∉ A) : splitL c (A ++ c :: R) = A :: splitL c R := by
  rw [splitL_cut, cutL_app h]
theorem lineF_text {L A : List Int} {i : Nat} (hi : i < 15) (hn : in64 (L.getD i 0)) (h0 : A.getD i 0 = 0) :
    lineF A (lineT L i) = if 0 ≤ L.getD i 0 then .put i (L.getD i 0) else .bad (slotL i) 10 := by
  obtain ⟨s1, s2, s3, s4, s5⟩ := slot_ok i hi
  unfold lineF
  rw [if_neg ?_]
  · have hc : cutL 32 (lineT L i) = some (slotL i, wholeL (L.getD i 0)) := cutL_app s2
    rw [hc]
    simp only
    rw [whole_num hn]
    by_cases h : 0 ≤ L.getD i 0
    · rw [if_pos h, if_pos h, which_some hi rfl]
      simp only
      rw [if_neg (by omega), Int.toNat_of_nonneg h]
    · rw [if_neg h, if_neg h]
  · unfold lineT
    rintro (q | q)
    · exact s4 (List.append_eq_nil_iff.1 q).1
    · rw [head_app s4] at q
      exact s5 q
theorem linesF_text {L : List Int} (hL : L.length = 15) (hn : ∀ i, i < 15 → in64 (L.getD i 0)) : ∀ (k : Nat), k ≤ 15 → ∀ (R A : List Int), R.length = 15 → A.length = 15 → (∀ j, 15 - k ≤ j → A.getD j 0 = 0) → (∀ j, j < 15 - k → R.getD j 0 = L.getD j 0) →
    (∃ A', linesF (15 - k) (splitL 10 (restT L k)) R A = .fin L A') ∨ ((∃ line name, linesF (15 - k) (splitL 10 (restT L k)) R A = .bad line name 10) ∧ ∃ j, j < 15 ∧ L.getD j 0 < 0)
  | 0, _, R, A, hR, hA, h0, hr => by
    refine .inl ⟨A, ?_⟩
    have : R = L := by
      apply List.ext_getElem (by omega)
      intro i h1 h2
      have := hr i (by omega)
      rw [List.getD_eq_getElem?_getD, List.getD_eq_getElem?_getD, List.getElem?_eq_getElem h1, List.getElem?_eq_getElem h2] at this
      exact this
    subst this
    have hs : splitL 10 (restT R 0) = [[]] := rfl
    have hl : lineF A [] = .skip := by unfold lineF; exact if_pos (.inl rfl)
    rw [hs, linesF, hl]
    rfl
  | k + 1, hk, R, A, hR, hA, h0, hr => by
    have hi : 14 - k < 15 := by omega
    rw [show 15 - (k + 1) = 14 - k by omega] at h0 hr ⊢
    rw [restT, splitL_app (line_no hi), linesF, lineF_text hi (hn _ hi) (h0 _ (Nat.le_refl _))]
    by_cases h : 0 ≤ L.getD (14 - k) 0
    · rw [if_pos h]
      simp only
      have ih := linesF_text hL hn k (by omega) (R.set (14 - k) (L.getD (14 - k) 0)) (A.set (14 - k) (((14 - k : Nat) : Int) + 1)) (by simpa using hR) (by simpa using hA) (fun j hj => by
        rw [getD_set (by omega), if_neg (by omega)]; exact h0 j (by omega)) (fun j hj => by
        rw [getD_set (by omega)]
        split
        · rename_i e; rw [e]
        · exact hr j (by omega))
      rw [show 15 - k = 14 - k + 1 by omega] at ih
      exact ih
    · rw [if_neg h]
      exact .inr ⟨⟨_, _, rfl⟩, _, hi, by omega⟩
theorem parseF_short {t : List UInt8} (h : t.length ≤ 4096) : parseF t = match linesF 0 (splitL 10 t) rulD rul0 with
    | .bad line name e => ⟨rul0, line, name, e⟩
    | .fin R A => endF R A := by
  unfold parseF; exact if_neg (by omega)
/-- Rules that may be are read back from their text; of others there is a mistake. -/
theorem parse_text {L : List Int} (hL : L.length = 15) (hn : ∀ i, i < 15 → in64 (L.getD i 0)) :
    ((∀ j, j < 15 → goodI j (L.getD j 0)) → parseF (headT L 15) = ⟨L, 0, [], 0⟩) ∧ (∀ i, i < 15 → ¬ goodI i (L.getD i 0) → (parseF (headT L 15)).err = 10 ∨ (parseF (headT L 15)).err = 30) := by
  have hlen := headT_len hn 15 (Nat.le_refl _)
  have hlo : ∀ j, j < 15 → 0 ≤ slotLo j := by decide +kernel
  have hpf := parseF_short (t := headT L 15) (by omega)
  clear hlen
  rw [headT_all] at hpf ⊢
  have h00 : ∀ j, rul0.getD j 0 = 0 := fun j => by
    rw [List.getD_eq_getElem?_getD]
    by_cases hj : j < 15
    · have : ∀ j, j < 15 → rul0[j]?.getD 0 = 0 := by decide +kernel
      exact this j hj
    · rw [List.getElem?_eq_none (by show 15 ≤ j; omega)]; rfl
  have hl := linesF_text hL hn 15 (Nat.le_refl _) rulD rul0 rfl rfl (fun j _ => h00 j) (fun j hj => absurd hj (by omega))
  rw [show 15 - 15 = 0 from rfl] at hl
  rcases hl with ⟨A', hl⟩ | ⟨⟨line, name, hl⟩, j, hj, hneg⟩
  · rw [hl] at hpf
    simp only at hpf
    rw [hpf]
    refine ⟨fun hg => ?_, fun i hi hb => ?_⟩
    · unfold endF
      rw [firstBad_none hg]
    · unfold endF
      cases q : firstBad L with
      | some w => exact .inr rfl
      | none =>
        exfalso
        unfold firstBad at q
        rw [List.find?_eq_none] at q
        have := q i (by simpa using hi)
        simp only [decide_eq_true_eq, Classical.not_not] at this
        exact hb this
  · rw [hl] at hpf
    simp only at hpf
    rw [hpf]
    refine ⟨fun hg => ?_, fun i hi hb => .inl rfl⟩
    have := (hg j hj).1
    have := hlo j hj
    omega
theorem lineF_bad {A : List Int} {l name : List UInt8} {e : Int} (h : lineF A l = .bad name e) : e ≠ 0 := by
  unfold lineF at h
  split at h
  · cases h
  · split at h
    · cases h; decide
    · split at h
      · cases h; decide
      · split at h
        · cases h; decide
        · split at h
          · cases h; decide
          · cases h
theorem linesF_bad : ∀ (ls : List (List UInt8)) (i : Nat) (R A : List Int) (line : Int) (name : List UInt8) (e : Int), linesF i ls R A = .bad line name e → e ≠ 0
  | [], i, R, A, line, name, e, h => by rw [linesF] at h; cases h
  | ln :: r, i, R, A, line, name, e, h => by
    rw [linesF] at h
    cases q : lineF A ln with
    | skip => rw [q] at h; exact linesF_bad r _ _ _ _ _ _ h
    | bad a e' =>
      rw [q] at h
      simp only at h
      cases h
      exact lineF_bad q
    | put w n => rw [q] at h; exact linesF_bad r _ _ _ _ _ _ h
/-- What any text gives: no rules, or such as may be. -/
theorem parse_any (t : List UInt8) : ((parseF t).err ≠ 0 ∧ (parseF t).R = rul0) ∨ ((parseF t).err = 0 ∧ ∀ j, j < 15 → goodI j ((parseF t).R.getD j 0)) := by
  unfold parseF
  split
  · exact .inl ⟨by show (8 : Int) ≠ 0; decide, rfl⟩
  · split
    · rename_i line name e h
      exact .inl ⟨linesF_bad _ _ _ _ _ _ _ h, rfl⟩
    · rename_i R A h
      unfold endF
      cases q : firstBad R with
      | some w => exact .inl ⟨by show (30 : Int) ≠ 0; decide, rfl⟩
      | none =>
        refine .inr ⟨rfl, fun j hj => ?_⟩
        unfold firstBad at q
        rw [List.find?_eq_none] at q
        have := q j (by simpa using hj)
        simpa using this
theorem good_in64 {i : Nat} (hi : i < 15) {n : Int} (h : goodI i n) : in64 n := by
  have h1 : ∀ i, i < 15 → 0 ≤ slotLo i ∧ slotHi i ≤ 1073741824 := by decide +kernel
  have := h1 i hi
  have := h.1
  have := h.2.1
  unfold in64
  omega
end Go.Proofs.YtoiihalnbdehkaaDoor.B
