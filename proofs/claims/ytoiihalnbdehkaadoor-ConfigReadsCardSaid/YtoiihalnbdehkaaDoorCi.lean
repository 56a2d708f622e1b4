/-
  Layer 23: the document's lines, numbers, names, and what is wrong with rules.
-/
import Derived.Test.YtoiihalnbdehkaaDoorCf
import Derived.Test.YtoiihalnbdehkaaDoorIr24
import Derived.Test.YtoiihalnbdehkaaDoorCd
namespace Go.Proofs.YtoiihalnbdehkaaDoor.B
open Go
set_option linter.unusedVariables false
set_option linter.unusedSimpArgs false
set_option maxRecDepth 100000
theorem dl_len (s : ByteArray) : s.data.toList.length = s.size := Array.length_toList
theorem ba_get (s : ByteArray) {i : Nat} (h : i < s.size) : s[i]? = some (s.data.toList.getD i 0) := by
  rw [List.getD_eq_getElem?_getD, Array.getElem?_toList]
  have : i < s.data.size := h
  rw [Array.getElem?_eq_getElem this, getElem?_pos s i h]; rfl
theorem numL_long19 {l : List UInt8} (h : 19 < l.length) : numL maxN l = none := by
  unfold numL maxN
  refine if_neg fun ⟨⟨h1, h2, h3⟩, h4⟩ => ?_
  match l, h, h1, h3, h4 with
  | c :: r, h, h1, h3, h4 =>
    rw [digs, List.all_cons, Bool.and_eq_true, decide_eq_true_eq] at h1
    have hc : c ≠ 48 := by
      rcases h3 with q | q
      · rw [q] at h; omega
      · simpa using q
    have hc2 : c.toNat ≠ 48 := fun e => hc (UInt8.toNat_inj.1 e)
    have h5 := vlF_low r (c.toNat - 48)
    have h6 : vl (c :: r) = vlF (c.toNat - 48) r := by show vlF (0 * 10 + (c.toNat - 48)) r = _; rw [Nat.zero_mul, Nat.zero_add]
    have h7 : 10 ^ 19 ≤ 10 ^ r.length := Nat.pow_le_pow_right (by omega) (by rw [List.length_cons] at h; omega)
    have h8 : 1 * 10 ^ r.length ≤ (c.toNat - 48) * 10 ^ r.length := Nat.mul_le_mul_right _ (by omega)
    omega
theorem rnumber_spec (h : AHeap) (t : ByteArray) (hs : t.size ≤ 140737488351232) :
    ∃ (n : Int) (ok : Bool), Spec Tryd.prog nG fn.ref23_Number [.string t] h (.tuple #[.int .i64 n, .bool ok]) h ∧ ((ok = true ∧ 0 ≤ n ∧ numL maxN t.data.toList = some n.toNat) ∨ (ok = false ∧ numL maxN t.data.toList = none)) := by
  have dl := dl_len t
  suffices H : SpecX Tryd.prog nG fn.ref23_Number [.string t] h fun v' h' => h' = h ∧ ∃ (n : Int) (ok : Bool), v' = .tuple #[.int .i64 n, .bool ok] ∧ ((ok = true ∧ 0 ≤ n ∧ numL maxN t.data.toList = some n.toNat) ∨ (ok = false ∧ numL maxN t.data.toList = none)) by
    obtain ⟨v', h', hsp, rfl, n, ok, rfl, hq⟩ := H
    exact ⟨n, ok, hsp, hq⟩
  refine SpecX.of_body (ir.ref23_Number.spec (Nat.le_of_ble_eq_true rfl)) ?_
  by_cases z0 : t.size = 0
  · have d1 : ((t.size : Int) == 0) = true := by rw [z0]; rfl
    simp (dsimp := false) only [↓ir.ref23_Number.bw, ir.ref23_Number.rs, go_sem, Nat.reduceAdd, Nat.reduceEqDiff, Nat.reduceMul, Nat.reduceLeDiff, Nat.reduceSub, Nat.reduceLT, ↓reduceIte, reduceCtorEq, List.reduceReplicate, List.flatten_cons, List.flatten_nil, List.append_nil, eq_self, Int.reduceLE, Int.reduceLT, Int.reduceToNat, Nat.min_eq_left, Int.reducePow, Int.reduceNeg, Int.reduceEq, d1]
    refine ⟨0, false, rfl, .inr ⟨rfl, ?_⟩⟩
    rw [List.eq_nil_of_length_eq_zero (show t.data.toList.length = 0 by omega), numL_nil]
  have d1 : ((t.size : Int) == 0) = false := beq_eq_false_iff_ne.2 (by omega)
  by_cases z1 : 19 < t.size
  · have d3 : decide ((19 : Int) < t.size) = true := decide_eq_true (by omega)
    simp (dsimp := false) only [↓ir.ref23_Number.bw, ir.ref23_Number.rs, go_sem, Nat.reduceAdd, Nat.reduceEqDiff, Nat.reduceMul, Nat.reduceLeDiff, Nat.reduceSub, Nat.reduceLT, ↓reduceIte, reduceCtorEq, List.reduceReplicate, List.flatten_cons, List.flatten_nil, List.append_nil, eq_self, Int.reduceLE, Int.reduceLT, Int.reduceToNat, Nat.min_eq_left, Int.reducePow, Int.reduceNeg, Int.reduceEq, d1, gt_iff_lt, d3]
    exact ⟨0, false, rfl, .inr ⟨rfl, numL_long19 (by omega)⟩⟩
  have d3 : decide ((19 : Int) < t.size) = false := decide_eq_false (by omega)
  have g0 := ba_get t (i := 0) (by omega)
  obtain ⟨c0, r, hl⟩ : ∃ c0 r, t.data.toList = c0 :: r := by
    match hq : t.data.toList with
    | [] => rw [hq] at dl; simp at dl; omega
    | c :: r => exact ⟨c, r, rfl⟩
  have hc0 : t.data.toList.getD 0 0 = c0 := by rw [hl]; rfl
  rw [hc0] at g0
  simp (dsimp := false) only [↓ir.ref23_Number.bw, ir.ref23_Number.rs, go_sem, Nat.reduceAdd, Nat.reduceEqDiff, Nat.reduceMul, Nat.reduceLeDiff, Nat.reduceSub, Nat.reduceLT, ↓reduceIte, reduceCtorEq, List.reduceReplicate, List.flatten_cons, List.flatten_nil, List.append_nil, eq_self, Int.reduceLE, Int.reduceLT, Int.reduceToNat, Nat.min_eq_left, Int.reducePow, Int.reduceNeg, Int.reduceEq, d1, gt_iff_lt, d3, ixstrV_str, Int.toNat_zero, g0]
  have hz : ¬ (t.data.toList.head? = some 48 ∧ 1 < t.data.toList.length) ∨ (c0.toNat = 48 ∧ 1 < t.size) := by
    by_cases q : c0.toNat = 48 ∧ 1 < t.size
    · exact .inr q
    · refine .inl fun ⟨q1, q2⟩ => q ⟨?_, by omega⟩
      rw [hl] at q1
      have : c0 = 48 := by simpa using q1
      rw [this]; rfl
  by_cases zz : c0.toNat = 48 ∧ 1 < t.size
  · have e1 : (((c0.toNat : Nat) : Int) == 48) = true := by rw [zz.1]; rfl
    have d5 : decide ((1 : Int) < t.size) = true := decide_eq_true (by omega)
    simp (dsimp := false) only [go_sem, Nat.reduceAdd, Nat.reduceEqDiff, Nat.reduceMul, Nat.reduceLeDiff, Nat.reduceSub, Nat.reduceLT, ↓reduceIte, reduceCtorEq, List.reduceReplicate, List.flatten_cons, List.flatten_nil, List.append_nil, eq_self, Int.reduceLE, Int.reduceLT, Int.reduceToNat, Nat.min_eq_left, Int.reducePow, Int.reduceNeg, Int.reduceEq, e1, gt_iff_lt, d5]
    exact ⟨0, false, rfl, .inr ⟨rfl, numL_zero (by omega) (by rw [hl, List.head?_cons]; exact congrArg some (UInt8.toNat_inj.1 zz.1))⟩⟩
  have hz2 := hz.resolve_right zz
  have hne : t.data.toList ≠ [] := by rw [hl]; simp
  clear hz hc0 g0
  have step : ∀ i, i < t.size → ∃ c : UInt8, t[i]? = some c ∧ t.data.toList.take (i + 1) = t.data.toList.take i ++ [c] ∧ c ∈ t.data.toList := fun i hi => by
    have hi' : i < t.data.toList.length := by omega
    refine ⟨t.data.toList[i], ?_, List.take_succ_eq_append_getElem hi', List.getElem_mem hi'⟩
    rw [ba_get t hi, List.getD_eq_getElem?_getD, List.getElem?_eq_getElem hi']; rfl
  have hlast : ∀ (i : Nat), i = t.size → t.data.toList.take i = t.data.toList := fun i hi => List.take_of_length_le (by omega)
  by_cases e48 : c0.toNat = 48
  case' pos =>
    have e1 : (((c0.toNat : Nat) : Int) == 48) = true := by rw [e48]; rfl
    have d5 : decide ((1 : Int) < t.size) = false := decide_eq_false (by omega)
    simp (dsimp := false) only [go_sem, Nat.reduceAdd, Nat.reduceEqDiff, Nat.reduceMul, Nat.reduceLeDiff, Nat.reduceSub, Nat.reduceLT, ↓reduceIte, reduceCtorEq, List.reduceReplicate, List.flatten_cons, List.flatten_nil, List.append_nil, eq_self, Int.reduceLE, Int.reduceLT, Int.reduceToNat, Nat.min_eq_left, Int.reducePow, Int.reduceNeg, Int.reduceEq, e1, gt_iff_lt, d5]
  case' neg =>
    have e1 : (((c0.toNat : Nat) : Int) == 48) = false := by simp; omega
    simp (dsimp := false) only [go_sem, Nat.reduceAdd, Nat.reduceEqDiff, Nat.reduceMul, Nat.reduceLeDiff, Nat.reduceSub, Nat.reduceLT, ↓reduceIte, reduceCtorEq, List.reduceReplicate, List.flatten_cons, List.flatten_nil, List.append_nil, eq_self, Int.reduceLE, Int.reduceLT, Int.reduceToNat, Nat.min_eq_left, Int.reducePow, Int.reduceNeg, Int.reduceEq, e1]
  all_goals
    refine loopV_of (fun m e h2 => ∃ (i : Nat), m = t.size - i ∧ i ≤ t.size ∧ h2 = h ∧ digs (t.data.toList.take i) = true ∧ e = [(0, .string t), (4, .int .u64 ((vl (t.data.toList.take i) : Nat) : Int)), (5, .int .i64 i)]) _
      ⟨0, rfl, Nat.zero_le _, rfl, rfl, rfl⟩ ?_
    rintro m e h2 ⟨i, rfl, hi, rfl, hdg, rfl⟩
    rcases Nat.lt_or_ge i t.size with hlt | hge
    · obtain ⟨c, gi, tk, hmem⟩ := step i hlt
      have hd : decide ((i : Int) < t.size) = true := decide_eq_true (by omega)
      have e2 : IntKind.i64.wrap ((i : Int) + 1) = ((i + 1 : Nat) : Int) := wrap_succ hlt (by unfold maxI; omega)
      have hv := vlF_high (t.data.toList.take i) 0 hdg
      have hp : 10 ^ (t.data.toList.take i).length ≤ 10 ^ 18 := Nat.pow_le_pow_right (by omega) (by rw [List.length_take]; omega)
      have hv2 : vl (t.data.toList.take i) < 1000000000000000000 := by
        have : (0 + 1) * 10 ^ (t.data.toList.take i).length ≤ 1000000000000000000 := by omega
        exact Nat.lt_of_lt_of_le hv this
      obtain ⟨a, ha⟩ : ∃ a, vl (t.data.toList.take i) = a := ⟨_, rfl⟩
      rw [ha] at hv2 ⊢
      have hc256 := c.toNat_lt
      simp (dsimp := false) only [↓ir.ref23_Number.l1.bw, go_sem, Nat.reduceAdd, Nat.reduceEqDiff, Nat.reduceMul, Nat.reduceLeDiff, Nat.reduceSub, Nat.reduceLT, ↓reduceIte, reduceCtorEq, List.reduceReplicate, List.flatten_cons, List.flatten_nil, List.append_nil, eq_self, Int.reduceLE, Int.reduceLT, Int.reduceToNat, Nat.min_eq_left, Int.reducePow, Int.reduceNeg, Int.reduceEq, hd, ixstrV_str, Int.toNat_natCast, gi]
      have hbad : c.toNat < 48 ∨ 57 < c.toNat → digs t.data.toList = false := fun q => by
        cases hq : digs t.data.toList with
        | false => rfl
        | true => exact absurd hmem (digs_not hq q)
      refine ⟨by omega, ?_⟩
      by_cases b1 : c.toNat < 48
      · have f1 : decide (((c.toNat : Nat) : Int) < 48) = true := decide_eq_true (by omega)
        simp (dsimp := false) only [go_sem, Nat.reduceAdd, Nat.reduceEqDiff, Nat.reduceMul, Nat.reduceLeDiff, Nat.reduceSub, Nat.reduceLT, ↓reduceIte, reduceCtorEq, List.reduceReplicate, List.flatten_cons, List.flatten_nil, List.append_nil, eq_self, Int.reduceLE, Int.reduceLT, Int.reduceToNat, Nat.min_eq_left, Int.reducePow, Int.reduceNeg, Int.reduceEq, f1]
        exact ⟨0, false, rfl, .inr ⟨rfl, numL_bad (hbad (.inl b1))⟩⟩
      have f1 : decide (((c.toNat : Nat) : Int) < 48) = false := decide_eq_false (by omega)
      by_cases b2 : 57 < c.toNat
      · have f2 : decide (((c.toNat : Nat) : Int) > 57) = true := decide_eq_true (by omega)
        have f3 : decide ((57 : Int) < ((c.toNat : Nat) : Int)) = true := f2
        simp (dsimp := false) only [go_sem, Nat.reduceAdd, Nat.reduceEqDiff, Nat.reduceMul, Nat.reduceLeDiff, Nat.reduceSub, Nat.reduceLT, ↓reduceIte, reduceCtorEq, List.reduceReplicate, List.flatten_cons, List.flatten_nil, List.append_nil, eq_self, Int.reduceLE, Int.reduceLT, Int.reduceToNat, Nat.min_eq_left, Int.reducePow, Int.reduceNeg, Int.reduceEq, f1, f2, f3, gt_iff_lt, ixstrV_str, Int.toNat_natCast, gi]
        exact ⟨by omega, 0, false, rfl, .inr ⟨rfl, numL_bad (hbad (.inr b2))⟩⟩
      have f2 : decide (((c.toNat : Nat) : Int) > 57) = false := decide_eq_false (by omega)
      have f3 : decide ((57 : Int) < ((c.toNat : Nat) : Int)) = false := f2
      have m1 : IntKind.u64.wrap ((a : Int) * 10) = ((a * 10 : Nat) : Int) := by rw [← wrapU64 (n := a * 10) (by omega)]; congr 1
      have m2 : IntKind.u8.wrap (((c.toNat : Nat) : Int) - 48) = ((c.toNat - 48 : Nat) : Int) := by rw [← wrapU8 (n := c.toNat - 48) (by omega)]; congr 1; omega
      have m3 := wrapU64 (n := c.toNat - 48) (by omega)
      have m4 : IntKind.u64.wrap (((a * 10 : Nat) : Int) + ((c.toNat - 48 : Nat) : Int)) = ((a * 10 + (c.toNat - 48) : Nat) : Int) := by rw [← wrapU64 (n := a * 10 + (c.toNat - 48)) (by omega)]; congr 1
      simp (dsimp := false) only [go_sem, Nat.reduceAdd, Nat.reduceEqDiff, Nat.reduceMul, Nat.reduceLeDiff, Nat.reduceSub, Nat.reduceLT, ↓reduceIte, reduceCtorEq, List.reduceReplicate, List.flatten_cons, List.flatten_nil, List.append_nil, eq_self, Int.reduceLE, Int.reduceLT, Int.reduceToNat, Nat.min_eq_left, Int.reducePow, Int.reduceNeg, Int.reduceEq, f1, f2, f3, gt_iff_lt, ixstrV_str, Int.toNat_natCast, gi, m1, m2, m3, m4, e2]
      refine ⟨by omega, by omega, _, by omega, i + 1, rfl, by omega, ?_, ?_⟩
      · rw [tk, digs_snoc, hdg]; simp; omega
      · rw [tk, vl, vlF_snoc, ← ha]
    · have hd : decide ((i : Int) < t.size) = false := decide_eq_false (by omega)
      simp (dsimp := false) only [↓ir.ref23_Number.l1.bw, go_sem, Nat.reduceAdd, Nat.reduceEqDiff, Nat.reduceMul, Nat.reduceLeDiff, Nat.reduceSub, Nat.reduceLT, ↓reduceIte, reduceCtorEq, List.reduceReplicate, List.flatten_cons, List.flatten_nil, List.append_nil, eq_self, Int.reduceLE, Int.reduceLT, Int.reduceToNat, Nat.min_eq_left, Int.reducePow, Int.reduceNeg, Int.reduceEq, hd]
      obtain rfl : i = t.size := by omega
      rw [hlast _ rfl] at hdg ⊢
      have hnd := numL_digs (M := maxN) hne hdg hz2
      by_cases q : vl t.data.toList ≤ maxN
      · rw [if_pos q] at hnd
        unfold maxN at q
        have f4 : decide ((9223372036854775807 : Int) < ((vl t.data.toList : Nat) : Int)) = false := decide_eq_false (by omega)
        have w4 : IntKind.i64.wrap ((vl t.data.toList : Nat) : Int) = ((vl t.data.toList : Nat) : Int) := wrap_i64 (by omega)
        simp (dsimp := false) only [go_sem, Nat.reduceAdd, Nat.reduceEqDiff, Nat.reduceMul, Nat.reduceLeDiff, Nat.reduceSub, Nat.reduceLT, ↓reduceIte, reduceCtorEq, List.reduceReplicate, List.flatten_cons, List.flatten_nil, List.append_nil, eq_self, Int.reduceLE, Int.reduceLT, Int.reduceToNat, Nat.min_eq_left, Int.reducePow, Int.reduceNeg, Int.reduceEq, gt_iff_lt, f4, w4]
        exact ⟨_, true, rfl, .inl ⟨rfl, by omega, by rw [hnd]; simp⟩⟩
      · rw [if_neg q] at hnd
        unfold maxN at q
        have f4 : decide ((9223372036854775807 : Int) < ((vl t.data.toList : Nat) : Int)) = true := decide_eq_true (by omega)
        simp (dsimp := false) only [go_sem, Nat.reduceAdd, Nat.reduceEqDiff, Nat.reduceMul, Nat.reduceLeDiff, Nat.reduceSub, Nat.reduceLT, ↓reduceIte, reduceCtorEq, List.reduceReplicate, List.flatten_cons, List.flatten_nil, List.append_nil, eq_self, Int.reduceLE, Int.reduceLT, Int.reduceToNat, Nat.min_eq_left, Int.reducePow, Int.reduceNeg, Int.reduceEq, gt_iff_lt, f4]
        exact ⟨_, false, rfl, .inr ⟨rfl, hnd⟩⟩
theorem names_spec (h : AHeap) : SpecX Tryd.prog nG fn.ref23_Names [] h fun v' h' => Pre h h' ∧ Ow h h' 1 v' 15 (idx15.map fun i => .string (slotN i)) := by
  refine SpecX.of_body (ir.ref23_Names.spec (Nat.le_of_ble_eq_true rfl)) ?_
  simp (dsimp := false) only [↓ir.ref23_Names.bw, ir.ref23_Names.rs, go_sem, Nat.reduceAdd, Nat.reduceEqDiff, Nat.reduceMul, Nat.reduceLeDiff, Nat.reduceSub, Nat.reduceLT, ↓reduceIte, reduceCtorEq, List.reduceReplicate, List.flatten_cons, List.flatten_nil, List.append_nil, eq_self, Int.reduceLE, Int.reduceLT, Int.reduceToNat, Nat.min_eq_left, Int.reducePow, Int.reduceNeg, Int.reduceEq]
  have := Ow.row (h0 := h) (h := h ++ [.row (.grow 1) (idx15.map fun i => .string (slotN i))]) (sz := 1) (b := h.length) (off := 0) (n := 15) (cap := 15) (cells := idx15.map fun i => .string (slotN i)) (Nat.le_refl _) (by simp) (by decide) (Nat.le_refl _) (by unfold maxI; omega)
  exact this
theorem rdefault_spec (h : AHeap) : Spec Tryd.prog nG fn.ref23_Default [] h (.agg ⟨rulC rulD⟩) h := by
  apply ir.ref23_Default.spec (Nat.le_of_ble_eq_true rfl)
  simp (dsimp := false) only [↓ir.ref23_Default.bw, ir.ref23_Default.rs, go_sem, Nat.reduceAdd, Nat.reduceEqDiff, Nat.reduceMul, Nat.reduceLeDiff, Nat.reduceSub, Nat.reduceLT, ↓reduceIte, reduceCtorEq, List.reduceReplicate, List.flatten_cons, List.flatten_nil, List.append_nil, eq_self, Int.reduceLE, Int.reduceLT, Int.reduceToNat, Nat.min_eq_left, Int.reducePow, Int.reduceNeg, Int.reduceEq]
  exact Fin.agg rfl rfl
def loL : List Int := [1, 1, 0, 1, 1, 1, 0, 1, 0, 0, 1, 1, 0, 64, 1]
def hiL : List Int := [8, 15, 6, 1048576, 64, 1073741824, 1073741824, 1073741824, 1073741824, 1048576, 1048576, 1048576, 1048576, 4096, 1048576]
theorem rleast_spec (h : AHeap) : Spec Tryd.prog nG fn.ref23_Least [] h (.agg ⟨rulC loL⟩) h := by
  apply ir.ref23_Least.spec (Nat.le_of_ble_eq_true rfl)
  simp (dsimp := false) only [↓ir.ref23_Least.bw, ir.ref23_Least.rs, go_sem, Nat.reduceAdd, Nat.reduceEqDiff, Nat.reduceMul, Nat.reduceLeDiff, Nat.reduceSub, Nat.reduceLT, ↓reduceIte, reduceCtorEq, List.reduceReplicate, List.flatten_cons, List.flatten_nil, List.append_nil, eq_self, Int.reduceLE, Int.reduceLT, Int.reduceToNat, Nat.min_eq_left, Int.reducePow, Int.reduceNeg, Int.reduceEq]
  exact Fin.agg rfl rfl
theorem rmost_spec (h : AHeap) : Spec Tryd.prog nG fn.ref23_Most [] h (.agg ⟨rulC hiL⟩) h := by
  apply ir.ref23_Most.spec (Nat.le_of_ble_eq_true rfl)
  simp (dsimp := false) only [↓ir.ref23_Most.bw, ir.ref23_Most.rs, go_sem, Nat.reduceAdd, Nat.reduceEqDiff, Nat.reduceMul, Nat.reduceLeDiff, Nat.reduceSub, Nat.reduceLT, ↓reduceIte, reduceCtorEq, List.reduceReplicate, List.flatten_cons, List.flatten_nil, List.append_nil, eq_self, Int.reduceLE, Int.reduceLT, Int.reduceToNat, Nat.min_eq_left, Int.reducePow, Int.reduceNeg, Int.reduceEq]
  exact Fin.agg rfl rfl
theorem rlines_spec {h : AHeap} {t : ByteArray} (hm : t.size ≤ 4096) : SpecX Tryd.prog nG fn.ref23_Lines [.string t] h fun v' h' => Pre h h' ∧ Ow h h' 1 v' (splitL 10 t.data.toList).length ((splitL 10 t.data.toList).map sV) := by
  refine SpecX.of_body (ir.ref23_Lines.spec (Nat.le_of_ble_eq_true rfl)) ?_
  have dl := dl_len t
  simp (dsimp := false) only [↓ir.ref23_Lines.bw, ir.ref23_Lines.rs, go_sem, Nat.reduceAdd, Nat.reduceEqDiff, Nat.reduceMul, Nat.reduceLeDiff, Nat.reduceSub, Nat.reduceLT, ↓reduceIte, reduceCtorEq, List.reduceReplicate, List.flatten_cons, List.flatten_nil, List.append_nil, eq_self, Int.reduceLE, Int.reduceLT, Int.reduceToNat, Nat.min_eq_left, Int.reducePow, Int.reduceNeg, Int.reduceEq]
  refine loopV_of (fun m e h2 => ∃ (i from_ : Nat) (u : Value) (M : List (List UInt8)), m = t.size - i ∧ i ≤ t.size ∧ from_ ≤ i ∧ M.length ≤ i ∧ Pre h h2 ∧ Ow h h2 1 u M.length (M.map sV) ∧ splitL 10 t.data.toList = M ++ splitL 10 (t.data.toList.drop from_) ∧
    (∀ k, from_ ≤ k → k < i → t.data.toList.getD k 0 ≠ 10) ∧ e = [(0, .string t), (3, u), (4, .int .i64 from_), (5, .int .i64 i)]) _
    ⟨0, 0, nilS, [], rfl, Nat.zero_le _, Nat.le_refl _, Nat.zero_le _, .refl _, .nil, rfl, fun k h1 h2 => by omega, rfl⟩ ?_
  rintro m e h2 ⟨i, from_, u, M, rfl, hi, hfi, hM, hp, ho, hsp, hno, rfl⟩
  have drop_get : ∀ j, (t.data.toList.drop from_).getD j 0 = t.data.toList.getD (from_ + j) 0 := fun j => by
    rw [List.getD_eq_getElem?_getD, List.getD_eq_getElem?_getD, List.getElem?_drop]
  rcases Nat.lt_or_ge i t.size with hlt | hge
  · have hd : decide ((i : Int) < t.size) = true := decide_eq_true (by omega)
    have e2 : IntKind.i64.wrap ((i : Int) + 1) = ((i + 1 : Nat) : Int) := wrap_succ hlt (by unfold maxI; omega)
    have gi := ba_get t hlt
    obtain ⟨c, hc⟩ : ∃ c, t.data.toList.getD i 0 = c := ⟨_, rfl⟩
    rw [hc] at gi
    simp (dsimp := false) only [↓ir.ref23_Lines.l1.bw, go_sem, Nat.reduceAdd, Nat.reduceEqDiff, Nat.reduceMul, Nat.reduceLeDiff, Nat.reduceSub, Nat.reduceLT, ↓reduceIte, reduceCtorEq, List.reduceReplicate, List.flatten_cons, List.flatten_nil, List.append_nil, eq_self, Int.reduceLE, Int.reduceLT, Int.reduceToNat, Nat.min_eq_left, Int.reducePow, Int.reduceNeg, Int.reduceEq, hd, ixstrV_str, Int.toNat_natCast, gi]
    refine ⟨by omega, ?_⟩
    refine cVe (fun c10 => ?_) (fun c10 => ?_)
    · have hc10 : c = 10 := UInt8.toNat_inj.1 (by show c.toNat = 10; omega)
      have hx : Value.string (t.extract from_ i) = sV ((t.data.toList.drop from_).take (i - from_)) := by rw [extract_list, List.drop_take]; rfl
      simp (dsimp := false) only [go_sem, Nat.reduceAdd, Nat.reduceEqDiff, Nat.reduceMul, Nat.reduceLeDiff, Nat.reduceSub, Nat.reduceLT, ↓reduceIte, reduceCtorEq, List.reduceReplicate, List.flatten_cons, List.flatten_nil, List.append_nil, eq_self, Int.reduceLE, Int.reduceLT, Int.reduceToNat, Nat.min_eq_left, Int.reducePow, Int.reduceNeg, Int.reduceEq, slstrV_str, Option.getD_some, Int.toNat_natCast]
      refine ⟨by omega, ?_⟩
      simp (dsimp := false) only [go_sem, Nat.reduceAdd, Nat.reduceEqDiff, Nat.reduceMul, Nat.reduceLeDiff, Nat.reduceSub, Nat.reduceLT, ↓reduceIte, reduceCtorEq, List.reduceReplicate, List.flatten_cons, List.flatten_nil, List.append_nil, eq_self, Int.reduceLE, Int.reduceLT, Int.reduceToNat, Nat.min_eq_left, Int.reducePow, Int.reduceNeg, Int.reduceEq, Option.getD_some, Int.toNat_natCast, hx, sV_cells, sV_one]
      refine (ho.pre (.app _ _)).app (m := 1) rfl rfl ⟨by omega, by omega⟩ (fun u' h' ho' hch _ _ => ?_) (hp.app' _)
      simp (dsimp := false) only [go_sem, Nat.reduceAdd, Nat.reduceEqDiff, Nat.reduceMul, Nat.reduceLeDiff, Nat.reduceSub, Nat.reduceLT, ↓reduceIte, reduceCtorEq, List.reduceReplicate, List.flatten_cons, List.flatten_nil, List.append_nil, eq_self, Int.reduceLE, Int.reduceLT, Int.reduceToNat, Nat.min_eq_left, Int.reducePow, Int.reduceNeg, Int.reduceEq, e2]
      refine ⟨t.size - (i + 1), by omega, i + 1, i + 1, u', M ++ [(t.data.toList.drop from_).take (i - from_)], rfl, hlt, Nat.le_refl _, by simp; omega, hch.pre (hp.app' _), ?_, ?_, fun k h1 h2 => by omega, rfl⟩
      · rw [List.length_append, List.map_append]; exact ho'
      · have hcut := cutL_some (c := 10) (l := t.data.toList.drop from_) (p := i - from_) (by rw [List.length_drop]; omega) (by rw [drop_get, show from_ + (i - from_) = i by omega, hc]; exact hc10) (fun j hj => by rw [drop_get]; exact hno _ (by omega) (by omega))
        rw [hsp, splitL_cut, hcut, List.append_assoc]
        simp only [List.drop_drop, show from_ + (i - from_ + 1) = i + 1 by omega]
        rfl
    · simp (dsimp := false) only [go_sem, Nat.reduceAdd, Nat.reduceEqDiff, Nat.reduceMul, Nat.reduceLeDiff, Nat.reduceSub, Nat.reduceLT, ↓reduceIte, reduceCtorEq, List.reduceReplicate, List.flatten_cons, List.flatten_nil, List.append_nil, eq_self, Int.reduceLE, Int.reduceLT, Int.reduceToNat, Nat.min_eq_left, Int.reducePow, Int.reduceNeg, Int.reduceEq, e2]
      refine ⟨t.size - (i + 1), by omega, i + 1, from_, u, M, rfl, hlt, by omega, by omega, hp, ho, hsp, fun k h1 h2 => ?_, rfl⟩
      rcases Nat.lt_or_ge k i with z | z
      · exact hno k h1 z
      · obtain rfl : k = i := by omega
        rw [hc]
        intro q
        rw [q] at c10
        exact c10 rfl
  · obtain rfl : i = t.size := by omega
    have hd : decide ((t.size : Int) < t.size) = false := decide_eq_false (by omega)
    have hx : Value.string (t.extract from_ t.size) = sV (t.data.toList.drop from_) := by rw [extract_list, List.take_of_length_le (by omega)]; rfl
    have hcut := cutL_none (c := 10) (l := t.data.toList.drop from_) (fun j hj => by rw [drop_get]; rw [List.length_drop] at hj; exact hno _ (by omega) (by omega))
    have hend : splitL 10 t.data.toList = M ++ [t.data.toList.drop from_] := by rw [hsp, splitL_cut, hcut]
    simp (dsimp := false) only [↓ir.ref23_Lines.l1.bw, go_sem, Nat.reduceAdd, Nat.reduceEqDiff, Nat.reduceMul, Nat.reduceLeDiff, Nat.reduceSub, Nat.reduceLT, ↓reduceIte, reduceCtorEq, List.reduceReplicate, List.flatten_cons, List.flatten_nil, List.append_nil, eq_self, Int.reduceLE, Int.reduceLT, Int.reduceToNat, Nat.min_eq_left, Int.reducePow, Int.reduceNeg, Int.reduceEq, hd, slstrV_str, Option.getD_some, Option.getD_none, Int.toNat_natCast]
    refine ⟨by omega, ?_⟩
    simp (dsimp := false) only [go_sem, Nat.reduceAdd, Nat.reduceEqDiff, Nat.reduceMul, Nat.reduceLeDiff, Nat.reduceSub, Nat.reduceLT, ↓reduceIte, reduceCtorEq, List.reduceReplicate, List.flatten_cons, List.flatten_nil, List.append_nil, eq_self, Int.reduceLE, Int.reduceLT, Int.reduceToNat, Nat.min_eq_left, Int.reducePow, Int.reduceNeg, Int.reduceEq, Option.getD_some, Option.getD_none, Int.toNat_natCast, hx, sV_cells, sV_one]
    refine (ho.pre (.app _ _)).app (m := 1) rfl rfl ⟨by omega, by omega⟩ (fun u' h' ho' hch _ _ => ?_) (hp.app' _)
    simp (dsimp := false) only [go_sem, Nat.reduceAdd, Nat.reduceEqDiff, Nat.reduceMul, Nat.reduceLeDiff, Nat.reduceSub, Nat.reduceLT, ↓reduceIte, reduceCtorEq, List.reduceReplicate, List.flatten_cons, List.flatten_nil, List.append_nil, eq_self, Int.reduceLE, Int.reduceLT, Int.reduceToNat, Nat.min_eq_left, Int.reducePow, Int.reduceNeg, Int.reduceEq]
    refine ⟨hch.pre (hp.app' _), ?_⟩
    rw [hend, List.length_append, List.map_append]
    exact ho'
end Go.Proofs.YtoiihalnbdehkaaDoor.B
/-
  Layer 23: the document's answer to what is wrong with rules, and its rules of a text.
-/
namespace Go.Proofs.YtoiihalnbdehkaaDoor.B
open Go
set_option linter.unusedVariables false
set_option linter.unusedSimpArgs false
set_option maxRecDepth 100000
theorem rcheck_spec {h : AHeap} {L : List Int} (hL : L.length = 15) : ∃ r : Int, Spec Tryd.prog nG fn.ref23_Check [.agg ⟨rulC L⟩] h (.int .i64 r) h ∧ ((r = -1 ∧ ∀ j, j < 15 → goodI j (L.getD j 0)) ∨ ∃ i : Nat, i < 15 ∧ r = i ∧ ¬ goodI i (L.getD i 0) ∧ ∀ j, j < i → goodI j (L.getD j 0)) := by
  refine SpecX.int (SpecX.of_body (ir.ref23_Check.spec (Nat.le_of_ble_eq_true rfl)) ?_)
  have e1 : (rulC loL).length = 15 := rfl
  have e2 := rulC_one loL
  have e3 : setC [Value.int .i64 0, .int .i64 0, .int .i64 0, .int .i64 0, .int .i64 0, .int .i64 0, .int .i64 0, .int .i64 0, .int .i64 0, .int .i64 0, .int .i64 0, .int .i64 0, .int .i64 0, .int .i64 0, .int .i64 0] 0 (rulC loL) = rulC loL := rfl
  have e4 : (rulC hiL).length = 15 := rfl
  have e5 := rulC_one hiL
  have e6 : setC [Value.int .i64 0, .int .i64 0, .int .i64 0, .int .i64 0, .int .i64 0, .int .i64 0, .int .i64 0, .int .i64 0, .int .i64 0, .int .i64 0, .int .i64 0, .int .i64 0, .int .i64 0, .int .i64 0, .int .i64 0] 0 (rulC hiL) = rulC hiL := rfl
  simp (dsimp := false) only [↓ir.ref23_Check.bw, ir.ref23_Check.rs, go_sem, Nat.reduceAdd, Nat.reduceEqDiff, Nat.reduceMul, Nat.reduceLeDiff, Nat.reduceSub, Nat.reduceLT, ↓reduceIte, reduceCtorEq, List.reduceReplicate, List.flatten_cons, List.flatten_nil, List.append_nil, eq_self, Int.reduceLE, Int.reduceLT, Int.reduceToNat, Nat.min_eq_left, Int.reducePow, Int.reduceNeg, Int.reduceEq]
  refine callV_of (rleast_spec _) ?_
  simp (dsimp := false) only [go_sem, Nat.reduceAdd, Nat.reduceEqDiff, Nat.reduceMul, Nat.reduceLeDiff, Nat.reduceSub, Nat.reduceLT, ↓reduceIte, reduceCtorEq, List.reduceReplicate, List.flatten_cons, List.flatten_nil, List.append_nil, eq_self, Int.reduceLE, Int.reduceLT, Int.reduceToNat, Nat.min_eq_left, Int.reducePow, Int.reduceNeg, Int.reduceEq]
  refine callV_of (rmost_spec _) ?_
  simp (dsimp := false) only [go_sem, Nat.reduceAdd, Nat.reduceEqDiff, Nat.reduceMul, Nat.reduceLeDiff, Nat.reduceSub, Nat.reduceLT, ↓reduceIte, reduceCtorEq, List.reduceReplicate, List.flatten_cons, List.flatten_nil, List.append_nil, eq_self, Int.reduceLE, Int.reduceLT, Int.reduceToNat, Nat.min_eq_left, Int.reducePow, Int.reduceNeg, Int.reduceEq, e1, e2, e3, e4, e5, e6, Option.map_some, Nat.le_refl]
  obtain ⟨h1, eh1⟩ : ∃ h1, h ++ [AObj.row .fix (rulC L), .row .fix (rulC loL), .row .fix (rulC hiL)] = h1 := ⟨_, rfl⟩
  have hp1 : Pre h h1 := eh1 ▸ .app _ _
  have f1 : Fx h1 h.length (rulC L) := eh1 ▸ Fx.here _ _ _
  have f2 : Fx h1 (h.length + 1) (rulC loL) := by rw [← eh1]; simp [Fx]
  have f3 : Fx h1 (h.length + 2) (rulC hiL) := by rw [← eh1]; simp [Fx]
  rw [eh1]
  clear eh1 e1 e2 e3 e4 e5 e6
  refine loopV_of (fun m e h2 => ∃ i : Nat, m = 15 - i ∧ i ≤ 15 ∧ h2 = h1 ∧ (∀ j, j < i → goodI j (L.getD j 0)) ∧ e = [(1, .pointer (some ⟨h.length, 0, none⟩)), (3, .pointer (some ⟨h.length + 1, 0, none⟩)), (4, .pointer (some ⟨h.length + 2, 0, none⟩)), (5, .int .i64 i)]) _ ⟨0, rfl, Nat.zero_le _, rfl, fun j hj => absurd hj (Nat.not_lt_zero _), rfl⟩ ?_
  rintro m e h2 ⟨i, rfl, hi, rfl, hg, rfl⟩
  rcases Nat.lt_or_ge i 15 with hlt | hge
  · have e0 : (i : Int) < 15 := by omega
    have e0' : (i : Int) < ((15 : Nat) : Int) := by omega
    have c0 : (0 : Int) ≤ (i : Int) := by omega
    have wi : IntKind.i64.wrap ((i : Int) + 1) = ((i + 1 : Nat) : Int) := wrap_succ hlt (by unfold maxI; omega)
    have r1 : rds h2 h.length i 1 = some [.int .i64 (L.getD i 0)] := f1.rd (rulC_rd (by omega)) (by rw [rulC_len, hL]; omega)
    have r2 : rds h2 (h.length + 1) i 1 = some [.int .i64 (slotLo i)] := f2.rd (rulC_rd (by show i < 15; omega)) (by rw [rulC_len]; show i + 1 ≤ 15; omega)
    have r3 : rds h2 (h.length + 2) i 1 = some [.int .i64 (slotHi i)] := f3.rd (rulC_rd (by show i < 15; omega)) (by rw [rulC_len]; show i + 1 ≤ 15; omega)
    have done : goodI i (L.getD i 0) → ∃ m', m' < 15 - i ∧ ∃ j : Nat, m' = 15 - j ∧ j ≤ 15 ∧ (∀ k, k < j → goodI k (L.getD k 0)) ∧ [(1, Value.pointer (some ⟨h.length, 0, none⟩)), (3, .pointer (some ⟨h.length + 1, 0, none⟩)), (4, .pointer (some ⟨h.length + 2, 0, none⟩)), (5, .int .i64 ((i + 1 : Nat) : Int))] = [(1, Value.pointer (some ⟨h.length, 0, none⟩)), (3, .pointer (some ⟨h.length + 1, 0, none⟩)), (4, .pointer (some ⟨h.length + 2, 0, none⟩)), (5, .int .i64 (j : Int))] := fun q =>
      ⟨15 - (i + 1), by omega, i + 1, rfl, hlt, fun k hk => by
        rcases Nat.lt_or_ge k i with z | z
        · exact hg k z
        · obtain rfl : k = i := by omega
          exact q, rfl⟩
    have bad : ¬ goodI i (L.getD i 0) → Pre h h2 ∧ ∃ n : Int, Value.int .i64 (i : Int) = .int .i64 n ∧ ((n = -1 ∧ ∀ j, j < 15 → goodI j (L.getD j 0)) ∨ ∃ i : Nat, i < 15 ∧ n = i ∧ ¬ goodI i (L.getD i 0) ∧ ∀ j, j < i → goodI j (L.getD j 0)) := fun q =>
      ⟨hp1, _, rfl, .inr ⟨i, hlt, rfl, q, hg⟩⟩
    obtain ⟨N, hN⟩ : ∃ N, L.getD i 0 = N := ⟨_, rfl⟩
    rw [hN] at r1 done bad
    simp (dsimp := false) only [↓ir.ref23_Check.l1.bw, go_sem, Nat.reduceAdd, Nat.reduceEqDiff, Nat.reduceMul, Nat.reduceLeDiff, Nat.reduceSub, Nat.reduceLT, ↓reduceIte, reduceCtorEq, List.reduceReplicate, List.flatten_cons, List.flatten_nil, List.append_nil, eq_self, Int.reduceLE, Int.reduceLT, Int.reduceToNat, Nat.min_eq_left, Int.reducePow, Int.reduceNeg, Int.reduceEq, e0, e0', c0, decide_true, true_and, and_true, Int.toNat_natCast, Nat.mul_one, Nat.zero_add, r1, r2, r3]
    repeat' (first | ((first | refine cVd (fun hc => ?_) (fun hc => ?_) | refine gTd (fun hc => ?_) (fun hc => ?_) | refine gFd (fun hc => ?_) (fun hc => ?_) | refine cVe (fun hc => ?_) (fun hc => ?_) | refine gTe (fun hc => ?_) (fun hc => ?_) | refine gFe (fun hc => ?_) (fun hc => ?_) | refine cVn (fun hc => ?_) (fun hc => ?_) | refine gTn (fun hc => ?_) (fun hc => ?_) | refine gFn (fun hc => ?_) (fun hc => ?_) | refine cV (fun hc => ?_) (fun hc => ?_) | refine gT (fun hc => ?_) (fun hc => ?_) | refine gF (fun hc => ?_) (fun hc => ?_)) <;> try simp (dsimp := false) only [go_sem, Nat.reduceAdd, Nat.reduceEqDiff, Nat.reduceMul, Nat.reduceLeDiff, Nat.reduceSub, Nat.reduceLT, ↓reduceIte, reduceCtorEq, List.reduceReplicate, List.flatten_cons, List.flatten_nil, List.append_nil, eq_self, Int.reduceLE, Int.reduceLT, Int.reduceToNat, Nat.min_eq_left, Int.reducePow, Int.reduceNeg, Int.reduceEq, e0, e0', c0, decide_true, true_and, and_true, Int.toNat_natCast, Nat.mul_one, Nat.zero_add, r1, r2, r3, gt_iff_lt, wi]) | (with_reducible refine And.intro (by omega) ?_ <;> try simp (dsimp := false) only [go_sem, Nat.reduceAdd, Nat.reduceEqDiff, Nat.reduceMul, Nat.reduceLeDiff, Nat.reduceSub, Nat.reduceLT, ↓reduceIte, reduceCtorEq, List.reduceReplicate, List.flatten_cons, List.flatten_nil, List.append_nil, eq_self, Int.reduceLE, Int.reduceLT, Int.reduceToNat, Nat.min_eq_left, Int.reducePow, Int.reduceNeg, Int.reduceEq, e0, e0', c0, decide_true, true_and, and_true, Int.toNat_natCast, Nat.mul_one, Nat.zero_add, r1, r2, r3, gt_iff_lt, wi]))
    all_goals first
      | exact (bad (fun q => by have := q.1; have := q.2.1; omega)).2
      | exact (bad (fun q => by have := q.2.2 (by omega); omega)).2
      | exact done ⟨by omega, by omega, fun q => by omega⟩
  · obtain rfl : i = 15 := by omega
    simp (dsimp := false) only [↓ir.ref23_Check.l1.bw, go_sem, Nat.reduceAdd, Nat.reduceEqDiff, Nat.reduceMul, Nat.reduceLeDiff, Nat.reduceSub, Nat.reduceLT, ↓reduceIte, reduceCtorEq, List.reduceReplicate, List.flatten_cons, List.flatten_nil, List.append_nil, eq_self, Int.reduceLE, Int.reduceLT, Int.reduceToNat, Nat.min_eq_left, Int.reducePow, Int.reduceNeg, Int.reduceEq, show ¬ ((15 : Nat) : Int) < 15 by omega, decide_false]
    exact ⟨hp1, _, rfl, .inl ⟨rfl, hg⟩⟩
end Go.Proofs.YtoiihalnbdehkaaDoor.B
/-
  Layer 23: the rules of a text, by the document.
-/
namespace Go.Proofs.YtoiihalnbdehkaaDoor.B
open Go
set_option linter.unusedVariables false
set_option linter.unusedSimpArgs false
set_option maxRecDepth 100000
/-- What stands behind the first line: results, rules, lines. -/
structure RSt (h h2 : AHeap) (R A : List Int) : Prop where
  pre : Pre h h2
  f2 : Fx h2 h.length (rulC rul0)
  f3 : Fx h2 (h.length + 1) (misC 0 [] 0)
  f4 : Fx h2 (h.length + 2) (rulC R)
  f5 : Fx h2 (h.length + 3) (rulC A)
  len : R.length = 15
  alen : A.length = 15
theorem RSt.app {h h2 : AHeap} {R A : List Int} (k : RSt h h2 R A) {h3 : AHeap} (p : Pre h2 h3) : RSt h h3 R A := ⟨k.pre.trans p, k.f2.pre p, k.f3.pre p, k.f4.pre p, k.f5.pre p, k.len, k.alen⟩
theorem RSt.out {h h2 : AHeap} {R A : List Int} (k : RSt h h2 R A) {L : List Int} (hL : L.length = 15) (x y z : Value) : ∃ h3 h4, wrs h2 h.length 0 (rulC L) = some h3 ∧ wrs h3 (h.length + 1) 0 [x, y, z] = some h4 ∧ rds h4 h.length 0 15 = some (rulC L) ∧ rds h4 (h.length + 1) 0 3 = some [x, y, z] ∧ Pre h h4 := by
  have e1 : setC (rulC rul0) 0 (rulC L) = rulC L := by
    rw [setC_eq (by rw [rulC_len, rulC_len, hL]; decide), List.take_zero, List.nil_append, List.drop_of_length_le (by rw [rulC_len, rulC_len, hL]; decide), List.append_nil]
  have w1 := k.f2.wr (off := 0) (vs := rulC L) (by rw [rulC_len, rulC_len, hL]; decide)
  rw [e1] at w1
  have g3 := k.f3.other (show h.length ≠ h.length + 1 by omega) (.row .fix (rulC L))
  have w2 := g3.wr (off := 0) (vs := [x, y, z]) (by simp)
  have g2 := (k.f2.set (rulC L)).other (show h.length + 1 ≠ h.length by omega) (.row .fix (setC (misC 0 [] 0) 0 [x, y, z]))
  refine ⟨_, _, w1, w2, g2.rd (by rw [List.drop_zero, List.take_of_length_le (by rw [rulC_len, hL]; exact Nat.le_refl _)]) (by rw [rulC_len, hL]; exact Nat.le_refl _), (g3.set _).rd rfl (by simp [misC, setC_cons, setC_nil]), (k.pre.put (Nat.le_refl _) _).put (by omega) _⟩
theorem RSt.step {h h2 : AHeap} {R A : List Int} (k : RSt h h2 R A) (j : Nat) (n x : Int) : RSt h ((h2.set (h.length + 3) (.row .fix (rulC (A.set j x)))).set (h.length + 2) (.row .fix (rulC (R.set j n)))) (R.set j n) (A.set j x) :=
  ⟨(k.pre.put (by omega) _).put (by omega) _, (k.f2.other (by omega) _).other (by omega) _, (k.f3.other (by omega) _).other (by omega) _, (k.f4.other (by omega) _).set _, (k.f5.set _).other (by omega) _, by simpa using k.len, by simpa using k.alen⟩
/-- A loop in a block, cut from what follows. -/
theorem loopV_block {P : Program} {G : Nat} {a : C} {e : Env} {h : AHeap} {i : Nat} {N : Env → AHeap → Prop} {Q : Post} {u : Hold (blockC i (thenC N Q))} (K : Env → AHeap → Prop) (k : loopV P G a e h (blockC i (thenC K fun _ _ _ => False)) ()) (hK : ∀ e h, K e h → N e h) : loopV P G a e h (blockC i (thenC N Q)) u := by
  refine wpC_mono (.loop a) (fun x e h q => ?_) k
  cases x with
  | normal => exact hK e h q
  | exit j =>
    simp only [blockC] at q ⊢
    split at q
    · rename_i e1; rw [if_pos e1]; exact hK e h q
    · exact q.elim
  | goto l => exact q.elim
  | ret => exact q.elim
  | panic c => exact q.elim
  | outgrown => exact q.elim
theorem rparse_spec {h : AHeap} {t : ByteArray} (hm : t.size ≤ 140737488351232) : SpecX Tryd.prog nG fn.ref23_Parse [.string t] h fun v' h' => Pre h h' ∧ v' = resV (parseF t.data.toList) := by
  refine SpecX.of_body (ir.ref23_Parse.spec (Nat.le_of_ble_eq_true rfl)) ?_
  have htl : t.data.toList.length = t.size := Array.length_toList
  have e1 : (rulC rulD).length = 15 := rfl
  have e2 := rulC_one rulD
  have e3 : setC [Value.int .i64 0, .int .i64 0, .int .i64 0, .int .i64 0, .int .i64 0, .int .i64 0, .int .i64 0, .int .i64 0, .int .i64 0, .int .i64 0, .int .i64 0, .int .i64 0, .int .i64 0, .int .i64 0, .int .i64 0] 0 (rulC rulD) = rulC rulD := rfl
  simp (dsimp := false) only [↓ir.ref23_Parse.bw, ir.ref23_Parse.rs, go_sem, Nat.reduceAdd, Nat.reduceEqDiff, Nat.reduceMul, Nat.reduceLeDiff, Nat.reduceSub, Nat.reduceLT, ↓reduceIte, reduceCtorEq, List.reduceReplicate, List.flatten_cons, List.flatten_nil, List.append_nil, eq_self, Int.reduceLE, Int.reduceLT, Int.reduceToNat, Nat.min_eq_left, Int.reducePow, Int.reduceNeg, Int.reduceEq, gt_iff_lt]
  refine cVd (fun c => ?_) (fun c => ?_)
  · have hf : parseF t.data.toList = ⟨rul0, 0, [], 8⟩ := by unfold parseF; exact if_pos (by omega)
    simp (dsimp := false) only [go_sem, Nat.reduceAdd, Nat.reduceEqDiff, Nat.reduceMul, Nat.reduceLeDiff, Nat.reduceSub, Nat.reduceLT, ↓reduceIte, reduceCtorEq, List.reduceReplicate, List.flatten_cons, List.flatten_nil, List.append_nil, eq_self, Int.reduceLE, Int.reduceLT, Int.reduceToNat, Nat.min_eq_left, Int.reducePow, Int.reduceNeg, Int.reduceEq]
    rw [hf]
    rfl
  have hf : parseF t.data.toList = match linesF 0 (splitL 10 t.data.toList) rulD rul0 with
    | .bad line name e => ⟨rul0, line, name, e⟩
    | .fin R A => endF R A := by unfold parseF; exact if_neg (by omega)
  simp (dsimp := false) only [go_sem, Nat.reduceAdd, Nat.reduceEqDiff, Nat.reduceMul, Nat.reduceLeDiff, Nat.reduceSub, Nat.reduceLT, ↓reduceIte, reduceCtorEq, List.reduceReplicate, List.flatten_cons, List.flatten_nil, List.append_nil, eq_self, Int.reduceLE, Int.reduceLT, Int.reduceToNat, Nat.min_eq_left, Int.reducePow, Int.reduceNeg, Int.reduceEq]
  refine callV_of (rdefault_spec _) ?_
  simp (dsimp := false) only [go_sem, Nat.reduceAdd, Nat.reduceEqDiff, Nat.reduceMul, Nat.reduceLeDiff, Nat.reduceSub, Nat.reduceLT, ↓reduceIte, reduceCtorEq, List.reduceReplicate, List.flatten_cons, List.flatten_nil, List.append_nil, eq_self, Int.reduceLE, Int.reduceLT, Int.reduceToNat, Nat.min_eq_left, Int.reducePow, Int.reduceNeg, Int.reduceEq, e1, e2, e3, Option.map_some, Nat.le_refl]
  obtain ⟨h1, eh1⟩ : ∃ h1, h ++
      [AObj.row Mode.fix [Value.int .i64 0, .int .i64 0, .int .i64 0, .int .i64 0, .int .i64 0, .int .i64 0, .int .i64 0, .int .i64 0, .int .i64 0, .int .i64 0, .int .i64 0, .int .i64 0, .int .i64 0, .int .i64 0, .int .i64 0],
        AObj.row Mode.fix [Value.int .i64 0, .string ByteArray.empty, .int .i64 0], AObj.row Mode.fix (rulC rulD), AObj.row Mode.fix [Value.int .i64 0, .int .i64 0, .int .i64 0, .int .i64 0, .int .i64 0, .int .i64 0, .int .i64 0, .int .i64 0, .int .i64 0, .int .i64 0, .int .i64 0, .int .i64 0, .int .i64 0, .int .i64 0, .int .i64 0]] = h1 := ⟨_, rfl⟩
  have ps1 : RSt h h1 rulD rul0 := by
    rw [← eh1]
    exact ⟨.app _ _, Fx.here _ _ _, by simp [Fx]; rfl, by simp [Fx], by simp [Fx]; rfl, rfl, rfl⟩
  rw [eh1]
  clear eh1 e1 e2 e3
  obtain ⟨lines, hlines⟩ : ∃ lines, splitL 10 t.data.toList = lines := ⟨_, rfl⟩
  have hsp := rlines_spec (h := h1) (t := t) (by omega)
  rw [hlines] at hsp hf
  have hnl : lines.length ≤ 4097 := by
    rw [← hlines, splitL_len]
    have := List.count_le_length (a := (10 : UInt8)) (l := t.data.toList)
    omega
  have hsz : ∀ ln ∈ lines, ln.length ≤ 4096 := by
    rw [← hlines]
    intro ln hln
    have := splitL_mem hln
    omega
  clear hlines
  refine callV_x hsp ?_
  rintro v h2 ⟨hp2, ho⟩
  simp (dsimp := false) only [go_sem, Nat.reduceAdd, Nat.reduceEqDiff, Nat.reduceMul, Nat.reduceLeDiff, Nat.reduceSub, Nat.reduceLT, ↓reduceIte, reduceCtorEq, List.reduceReplicate, List.flatten_cons, List.flatten_nil, List.append_nil, eq_self, Int.reduceLE, Int.reduceLT, Int.reduceToNat, Nat.min_eq_left, Int.reducePow, Int.reduceNeg, Int.reduceEq]
  refine callV_x (names_spec _) ?_
  rintro w h3 ⟨hp3, hn⟩
  simp (dsimp := false) only [go_sem, Nat.reduceAdd, Nat.reduceEqDiff, Nat.reduceMul, Nat.reduceLeDiff, Nat.reduceSub, Nat.reduceLT, ↓reduceIte, reduceCtorEq, List.reduceReplicate, List.flatten_cons, List.flatten_nil, List.append_nil, eq_self, Int.reduceLE, Int.reduceLT, Int.reduceToNat, Nat.min_eq_left, Int.reducePow, Int.reduceNeg, Int.reduceEq]
  clear hsp
  refine loopV_of (fun m e h4 => ∃ (i : Nat) (R A : List Int), m = lines.length - i ∧ i ≤ lines.length ∧ RSt h h4 R A ∧ Ow h1 h4 1 v lines.length (lines.map sV) ∧ Ow h2 h4 1 w 15 (idx15.map fun i => .string (slotN i)) ∧ linesF 0 lines rulD rul0 = linesF i (lines.drop i) R A ∧
    e = [(2, .pointer (some ⟨h.length, 0, none⟩)), (3, .pointer (some ⟨h.length + 1, 0, none⟩)), (4, .pointer (some ⟨h.length + 2, 0, none⟩)), (5, .pointer (some ⟨h.length + 3, 0, none⟩)), (6, v), (7, w), (8, .int .i64 i)]) _
    ⟨0, rulD, rul0, rfl, Nat.zero_le _, (ps1.app hp2).app hp3, ho.pre hp3, hn, by rw [List.drop_zero], rfl⟩ ?_
  clear ho hp2 ps1 hn hp3
  clear h3
  rintro m e h3 ⟨i, R, A, rfl, hi, ps, ho, hn, hln, rfl⟩
  have ls : Ls h3 1 isStr v lines := by
    have := ho.sl
    rw [← sV_rows] at this
    exact this.ls (fun _ => rfl) rfl
  have lw : Ls h3 1 (fun c i => c = [.string (slotN i)]) w idx15 := Sl.ls (enc := fun i => [Value.string (slotN i)]) (fun _ => rfl) hn.sl rfl
  rcases Nat.lt_or_ge i lines.length with hlt | hge
  · have e0 : (i : Int) < (lines.length : Int) := by omega
    have wi : IntKind.i64.wrap ((i : Int) + 1) = ((i + 1 : Nat) : Int) := wrap_succ hlt (by unfold maxI; omega)
    obtain ⟨_, _, t0, r0, r1⟩ := ls.rd2 (.refl _) hlt
    subst t0
    have hs0 := hsz _ (List.getElem_mem hlt)
    rw [List.drop_eq_getElem_cons hlt, linesF] at hln
    obtain ⟨s, hs⟩ : ∃ s : ByteArray, (⟨lines[i].toArray⟩ : ByteArray) = s := ⟨_, rfl⟩
    have hsl : lines[i] = s.data.toList := by rw [← hs]
    have r0' : rds h3 (sb v) (so v + i * 1) 1 = some [.string s] := by rw [r0, ← hs]; rfl
    rw [hsl] at hln hs0
    have dls : s.data.toList.length = s.size := Array.length_toList
    clear r0 r1 hs hsl
    have next : ∀ (R' A' : List Int) (h4 : AHeap), RSt h h4 R' A' → Ow h1 h4 1 v lines.length (lines.map sV) → Ow h2 h4 1 w 15 (idx15.map fun i => .string (slotN i)) → linesF 0 lines rulD rul0 = linesF (i + 1) (lines.drop (i + 1)) R' A' →
        ∃ m', m' < lines.length - i ∧ ∃ (j : Nat) (R A : List Int), m' = lines.length - j ∧ j ≤ lines.length ∧ RSt h h4 R A ∧ Ow h1 h4 1 v lines.length (lines.map sV) ∧ Ow h2 h4 1 w 15 (idx15.map fun i => .string (slotN i)) ∧ linesF 0 lines rulD rul0 = linesF j (lines.drop j) R A ∧
        [(2, Value.pointer (some ⟨h.length, 0, none⟩)), (3, .pointer (some ⟨h.length + 1, 0, none⟩)), (4, .pointer (some ⟨h.length + 2, 0, none⟩)), (5, .pointer (some ⟨h.length + 3, 0, none⟩)), (6, v), (7, w), (8, .int .i64 ((i + 1 : Nat) : Int))] =
        [(2, Value.pointer (some ⟨h.length, 0, none⟩)), (3, .pointer (some ⟨h.length + 1, 0, none⟩)), (4, .pointer (some ⟨h.length + 2, 0, none⟩)), (5, .pointer (some ⟨h.length + 3, 0, none⟩)), (6, v), (7, w), (8, .int .i64 (j : Int))] := fun R' A' h4 q1 q2 q3 q4 =>
      ⟨lines.length - (i + 1), by omega, i + 1, R', A', rfl, hlt, q1, q2, q3, q4, rfl⟩
    simp (dsimp := false) only [↓ir.ref23_Parse.l3.bw, go_sem, Nat.reduceAdd, Nat.reduceEqDiff, Nat.reduceMul, Nat.reduceLeDiff, Nat.reduceSub, Nat.reduceLT, ↓reduceIte, reduceCtorEq, List.reduceReplicate, List.flatten_cons, List.flatten_nil, List.append_nil, eq_self, Int.reduceLE, Int.reduceLT, Int.reduceToNat, Nat.min_eq_left, Int.reducePow, Int.reduceNeg, Int.reduceEq, ls.lenV, e0, decide_true, ls.ixsN hlt, r0']
    cases hsd : s.data.toList with
    | nil =>
      have w0 : (s.toList == (⟨#[]⟩ : ByteArray).toList) = true := by rw [ByteArray.toList_eq, ByteArray.toList_eq, hsd]; rfl
      simp (dsimp := false) only [go_sem, Nat.reduceAdd, Nat.reduceEqDiff, Nat.reduceMul, Nat.reduceLeDiff, Nat.reduceSub, Nat.reduceLT, ↓reduceIte, reduceCtorEq, List.reduceReplicate, List.flatten_cons, List.flatten_nil, List.append_nil, eq_self, Int.reduceLE, Int.reduceLT, Int.reduceToNat, Nat.min_eq_left, Int.reducePow, Int.reduceNeg, Int.reduceEq, w0, wi]
      have hsk : lineF A s.data.toList = .skip := by rw [hsd]; unfold lineF; exact if_pos (.inl rfl)
      exact next R A h3 ps ho hn (by rw [hln, hsk])
    | cons x xs =>
      have w0 : (s.toList == (⟨#[]⟩ : ByteArray).toList) = false := by rw [ByteArray.toList_eq, ByteArray.toList_eq, hsd]; rfl
      have g0 : s[0]? = some x := by
        have : s.data[0]? = some x := by rw [← Array.getElem?_toList, hsd]; rfl
        exact this
      simp (dsimp := false) only [go_sem, Nat.reduceAdd, Nat.reduceEqDiff, Nat.reduceMul, Nat.reduceLeDiff, Nat.reduceSub, Nat.reduceLT, ↓reduceIte, reduceCtorEq, List.reduceReplicate, List.flatten_cons, List.flatten_nil, List.append_nil, eq_self, Int.reduceLE, Int.reduceLT, Int.reduceToNat, Nat.min_eq_left, Int.reducePow, Int.reduceNeg, Int.reduceEq, w0, ls.ixsN hlt, r0', ixstrV_str, Int.toNat_zero, g0]
      refine cVe (fun c35 => ?_) (fun c35 => ?_)
      · simp (dsimp := false) only [go_sem, Nat.reduceAdd, Nat.reduceEqDiff, Nat.reduceMul, Nat.reduceLeDiff, Nat.reduceSub, Nat.reduceLT, ↓reduceIte, reduceCtorEq, List.reduceReplicate, List.flatten_cons, List.flatten_nil, List.append_nil, eq_self, Int.reduceLE, Int.reduceLT, Int.reduceToNat, Nat.min_eq_left, Int.reducePow, Int.reduceNeg, Int.reduceEq, wi]
        have hsk : lineF A s.data.toList = .skip := by
          have e : x = 35 := UInt8.toNat_inj.1 (by show x.toNat = 35; omega)
          rw [hsd]; unfold lineF; exact if_pos (.inr (by rw [e]; rfl))
        exact next R A h3 ps ho hn (by rw [hln, hsk])
      · have hlf : lineF A s.data.toList = match cutL 32 s.data.toList with
            | none => .bad s.data.toList 10
            | some (a, b) => match numL maxN b with
              | none => .bad a 10
              | some n => match which a with
                | none => .bad a 6
                | some w => if 0 < A.getD w 0 then .bad a 7 else .put w n := by
          unfold lineF
          refine if_neg ?_
          rw [hsd]
          rintro (q | q)
          · cases q
          · have e : x = 35 := by simpa using q
            rw [e] at c35
            exact c35 rfl
        simp (dsimp := false) only [go_sem, Nat.reduceAdd, Nat.reduceEqDiff, Nat.reduceMul, Nat.reduceLeDiff, Nat.reduceSub, Nat.reduceLT, ↓reduceIte, reduceCtorEq, List.reduceReplicate, List.flatten_cons, List.flatten_nil, List.append_nil, eq_self, Int.reduceLE, Int.reduceLT, Int.reduceToNat, Nat.min_eq_left, Int.reducePow, Int.reduceNeg, Int.reduceEq, ls.ixsN hlt, r0']
        clear g0 w0 c35 hsd
        clear x xs
        refine loopV_block (fun e' h' => h' = h3 ∧ look e' 2 = .pointer (some ⟨h.length, 0, none⟩) ∧ look e' 3 = .pointer (some ⟨h.length + 1, 0, none⟩) ∧ look e' 4 = .pointer (some ⟨h.length + 2, 0, none⟩) ∧ look e' 5 = .pointer (some ⟨h.length + 3, 0, none⟩) ∧ look e' 6 = v ∧ look e' 7 = w ∧ look e' 8 = .int .i64 i ∧
          ∃ (nm vl : ByteArray) (fd : Bool), look e' 9 = .string nm ∧ look e' 10 = .string vl ∧ look e' 11 = .bool fd ∧ vl.size ≤ 4096 ∧ ((fd = true ∧ cutL 32 s.data.toList = some (nm.data.toList, vl.data.toList)) ∨ (fd = false ∧ cutL 32 s.data.toList = none ∧ nm = s))) ?_ ?_
        · refine loopV_of (fun m e h4 => ∃ k : Nat, m = s.size - k ∧ k ≤ s.size ∧ h4 = h3 ∧ (∀ j, j < k → s.data.toList.getD j 0 ≠ 32) ∧
            e = [(2, .pointer (some ⟨h.length, 0, none⟩)), (3, .pointer (some ⟨h.length + 1, 0, none⟩)), (4, .pointer (some ⟨h.length + 2, 0, none⟩)), (5, .pointer (some ⟨h.length + 3, 0, none⟩)), (6, v), (7, w), (8, .int .i64 i), (9, .string s), (10, .string ⟨#[]⟩), (11, .bool false), (12, .int .i64 k)]) _
            ⟨0, rfl, Nat.zero_le _, rfl, fun j hj => absurd hj (Nat.not_lt_zero _), rfl⟩ ?_
          rintro m e h4 ⟨k, rfl, hk, rfl, hno, rfl⟩
          rcases Nat.lt_or_ge k s.size with hkl | hkg
          · have ek : (k : Int) < (s.size : Int) := by omega
            have wk : IntKind.i64.wrap ((k : Int) + 1) = ((k + 1 : Nat) : Int) := by rw [wrap_i64 (by omega)]; omega
            have gk := ba_get s hkl
            obtain ⟨c, hc⟩ : ∃ c, s.data.toList.getD k 0 = c := ⟨_, rfl⟩
            rw [hc] at gk
            simp (dsimp := false) only [↓ir.ref23_Parse.l1.bw, go_sem, Nat.reduceAdd, Nat.reduceEqDiff, Nat.reduceMul, Nat.reduceLeDiff, Nat.reduceSub, Nat.reduceLT, ↓reduceIte, reduceCtorEq, List.reduceReplicate, List.flatten_cons, List.flatten_nil, List.append_nil, eq_self, Int.reduceLE, Int.reduceLT, Int.reduceToNat, Nat.min_eq_left, Int.reducePow, Int.reduceNeg, Int.reduceEq, ls.ixsN hlt, r0', ek, decide_true, ixstrV_str, Int.toNat_natCast, gk]
            refine ⟨by omega, ?_⟩
            refine cVe (fun c32 => ?_) (fun c32 => ?_)
            · have hc32 : c = 32 := UInt8.toNat_inj.1 (by show c.toNat = 32; omega)
              simp (dsimp := false) only [go_sem, Nat.reduceAdd, Nat.reduceEqDiff, Nat.reduceMul, Nat.reduceLeDiff, Nat.reduceSub, Nat.reduceLT, ↓reduceIte, reduceCtorEq, List.reduceReplicate, List.flatten_cons, List.flatten_nil, List.append_nil, eq_self, Int.reduceLE, Int.reduceLT, Int.reduceToNat, Nat.min_eq_left, Int.reducePow, Int.reduceNeg, Int.reduceEq, ls.ixsN hlt, r0', slstrV_str, Option.getD_some, Option.getD_none, Int.toNat_natCast, Int.toNat_zero]
              refine ⟨by omega, ?_⟩
              simp (dsimp := false) only [go_sem, Nat.reduceAdd, Nat.reduceEqDiff, Nat.reduceMul, Nat.reduceLeDiff, Nat.reduceSub, Nat.reduceLT, ↓reduceIte, reduceCtorEq, List.reduceReplicate, List.flatten_cons, List.flatten_nil, List.append_nil, eq_self, Int.reduceLE, Int.reduceLT, Int.reduceToNat, Nat.min_eq_left, Int.reducePow, Int.reduceNeg, Int.reduceEq, ls.ixsN hlt, r0', wk, slstrV_str, Option.getD_some, Option.getD_none, Int.toNat_natCast, Int.toNat_zero]
              refine ⟨by omega, ?_⟩
              have hx1 : (s.extract 0 k).data.toList = s.data.toList.take k := by rw [extract_list, List.drop_zero]
              have hx2 : (s.extract (k + 1) s.size).data.toList = s.data.toList.drop (k + 1) := by rw [extract_list, List.take_of_length_le (by omega)]
              have hcut := cutL_some (c := 32) (l := s.data.toList) (p := k) (by omega) (by rw [hc]; exact hc32) hno
              refine ⟨s.extract 0 k, s.extract (k + 1) s.size, true, rfl, rfl, rfl, ?_, .inl ⟨rfl, by rw [hcut, hx1, hx2]⟩⟩
              rw [ByteArray.size_extract]; omega
            · simp (dsimp := false) only [go_sem, Nat.reduceAdd, Nat.reduceEqDiff, Nat.reduceMul, Nat.reduceLeDiff, Nat.reduceSub, Nat.reduceLT, ↓reduceIte, reduceCtorEq, List.reduceReplicate, List.flatten_cons, List.flatten_nil, List.append_nil, eq_self, Int.reduceLE, Int.reduceLT, Int.reduceToNat, Nat.min_eq_left, Int.reducePow, Int.reduceNeg, Int.reduceEq, wk]
              refine ⟨s.size - (k + 1), by omega, k + 1, rfl, hkl, fun j hj => ?_, rfl⟩
              rcases Nat.lt_or_ge j k with z | z
              · exact hno j z
              · obtain rfl : j = k := by omega
                rw [hc]
                intro q
                rw [q] at c32
                exact c32 rfl
          · obtain rfl : k = s.size := by omega
            have ek : ¬ (s.size : Int) < (s.size : Int) := by omega
            simp (dsimp := false) only [↓ir.ref23_Parse.l1.bw, go_sem, Nat.reduceAdd, Nat.reduceEqDiff, Nat.reduceMul, Nat.reduceLeDiff, Nat.reduceSub, Nat.reduceLT, ↓reduceIte, reduceCtorEq, List.reduceReplicate, List.flatten_cons, List.flatten_nil, List.append_nil, eq_self, Int.reduceLE, Int.reduceLT, Int.reduceToNat, Nat.min_eq_left, Int.reducePow, Int.reduceNeg, Int.reduceEq, ls.ixsN hlt, r0', ek, decide_false]
            have hcut := cutL_none (c := 32) (l := s.data.toList) (fun j hj => hno j (by omega))
            exact ⟨s, ⟨#[]⟩, false, rfl, rfl, rfl, by decide, .inr ⟨rfl, hcut, rfl⟩⟩
        · rintro e h4 ⟨rfl, l2, l3, l4, l5, l6, l7, l8, nm, vl, fd, l9, l10, l11, hvl, hcut⟩
          simp (dsimp := false) only [go_sem, Nat.reduceAdd, Nat.reduceEqDiff, Nat.reduceMul, Nat.reduceLeDiff, Nat.reduceSub, Nat.reduceLT, ↓reduceIte, reduceCtorEq, List.reduceReplicate, List.flatten_cons, List.flatten_nil, List.append_nil, eq_self, Int.reduceLE, Int.reduceLT, Int.reduceToNat, Nat.min_eq_left, Int.reducePow, Int.reduceNeg, Int.reduceEq, l2, l3, l4, l5, l6, l7, l8, l9, l10, l11]
          obtain ⟨n, ok, hns, hnq⟩ := rnumber_spec h4 vl (by omega)
          have bad : ∀ (a : ByteArray) (e : Int), lineF A s.data.toList = .bad a.data.toList e → ∃ h5 h6, wrs h4 h.length 0 [Value.int .i64 0, .int .i64 0, .int .i64 0, .int .i64 0, .int .i64 0, .int .i64 0, .int .i64 0, .int .i64 0, .int .i64 0, .int .i64 0, .int .i64 0, .int .i64 0, .int .i64 0, .int .i64 0, .int .i64 0] = some h5 ∧ wrs h5 (h.length + 1) 0 [.int .i64 ((i + 1 : Nat) : Int), .string a, .int .i64 e] = some h6 ∧
              rds h6 h.length 0 15 = some [.int .i64 0, .int .i64 0, .int .i64 0, .int .i64 0, .int .i64 0, .int .i64 0, .int .i64 0, .int .i64 0, .int .i64 0, .int .i64 0, .int .i64 0, .int .i64 0, .int .i64 0, .int .i64 0, .int .i64 0] ∧ rds h6 (h.length + 1) 0 3 = some [.int .i64 ((i + 1 : Nat) : Int), .string a, .int .i64 e] ∧ Pre h h6 ∧ parseF t.data.toList = ⟨rul0, ((i + 1 : Nat) : Int), a.data.toList, e⟩ := fun a e q => by
            obtain ⟨h5, h6, a1, a2, a3, a4, a5⟩ := ps.out (L := rul0) rfl (.int .i64 ((i + 1 : Nat) : Int)) (.string a) (.int .i64 e)
            exact ⟨h5, h6, a1, a2, a3, a4, a5, by rw [hf, hln, q]; rfl⟩
          refine callV_of hns ?_
          simp (dsimp := false) only [go_sem, Nat.reduceAdd, Nat.reduceEqDiff, Nat.reduceMul, Nat.reduceLeDiff, Nat.reduceSub, Nat.reduceLT, ↓reduceIte, reduceCtorEq, List.reduceReplicate, List.flatten_cons, List.flatten_nil, List.append_nil, eq_self, Int.reduceLE, Int.reduceLT, Int.reduceToNat, Nat.min_eq_left, Int.reducePow, Int.reduceNeg, Int.reduceEq]
          have bad10 : fd = false ∨ ok = false → lineF A s.data.toList = .bad nm.data.toList 10 := by
            intro q
            rw [hlf]
            rcases hcut with ⟨qf, q2⟩ | ⟨_, q2, rfl⟩
            · rw [q2]
              rcases hnq with ⟨rfl, _, q3⟩ | ⟨rfl, q3⟩
              · rcases q with q | q
                · rw [q] at qf; cases qf
                · cases q
              · simp only [q3]
            · rw [q2]
          cases fd with
          | false =>
            obtain ⟨h5, h6, a1, a2, a3, a4, a5, a6⟩ := bad nm 10 (bad10 (.inl rfl))
            simp (dsimp := false) only [go_sem, Nat.reduceAdd, Nat.reduceEqDiff, Nat.reduceMul, Nat.reduceLeDiff, Nat.reduceSub, Nat.reduceLT, ↓reduceIte, reduceCtorEq, List.reduceReplicate, List.flatten_cons, List.flatten_nil, List.append_nil, eq_self, Int.reduceLE, Int.reduceLT, Int.reduceToNat, Nat.min_eq_left, Int.reducePow, Int.reduceNeg, Int.reduceEq, Bool.not_false, wi, a1, a2, a3, a4]
            exact ⟨a5, by rw [a6]; rfl⟩
          | true =>
            cases ok with
            | false =>
              obtain ⟨h5, h6, a1, a2, a3, a4, a5, a6⟩ := bad nm 10 (bad10 (.inr rfl))
              simp (dsimp := false) only [go_sem, Nat.reduceAdd, Nat.reduceEqDiff, Nat.reduceMul, Nat.reduceLeDiff, Nat.reduceSub, Nat.reduceLT, ↓reduceIte, reduceCtorEq, List.reduceReplicate, List.flatten_cons, List.flatten_nil, List.append_nil, eq_self, Int.reduceLE, Int.reduceLT, Int.reduceToNat, Nat.min_eq_left, Int.reducePow, Int.reduceNeg, Int.reduceEq, Bool.not_false, Bool.not_true, wi, a1, a2, a3, a4]
              exact ⟨a5, by rw [a6]; rfl⟩
            | true =>
              clear bad10
              have hput : lineF A s.data.toList = match which nm.data.toList with
                  | none => .bad nm.data.toList 6
                  | some w => if 0 < A.getD w 0 then .bad nm.data.toList 7 else .put w n := by
                rcases hcut with ⟨_, q2⟩ | ⟨q, _⟩
                · rcases hnq with ⟨_, q0, q3⟩ | ⟨q, _⟩
                  · rw [hlf, q2]
                    simp only [q3, Int.toNat_of_nonneg q0]
                  · cases q
                · cases q
              clear hlf hcut hnq hns
              simp (dsimp := false) only [go_sem, Nat.reduceAdd, Nat.reduceEqDiff, Nat.reduceMul, Nat.reduceLeDiff, Nat.reduceSub, Nat.reduceLT, ↓reduceIte, reduceCtorEq, List.reduceReplicate, List.flatten_cons, List.flatten_nil, List.append_nil, eq_self, Int.reduceLE, Int.reduceLT, Int.reduceToNat, Nat.min_eq_left, Int.reducePow, Int.reduceNeg, Int.reduceEq, Bool.not_true]
              refine loopV_of (fun m e h5 => ∃ (k : Nat) (wv : Int), m = 15 - k ∧ k ≤ 15 ∧ h5 = h4 ∧ ((wv = -1 ∧ ∀ j, j < k → slotL j ≠ nm.data.toList) ∨ ∃ j : Nat, j < k ∧ wv = j ∧ slotL j = nm.data.toList) ∧
                e = [(2, .pointer (some ⟨h.length, 0, none⟩)), (3, .pointer (some ⟨h.length + 1, 0, none⟩)), (4, .pointer (some ⟨h.length + 2, 0, none⟩)), (5, .pointer (some ⟨h.length + 3, 0, none⟩)), (6, v), (7, w), (8, .int .i64 i), (9, .string nm), (13, .int .i64 n), (15, .int .i64 wv), (16, .int .i64 k)]) _
                ⟨0, -1, rfl, Nat.zero_le _, rfl, .inl ⟨rfl, fun j hj => absurd hj (Nat.not_lt_zero _)⟩, rfl⟩ ?_
              rintro m e h5 ⟨k, wv, rfl, hk, rfl, hwv, rfl⟩
              have hl15 : idx15.length = 15 := rfl
              rcases Nat.lt_or_ge k 15 with hkl | hkg
              · have ek : (k : Int) < 15 := by omega
                have wk : IntKind.i64.wrap ((k : Int) + 1) = ((k + 1 : Nat) : Int) := wrap_succ hkl (by unfold maxI; omega)
                obtain ⟨_, _, t0, n0, _⟩ := lw.rd2 (.refl _) (i := k) (by rw [hl15]; exact hkl)
                rw [idx15_at] at t0
                subst t0
                obtain ⟨W, hW⟩ : ∃ W, ((slotN k).toList == nm.toList) = W := ⟨_, rfl⟩
                have hW2 := hW
                rw [ByteArray.toList_eq, ByteArray.toList_eq] at hW2
                simp (dsimp := false) only [↓ir.ref23_Parse.l2.bw, go_sem, Nat.reduceAdd, Nat.reduceEqDiff, Nat.reduceMul, Nat.reduceLeDiff, Nat.reduceSub, Nat.reduceLT, ↓reduceIte, reduceCtorEq, List.reduceReplicate, List.flatten_cons, List.flatten_nil, List.append_nil, eq_self, Int.reduceLE, Int.reduceLT, Int.reduceToNat, Nat.min_eq_left, Int.reducePow, Int.reduceNeg, Int.reduceEq, ek, decide_true, lw.ixsN (show k < idx15.length by rw [hl15]; exact hkl), n0, hW]
                cases W with
                | false =>
                  have hne : slotL k ≠ nm.data.toList := by simpa using hW2
                  simp (dsimp := false) only [go_sem, Nat.reduceAdd, Nat.reduceEqDiff, Nat.reduceMul, Nat.reduceLeDiff, Nat.reduceSub, Nat.reduceLT, ↓reduceIte, reduceCtorEq, List.reduceReplicate, List.flatten_cons, List.flatten_nil, List.append_nil, eq_self, Int.reduceLE, Int.reduceLT, Int.reduceToNat, Nat.min_eq_left, Int.reducePow, Int.reduceNeg, Int.reduceEq, wk]
                  refine ⟨15 - (k + 1), by omega, k + 1, wv, rfl, hkl, ?_, rfl⟩
                  rcases hwv with ⟨q1, q2⟩ | ⟨j, q1, q2, q3⟩
                  · refine .inl ⟨q1, fun j hj => ?_⟩
                    rcases Nat.lt_or_ge j k with z | z
                    · exact q2 j z
                    · obtain rfl : j = k := by omega
                      exact hne
                  · exact .inr ⟨j, by omega, q2, q3⟩
                | true =>
                  have heq : slotL k = nm.data.toList := by simpa using hW2
                  simp (dsimp := false) only [go_sem, Nat.reduceAdd, Nat.reduceEqDiff, Nat.reduceMul, Nat.reduceLeDiff, Nat.reduceSub, Nat.reduceLT, ↓reduceIte, reduceCtorEq, List.reduceReplicate, List.flatten_cons, List.flatten_nil, List.append_nil, eq_self, Int.reduceLE, Int.reduceLT, Int.reduceToNat, Nat.min_eq_left, Int.reducePow, Int.reduceNeg, Int.reduceEq, wk]
                  exact ⟨15 - (k + 1), by omega, k + 1, (k : Int), rfl, hkl, .inr ⟨k, by omega, rfl, heq⟩, rfl⟩
              · obtain rfl : k = 15 := by omega
                simp (dsimp := false) only [↓ir.ref23_Parse.l2.bw, go_sem, Nat.reduceAdd, Nat.reduceEqDiff, Nat.reduceMul, Nat.reduceLeDiff, Nat.reduceSub, Nat.reduceLT, ↓reduceIte, reduceCtorEq, List.reduceReplicate, List.flatten_cons, List.flatten_nil, List.append_nil, eq_self, Int.reduceLE, Int.reduceLT, Int.reduceToNat, Nat.min_eq_left, Int.reducePow, Int.reduceNeg, Int.reduceEq, show ¬ ((15 : Nat) : Int) < 15 by omega, decide_false]
                rcases hwv with ⟨rfl, hno⟩ | ⟨j, hj, rfl, heq⟩
                · have hwh : which nm.data.toList = none := which_none hno
                  obtain ⟨h6, h7, a1, a2, a3, a4, a5, a6⟩ := bad nm 6 (by rw [hput, hwh])
                  simp (dsimp := false) only [go_sem, Nat.reduceAdd, Nat.reduceEqDiff, Nat.reduceMul, Nat.reduceLeDiff, Nat.reduceSub, Nat.reduceLT, ↓reduceIte, reduceCtorEq, List.reduceReplicate, List.flatten_cons, List.flatten_nil, List.append_nil, eq_self, Int.reduceLE, Int.reduceLT, Int.reduceToNat, Nat.min_eq_left, Int.reducePow, Int.reduceNeg, Int.reduceEq, decide_true, wi, a1, a2, a3, a4]
                  exact ⟨a5, by rw [a6]; rfl⟩
                · have hwh : which nm.data.toList = some j := which_some hj heq
                  have c0 : decide ((j : Int) < 0) = false := decide_eq_false (by omega)
                  have c1 : (0 : Int) ≤ (j : Int) := by omega
                  have c2 : (j : Int) < ((15 : Nat) : Int) := by omega
                  have rA : rds h5 (h.length + 3) j 1 = some [.int .i64 (A.getD j 0)] := ps.f5.rd (rulC_rd (by rw [ps.alen]; exact hj)) (by rw [rulC_len, ps.alen]; omega)
                  simp (dsimp := false) only [go_sem, Nat.reduceAdd, Nat.reduceEqDiff, Nat.reduceMul, Nat.reduceLeDiff, Nat.reduceSub, Nat.reduceLT, ↓reduceIte, reduceCtorEq, List.reduceReplicate, List.flatten_cons, List.flatten_nil, List.append_nil, eq_self, Int.reduceLE, Int.reduceLT, Int.reduceToNat, Nat.min_eq_left, Int.reducePow, Int.reduceNeg, Int.reduceEq, c0, c1, c2, true_and, Int.toNat_natCast, Nat.mul_one, Nat.zero_add, rA, gt_iff_lt]
                  refine cVd (fun c7 => ?_) (fun c7 => ?_)
                  · obtain ⟨h6, h7, a1, a2, a3, a4, a5, a6⟩ := bad nm 7 (by rw [hput, hwh]; exact if_pos c7)
                    simp (dsimp := false) only [go_sem, Nat.reduceAdd, Nat.reduceEqDiff, Nat.reduceMul, Nat.reduceLeDiff, Nat.reduceSub, Nat.reduceLT, ↓reduceIte, reduceCtorEq, List.reduceReplicate, List.flatten_cons, List.flatten_nil, List.append_nil, eq_self, Int.reduceLE, Int.reduceLT, Int.reduceToNat, Nat.min_eq_left, Int.reducePow, Int.reduceNeg, Int.reduceEq, wi, a1, a2, a3, a4]
                    exact ⟨a5, by rw [a6]; rfl⟩
                  · have w5 := ps.f5.wr (off := j) (vs := [.int .i64 ((i + 1 : Nat) : Int)]) (by rw [rulC_len, ps.alen]; simp; omega)
                    rw [rulC_set] at w5
                    have g4 := ps.f4.other (show h.length + 3 ≠ h.length + 2 by omega) (.row .fix (rulC (A.set j ((i + 1 : Nat) : Int))))
                    have w4 := g4.wr (off := j) (vs := [.int .i64 n]) (by rw [rulC_len, ps.len]; simp; omega)
                    rw [rulC_set] at w4
                    simp (dsimp := false) only [go_sem, Nat.reduceAdd, Nat.reduceEqDiff, Nat.reduceMul, Nat.reduceLeDiff, Nat.reduceSub, Nat.reduceLT, ↓reduceIte, reduceCtorEq, List.reduceReplicate, List.flatten_cons, List.flatten_nil, List.append_nil, eq_self, Int.reduceLE, Int.reduceLT, Int.reduceToNat, Nat.min_eq_left, Int.reducePow, Int.reduceNeg, Int.reduceEq, wi, c1, c2, true_and, Int.toNat_natCast, Nat.mul_one, Nat.zero_add, w5, w4]
                    try simp only [c1, c2, true_and]
                    refine next _ _ _ (ps.step j n ((i + 1 : Nat) : Int)) ?_ ?_ ?_
                    · exact (ho.put (ho.nfix ps.f5) _).put ((ho.put (ho.nfix ps.f5) (.row .fix (rulC (A.set j ((i + 1 : Nat) : Int))))).nfix g4) _
                    · exact (hn.put (hn.nfix ps.f5) _).put ((hn.put (hn.nfix ps.f5) (.row .fix (rulC (A.set j ((i + 1 : Nat) : Int))))).nfix g4) _
                    · rw [hln, hput, hwh]
                      simp only [c7, if_false]
                      rfl
  · obtain rfl : i = lines.length := by omega
    rw [List.drop_length, linesF] at hln
    rw [hln] at hf
    simp only at hf
    obtain ⟨r, hcs, hcq⟩ := rcheck_spec (h := h3) ps.len
    have rr4 := ps.f4.rd (off := 0) (n := 15) (vs := rulC R) (by rw [List.drop_zero, List.take_of_length_le (by rw [rulC_len, ps.len]; exact Nat.le_refl _)]) (by rw [rulC_len, ps.len]; exact Nat.le_refl _)
    have ag : aggOf true (rulC R) = some (.agg ⟨rulC R⟩) := rfl
    simp (dsimp := false) only [↓ir.ref23_Parse.l3.bw, go_sem, Nat.reduceAdd, Nat.reduceEqDiff, Nat.reduceMul, Nat.reduceLeDiff, Nat.reduceSub, Nat.reduceLT, ↓reduceIte, reduceCtorEq, List.reduceReplicate, List.flatten_cons, List.flatten_nil, List.append_nil, eq_self, Int.reduceLE, Int.reduceLT, Int.reduceToNat, Nat.min_eq_left, Int.reducePow, Int.reduceNeg, Int.reduceEq, ls.lenV, Int.lt_irrefl, decide_false, rr4, ag]
    refine callV_of hcs ?_
    rcases hcq with ⟨rfl, hgood⟩ | ⟨b, hb, rfl, hbad, hgood⟩
    · have hfb := firstBad_none hgood
      obtain ⟨h5, h6, a1, a2, a3, a4, a5⟩ := ps.out (L := R) ps.len (.int .i64 0) (.string ByteArray.empty) (.int .i64 0)
      have e1 : (rulC R).length = 15 := by rw [rulC_len, ps.len]
      simp (dsimp := false) only [go_sem, Nat.reduceAdd, Nat.reduceEqDiff, Nat.reduceMul, Nat.reduceLeDiff, Nat.reduceSub, Nat.reduceLT, ↓reduceIte, reduceCtorEq, List.reduceReplicate, List.flatten_cons, List.flatten_nil, List.append_nil, eq_self, Int.reduceLE, Int.reduceLT, Int.reduceToNat, Nat.min_eq_left, Int.reducePow, Int.reduceNeg, Int.reduceEq, ge_iff_le, decide_false, rr4, ag, e1, rulC_one, a1, a2, a3, a4]
      refine ⟨a5, ?_⟩
      rw [hf, endF, hfb]
      rfl
    · have hfb := firstBad_some hb hbad hgood
      have d0 : decide ((0 : Int) ≤ (b : Int)) = true := decide_eq_true (by omega)
      simp (dsimp := false) only [go_sem, Nat.reduceAdd, Nat.reduceEqDiff, Nat.reduceMul, Nat.reduceLeDiff, Nat.reduceSub, Nat.reduceLT, ↓reduceIte, reduceCtorEq, List.reduceReplicate, List.flatten_cons, List.flatten_nil, List.append_nil, eq_self, Int.reduceLE, Int.reduceLT, Int.reduceToNat, Nat.min_eq_left, Int.reducePow, Int.reduceNeg, Int.reduceEq, ge_iff_le, d0]
      obtain ⟨x, hx⟩ : ∃ x, A.getD b 0 = x := ⟨_, rfl⟩
      have e15 : (rulC rul0).length = 15 := rfl
      have w1 := ps.f2.wr (off := 0) (vs := rulC rul0) (by rw [rulC_len]; exact Nat.le_refl _)
      have es : setC (rulC rul0) 0 (rulC rul0) = rulC rul0 := rfl
      rw [es] at w1
      have g2 := ps.f2.set (rulC rul0)
      have g3 := ps.f3.other (show h.length ≠ h.length + 1 by omega) (.row .fix (rulC rul0))
      have g5 := ps.f5.other (show h.length ≠ h.length + 3 by omega) (.row .fix (rulC rul0))
      have hn5 := hn.put (hn.nfix ps.f2) (.row .fix (rulC rul0))
      have lw5 : Ls (h3.set h.length (.row .fix (rulC rul0))) 1 (fun c i => c = [.string (slotN i)]) w idx15 := Sl.ls (enc := fun i => [Value.string (slotN i)]) (fun _ => rfl) hn5.sl rfl
      have hl15 : idx15.length = 15 := rfl
      have rA : rds h3 (h.length + 3) b 1 = some [.int .i64 x] := by rw [← hx]; exact ps.f5.rd (rulC_rd (by rw [ps.alen]; exact hb)) (by rw [rulC_len, ps.alen]; omega)
      have rA5 : rds (h3.set h.length (.row .fix (rulC rul0))) (h.length + 3) b 1 = some [.int .i64 x] := by rw [← hx]; exact g5.rd (rulC_rd (by rw [ps.alen]; exact hb)) (by rw [rulC_len, ps.alen]; omega)
      obtain ⟨_, _, t0, n0, _⟩ := lw.rd2 (.refl _) (i := b) (by rw [hl15]; exact hb)
      rw [idx15_at] at t0
      subst t0
      obtain ⟨_, _, t0, n5, _⟩ := lw5.rd2 (.refl _) (i := b) (by rw [hl15]; exact hb)
      rw [idx15_at] at t0
      subst t0
      have w2 := g3.wr (off := 0) (vs := [.int .i64 x, .string (slotN b), .int .i64 30]) (by simp)
      have hpre := (ps.pre.put (Nat.le_refl _) (.row .fix (rulC rul0))).put (show h.length ≤ h.length + 1 by omega) (.row .fix (setC (misC 0 [] 0) 0 [.int .i64 x, .string (slotN b), .int .i64 30]))
      have r2 := (g2.other (show h.length + 1 ≠ h.length by omega) (.row .fix (setC (misC 0 [] 0) 0 [.int .i64 x, .string (slotN b), .int .i64 30]))).rd (off := 0) (n := 15) (vs := [.int .i64 0, .int .i64 0, .int .i64 0, .int .i64 0, .int .i64 0, .int .i64 0, .int .i64 0, .int .i64 0, .int .i64 0, .int .i64 0, .int .i64 0, .int .i64 0, .int .i64 0, .int .i64 0, .int .i64 0]) rfl (by rw [e15]; exact Nat.le_refl _)
      have r3 := (g3.set (setC (misC 0 [] 0) 0 [.int .i64 x, .string (slotN b), .int .i64 30])).rd (off := 0) (n := 3) (vs := [.int .i64 x, .string (slotN b), .int .i64 30]) rfl (by simp [misC, setC_cons, setC_nil])
      clear lw5 hn5 g5
      generalize hH5 : h3.set h.length (.row .fix (rulC rul0)) = h5 at w1 w2 rA5 n5 hpre r2 r3
      generalize h5.set (h.length + 1) (.row .fix (setC (misC 0 [] 0) 0 [.int .i64 x, .string (slotN b), .int .i64 30])) = h6 at w2 hpre r2 r3
      have ixw := fun (hh : AHeap) (K : Value → AHeap → Prop) (u : Hold K) => lw.ixsN (show b < idx15.length by rw [hl15]; exact hb) (h2 := hh) (K := K) (u := u) (q := .i64)
      have c1 : (0 : Int) ≤ (b : Int) := by omega
      have c2 : (b : Int) < ((15 : Nat) : Int) := by omega
      refine anyV_of [(2, .pointer (some ⟨h.length, 0, none⟩)), (3, .pointer (some ⟨h.length + 1, 0, none⟩))] h6 ?_ ?_
      · refine wpA_last (l := [⟨some 133, .build [.int .i64 0, .int .i64 0, .int .i64 0, .int .i64 0, .int .i64 0, .int .i64 0, .int .i64 0, .int .i64 0, .int .i64 0, .int .i64 0, .int .i64 0, .int .i64 0, .int .i64 0, .int .i64 0, .int .i64 0] [], none⟩, ⟨some 134, .mv (.tmp 17), none⟩, ⟨some 135, .ixa 15 1 (.tmp 5) (.tmp 134), none⟩, ⟨some 136, .load false 1 (.tmp 135), none⟩, ⟨some 137, .mv (.tmp 7), none⟩, ⟨some 138, .mv (.tmp 17), none⟩, ⟨some 139, .ixs 1 (.tmp 137) (.tmp 138), none⟩, ⟨some 140, .load false 1 (.tmp 139), none⟩, ⟨some 141, .build [.int .i64 0, .string ByteArray.empty, .int .i64 0] [(0, 1, .tmp 136), (1, 1, .tmp 140), (2, 1, .const (.int .i64 30))], none⟩, ⟨none, .store 15 (.tmp 2) (.tmp 133), none⟩])
          (d := none) (ins := .store 3 (.tmp 3) (.tmp 141)) (fun j => by simp; omega) ?_
        refine wpA_calm _ h3 h5 9 [.agg ⟨rulC rul0⟩, .int .i64 b, .pointer (some ⟨h.length + 3, b, none⟩), .int .i64 x, w, .int .i64 b, .pointer (some ⟨sb w, so w + b * 1, none⟩), .string (slotN b), .agg #[.int .i64 x, .string (slotN b), .int .i64 30], undef] ?_ ?_ (by decide) ?_ ?_
        · decide
        · exact dst_inj (by decide)
        · intro i hi
          unfold calmOK
          match i, hi with
          | 0, _ =>
            intro e hh p q c
            simp (dsimp := false) only [go_sem, Nat.reduceAdd, Nat.reduceEqDiff, Nat.reduceMul, Nat.reduceLeDiff, Nat.reduceSub, Nat.reduceLT, ↓reduceIte, reduceCtorEq, List.reduceReplicate, List.flatten_cons, List.flatten_nil, List.append_nil, eq_self, Int.reduceLE, Int.reduceLT, Int.reduceToNat, Nat.min_eq_left, Int.reducePow, Int.reduceNeg, Int.reduceEq]
            exact rfl
          | 1, _ =>
            intro e hh p q c
            have b1 := q 17 (dst_not (by decide))
            simp (dsimp := false) only [go_sem, Nat.reduceAdd, Nat.reduceEqDiff, Nat.reduceMul, Nat.reduceLeDiff, Nat.reduceSub, Nat.reduceLT, ↓reduceIte, reduceCtorEq, List.reduceReplicate, List.flatten_cons, List.flatten_nil, List.append_nil, eq_self, Int.reduceLE, Int.reduceLT, Int.reduceToNat, Nat.min_eq_left, Int.reducePow, Int.reduceNeg, Int.reduceEq, b1]
            exact rfl
          | 2, _ =>
            intro e hh p q c
            have b1 := q 5 (dst_not (by decide))
            have b2 := p 1 (by simp) _ _ rfl rfl
            simp only [List.getD, List.getElem?_cons_zero, List.getElem?_cons_succ, Option.getD_some] at b2
            simp (dsimp := false) only [go_sem, Nat.reduceAdd, Nat.reduceEqDiff, Nat.reduceMul, Nat.reduceLeDiff, Nat.reduceSub, Nat.reduceLT, ↓reduceIte, reduceCtorEq, List.reduceReplicate, List.flatten_cons, List.flatten_nil, List.append_nil, eq_self, Int.reduceLE, Int.reduceLT, Int.reduceToNat, Nat.min_eq_left, Int.reducePow, Int.reduceNeg, Int.reduceEq, b1, b2, c1, c2, true_and, Int.toNat_natCast, Nat.mul_one, Nat.zero_add]
            exact rfl
          | 3, _ =>
            intro e hh p q c
            have b1 := p 2 (by simp) _ _ rfl rfl
            simp only [List.getD, List.getElem?_cons_zero, List.getElem?_cons_succ, Option.getD_some] at b1
            rw [if_neg (by decide)] at c
            rcases c with rfl | rfl
            · simp (dsimp := false) only [go_sem, Nat.reduceAdd, Nat.reduceEqDiff, Nat.reduceMul, Nat.reduceLeDiff, Nat.reduceSub, Nat.reduceLT, ↓reduceIte, reduceCtorEq, List.reduceReplicate, List.flatten_cons, List.flatten_nil, List.append_nil, eq_self, Int.reduceLE, Int.reduceLT, Int.reduceToNat, Nat.min_eq_left, Int.reducePow, Int.reduceNeg, Int.reduceEq, b1, rA]
              exact rfl
            · simp (dsimp := false) only [go_sem, Nat.reduceAdd, Nat.reduceEqDiff, Nat.reduceMul, Nat.reduceLeDiff, Nat.reduceSub, Nat.reduceLT, ↓reduceIte, reduceCtorEq, List.reduceReplicate, List.flatten_cons, List.flatten_nil, List.append_nil, eq_self, Int.reduceLE, Int.reduceLT, Int.reduceToNat, Nat.min_eq_left, Int.reducePow, Int.reduceNeg, Int.reduceEq, b1, rA5]
              exact rfl
          | 4, _ =>
            intro e hh p q c
            have b1 := q 7 (dst_not (by decide))
            simp (dsimp := false) only [go_sem, Nat.reduceAdd, Nat.reduceEqDiff, Nat.reduceMul, Nat.reduceLeDiff, Nat.reduceSub, Nat.reduceLT, ↓reduceIte, reduceCtorEq, List.reduceReplicate, List.flatten_cons, List.flatten_nil, List.append_nil, eq_self, Int.reduceLE, Int.reduceLT, Int.reduceToNat, Nat.min_eq_left, Int.reducePow, Int.reduceNeg, Int.reduceEq, b1]
            exact rfl
          | 5, _ =>
            intro e hh p q c
            have b1 := q 17 (dst_not (by decide))
            simp (dsimp := false) only [go_sem, Nat.reduceAdd, Nat.reduceEqDiff, Nat.reduceMul, Nat.reduceLeDiff, Nat.reduceSub, Nat.reduceLT, ↓reduceIte, reduceCtorEq, List.reduceReplicate, List.flatten_cons, List.flatten_nil, List.append_nil, eq_self, Int.reduceLE, Int.reduceLT, Int.reduceToNat, Nat.min_eq_left, Int.reducePow, Int.reduceNeg, Int.reduceEq, b1]
            exact rfl
          | 6, _ =>
            intro e hh p q c
            have b1 := p 4 (by simp) _ _ rfl rfl
            have b2 := p 5 (by simp) _ _ rfl rfl
            simp only [List.getD, List.getElem?_cons_zero, List.getElem?_cons_succ, Option.getD_some] at b1 b2
            simp (dsimp := false) only [go_sem, Nat.reduceAdd, Nat.reduceEqDiff, Nat.reduceMul, Nat.reduceLeDiff, Nat.reduceSub, Nat.reduceLT, ↓reduceIte, reduceCtorEq, List.reduceReplicate, List.flatten_cons, List.flatten_nil, List.append_nil, eq_self, Int.reduceLE, Int.reduceLT, Int.reduceToNat, Nat.min_eq_left, Int.reducePow, Int.reduceNeg, Int.reduceEq, b1, b2, ixw]
            exact rfl
          | 7, _ =>
            intro e hh p q c
            have b1 := p 6 (by simp) _ _ rfl rfl
            simp only [List.getD, List.getElem?_cons_zero, List.getElem?_cons_succ, Option.getD_some] at b1
            rw [if_neg (by decide)] at c
            rcases c with rfl | rfl
            · simp (dsimp := false) only [go_sem, Nat.reduceAdd, Nat.reduceEqDiff, Nat.reduceMul, Nat.reduceLeDiff, Nat.reduceSub, Nat.reduceLT, ↓reduceIte, reduceCtorEq, List.reduceReplicate, List.flatten_cons, List.flatten_nil, List.append_nil, eq_self, Int.reduceLE, Int.reduceLT, Int.reduceToNat, Nat.min_eq_left, Int.reducePow, Int.reduceNeg, Int.reduceEq, b1, n0]
              exact rfl
            · simp (dsimp := false) only [go_sem, Nat.reduceAdd, Nat.reduceEqDiff, Nat.reduceMul, Nat.reduceLeDiff, Nat.reduceSub, Nat.reduceLT, ↓reduceIte, reduceCtorEq, List.reduceReplicate, List.flatten_cons, List.flatten_nil, List.append_nil, eq_self, Int.reduceLE, Int.reduceLT, Int.reduceToNat, Nat.min_eq_left, Int.reducePow, Int.reduceNeg, Int.reduceEq, b1, n5]
              exact rfl
          | 8, _ =>
            intro e hh p q c
            have b1 := p 3 (by simp) _ _ rfl rfl
            have b2 := p 7 (by simp) _ _ rfl rfl
            simp only [List.getD, List.getElem?_cons_zero, List.getElem?_cons_succ, Option.getD_some] at b1 b2
            simp (dsimp := false) only [go_sem, Nat.reduceAdd, Nat.reduceEqDiff, Nat.reduceMul, Nat.reduceLeDiff, Nat.reduceSub, Nat.reduceLT, ↓reduceIte, reduceCtorEq, List.reduceReplicate, List.flatten_cons, List.flatten_nil, List.append_nil, eq_self, Int.reduceLE, Int.reduceLT, Int.reduceToNat, Nat.min_eq_left, Int.reducePow, Int.reduceNeg, Int.reduceEq, b1, b2]
            exact rfl
          | 9, _ =>
            intro e hh p q c
            have b1 := q 2 (dst_not (by decide))
            have b2 := p 0 (by simp) _ _ rfl rfl
            simp only [List.getD, List.getElem?_cons_zero, List.getElem?_cons_succ, Option.getD_some] at b2
            rw [if_pos rfl] at c
            subst c
            simp (dsimp := false) only [go_sem, Nat.reduceAdd, Nat.reduceEqDiff, Nat.reduceMul, Nat.reduceLeDiff, Nat.reduceSub, Nat.reduceLT, ↓reduceIte, reduceCtorEq, List.reduceReplicate, List.flatten_cons, List.flatten_nil, List.append_nil, eq_self, Int.reduceLE, Int.reduceLT, Int.reduceToNat, Nat.min_eq_left, Int.reducePow, Int.reduceNeg, Int.reduceEq, b1, b2, e15, rulC_one, w1]
            exact rfl
        · intro e hd ho2
          have b3 := ho2 3 (dst_not (by decide))
          have b2 := ho2 2 (dst_not (by decide))
          have b1 := hd 8 _ _ rfl rfl
          simp only [List.getD, List.getElem?_cons_zero, List.getElem?_cons_succ, Option.getD_some] at b1
          simp (dsimp := false) only [go_sem, Nat.reduceAdd, Nat.reduceEqDiff, Nat.reduceMul, Nat.reduceLeDiff, Nat.reduceSub, Nat.reduceLT, ↓reduceIte, reduceCtorEq, List.reduceReplicate, List.flatten_cons, List.flatten_nil, List.append_nil, eq_self, Int.reduceLE, Int.reduceLT, Int.reduceToNat, Nat.min_eq_left, Int.reducePow, Int.reduceNeg, Int.reduceEq, b3, b1, w2]
          rw [b2]; rfl
      · simp (dsimp := false) only [go_sem, Nat.reduceAdd, Nat.reduceEqDiff, Nat.reduceMul, Nat.reduceLeDiff, Nat.reduceSub, Nat.reduceLT, ↓reduceIte, reduceCtorEq, List.reduceReplicate, List.flatten_cons, List.flatten_nil, List.append_nil, eq_self, Int.reduceLE, Int.reduceLT, Int.reduceToNat, Nat.min_eq_left, Int.reducePow, Int.reduceNeg, Int.reduceEq, r2, r3]
        refine ⟨hpre, ?_⟩
        rw [hf, endF, hfb]
        simp only [hx]
        rfl
end Go.Proofs.YtoiihalnbdehkaaDoor.B
/-
  Layer 23: P23.2 as the law says it.
-/
namespace Go.Proofs.YtoiihalnbdehkaaDoor.B
open Go
set_option linter.unusedVariables false
set_option linter.unusedSimpArgs false
set_option maxRecDepth 100000
theorem cFrom_spec (h : AHeap) {L : List Int} (hL : L.length = 15) : Spec Tryd.prog nG fn.law23_From [.agg ⟨rulC L⟩] h (.agg ⟨rulC L⟩) h := by
  obtain ⟨a0, a1, a2, a3, a4, a5, a6, a7, a8, a9, a10, a11, a12, a13, a14, rfl⟩ := list15 hL
  apply ir.law23_From.spec (Nat.le_of_ble_eq_true rfl)
  simp only [rulC, List.map_cons, List.map_nil]
  simp (dsimp := false) only [↓ir.law23_From.bw, ir.law23_From.rs, go_sem, Nat.reduceAdd, Nat.reduceEqDiff, Nat.reduceMul, Nat.reduceLeDiff, Nat.reduceSub, Nat.reduceLT, ↓reduceIte, reduceCtorEq, List.reduceReplicate, List.flatten_cons, List.flatten_nil, List.append_nil, eq_self, Int.reduceLE, Int.reduceLT, Int.reduceToNat, Nat.min_eq_left, Int.reducePow, Int.reduceNeg, Int.reduceEq]
  (repeat (with_reducible refine And.intro (by omega) ?_))
  exact Fin.agg rfl rfl
theorem linesF_len : ∀ (ls : List (List UInt8)) (i : Nat) (R A : List Int), R.length = 15 → ∀ R' A', linesF i ls R A = .fin R' A' → R'.length = 15
  | [], i, R, A, h, R', A', e => by
    rw [linesF] at e
    cases e
    exact h
  | ln :: r, i, R, A, h, R', A', e => by
    rw [linesF] at e
    cases q : lineF A ln with
    | skip => rw [q] at e; exact linesF_len r _ _ _ h _ _ e
    | bad a b => rw [q] at e; cases e
    | put w n => rw [q] at e; exact linesF_len r _ _ _ (by simpa using h) _ _ e
theorem parseF_len (t : List UInt8) : (parseF t).R.length = 15 := by
  unfold parseF
  split
  · rfl
  · split
    · rfl
    · rename_i R A q
      unfold endF
      split
      · rfl
      · exact linesF_len _ _ _ _ rfl _ _ q
theorem eqs15 {L : List Int} (hL : L.length = 15) : eqCells [0, 0, 0, 0, 0, 0, 0, 0, 0, 0, 0, 0, 0, 0, 0] (rulC L) (rulC L) = some true := by
  obtain ⟨a0, a1, a2, a3, a4, a5, a6, a7, a8, a9, a10, a11, a12, a13, a14, rfl⟩ := list15 hL
  simp only [rulC, List.map_cons, List.map_nil, eqCells_cons, eqCells_nil, keyEqI, beq_self_eq_true, Bool.and_true, Option.bind_some, Option.map_some]
theorem configReads_spec {h : AHeap} (k : ErrV h) (hg : PowG h) {t : ByteArray} (hm : t.size ≤ 140737488351232) : SpecX Tryd.prog nG fn.law23_ConfigReads [.string t] h fun v' _ => v' = .bool true := by
  refine SpecX.of_body (ir.law23_ConfigReads.spec (Nat.le_of_ble_eq_true rfl)) ?_
  have hl := parseF_len t.data.toList
  simp (dsimp := false) only [↓ir.law23_ConfigReads.bw, ir.law23_ConfigReads.rs, go_sem, Nat.reduceAdd, Nat.reduceEqDiff, Nat.reduceMul, Nat.reduceLeDiff, Nat.reduceSub, Nat.reduceLT, ↓reduceIte, reduceCtorEq, List.reduceReplicate, List.flatten_cons, List.flatten_nil, List.append_nil, eq_self, Int.reduceLE, Int.reduceLT, Int.reduceToNat, Nat.min_eq_left, Int.reducePow, Int.reduceNeg, Int.reduceEq]
  refine callV_x (parse_spec k hg hm) ?_
  rintro _ h1 ⟨hp1, rfl⟩
  obtain ⟨⟨R, line, name, err⟩, hX⟩ : ∃ X, parseF t.data.toList = X := ⟨_, rfl⟩
  rw [hX] at hl ⊢
  simp only at hl
  have e1 : (rulC R).length = 15 := by rw [rulC_len, hl]
  have e3 : setC [Value.int .i64 0, .int .i64 0, .int .i64 0, .int .i64 0, .int .i64 0, .int .i64 0, .int .i64 0, .int .i64 0, .int .i64 0, .int .i64 0, .int .i64 0, .int .i64 0, .int .i64 0, .int .i64 0, .int .i64 0] 0 (rulC R) = rulC R := by
    rw [setC_eq (by rw [e1]; decide), List.take_zero, List.nil_append, List.drop_of_length_le (by rw [e1]; decide), List.append_nil]
  obtain ⟨nm, hnm⟩ : ∃ nm, sV name = .string nm := ⟨_, rfl⟩
  simp only [resV, misC, hnm]
  simp (dsimp := false) only [go_sem, Nat.reduceAdd, Nat.reduceEqDiff, Nat.reduceMul, Nat.reduceLeDiff, Nat.reduceSub, Nat.reduceLT, ↓reduceIte, reduceCtorEq, List.reduceReplicate, List.flatten_cons, List.flatten_nil, List.append_nil, eq_self, Int.reduceLE, Int.reduceLT, Int.reduceToNat, Nat.min_eq_left, Int.reducePow, Int.reduceNeg, Int.reduceEq, e1, rulC_one, e3, Option.map_some, Nat.le_refl]
  refine callV_x (rparse_spec hm) ?_
  rintro _ h2 ⟨hp2, rfl⟩
  rw [hX]
  simp only [resV, misC, hnm]
  have f3 : Fx h2 h1.length (rulC R) := (Fx.here h1 _ _).pre hp2
  have f4 : Fx h2 (h1.length + 1) [.int .i64 line, .string nm, .int .i64 err] := by
    have : Fx (h1 ++ [AObj.row .fix (rulC R), .row .fix [.int .i64 line, .string nm, .int .i64 err]]) (h1.length + 1) [.int .i64 line, .string nm, .int .i64 err] := by simp [Fx]
    exact this.pre hp2
  simp (dsimp := false) only [go_sem, Nat.reduceAdd, Nat.reduceEqDiff, Nat.reduceMul, Nat.reduceLeDiff, Nat.reduceSub, Nat.reduceLT, ↓reduceIte, reduceCtorEq, List.reduceReplicate, List.flatten_cons, List.flatten_nil, List.append_nil, eq_self, Int.reduceLE, Int.reduceLT, Int.reduceToNat, Nat.min_eq_left, Int.reducePow, Int.reduceNeg, Int.reduceEq, e1, rulC_one, e3, Option.map_some, Nat.le_refl]
  obtain ⟨h3, eh3⟩ : ∃ h3, h2 ++ [AObj.row .fix (rulC R), .row .fix [.int .i64 line, .string nm, .int .i64 err]] = h3 := ⟨_, rfl⟩
  have g3 : Fx h3 h1.length (rulC R) := eh3 ▸ f3.app _
  have g4 : Fx h3 (h1.length + 1) [.int .i64 line, .string nm, .int .i64 err] := eh3 ▸ f4.app _
  have g5 : Fx h3 h2.length (rulC R) := eh3 ▸ Fx.here _ _ _
  have g6 : Fx h3 (h2.length + 1) [.int .i64 line, .string nm, .int .i64 err] := by rw [← eh3]; simp [Fx]
  have hp3 : Pre h h3 := ((hp1.app' _).trans hp2).trans (eh3 ▸ .app _ _)
  rw [eh3]
  clear eh3 f3 f4
  have fullR : ∀ {b}, Fx h3 b (rulC R) → rds h3 b 0 15 = some (rulC R) := fun f => f.rd (by rw [List.drop_zero, List.take_of_length_le (by rw [e1]; exact Nat.le_refl _)]) (by rw [e1]; exact Nat.le_refl _)
  have r3 := fullR g3
  have r5 := fullR g5
  have r40 := g4.rd (off := 0) (n := 1) (vs := [.int .i64 line]) rfl (by simp)
  have r41 := g4.rd (off := 1) (n := 1) (vs := [.string nm]) rfl (by simp)
  have r42 := g4.rd (off := 2) (n := 1) (vs := [.int .i64 err]) rfl (by simp)
  have r60 := g6.rd (off := 0) (n := 1) (vs := [.int .i64 line]) rfl (by simp)
  have r61 := g6.rd (off := 1) (n := 1) (vs := [.string nm]) rfl (by simp)
  have r62 := g6.rd (off := 2) (n := 1) (vs := [.int .i64 err]) rfl (by simp)
  have ag : aggOf true (rulC R) = some (.agg ⟨rulC R⟩) := rfl
  have ee := eqs15 hl
  refine callV_of (cawake_spec (hg.pre hp3)) ⟨.refl _, ?_⟩
  simp (dsimp := false) only [go_sem, Nat.reduceAdd, Nat.reduceEqDiff, Nat.reduceMul, Nat.reduceLeDiff, Nat.reduceSub, Nat.reduceLT, ↓reduceIte, reduceCtorEq, List.reduceReplicate, List.flatten_cons, List.flatten_nil, List.append_nil, eq_self, Int.reduceLE, Int.reduceLT, Int.reduceToNat, Nat.min_eq_left, Int.reducePow, Int.reduceNeg, Int.reduceEq, r3, ag]
  refine callV_of (cFrom_spec _ hl) ⟨.refl _, ?_⟩
  simp (dsimp := false) only [go_sem, Nat.reduceAdd, Nat.reduceEqDiff, Nat.reduceMul, Nat.reduceLeDiff, Nat.reduceSub, Nat.reduceLT, ↓reduceIte, reduceCtorEq, List.reduceReplicate, List.flatten_cons, List.flatten_nil, List.append_nil, eq_self, Int.reduceLE, Int.reduceLT, Int.reduceToNat, Nat.min_eq_left, Int.reducePow, Int.reduceNeg, Int.reduceEq, r5, ag, ee, r40, r41, r42, r60, r61, r62, beq_self_eq_true]
end Go.Proofs.YtoiihalnbdehkaaDoor.B
