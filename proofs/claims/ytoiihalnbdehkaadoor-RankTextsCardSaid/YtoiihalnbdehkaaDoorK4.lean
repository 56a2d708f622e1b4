/-
  The document's reading of a key.
-/
import Derived.Test.YtoiihalnbdehkaaDoorK3
namespace Go.Proofs.YtoiihalnbdehkaaDoor.B
open Go
set_option linter.unusedVariables false
set_option linter.unusedSimpArgs false
set_option maxRecDepth 100000
theorem ba_get (s : ByteArray) {i : Nat} (h : i < s.size) : s[i]? = some (s.data.toList.getD i 0) := by
  rw [List.getD_eq_getElem?_getD, Array.getElem?_toList]
  have : i < s.data.size := h
  rw [Array.getElem?_eq_getElem this, getElem?_pos s i h]; rfl
theorem Fin.nb {h g : AHeap} (n : Nat) (b : Bool) : Fin h (.tuple #[.int .u64 (n : Int), .bool b]) h (.tuple #[.int .u64 (n : Int), .bool b]) (h ++ g) := Fin.tup rfl rfl
theorem number_spec (h : AHeap) (t : ByteArray) {M : Nat} (hM : M < 1000000000000000000) (hs : t.size ≤ 140737488351232) :
    ∃ (n : Nat) (ok : Bool), Spec Tryd.prog nG fn.ref01_Number [.string t, .int .u64 (M : Int)] h (.tuple #[.int .u64 (n : Int), .bool ok]) h ∧ numL M t.data.toList = if ok then some n else none := by
  have dl := dl_len t
  suffices H : SpecX Tryd.prog nG fn.ref01_Number [.string t, .int .u64 (M : Int)] h fun v' h' => h' = h ∧ ∃ (n : Nat) (ok : Bool), v' = .tuple #[.int .u64 (n : Int), .bool ok] ∧ numL M t.data.toList = if ok then some n else none by
    obtain ⟨v', h', hsp, rfl, n, ok, rfl, hq⟩ := H
    exact ⟨n, ok, hsp, hq⟩
  refine SpecX.of_body (ir.ref01_Number.spec (Nat.le_of_ble_eq_true rfl)) ?_
  by_cases z0 : t.size < 1
  · have d1 : decide ((t.size : Int) < 1) = true := decide_eq_true (by omega)
    simp (dsimp := false) only [↓ir.ref01_Number.bw, ir.ref01_Number.rs, go_sem, Nat.reduceAdd, Nat.reduceEqDiff, Nat.reduceMul, Nat.reduceLeDiff, Nat.reduceSub, Nat.reduceLT, ↓reduceIte, reduceCtorEq, List.reduceReplicate, List.flatten_cons, List.flatten_nil, List.append_nil, eq_self, Int.reduceLE, Int.reduceLT, Int.reduceToNat, Nat.min_eq_left, Int.reducePow, Int.reduceNeg, Int.reduceEq, d1]
    refine ⟨0, false, rfl, ?_⟩
    rw [List.eq_nil_of_length_eq_zero (show t.data.toList.length = 0 by omega), numL_nil]; rfl
  have d1 : decide ((t.size : Int) < 1) = false := decide_eq_false (by omega)
  by_cases z1 : 18 < t.size
  · have d2 : decide ((t.size : Int) > 18) = true := decide_eq_true (by omega)
    have d3 : decide ((18 : Int) < t.size) = true := d2
    simp (dsimp := false) only [↓ir.ref01_Number.bw, ir.ref01_Number.rs, go_sem, Nat.reduceAdd, Nat.reduceEqDiff, Nat.reduceMul, Nat.reduceLeDiff, Nat.reduceSub, Nat.reduceLT, ↓reduceIte, reduceCtorEq, List.reduceReplicate, List.flatten_cons, List.flatten_nil, List.append_nil, eq_self, Int.reduceLE, Int.reduceLT, Int.reduceToNat, Nat.min_eq_left, Int.reducePow, Int.reduceNeg, Int.reduceEq, d1, d2, d3]
    refine ⟨0, false, rfl, ?_⟩
    rw [numL_long hM (by omega)]; rfl
  have d2 : decide ((t.size : Int) > 18) = false := decide_eq_false (by omega)
  have d3 : decide ((18 : Int) < t.size) = false := d2
  have g0 := ba_get t (i := 0) (by omega)
  obtain ⟨c0, r, hl⟩ : ∃ c0 r, t.data.toList = c0 :: r := by
    match hq : t.data.toList with
    | [] => rw [hq] at dl; simp at dl; omega
    | c :: r => exact ⟨c, r, rfl⟩
  have hc0 : t.data.toList.getD 0 0 = c0 := by rw [hl]; rfl
  rw [hc0] at g0
  simp (dsimp := false) only [↓ir.ref01_Number.bw, ir.ref01_Number.rs, go_sem, Nat.reduceAdd, Nat.reduceEqDiff, Nat.reduceMul, Nat.reduceLeDiff, Nat.reduceSub, Nat.reduceLT, ↓reduceIte, reduceCtorEq, List.reduceReplicate, List.flatten_cons, List.flatten_nil, List.append_nil, eq_self, Int.reduceLE, Int.reduceLT, Int.reduceToNat, Nat.min_eq_left, Int.reducePow, Int.reduceNeg, Int.reduceEq, d1, d2, d3, ixstrV_str, Int.toNat_zero, g0]
  have hz : ¬ (t.data.toList.head? = some 48 ∧ 1 < t.data.toList.length) ∨ (c0.toNat = 48 ∧ 1 < t.size) := by
    by_cases q : c0.toNat = 48 ∧ 1 < t.size
    · exact .inr q
    · refine .inl fun ⟨q1, q2⟩ => q ⟨?_, by omega⟩
      rw [hl] at q1
      have : c0 = 48 := by simpa using q1
      rw [this]; rfl
  by_cases zz : c0.toNat = 48 ∧ 1 < t.size
  · have e1 : (((c0.toNat : Nat) : Int) == 48) = true := by rw [zz.1]; rfl
    have d4 : decide ((t.size : Int) > 1) = true := decide_eq_true (by omega)
    have d5 : decide ((1 : Int) < t.size) = true := d4
    simp (dsimp := false) only [go_sem, Nat.reduceAdd, Nat.reduceEqDiff, Nat.reduceMul, Nat.reduceLeDiff, Nat.reduceSub, Nat.reduceLT, ↓reduceIte, reduceCtorEq, List.reduceReplicate, List.flatten_cons, List.flatten_nil, List.append_nil, eq_self, Int.reduceLE, Int.reduceLT, Int.reduceToNat, Nat.min_eq_left, Int.reducePow, Int.reduceNeg, Int.reduceEq, e1, d4, d5]
    refine ⟨0, false, rfl, ?_⟩
    rw [numL_zero (by omega) (by rw [hl, List.head?_cons]; exact congrArg some (UInt8.toNat_inj.1 zz.1))]; rfl
  have hz2 := hz.resolve_right zz
  have hne : t.data.toList ≠ [] := by rw [hl]; simp
  clear hz hc0 g0
  have step : ∀ i, i < t.size → ∃ c : UInt8, t[i]? = some c ∧ t.data.toList.take (i + 1) = t.data.toList.take i ++ [c] ∧ c ∈ t.data.toList := fun i hi => by
    have hi' : i < t.data.toList.length := by omega
    refine ⟨t.data.toList[i], ?_, List.take_succ_eq_append_getElem hi', List.getElem_mem hi'⟩
    rw [ba_get t hi, List.getD_eq_getElem?_getD, List.getElem?_eq_getElem hi']; rfl
  have hlast : ∀ (i : Nat), i = t.size → t.data.toList.take i = t.data.toList := fun i hi => List.take_of_length_le (by omega)
  by_cases e48 : c0.toNat = 48
  case' pos =>
    have e1 : (((c0.toNat : Nat) : Int) == 48) = true := by rw [e48]; rfl
    have d4 : decide ((t.size : Int) > 1) = false := decide_eq_false (by omega)
    have d5 : decide ((1 : Int) < t.size) = false := d4
    simp (dsimp := false) only [go_sem, Nat.reduceAdd, Nat.reduceEqDiff, Nat.reduceMul, Nat.reduceLeDiff, Nat.reduceSub, Nat.reduceLT, ↓reduceIte, reduceCtorEq, List.reduceReplicate, List.flatten_cons, List.flatten_nil, List.append_nil, eq_self, Int.reduceLE, Int.reduceLT, Int.reduceToNat, Nat.min_eq_left, Int.reducePow, Int.reduceNeg, Int.reduceEq, e1, d4, d5]
  case' neg =>
    have e1 : (((c0.toNat : Nat) : Int) == 48) = false := by simp; omega
    simp (dsimp := false) only [go_sem, Nat.reduceAdd, Nat.reduceEqDiff, Nat.reduceMul, Nat.reduceLeDiff, Nat.reduceSub, Nat.reduceLT, ↓reduceIte, reduceCtorEq, List.reduceReplicate, List.flatten_cons, List.flatten_nil, List.append_nil, eq_self, Int.reduceLE, Int.reduceLT, Int.reduceToNat, Nat.min_eq_left, Int.reducePow, Int.reduceNeg, Int.reduceEq, e1]
  all_goals
    refine loopV_of (fun m e h2 => ∃ (i : Nat), m = t.size - i ∧ i ≤ t.size ∧ h2 = h ∧ digs (t.data.toList.take i) = true ∧ e = [(0, .string t), (1, .int .u64 (M : Int)), (6, .int .u64 ((vl (t.data.toList.take i) : Nat) : Int)), (7, .int .i64 i)]) _
      ⟨0, rfl, Nat.zero_le _, rfl, rfl, rfl⟩ ?_
    rintro m e h2 ⟨i, rfl, hi, rfl, hdg, rfl⟩
    rcases Nat.lt_or_ge i t.size with hlt | hge
    · obtain ⟨c, gi, tk, hmem⟩ := step i hlt
      have hd : decide ((i : Int) < t.size) = true := decide_eq_true (by omega)
      have e2 : IntKind.i64.wrap ((i : Int) + 1) = ((i + 1 : Nat) : Int) := wrap_succ hlt (by unfold maxI; omega)
      have hv := vlF_high (t.data.toList.take i) 0 hdg
      have hp : 10 ^ (t.data.toList.take i).length ≤ 10 ^ 17 := Nat.pow_le_pow_right (by omega) (by rw [List.length_take]; omega)
      have hv2 : vl (t.data.toList.take i) < 100000000000000000 := by
        have : (0 + 1) * 10 ^ (t.data.toList.take i).length ≤ 100000000000000000 := by omega
        exact Nat.lt_of_lt_of_le hv this
      obtain ⟨a, ha⟩ : ∃ a, vl (t.data.toList.take i) = a := ⟨_, rfl⟩
      rw [ha] at hv2 ⊢
      have hc256 := c.toNat_lt
      simp (dsimp := false) only [↓ir.ref01_Number.l1.bw, go_sem, Nat.reduceAdd, Nat.reduceEqDiff, Nat.reduceMul, Nat.reduceLeDiff, Nat.reduceSub, Nat.reduceLT, ↓reduceIte, reduceCtorEq, List.reduceReplicate, List.flatten_cons, List.flatten_nil, List.append_nil, eq_self, Int.reduceLE, Int.reduceLT, Int.reduceToNat, Nat.min_eq_left, Int.reducePow, Int.reduceNeg, Int.reduceEq, hd, ixstrV_str, Int.toNat_natCast, gi]
      have hbad : c.toNat < 48 ∨ 57 < c.toNat → digs t.data.toList = false := fun q => by
        cases hq : digs t.data.toList with
        | false => rfl
        | true => exact absurd hmem (digs_not hq q)
      refine ⟨by omega, ?_⟩
      by_cases b1 : c.toNat < 48
      · have f1 : decide (((c.toNat : Nat) : Int) < 48) = true := decide_eq_true (by omega)
        simp (dsimp := false) only [go_sem, Nat.reduceAdd, Nat.reduceEqDiff, Nat.reduceMul, Nat.reduceLeDiff, Nat.reduceSub, Nat.reduceLT, ↓reduceIte, reduceCtorEq, List.reduceReplicate, List.flatten_cons, List.flatten_nil, List.append_nil, eq_self, Int.reduceLE, Int.reduceLT, Int.reduceToNat, Nat.min_eq_left, Int.reducePow, Int.reduceNeg, Int.reduceEq, f1]
        exact ⟨0, false, rfl, by rw [numL_bad (hbad (.inl b1))]; rfl⟩
      have f1 : decide (((c.toNat : Nat) : Int) < 48) = false := decide_eq_false (by omega)
      by_cases b2 : 57 < c.toNat
      · have f2 : decide (((c.toNat : Nat) : Int) > 57) = true := decide_eq_true (by omega)
        have f3 : decide ((57 : Int) < ((c.toNat : Nat) : Int)) = true := f2
        simp (dsimp := false) only [go_sem, Nat.reduceAdd, Nat.reduceEqDiff, Nat.reduceMul, Nat.reduceLeDiff, Nat.reduceSub, Nat.reduceLT, ↓reduceIte, reduceCtorEq, List.reduceReplicate, List.flatten_cons, List.flatten_nil, List.append_nil, eq_self, Int.reduceLE, Int.reduceLT, Int.reduceToNat, Nat.min_eq_left, Int.reducePow, Int.reduceNeg, Int.reduceEq, f1, f2, f3, ixstrV_str, Int.toNat_natCast, gi]
        refine ⟨by omega, 0, false, rfl, by rw [numL_bad (hbad (.inr b2))]; rfl⟩
      have f2 : decide (((c.toNat : Nat) : Int) > 57) = false := decide_eq_false (by omega)
      have f3 : decide ((57 : Int) < ((c.toNat : Nat) : Int)) = false := f2
      have m1 : IntKind.u64.wrap ((a : Int) * 10) = ((a * 10 : Nat) : Int) := by rw [← wrapU64 (n := a * 10) (by omega)]; congr 1
      have m2 : IntKind.u8.wrap (((c.toNat : Nat) : Int) - 48) = ((c.toNat - 48 : Nat) : Int) := by rw [← wrapU8 (n := c.toNat - 48) (by omega)]; congr 1; omega
      have m3 := wrapU64 (n := c.toNat - 48) (by omega)
      have m4 : IntKind.u64.wrap (((a * 10 : Nat) : Int) + ((c.toNat - 48 : Nat) : Int)) = ((a * 10 + (c.toNat - 48) : Nat) : Int) := by rw [← wrapU64 (n := a * 10 + (c.toNat - 48)) (by omega)]; congr 1
      simp (dsimp := false) only [go_sem, Nat.reduceAdd, Nat.reduceEqDiff, Nat.reduceMul, Nat.reduceLeDiff, Nat.reduceSub, Nat.reduceLT, ↓reduceIte, reduceCtorEq, List.reduceReplicate, List.flatten_cons, List.flatten_nil, List.append_nil, eq_self, Int.reduceLE, Int.reduceLT, Int.reduceToNat, Nat.min_eq_left, Int.reducePow, Int.reduceNeg, Int.reduceEq, f1, f2, f3, ixstrV_str, Int.toNat_natCast, gi, m1, m2, m3, m4, e2]
      refine ⟨by omega, by omega, _, by omega, i + 1, rfl, by omega, ?_, ?_⟩
      · rw [tk, digs_snoc, hdg]; simp; omega
      · rw [tk, vl, vlF_snoc, ← ha]
    · have hd : decide ((i : Int) < t.size) = false := decide_eq_false (by omega)
      simp (dsimp := false) only [↓ir.ref01_Number.l1.bw, go_sem, Nat.reduceAdd, Nat.reduceEqDiff, Nat.reduceMul, Nat.reduceLeDiff, Nat.reduceSub, Nat.reduceLT, ↓reduceIte, reduceCtorEq, List.reduceReplicate, List.flatten_cons, List.flatten_nil, List.append_nil, eq_self, Int.reduceLE, Int.reduceLT, Int.reduceToNat, Nat.min_eq_left, Int.reducePow, Int.reduceNeg, Int.reduceEq, hd]
      obtain rfl : i = t.size := by omega
      rw [hlast _ rfl] at hdg ⊢
      refine ⟨_, _, rfl, ?_⟩
      rw [numL_digs hne hdg hz2]
      by_cases q : vl t.data.toList ≤ M
      · rw [if_pos q, decide_eq_true (by omega)]; rfl
      · rw [if_neg q, decide_eq_false (by omega)]; rfl
end Go.Proofs.YtoiihalnbdehkaaDoor.B
