/-
  The program's reading of a key.
-/
import Derived.Test.YtoiihalnbdehkaaDoorK2
namespace Go.Proofs.YtoiihalnbdehkaaDoor.B
open Go
set_option linter.unusedVariables false
set_option linter.unusedSimpArgs false
set_option maxRecDepth 100000
abbrev keyV (e s : Nat) (m : Int) : Value := .agg #[.int .u32 (e : Int), .int .u32 (s : Int), .int .i64 m]
def parV : Option (Nat × Nat × Nat) → Value
  | some (e, s, m) => .tuple #[keyV e s m, .int .i64 0]
  | none => .tuple #[keyV 0 0 0, .int .i64 10]
theorem right_spec (h : AHeap) (e s : Nat) (m : Int) : Spec Tryd.prog nG fn.rank_Right [keyV e s m] h (.bool (decide (e ≤ 65536 ∧ s < 64 ∧ 0 ≤ m ∧ m ≤ 15))) h := by
  apply ir.rank_Right.spec (Nat.le_of_ble_eq_true rfl)
  simp (dsimp := false) only [↓ir.rank_Right.bw, ir.rank_Right.rs, go_sem, Nat.reduceAdd, Nat.reduceEqDiff, Nat.reduceMul, Nat.reduceLeDiff, Nat.reduceSub, Nat.reduceLT, ↓reduceIte, reduceCtorEq, List.reduceReplicate, List.flatten_cons, List.flatten_nil, List.append_nil, eq_self, Int.reduceLE, Int.reduceLT, Int.reduceToNat, Nat.min_eq_left, Int.reducePow, Int.reduceNeg, Int.reduceEq]
  repeat' (first | ((first | refine cVd (fun hc => ?_) (fun hc => ?_) | refine gTd (fun hc => ?_) (fun hc => ?_) | refine gFd (fun hc => ?_) (fun hc => ?_) | refine cVe (fun hc => ?_) (fun hc => ?_) | refine gTe (fun hc => ?_) (fun hc => ?_) | refine gFe (fun hc => ?_) (fun hc => ?_) | refine cVn (fun hc => ?_) (fun hc => ?_) | refine gTn (fun hc => ?_) (fun hc => ?_) | refine gFn (fun hc => ?_) (fun hc => ?_) | refine cV (fun hc => ?_) (fun hc => ?_) | refine gT (fun hc => ?_) (fun hc => ?_) | refine gF (fun hc => ?_) (fun hc => ?_)) <;> try simp (dsimp := false) only [go_sem, Nat.reduceAdd, Nat.reduceEqDiff, Nat.reduceMul, Nat.reduceLeDiff, Nat.reduceSub, Nat.reduceLT, ↓reduceIte, reduceCtorEq, List.reduceReplicate, List.flatten_cons, List.flatten_nil, List.append_nil, eq_self, Int.reduceLE, Int.reduceLT, Int.reduceToNat, Nat.min_eq_left, Int.reducePow, Int.reduceNeg, Int.reduceEq]) | (with_reducible refine And.intro (by omega) ?_ <;> try simp (dsimp := false) only [go_sem, Nat.reduceAdd, Nat.reduceEqDiff, Nat.reduceMul, Nat.reduceLeDiff, Nat.reduceSub, Nat.reduceLT, ↓reduceIte, reduceCtorEq, List.reduceReplicate, List.flatten_cons, List.flatten_nil, List.append_nil, eq_self, Int.reduceLE, Int.reduceLT, Int.reduceToNat, Nat.min_eq_left, Int.reducePow, Int.reduceNeg, Int.reduceEq]))
  all_goals refine Fin.sc rfl (congrArg Value.bool ?_)
  all_goals first | exact decide_eq_false (by omega) | exact (decide_eq_false (by omega)).symm | exact decide_eq_decide.2 (by omega) | trace_state
theorem rright_spec (h : AHeap) (e s : Nat) (m : Int) : Spec Tryd.prog nG fn.ref01_Right [keyV e s m] h (.bool (decide (e ≤ 65536 ∧ s < 64 ∧ 0 ≤ m ∧ m ≤ 15))) h := by
  apply ir.ref01_Right.spec (Nat.le_of_ble_eq_true rfl)
  simp (dsimp := false) only [↓ir.ref01_Right.bw, ir.ref01_Right.rs, go_sem, Nat.reduceAdd, Nat.reduceEqDiff, Nat.reduceMul, Nat.reduceLeDiff, Nat.reduceSub, Nat.reduceLT, ↓reduceIte, reduceCtorEq, List.reduceReplicate, List.flatten_cons, List.flatten_nil, List.append_nil, eq_self, Int.reduceLE, Int.reduceLT, Int.reduceToNat, Nat.min_eq_left, Int.reducePow, Int.reduceNeg, Int.reduceEq]
  repeat' (first | ((first | refine cVd (fun hc => ?_) (fun hc => ?_) | refine gTd (fun hc => ?_) (fun hc => ?_) | refine gFd (fun hc => ?_) (fun hc => ?_) | refine cVe (fun hc => ?_) (fun hc => ?_) | refine gTe (fun hc => ?_) (fun hc => ?_) | refine gFe (fun hc => ?_) (fun hc => ?_) | refine cVn (fun hc => ?_) (fun hc => ?_) | refine gTn (fun hc => ?_) (fun hc => ?_) | refine gFn (fun hc => ?_) (fun hc => ?_) | refine cV (fun hc => ?_) (fun hc => ?_) | refine gT (fun hc => ?_) (fun hc => ?_) | refine gF (fun hc => ?_) (fun hc => ?_)) <;> try simp (dsimp := false) only [go_sem, Nat.reduceAdd, Nat.reduceEqDiff, Nat.reduceMul, Nat.reduceLeDiff, Nat.reduceSub, Nat.reduceLT, ↓reduceIte, reduceCtorEq, List.reduceReplicate, List.flatten_cons, List.flatten_nil, List.append_nil, eq_self, Int.reduceLE, Int.reduceLT, Int.reduceToNat, Nat.min_eq_left, Int.reducePow, Int.reduceNeg, Int.reduceEq]) | (with_reducible refine And.intro (by omega) ?_ <;> try simp (dsimp := false) only [go_sem, Nat.reduceAdd, Nat.reduceEqDiff, Nat.reduceMul, Nat.reduceLeDiff, Nat.reduceSub, Nat.reduceLT, ↓reduceIte, reduceCtorEq, List.reduceReplicate, List.flatten_cons, List.flatten_nil, List.append_nil, eq_self, Int.reduceLE, Int.reduceLT, Int.reduceToNat, Nat.min_eq_left, Int.reducePow, Int.reduceNeg, Int.reduceEq]))
  all_goals refine Fin.sc rfl (congrArg Value.bool ?_)
  all_goals first | exact decide_eq_false (by omega) | exact (decide_eq_false (by omega)).symm | exact decide_eq_decide.2 (by omega) | trace_state
theorem Fin.kt {h g : AHeap} (e s : Nat) (m k : Int) : Fin h (.tuple #[keyV e s m, .int .i64 k]) h (.tuple #[keyV e s m, .int .i64 k]) (h ++ g) := by
  refine Fin.plain (.tuple rfl fun i => ?_) g
  match i with
  | 0 =>
    refine .agg rfl fun j => ?_
    match j with
    | 0 => exact .scalar rfl
    | 1 => exact .scalar rfl
    | 2 => exact .scalar rfl
    | j + 3 => exact .any _
  | 1 => exact .scalar rfl
  | i + 2 => exact .any _
theorem cutL_len {c : UInt8} {l A R : List UInt8} (h : cutL c l = some (A, R)) : A.length ≤ l.length ∧ R.length ≤ l.length := by
  unfold cutL at h
  split at h
  · cases h
    simp only [List.length_take, List.length_drop]
    omega
  · cases h
theorem mk_size (l : List UInt8) : (⟨l.toArray⟩ : ByteArray).size = l.length := by simp [ByteArray.size]
theorem dl_len (s : ByteArray) : s.data.toList.length = s.size := Array.length_toList
theorem cuts (t : ByteArray) : ∃ (sa sr sb sc : ByteArray) (fa fb : Bool), cutV t 46 = .tuple #[.string sa, .string sr, .bool fa] ∧ cutV sr 47 = .tuple #[.string sb, .string sc, .bool fb] ∧ sa.size ≤ t.size ∧ sr.size ≤ t.size ∧ sb.size ≤ t.size ∧ sc.size ≤ t.size ∧
    ∀ a b c, prs a b c t.data.toList = if fa = true ∧ fb = true then (match numL a sa.data.toList, numL b sb.data.toList, numL c sc.data.toList with
      | some e, some s, some m => some (e, s, m)
      | _, _, _ => none) else none := by
  have dl := dl_len t
  cases h1 : cutL 46 t.data.toList with
  | none =>
    refine ⟨t, ⟨#[]⟩, ⟨#[]⟩, ⟨#[]⟩, false, false, by unfold cutV; rw [h1], rfl, Nat.le_refl _, Nat.zero_le _, Nat.zero_le _, Nat.zero_le _, fun a b c => ?_⟩
    unfold prs; rw [h1]; rfl
  | some x =>
    obtain ⟨A, R⟩ := x
    obtain ⟨l1, l2⟩ := cutL_len h1
    have d2 : (⟨R.toArray⟩ : ByteArray).data.toList = R := rfl
    cases h2 : cutL 47 R with
    | none =>
      refine ⟨⟨A.toArray⟩, ⟨R.toArray⟩, ⟨R.toArray⟩, ⟨#[]⟩, true, false, by unfold cutV; rw [h1], by unfold cutV; rw [d2, h2], by rw [mk_size]; omega, by rw [mk_size]; omega, by rw [mk_size]; omega, Nat.zero_le _, fun a b c => ?_⟩
      unfold prs; rw [h1]; simp only; rw [h2]; simp
    | some y =>
      obtain ⟨B, C⟩ := y
      obtain ⟨l3, l4⟩ := cutL_len h2
      refine ⟨⟨A.toArray⟩, ⟨R.toArray⟩, ⟨B.toArray⟩, ⟨C.toArray⟩, true, true, by unfold cutV; rw [h1], by unfold cutV; rw [d2, h2], by rw [mk_size]; omega, by rw [mk_size]; omega, by rw [mk_size]; omega, by rw [mk_size]; omega, fun a b c => ?_⟩
      unfold prs; rw [h1]; simp only; rw [h2]; rfl
theorem parse_spec {h : AHeap} (k : ErrV h) (hg : PowV h) {t : ByteArray} (hm : t.size ≤ 140737488351232) : Spec Tryd.prog nG fn.rank_Parse [.string t] h (parV (prs 65536 63 15 t.data.toList)) h := by
  obtain ⟨sa, sr, sb, sc, fa, fb, c1, c2, z1, z2, z3, z4, hp⟩ := cuts t
  have k2 : ErrV (h ++ [AObj.row Mode.fix [.int .u32 0, .int .u32 0, .int .i64 0]]) := k.pre (.app _ _)
  have g2 : PowV (h ++ [AObj.row Mode.fix [.int .u32 0, .int .u32 0, .int .i64 0]]) := hg.pre (.app _ _)
  obtain ⟨n1, o1, s1, q1⟩ := part_spec k2 g2 (t := sa) (by omega)
  obtain ⟨n2, o2, s2, q2⟩ := part_spec k2 g2 (t := sb) (by omega)
  obtain ⟨n3, o3, s3, q3⟩ := part_spec k2 g2 (t := sc) (by omega)
  have hp2 := hp 4294967295 4294967295 4294967295
  rw [prs_le (M := 4294967295) (by decide) (by decide) (by decide), hp2, q1, q2, q3]
  apply ir.rank_Parse.spec (Nat.le_of_ble_eq_true rfl)
  simp (dsimp := false) only [↓ir.rank_Parse.bw, ir.rank_Parse.rs, go_sem, Nat.reduceAdd, Nat.reduceEqDiff, Nat.reduceMul, Nat.reduceLeDiff, Nat.reduceSub, Nat.reduceLT, ↓reduceIte, reduceCtorEq, List.reduceReplicate, List.flatten_cons, List.flatten_nil, List.append_nil, eq_self, Int.reduceLE, Int.reduceLT, Int.reduceToNat, Nat.min_eq_left, Int.reducePow, Int.reduceNeg, Int.reduceEq]
  refine callV_of (cut_spec hm 46) ?_
  rw [c1]
  simp (dsimp := false) only [go_sem, Nat.reduceAdd, Nat.reduceEqDiff, Nat.reduceMul, Nat.reduceLeDiff, Nat.reduceSub, Nat.reduceLT, ↓reduceIte, reduceCtorEq, List.reduceReplicate, List.flatten_cons, List.flatten_nil, List.append_nil, eq_self, Int.reduceLE, Int.reduceLT, Int.reduceToNat, Nat.min_eq_left, Int.reducePow, Int.reduceNeg, Int.reduceEq]
  refine callV_of (cut_spec (by omega) 47) ?_
  rw [c2]
  simp (dsimp := false) only [go_sem, Nat.reduceAdd, Nat.reduceEqDiff, Nat.reduceMul, Nat.reduceLeDiff, Nat.reduceSub, Nat.reduceLT, ↓reduceIte, reduceCtorEq, List.reduceReplicate, List.flatten_cons, List.flatten_nil, List.append_nil, eq_self, Int.reduceLE, Int.reduceLT, Int.reduceToNat, Nat.min_eq_left, Int.reducePow, Int.reduceNeg, Int.reduceEq]
  refine callV_of s1 ?_
  simp (dsimp := false) only [go_sem, Nat.reduceAdd, Nat.reduceEqDiff, Nat.reduceMul, Nat.reduceLeDiff, Nat.reduceSub, Nat.reduceLT, ↓reduceIte, reduceCtorEq, List.reduceReplicate, List.flatten_cons, List.flatten_nil, List.append_nil, eq_self, Int.reduceLE, Int.reduceLT, Int.reduceToNat, Nat.min_eq_left, Int.reducePow, Int.reduceNeg, Int.reduceEq]
  refine callV_of s2 ?_
  simp (dsimp := false) only [go_sem, Nat.reduceAdd, Nat.reduceEqDiff, Nat.reduceMul, Nat.reduceLeDiff, Nat.reduceSub, Nat.reduceLT, ↓reduceIte, reduceCtorEq, List.reduceReplicate, List.flatten_cons, List.flatten_nil, List.append_nil, eq_self, Int.reduceLE, Int.reduceLT, Int.reduceToNat, Nat.min_eq_left, Int.reducePow, Int.reduceNeg, Int.reduceEq]
  refine callV_of s3 ?_
  have bad : ∀ (x : Option (Nat × Nat × Nat)), x = none → Fin h (parV (x.bind fun k => if k.1 ≤ 65536 ∧ k.2.1 ≤ 63 ∧ k.2.2 ≤ 15 then some k else none)) h (.tuple #[keyV 0 0 0, .int .i64 10]) (h ++ [AObj.row Mode.fix [.int .u32 0, .int .u32 0, .int .i64 0]]) := fun x e => by subst e; exact Fin.kt 0 0 0 10
  cases fa
  · simp (dsimp := false) only [go_sem, Nat.reduceAdd, Nat.reduceEqDiff, Nat.reduceMul, Nat.reduceLeDiff, Nat.reduceSub, Nat.reduceLT, ↓reduceIte, reduceCtorEq, List.reduceReplicate, List.flatten_cons, List.flatten_nil, List.append_nil, eq_self, Int.reduceLE, Int.reduceLT, Int.reduceToNat, Nat.min_eq_left, Int.reducePow, Int.reduceNeg, Int.reduceEq]
    exact bad _ rfl
  cases fb
  · simp (dsimp := false) only [go_sem, Nat.reduceAdd, Nat.reduceEqDiff, Nat.reduceMul, Nat.reduceLeDiff, Nat.reduceSub, Nat.reduceLT, ↓reduceIte, reduceCtorEq, List.reduceReplicate, List.flatten_cons, List.flatten_nil, List.append_nil, eq_self, Int.reduceLE, Int.reduceLT, Int.reduceToNat, Nat.min_eq_left, Int.reducePow, Int.reduceNeg, Int.reduceEq]
    exact bad _ rfl
  cases o1
  · simp (dsimp := false) only [go_sem, Nat.reduceAdd, Nat.reduceEqDiff, Nat.reduceMul, Nat.reduceLeDiff, Nat.reduceSub, Nat.reduceLT, ↓reduceIte, reduceCtorEq, List.reduceReplicate, List.flatten_cons, List.flatten_nil, List.append_nil, eq_self, Int.reduceLE, Int.reduceLT, Int.reduceToNat, Nat.min_eq_left, Int.reducePow, Int.reduceNeg, Int.reduceEq]
    exact bad _ rfl
  cases o2
  · simp (dsimp := false) only [go_sem, Nat.reduceAdd, Nat.reduceEqDiff, Nat.reduceMul, Nat.reduceLeDiff, Nat.reduceSub, Nat.reduceLT, ↓reduceIte, reduceCtorEq, List.reduceReplicate, List.flatten_cons, List.flatten_nil, List.append_nil, eq_self, Int.reduceLE, Int.reduceLT, Int.reduceToNat, Nat.min_eq_left, Int.reducePow, Int.reduceNeg, Int.reduceEq]
    exact bad _ rfl
  cases o3
  · simp (dsimp := false) only [go_sem, Nat.reduceAdd, Nat.reduceEqDiff, Nat.reduceMul, Nat.reduceLeDiff, Nat.reduceSub, Nat.reduceLT, ↓reduceIte, reduceCtorEq, List.reduceReplicate, List.flatten_cons, List.flatten_nil, List.append_nil, eq_self, Int.reduceLE, Int.reduceLT, Int.reduceToNat, Nat.min_eq_left, Int.reducePow, Int.reduceNeg, Int.reduceEq]
    exact bad _ rfl
  have hn1 : n1 ≤ 4294967295 := by have := q1; unfold numL at this; split at this <;> simp at this; omega
  have hn2 : n2 ≤ 4294967295 := by have := q2; unfold numL at this; split at this <;> simp at this; omega
  have hn3 : n3 ≤ 4294967295 := by have := q3; unfold numL at this; split at this <;> simp at this; omega
  have w1 := wrapU32 (show n1 < 4294967296 by omega)
  have w2 := wrapU32 (show n2 < 4294967296 by omega)
  have w3 : IntKind.i64.wrap (n3 : Int) = n3 := wrap_nat (by unfold maxI; omega)
  by_cases c3 : n3 ≤ 15
  · have d1 : decide ((n3 : Int) > 15) = false := decide_eq_false (by omega)
    have d2 : decide ((15 : Int) < n3) = false := d1
    simp (dsimp := false) only [go_sem, Nat.reduceAdd, Nat.reduceEqDiff, Nat.reduceMul, Nat.reduceLeDiff, Nat.reduceSub, Nat.reduceLT, ↓reduceIte, reduceCtorEq, List.reduceReplicate, List.flatten_cons, List.flatten_nil, List.append_nil, eq_self, Int.reduceLE, Int.reduceLT, Int.reduceToNat, Nat.min_eq_left, Int.reducePow, Int.reduceNeg, Int.reduceEq, d1, d2, w1, w2, w3]
    refine callV_of (right_spec _ n1 n2 n3) ?_
    by_cases c : n1 ≤ 65536 ∧ n2 < 64 ∧ (0 : Int) ≤ n3 ∧ (n3 : Int) ≤ 15
    · rw [decide_eq_true c]
      simp (dsimp := false) only [go_sem, Nat.reduceAdd, Nat.reduceEqDiff, Nat.reduceMul, Nat.reduceLeDiff, Nat.reduceSub, Nat.reduceLT, ↓reduceIte, reduceCtorEq, List.reduceReplicate, List.flatten_cons, List.flatten_nil, List.append_nil, eq_self, Int.reduceLE, Int.reduceLT, Int.reduceToNat, Nat.min_eq_left, Int.reducePow, Int.reduceNeg, Int.reduceEq]
      rw [if_pos ⟨c.1, by omega, c3⟩]
      exact Fin.kt n1 n2 n3 0
    · rw [decide_eq_false c]
      simp (dsimp := false) only [go_sem, Nat.reduceAdd, Nat.reduceEqDiff, Nat.reduceMul, Nat.reduceLeDiff, Nat.reduceSub, Nat.reduceLT, ↓reduceIte, reduceCtorEq, List.reduceReplicate, List.flatten_cons, List.flatten_nil, List.append_nil, eq_self, Int.reduceLE, Int.reduceLT, Int.reduceToNat, Nat.min_eq_left, Int.reducePow, Int.reduceNeg, Int.reduceEq]
      rw [if_neg (fun q => c ⟨q.1, by omega, by omega, by omega⟩)]
      exact Fin.kt 0 0 0 10
  · have d1 : decide ((n3 : Int) > 15) = true := decide_eq_true (by omega)
    have d2 : decide ((15 : Int) < n3) = true := d1
    simp (dsimp := false) only [go_sem, Nat.reduceAdd, Nat.reduceEqDiff, Nat.reduceMul, Nat.reduceLeDiff, Nat.reduceSub, Nat.reduceLT, ↓reduceIte, reduceCtorEq, List.reduceReplicate, List.flatten_cons, List.flatten_nil, List.append_nil, eq_self, Int.reduceLE, Int.reduceLT, Int.reduceToNat, Nat.min_eq_left, Int.reducePow, Int.reduceNeg, Int.reduceEq, d1, d2]
    rw [if_neg (fun q => c3 q.2.2)]
    exact Fin.kt 0 0 0 10
end Go.Proofs.YtoiihalnbdehkaaDoor.B
