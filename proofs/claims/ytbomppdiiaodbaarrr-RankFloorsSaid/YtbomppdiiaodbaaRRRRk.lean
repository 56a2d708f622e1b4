/-
  Layer 1 (rank) over the abstract heap: what each function answers.
-/
import Derived.Test.YtbomppdiiaodbaaRRRIr01
namespace Go.Proofs.YtbomppdiiaodbaaRRR.B
open Go
set_option linter.unusedVariables false
set_option linter.unusedSimpArgs false

abbrev keyV (e s m : Int) : Value := .agg #[.int .u32 e, .int .u32 s, .int .i64 m]

def rightB (e s m : Int) : Bool := decide (e ≤ 65536) && decide (s < 64) && decide (0 ≤ m) && decide (m ≤ 15)

theorem right_spec (h : AHeap) (e s m : Int) : Spec Try.prog nG fn.rank_Right [keyV e s m] h (.bool (rightB e s m)) h := by
  apply ir.rank_Right.spec (Nat.le_of_ble_eq_true rfl)
  simp only [↓ir.rank_Right.bw, ir.rank_Right.rs]
  simp (dsimp := false) only [keyV, go_sem, Nat.reduceAdd, Nat.reduceEqDiff, Nat.reduceMul, Nat.reduceLeDiff, Nat.reduceSub, Nat.reduceLT, ↓reduceIte, reduceCtorEq, List.reduceReplicate, List.flatten_cons, List.flatten_nil, List.append_nil, eq_self, Int.reduceLE, Int.reduceLT, Int.reduceToNat, Nat.min_eq_left, Int.reducePow, Int.reduceNeg, Int.reduceEq]
  unfold rightB
  repeat' ((first | refine cVd (fun hc => ?_) (fun hc => ?_) | refine gTd (fun hc => ?_) (fun hc => ?_) | refine gFd (fun hc => ?_) (fun hc => ?_) | refine cVe (fun hc => ?_) (fun hc => ?_) | refine gTe (fun hc => ?_) (fun hc => ?_) | refine gFe (fun hc => ?_) (fun hc => ?_) | refine cVn (fun hc => ?_) (fun hc => ?_) | refine gTn (fun hc => ?_) (fun hc => ?_) | refine gFn (fun hc => ?_) (fun hc => ?_) | refine cV (fun hc => ?_) (fun hc => ?_) | refine gT (fun hc => ?_) (fun hc => ?_) | refine gF (fun hc => ?_) (fun hc => ?_)) <;> try simp (dsimp := false) only [go_sem, Nat.reduceAdd, Nat.reduceEqDiff, Nat.reduceMul, Nat.reduceLeDiff, Nat.reduceSub, Nat.reduceLT, ↓reduceIte, reduceCtorEq, List.reduceReplicate, List.flatten_cons, List.flatten_nil, List.append_nil, eq_self, Int.reduceLE, Int.reduceLT, Int.reduceToNat, Nat.min_eq_left, Int.reducePow, Int.reduceNeg, Int.reduceEq])
  all_goals (simp only [*, decide_true, decide_false, Bool.and_true, Bool.true_and, Bool.and_false, Bool.false_and]; exact Fin.scalar rfl _)

theorem rright_spec (h : AHeap) (e s m : Int) : Spec Try.prog nG fn.ref01_Right [keyV e s m] h (.bool (rightB e s m)) h := by
  apply ir.ref01_Right.spec (Nat.le_of_ble_eq_true rfl)
  simp only [↓ir.ref01_Right.bw, ir.ref01_Right.rs]
  simp (dsimp := false) only [keyV, go_sem, Nat.reduceAdd, Nat.reduceEqDiff, Nat.reduceMul, Nat.reduceLeDiff, Nat.reduceSub, Nat.reduceLT, ↓reduceIte, reduceCtorEq, List.reduceReplicate, List.flatten_cons, List.flatten_nil, List.append_nil, eq_self, Int.reduceLE, Int.reduceLT, Int.reduceToNat, Nat.min_eq_left, Int.reducePow, Int.reduceNeg, Int.reduceEq]
  have hb : rightB e s m = (decide (e ≤ 65536) && decide (s ≤ 63) && decide (0 ≤ m) && decide (m ≤ 15)) := by
    unfold rightB
    have : decide (s < 64) = decide (s ≤ 63) := by apply decide_eq_decide.2; omega
    rw [this]
  rw [hb]
  repeat' ((first | refine cVd (fun hc => ?_) (fun hc => ?_) | refine gTd (fun hc => ?_) (fun hc => ?_) | refine gFd (fun hc => ?_) (fun hc => ?_) | refine cVe (fun hc => ?_) (fun hc => ?_) | refine gTe (fun hc => ?_) (fun hc => ?_) | refine gFe (fun hc => ?_) (fun hc => ?_) | refine cVn (fun hc => ?_) (fun hc => ?_) | refine gTn (fun hc => ?_) (fun hc => ?_) | refine gFn (fun hc => ?_) (fun hc => ?_) | refine cV (fun hc => ?_) (fun hc => ?_) | refine gT (fun hc => ?_) (fun hc => ?_) | refine gF (fun hc => ?_) (fun hc => ?_)) <;> try simp (dsimp := false) only [go_sem, Nat.reduceAdd, Nat.reduceEqDiff, Nat.reduceMul, Nat.reduceLeDiff, Nat.reduceSub, Nat.reduceLT, ↓reduceIte, reduceCtorEq, List.reduceReplicate, List.flatten_cons, List.flatten_nil, List.append_nil, eq_self, Int.reduceLE, Int.reduceLT, Int.reduceToNat, Nat.min_eq_left, Int.reducePow, Int.reduceNeg, Int.reduceEq])
  all_goals (simp only [*, decide_true, decide_false, Bool.and_true, Bool.true_and, Bool.and_false, Bool.false_and]; exact Fin.scalar rfl _)

theorem Fin.keyV (h : AHeap) (e s m : Int) (g : AHeap) : Fin h (keyV e s m) h (keyV e s m) (h ++ g) := by
  refine Fin.plain ?_ g
  refine .agg rfl fun i => ?_
  match i with
  | 0 => exact .scalar rfl
  | 1 => exact .scalar rfl
  | 2 => exact .scalar rfl
  | i + 3 => exact .any _

theorem to_spec (h : AHeap) (e s m : Int) : Spec Try.prog nG fn.law01_To [keyV e s m] h (keyV e s m) h := by
  apply ir.law01_To.spec (Nat.le_of_ble_eq_true rfl)
  simp only [↓ir.law01_To.bw, ir.law01_To.rs]
  simp (dsimp := false) only [keyV, go_sem, Nat.reduceAdd, Nat.reduceEqDiff, Nat.reduceMul, Nat.reduceLeDiff, Nat.reduceSub, Nat.reduceLT, ↓reduceIte, reduceCtorEq, List.reduceReplicate, List.flatten_cons, List.flatten_nil, List.append_nil, eq_self, Int.reduceLE, Int.reduceLT, Int.reduceToNat, Nat.min_eq_left, Int.reducePow, Int.reduceNeg, Int.reduceEq]
  exact Fin.keyV h e s m _

theorem sign_spec (h : AHeap) (b : Bool) : Spec Try.prog nG fn.rank_sign [.bool b] h (.int .i64 (if b then 1 else -1)) h := by
  apply ir.rank_sign.spec (Nat.le_of_ble_eq_true rfl)
  simp only [↓ir.rank_sign.bw, ir.rank_sign.rs]
  cases b
  all_goals
    simp (dsimp := false) only [go_sem, Nat.reduceAdd, Nat.reduceEqDiff, Nat.reduceMul, Nat.reduceLeDiff, Nat.reduceSub, Nat.reduceLT, ↓reduceIte, reduceCtorEq, List.reduceReplicate, List.flatten_cons, List.flatten_nil, List.append_nil, eq_self, Int.reduceLE, Int.reduceLT, Int.reduceToNat, Nat.min_eq_left, Int.reducePow, Int.reduceNeg, Int.reduceEq]
    exact .inl ⟨rfl, rfl⟩

/-- Which of two keys is the better one. -/
def cmpK (e s m e' s' m' : Int) : Int :=
  if e ≠ e' then (if e' < e then 1 else -1) else if s ≠ s' then (if s' < s then 1 else -1) else if m ≠ m' then (if m < m' then 1 else -1) else 0

theorem compare_spec (h : AHeap) (e s m e' s' m' : Int) : Spec Try.prog nG fn.rank_Compare [keyV e s m, keyV e' s' m'] h (.int .i64 (cmpK e s m e' s' m')) h := by
  apply ir.rank_Compare.spec (Nat.le_of_ble_eq_true rfl)
  simp only [↓ir.rank_Compare.bw, ir.rank_Compare.rs]
  simp (dsimp := false) only [keyV, go_sem, Nat.reduceAdd, Nat.reduceEqDiff, Nat.reduceMul, Nat.reduceLeDiff, Nat.reduceSub, Nat.reduceLT, ↓reduceIte, reduceCtorEq, List.reduceReplicate, List.flatten_cons, List.flatten_nil, List.append_nil, eq_self, Int.reduceLE, Int.reduceLT, Int.reduceToNat, Nat.min_eq_left, Int.reducePow, Int.reduceNeg, Int.reduceEq]
  repeat' ((first | refine cVd (fun hc => ?_) (fun hc => ?_) | refine gTd (fun hc => ?_) (fun hc => ?_) | refine gFd (fun hc => ?_) (fun hc => ?_) | refine cVe (fun hc => ?_) (fun hc => ?_) | refine gTe (fun hc => ?_) (fun hc => ?_) | refine gFe (fun hc => ?_) (fun hc => ?_) | refine cVn (fun hc => ?_) (fun hc => ?_) | refine gTn (fun hc => ?_) (fun hc => ?_) | refine gFn (fun hc => ?_) (fun hc => ?_) | refine cV (fun hc => ?_) (fun hc => ?_) | refine gT (fun hc => ?_) (fun hc => ?_) | refine gF (fun hc => ?_) (fun hc => ?_)) <;> try simp (dsimp := false) only [go_sem, Nat.reduceAdd, Nat.reduceEqDiff, Nat.reduceMul, Nat.reduceLeDiff, Nat.reduceSub, Nat.reduceLT, ↓reduceIte, reduceCtorEq, List.reduceReplicate, List.flatten_cons, List.flatten_nil, List.append_nil, eq_self, Int.reduceLE, Int.reduceLT, Int.reduceToNat, Nat.min_eq_left, Int.reducePow, Int.reduceNeg, Int.reduceEq])
  all_goals try (refine callV_of (sign_spec _ _) ?_; simp (dsimp := false) only [go_sem, Nat.reduceAdd, Nat.reduceEqDiff, Nat.reduceMul, Nat.reduceLeDiff, Nat.reduceSub, Nat.reduceLT, ↓reduceIte, reduceCtorEq, List.reduceReplicate, List.flatten_cons, List.flatten_nil, List.append_nil, eq_self, Int.reduceLE, Int.reduceLT, Int.reduceToNat, Nat.min_eq_left, Int.reducePow, Int.reduceNeg, Int.reduceEq])
  all_goals (refine Fin.sc rfl ?_; simp [cmpK, *])


theorem cmpK_pos {e s m e' s' m' : Int} : 0 < cmpK e s m e' s' m' ↔ e' < e ∨ e = e' ∧ (s' < s ∨ s = s' ∧ m < m') := by
  unfold cmpK
  repeat' split
  all_goals omega
def betterB (e s m e' s' m' : Int) : Bool := decide (0 < cmpK e s m e' s' m')
theorem better_spec (h : AHeap) (e s m e' s' m' : Int) : Spec Try.prog nG fn.ref01_Better [keyV e s m, keyV e' s' m'] h (.bool (betterB e s m e' s' m')) h := by
  apply ir.ref01_Better.spec (Nat.le_of_ble_eq_true rfl)
  simp only [↓ir.ref01_Better.bw, ir.ref01_Better.rs]
  simp (dsimp := false) only [keyV, go_sem, Nat.reduceAdd, Nat.reduceEqDiff, Nat.reduceMul, Nat.reduceLeDiff, Nat.reduceSub, Nat.reduceLT, ↓reduceIte, reduceCtorEq, List.reduceReplicate, List.flatten_cons, List.flatten_nil, List.append_nil, eq_self, Int.reduceLE, Int.reduceLT, Int.reduceToNat, Nat.min_eq_left, Int.reducePow, Int.reduceNeg, Int.reduceEq]
  repeat' ((first | refine cVd (fun hc => ?_) (fun hc => ?_) | refine gTd (fun hc => ?_) (fun hc => ?_) | refine gFd (fun hc => ?_) (fun hc => ?_) | refine cVe (fun hc => ?_) (fun hc => ?_) | refine gTe (fun hc => ?_) (fun hc => ?_) | refine gFe (fun hc => ?_) (fun hc => ?_) | refine cVn (fun hc => ?_) (fun hc => ?_) | refine gTn (fun hc => ?_) (fun hc => ?_) | refine gFn (fun hc => ?_) (fun hc => ?_) | refine cV (fun hc => ?_) (fun hc => ?_) | refine gT (fun hc => ?_) (fun hc => ?_) | refine gF (fun hc => ?_) (fun hc => ?_)) <;> try simp (dsimp := false) only [go_sem, Nat.reduceAdd, Nat.reduceEqDiff, Nat.reduceMul, Nat.reduceLeDiff, Nat.reduceSub, Nat.reduceLT, ↓reduceIte, reduceCtorEq, List.reduceReplicate, List.flatten_cons, List.flatten_nil, List.append_nil, eq_self, Int.reduceLE, Int.reduceLT, Int.reduceToNat, Nat.min_eq_left, Int.reducePow, Int.reduceNeg, Int.reduceEq])
  all_goals (refine Fin.sc rfl ?_; unfold betterB; first
    | exact congrArg Value.bool (decide_eq_decide.2 (by rw [cmpK_pos]; omega))
    | exact congrArg Value.bool (decide_eq_true (by rw [cmpK_pos]; omega))
    | exact congrArg Value.bool (decide_eq_false (by rw [cmpK_pos]; omega)))


end Go.Proofs.YtbomppdiiaodbaaRRR.B
