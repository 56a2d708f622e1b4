/-
  Layer 1 (rank) over the abstract heap: what each function answers.
-/
import Derived.Test.YtmeojocmngbpaaaIr01
namespace Go.Proofs.Ytmeojocmngbpaaa.B
open Go
set_option linter.unusedVariables false
set_option linter.unusedSimpArgs false

abbrev keyV (e s m : Int) : Value := .agg #[.int .u32 e, .int .u32 s, .int .i64 m]

def rightB (e s m : Int) : Bool := decide (e ≤ 65536) && decide (s < 64) && decide (0 ≤ m) && decide (m ≤ 15)

theorem right_spec (h : AHeap) (e s m : Int) : Spec Try.prog nG fn.rank_Right [keyV e s m] h (.bool (rightB e s m)) h := by
  apply ir.rank_Right.spec (Nat.le_of_ble_eq_true rfl)
  simp only [↓ir.rank_Right.bw, ir.rank_Right.rs]
  simp (dsimp := false) only [keyV, ↓ir.rank_Right.r0.w, ↓ir.rank_Right.r1.w, ir.rank_Right.rs, go_sem, Nat.reduceAdd, Nat.reduceEqDiff, Nat.reduceMul, Nat.reduceLeDiff, Nat.reduceSub, Nat.reduceLT, ↓reduceIte, reduceCtorEq, List.reduceReplicate, List.flatten_cons, List.flatten_nil, List.append_nil, eq_self]
  unfold rightB
  repeat' ((first | refine cVd (fun hc => ?_) (fun hc => ?_) | refine gTd (fun hc => ?_) (fun hc => ?_) | refine gFd (fun hc => ?_) (fun hc => ?_) | refine cVe (fun hc => ?_) (fun hc => ?_) | refine gTe (fun hc => ?_) (fun hc => ?_) | refine gFe (fun hc => ?_) (fun hc => ?_) | refine cVn (fun hc => ?_) (fun hc => ?_) | refine gTn (fun hc => ?_) (fun hc => ?_) | refine gFn (fun hc => ?_) (fun hc => ?_) | refine cV (fun hc => ?_) (fun hc => ?_) | refine gT (fun hc => ?_) (fun hc => ?_) | refine gF (fun hc => ?_) (fun hc => ?_)) <;> try simp (dsimp := false) only [↓ir.rank_Right.r0.w, ↓ir.rank_Right.r1.w, ir.rank_Right.rs, go_sem, Nat.reduceAdd, Nat.reduceEqDiff, Nat.reduceMul, Nat.reduceLeDiff, Nat.reduceSub, Nat.reduceLT, ↓reduceIte, reduceCtorEq, List.reduceReplicate, List.flatten_cons, List.flatten_nil, List.append_nil, eq_self])
  all_goals (simp only [*, decide_true, decide_false, Bool.and_true, Bool.true_and, Bool.and_false, Bool.false_and]; exact Fin.scalar rfl _)

theorem rright_spec (h : AHeap) (e s m : Int) : Spec Try.prog nG fn.fingerpostref01_Right [keyV e s m] h (.bool (rightB e s m)) h := by
  apply ir.fingerpostref01_Right.spec (Nat.le_of_ble_eq_true rfl)
  simp only [↓ir.fingerpostref01_Right.bw, ir.fingerpostref01_Right.rs]
  simp (dsimp := false) only [keyV, ↓ir.fingerpostref01_Right.r0.w, ↓ir.fingerpostref01_Right.r1.w, ir.fingerpostref01_Right.rs, go_sem, Nat.reduceAdd, Nat.reduceEqDiff, Nat.reduceMul, Nat.reduceLeDiff, Nat.reduceSub, Nat.reduceLT, ↓reduceIte, reduceCtorEq, List.reduceReplicate, List.flatten_cons, List.flatten_nil, List.append_nil, eq_self]
  have hb : rightB e s m = (decide (e ≤ 65536) && decide (s ≤ 63) && decide (0 ≤ m) && decide (m ≤ 15)) := by
    unfold rightB
    have : decide (s < 64) = decide (s ≤ 63) := by apply decide_eq_decide.2; omega
    rw [this]
  rw [hb]
  repeat' ((first | refine cVd (fun hc => ?_) (fun hc => ?_) | refine gTd (fun hc => ?_) (fun hc => ?_) | refine gFd (fun hc => ?_) (fun hc => ?_) | refine cVe (fun hc => ?_) (fun hc => ?_) | refine gTe (fun hc => ?_) (fun hc => ?_) | refine gFe (fun hc => ?_) (fun hc => ?_) | refine cVn (fun hc => ?_) (fun hc => ?_) | refine gTn (fun hc => ?_) (fun hc => ?_) | refine gFn (fun hc => ?_) (fun hc => ?_) | refine cV (fun hc => ?_) (fun hc => ?_) | refine gT (fun hc => ?_) (fun hc => ?_) | refine gF (fun hc => ?_) (fun hc => ?_)) <;> try simp (dsimp := false) only [↓ir.fingerpostref01_Right.r0.w, ↓ir.fingerpostref01_Right.r1.w, ir.fingerpostref01_Right.rs, go_sem, Nat.reduceAdd, Nat.reduceEqDiff, Nat.reduceMul, Nat.reduceLeDiff, Nat.reduceSub, Nat.reduceLT, ↓reduceIte, reduceCtorEq, List.reduceReplicate, List.flatten_cons, List.flatten_nil, List.append_nil, eq_self])
  all_goals (simp only [*, decide_true, decide_false, Bool.and_true, Bool.true_and, Bool.and_false, Bool.false_and]; exact Fin.scalar rfl _)

theorem Fin.keyV (h : AHeap) (e s m : Int) (g : AHeap) : Fin h (keyV e s m) h (keyV e s m) (h ++ g) := by
  refine Fin.plain ?_ g
  refine .agg rfl fun i => ?_
  match i with
  | 0 => exact .scalar rfl
  | 1 => exact .scalar rfl
  | 2 => exact .scalar rfl
  | i + 3 => exact .any _

theorem to_spec (h : AHeap) (e s m : Int) : Spec Try.prog nG fn.fingerpostlaw01_To [keyV e s m] h (keyV e s m) h := by
  apply ir.fingerpostlaw01_To.spec (Nat.le_of_ble_eq_true rfl)
  simp only [↓ir.fingerpostlaw01_To.bw, ir.fingerpostlaw01_To.rs]
  simp (dsimp := false) only [keyV, ↓ir.fingerpostlaw01_To.r0.w, ↓ir.fingerpostlaw01_To.r1.w, ir.fingerpostlaw01_To.rs, go_sem, Nat.reduceAdd, Nat.reduceEqDiff, Nat.reduceMul, Nat.reduceLeDiff, Nat.reduceSub, Nat.reduceLT, ↓reduceIte, reduceCtorEq, List.reduceReplicate, List.flatten_cons, List.flatten_nil, List.append_nil, eq_self]
  exact Fin.keyV h e s m _

theorem sign_spec (h : AHeap) (b : Bool) : Spec Try.prog nG fn.rank_sign [.bool b] h (.int .i64 (if b then 1 else -1)) h := by
  apply ir.rank_sign.spec (Nat.le_of_ble_eq_true rfl)
  simp only [↓ir.rank_sign.bw, ir.rank_sign.rs]
  cases b
  all_goals
    simp (dsimp := false) only [↓ir.rank_sign.r0.w, ↓ir.rank_sign.r1.w, ↓ir.rank_sign.r2.w, ↓ir.rank_sign.r3.w, ir.rank_sign.rs, go_sem, Nat.reduceAdd, Nat.reduceEqDiff, Nat.reduceMul, Nat.reduceLeDiff, Nat.reduceSub, Nat.reduceLT, ↓reduceIte, reduceCtorEq, List.reduceReplicate, List.flatten_cons, List.flatten_nil, List.append_nil, eq_self]
    exact .inl ⟨rfl, rfl⟩

/-- Which of two keys is the better one. -/
def cmpK (e s m e' s' m' : Int) : Int :=
  if e ≠ e' then (if e' < e then 1 else -1) else if s ≠ s' then (if s' < s then 1 else -1) else if m ≠ m' then (if m < m' then 1 else -1) else 0

theorem compare_spec (h : AHeap) (e s m e' s' m' : Int) : Spec Try.prog nG fn.rank_Compare [keyV e s m, keyV e' s' m'] h (.int .i64 (cmpK e s m e' s' m')) h := by
  apply ir.rank_Compare.spec (Nat.le_of_ble_eq_true rfl)
  simp only [↓ir.rank_Compare.bw, ir.rank_Compare.rs]
  simp (dsimp := false) only [keyV, ↓ir.rank_Compare.r0.w, ↓ir.rank_Compare.r1.w, ↓ir.rank_Compare.r2.w, ↓ir.rank_Compare.r3.w, ↓ir.rank_Compare.r4.w, ↓ir.rank_Compare.r5.w, ↓ir.rank_Compare.r6.w, ↓ir.rank_Compare.r7.w, ir.rank_Compare.rs, go_sem, Nat.reduceAdd, Nat.reduceEqDiff, Nat.reduceMul, Nat.reduceLeDiff, Nat.reduceSub, Nat.reduceLT, ↓reduceIte, reduceCtorEq, List.reduceReplicate, List.flatten_cons, List.flatten_nil, List.append_nil, eq_self]
  repeat' ((first | refine cVd (fun hc => ?_) (fun hc => ?_) | refine gTd (fun hc => ?_) (fun hc => ?_) | refine gFd (fun hc => ?_) (fun hc => ?_) | refine cVe (fun hc => ?_) (fun hc => ?_) | refine gTe (fun hc => ?_) (fun hc => ?_) | refine gFe (fun hc => ?_) (fun hc => ?_) | refine cVn (fun hc => ?_) (fun hc => ?_) | refine gTn (fun hc => ?_) (fun hc => ?_) | refine gFn (fun hc => ?_) (fun hc => ?_) | refine cV (fun hc => ?_) (fun hc => ?_) | refine gT (fun hc => ?_) (fun hc => ?_) | refine gF (fun hc => ?_) (fun hc => ?_)) <;> try simp (dsimp := false) only [↓ir.rank_Compare.r0.w, ↓ir.rank_Compare.r1.w, ↓ir.rank_Compare.r2.w, ↓ir.rank_Compare.r3.w, ↓ir.rank_Compare.r4.w, ↓ir.rank_Compare.r5.w, ↓ir.rank_Compare.r6.w, ↓ir.rank_Compare.r7.w, ir.rank_Compare.rs, go_sem, Nat.reduceAdd, Nat.reduceEqDiff, Nat.reduceMul, Nat.reduceLeDiff, Nat.reduceSub, Nat.reduceLT, ↓reduceIte, reduceCtorEq, List.reduceReplicate, List.flatten_cons, List.flatten_nil, List.append_nil, eq_self])
  all_goals try (refine callV_of (sign_spec _ _) ?_; simp (dsimp := false) only [↓ir.rank_Compare.r0.w, ↓ir.rank_Compare.r1.w, ↓ir.rank_Compare.r2.w, ↓ir.rank_Compare.r3.w, ↓ir.rank_Compare.r4.w, ↓ir.rank_Compare.r5.w, ↓ir.rank_Compare.r6.w, ↓ir.rank_Compare.r7.w, ir.rank_Compare.rs, go_sem, Nat.reduceAdd, Nat.reduceEqDiff, Nat.reduceMul, Nat.reduceLeDiff, Nat.reduceSub, Nat.reduceLT, ↓reduceIte, reduceCtorEq, List.reduceReplicate, List.flatten_cons, List.flatten_nil, List.append_nil, eq_self])
  all_goals (refine Fin.sc rfl ?_; simp [cmpK, *])

theorem newer_spec (h : AHeap) (e s m e' s' m' : Int) : Spec Try.prog nG fn.rank_Newer [keyV e s m, keyV e' s' m'] h (.bool (decide (0 < cmpK e s 0 e' s' 0))) h := by
  apply ir.rank_Newer.spec (Nat.le_of_ble_eq_true rfl)
  simp only [↓ir.rank_Newer.bw, ir.rank_Newer.rs]
  simp (dsimp := false) only [keyV, ↓ir.rank_Newer.r0.w, ↓ir.rank_Newer.r1.w, ↓ir.rank_Newer.r2.w, ir.rank_Newer.rs, go_sem, Nat.reduceAdd, Nat.reduceEqDiff, Nat.reduceMul, Nat.reduceLeDiff, Nat.reduceSub, Nat.reduceLT, ↓reduceIte, reduceCtorEq, List.reduceReplicate, List.flatten_cons, List.flatten_nil, List.append_nil, eq_self]
  refine callV_of (compare_spec _ _ _ _ _ _ _) ?_
  simp (dsimp := false) only [↓ir.rank_Newer.r0.w, ↓ir.rank_Newer.r1.w, ↓ir.rank_Newer.r2.w, ir.rank_Newer.rs, go_sem, Nat.reduceAdd, Nat.reduceEqDiff, Nat.reduceMul, Nat.reduceLeDiff, Nat.reduceSub, Nat.reduceLT, ↓reduceIte, reduceCtorEq, List.reduceReplicate, List.flatten_cons, List.flatten_nil, List.append_nil, eq_self]
  exact Fin.sc rfl rfl

theorem cmpK_pos {e s m e' s' m' : Int} : 0 < cmpK e s m e' s' m' ↔ e' < e ∨ e = e' ∧ (s' < s ∨ s = s' ∧ m < m') := by
  unfold cmpK
  repeat' split
  all_goals omega
def betterB (e s m e' s' m' : Int) : Bool := decide (0 < cmpK e s m e' s' m')
theorem better_spec (h : AHeap) (e s m e' s' m' : Int) : Spec Try.prog nG fn.fingerpostref01_Better [keyV e s m, keyV e' s' m'] h (.bool (betterB e s m e' s' m')) h := by
  apply ir.fingerpostref01_Better.spec (Nat.le_of_ble_eq_true rfl)
  simp only [↓ir.fingerpostref01_Better.bw, ir.fingerpostref01_Better.rs]
  simp (dsimp := false) only [keyV, ↓ir.fingerpostref01_Better.r0.w, ↓ir.fingerpostref01_Better.r1.w, ↓ir.fingerpostref01_Better.r2.w, ↓ir.fingerpostref01_Better.r3.w, ↓ir.fingerpostref01_Better.r4.w, ↓ir.fingerpostref01_Better.r5.w, ir.fingerpostref01_Better.rs, go_sem, Nat.reduceAdd, Nat.reduceEqDiff, Nat.reduceMul, Nat.reduceLeDiff, Nat.reduceSub, Nat.reduceLT, ↓reduceIte, reduceCtorEq, List.reduceReplicate, List.flatten_cons, List.flatten_nil, List.append_nil, eq_self]
  repeat' ((first | refine cVd (fun hc => ?_) (fun hc => ?_) | refine gTd (fun hc => ?_) (fun hc => ?_) | refine gFd (fun hc => ?_) (fun hc => ?_) | refine cVe (fun hc => ?_) (fun hc => ?_) | refine gTe (fun hc => ?_) (fun hc => ?_) | refine gFe (fun hc => ?_) (fun hc => ?_) | refine cVn (fun hc => ?_) (fun hc => ?_) | refine gTn (fun hc => ?_) (fun hc => ?_) | refine gFn (fun hc => ?_) (fun hc => ?_) | refine cV (fun hc => ?_) (fun hc => ?_) | refine gT (fun hc => ?_) (fun hc => ?_) | refine gF (fun hc => ?_) (fun hc => ?_)) <;> try simp (dsimp := false) only [↓ir.fingerpostref01_Better.r0.w, ↓ir.fingerpostref01_Better.r1.w, ↓ir.fingerpostref01_Better.r2.w, ↓ir.fingerpostref01_Better.r3.w, ↓ir.fingerpostref01_Better.r4.w, ↓ir.fingerpostref01_Better.r5.w, ir.fingerpostref01_Better.rs, go_sem, Nat.reduceAdd, Nat.reduceEqDiff, Nat.reduceMul, Nat.reduceLeDiff, Nat.reduceSub, Nat.reduceLT, ↓reduceIte, reduceCtorEq, List.reduceReplicate, List.flatten_cons, List.flatten_nil, List.append_nil, eq_self])
  all_goals (refine Fin.sc rfl ?_; unfold betterB; first
    | exact congrArg Value.bool (decide_eq_decide.2 (by rw [cmpK_pos]; omega))
    | exact congrArg Value.bool (decide_eq_true (by rw [cmpK_pos]; omega))
    | exact congrArg Value.bool (decide_eq_false (by rw [cmpK_pos]; omega)))

theorem rnewer_spec (h : AHeap) (e s m e' s' m' : Int) : Spec Try.prog nG fn.fingerpostref01_Newer [keyV e s m, keyV e' s' m'] h (.bool (decide (0 < cmpK e s 0 e' s' 0))) h := by
  apply ir.fingerpostref01_Newer.spec (Nat.le_of_ble_eq_true rfl)
  simp only [↓ir.fingerpostref01_Newer.bw, ir.fingerpostref01_Newer.rs]
  simp (dsimp := false) only [keyV, ↓ir.fingerpostref01_Newer.r0.w, ↓ir.fingerpostref01_Newer.r1.w, ir.fingerpostref01_Newer.rs, go_sem, Nat.reduceAdd, Nat.reduceEqDiff, Nat.reduceMul, Nat.reduceLeDiff, Nat.reduceSub, Nat.reduceLT, ↓reduceIte, reduceCtorEq, List.reduceReplicate, List.flatten_cons, List.flatten_nil, List.append_nil, eq_self]
  repeat' ((first | refine cVd (fun hc => ?_) (fun hc => ?_) | refine gTd (fun hc => ?_) (fun hc => ?_) | refine gFd (fun hc => ?_) (fun hc => ?_) | refine cVe (fun hc => ?_) (fun hc => ?_) | refine gTe (fun hc => ?_) (fun hc => ?_) | refine gFe (fun hc => ?_) (fun hc => ?_) | refine cVn (fun hc => ?_) (fun hc => ?_) | refine gTn (fun hc => ?_) (fun hc => ?_) | refine gFn (fun hc => ?_) (fun hc => ?_) | refine cV (fun hc => ?_) (fun hc => ?_) | refine gT (fun hc => ?_) (fun hc => ?_) | refine gF (fun hc => ?_) (fun hc => ?_)) <;> try simp (dsimp := false) only [↓ir.fingerpostref01_Newer.r0.w, ↓ir.fingerpostref01_Newer.r1.w, ir.fingerpostref01_Newer.rs, go_sem, Nat.reduceAdd, Nat.reduceEqDiff, Nat.reduceMul, Nat.reduceLeDiff, Nat.reduceSub, Nat.reduceLT, ↓reduceIte, reduceCtorEq, List.reduceReplicate, List.flatten_cons, List.flatten_nil, List.append_nil, eq_self])
  all_goals (refine Fin.sc rfl ?_; first
    | exact congrArg Value.bool (decide_eq_decide.2 (by rw [cmpK_pos]; omega))
    | exact congrArg Value.bool (decide_eq_true (by rw [cmpK_pos]; omega))
    | exact congrArg Value.bool (decide_eq_false (by rw [cmpK_pos]; omega)))
end Go.Proofs.Ytmeojocmngbpaaa.B
