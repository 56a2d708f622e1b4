/-
  Layer 1 (rank) over the abstract heap: what each function answers.
-/
import Derived.Test.YtmeojocmngbpaaaIr01
namespace Go.Proofs.Ytmeojocmngbpaaa.B
open Go
set_option linter.unusedVariables false
set_option linter.unusedSimpArgs false

abbrev keyV (e s m : Int) : Value := .agg #[.int .u32 e, .int .u32 s, .int .i64 m]

def rightB (e s m : Int) : Bool := decide (e ≤ 65536) && decide (s < 64) && decide (0 ≤ m) && decide (m ≤ 15)

theorem right_spec (h : AHeap) (e s m : Int) : Spec Try.prog nG fn.rank_Right [keyV e s m] h (.bool (rightB e s m)) h := by
  apply ir.rank_Right.spec (Nat.le_of_ble_eq_true rfl)
  simp only [ir.rank_Right, ir.rank_Right.rs, ir.rank_Right.r0, ir.rank_Right.r1]
  simp only [keyV, ↓ir.rank_Right.r0.o0, ↓ir.rank_Right.r0.o1, ↓ir.rank_Right.r1.o0, ↓ir.rank_Right.r1.o1, ↓ir.rank_Right.r1.o2, ↓ir.rank_Right.r1.o3, ↓ir.rank_Right.r1.o4, ↓ir.rank_Right.r1.o5, ↓ir.rank_Right.r1.o6, ↓ir.rank_Right.r1.o7, ↓ir.rank_Right.r1.o8, ↓ir.rank_Right.r1.o9, ↓ir.rank_Right.r1.o10, ↓ir.rank_Right.r1.o11, ↓ir.rank_Right.r1.o12, ↓ir.rank_Right.r1.o13, ↓ir.rank_Right.r1.o14, ↓ir.rank_Right.r1.o15, ↓ir.rank_Right.r1.o16, ↓ir.rank_Right.r1.o17, ↓ir.rank_Right.r1.o18, go_sem, Nat.reduceAdd, Nat.reduceEqDiff, Nat.reduceMul, Nat.reduceLeDiff, Nat.reduceSub, Nat.reduceLT, reduceIte, reduceCtorEq]
  unfold rightB
  refine ⟨fun a => ⟨fun b => ⟨fun c => ?_, fun c => ?_⟩, fun b => ?_⟩, fun a => ?_⟩
  all_goals (simp only [*, decide_true, decide_false, Bool.and_true, Bool.true_and, Bool.and_false, Bool.false_and]; exact Fin.scalar rfl _)

theorem rright_spec (h : AHeap) (e s m : Int) : Spec Try.prog nG fn.fingerpostref01_Right [keyV e s m] h (.bool (rightB e s m)) h := by
  apply ir.fingerpostref01_Right.spec (Nat.le_of_ble_eq_true rfl)
  simp only [ir.fingerpostref01_Right, ir.fingerpostref01_Right.rs, ir.fingerpostref01_Right.r0, ir.fingerpostref01_Right.r1]
  simp only [keyV, ↓ir.fingerpostref01_Right.r0.o0, ↓ir.fingerpostref01_Right.r0.o1, ↓ir.fingerpostref01_Right.r1.o0, ↓ir.fingerpostref01_Right.r1.o1, ↓ir.fingerpostref01_Right.r1.o2, ↓ir.fingerpostref01_Right.r1.o3, ↓ir.fingerpostref01_Right.r1.o4, ↓ir.fingerpostref01_Right.r1.o5, ↓ir.fingerpostref01_Right.r1.o6, ↓ir.fingerpostref01_Right.r1.o7, ↓ir.fingerpostref01_Right.r1.o8, ↓ir.fingerpostref01_Right.r1.o9, ↓ir.fingerpostref01_Right.r1.o10, ↓ir.fingerpostref01_Right.r1.o11, ↓ir.fingerpostref01_Right.r1.o12, ↓ir.fingerpostref01_Right.r1.o13, ↓ir.fingerpostref01_Right.r1.o14, ↓ir.fingerpostref01_Right.r1.o15, ↓ir.fingerpostref01_Right.r1.o16, ↓ir.fingerpostref01_Right.r1.o17, ↓ir.fingerpostref01_Right.r1.o18, go_sem, Nat.reduceAdd, Nat.reduceEqDiff, Nat.reduceMul, Nat.reduceLeDiff, Nat.reduceSub, Nat.reduceLT, reduceIte, reduceCtorEq]
  have hb : rightB e s m = (decide (e ≤ 65536) && decide (s ≤ 63) && decide (0 ≤ m) && decide (m ≤ 15)) := by
    unfold rightB
    have : decide (s < 64) = decide (s ≤ 63) := by apply decide_eq_decide.2; omega
    rw [this]
  rw [hb]
  refine ⟨fun a => ⟨fun b => ⟨fun c => ?_, fun c => ?_⟩, fun b => ?_⟩, fun a => ?_⟩
  all_goals (simp only [*, decide_true, decide_false, Bool.and_true, Bool.true_and, Bool.and_false, Bool.false_and]; exact Fin.scalar rfl _)

theorem Fin.keyV (h : AHeap) (e s m : Int) (g : AHeap) : Fin h (keyV e s m) h (keyV e s m) (h ++ g) := by
  refine Fin.plain ?_ g
  refine .agg rfl fun i => ?_
  match i with
  | 0 => exact .scalar rfl
  | 1 => exact .scalar rfl
  | 2 => exact .scalar rfl
  | i + 3 => exact .any _

theorem to_spec (h : AHeap) (e s m : Int) : Spec Try.prog nG fn.fingerpostlaw01_To [keyV e s m] h (keyV e s m) h := by
  apply ir.fingerpostlaw01_To.spec (Nat.le_of_ble_eq_true rfl)
  simp only [ir.fingerpostlaw01_To, ir.fingerpostlaw01_To.rs, ir.fingerpostlaw01_To.r0, ir.fingerpostlaw01_To.r1]
  simp only [keyV, ↓ir.fingerpostlaw01_To.r0.o0, ↓ir.fingerpostlaw01_To.r0.o1, ↓ir.fingerpostlaw01_To.r1.o0, ↓ir.fingerpostlaw01_To.r1.o1, ↓ir.fingerpostlaw01_To.r1.o2, ↓ir.fingerpostlaw01_To.r1.o3, ↓ir.fingerpostlaw01_To.r1.o4, ↓ir.fingerpostlaw01_To.r1.o5, ↓ir.fingerpostlaw01_To.r1.o6, ↓ir.fingerpostlaw01_To.r1.o7, go_sem, Nat.reduceAdd, Nat.reduceEqDiff, Nat.reduceMul, Nat.reduceLeDiff, Nat.reduceSub, Nat.reduceLT, reduceIte, reduceCtorEq]
  exact Fin.keyV h e s m _

theorem sign_spec (h : AHeap) (b : Bool) : Spec Try.prog nG fn.rank_sign [.bool b] h (.int .i64 (if b then 1 else -1)) h := by
  apply ir.rank_sign.spec (Nat.le_of_ble_eq_true rfl)
  simp only [ir.rank_sign, ir.rank_sign.rs, ir.rank_sign.r0, ir.rank_sign.r1, ir.rank_sign.r2, ir.rank_sign.r3]
  cases b
  all_goals
    simp only [↓ir.rank_sign.r0.o0, ↓ir.rank_sign.r1.o0, ↓ir.rank_sign.r2.o0, ↓ir.rank_sign.r3.o0, go_sem, Nat.reduceAdd, Nat.reduceEqDiff, Nat.reduceMul, Nat.reduceLeDiff, Nat.reduceSub, Nat.reduceLT, reduceIte, reduceCtorEq]
    exact .inl ⟨rfl, rfl⟩

/-- Which of two keys is the better one. -/
def cmpK (e s m e' s' m' : Int) : Int :=
  if e ≠ e' then (if e' < e then 1 else -1) else if s ≠ s' then (if s' < s then 1 else -1) else if m ≠ m' then (if m < m' then 1 else -1) else 0

theorem compare_spec (h : AHeap) (e s m e' s' m' : Int) : Spec Try.prog nG fn.rank_Compare [keyV e s m, keyV e' s' m'] h (.int .i64 (cmpK e s m e' s' m')) h := by
  apply ir.rank_Compare.spec (Nat.le_of_ble_eq_true rfl)
  simp only [ir.rank_Compare, ir.rank_Compare.rs, ir.rank_Compare.r0, ir.rank_Compare.r1, ir.rank_Compare.r2, ir.rank_Compare.r3, ir.rank_Compare.r4, ir.rank_Compare.r5, ir.rank_Compare.r6, ir.rank_Compare.r7]
  simp only [keyV, ↓ir.rank_Compare.r0.o0, ↓ir.rank_Compare.r0.o1, ↓ir.rank_Compare.r0.o2, ↓ir.rank_Compare.r1.o0, ↓ir.rank_Compare.r1.o1, ↓ir.rank_Compare.r1.o2, ↓ir.rank_Compare.r1.o3, ↓ir.rank_Compare.r1.o4, ↓ir.rank_Compare.r1.o5, ↓ir.rank_Compare.r2.o0, ↓ir.rank_Compare.r2.o1, ↓ir.rank_Compare.r2.o2, ↓ir.rank_Compare.r2.o3, ↓ir.rank_Compare.r2.o4, ↓ir.rank_Compare.r2.o5, ↓ir.rank_Compare.r2.o6, ↓ir.rank_Compare.r3.o0, ↓ir.rank_Compare.r3.o1, ↓ir.rank_Compare.r3.o2, ↓ir.rank_Compare.r3.o3, ↓ir.rank_Compare.r3.o4, ↓ir.rank_Compare.r3.o5, ↓ir.rank_Compare.r4.o0, ↓ir.rank_Compare.r4.o1, ↓ir.rank_Compare.r4.o2, ↓ir.rank_Compare.r4.o3, ↓ir.rank_Compare.r4.o4, ↓ir.rank_Compare.r4.o5, ↓ir.rank_Compare.r4.o6, ↓ir.rank_Compare.r5.o0, ↓ir.rank_Compare.r5.o1, ↓ir.rank_Compare.r5.o2, ↓ir.rank_Compare.r5.o3, ↓ir.rank_Compare.r5.o4, ↓ir.rank_Compare.r5.o5, ↓ir.rank_Compare.r6.o0, ↓ir.rank_Compare.r6.o1, ↓ir.rank_Compare.r6.o2, ↓ir.rank_Compare.r6.o3, ↓ir.rank_Compare.r6.o4, ↓ir.rank_Compare.r6.o5, ↓ir.rank_Compare.r6.o6, ↓ir.rank_Compare.r7.o0, go_sem, Nat.reduceAdd, Nat.reduceEqDiff, Nat.reduceMul, Nat.reduceLeDiff, Nat.reduceSub, Nat.reduceLT, reduceIte, reduceCtorEq]
  repeat' (first | refine And.intro ?_ ?_ | intro _)
  all_goals try (refine callV_of (sign_spec _ _) ?_; simp only [↓ir.rank_Compare.r0.o0, ↓ir.rank_Compare.r0.o1, ↓ir.rank_Compare.r0.o2, ↓ir.rank_Compare.r1.o0, ↓ir.rank_Compare.r1.o1, ↓ir.rank_Compare.r1.o2, ↓ir.rank_Compare.r1.o3, ↓ir.rank_Compare.r1.o4, ↓ir.rank_Compare.r1.o5, ↓ir.rank_Compare.r2.o0, ↓ir.rank_Compare.r2.o1, ↓ir.rank_Compare.r2.o2, ↓ir.rank_Compare.r2.o3, ↓ir.rank_Compare.r2.o4, ↓ir.rank_Compare.r2.o5, ↓ir.rank_Compare.r2.o6, ↓ir.rank_Compare.r3.o0, ↓ir.rank_Compare.r3.o1, ↓ir.rank_Compare.r3.o2, ↓ir.rank_Compare.r3.o3, ↓ir.rank_Compare.r3.o4, ↓ir.rank_Compare.r3.o5, ↓ir.rank_Compare.r4.o0, ↓ir.rank_Compare.r4.o1, ↓ir.rank_Compare.r4.o2, ↓ir.rank_Compare.r4.o3, ↓ir.rank_Compare.r4.o4, ↓ir.rank_Compare.r4.o5, ↓ir.rank_Compare.r4.o6, ↓ir.rank_Compare.r5.o0, ↓ir.rank_Compare.r5.o1, ↓ir.rank_Compare.r5.o2, ↓ir.rank_Compare.r5.o3, ↓ir.rank_Compare.r5.o4, ↓ir.rank_Compare.r5.o5, ↓ir.rank_Compare.r6.o0, ↓ir.rank_Compare.r6.o1, ↓ir.rank_Compare.r6.o2, ↓ir.rank_Compare.r6.o3, ↓ir.rank_Compare.r6.o4, ↓ir.rank_Compare.r6.o5, ↓ir.rank_Compare.r6.o6, ↓ir.rank_Compare.r7.o0, go_sem, Nat.reduceAdd, Nat.reduceEqDiff, Nat.reduceMul, Nat.reduceLeDiff, Nat.reduceSub, Nat.reduceLT, reduceIte, reduceCtorEq])
  all_goals (refine Fin.sc rfl ?_; simp [cmpK, *])

theorem newer_spec (h : AHeap) (e s m e' s' m' : Int) : Spec Try.prog nG fn.rank_Newer [keyV e s m, keyV e' s' m'] h (.bool (decide (0 < cmpK e s 0 e' s' 0))) h := by
  apply ir.rank_Newer.spec (Nat.le_of_ble_eq_true rfl)
  simp only [ir.rank_Newer, ir.rank_Newer.rs, ir.rank_Newer.r0, ir.rank_Newer.r1, ir.rank_Newer.r2]
  simp only [keyV, ↓ir.rank_Newer.r0.o0, ↓ir.rank_Newer.r0.o1, ↓ir.rank_Newer.r0.o2, ↓ir.rank_Newer.r1.o0, ↓ir.rank_Newer.r1.o1, ↓ir.rank_Newer.r1.o2, ↓ir.rank_Newer.r1.o3, ↓ir.rank_Newer.r2.o0, ↓ir.rank_Newer.r2.o1, ↓ir.rank_Newer.r2.o2, ↓ir.rank_Newer.r2.o3, ↓ir.rank_Newer.r2.o4, go_sem, Nat.reduceAdd, Nat.reduceEqDiff, Nat.reduceMul, Nat.reduceLeDiff, Nat.reduceSub, Nat.reduceLT, reduceIte, reduceCtorEq]
  refine callV_of (compare_spec _ _ _ _ _ _ _) ?_
  simp only [↓ir.rank_Newer.r0.o0, ↓ir.rank_Newer.r0.o1, ↓ir.rank_Newer.r0.o2, ↓ir.rank_Newer.r1.o0, ↓ir.rank_Newer.r1.o1, ↓ir.rank_Newer.r1.o2, ↓ir.rank_Newer.r1.o3, ↓ir.rank_Newer.r2.o0, ↓ir.rank_Newer.r2.o1, ↓ir.rank_Newer.r2.o2, ↓ir.rank_Newer.r2.o3, ↓ir.rank_Newer.r2.o4, go_sem, Nat.reduceAdd, Nat.reduceEqDiff, Nat.reduceMul, Nat.reduceLeDiff, Nat.reduceSub, Nat.reduceLT, reduceIte, reduceCtorEq]
  exact Fin.sc rfl rfl

theorem cmpK_pos {e s m e' s' m' : Int} : 0 < cmpK e s m e' s' m' ↔ e' < e ∨ e = e' ∧ (s' < s ∨ s = s' ∧ m < m') := by
  unfold cmpK
  repeat' split
  all_goals omega
def betterB (e s m e' s' m' : Int) : Bool := decide (0 < cmpK e s m e' s' m')
theorem better_spec (h : AHeap) (e s m e' s' m' : Int) : Spec Try.prog nG fn.fingerpostref01_Better [keyV e s m, keyV e' s' m'] h (.bool (betterB e s m e' s' m')) h := by
  apply ir.fingerpostref01_Better.spec (Nat.le_of_ble_eq_true rfl)
  simp only [ir.fingerpostref01_Better, ir.fingerpostref01_Better.rs, ir.fingerpostref01_Better.r0, ir.fingerpostref01_Better.r1, ir.fingerpostref01_Better.r2, ir.fingerpostref01_Better.r3, ir.fingerpostref01_Better.r4, ir.fingerpostref01_Better.r5]
  simp only [keyV, ↓ir.fingerpostref01_Better.r0.o0, ↓ir.fingerpostref01_Better.r0.o1, ↓ir.fingerpostref01_Better.r0.o2, ↓ir.fingerpostref01_Better.r1.o0, ↓ir.fingerpostref01_Better.r1.o1, ↓ir.fingerpostref01_Better.r1.o2, ↓ir.fingerpostref01_Better.r1.o3, ↓ir.fingerpostref01_Better.r1.o4, ↓ir.fingerpostref01_Better.r2.o0, ↓ir.fingerpostref01_Better.r2.o1, ↓ir.fingerpostref01_Better.r2.o2, ↓ir.fingerpostref01_Better.r2.o3, ↓ir.fingerpostref01_Better.r2.o4, ↓ir.fingerpostref01_Better.r2.o5, ↓ir.fingerpostref01_Better.r3.o0, ↓ir.fingerpostref01_Better.r3.o1, ↓ir.fingerpostref01_Better.r3.o2, ↓ir.fingerpostref01_Better.r3.o3, ↓ir.fingerpostref01_Better.r3.o4, ↓ir.fingerpostref01_Better.r4.o0, ↓ir.fingerpostref01_Better.r4.o1, ↓ir.fingerpostref01_Better.r4.o2, ↓ir.fingerpostref01_Better.r4.o3, ↓ir.fingerpostref01_Better.r4.o4, ↓ir.fingerpostref01_Better.r4.o5, ↓ir.fingerpostref01_Better.r5.o0, ↓ir.fingerpostref01_Better.r5.o1, ↓ir.fingerpostref01_Better.r5.o2, ↓ir.fingerpostref01_Better.r5.o3, ↓ir.fingerpostref01_Better.r5.o4, ↓ir.fingerpostref01_Better.r5.o5, go_sem, Nat.reduceAdd, Nat.reduceEqDiff, Nat.reduceMul, Nat.reduceLeDiff, Nat.reduceSub, Nat.reduceLT, reduceIte, reduceCtorEq]
  repeat' (first | refine And.intro ?_ ?_ | intro _)
  all_goals (refine Fin.sc rfl ?_; unfold betterB; first
    | exact congrArg Value.bool (decide_eq_decide.2 (by rw [cmpK_pos]; omega))
    | exact congrArg Value.bool (decide_eq_true (by rw [cmpK_pos]; omega))
    | exact congrArg Value.bool (decide_eq_false (by rw [cmpK_pos]; omega)))

theorem rnewer_spec (h : AHeap) (e s m e' s' m' : Int) : Spec Try.prog nG fn.fingerpostref01_Newer [keyV e s m, keyV e' s' m'] h (.bool (decide (0 < cmpK e s 0 e' s' 0))) h := by
  apply ir.fingerpostref01_Newer.spec (Nat.le_of_ble_eq_true rfl)
  simp only [ir.fingerpostref01_Newer, ir.fingerpostref01_Newer.rs, ir.fingerpostref01_Newer.r0, ir.fingerpostref01_Newer.r1]
  simp only [keyV, ↓ir.fingerpostref01_Newer.r0.o0, ↓ir.fingerpostref01_Newer.r0.o1, ↓ir.fingerpostref01_Newer.r0.o2, ↓ir.fingerpostref01_Newer.r1.o0, ↓ir.fingerpostref01_Newer.r1.o1, ↓ir.fingerpostref01_Newer.r1.o2, ↓ir.fingerpostref01_Newer.r1.o3, ↓ir.fingerpostref01_Newer.r1.o4, ↓ir.fingerpostref01_Newer.r1.o5, ↓ir.fingerpostref01_Newer.r1.o6, ↓ir.fingerpostref01_Newer.r1.o7, ↓ir.fingerpostref01_Newer.r1.o8, ↓ir.fingerpostref01_Newer.r1.o9, ↓ir.fingerpostref01_Newer.r1.o10, ↓ir.fingerpostref01_Newer.r1.o11, ↓ir.fingerpostref01_Newer.r1.o12, ↓ir.fingerpostref01_Newer.r1.o13, ↓ir.fingerpostref01_Newer.r1.o14, ↓ir.fingerpostref01_Newer.r1.o15, ↓ir.fingerpostref01_Newer.r1.o16, ↓ir.fingerpostref01_Newer.r1.o17, ↓ir.fingerpostref01_Newer.r1.o18, ↓ir.fingerpostref01_Newer.r1.o19, go_sem, Nat.reduceAdd, Nat.reduceEqDiff, Nat.reduceMul, Nat.reduceLeDiff, Nat.reduceSub, Nat.reduceLT, reduceIte, reduceCtorEq]
  repeat' (first | refine And.intro ?_ ?_ | intro _)
  all_goals (refine Fin.sc rfl ?_; first
    | exact congrArg Value.bool (decide_eq_decide.2 (by rw [cmpK_pos]; omega))
    | exact congrArg Value.bool (decide_eq_true (by rw [cmpK_pos]; omega))
    | exact congrArg Value.bool (decide_eq_false (by rw [cmpK_pos]; omega)))
end Go.Proofs.Ytmeojocmngbpaaa.B
