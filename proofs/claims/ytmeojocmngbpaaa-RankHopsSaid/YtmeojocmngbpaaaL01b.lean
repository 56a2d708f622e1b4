/-
  The laws of layer 1 (rank) over the abstract heap: RankLine.
-/
import Derived.Test.YtmeojocmngbpaaaRk
import Derived.Test.YtmeojocmngbpaaaArL
namespace Go.Proofs.Ytmeojocmngbpaaa.B
open Go
set_option linter.unusedVariables false
set_option linter.unusedSimpArgs false

theorem rightB_zero : rightB 0 0 0 = true := rfl
theorem cmpK_neg (e s m e' s' m' : Int) : IntKind.i64.wrap (0 - cmpK e' s' m' e s m) = cmpK e s m e' s' m' := by
  have h : 0 - cmpK e' s' m' e s m = cmpK e s m e' s' m' := by
    unfold cmpK
    repeat' split
    all_goals omega
  rw [h]
  unfold cmpK
  repeat' split
  all_goals rfl
theorem cmpK_zero (e s m e' s' m' : Int) : (cmpK e s m e' s' m' == 0) = (e == e' && (s == s' && m == m')) := by
  rw [Bool.eq_iff_iff]
  simp only [beq_iff_eq, Bool.and_eq_true]
  unfold cmpK
  repeat' split
  all_goals omega
theorem cmpK_neg' {e s m e' s' m' : Int} : cmpK e s m e' s' m' < 0 ↔ e < e' ∨ e = e' ∧ (s < s' ∨ s = s' ∧ m' < m) := by
  unfold cmpK
  repeat' split
  all_goals omega
theorem cmpK_cases (e s m e' s' m' : Int) : (cmpK e s m e' s' m' = 1 ∧ (e' < e ∨ e = e' ∧ (s' < s ∨ s = s' ∧ m < m'))) ∨ (cmpK e s m e' s' m' = 0 ∧ e = e' ∧ s = s' ∧ m = m') ∨ (cmpK e s m e' s' m' = -1 ∧ (e < e' ∨ e = e' ∧ (s < s' ∨ s = s' ∧ m' < m))) := by
  unfold cmpK
  repeat' split
  all_goals omega

theorem rankLine_spec (h : AHeap) (e s m e' s' m' e2 s2 m2 : Int) : SpecX Try.prog nG fn.fingerpostlaw01_RankLine [keyV e s m, keyV e' s' m', keyV e2 s2 m2] h fun v h' => v = .bool true := by
  refine SpecX.of_body (ir.fingerpostlaw01_RankLine.spec (Nat.le_of_ble_eq_true rfl)) ?_
  simp (dsimp := false) only [↓ir.fingerpostlaw01_RankLine.bw, ir.fingerpostlaw01_RankLine.rs, keyV, ↓ir.fingerpostlaw01_RankLine.r0.w, ↓ir.fingerpostlaw01_RankLine.r1.w, ↓ir.fingerpostlaw01_RankLine.r2.w, ↓ir.fingerpostlaw01_RankLine.r3.w, ↓ir.fingerpostlaw01_RankLine.r4.w, ↓ir.fingerpostlaw01_RankLine.r5.w, ↓ir.fingerpostlaw01_RankLine.r6.w, ir.fingerpostlaw01_RankLine.rs, go_sem, Nat.reduceAdd, Nat.reduceEqDiff, Nat.reduceMul, Nat.reduceLeDiff, Nat.reduceSub, Nat.reduceLT, ↓reduceIte, reduceCtorEq, List.reduceReplicate, List.flatten_cons, List.flatten_nil, List.append_nil, eq_self]
  have A1 := cmpK_cases e s m e' s' m'
  have A2 := cmpK_cases e' s' m' e2 s2 m2
  have A3 := cmpK_cases e s m e2 s2 m2
  have A4 := cmpK_cases e s 0 e' s' 0
  repeat' (first
    | (refine callV_of (by first | exact to_spec _ _ _ _ | exact right_spec _ _ _ _ | exact compare_spec _ _ _ _ _ _ _ | exact newer_spec _ _ _ _ _ _ _) ?_
       simp (dsimp := false) only [↓ir.fingerpostlaw01_RankLine.r0.w, ↓ir.fingerpostlaw01_RankLine.r1.w, ↓ir.fingerpostlaw01_RankLine.r2.w, ↓ir.fingerpostlaw01_RankLine.r3.w, ↓ir.fingerpostlaw01_RankLine.r4.w, ↓ir.fingerpostlaw01_RankLine.r5.w, ↓ir.fingerpostlaw01_RankLine.r6.w, ir.fingerpostlaw01_RankLine.rs, go_sem, Nat.reduceAdd, Nat.reduceEqDiff, Nat.reduceMul, Nat.reduceLeDiff, Nat.reduceSub, Nat.reduceLT, ↓reduceIte, reduceCtorEq, List.reduceReplicate, List.flatten_cons, List.flatten_nil, List.append_nil, eq_self, cmpK_neg, cmpK_zero, bne_self_eq_false, rightB_zero, Bool.and_true, Bool.true_and, Bool.and_false, Bool.false_and])
    | ((first | refine cVd (fun hc => ?_) (fun hc => ?_) | refine gTd (fun hc => ?_) (fun hc => ?_) | refine gFd (fun hc => ?_) (fun hc => ?_) | refine cVe (fun hc => ?_) (fun hc => ?_) | refine gTe (fun hc => ?_) (fun hc => ?_) | refine gFe (fun hc => ?_) (fun hc => ?_) | refine cVn (fun hc => ?_) (fun hc => ?_) | refine gTn (fun hc => ?_) (fun hc => ?_) | refine gFn (fun hc => ?_) (fun hc => ?_) | refine cV (fun hc => ?_) (fun hc => ?_) | refine gT (fun hc => ?_) (fun hc => ?_) | refine gF (fun hc => ?_) (fun hc => ?_)) <;> (try simp only [bne_iff_ne, ne_eq, decide_eq_decide, bne_eq_false_iff_eq] at hc) <;> (first | (exfalso; omega) | simp (dsimp := false) only [↓ir.fingerpostlaw01_RankLine.r0.w, ↓ir.fingerpostlaw01_RankLine.r1.w, ↓ir.fingerpostlaw01_RankLine.r2.w, ↓ir.fingerpostlaw01_RankLine.r3.w, ↓ir.fingerpostlaw01_RankLine.r4.w, ↓ir.fingerpostlaw01_RankLine.r5.w, ↓ir.fingerpostlaw01_RankLine.r6.w, ir.fingerpostlaw01_RankLine.rs, go_sem, Nat.reduceAdd, Nat.reduceEqDiff, Nat.reduceMul, Nat.reduceLeDiff, Nat.reduceSub, Nat.reduceLT, ↓reduceIte, reduceCtorEq, List.reduceReplicate, List.flatten_cons, List.flatten_nil, List.append_nil, eq_self, cmpK_neg, cmpK_zero, bne_self_eq_false, rightB_zero, Bool.and_true, Bool.true_and, Bool.and_false, Bool.false_and])))
  all_goals first | rfl | exact congrArg Value.bool (decide_eq_true (by omega))
end Go.Proofs.Ytmeojocmngbpaaa.B
