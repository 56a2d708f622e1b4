/-
  The laws of layer 1 (rank) over the abstract heap.
-/
import Derived.Test.YtmeojocmngbpaaaRk
namespace Go.Proofs.Ytmeojocmngbpaaa.B
open Go
set_option linter.unusedVariables false
set_option linter.unusedSimpArgs false

theorem order_spec (h : AHeap) (e s m e' s' m' : Int) : Spec Try.prog nG fn.fingerpostlaw01_order [keyV e s m, keyV e' s' m'] h (.int .i64 (cmpK e s m e' s' m')) h := by
  apply ir.fingerpostlaw01_order.spec (Nat.le_of_ble_eq_true rfl)
  simp only [ir.fingerpostlaw01_order, ir.fingerpostlaw01_order.rs, ir.fingerpostlaw01_order.r0, ir.fingerpostlaw01_order.r1, ir.fingerpostlaw01_order.r2, ir.fingerpostlaw01_order.r3, ir.fingerpostlaw01_order.r4, ir.fingerpostlaw01_order.r5]
  simp only [keyV, ↓ir.fingerpostlaw01_order.r0.o0, ↓ir.fingerpostlaw01_order.r0.o1, ↓ir.fingerpostlaw01_order.r0.o2, ↓ir.fingerpostlaw01_order.r1.o0, ↓ir.fingerpostlaw01_order.r1.o1, ↓ir.fingerpostlaw01_order.r1.o2, ↓ir.fingerpostlaw01_order.r1.o3, ↓ir.fingerpostlaw01_order.r2.o0, ↓ir.fingerpostlaw01_order.r3.o0, ↓ir.fingerpostlaw01_order.r3.o1, ↓ir.fingerpostlaw01_order.r3.o2, ↓ir.fingerpostlaw01_order.r3.o3, ↓ir.fingerpostlaw01_order.r4.o0, ↓ir.fingerpostlaw01_order.r5.o0, go_sem, Nat.reduceAdd, Nat.reduceEqDiff, Nat.reduceMul, Nat.reduceLeDiff, Nat.reduceSub, Nat.reduceLT, reduceIte, reduceCtorEq]
  refine callV_of (better_spec _ _ _ _ _ _ _) ?_
  cases hb : betterB e s m e' s' m'
  all_goals simp only [↓ir.fingerpostlaw01_order.r0.o0, ↓ir.fingerpostlaw01_order.r0.o1, ↓ir.fingerpostlaw01_order.r0.o2, ↓ir.fingerpostlaw01_order.r1.o0, ↓ir.fingerpostlaw01_order.r1.o1, ↓ir.fingerpostlaw01_order.r1.o2, ↓ir.fingerpostlaw01_order.r1.o3, ↓ir.fingerpostlaw01_order.r2.o0, ↓ir.fingerpostlaw01_order.r3.o0, ↓ir.fingerpostlaw01_order.r3.o1, ↓ir.fingerpostlaw01_order.r3.o2, ↓ir.fingerpostlaw01_order.r3.o3, ↓ir.fingerpostlaw01_order.r4.o0, ↓ir.fingerpostlaw01_order.r5.o0, go_sem, Nat.reduceAdd, Nat.reduceEqDiff, Nat.reduceMul, Nat.reduceLeDiff, Nat.reduceSub, Nat.reduceLT, reduceIte, reduceCtorEq]
  · refine callV_of (better_spec _ _ _ _ _ _ _) ?_
    cases hc : betterB e' s' m' e s m
    all_goals
      simp only [↓ir.fingerpostlaw01_order.r0.o0, ↓ir.fingerpostlaw01_order.r0.o1, ↓ir.fingerpostlaw01_order.r0.o2, ↓ir.fingerpostlaw01_order.r1.o0, ↓ir.fingerpostlaw01_order.r1.o1, ↓ir.fingerpostlaw01_order.r1.o2, ↓ir.fingerpostlaw01_order.r1.o3, ↓ir.fingerpostlaw01_order.r2.o0, ↓ir.fingerpostlaw01_order.r3.o0, ↓ir.fingerpostlaw01_order.r3.o1, ↓ir.fingerpostlaw01_order.r3.o2, ↓ir.fingerpostlaw01_order.r3.o3, ↓ir.fingerpostlaw01_order.r4.o0, ↓ir.fingerpostlaw01_order.r5.o0, go_sem, Nat.reduceAdd, Nat.reduceEqDiff, Nat.reduceMul, Nat.reduceLeDiff, Nat.reduceSub, Nat.reduceLT, reduceIte, reduceCtorEq]
      refine Fin.sc rfl ?_
      unfold betterB at hb hc
      congr 1
      first
      | (have h1 := of_decide_eq_false hb
         have h2 := of_decide_eq_false hc
         rw [cmpK_pos] at h1 h2
         unfold cmpK
         repeat' split
         all_goals omega)
      | (have h1 := of_decide_eq_false hb
         have h2 := of_decide_eq_true hc
         rw [cmpK_pos] at h1 h2
         unfold cmpK
         repeat' split
         all_goals omega)
  · refine Fin.sc rfl ?_
    unfold betterB at hb
    congr 1
    have h1 := of_decide_eq_true hb
    rw [cmpK_pos] at h1
    unfold cmpK
    repeat' split
    all_goals omega

theorem rankOrders_spec (h : AHeap) (e s m e' s' m' : Int) : Spec Try.prog nG fn.fingerpostlaw01_RankOrders [keyV e s m, keyV e' s' m'] h (.bool true) h := by
  apply ir.fingerpostlaw01_RankOrders.spec (Nat.le_of_ble_eq_true rfl)
  simp only [ir.fingerpostlaw01_RankOrders, ir.fingerpostlaw01_RankOrders.rs, ir.fingerpostlaw01_RankOrders.r0, ir.fingerpostlaw01_RankOrders.r1]
  simp only [keyV, ↓ir.fingerpostlaw01_RankOrders.r0.o0, ↓ir.fingerpostlaw01_RankOrders.r0.o1, ↓ir.fingerpostlaw01_RankOrders.r0.o2, ↓ir.fingerpostlaw01_RankOrders.r1.o0, ↓ir.fingerpostlaw01_RankOrders.r1.o1, ↓ir.fingerpostlaw01_RankOrders.r1.o2, ↓ir.fingerpostlaw01_RankOrders.r1.o3, ↓ir.fingerpostlaw01_RankOrders.r1.o4, ↓ir.fingerpostlaw01_RankOrders.r1.o5, ↓ir.fingerpostlaw01_RankOrders.r1.o6, ↓ir.fingerpostlaw01_RankOrders.r1.o7, ↓ir.fingerpostlaw01_RankOrders.r1.o8, ↓ir.fingerpostlaw01_RankOrders.r1.o9, ↓ir.fingerpostlaw01_RankOrders.r1.o10, ↓ir.fingerpostlaw01_RankOrders.r1.o11, ↓ir.fingerpostlaw01_RankOrders.r1.o12, ↓ir.fingerpostlaw01_RankOrders.r1.o13, ↓ir.fingerpostlaw01_RankOrders.r1.o14, ↓ir.fingerpostlaw01_RankOrders.r1.o15, ↓ir.fingerpostlaw01_RankOrders.r1.o16, ↓ir.fingerpostlaw01_RankOrders.r1.o17, ↓ir.fingerpostlaw01_RankOrders.r1.o18, ↓ir.fingerpostlaw01_RankOrders.r1.o19, ↓ir.fingerpostlaw01_RankOrders.r1.o20, ↓ir.fingerpostlaw01_RankOrders.r1.o21, ↓ir.fingerpostlaw01_RankOrders.r1.o22, ↓ir.fingerpostlaw01_RankOrders.r1.o23, ↓ir.fingerpostlaw01_RankOrders.r1.o24, ↓ir.fingerpostlaw01_RankOrders.r1.o25, ↓ir.fingerpostlaw01_RankOrders.r1.o26, ↓ir.fingerpostlaw01_RankOrders.r1.o27, ↓ir.fingerpostlaw01_RankOrders.r1.o28, ↓ir.fingerpostlaw01_RankOrders.r1.o29, ↓ir.fingerpostlaw01_RankOrders.r1.o30, ↓ir.fingerpostlaw01_RankOrders.r1.o31, ↓ir.fingerpostlaw01_RankOrders.r1.o32, go_sem, Nat.reduceAdd, Nat.reduceEqDiff, Nat.reduceMul, Nat.reduceLeDiff, Nat.reduceSub, Nat.reduceLT, reduceIte, reduceCtorEq]
  repeat (refine callV_of (by first | exact to_spec _ _ _ _ | exact right_spec _ _ _ _ | exact rright_spec _ _ _ _ | exact compare_spec _ _ _ _ _ _ _ | exact order_spec _ _ _ _ _ _ _ | exact newer_spec _ _ _ _ _ _ _ | exact rnewer_spec _ _ _ _ _ _ _) ?_
          simp only [↓ir.fingerpostlaw01_RankOrders.r0.o0, ↓ir.fingerpostlaw01_RankOrders.r0.o1, ↓ir.fingerpostlaw01_RankOrders.r0.o2, ↓ir.fingerpostlaw01_RankOrders.r1.o0, ↓ir.fingerpostlaw01_RankOrders.r1.o1, ↓ir.fingerpostlaw01_RankOrders.r1.o2, ↓ir.fingerpostlaw01_RankOrders.r1.o3, ↓ir.fingerpostlaw01_RankOrders.r1.o4, ↓ir.fingerpostlaw01_RankOrders.r1.o5, ↓ir.fingerpostlaw01_RankOrders.r1.o6, ↓ir.fingerpostlaw01_RankOrders.r1.o7, ↓ir.fingerpostlaw01_RankOrders.r1.o8, ↓ir.fingerpostlaw01_RankOrders.r1.o9, ↓ir.fingerpostlaw01_RankOrders.r1.o10, ↓ir.fingerpostlaw01_RankOrders.r1.o11, ↓ir.fingerpostlaw01_RankOrders.r1.o12, ↓ir.fingerpostlaw01_RankOrders.r1.o13, ↓ir.fingerpostlaw01_RankOrders.r1.o14, ↓ir.fingerpostlaw01_RankOrders.r1.o15, ↓ir.fingerpostlaw01_RankOrders.r1.o16, ↓ir.fingerpostlaw01_RankOrders.r1.o17, ↓ir.fingerpostlaw01_RankOrders.r1.o18, ↓ir.fingerpostlaw01_RankOrders.r1.o19, ↓ir.fingerpostlaw01_RankOrders.r1.o20, ↓ir.fingerpostlaw01_RankOrders.r1.o21, ↓ir.fingerpostlaw01_RankOrders.r1.o22, ↓ir.fingerpostlaw01_RankOrders.r1.o23, ↓ir.fingerpostlaw01_RankOrders.r1.o24, ↓ir.fingerpostlaw01_RankOrders.r1.o25, ↓ir.fingerpostlaw01_RankOrders.r1.o26, ↓ir.fingerpostlaw01_RankOrders.r1.o27, ↓ir.fingerpostlaw01_RankOrders.r1.o28, ↓ir.fingerpostlaw01_RankOrders.r1.o29, ↓ir.fingerpostlaw01_RankOrders.r1.o30, ↓ir.fingerpostlaw01_RankOrders.r1.o31, ↓ir.fingerpostlaw01_RankOrders.r1.o32, go_sem, Nat.reduceAdd, Nat.reduceEqDiff, Nat.reduceMul, Nat.reduceLeDiff, Nat.reduceSub, Nat.reduceLT, reduceIte, reduceCtorEq, beq_self_eq_true])
  exact Fin.sc rfl rfl
end Go.Proofs.Ytmeojocmngbpaaa.B
