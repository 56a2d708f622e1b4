/-
  Layer 22 (fib) over the abstract heap: tables handed on, what turned from one to another, ways.
-/
import Derived.Test.YtmeojocmngbpaaaDoorF1
namespace Go.Proofs.YtmeojocmngbpaaaDoor.B
open Go Go.IntWalk
set_option linter.unusedVariables false
set_option linter.unusedSimpArgs false

/-- A table may be built anew. -/
abbrev Fits (l : List Hop) : Prop := l.length * 24 ≤ 140737488351232
theorem Fits.room {l : List Hop} (h : Fits l) {i : Nat} (hi : i < l.length) : room (i + 1) 24 := by unfold Fits at h; exact ⟨by omega, by omega⟩

theorem tohops_spec {h : AHeap} {v : Value} {l : List Hop} (hv : Ls h 3 isH v l) (hf : Fits l) : SpecX Tryd.prog nG fn.law22_To [v] h fun v' h' => Pre h h' ∧ Ow h h' 3 v' l.length (l.flatMap Hop.c) := by
  refine SpecX.of_body (ir.law22_To.spec (Nat.le_of_ble_eq_true rfl)) ?_
  simp (dsimp := false) only [↓ir.law22_To.bw, ir.law22_To.rs, ↓ir.law22_To.r0.w, ↓ir.law22_To.r1.w, ↓ir.law22_To.r2.w, ↓ir.law22_To.r3.w, ↓ir.law22_To.r4.w, ↓ir.law22_To.r5.w, ↓ir.law22_To.r6.w, ↓ir.law22_To.l1.w, ↓ir.law22_To.r7.w, ir.law22_To.rs, go_sem, Nat.reduceAdd, Nat.reduceEqDiff, Nat.reduceMul, Nat.reduceLeDiff, Nat.reduceSub, Nat.reduceLT, ↓reduceIte, reduceCtorEq, List.reduceReplicate, List.flatten_cons, List.flatten_nil, List.append_nil, eq_self, Int.reduceLE, Int.reduceLT, Int.reduceToNat, Nat.min_eq_left, Int.reducePow, Int.reduceNeg, Int.reduceEq, hv.lenV]
  refine loopV_of (fun m e h2 => ∃ (i : Nat) (a : Value), m = l.length - i ∧ i ≤ l.length ∧ Pre h h2 ∧ Ow h h2 3 a i ((l.take i).flatMap Hop.c) ∧ e = [(3, a), (6, v), (7, .int .i64 l.length), (8, .int .i64 i)]) _
    ⟨0, _, rfl, Nat.zero_le _, .refl _, .nil, rfl⟩ ?_
  rintro m e h2 ⟨i, a, rfl, hi, hp, ho, rfl⟩
  rcases Nat.lt_or_ge i l.length with hlt | hge
  · obtain ⟨c, hc, hc2, r0, r1⟩ := hv.rd2 hp hlt
    subst hc2
    simp (dsimp := false) only [↓ir.law22_To.l1.bw, ↓ir.law22_To.r0.w, ↓ir.law22_To.r1.w, ↓ir.law22_To.r2.w, ↓ir.law22_To.r3.w, ↓ir.law22_To.r4.w, ↓ir.law22_To.r5.w, ↓ir.law22_To.r6.w, ↓ir.law22_To.l1.w, ↓ir.law22_To.r7.w, ir.law22_To.rs, go_sem, Nat.reduceAdd, Nat.reduceEqDiff, Nat.reduceMul, Nat.reduceLeDiff, Nat.reduceSub, Nat.reduceLT, ↓reduceIte, reduceCtorEq, List.reduceReplicate, List.flatten_cons, List.flatten_nil, List.append_nil, eq_self, Int.reduceLE, Int.reduceLT, Int.reduceToNat, Nat.min_eq_left, Int.reducePow, Int.reduceNeg, Int.reduceEq, hv.lenV, hv.ixsN hlt, r0, r1, Int.ofNat_lt, hlt, decide_true, wrap_succ hlt hv.le]
    refine (ho.pre (.app _ _)).app rfl rfl (hf.room hlt) (fun a' h' ho' hb _ _ => ?_) (hp.app' _)
    simp (dsimp := false) only [↓ir.law22_To.r0.w, ↓ir.law22_To.r1.w, ↓ir.law22_To.r2.w, ↓ir.law22_To.r3.w, ↓ir.law22_To.r4.w, ↓ir.law22_To.r5.w, ↓ir.law22_To.r6.w, ↓ir.law22_To.l1.w, ↓ir.law22_To.r7.w, ir.law22_To.rs, go_sem, Nat.reduceAdd, Nat.reduceEqDiff, Nat.reduceMul, Nat.reduceLeDiff, Nat.reduceSub, Nat.reduceLT, ↓reduceIte, reduceCtorEq, List.reduceReplicate, List.flatten_cons, List.flatten_nil, List.append_nil, eq_self, Int.reduceLE, Int.reduceLT, Int.reduceToNat, Nat.min_eq_left, Int.reducePow, Int.reduceNeg, Int.reduceEq, wrap_succ hlt hv.le]
    refine ⟨l.length - (i + 1), by omega, i + 1, a', rfl, hlt, hb.pre (hp.app' _), ?_, rfl⟩
    rw [List.take_succ_eq_append_getElem hlt, List.flatMap_append]
    simpa using ho'
  · simp (dsimp := false) only [↓ir.law22_To.l1.bw, ↓ir.law22_To.r0.w, ↓ir.law22_To.r1.w, ↓ir.law22_To.r2.w, ↓ir.law22_To.r3.w, ↓ir.law22_To.r4.w, ↓ir.law22_To.r5.w, ↓ir.law22_To.r6.w, ↓ir.law22_To.l1.w, ↓ir.law22_To.r7.w, ir.law22_To.rs, go_sem, Nat.reduceAdd, Nat.reduceEqDiff, Nat.reduceMul, Nat.reduceLeDiff, Nat.reduceSub, Nat.reduceLT, ↓reduceIte, reduceCtorEq, List.reduceReplicate, List.flatten_cons, List.flatten_nil, List.append_nil, eq_self, Int.reduceLE, Int.reduceLT, Int.reduceToNat, Nat.min_eq_left, Int.reducePow, Int.reduceNeg, Int.reduceEq, hv.lenV, Int.ofNat_lt, show ¬ i < l.length by omega, decide_false]
    obtain rfl : i = l.length := by omega
    rw [List.take_of_length_le (Nat.le_refl _)] at ho
    exact ⟨hp, ho⟩

theorem Ow.hops {h0 h : AHeap} {v : Value} {l : List Hop} (k : Ow h0 h 3 v l.length (l.flatMap Hop.c)) : Ls h 3 isH v l := k.sl.ls (fun _ => rfl) rfl

/-- What turned of the first so many destinations. -/
def diffTo (a b : List Hop) (n : Nat) : List Hop := (List.range n).filterMap fun (d : Nat) => if lookL a (d : Int) ≠ lookL b (d : Int) then some ⟨(d : Int), lookL a (d : Int), lookL b (d : Int)⟩ else none
theorem diffTo_succ (a b : List Hop) (n : Nat) : diffTo a b (n + 1) = diffTo a b n ++ (if lookL a n ≠ lookL b n then [⟨n, lookL a n, lookL b n⟩] else []) := by
  unfold diffTo
  rw [List.range_succ, List.filterMap_append]
  congr 1
  simp only [List.filterMap_cons, List.filterMap_nil]
  split <;> rename_i q <;> split at q <;> simp_all

end Go.Proofs.YtmeojocmngbpaaaDoor.B
