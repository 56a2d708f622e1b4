/-
  Layer 22 (fib) over the abstract heap: tables handed on, what turned from one to another, ways.
-/
import Derived.Test.YtmeojocmngbpaaaF1
namespace Go.Proofs.Ytmeojocmngbpaaa.B
open Go Go.IntWalk
set_option linter.unusedVariables false
set_option linter.unusedSimpArgs false

/-- A table may be built anew. -/
abbrev Fits (l : List Hop) : Prop := l.length * 24 ≤ 140737488351232
theorem Fits.room {l : List Hop} (h : Fits l) {i : Nat} (hi : i < l.length) : room (i + 1) 24 := by unfold Fits at h; exact ⟨by omega, by omega⟩

theorem tohops_spec {h : AHeap} {v : Value} {l : List Hop} (hv : Ls h 3 isH v l) (hf : Fits l) : SpecX Try.prog nG fn.law22_To [v] h fun v' h' => Pre h h' ∧ Ow h h' 3 v' l.length (l.flatMap Hop.c) := by
  refine SpecX.of_body (ir.law22_To.spec (Nat.le_of_ble_eq_true rfl)) ?_
  simp (dsimp := false) only [↓ir.law22_To.bw, ir.law22_To.rs, ↓ir.law22_To.r0.w, ↓ir.law22_To.r1.w, ↓ir.law22_To.r2.w, ↓ir.law22_To.r3.w, ↓ir.law22_To.r4.w, ↓ir.law22_To.r5.w, ↓ir.law22_To.r6.w, ↓ir.law22_To.l1.w, ↓ir.law22_To.r7.w, ir.law22_To.rs, go_sem, Nat.reduceAdd, Nat.reduceEqDiff, Nat.reduceMul, Nat.reduceLeDiff, Nat.reduceSub, Nat.reduceLT, ↓reduceIte, reduceCtorEq, List.reduceReplicate, List.flatten_cons, List.flatten_nil, List.append_nil, eq_self, Int.reduceLE, Int.reduceLT, Int.reduceToNat, Nat.min_eq_left, Int.reducePow, Int.reduceNeg, Int.reduceEq, hv.lenV]
  refine loopV_of (fun m e h2 => ∃ (i : Nat) (a : Value), m = l.length - i ∧ i ≤ l.length ∧ Pre h h2 ∧ Ow h h2 3 a i ((l.take i).flatMap Hop.c) ∧ e = [(3, a), (6, v), (7, .int .i64 l.length), (8, .int .i64 i)]) _
    ⟨0, _, rfl, Nat.zero_le _, .refl _, .nil, rfl⟩ ?_
  rintro m e h2 ⟨i, a, rfl, hi, hp, ho, rfl⟩
  rcases Nat.lt_or_ge i l.length with hlt | hge
  · obtain ⟨c, hc, hc2, r0, r1⟩ := hv.rd2 hp hlt
    subst hc2
    simp (dsimp := false) only [↓ir.law22_To.l1.bw, ↓ir.law22_To.r0.w, ↓ir.law22_To.r1.w, ↓ir.law22_To.r2.w, ↓ir.law22_To.r3.w, ↓ir.law22_To.r4.w, ↓ir.law22_To.r5.w, ↓ir.law22_To.r6.w, ↓ir.law22_To.l1.w, ↓ir.law22_To.r7.w, ir.law22_To.rs, go_sem, Nat.reduceAdd, Nat.reduceEqDiff, Nat.reduceMul, Nat.reduceLeDiff, Nat.reduceSub, Nat.reduceLT, ↓reduceIte, reduceCtorEq, List.reduceReplicate, List.flatten_cons, List.flatten_nil, List.append_nil, eq_self, Int.reduceLE, Int.reduceLT, Int.reduceToNat, Nat.min_eq_left, Int.reducePow, Int.reduceNeg, Int.reduceEq, hv.lenV, hv.ixsN hlt, r0, r1, Int.ofNat_lt, hlt, decide_true, wrap_succ hlt hv.le]
    refine (ho.pre (.app _ _)).app rfl rfl (hf.room hlt) (fun a' h' ho' hb _ _ => ?_) (hp.app' _)
    simp (dsimp := false) only [↓ir.law22_To.r0.w, ↓ir.law22_To.r1.w, ↓ir.law22_To.r2.w, ↓ir.law22_To.r3.w, ↓ir.law22_To.r4.w, ↓ir.law22_To.r5.w, ↓ir.law22_To.r6.w, ↓ir.law22_To.l1.w, ↓ir.law22_To.r7.w, ir.law22_To.rs, go_sem, Nat.reduceAdd, Nat.reduceEqDiff, Nat.reduceMul, Nat.reduceLeDiff, Nat.reduceSub, Nat.reduceLT, ↓reduceIte, reduceCtorEq, List.reduceReplicate, List.flatten_cons, List.flatten_nil, List.append_nil, eq_self, Int.reduceLE, Int.reduceLT, Int.reduceToNat, Nat.min_eq_left, Int.reducePow, Int.reduceNeg, Int.reduceEq, wrap_succ hlt hv.le]
    refine ⟨l.length - (i + 1), by omega, i + 1, a', rfl, hlt, hb.pre (hp.app' _), ?_, rfl⟩
    rw [List.take_succ_eq_append_getElem hlt, List.flatMap_append]
    simpa using ho'
  · simp (dsimp := false) only [↓ir.law22_To.l1.bw, ↓ir.law22_To.r0.w, ↓ir.law22_To.r1.w, ↓ir.law22_To.r2.w, ↓ir.law22_To.r3.w, ↓ir.law22_To.r4.w, ↓ir.law22_To.r5.w, ↓ir.law22_To.r6.w, ↓ir.law22_To.l1.w, ↓ir.law22_To.r7.w, ir.law22_To.rs, go_sem, Nat.reduceAdd, Nat.reduceEqDiff, Nat.reduceMul, Nat.reduceLeDiff, Nat.reduceSub, Nat.reduceLT, ↓reduceIte, reduceCtorEq, List.reduceReplicate, List.flatten_cons, List.flatten_nil, List.append_nil, eq_self, Int.reduceLE, Int.reduceLT, Int.reduceToNat, Nat.min_eq_left, Int.reducePow, Int.reduceNeg, Int.reduceEq, hv.lenV, Int.ofNat_lt, show ¬ i < l.length by omega, decide_false]
    obtain rfl : i = l.length := by omega
    rw [List.take_of_length_le (Nat.le_refl _)] at ho
    exact ⟨hp, ho⟩

theorem Ow.hops {h0 h : AHeap} {v : Value} {l : List Hop} (k : Ow h0 h 3 v l.length (l.flatMap Hop.c)) : Ls h 3 isH v l := k.sl.ls (fun _ => rfl) rfl

/-- What turned of the first so many destinations. -/
def diffTo (a b : List Hop) (n : Nat) : List Hop := (List.range n).filterMap fun (d : Nat) => if lookL a (d : Int) ≠ lookL b (d : Int) then some ⟨(d : Int), lookL a (d : Int), lookL b (d : Int)⟩ else none
theorem diffTo_succ (a b : List Hop) (n : Nat) : diffTo a b (n + 1) = diffTo a b n ++ (if lookL a n ≠ lookL b n then [⟨n, lookL a n, lookL b n⟩] else []) := by
  unfold diffTo
  rw [List.range_succ, List.filterMap_append]
  congr 1
  simp only [List.filterMap_cons, List.filterMap_nil]
  split <;> rename_i q <;> split at q <;> simp_all

theorem diff_spec {h : AHeap} {v w : Value} {a b : List Hop} (hv : Ls h 3 isH v a) (hw : Ls h 3 isH w b) : SpecX Try.prog nG fn.fib_Diff [v, w] h fun v' h' => Pre h h' ∧ ∃ l, Ow h h' 3 v' l.length (l.flatMap Hop.c) ∧ l.length ≤ 8 ∧ (Rises a → Rises b → l = diffTo a b 8) := by
  refine SpecX.of_body (ir.fib_Diff.spec (Nat.le_of_ble_eq_true rfl)) ?_
  simp (dsimp := false) only [↓ir.fib_Diff.bw, ir.fib_Diff.rs, ↓ir.fib_Diff.r0.w, ↓ir.fib_Diff.r1.w, ↓ir.fib_Diff.r2.w, ↓ir.fib_Diff.r3.w, ↓ir.fib_Diff.r4.w, ↓ir.fib_Diff.r5.w, ↓ir.fib_Diff.r6.w, ↓ir.fib_Diff.r7.w, ↓ir.fib_Diff.r8.w, ↓ir.fib_Diff.l1.w, ↓ir.fib_Diff.r9.w, ir.fib_Diff.rs, go_sem, Nat.reduceAdd, Nat.reduceEqDiff, Nat.reduceMul, Nat.reduceLeDiff, Nat.reduceSub, Nat.reduceLT, ↓reduceIte, reduceCtorEq, List.reduceReplicate, List.flatten_cons, List.flatten_nil, List.append_nil, eq_self, Int.reduceLE, Int.reduceLT, Int.reduceToNat, Nat.min_eq_left, Int.reducePow, Int.reduceNeg, Int.reduceEq]
  refine loopV_of (fun m e h2 => ∃ (i : Nat) (u : Value) (l : List Hop), m = 8 - i ∧ i ≤ 8 ∧ Pre h h2 ∧ Ow h h2 3 u l.length (l.flatMap Hop.c) ∧ l.length ≤ i ∧ (Rises a → Rises b → l = diffTo a b i) ∧ e = [(0, v), (1, w), (5, u), (9, .int .i64 i)]) _
    ⟨0, _, [], rfl, Nat.zero_le _, .refl _, .nil, Nat.le_refl _, fun _ _ => rfl, rfl⟩ ?_
  rintro m e h2 ⟨i, u, l, rfl, hi, hp, ho, hl, hd, rfl⟩
  rcases Nat.lt_or_ge i 8 with hlt | hge
  · have e0 : (i : Int) < 8 := by omega
    have e1 : IntKind.i64.wrap ((i : Int) + 1) = ((i + 1 : Nat) : Int) := wrap_succ hlt (by unfold maxI; omega)
    simp (dsimp := false) only [↓ir.fib_Diff.l1.bw, ↓ir.fib_Diff.r0.w, ↓ir.fib_Diff.r1.w, ↓ir.fib_Diff.r2.w, ↓ir.fib_Diff.r3.w, ↓ir.fib_Diff.r4.w, ↓ir.fib_Diff.r5.w, ↓ir.fib_Diff.r6.w, ↓ir.fib_Diff.r7.w, ↓ir.fib_Diff.r8.w, ↓ir.fib_Diff.l1.w, ↓ir.fib_Diff.r9.w, ir.fib_Diff.rs, go_sem, Nat.reduceAdd, Nat.reduceEqDiff, Nat.reduceMul, Nat.reduceLeDiff, Nat.reduceSub, Nat.reduceLT, ↓reduceIte, reduceCtorEq, List.reduceReplicate, List.flatten_cons, List.flatten_nil, List.append_nil, eq_self, Int.reduceLE, Int.reduceLT, Int.reduceToNat, Nat.min_eq_left, Int.reducePow, Int.reduceNeg, Int.reduceEq, e0, decide_true]
    refine callV_x (lookup_spec (hv.pre hp) _) ?_
    rintro _ h3 ⟨hp3, r, rfl, hr⟩
    simp (dsimp := false) only [↓ir.fib_Diff.r0.w, ↓ir.fib_Diff.r1.w, ↓ir.fib_Diff.r2.w, ↓ir.fib_Diff.r3.w, ↓ir.fib_Diff.r4.w, ↓ir.fib_Diff.r5.w, ↓ir.fib_Diff.r6.w, ↓ir.fib_Diff.r7.w, ↓ir.fib_Diff.r8.w, ↓ir.fib_Diff.l1.w, ↓ir.fib_Diff.r9.w, ir.fib_Diff.rs, go_sem, Nat.reduceAdd, Nat.reduceEqDiff, Nat.reduceMul, Nat.reduceLeDiff, Nat.reduceSub, Nat.reduceLT, ↓reduceIte, reduceCtorEq, List.reduceReplicate, List.flatten_cons, List.flatten_nil, List.append_nil, eq_self, Int.reduceLE, Int.reduceLT, Int.reduceToNat, Nat.min_eq_left, Int.reducePow, Int.reduceNeg, Int.reduceEq]
    refine callV_x (lookup_spec (hw.pre (hp.trans hp3)) _) ?_
    rintro _ h4 ⟨hp4, s, rfl, hs⟩
    simp (dsimp := false) only [↓ir.fib_Diff.r0.w, ↓ir.fib_Diff.r1.w, ↓ir.fib_Diff.r2.w, ↓ir.fib_Diff.r3.w, ↓ir.fib_Diff.r4.w, ↓ir.fib_Diff.r5.w, ↓ir.fib_Diff.r6.w, ↓ir.fib_Diff.r7.w, ↓ir.fib_Diff.r8.w, ↓ir.fib_Diff.l1.w, ↓ir.fib_Diff.r9.w, ir.fib_Diff.rs, go_sem, Nat.reduceAdd, Nat.reduceEqDiff, Nat.reduceMul, Nat.reduceLeDiff, Nat.reduceSub, Nat.reduceLT, ↓reduceIte, reduceCtorEq, List.reduceReplicate, List.flatten_cons, List.flatten_nil, List.append_nil, eq_self, Int.reduceLE, Int.reduceLT, Int.reduceToNat, Nat.min_eq_left, Int.reducePow, Int.reduceNeg, Int.reduceEq]
    refine cVn (fun hc => ?_) (fun hc => ?_)
    · simp (dsimp := false) only [↓ir.fib_Diff.r0.w, ↓ir.fib_Diff.r1.w, ↓ir.fib_Diff.r2.w, ↓ir.fib_Diff.r3.w, ↓ir.fib_Diff.r4.w, ↓ir.fib_Diff.r5.w, ↓ir.fib_Diff.r6.w, ↓ir.fib_Diff.r7.w, ↓ir.fib_Diff.r8.w, ↓ir.fib_Diff.l1.w, ↓ir.fib_Diff.r9.w, ir.fib_Diff.rs, go_sem, Nat.reduceAdd, Nat.reduceEqDiff, Nat.reduceMul, Nat.reduceLeDiff, Nat.reduceSub, Nat.reduceLT, ↓reduceIte, reduceCtorEq, List.reduceReplicate, List.flatten_cons, List.flatten_nil, List.append_nil, eq_self, Int.reduceLE, Int.reduceLT, Int.reduceToNat, Nat.min_eq_left, Int.reducePow, Int.reduceNeg, Int.reduceEq, e1]
      refine (ho.pre ((hp3.trans hp4).app' _)).app (m := 1) rfl rfl ⟨by omega, by omega⟩ (fun a' h' ho' hb _ _ => ?_) (((hp.trans hp3).trans hp4).app' _)
      simp (dsimp := false) only [↓ir.fib_Diff.r0.w, ↓ir.fib_Diff.r1.w, ↓ir.fib_Diff.r2.w, ↓ir.fib_Diff.r3.w, ↓ir.fib_Diff.r4.w, ↓ir.fib_Diff.r5.w, ↓ir.fib_Diff.r6.w, ↓ir.fib_Diff.r7.w, ↓ir.fib_Diff.r8.w, ↓ir.fib_Diff.l1.w, ↓ir.fib_Diff.r9.w, ir.fib_Diff.rs, go_sem, Nat.reduceAdd, Nat.reduceEqDiff, Nat.reduceMul, Nat.reduceLeDiff, Nat.reduceSub, Nat.reduceLT, ↓reduceIte, reduceCtorEq, List.reduceReplicate, List.flatten_cons, List.flatten_nil, List.append_nil, eq_self, Int.reduceLE, Int.reduceLT, Int.reduceToNat, Nat.min_eq_left, Int.reducePow, Int.reduceNeg, Int.reduceEq, e1]
      refine ⟨8 - (i + 1), by omega, i + 1, a', l ++ [⟨i, r, s⟩], rfl, by omega, hb.pre (((hp.trans hp3).trans hp4).app' _), ?_, by simp; omega, fun k1 k2 => ?_, rfl⟩
      · simpa using ho'
      · rw [diffTo_succ, ← hd k1 k2, if_pos (by rw [← hr k1, ← hs k2]; exact hc), hr k1, hs k2]
    · simp (dsimp := false) only [↓ir.fib_Diff.r0.w, ↓ir.fib_Diff.r1.w, ↓ir.fib_Diff.r2.w, ↓ir.fib_Diff.r3.w, ↓ir.fib_Diff.r4.w, ↓ir.fib_Diff.r5.w, ↓ir.fib_Diff.r6.w, ↓ir.fib_Diff.r7.w, ↓ir.fib_Diff.r8.w, ↓ir.fib_Diff.l1.w, ↓ir.fib_Diff.r9.w, ir.fib_Diff.rs, go_sem, Nat.reduceAdd, Nat.reduceEqDiff, Nat.reduceMul, Nat.reduceLeDiff, Nat.reduceSub, Nat.reduceLT, ↓reduceIte, reduceCtorEq, List.reduceReplicate, List.flatten_cons, List.flatten_nil, List.append_nil, eq_self, Int.reduceLE, Int.reduceLT, Int.reduceToNat, Nat.min_eq_left, Int.reducePow, Int.reduceNeg, Int.reduceEq, e1]
      refine ⟨8 - (i + 1), by omega, i + 1, u, l, rfl, by omega, (hp.trans hp3).trans hp4, ho.pre (hp3.trans hp4), by omega, fun k1 k2 => ?_, rfl⟩
      rw [diffTo_succ, ← hd k1 k2, if_neg (by rw [← hr k1, ← hs k2]; simpa using hc), List.append_nil]
  · have e0 : ¬ (i : Int) < 8 := by omega
    simp (dsimp := false) only [↓ir.fib_Diff.l1.bw, ↓ir.fib_Diff.r0.w, ↓ir.fib_Diff.r1.w, ↓ir.fib_Diff.r2.w, ↓ir.fib_Diff.r3.w, ↓ir.fib_Diff.r4.w, ↓ir.fib_Diff.r5.w, ↓ir.fib_Diff.r6.w, ↓ir.fib_Diff.r7.w, ↓ir.fib_Diff.r8.w, ↓ir.fib_Diff.l1.w, ↓ir.fib_Diff.r9.w, ir.fib_Diff.rs, go_sem, Nat.reduceAdd, Nat.reduceEqDiff, Nat.reduceMul, Nat.reduceLeDiff, Nat.reduceSub, Nat.reduceLT, ↓reduceIte, reduceCtorEq, List.reduceReplicate, List.flatten_cons, List.flatten_nil, List.append_nil, eq_self, Int.reduceLE, Int.reduceLT, Int.reduceToNat, Nat.min_eq_left, Int.reducePow, Int.reduceNeg, Int.reduceEq, e0, decide_false]
    obtain rfl : i = 8 := by omega
    exact ⟨hp, l, ho, hl, hd⟩

theorem rdiff_spec {h : AHeap} {v w : Value} {a b : List Hop} (hv : Ls h 3 isH v a) (hw : Ls h 3 isH w b) : SpecX Try.prog nG fn.ref22_Diff [v, w] h fun v' h' => Pre h h' ∧ Ow h h' 3 v' (diffTo a b 8).length ((diffTo a b 8).flatMap Hop.c) ∧ (diffTo a b 8).length ≤ 8 := by
  refine SpecX.of_body (ir.ref22_Diff.spec (Nat.le_of_ble_eq_true rfl)) ?_
  simp (dsimp := false) only [↓ir.ref22_Diff.bw, ir.ref22_Diff.rs, ↓ir.ref22_Diff.r0.w, ↓ir.ref22_Diff.r1.w, ↓ir.ref22_Diff.r2.w, ↓ir.ref22_Diff.r3.w, ↓ir.ref22_Diff.r5.w, ↓ir.ref22_Diff.r6.w, ↓ir.ref22_Diff.r4.w, ↓ir.ref22_Diff.l1.w, ↓ir.ref22_Diff.r7.w, ir.ref22_Diff.rs, go_sem, Nat.reduceAdd, Nat.reduceEqDiff, Nat.reduceMul, Nat.reduceLeDiff, Nat.reduceSub, Nat.reduceLT, ↓reduceIte, reduceCtorEq, List.reduceReplicate, List.flatten_cons, List.flatten_nil, List.append_nil, eq_self, Int.reduceLE, Int.reduceLT, Int.reduceToNat, Nat.min_eq_left, Int.reducePow, Int.reduceNeg, Int.reduceEq]
  refine loopV_of (fun m e h2 => ∃ (i : Nat) (u : Value), m = 8 - i ∧ i ≤ 8 ∧ Pre h h2 ∧ Ow h h2 3 u (diffTo a b i).length ((diffTo a b i).flatMap Hop.c) ∧ (diffTo a b i).length ≤ i ∧ e = [(0, v), (1, w), (5, u), (6, .int .i64 i)]) _
    ⟨0, _, rfl, Nat.zero_le _, .refl _, .nil, Nat.le_refl _, rfl⟩ ?_
  rintro m e h2 ⟨i, u, rfl, hi, hp, ho, hl, rfl⟩
  rcases Nat.lt_or_ge i 8 with hlt | hge
  · have e0 : (i : Int) < 8 := by omega
    have e1 : IntKind.i64.wrap ((i : Int) + 1) = ((i + 1 : Nat) : Int) := wrap_succ hlt (by unfold maxI; omega)
    simp (dsimp := false) only [↓ir.ref22_Diff.l1.bw, ↓ir.ref22_Diff.r0.w, ↓ir.ref22_Diff.r1.w, ↓ir.ref22_Diff.r2.w, ↓ir.ref22_Diff.r3.w, ↓ir.ref22_Diff.r5.w, ↓ir.ref22_Diff.r6.w, ↓ir.ref22_Diff.r4.w, ↓ir.ref22_Diff.l1.w, ↓ir.ref22_Diff.r7.w, ir.ref22_Diff.rs, go_sem, Nat.reduceAdd, Nat.reduceEqDiff, Nat.reduceMul, Nat.reduceLeDiff, Nat.reduceSub, Nat.reduceLT, ↓reduceIte, reduceCtorEq, List.reduceReplicate, List.flatten_cons, List.flatten_nil, List.append_nil, eq_self, Int.reduceLE, Int.reduceLT, Int.reduceToNat, Nat.min_eq_left, Int.reducePow, Int.reduceNeg, Int.reduceEq, e0, decide_true]
    refine callV_x (rlookup_spec (hv.pre hp) _) ?_
    rintro _ h3 ⟨hp3, rfl⟩
    simp (dsimp := false) only [↓ir.ref22_Diff.r0.w, ↓ir.ref22_Diff.r1.w, ↓ir.ref22_Diff.r2.w, ↓ir.ref22_Diff.r3.w, ↓ir.ref22_Diff.r5.w, ↓ir.ref22_Diff.r6.w, ↓ir.ref22_Diff.r4.w, ↓ir.ref22_Diff.l1.w, ↓ir.ref22_Diff.r7.w, ir.ref22_Diff.rs, go_sem, Nat.reduceAdd, Nat.reduceEqDiff, Nat.reduceMul, Nat.reduceLeDiff, Nat.reduceSub, Nat.reduceLT, ↓reduceIte, reduceCtorEq, List.reduceReplicate, List.flatten_cons, List.flatten_nil, List.append_nil, eq_self, Int.reduceLE, Int.reduceLT, Int.reduceToNat, Nat.min_eq_left, Int.reducePow, Int.reduceNeg, Int.reduceEq]
    refine callV_x (rlookup_spec (hw.pre (hp.trans hp3)) _) ?_
    rintro _ h4 ⟨hp4, rfl⟩
    simp (dsimp := false) only [↓ir.ref22_Diff.r0.w, ↓ir.ref22_Diff.r1.w, ↓ir.ref22_Diff.r2.w, ↓ir.ref22_Diff.r3.w, ↓ir.ref22_Diff.r5.w, ↓ir.ref22_Diff.r6.w, ↓ir.ref22_Diff.r4.w, ↓ir.ref22_Diff.l1.w, ↓ir.ref22_Diff.r7.w, ir.ref22_Diff.rs, go_sem, Nat.reduceAdd, Nat.reduceEqDiff, Nat.reduceMul, Nat.reduceLeDiff, Nat.reduceSub, Nat.reduceLT, ↓reduceIte, reduceCtorEq, List.reduceReplicate, List.flatten_cons, List.flatten_nil, List.append_nil, eq_self, Int.reduceLE, Int.reduceLT, Int.reduceToNat, Nat.min_eq_left, Int.reducePow, Int.reduceNeg, Int.reduceEq]
    have hp' := (hp.trans hp3).trans hp4
    refine cVn (fun hc => ?_) (fun hc => ?_)
    · simp (dsimp := false) only [↓ir.ref22_Diff.r0.w, ↓ir.ref22_Diff.r1.w, ↓ir.ref22_Diff.r2.w, ↓ir.ref22_Diff.r3.w, ↓ir.ref22_Diff.r5.w, ↓ir.ref22_Diff.r6.w, ↓ir.ref22_Diff.r4.w, ↓ir.ref22_Diff.l1.w, ↓ir.ref22_Diff.r7.w, ir.ref22_Diff.rs, go_sem, Nat.reduceAdd, Nat.reduceEqDiff, Nat.reduceMul, Nat.reduceLeDiff, Nat.reduceSub, Nat.reduceLT, ↓reduceIte, reduceCtorEq, List.reduceReplicate, List.flatten_cons, List.flatten_nil, List.append_nil, eq_self, Int.reduceLE, Int.reduceLT, Int.reduceToNat, Nat.min_eq_left, Int.reducePow, Int.reduceNeg, Int.reduceEq, e1]
      refine callV_x (rlookup_spec (hv.pre hp') _) ?_
      rintro _ h5 ⟨hp5, rfl⟩
      simp (dsimp := false) only [↓ir.ref22_Diff.r0.w, ↓ir.ref22_Diff.r1.w, ↓ir.ref22_Diff.r2.w, ↓ir.ref22_Diff.r3.w, ↓ir.ref22_Diff.r5.w, ↓ir.ref22_Diff.r6.w, ↓ir.ref22_Diff.r4.w, ↓ir.ref22_Diff.l1.w, ↓ir.ref22_Diff.r7.w, ir.ref22_Diff.rs, go_sem, Nat.reduceAdd, Nat.reduceEqDiff, Nat.reduceMul, Nat.reduceLeDiff, Nat.reduceSub, Nat.reduceLT, ↓reduceIte, reduceCtorEq, List.reduceReplicate, List.flatten_cons, List.flatten_nil, List.append_nil, eq_self, Int.reduceLE, Int.reduceLT, Int.reduceToNat, Nat.min_eq_left, Int.reducePow, Int.reduceNeg, Int.reduceEq]
      refine callV_x (rlookup_spec (hw.pre (hp'.trans hp5)) _) ?_
      rintro _ h6 ⟨hp6, rfl⟩
      simp (dsimp := false) only [↓ir.ref22_Diff.r0.w, ↓ir.ref22_Diff.r1.w, ↓ir.ref22_Diff.r2.w, ↓ir.ref22_Diff.r3.w, ↓ir.ref22_Diff.r5.w, ↓ir.ref22_Diff.r6.w, ↓ir.ref22_Diff.r4.w, ↓ir.ref22_Diff.l1.w, ↓ir.ref22_Diff.r7.w, ir.ref22_Diff.rs, go_sem, Nat.reduceAdd, Nat.reduceEqDiff, Nat.reduceMul, Nat.reduceLeDiff, Nat.reduceSub, Nat.reduceLT, ↓reduceIte, reduceCtorEq, List.reduceReplicate, List.flatten_cons, List.flatten_nil, List.append_nil, eq_self, Int.reduceLE, Int.reduceLT, Int.reduceToNat, Nat.min_eq_left, Int.reducePow, Int.reduceNeg, Int.reduceEq]
      refine (ho.pre ((((hp3.trans hp4).trans hp5).trans hp6).app' _)).app (m := 1) rfl rfl ⟨by omega, by omega⟩ (fun a' h' ho' hb _ _ => ?_) (((hp'.trans hp5).trans hp6).app' _)
      simp (dsimp := false) only [↓ir.ref22_Diff.r0.w, ↓ir.ref22_Diff.r1.w, ↓ir.ref22_Diff.r2.w, ↓ir.ref22_Diff.r3.w, ↓ir.ref22_Diff.r5.w, ↓ir.ref22_Diff.r6.w, ↓ir.ref22_Diff.r4.w, ↓ir.ref22_Diff.l1.w, ↓ir.ref22_Diff.r7.w, ir.ref22_Diff.rs, go_sem, Nat.reduceAdd, Nat.reduceEqDiff, Nat.reduceMul, Nat.reduceLeDiff, Nat.reduceSub, Nat.reduceLT, ↓reduceIte, reduceCtorEq, List.reduceReplicate, List.flatten_cons, List.flatten_nil, List.append_nil, eq_self, Int.reduceLE, Int.reduceLT, Int.reduceToNat, Nat.min_eq_left, Int.reducePow, Int.reduceNeg, Int.reduceEq, e1]
      refine ⟨8 - (i + 1), by omega, i + 1, a', rfl, by omega, hb.pre (((hp'.trans hp5).trans hp6).app' _), ?_, ?_, rfl⟩
      · rw [diffTo_succ, if_pos hc]
        simpa using ho'
      · rw [diffTo_succ, if_pos hc]
        simp; omega
    · simp (dsimp := false) only [↓ir.ref22_Diff.r0.w, ↓ir.ref22_Diff.r1.w, ↓ir.ref22_Diff.r2.w, ↓ir.ref22_Diff.r3.w, ↓ir.ref22_Diff.r5.w, ↓ir.ref22_Diff.r6.w, ↓ir.ref22_Diff.r4.w, ↓ir.ref22_Diff.l1.w, ↓ir.ref22_Diff.r7.w, ir.ref22_Diff.rs, go_sem, Nat.reduceAdd, Nat.reduceEqDiff, Nat.reduceMul, Nat.reduceLeDiff, Nat.reduceSub, Nat.reduceLT, ↓reduceIte, reduceCtorEq, List.reduceReplicate, List.flatten_cons, List.flatten_nil, List.append_nil, eq_self, Int.reduceLE, Int.reduceLT, Int.reduceToNat, Nat.min_eq_left, Int.reducePow, Int.reduceNeg, Int.reduceEq, e1]
      refine ⟨8 - (i + 1), by omega, i + 1, u, rfl, by omega, hp', ?_, ?_, rfl⟩
      · rw [diffTo_succ, if_neg (by simpa using hc), List.append_nil]
        exact ho.pre (hp3.trans hp4)
      · rw [diffTo_succ, if_neg (by simpa using hc), List.append_nil]
        omega
  · have e0 : ¬ (i : Int) < 8 := by omega
    simp (dsimp := false) only [↓ir.ref22_Diff.l1.bw, ↓ir.ref22_Diff.r0.w, ↓ir.ref22_Diff.r1.w, ↓ir.ref22_Diff.r2.w, ↓ir.ref22_Diff.r3.w, ↓ir.ref22_Diff.r5.w, ↓ir.ref22_Diff.r6.w, ↓ir.ref22_Diff.r4.w, ↓ir.ref22_Diff.l1.w, ↓ir.ref22_Diff.r7.w, ir.ref22_Diff.rs, go_sem, Nat.reduceAdd, Nat.reduceEqDiff, Nat.reduceMul, Nat.reduceLeDiff, Nat.reduceSub, Nat.reduceLT, ↓reduceIte, reduceCtorEq, List.reduceReplicate, List.flatten_cons, List.flatten_nil, List.append_nil, eq_self, Int.reduceLE, Int.reduceLT, Int.reduceToNat, Nat.min_eq_left, Int.reducePow, Int.reduceNeg, Int.reduceEq, e0, decide_false]
    obtain rfl : i = 8 := by omega
    exact ⟨hp, ho, hl⟩
end Go.Proofs.Ytmeojocmngbpaaa.B
