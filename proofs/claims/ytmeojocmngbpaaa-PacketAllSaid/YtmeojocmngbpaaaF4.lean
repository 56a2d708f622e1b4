/-
  Layer 22 (fib): the document's example; the laws of what turned (P22.2).
-/
import Derived.Test.YtmeojocmngbpaaaF3
namespace Go.Proofs.Ytmeojocmngbpaaa.B
open Go Go.IntWalk
set_option linter.unusedVariables false
set_option linter.unusedSimpArgs false

theorem awake22_spec {h : AHeap} : SpecX Try.prog nG fn.law22_awake [] h fun v' h' => Pre h h' ∧ v' = .bool true := by
  refine SpecX.of_body (ir.law22_awake.spec (Nat.le_of_ble_eq_true rfl)) ?_
  simp (dsimp := false) only [↓ir.law22_awake.bw, ir.law22_awake.rs, ↓ir.law22_awake.r0.w, ↓ir.law22_awake.r1.w, ↓ir.law22_awake.r2.w, ir.law22_awake.rs, go_sem, Nat.reduceAdd, Nat.reduceEqDiff, Nat.reduceMul, Nat.reduceLeDiff, Nat.reduceSub, Nat.reduceLT, ↓reduceIte, reduceCtorEq, List.reduceReplicate, List.flatten_cons, List.flatten_nil, List.append_nil, eq_self, Int.reduceLE, Int.reduceLT, Int.reduceToNat, Nat.min_eq_left, Int.reducePow, Int.reduceNeg, Int.reduceEq]
  have h0 : Ls (h ++ [.row (.grow 3) (Hop.c ⟨2, 1, 0⟩), .row (.grow 3) (Hop.c ⟨2, 0, 0⟩), .row (.grow 1) [.slice (some ⟨h.length, 0, none⟩) 1 1, .slice (some ⟨h.length + 1, 0, none⟩) 1 1]]) 3 isH (.slice (some ⟨h.length, 0, none⟩) 1 1) [⟨2, 1, 0⟩] :=
    (litS (sz := 3) (n := 1) (cells := [Hop.mk 2 1 0].flatMap Hop.c) (by simp) rfl (by unfold maxI; omega)).ls (fun _ => rfl) rfl
  have h1 : Ls (h ++ [.row (.grow 3) (Hop.c ⟨2, 1, 0⟩), .row (.grow 3) (Hop.c ⟨2, 0, 0⟩), .row (.grow 1) [.slice (some ⟨h.length, 0, none⟩) 1 1, .slice (some ⟨h.length + 1, 0, none⟩) 1 1]]) 3 isH (.slice (some ⟨h.length + 1, 0, none⟩) 1 1) [⟨2, 0, 0⟩] :=
    (litS (sz := 3) (n := 1) (cells := [Hop.mk 2 0 0].flatMap Hop.c) (by simp [get_app]) rfl (by unfold maxI; omega)).ls (fun _ => rfl) rfl
  have h2 : Ls (h ++ [.row (.grow 3) (Hop.c ⟨2, 1, 0⟩), .row (.grow 3) (Hop.c ⟨2, 0, 0⟩), .row (.grow 1) [.slice (some ⟨h.length, 0, none⟩) 1 1, .slice (some ⟨h.length + 1, 0, none⟩) 1 1]]) 1 (isT (h ++ [.row (.grow 3) (Hop.c ⟨2, 1, 0⟩), .row (.grow 3) (Hop.c ⟨2, 0, 0⟩), .row (.grow 1) [.slice (some ⟨h.length, 0, none⟩) 1 1, .slice (some ⟨h.length + 1, 0, none⟩) 1 1]]))
      (.slice (some ⟨h.length + 2, 0, none⟩) 2 2) [[⟨2, 1, 0⟩], [⟨2, 0, 0⟩]] := by
    refine ⟨_, litS (sz := 1) (n := 2) (cells := [.slice (some ⟨h.length, 0, none⟩) 1 1, .slice (some ⟨h.length + 1, 0, none⟩) 1 1]) (by simp [get_app]) rfl (by unfold maxI; omega), fun i hi => ?_⟩
    match i, hi with
    | 0, _ => exact ⟨_, rfl, h0⟩
    | 1, _ => exact ⟨_, rfl, h1⟩
  refine callV_x (walk_spec h2 ?_ (by simp) 0 2) ?_
  · intro t ht i j hi hj
    simp at ht
    rcases ht with rfl | rfl <;> simp at hj <;> omega
  rintro _ h3 ⟨hp3, u, w, b, rfl, ho, hw⟩
  have e : walkF [[Hop.mk 2 1 0], [Hop.mk 2 0 0]] 2 3 [] 0 = ([0, 1, 0], true) := by simp [walkF, lookL]
  have hw' : (w, b) = ([0, 1, 0], true) := hw.trans e
  cases hw'
  have hi := ho.ints
  obtain ⟨c, hc, hc2, r0, r1⟩ := hi.rd2 (.refl _) (show 1 < [0, 1, 0].length by simp)
  subst hc2
  have e1 : ∀ {h2 : AHeap} {K : Value → AHeap → Prop}, ixsV 1 u (.int .i64 1) h2 K () = mvV (.pointer (some ⟨sb u, so u + 1 * 1, none⟩)) h2 K () := hi.ixs (i := 1) (by omega) (by simp)
  simp (dsimp := false) only [↓ir.law22_awake.r0.w, ↓ir.law22_awake.r1.w, ↓ir.law22_awake.r2.w, ir.law22_awake.rs, go_sem, Nat.reduceAdd, Nat.reduceEqDiff, Nat.reduceMul, Nat.reduceLeDiff, Nat.reduceSub, Nat.reduceLT, ↓reduceIte, reduceCtorEq, List.reduceReplicate, List.flatten_cons, List.flatten_nil, List.append_nil, eq_self, Int.reduceLE, Int.reduceLT, Int.reduceToNat, Nat.min_eq_left, Int.reducePow, Int.reduceNeg, Int.reduceEq, hi.lenV, (show ((3 : Nat) : Int) = 3 from rfl), beq_self_eq_true, e1, Nat.one_mul]
  rw [Nat.mul_one] at r0
  simp (dsimp := false) only [↓ir.law22_awake.r0.w, ↓ir.law22_awake.r1.w, ↓ir.law22_awake.r2.w, ir.law22_awake.rs, go_sem, Nat.reduceAdd, Nat.reduceEqDiff, Nat.reduceMul, Nat.reduceLeDiff, Nat.reduceSub, Nat.reduceLT, ↓reduceIte, reduceCtorEq, List.reduceReplicate, List.flatten_cons, List.flatten_nil, List.append_nil, eq_self, Int.reduceLE, Int.reduceLT, Int.reduceToNat, Nat.min_eq_left, Int.reducePow, Int.reduceNeg, Int.reduceEq, r0, beq_self_eq_true]
  exact ⟨(Pre.app _ _).trans hp3, rfl⟩

/-- Two lists of three numbers each, compared. -/
theorem fibDiffs_spec {h : AHeap} {v w : Value} {a b : List Hop} (hv : Ls h 3 isH v a) (hw : Ls h 3 isH w b) (fa : Fits a) (fb : Fits b) (dest : Int) : SpecX Try.prog nG fn.law22_FibDiffs [v, w, .int .i64 dest] h fun v' _ => v' = .bool true := by
  refine SpecX.of_body (ir.law22_FibDiffs.spec (Nat.le_of_ble_eq_true rfl)) ?_
  simp (dsimp := false) only [↓ir.law22_FibDiffs.bw, ir.law22_FibDiffs.rs, ↓ir.law22_FibDiffs.r0.w, ↓ir.law22_FibDiffs.r1.w, ↓ir.law22_FibDiffs.r2.w, ↓ir.law22_FibDiffs.r3.w, ↓ir.law22_FibDiffs.r4.w, ↓ir.law22_FibDiffs.r5.w, ↓ir.law22_FibDiffs.r6.w, ↓ir.law22_FibDiffs.r7.w, ↓ir.law22_FibDiffs.r8.w, ↓ir.law22_FibDiffs.r9.w, ↓ir.law22_FibDiffs.r10.w, ↓ir.law22_FibDiffs.r11.w, ↓ir.law22_FibDiffs.r12.w, ↓ir.law22_FibDiffs.l1.w, ↓ir.law22_FibDiffs.r13.w, ir.law22_FibDiffs.rs, go_sem, Nat.reduceAdd, Nat.reduceEqDiff, Nat.reduceMul, Nat.reduceLeDiff, Nat.reduceSub, Nat.reduceLT, ↓reduceIte, reduceCtorEq, List.reduceReplicate, List.flatten_cons, List.flatten_nil, List.append_nil, eq_self, Int.reduceLE, Int.reduceLT, Int.reduceToNat, Nat.min_eq_left, Int.reducePow, Int.reduceNeg, Int.reduceEq]
  refine callV_x (table_spec hv) ?_
  rintro _ h1 ⟨hp1, b1, rfl, hb1⟩
  cases b1 with
  | false =>
    simp (dsimp := false) only [↓ir.law22_FibDiffs.r0.w, ↓ir.law22_FibDiffs.r1.w, ↓ir.law22_FibDiffs.r2.w, ↓ir.law22_FibDiffs.r3.w, ↓ir.law22_FibDiffs.r4.w, ↓ir.law22_FibDiffs.r5.w, ↓ir.law22_FibDiffs.r6.w, ↓ir.law22_FibDiffs.r7.w, ↓ir.law22_FibDiffs.r8.w, ↓ir.law22_FibDiffs.r9.w, ↓ir.law22_FibDiffs.r10.w, ↓ir.law22_FibDiffs.r11.w, ↓ir.law22_FibDiffs.r12.w, ↓ir.law22_FibDiffs.l1.w, ↓ir.law22_FibDiffs.r13.w, ir.law22_FibDiffs.rs, go_sem, Nat.reduceAdd, Nat.reduceEqDiff, Nat.reduceMul, Nat.reduceLeDiff, Nat.reduceSub, Nat.reduceLT, ↓reduceIte, reduceCtorEq, List.reduceReplicate, List.flatten_cons, List.flatten_nil, List.append_nil, eq_self, Int.reduceLE, Int.reduceLT, Int.reduceToNat, Nat.min_eq_left, Int.reducePow, Int.reduceNeg, Int.reduceEq, Bool.not_false]
    refine callV_x (tohops_spec (hv.pre hp1) fa) ?_
    rintro u1 k1 ⟨kp1, o1⟩
    simp (dsimp := false) only [↓ir.law22_FibDiffs.r0.w, ↓ir.law22_FibDiffs.r1.w, ↓ir.law22_FibDiffs.r2.w, ↓ir.law22_FibDiffs.r3.w, ↓ir.law22_FibDiffs.r4.w, ↓ir.law22_FibDiffs.r5.w, ↓ir.law22_FibDiffs.r6.w, ↓ir.law22_FibDiffs.r7.w, ↓ir.law22_FibDiffs.r8.w, ↓ir.law22_FibDiffs.r9.w, ↓ir.law22_FibDiffs.r10.w, ↓ir.law22_FibDiffs.r11.w, ↓ir.law22_FibDiffs.r12.w, ↓ir.law22_FibDiffs.l1.w, ↓ir.law22_FibDiffs.r13.w, ir.law22_FibDiffs.rs, go_sem, Nat.reduceAdd, Nat.reduceEqDiff, Nat.reduceMul, Nat.reduceLeDiff, Nat.reduceSub, Nat.reduceLT, ↓reduceIte, reduceCtorEq, List.reduceReplicate, List.flatten_cons, List.flatten_nil, List.append_nil, eq_self, Int.reduceLE, Int.reduceLT, Int.reduceToNat, Nat.min_eq_left, Int.reducePow, Int.reduceNeg, Int.reduceEq]
    refine callV_x (tohops_spec (hw.pre (hp1.trans kp1)) fb) ?_
    rintro u2 k2 ⟨kp2, o2⟩
    simp (dsimp := false) only [↓ir.law22_FibDiffs.r0.w, ↓ir.law22_FibDiffs.r1.w, ↓ir.law22_FibDiffs.r2.w, ↓ir.law22_FibDiffs.r3.w, ↓ir.law22_FibDiffs.r4.w, ↓ir.law22_FibDiffs.r5.w, ↓ir.law22_FibDiffs.r6.w, ↓ir.law22_FibDiffs.r7.w, ↓ir.law22_FibDiffs.r8.w, ↓ir.law22_FibDiffs.r9.w, ↓ir.law22_FibDiffs.r10.w, ↓ir.law22_FibDiffs.r11.w, ↓ir.law22_FibDiffs.r12.w, ↓ir.law22_FibDiffs.l1.w, ↓ir.law22_FibDiffs.r13.w, ir.law22_FibDiffs.rs, go_sem, Nat.reduceAdd, Nat.reduceEqDiff, Nat.reduceMul, Nat.reduceLeDiff, Nat.reduceSub, Nat.reduceLT, ↓reduceIte, reduceCtorEq, List.reduceReplicate, List.flatten_cons, List.flatten_nil, List.append_nil, eq_self, Int.reduceLE, Int.reduceLT, Int.reduceToNat, Nat.min_eq_left, Int.reducePow, Int.reduceNeg, Int.reduceEq]
    refine callV_x (diff_spec (o1.hops.pre kp2) o2.hops) ?_
    rintro u3 k3 ⟨kp3, _⟩
    simp (dsimp := false) only [↓ir.law22_FibDiffs.r0.w, ↓ir.law22_FibDiffs.r1.w, ↓ir.law22_FibDiffs.r2.w, ↓ir.law22_FibDiffs.r3.w, ↓ir.law22_FibDiffs.r4.w, ↓ir.law22_FibDiffs.r5.w, ↓ir.law22_FibDiffs.r6.w, ↓ir.law22_FibDiffs.r7.w, ↓ir.law22_FibDiffs.r8.w, ↓ir.law22_FibDiffs.r9.w, ↓ir.law22_FibDiffs.r10.w, ↓ir.law22_FibDiffs.r11.w, ↓ir.law22_FibDiffs.r12.w, ↓ir.law22_FibDiffs.l1.w, ↓ir.law22_FibDiffs.r13.w, ir.law22_FibDiffs.rs, go_sem, Nat.reduceAdd, Nat.reduceEqDiff, Nat.reduceMul, Nat.reduceLeDiff, Nat.reduceSub, Nat.reduceLT, ↓reduceIte, reduceCtorEq, List.reduceReplicate, List.flatten_cons, List.flatten_nil, List.append_nil, eq_self, Int.reduceLE, Int.reduceLT, Int.reduceToNat, Nat.min_eq_left, Int.reducePow, Int.reduceNeg, Int.reduceEq]
    refine callV_x awake22_spec ?_
    rintro _ k4 ⟨kp4, rfl⟩
    simp (dsimp := false) only [↓ir.law22_FibDiffs.r0.w, ↓ir.law22_FibDiffs.r1.w, ↓ir.law22_FibDiffs.r2.w, ↓ir.law22_FibDiffs.r3.w, ↓ir.law22_FibDiffs.r4.w, ↓ir.law22_FibDiffs.r5.w, ↓ir.law22_FibDiffs.r6.w, ↓ir.law22_FibDiffs.r7.w, ↓ir.law22_FibDiffs.r8.w, ↓ir.law22_FibDiffs.r9.w, ↓ir.law22_FibDiffs.r10.w, ↓ir.law22_FibDiffs.r11.w, ↓ir.law22_FibDiffs.r12.w, ↓ir.law22_FibDiffs.l1.w, ↓ir.law22_FibDiffs.r13.w, ir.law22_FibDiffs.rs, go_sem, Nat.reduceAdd, Nat.reduceEqDiff, Nat.reduceMul, Nat.reduceLeDiff, Nat.reduceSub, Nat.reduceLT, ↓reduceIte, reduceCtorEq, List.reduceReplicate, List.flatten_cons, List.flatten_nil, List.append_nil, eq_self, Int.reduceLE, Int.reduceLT, Int.reduceToNat, Nat.min_eq_left, Int.reducePow, Int.reduceNeg, Int.reduceEq]
  | true =>
    simp (dsimp := false) only [↓ir.law22_FibDiffs.r0.w, ↓ir.law22_FibDiffs.r1.w, ↓ir.law22_FibDiffs.r2.w, ↓ir.law22_FibDiffs.r3.w, ↓ir.law22_FibDiffs.r4.w, ↓ir.law22_FibDiffs.r5.w, ↓ir.law22_FibDiffs.r6.w, ↓ir.law22_FibDiffs.r7.w, ↓ir.law22_FibDiffs.r8.w, ↓ir.law22_FibDiffs.r9.w, ↓ir.law22_FibDiffs.r10.w, ↓ir.law22_FibDiffs.r11.w, ↓ir.law22_FibDiffs.r12.w, ↓ir.law22_FibDiffs.l1.w, ↓ir.law22_FibDiffs.r13.w, ir.law22_FibDiffs.rs, go_sem, Nat.reduceAdd, Nat.reduceEqDiff, Nat.reduceMul, Nat.reduceLeDiff, Nat.reduceSub, Nat.reduceLT, ↓reduceIte, reduceCtorEq, List.reduceReplicate, List.flatten_cons, List.flatten_nil, List.append_nil, eq_self, Int.reduceLE, Int.reduceLT, Int.reduceToNat, Nat.min_eq_left, Int.reducePow, Int.reduceNeg, Int.reduceEq, Bool.not_true]
    refine callV_x (table_spec (hw.pre hp1)) ?_
    rintro _ h2 ⟨hp2, b2, rfl, hb2⟩
    cases b2 with
    | false =>
      simp (dsimp := false) only [↓ir.law22_FibDiffs.r0.w, ↓ir.law22_FibDiffs.r1.w, ↓ir.law22_FibDiffs.r2.w, ↓ir.law22_FibDiffs.r3.w, ↓ir.law22_FibDiffs.r4.w, ↓ir.law22_FibDiffs.r5.w, ↓ir.law22_FibDiffs.r6.w, ↓ir.law22_FibDiffs.r7.w, ↓ir.law22_FibDiffs.r8.w, ↓ir.law22_FibDiffs.r9.w, ↓ir.law22_FibDiffs.r10.w, ↓ir.law22_FibDiffs.r11.w, ↓ir.law22_FibDiffs.r12.w, ↓ir.law22_FibDiffs.l1.w, ↓ir.law22_FibDiffs.r13.w, ir.law22_FibDiffs.rs, go_sem, Nat.reduceAdd, Nat.reduceEqDiff, Nat.reduceMul, Nat.reduceLeDiff, Nat.reduceSub, Nat.reduceLT, ↓reduceIte, reduceCtorEq, List.reduceReplicate, List.flatten_cons, List.flatten_nil, List.append_nil, eq_self, Int.reduceLE, Int.reduceLT, Int.reduceToNat, Nat.min_eq_left, Int.reducePow, Int.reduceNeg, Int.reduceEq, Bool.not_false]
      refine callV_x (tohops_spec (hv.pre (hp1.trans hp2)) fa) ?_
      rintro u1 k1 ⟨kp1, o1⟩
      simp (dsimp := false) only [↓ir.law22_FibDiffs.r0.w, ↓ir.law22_FibDiffs.r1.w, ↓ir.law22_FibDiffs.r2.w, ↓ir.law22_FibDiffs.r3.w, ↓ir.law22_FibDiffs.r4.w, ↓ir.law22_FibDiffs.r5.w, ↓ir.law22_FibDiffs.r6.w, ↓ir.law22_FibDiffs.r7.w, ↓ir.law22_FibDiffs.r8.w, ↓ir.law22_FibDiffs.r9.w, ↓ir.law22_FibDiffs.r10.w, ↓ir.law22_FibDiffs.r11.w, ↓ir.law22_FibDiffs.r12.w, ↓ir.law22_FibDiffs.l1.w, ↓ir.law22_FibDiffs.r13.w, ir.law22_FibDiffs.rs, go_sem, Nat.reduceAdd, Nat.reduceEqDiff, Nat.reduceMul, Nat.reduceLeDiff, Nat.reduceSub, Nat.reduceLT, ↓reduceIte, reduceCtorEq, List.reduceReplicate, List.flatten_cons, List.flatten_nil, List.append_nil, eq_self, Int.reduceLE, Int.reduceLT, Int.reduceToNat, Nat.min_eq_left, Int.reducePow, Int.reduceNeg, Int.reduceEq]
      refine callV_x (tohops_spec (hw.pre ((hp1.trans hp2).trans kp1)) fb) ?_
      rintro u2 k2 ⟨kp2, o2⟩
      simp (dsimp := false) only [↓ir.law22_FibDiffs.r0.w, ↓ir.law22_FibDiffs.r1.w, ↓ir.law22_FibDiffs.r2.w, ↓ir.law22_FibDiffs.r3.w, ↓ir.law22_FibDiffs.r4.w, ↓ir.law22_FibDiffs.r5.w, ↓ir.law22_FibDiffs.r6.w, ↓ir.law22_FibDiffs.r7.w, ↓ir.law22_FibDiffs.r8.w, ↓ir.law22_FibDiffs.r9.w, ↓ir.law22_FibDiffs.r10.w, ↓ir.law22_FibDiffs.r11.w, ↓ir.law22_FibDiffs.r12.w, ↓ir.law22_FibDiffs.l1.w, ↓ir.law22_FibDiffs.r13.w, ir.law22_FibDiffs.rs, go_sem, Nat.reduceAdd, Nat.reduceEqDiff, Nat.reduceMul, Nat.reduceLeDiff, Nat.reduceSub, Nat.reduceLT, ↓reduceIte, reduceCtorEq, List.reduceReplicate, List.flatten_cons, List.flatten_nil, List.append_nil, eq_self, Int.reduceLE, Int.reduceLT, Int.reduceToNat, Nat.min_eq_left, Int.reducePow, Int.reduceNeg, Int.reduceEq]
      refine callV_x (diff_spec (o1.hops.pre kp2) o2.hops) ?_
      rintro u3 k3 ⟨kp3, _⟩
      simp (dsimp := false) only [↓ir.law22_FibDiffs.r0.w, ↓ir.law22_FibDiffs.r1.w, ↓ir.law22_FibDiffs.r2.w, ↓ir.law22_FibDiffs.r3.w, ↓ir.law22_FibDiffs.r4.w, ↓ir.law22_FibDiffs.r5.w, ↓ir.law22_FibDiffs.r6.w, ↓ir.law22_FibDiffs.r7.w, ↓ir.law22_FibDiffs.r8.w, ↓ir.law22_FibDiffs.r9.w, ↓ir.law22_FibDiffs.r10.w, ↓ir.law22_FibDiffs.r11.w, ↓ir.law22_FibDiffs.r12.w, ↓ir.law22_FibDiffs.l1.w, ↓ir.law22_FibDiffs.r13.w, ir.law22_FibDiffs.rs, go_sem, Nat.reduceAdd, Nat.reduceEqDiff, Nat.reduceMul, Nat.reduceLeDiff, Nat.reduceSub, Nat.reduceLT, ↓reduceIte, reduceCtorEq, List.reduceReplicate, List.flatten_cons, List.flatten_nil, List.append_nil, eq_self, Int.reduceLE, Int.reduceLT, Int.reduceToNat, Nat.min_eq_left, Int.reducePow, Int.reduceNeg, Int.reduceEq]
      refine callV_x awake22_spec ?_
      rintro _ k4 ⟨kp4, rfl⟩
      simp (dsimp := false) only [↓ir.law22_FibDiffs.r0.w, ↓ir.law22_FibDiffs.r1.w, ↓ir.law22_FibDiffs.r2.w, ↓ir.law22_FibDiffs.r3.w, ↓ir.law22_FibDiffs.r4.w, ↓ir.law22_FibDiffs.r5.w, ↓ir.law22_FibDiffs.r6.w, ↓ir.law22_FibDiffs.r7.w, ↓ir.law22_FibDiffs.r8.w, ↓ir.law22_FibDiffs.r9.w, ↓ir.law22_FibDiffs.r10.w, ↓ir.law22_FibDiffs.r11.w, ↓ir.law22_FibDiffs.r12.w, ↓ir.law22_FibDiffs.l1.w, ↓ir.law22_FibDiffs.r13.w, ir.law22_FibDiffs.rs, go_sem, Nat.reduceAdd, Nat.reduceEqDiff, Nat.reduceMul, Nat.reduceLeDiff, Nat.reduceSub, Nat.reduceLT, ↓reduceIte, reduceCtorEq, List.reduceReplicate, List.flatten_cons, List.flatten_nil, List.append_nil, eq_self, Int.reduceLE, Int.reduceLT, Int.reduceToNat, Nat.min_eq_left, Int.reducePow, Int.reduceNeg, Int.reduceEq]
    | true =>
      have ra := (hb1.1 rfl).rises
      have rb := (hb2.1 rfl).rises
      have hp12 := hp1.trans hp2
      simp (dsimp := false) only [↓ir.law22_FibDiffs.r0.w, ↓ir.law22_FibDiffs.r1.w, ↓ir.law22_FibDiffs.r2.w, ↓ir.law22_FibDiffs.r3.w, ↓ir.law22_FibDiffs.r4.w, ↓ir.law22_FibDiffs.r5.w, ↓ir.law22_FibDiffs.r6.w, ↓ir.law22_FibDiffs.r7.w, ↓ir.law22_FibDiffs.r8.w, ↓ir.law22_FibDiffs.r9.w, ↓ir.law22_FibDiffs.r10.w, ↓ir.law22_FibDiffs.r11.w, ↓ir.law22_FibDiffs.r12.w, ↓ir.law22_FibDiffs.l1.w, ↓ir.law22_FibDiffs.r13.w, ir.law22_FibDiffs.rs, go_sem, Nat.reduceAdd, Nat.reduceEqDiff, Nat.reduceMul, Nat.reduceLeDiff, Nat.reduceSub, Nat.reduceLT, ↓reduceIte, reduceCtorEq, List.reduceReplicate, List.flatten_cons, List.flatten_nil, List.append_nil, eq_self, Int.reduceLE, Int.reduceLT, Int.reduceToNat, Nat.min_eq_left, Int.reducePow, Int.reduceNeg, Int.reduceEq, Bool.not_true]
      refine callV_x (tohops_spec (hv.pre hp12) fa) ?_
      rintro u1 h3 ⟨hp3, o1⟩
      simp (dsimp := false) only [↓ir.law22_FibDiffs.r0.w, ↓ir.law22_FibDiffs.r1.w, ↓ir.law22_FibDiffs.r2.w, ↓ir.law22_FibDiffs.r3.w, ↓ir.law22_FibDiffs.r4.w, ↓ir.law22_FibDiffs.r5.w, ↓ir.law22_FibDiffs.r6.w, ↓ir.law22_FibDiffs.r7.w, ↓ir.law22_FibDiffs.r8.w, ↓ir.law22_FibDiffs.r9.w, ↓ir.law22_FibDiffs.r10.w, ↓ir.law22_FibDiffs.r11.w, ↓ir.law22_FibDiffs.r12.w, ↓ir.law22_FibDiffs.l1.w, ↓ir.law22_FibDiffs.r13.w, ir.law22_FibDiffs.rs, go_sem, Nat.reduceAdd, Nat.reduceEqDiff, Nat.reduceMul, Nat.reduceLeDiff, Nat.reduceSub, Nat.reduceLT, ↓reduceIte, reduceCtorEq, List.reduceReplicate, List.flatten_cons, List.flatten_nil, List.append_nil, eq_self, Int.reduceLE, Int.reduceLT, Int.reduceToNat, Nat.min_eq_left, Int.reducePow, Int.reduceNeg, Int.reduceEq]
      refine callV_x (tohops_spec (hw.pre (hp12.trans hp3)) fb) ?_
      rintro u2 h4 ⟨hp4, o2⟩
      simp (dsimp := false) only [↓ir.law22_FibDiffs.r0.w, ↓ir.law22_FibDiffs.r1.w, ↓ir.law22_FibDiffs.r2.w, ↓ir.law22_FibDiffs.r3.w, ↓ir.law22_FibDiffs.r4.w, ↓ir.law22_FibDiffs.r5.w, ↓ir.law22_FibDiffs.r6.w, ↓ir.law22_FibDiffs.r7.w, ↓ir.law22_FibDiffs.r8.w, ↓ir.law22_FibDiffs.r9.w, ↓ir.law22_FibDiffs.r10.w, ↓ir.law22_FibDiffs.r11.w, ↓ir.law22_FibDiffs.r12.w, ↓ir.law22_FibDiffs.l1.w, ↓ir.law22_FibDiffs.r13.w, ir.law22_FibDiffs.rs, go_sem, Nat.reduceAdd, Nat.reduceEqDiff, Nat.reduceMul, Nat.reduceLeDiff, Nat.reduceSub, Nat.reduceLT, ↓reduceIte, reduceCtorEq, List.reduceReplicate, List.flatten_cons, List.flatten_nil, List.append_nil, eq_self, Int.reduceLE, Int.reduceLT, Int.reduceToNat, Nat.min_eq_left, Int.reducePow, Int.reduceNeg, Int.reduceEq]
      refine callV_x (diff_spec (o1.hops.pre hp4) o2.hops) ?_
      rintro u3 h5 ⟨hp5, l, o3, l8, hl⟩
      obtain rfl := hl ra rb
      simp (dsimp := false) only [↓ir.law22_FibDiffs.r0.w, ↓ir.law22_FibDiffs.r1.w, ↓ir.law22_FibDiffs.r2.w, ↓ir.law22_FibDiffs.r3.w, ↓ir.law22_FibDiffs.r4.w, ↓ir.law22_FibDiffs.r5.w, ↓ir.law22_FibDiffs.r6.w, ↓ir.law22_FibDiffs.r7.w, ↓ir.law22_FibDiffs.r8.w, ↓ir.law22_FibDiffs.r9.w, ↓ir.law22_FibDiffs.r10.w, ↓ir.law22_FibDiffs.r11.w, ↓ir.law22_FibDiffs.r12.w, ↓ir.law22_FibDiffs.l1.w, ↓ir.law22_FibDiffs.r13.w, ir.law22_FibDiffs.rs, go_sem, Nat.reduceAdd, Nat.reduceEqDiff, Nat.reduceMul, Nat.reduceLeDiff, Nat.reduceSub, Nat.reduceLT, ↓reduceIte, reduceCtorEq, List.reduceReplicate, List.flatten_cons, List.flatten_nil, List.append_nil, eq_self, Int.reduceLE, Int.reduceLT, Int.reduceToNat, Nat.min_eq_left, Int.reducePow, Int.reduceNeg, Int.reduceEq]
      have hp15 := ((hp12.trans hp3).trans hp4).trans hp5
      refine callV_x (rdiff_spec (hv.pre hp15) (hw.pre hp15)) ?_
      rintro u4 h6 ⟨hp6, o4, _⟩
      have L1 := o3.hops.pre hp6
      have L2 := o4.hops
      have hp16 := hp15.trans hp6
      simp (dsimp := false) only [↓ir.law22_FibDiffs.r0.w, ↓ir.law22_FibDiffs.r1.w, ↓ir.law22_FibDiffs.r2.w, ↓ir.law22_FibDiffs.r3.w, ↓ir.law22_FibDiffs.r4.w, ↓ir.law22_FibDiffs.r5.w, ↓ir.law22_FibDiffs.r6.w, ↓ir.law22_FibDiffs.r7.w, ↓ir.law22_FibDiffs.r8.w, ↓ir.law22_FibDiffs.r9.w, ↓ir.law22_FibDiffs.r10.w, ↓ir.law22_FibDiffs.r11.w, ↓ir.law22_FibDiffs.r12.w, ↓ir.law22_FibDiffs.l1.w, ↓ir.law22_FibDiffs.r13.w, ir.law22_FibDiffs.rs, go_sem, Nat.reduceAdd, Nat.reduceEqDiff, Nat.reduceMul, Nat.reduceLeDiff, Nat.reduceSub, Nat.reduceLT, ↓reduceIte, reduceCtorEq, List.reduceReplicate, List.flatten_cons, List.flatten_nil, List.append_nil, eq_self, Int.reduceLE, Int.reduceLT, Int.reduceToNat, Nat.min_eq_left, Int.reducePow, Int.reduceNeg, Int.reduceEq, L1.lenV, L2.lenV, bne_self_eq_false]
      refine callV_x (tohops_spec (hv.pre hp16) fa) ?_
      rintro u5 h7 ⟨hp7, o5⟩
      simp (dsimp := false) only [↓ir.law22_FibDiffs.r0.w, ↓ir.law22_FibDiffs.r1.w, ↓ir.law22_FibDiffs.r2.w, ↓ir.law22_FibDiffs.r3.w, ↓ir.law22_FibDiffs.r4.w, ↓ir.law22_FibDiffs.r5.w, ↓ir.law22_FibDiffs.r6.w, ↓ir.law22_FibDiffs.r7.w, ↓ir.law22_FibDiffs.r8.w, ↓ir.law22_FibDiffs.r9.w, ↓ir.law22_FibDiffs.r10.w, ↓ir.law22_FibDiffs.r11.w, ↓ir.law22_FibDiffs.r12.w, ↓ir.law22_FibDiffs.l1.w, ↓ir.law22_FibDiffs.r13.w, ir.law22_FibDiffs.rs, go_sem, Nat.reduceAdd, Nat.reduceEqDiff, Nat.reduceMul, Nat.reduceLeDiff, Nat.reduceSub, Nat.reduceLT, ↓reduceIte, reduceCtorEq, List.reduceReplicate, List.flatten_cons, List.flatten_nil, List.append_nil, eq_self, Int.reduceLE, Int.reduceLT, Int.reduceToNat, Nat.min_eq_left, Int.reducePow, Int.reduceNeg, Int.reduceEq]
      refine callV_x (lookup_spec o5.hops dest) ?_
      rintro _ h8 ⟨hp8, r, rfl, hr⟩
      obtain rfl := hr ra
      simp (dsimp := false) only [↓ir.law22_FibDiffs.r0.w, ↓ir.law22_FibDiffs.r1.w, ↓ir.law22_FibDiffs.r2.w, ↓ir.law22_FibDiffs.r3.w, ↓ir.law22_FibDiffs.r4.w, ↓ir.law22_FibDiffs.r5.w, ↓ir.law22_FibDiffs.r6.w, ↓ir.law22_FibDiffs.r7.w, ↓ir.law22_FibDiffs.r8.w, ↓ir.law22_FibDiffs.r9.w, ↓ir.law22_FibDiffs.r10.w, ↓ir.law22_FibDiffs.r11.w, ↓ir.law22_FibDiffs.r12.w, ↓ir.law22_FibDiffs.l1.w, ↓ir.law22_FibDiffs.r13.w, ir.law22_FibDiffs.rs, go_sem, Nat.reduceAdd, Nat.reduceEqDiff, Nat.reduceMul, Nat.reduceLeDiff, Nat.reduceSub, Nat.reduceLT, ↓reduceIte, reduceCtorEq, List.reduceReplicate, List.flatten_cons, List.flatten_nil, List.append_nil, eq_self, Int.reduceLE, Int.reduceLT, Int.reduceToNat, Nat.min_eq_left, Int.reducePow, Int.reduceNeg, Int.reduceEq]
      refine callV_x (rlookup_spec (hv.pre ((hp16.trans hp7).trans hp8)) dest) ?_
      rintro _ h9 ⟨hp9, rfl⟩
      have hp19 := ((hp16.trans hp7).trans hp8).trans hp9
      replace L1 := L1.pre ((hp7.trans hp8).trans hp9)
      replace L2 := L2.pre ((hp7.trans hp8).trans hp9)
      simp (dsimp := false) only [↓ir.law22_FibDiffs.r0.w, ↓ir.law22_FibDiffs.r1.w, ↓ir.law22_FibDiffs.r2.w, ↓ir.law22_FibDiffs.r3.w, ↓ir.law22_FibDiffs.r4.w, ↓ir.law22_FibDiffs.r5.w, ↓ir.law22_FibDiffs.r6.w, ↓ir.law22_FibDiffs.r7.w, ↓ir.law22_FibDiffs.r8.w, ↓ir.law22_FibDiffs.r9.w, ↓ir.law22_FibDiffs.r10.w, ↓ir.law22_FibDiffs.r11.w, ↓ir.law22_FibDiffs.r12.w, ↓ir.law22_FibDiffs.l1.w, ↓ir.law22_FibDiffs.r13.w, ir.law22_FibDiffs.rs, go_sem, Nat.reduceAdd, Nat.reduceEqDiff, Nat.reduceMul, Nat.reduceLeDiff, Nat.reduceSub, Nat.reduceLT, ↓reduceIte, reduceCtorEq, List.reduceReplicate, List.flatten_cons, List.flatten_nil, List.append_nil, eq_self, Int.reduceLE, Int.reduceLT, Int.reduceToNat, Nat.min_eq_left, Int.reducePow, Int.reduceNeg, Int.reduceEq, L1.lenV, bne_self_eq_false]
      refine loopV_of (fun m e h2 => ∃ (i : Nat), m = (diffTo a b 8).length - i ∧ i ≤ (diffTo a b 8).length ∧ h2 = h9 ∧ e = [(0, v), (7, u3), (8, u4), (48, .int .i64 (diffTo a b 8).length), (49, .int .i64 i)]) _ ⟨0, rfl, Nat.zero_le _, rfl, rfl⟩ ?_
      rintro m e h' ⟨i, rfl, hi, rfl, rfl⟩
      rcases Nat.lt_or_ge i (diffTo a b 8).length with hlt | hge
      · obtain ⟨r0, r1, r2, r3⟩ := L1.hop (.refl _) hlt
        obtain ⟨s0, s1, s2, s3⟩ := L2.hop (.refl _) hlt
        simp (dsimp := false) only [↓ir.law22_FibDiffs.l1.bw, ↓ir.law22_FibDiffs.r0.w, ↓ir.law22_FibDiffs.r1.w, ↓ir.law22_FibDiffs.r2.w, ↓ir.law22_FibDiffs.r3.w, ↓ir.law22_FibDiffs.r4.w, ↓ir.law22_FibDiffs.r5.w, ↓ir.law22_FibDiffs.r6.w, ↓ir.law22_FibDiffs.r7.w, ↓ir.law22_FibDiffs.r8.w, ↓ir.law22_FibDiffs.r9.w, ↓ir.law22_FibDiffs.r10.w, ↓ir.law22_FibDiffs.r11.w, ↓ir.law22_FibDiffs.r12.w, ↓ir.law22_FibDiffs.l1.w, ↓ir.law22_FibDiffs.r13.w, ir.law22_FibDiffs.rs, go_sem, Nat.reduceAdd, Nat.reduceEqDiff, Nat.reduceMul, Nat.reduceLeDiff, Nat.reduceSub, Nat.reduceLT, ↓reduceIte, reduceCtorEq, List.reduceReplicate, List.flatten_cons, List.flatten_nil, List.append_nil, eq_self, Int.reduceLE, Int.reduceLT, Int.reduceToNat, Nat.min_eq_left, Int.reducePow, Int.reduceNeg, Int.reduceEq, L1.ixsN hlt, L2.ixsN hlt, r1, r2, r3, s1, s2, s3, Int.ofNat_lt, hlt, decide_true, bne_self_eq_false, wrap_succ hlt L1.le]
        exact ⟨(diffTo a b 8).length - (i + 1), by omega, i + 1, rfl, hlt, rfl⟩
      · simp (dsimp := false) only [↓ir.law22_FibDiffs.l1.bw, ↓ir.law22_FibDiffs.r0.w, ↓ir.law22_FibDiffs.r1.w, ↓ir.law22_FibDiffs.r2.w, ↓ir.law22_FibDiffs.r3.w, ↓ir.law22_FibDiffs.r4.w, ↓ir.law22_FibDiffs.r5.w, ↓ir.law22_FibDiffs.r6.w, ↓ir.law22_FibDiffs.r7.w, ↓ir.law22_FibDiffs.r8.w, ↓ir.law22_FibDiffs.r9.w, ↓ir.law22_FibDiffs.r10.w, ↓ir.law22_FibDiffs.r11.w, ↓ir.law22_FibDiffs.r12.w, ↓ir.law22_FibDiffs.l1.w, ↓ir.law22_FibDiffs.r13.w, ir.law22_FibDiffs.rs, go_sem, Nat.reduceAdd, Nat.reduceEqDiff, Nat.reduceMul, Nat.reduceLeDiff, Nat.reduceSub, Nat.reduceLT, ↓reduceIte, reduceCtorEq, List.reduceReplicate, List.flatten_cons, List.flatten_nil, List.append_nil, eq_self, Int.reduceLE, Int.reduceLT, Int.reduceToNat, Nat.min_eq_left, Int.reducePow, Int.reduceNeg, Int.reduceEq, Int.ofNat_lt, show ¬ i < (diffTo a b 8).length by omega, decide_false]
        refine callV_x awake22_spec ?_
        rintro _ h10 ⟨hp10, rfl⟩
        simp (dsimp := false) only [↓ir.law22_FibDiffs.r0.w, ↓ir.law22_FibDiffs.r1.w, ↓ir.law22_FibDiffs.r2.w, ↓ir.law22_FibDiffs.r3.w, ↓ir.law22_FibDiffs.r4.w, ↓ir.law22_FibDiffs.r5.w, ↓ir.law22_FibDiffs.r6.w, ↓ir.law22_FibDiffs.r7.w, ↓ir.law22_FibDiffs.r8.w, ↓ir.law22_FibDiffs.r9.w, ↓ir.law22_FibDiffs.r10.w, ↓ir.law22_FibDiffs.r11.w, ↓ir.law22_FibDiffs.r12.w, ↓ir.law22_FibDiffs.l1.w, ↓ir.law22_FibDiffs.r13.w, ir.law22_FibDiffs.rs, go_sem, Nat.reduceAdd, Nat.reduceEqDiff, Nat.reduceMul, Nat.reduceLeDiff, Nat.reduceSub, Nat.reduceLT, ↓reduceIte, reduceCtorEq, List.reduceReplicate, List.flatten_cons, List.flatten_nil, List.append_nil, eq_self, Int.reduceLE, Int.reduceLT, Int.reduceToNat, Nat.min_eq_left, Int.reducePow, Int.reduceNeg, Int.reduceEq]
        refine callV_x (tohops_spec (hv.pre (hp19.trans hp10)) fa) ?_
        rintro u6 h11 ⟨hp11, o6⟩
        simp (dsimp := false) only [↓ir.law22_FibDiffs.r0.w, ↓ir.law22_FibDiffs.r1.w, ↓ir.law22_FibDiffs.r2.w, ↓ir.law22_FibDiffs.r3.w, ↓ir.law22_FibDiffs.r4.w, ↓ir.law22_FibDiffs.r5.w, ↓ir.law22_FibDiffs.r6.w, ↓ir.law22_FibDiffs.r7.w, ↓ir.law22_FibDiffs.r8.w, ↓ir.law22_FibDiffs.r9.w, ↓ir.law22_FibDiffs.r10.w, ↓ir.law22_FibDiffs.r11.w, ↓ir.law22_FibDiffs.r12.w, ↓ir.law22_FibDiffs.l1.w, ↓ir.law22_FibDiffs.r13.w, ir.law22_FibDiffs.rs, go_sem, Nat.reduceAdd, Nat.reduceEqDiff, Nat.reduceMul, Nat.reduceLeDiff, Nat.reduceSub, Nat.reduceLT, ↓reduceIte, reduceCtorEq, List.reduceReplicate, List.flatten_cons, List.flatten_nil, List.append_nil, eq_self, Int.reduceLE, Int.reduceLT, Int.reduceToNat, Nat.min_eq_left, Int.reducePow, Int.reduceNeg, Int.reduceEq]
        refine callV_x (tohops_spec (hv.pre ((hp19.trans hp10).trans hp11)) fa) ?_
        rintro u7 h12 ⟨hp12, o7⟩
        simp (dsimp := false) only [↓ir.law22_FibDiffs.r0.w, ↓ir.law22_FibDiffs.r1.w, ↓ir.law22_FibDiffs.r2.w, ↓ir.law22_FibDiffs.r3.w, ↓ir.law22_FibDiffs.r4.w, ↓ir.law22_FibDiffs.r5.w, ↓ir.law22_FibDiffs.r6.w, ↓ir.law22_FibDiffs.r7.w, ↓ir.law22_FibDiffs.r8.w, ↓ir.law22_FibDiffs.r9.w, ↓ir.law22_FibDiffs.r10.w, ↓ir.law22_FibDiffs.r11.w, ↓ir.law22_FibDiffs.r12.w, ↓ir.law22_FibDiffs.l1.w, ↓ir.law22_FibDiffs.r13.w, ir.law22_FibDiffs.rs, go_sem, Nat.reduceAdd, Nat.reduceEqDiff, Nat.reduceMul, Nat.reduceLeDiff, Nat.reduceSub, Nat.reduceLT, ↓reduceIte, reduceCtorEq, List.reduceReplicate, List.flatten_cons, List.flatten_nil, List.append_nil, eq_self, Int.reduceLE, Int.reduceLT, Int.reduceToNat, Nat.min_eq_left, Int.reducePow, Int.reduceNeg, Int.reduceEq]
        refine callV_x (diff_spec (o6.hops.pre hp12) o7.hops) ?_
        rintro u8 h13 ⟨hp13, l, o8, _, hl⟩
        obtain rfl := hl ra ra
        have hz : diffTo a a 8 = [] := by
          unfold diffTo
          simp
        have L8 := o8.hops
        rw [hz] at L8
        simp (dsimp := false) only [↓ir.law22_FibDiffs.r0.w, ↓ir.law22_FibDiffs.r1.w, ↓ir.law22_FibDiffs.r2.w, ↓ir.law22_FibDiffs.r3.w, ↓ir.law22_FibDiffs.r4.w, ↓ir.law22_FibDiffs.r5.w, ↓ir.law22_FibDiffs.r6.w, ↓ir.law22_FibDiffs.r7.w, ↓ir.law22_FibDiffs.r8.w, ↓ir.law22_FibDiffs.r9.w, ↓ir.law22_FibDiffs.r10.w, ↓ir.law22_FibDiffs.r11.w, ↓ir.law22_FibDiffs.r12.w, ↓ir.law22_FibDiffs.l1.w, ↓ir.law22_FibDiffs.r13.w, ir.law22_FibDiffs.rs, go_sem, Nat.reduceAdd, Nat.reduceEqDiff, Nat.reduceMul, Nat.reduceLeDiff, Nat.reduceSub, Nat.reduceLT, ↓reduceIte, reduceCtorEq, List.reduceReplicate, List.flatten_cons, List.flatten_nil, List.append_nil, eq_self, Int.reduceLE, Int.reduceLT, Int.reduceToNat, Nat.min_eq_left, Int.reducePow, Int.reduceNeg, Int.reduceEq, L8.lenV, (show (([] : List Hop).length : Int) = 0 from rfl), beq_self_eq_true]
        rfl
end Go.Proofs.Ytmeojocmngbpaaa.B
