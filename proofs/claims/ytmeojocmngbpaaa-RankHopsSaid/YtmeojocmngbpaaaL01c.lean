/-
  A hop, and the next sequence (layer 1).
-/
import Derived.Test.YtmeojocmngbpaaaL01b
namespace Go.Proofs.Ytmeojocmngbpaaa.B
open Go Go.IntWalk
set_option linter.unusedVariables false
set_option linter.unusedSimpArgs false

theorem rightB_iff {e s m : Int} : rightB e s m = true ↔ e ≤ 65536 ∧ s < 64 ∧ 0 ≤ m ∧ m ≤ 15 := by
  unfold rightB; simp [and_assoc]
theorem wrap_u32 {a : Int} (h : 0 ≤ a ∧ a ≤ 4294967295) : IntKind.u32.wrap a = a := by
  rw [IntKind.wrap_u32]; omega

def hopV (e s m : Int) : Value := if rightB e s m = true then (if m = 15 then .tuple #[keyV 0 0 0, .int .i64 8] else .tuple #[keyV e s (m + 1), .int .i64 0]) else .tuple #[keyV 0 0 0, .int .i64 1]
theorem hopV_is (e s m : Int) : ∃ a b c d, hopV e s m = .tuple #[.agg #[.int .u32 a, .int .u32 b, .int .i64 c], .int .i64 d] := by
  unfold hopV
  repeat' split
  all_goals exact ⟨_, _, _, _, rfl⟩
theorem hop_spec (h : AHeap) (e s m : Int) : SpecX Try.prog nG fn.rank_Hop [keyV e s m] h fun v h' => Pre h h' ∧ v = hopV e s m := by
  refine SpecX.of_body (ir.rank_Hop.spec (Nat.le_of_ble_eq_true rfl)) ?_
  simp (dsimp := false) only [↓ir.rank_Hop.bw, ir.rank_Hop.rs, keyV, ↓ir.rank_Hop.r0.w, ↓ir.rank_Hop.r1.w, ↓ir.rank_Hop.r2.w, ↓ir.rank_Hop.r3.w, ↓ir.rank_Hop.r4.w, ↓ir.rank_Hop.r5.w, ↓ir.rank_Hop.r6.w, ir.rank_Hop.rs, go_sem, Nat.reduceAdd, Nat.reduceEqDiff, Nat.reduceMul, Nat.reduceLeDiff, Nat.reduceSub, Nat.reduceLT, ↓reduceIte, reduceCtorEq, List.reduceReplicate, List.flatten_cons, List.flatten_nil, List.append_nil, eq_self]
  refine callV_of (right_spec _ _ _ _) ?_
  simp (dsimp := false) only [↓ir.rank_Hop.r0.w, ↓ir.rank_Hop.r1.w, ↓ir.rank_Hop.r2.w, ↓ir.rank_Hop.r3.w, ↓ir.rank_Hop.r4.w, ↓ir.rank_Hop.r5.w, ↓ir.rank_Hop.r6.w, ir.rank_Hop.rs, go_sem, Nat.reduceAdd, Nat.reduceEqDiff, Nat.reduceMul, Nat.reduceLeDiff, Nat.reduceSub, Nat.reduceLT, ↓reduceIte, reduceCtorEq, List.reduceReplicate, List.flatten_cons, List.flatten_nil, List.append_nil, eq_self]
  repeat' ((first | refine cVd (fun hc => ?_) (fun hc => ?_) | refine gTd (fun hc => ?_) (fun hc => ?_) | refine gFd (fun hc => ?_) (fun hc => ?_) | refine cVe (fun hc => ?_) (fun hc => ?_) | refine gTe (fun hc => ?_) (fun hc => ?_) | refine gFe (fun hc => ?_) (fun hc => ?_) | refine cVn (fun hc => ?_) (fun hc => ?_) | refine gTn (fun hc => ?_) (fun hc => ?_) | refine gFn (fun hc => ?_) (fun hc => ?_) | refine cV (fun hc => ?_) (fun hc => ?_) | refine gT (fun hc => ?_) (fun hc => ?_) | refine gF (fun hc => ?_) (fun hc => ?_)) <;> try simp (dsimp := false) only [↓ir.rank_Hop.r0.w, ↓ir.rank_Hop.r1.w, ↓ir.rank_Hop.r2.w, ↓ir.rank_Hop.r3.w, ↓ir.rank_Hop.r4.w, ↓ir.rank_Hop.r5.w, ↓ir.rank_Hop.r6.w, ir.rank_Hop.rs, go_sem, Nat.reduceAdd, Nat.reduceEqDiff, Nat.reduceMul, Nat.reduceLeDiff, Nat.reduceSub, Nat.reduceLT, ↓reduceIte, reduceCtorEq, List.reduceReplicate, List.flatten_cons, List.flatten_nil, List.append_nil, eq_self])
  all_goals first
    | (simp_all [hopV]; done)
    | (have hr : rightB e s m = true := by simp_all
       obtain ⟨_, _, _, _⟩ := rightB_iff.1 hr
       unfold hopV; rw [if_pos hr, if_neg (by assumption), wrap_i64 (by omega)])

theorem rhop_spec (h : AHeap) (e s m : Int) : SpecX Try.prog nG fn.fingerpostref01_Hop [keyV e s m] h fun v h' => Pre h h' ∧ v = hopV e s m := by
  refine SpecX.of_body (ir.fingerpostref01_Hop.spec (Nat.le_of_ble_eq_true rfl)) ?_
  simp (dsimp := false) only [↓ir.fingerpostref01_Hop.bw, ir.fingerpostref01_Hop.rs, keyV, ↓ir.fingerpostref01_Hop.r0.w, ↓ir.fingerpostref01_Hop.r1.w, ↓ir.fingerpostref01_Hop.r2.w, ↓ir.fingerpostref01_Hop.r3.w, ↓ir.fingerpostref01_Hop.r4.w, ↓ir.fingerpostref01_Hop.r5.w, ir.fingerpostref01_Hop.rs, go_sem, Nat.reduceAdd, Nat.reduceEqDiff, Nat.reduceMul, Nat.reduceLeDiff, Nat.reduceSub, Nat.reduceLT, ↓reduceIte, reduceCtorEq, List.reduceReplicate, List.flatten_cons, List.flatten_nil, List.append_nil, eq_self]
  refine callV_of (rright_spec _ _ _ _) ?_
  simp (dsimp := false) only [↓ir.fingerpostref01_Hop.r0.w, ↓ir.fingerpostref01_Hop.r1.w, ↓ir.fingerpostref01_Hop.r2.w, ↓ir.fingerpostref01_Hop.r3.w, ↓ir.fingerpostref01_Hop.r4.w, ↓ir.fingerpostref01_Hop.r5.w, ir.fingerpostref01_Hop.rs, go_sem, Nat.reduceAdd, Nat.reduceEqDiff, Nat.reduceMul, Nat.reduceLeDiff, Nat.reduceSub, Nat.reduceLT, ↓reduceIte, reduceCtorEq, List.reduceReplicate, List.flatten_cons, List.flatten_nil, List.append_nil, eq_self]
  repeat' ((first | refine cVd (fun hc => ?_) (fun hc => ?_) | refine gTd (fun hc => ?_) (fun hc => ?_) | refine gFd (fun hc => ?_) (fun hc => ?_) | refine cVe (fun hc => ?_) (fun hc => ?_) | refine gTe (fun hc => ?_) (fun hc => ?_) | refine gFe (fun hc => ?_) (fun hc => ?_) | refine cVn (fun hc => ?_) (fun hc => ?_) | refine gTn (fun hc => ?_) (fun hc => ?_) | refine gFn (fun hc => ?_) (fun hc => ?_) | refine cV (fun hc => ?_) (fun hc => ?_) | refine gT (fun hc => ?_) (fun hc => ?_) | refine gF (fun hc => ?_) (fun hc => ?_)) <;> try simp (dsimp := false) only [↓ir.fingerpostref01_Hop.r0.w, ↓ir.fingerpostref01_Hop.r1.w, ↓ir.fingerpostref01_Hop.r2.w, ↓ir.fingerpostref01_Hop.r3.w, ↓ir.fingerpostref01_Hop.r4.w, ↓ir.fingerpostref01_Hop.r5.w, ir.fingerpostref01_Hop.rs, go_sem, Nat.reduceAdd, Nat.reduceEqDiff, Nat.reduceMul, Nat.reduceLeDiff, Nat.reduceSub, Nat.reduceLT, ↓reduceIte, reduceCtorEq, List.reduceReplicate, List.flatten_cons, List.flatten_nil, List.append_nil, eq_self])
  all_goals first
    | (simp_all [hopV]; done)
    | (have hr : rightB e s m = true := by simp_all
       obtain ⟨_, _, _, _⟩ := rightB_iff.1 hr
       unfold hopV; rw [if_pos hr, if_neg (by assumption), wrap_i64 (by omega)])

def nextK (e s m n : Int) : Value := if rightB e s m = true ∧ 0 ≤ n ∧ n ≤ 6 then (if s + 1 < 2 ^ n.toNat then .tuple #[keyV e (s + 1) 0, .int .i64 0] else if e < 65536 then .tuple #[keyV (e + 1) 0 0, .int .i64 0] else .tuple #[keyV 0 0 0, .int .i64 21]) else .tuple #[keyV 0 0 0, .int .i64 1]
theorem nextK_is (e s m n : Int) : ∃ a b c d, nextK e s m n = .tuple #[.agg #[.int .u32 a, .int .u32 b, .int .i64 c], .int .i64 d] := by
  unfold nextK
  repeat' split
  all_goals exact ⟨_, _, _, _, rfl⟩
theorem shl_small {n : Int} (h0 : 0 ≤ n) (h6 : n ≤ 6) : IntKind.u32.wrap (1 * 2 ^ min n.toNat IntKind.u32.bits) = 2 ^ n.toNat := by
  have : n = 0 ∨ n = 1 ∨ n = 2 ∨ n = 3 ∨ n = 4 ∨ n = 5 ∨ n = 6 := by omega
  rcases this with rfl | rfl | rfl | rfl | rfl | rfl | rfl <;> decide
theorem shl_small' {n : Int} (h0 : 0 ≤ n) (h6 : n ≤ 6) : IntKind.u32.wrap (1 * 2 ^ min n.toNat 32) = 2 ^ n.toNat := shl_small h0 h6
theorem next_spec (h : AHeap) (e s m n : Int) (he : 0 ≤ e) (hs : 0 ≤ s) : SpecX Try.prog nG fn.rank_Next [keyV e s m, .int .i64 n] h fun v h' => Pre h h' ∧ v = nextK e s m n := by
  refine SpecX.of_body (ir.rank_Next.spec (Nat.le_of_ble_eq_true rfl)) ?_
  simp (dsimp := false) only [↓ir.rank_Next.bw, ir.rank_Next.rs, keyV, ↓ir.rank_Next.r0.w, ↓ir.rank_Next.r1.w, ↓ir.rank_Next.r2.w, ↓ir.rank_Next.r3.w, ↓ir.rank_Next.r4.w, ↓ir.rank_Next.r5.w, ↓ir.rank_Next.r6.w, ↓ir.rank_Next.r7.w, ir.rank_Next.rs, go_sem, Nat.reduceAdd, Nat.reduceEqDiff, Nat.reduceMul, Nat.reduceLeDiff, Nat.reduceSub, Nat.reduceLT, ↓reduceIte, reduceCtorEq, List.reduceReplicate, List.flatten_cons, List.flatten_nil, List.append_nil, eq_self]
  refine callV_of (right_spec _ _ _ _) ?_
  simp (dsimp := false) only [↓ir.rank_Next.r0.w, ↓ir.rank_Next.r1.w, ↓ir.rank_Next.r2.w, ↓ir.rank_Next.r3.w, ↓ir.rank_Next.r4.w, ↓ir.rank_Next.r5.w, ↓ir.rank_Next.r6.w, ↓ir.rank_Next.r7.w, ir.rank_Next.rs, go_sem, Nat.reduceAdd, Nat.reduceEqDiff, Nat.reduceMul, Nat.reduceLeDiff, Nat.reduceSub, Nat.reduceLT, ↓reduceIte, reduceCtorEq, List.reduceReplicate, List.flatten_cons, List.flatten_nil, List.append_nil, eq_self]
  cases hr : rightB e s m
  · simp (dsimp := false) only [↓ir.rank_Next.r0.w, ↓ir.rank_Next.r1.w, ↓ir.rank_Next.r2.w, ↓ir.rank_Next.r3.w, ↓ir.rank_Next.r4.w, ↓ir.rank_Next.r5.w, ↓ir.rank_Next.r6.w, ↓ir.rank_Next.r7.w, ir.rank_Next.rs, go_sem, Nat.reduceAdd, Nat.reduceEqDiff, Nat.reduceMul, Nat.reduceLeDiff, Nat.reduceSub, Nat.reduceLT, ↓reduceIte, reduceCtorEq, List.reduceReplicate, List.flatten_cons, List.flatten_nil, List.append_nil, eq_self, Bool.not_false]
    simp [nextK, hr]
  simp (dsimp := false) only [Bool.not_true, ↓ir.rank_Next.r0.w, ↓ir.rank_Next.r1.w, ↓ir.rank_Next.r2.w, ↓ir.rank_Next.r3.w, ↓ir.rank_Next.r4.w, ↓ir.rank_Next.r5.w, ↓ir.rank_Next.r6.w, ↓ir.rank_Next.r7.w, ir.rank_Next.rs, go_sem, Nat.reduceAdd, Nat.reduceEqDiff, Nat.reduceMul, Nat.reduceLeDiff, Nat.reduceSub, Nat.reduceLT, ↓reduceIte, reduceCtorEq, List.reduceReplicate, List.flatten_cons, List.flatten_nil, List.append_nil, eq_self]
  refine gFd (fun hc => ?_) (fun hc => ?_)
  · simp (dsimp := false) only [↓ir.rank_Next.r0.w, ↓ir.rank_Next.r1.w, ↓ir.rank_Next.r2.w, ↓ir.rank_Next.r3.w, ↓ir.rank_Next.r4.w, ↓ir.rank_Next.r5.w, ↓ir.rank_Next.r6.w, ↓ir.rank_Next.r7.w, ir.rank_Next.rs, go_sem, Nat.reduceAdd, Nat.reduceEqDiff, Nat.reduceMul, Nat.reduceLeDiff, Nat.reduceSub, Nat.reduceLT, ↓reduceIte, reduceCtorEq, List.reduceReplicate, List.flatten_cons, List.flatten_nil, List.append_nil, eq_self]
    unfold nextK; rw [if_neg (by omega)]
  simp (dsimp := false) only [↓ir.rank_Next.r0.w, ↓ir.rank_Next.r1.w, ↓ir.rank_Next.r2.w, ↓ir.rank_Next.r3.w, ↓ir.rank_Next.r4.w, ↓ir.rank_Next.r5.w, ↓ir.rank_Next.r6.w, ↓ir.rank_Next.r7.w, ir.rank_Next.rs, go_sem, Nat.reduceAdd, Nat.reduceEqDiff, Nat.reduceMul, Nat.reduceLeDiff, Nat.reduceSub, Nat.reduceLT, ↓reduceIte, reduceCtorEq, List.reduceReplicate, List.flatten_cons, List.flatten_nil, List.append_nil, eq_self]
  refine cVd (fun hc' => ?_) (fun hc' => ?_)
  · simp (dsimp := false) only [↓ir.rank_Next.r0.w, ↓ir.rank_Next.r1.w, ↓ir.rank_Next.r2.w, ↓ir.rank_Next.r3.w, ↓ir.rank_Next.r4.w, ↓ir.rank_Next.r5.w, ↓ir.rank_Next.r6.w, ↓ir.rank_Next.r7.w, ir.rank_Next.rs, go_sem, Nat.reduceAdd, Nat.reduceEqDiff, Nat.reduceMul, Nat.reduceLeDiff, Nat.reduceSub, Nat.reduceLT, ↓reduceIte, reduceCtorEq, List.reduceReplicate, List.flatten_cons, List.flatten_nil, List.append_nil, eq_self]
    unfold nextK; rw [if_neg (by omega)]
  simp (dsimp := false) only [↓ir.rank_Next.r0.w, ↓ir.rank_Next.r1.w, ↓ir.rank_Next.r2.w, ↓ir.rank_Next.r3.w, ↓ir.rank_Next.r4.w, ↓ir.rank_Next.r5.w, ↓ir.rank_Next.r6.w, ↓ir.rank_Next.r7.w, ir.rank_Next.rs, go_sem, Nat.reduceAdd, Nat.reduceEqDiff, Nat.reduceMul, Nat.reduceLeDiff, Nat.reduceSub, Nat.reduceLT, ↓reduceIte, reduceCtorEq, List.reduceReplicate, List.flatten_cons, List.flatten_nil, List.append_nil, eq_self]
  obtain ⟨q1, q2, q3, q4⟩ := rightB_iff.1 hr
  have hif : ∀ a b : Value, (if rightB e s m = true ∧ (0 : Int) ≤ n ∧ n ≤ 6 then a else b) = a := fun a b => if_pos ⟨hr, by omega, by omega⟩
  refine ⟨by omega, ?_⟩
  simp (dsimp := false) only [↓ir.rank_Next.r0.w, ↓ir.rank_Next.r1.w, ↓ir.rank_Next.r2.w, ↓ir.rank_Next.r3.w, ↓ir.rank_Next.r4.w, ↓ir.rank_Next.r5.w, ↓ir.rank_Next.r6.w, ↓ir.rank_Next.r7.w, ir.rank_Next.rs, go_sem, Nat.reduceAdd, Nat.reduceEqDiff, Nat.reduceMul, Nat.reduceLeDiff, Nat.reduceSub, Nat.reduceLT, ↓reduceIte, reduceCtorEq, List.reduceReplicate, List.flatten_cons, List.flatten_nil, List.append_nil, eq_self, shl_small' (show 0 ≤ n by omega) (show n ≤ 6 by omega), wrap_u32 (show 0 ≤ s + 1 ∧ s + 1 ≤ 4294967295 by omega)]
  refine cVd (fun hc => ?_) (fun hc => ?_)
  · simp (dsimp := false) only [↓ir.rank_Next.r0.w, ↓ir.rank_Next.r1.w, ↓ir.rank_Next.r2.w, ↓ir.rank_Next.r3.w, ↓ir.rank_Next.r4.w, ↓ir.rank_Next.r5.w, ↓ir.rank_Next.r6.w, ↓ir.rank_Next.r7.w, ir.rank_Next.rs, go_sem, Nat.reduceAdd, Nat.reduceEqDiff, Nat.reduceMul, Nat.reduceLeDiff, Nat.reduceSub, Nat.reduceLT, ↓reduceIte, reduceCtorEq, List.reduceReplicate, List.flatten_cons, List.flatten_nil, List.append_nil, eq_self, wrap_u32 (show 0 ≤ s + 1 ∧ s + 1 ≤ 4294967295 by omega)]
    unfold nextK; rw [hif, if_pos hc]
  · simp (dsimp := false) only [↓ir.rank_Next.r0.w, ↓ir.rank_Next.r1.w, ↓ir.rank_Next.r2.w, ↓ir.rank_Next.r3.w, ↓ir.rank_Next.r4.w, ↓ir.rank_Next.r5.w, ↓ir.rank_Next.r6.w, ↓ir.rank_Next.r7.w, ir.rank_Next.rs, go_sem, Nat.reduceAdd, Nat.reduceEqDiff, Nat.reduceMul, Nat.reduceLeDiff, Nat.reduceSub, Nat.reduceLT, ↓reduceIte, reduceCtorEq, List.reduceReplicate, List.flatten_cons, List.flatten_nil, List.append_nil, eq_self]
    refine cVd (fun hc' => ?_) (fun hc' => ?_)
    · simp (dsimp := false) only [↓ir.rank_Next.r0.w, ↓ir.rank_Next.r1.w, ↓ir.rank_Next.r2.w, ↓ir.rank_Next.r3.w, ↓ir.rank_Next.r4.w, ↓ir.rank_Next.r5.w, ↓ir.rank_Next.r6.w, ↓ir.rank_Next.r7.w, ir.rank_Next.rs, go_sem, Nat.reduceAdd, Nat.reduceEqDiff, Nat.reduceMul, Nat.reduceLeDiff, Nat.reduceSub, Nat.reduceLT, ↓reduceIte, reduceCtorEq, List.reduceReplicate, List.flatten_cons, List.flatten_nil, List.append_nil, eq_self, wrap_u32 (show 0 ≤ e + 1 ∧ e + 1 ≤ 4294967295 by omega)]
      unfold nextK; rw [hif, if_neg hc, if_pos hc']
    · simp (dsimp := false) only [↓ir.rank_Next.r0.w, ↓ir.rank_Next.r1.w, ↓ir.rank_Next.r2.w, ↓ir.rank_Next.r3.w, ↓ir.rank_Next.r4.w, ↓ir.rank_Next.r5.w, ↓ir.rank_Next.r6.w, ↓ir.rank_Next.r7.w, ir.rank_Next.rs, go_sem, Nat.reduceAdd, Nat.reduceEqDiff, Nat.reduceMul, Nat.reduceLeDiff, Nat.reduceSub, Nat.reduceLT, ↓reduceIte, reduceCtorEq, List.reduceReplicate, List.flatten_cons, List.flatten_nil, List.append_nil, eq_self]
      unfold nextK; rw [hif, if_neg hc, if_neg hc']

theorem rnext_spec (h : AHeap) (e s m n : Int) (he : 0 ≤ e) (hs : 0 ≤ s) : SpecX Try.prog nG fn.fingerpostref01_Next [keyV e s m, .int .i64 n] h fun v h' => Pre h h' ∧ v = nextK e s m n := by
  refine SpecX.of_body (ir.fingerpostref01_Next.spec (Nat.le_of_ble_eq_true rfl)) ?_
  simp (dsimp := false) only [↓ir.fingerpostref01_Next.bw, ir.fingerpostref01_Next.rs, keyV, ↓ir.fingerpostref01_Next.r0.w, ↓ir.fingerpostref01_Next.r1.w, ↓ir.fingerpostref01_Next.r2.w, ↓ir.fingerpostref01_Next.r3.w, ↓ir.fingerpostref01_Next.r4.w, ↓ir.fingerpostref01_Next.r5.w, ↓ir.fingerpostref01_Next.r7.w, ↓ir.fingerpostref01_Next.r6.w, ↓ir.fingerpostref01_Next.l1.w, ↓ir.fingerpostref01_Next.r8.w, ↓ir.fingerpostref01_Next.r9.w, ↓ir.fingerpostref01_Next.r10.w, ↓ir.fingerpostref01_Next.r11.w, ↓ir.fingerpostref01_Next.r12.w, ir.fingerpostref01_Next.rs, go_sem, Nat.reduceAdd, Nat.reduceEqDiff, Nat.reduceMul, Nat.reduceLeDiff, Nat.reduceSub, Nat.reduceLT, ↓reduceIte, reduceCtorEq, List.reduceReplicate, List.flatten_cons, List.flatten_nil, List.append_nil, eq_self]
  refine callV_of (rright_spec _ _ _ _) ?_
  simp (dsimp := false) only [↓ir.fingerpostref01_Next.r0.w, ↓ir.fingerpostref01_Next.r1.w, ↓ir.fingerpostref01_Next.r2.w, ↓ir.fingerpostref01_Next.r3.w, ↓ir.fingerpostref01_Next.r4.w, ↓ir.fingerpostref01_Next.r5.w, ↓ir.fingerpostref01_Next.r7.w, ↓ir.fingerpostref01_Next.r6.w, ↓ir.fingerpostref01_Next.l1.w, ↓ir.fingerpostref01_Next.r8.w, ↓ir.fingerpostref01_Next.r9.w, ↓ir.fingerpostref01_Next.r10.w, ↓ir.fingerpostref01_Next.r11.w, ↓ir.fingerpostref01_Next.r12.w, ir.fingerpostref01_Next.rs, go_sem, Nat.reduceAdd, Nat.reduceEqDiff, Nat.reduceMul, Nat.reduceLeDiff, Nat.reduceSub, Nat.reduceLT, ↓reduceIte, reduceCtorEq, List.reduceReplicate, List.flatten_cons, List.flatten_nil, List.append_nil, eq_self]
  cases hr : rightB e s m
  · simp (dsimp := false) only [↓ir.fingerpostref01_Next.r0.w, ↓ir.fingerpostref01_Next.r1.w, ↓ir.fingerpostref01_Next.r2.w, ↓ir.fingerpostref01_Next.r3.w, ↓ir.fingerpostref01_Next.r4.w, ↓ir.fingerpostref01_Next.r5.w, ↓ir.fingerpostref01_Next.r7.w, ↓ir.fingerpostref01_Next.r6.w, ↓ir.fingerpostref01_Next.l1.w, ↓ir.fingerpostref01_Next.r8.w, ↓ir.fingerpostref01_Next.r9.w, ↓ir.fingerpostref01_Next.r10.w, ↓ir.fingerpostref01_Next.r11.w, ↓ir.fingerpostref01_Next.r12.w, ir.fingerpostref01_Next.rs, go_sem, Nat.reduceAdd, Nat.reduceEqDiff, Nat.reduceMul, Nat.reduceLeDiff, Nat.reduceSub, Nat.reduceLT, ↓reduceIte, reduceCtorEq, List.reduceReplicate, List.flatten_cons, List.flatten_nil, List.append_nil, eq_self, Bool.not_false]
    simp [nextK, hr]
  simp (dsimp := false) only [Bool.not_true, ↓ir.fingerpostref01_Next.r0.w, ↓ir.fingerpostref01_Next.r1.w, ↓ir.fingerpostref01_Next.r2.w, ↓ir.fingerpostref01_Next.r3.w, ↓ir.fingerpostref01_Next.r4.w, ↓ir.fingerpostref01_Next.r5.w, ↓ir.fingerpostref01_Next.r7.w, ↓ir.fingerpostref01_Next.r6.w, ↓ir.fingerpostref01_Next.l1.w, ↓ir.fingerpostref01_Next.r8.w, ↓ir.fingerpostref01_Next.r9.w, ↓ir.fingerpostref01_Next.r10.w, ↓ir.fingerpostref01_Next.r11.w, ↓ir.fingerpostref01_Next.r12.w, ir.fingerpostref01_Next.rs, go_sem, Nat.reduceAdd, Nat.reduceEqDiff, Nat.reduceMul, Nat.reduceLeDiff, Nat.reduceSub, Nat.reduceLT, ↓reduceIte, reduceCtorEq, List.reduceReplicate, List.flatten_cons, List.flatten_nil, List.append_nil, eq_self]
  refine gFd (fun hc => ?_) (fun hc => ?_)
  · simp (dsimp := false) only [↓ir.fingerpostref01_Next.r0.w, ↓ir.fingerpostref01_Next.r1.w, ↓ir.fingerpostref01_Next.r2.w, ↓ir.fingerpostref01_Next.r3.w, ↓ir.fingerpostref01_Next.r4.w, ↓ir.fingerpostref01_Next.r5.w, ↓ir.fingerpostref01_Next.r7.w, ↓ir.fingerpostref01_Next.r6.w, ↓ir.fingerpostref01_Next.l1.w, ↓ir.fingerpostref01_Next.r8.w, ↓ir.fingerpostref01_Next.r9.w, ↓ir.fingerpostref01_Next.r10.w, ↓ir.fingerpostref01_Next.r11.w, ↓ir.fingerpostref01_Next.r12.w, ir.fingerpostref01_Next.rs, go_sem, Nat.reduceAdd, Nat.reduceEqDiff, Nat.reduceMul, Nat.reduceLeDiff, Nat.reduceSub, Nat.reduceLT, ↓reduceIte, reduceCtorEq, List.reduceReplicate, List.flatten_cons, List.flatten_nil, List.append_nil, eq_self]
    unfold nextK; rw [if_neg (by omega)]
  simp (dsimp := false) only [↓ir.fingerpostref01_Next.r0.w, ↓ir.fingerpostref01_Next.r1.w, ↓ir.fingerpostref01_Next.r2.w, ↓ir.fingerpostref01_Next.r3.w, ↓ir.fingerpostref01_Next.r4.w, ↓ir.fingerpostref01_Next.r5.w, ↓ir.fingerpostref01_Next.r7.w, ↓ir.fingerpostref01_Next.r6.w, ↓ir.fingerpostref01_Next.l1.w, ↓ir.fingerpostref01_Next.r8.w, ↓ir.fingerpostref01_Next.r9.w, ↓ir.fingerpostref01_Next.r10.w, ↓ir.fingerpostref01_Next.r11.w, ↓ir.fingerpostref01_Next.r12.w, ir.fingerpostref01_Next.rs, go_sem, Nat.reduceAdd, Nat.reduceEqDiff, Nat.reduceMul, Nat.reduceLeDiff, Nat.reduceSub, Nat.reduceLT, ↓reduceIte, reduceCtorEq, List.reduceReplicate, List.flatten_cons, List.flatten_nil, List.append_nil, eq_self]
  refine cVd (fun hc' => ?_) (fun hc' => ?_)
  · simp (dsimp := false) only [↓ir.fingerpostref01_Next.r0.w, ↓ir.fingerpostref01_Next.r1.w, ↓ir.fingerpostref01_Next.r2.w, ↓ir.fingerpostref01_Next.r3.w, ↓ir.fingerpostref01_Next.r4.w, ↓ir.fingerpostref01_Next.r5.w, ↓ir.fingerpostref01_Next.r7.w, ↓ir.fingerpostref01_Next.r6.w, ↓ir.fingerpostref01_Next.l1.w, ↓ir.fingerpostref01_Next.r8.w, ↓ir.fingerpostref01_Next.r9.w, ↓ir.fingerpostref01_Next.r10.w, ↓ir.fingerpostref01_Next.r11.w, ↓ir.fingerpostref01_Next.r12.w, ir.fingerpostref01_Next.rs, go_sem, Nat.reduceAdd, Nat.reduceEqDiff, Nat.reduceMul, Nat.reduceLeDiff, Nat.reduceSub, Nat.reduceLT, ↓reduceIte, reduceCtorEq, List.reduceReplicate, List.flatten_cons, List.flatten_nil, List.append_nil, eq_self]
    unfold nextK; rw [if_neg (by omega)]
  simp (dsimp := false) only [↓ir.fingerpostref01_Next.r0.w, ↓ir.fingerpostref01_Next.r1.w, ↓ir.fingerpostref01_Next.r2.w, ↓ir.fingerpostref01_Next.r3.w, ↓ir.fingerpostref01_Next.r4.w, ↓ir.fingerpostref01_Next.r5.w, ↓ir.fingerpostref01_Next.r7.w, ↓ir.fingerpostref01_Next.r6.w, ↓ir.fingerpostref01_Next.l1.w, ↓ir.fingerpostref01_Next.r8.w, ↓ir.fingerpostref01_Next.r9.w, ↓ir.fingerpostref01_Next.r10.w, ↓ir.fingerpostref01_Next.r11.w, ↓ir.fingerpostref01_Next.r12.w, ir.fingerpostref01_Next.rs, go_sem, Nat.reduceAdd, Nat.reduceEqDiff, Nat.reduceMul, Nat.reduceLeDiff, Nat.reduceSub, Nat.reduceLT, ↓reduceIte, reduceCtorEq, List.reduceReplicate, List.flatten_cons, List.flatten_nil, List.append_nil, eq_self]
  obtain ⟨k, rfl⟩ : ∃ k : Nat, n = k := ⟨n.toNat, by omega⟩
  refine loopV_of (fun m' env h2 => ∃ j : Nat, m' = k - j ∧ j ≤ k ∧ h2 = h ++ [.row .fix [.int .u32 e, .int .u32 s, .int .i64 m], .row .fix [.int .u32 0, .int .u32 0, .int .i64 0]] ∧
    env = [(1, .int .i64 k), (2, .pointer (some ⟨h.length, 0, none⟩)), (4, .pointer (some ⟨h.length + 1, 0, none⟩)), (6, .int .u32 (2 ^ j)), (7, .int .i64 j)]) _ ⟨0, rfl, by omega, rfl, rfl⟩ ?_
  rintro m' env h2 ⟨j, rfl, hj, rfl, rfl⟩
  rcases Nat.lt_or_ge j k with hlt | hge
  · simp (dsimp := false) only [↓ir.fingerpostref01_Next.l1.bw, ↓ir.fingerpostref01_Next.r0.w, ↓ir.fingerpostref01_Next.r1.w, ↓ir.fingerpostref01_Next.r2.w, ↓ir.fingerpostref01_Next.r3.w, ↓ir.fingerpostref01_Next.r4.w, ↓ir.fingerpostref01_Next.r5.w, ↓ir.fingerpostref01_Next.r7.w, ↓ir.fingerpostref01_Next.r6.w, ↓ir.fingerpostref01_Next.l1.w, ↓ir.fingerpostref01_Next.r8.w, ↓ir.fingerpostref01_Next.r9.w, ↓ir.fingerpostref01_Next.r10.w, ↓ir.fingerpostref01_Next.r11.w, ↓ir.fingerpostref01_Next.r12.w, ir.fingerpostref01_Next.rs, go_sem, Nat.reduceAdd, Nat.reduceEqDiff, Nat.reduceMul, Nat.reduceLeDiff, Nat.reduceSub, Nat.reduceLT, ↓reduceIte, reduceCtorEq, List.reduceReplicate, List.flatten_cons, List.flatten_nil, List.append_nil, eq_self, Int.ofNat_lt, hlt, decide_true, wrap_succ hlt (show k ≤ maxI by unfold maxI; omega)]
    refine ⟨k - (j + 1), by omega, j + 1, rfl, by omega, ?_⟩
    have : IntKind.u32.wrap (2 * 2 ^ j) = 2 ^ (j + 1) := by
      have : j = 0 ∨ j = 1 ∨ j = 2 ∨ j = 3 ∨ j = 4 ∨ j = 5 := by omega
      rcases this with rfl | rfl | rfl | rfl | rfl | rfl <;> decide
    rw [this]
  · obtain rfl : j = k := by omega
    simp (dsimp := false) only [↓ir.fingerpostref01_Next.l1.bw, ↓ir.fingerpostref01_Next.r0.w, ↓ir.fingerpostref01_Next.r1.w, ↓ir.fingerpostref01_Next.r2.w, ↓ir.fingerpostref01_Next.r3.w, ↓ir.fingerpostref01_Next.r4.w, ↓ir.fingerpostref01_Next.r5.w, ↓ir.fingerpostref01_Next.r7.w, ↓ir.fingerpostref01_Next.r6.w, ↓ir.fingerpostref01_Next.l1.w, ↓ir.fingerpostref01_Next.r8.w, ↓ir.fingerpostref01_Next.r9.w, ↓ir.fingerpostref01_Next.r10.w, ↓ir.fingerpostref01_Next.r11.w, ↓ir.fingerpostref01_Next.r12.w, ir.fingerpostref01_Next.rs, go_sem, Nat.reduceAdd, Nat.reduceEqDiff, Nat.reduceMul, Nat.reduceLeDiff, Nat.reduceSub, Nat.reduceLT, ↓reduceIte, reduceCtorEq, List.reduceReplicate, List.flatten_cons, List.flatten_nil, List.append_nil, eq_self, Int.ofNat_lt, Nat.lt_irrefl, decide_false]
    have hw : IntKind.u32.wrap (2 ^ j - 1) = 2 ^ j - 1 := by
      have : j = 0 ∨ j = 1 ∨ j = 2 ∨ j = 3 ∨ j = 4 ∨ j = 5 ∨ j = 6 := by omega
      rcases this with rfl | rfl | rfl | rfl | rfl | rfl | rfl <;> decide
    obtain ⟨q1, q2, q3, q4⟩ := rightB_iff.1 hr
    have hif : ∀ a b : Value, (if rightB e s m = true ∧ (0 : Int) ≤ (j : Int) ∧ (j : Int) ≤ 6 then a else b) = a := fun a b => if_pos ⟨hr, by omega, by omega⟩
    rw [hw]
    refine cVd (fun hc => ?_) (fun hc => ?_)
    · simp (dsimp := false) only [↓ir.fingerpostref01_Next.r0.w, ↓ir.fingerpostref01_Next.r1.w, ↓ir.fingerpostref01_Next.r2.w, ↓ir.fingerpostref01_Next.r3.w, ↓ir.fingerpostref01_Next.r4.w, ↓ir.fingerpostref01_Next.r5.w, ↓ir.fingerpostref01_Next.r7.w, ↓ir.fingerpostref01_Next.r6.w, ↓ir.fingerpostref01_Next.l1.w, ↓ir.fingerpostref01_Next.r8.w, ↓ir.fingerpostref01_Next.r9.w, ↓ir.fingerpostref01_Next.r10.w, ↓ir.fingerpostref01_Next.r11.w, ↓ir.fingerpostref01_Next.r12.w, ir.fingerpostref01_Next.rs, go_sem, Nat.reduceAdd, Nat.reduceEqDiff, Nat.reduceMul, Nat.reduceLeDiff, Nat.reduceSub, Nat.reduceLT, ↓reduceIte, reduceCtorEq, List.reduceReplicate, List.flatten_cons, List.flatten_nil, List.append_nil, eq_self, wrap_u32 (show 0 ≤ s + 1 ∧ s + 1 ≤ 4294967295 by omega)]
      unfold nextK; rw [hif, Int.toNat_natCast, if_pos (by omega)]
    · simp (dsimp := false) only [↓ir.fingerpostref01_Next.r0.w, ↓ir.fingerpostref01_Next.r1.w, ↓ir.fingerpostref01_Next.r2.w, ↓ir.fingerpostref01_Next.r3.w, ↓ir.fingerpostref01_Next.r4.w, ↓ir.fingerpostref01_Next.r5.w, ↓ir.fingerpostref01_Next.r7.w, ↓ir.fingerpostref01_Next.r6.w, ↓ir.fingerpostref01_Next.l1.w, ↓ir.fingerpostref01_Next.r8.w, ↓ir.fingerpostref01_Next.r9.w, ↓ir.fingerpostref01_Next.r10.w, ↓ir.fingerpostref01_Next.r11.w, ↓ir.fingerpostref01_Next.r12.w, ir.fingerpostref01_Next.rs, go_sem, Nat.reduceAdd, Nat.reduceEqDiff, Nat.reduceMul, Nat.reduceLeDiff, Nat.reduceSub, Nat.reduceLT, ↓reduceIte, reduceCtorEq, List.reduceReplicate, List.flatten_cons, List.flatten_nil, List.append_nil, eq_self]
      refine cVe (fun hc' => ?_) (fun hc' => ?_)
      · simp (dsimp := false) only [↓ir.fingerpostref01_Next.r0.w, ↓ir.fingerpostref01_Next.r1.w, ↓ir.fingerpostref01_Next.r2.w, ↓ir.fingerpostref01_Next.r3.w, ↓ir.fingerpostref01_Next.r4.w, ↓ir.fingerpostref01_Next.r5.w, ↓ir.fingerpostref01_Next.r7.w, ↓ir.fingerpostref01_Next.r6.w, ↓ir.fingerpostref01_Next.l1.w, ↓ir.fingerpostref01_Next.r8.w, ↓ir.fingerpostref01_Next.r9.w, ↓ir.fingerpostref01_Next.r10.w, ↓ir.fingerpostref01_Next.r11.w, ↓ir.fingerpostref01_Next.r12.w, ir.fingerpostref01_Next.rs, go_sem, Nat.reduceAdd, Nat.reduceEqDiff, Nat.reduceMul, Nat.reduceLeDiff, Nat.reduceSub, Nat.reduceLT, ↓reduceIte, reduceCtorEq, List.reduceReplicate, List.flatten_cons, List.flatten_nil, List.append_nil, eq_self]
        unfold nextK; rw [hif, Int.toNat_natCast, if_neg (by omega), if_neg (by omega)]
      · simp (dsimp := false) only [↓ir.fingerpostref01_Next.r0.w, ↓ir.fingerpostref01_Next.r1.w, ↓ir.fingerpostref01_Next.r2.w, ↓ir.fingerpostref01_Next.r3.w, ↓ir.fingerpostref01_Next.r4.w, ↓ir.fingerpostref01_Next.r5.w, ↓ir.fingerpostref01_Next.r7.w, ↓ir.fingerpostref01_Next.r6.w, ↓ir.fingerpostref01_Next.l1.w, ↓ir.fingerpostref01_Next.r8.w, ↓ir.fingerpostref01_Next.r9.w, ↓ir.fingerpostref01_Next.r10.w, ↓ir.fingerpostref01_Next.r11.w, ↓ir.fingerpostref01_Next.r12.w, ir.fingerpostref01_Next.rs, go_sem, Nat.reduceAdd, Nat.reduceEqDiff, Nat.reduceMul, Nat.reduceLeDiff, Nat.reduceSub, Nat.reduceLT, ↓reduceIte, reduceCtorEq, List.reduceReplicate, List.flatten_cons, List.flatten_nil, List.append_nil, eq_self, wrap_u32 (show 0 ≤ e + 1 ∧ e + 1 ≤ 4294967295 by omega)]
        unfold nextK; rw [hif, Int.toNat_natCast, if_neg (by omega), if_pos (by omega)]

theorem from_spec (h : AHeap) (e s m : Int) : Spec Try.prog nG fn.fingerpostlaw01_From [keyV e s m] h (keyV e s m) h := by
  apply ir.fingerpostlaw01_From.spec (Nat.le_of_ble_eq_true rfl)
  simp (dsimp := false) only [↓ir.fingerpostlaw01_From.bw, ir.fingerpostlaw01_From.rs, keyV, ↓ir.fingerpostlaw01_From.r0.w, ↓ir.fingerpostlaw01_From.r1.w, ir.fingerpostlaw01_From.rs, go_sem, Nat.reduceAdd, Nat.reduceEqDiff, Nat.reduceMul, Nat.reduceLeDiff, Nat.reduceSub, Nat.reduceLT, ↓reduceIte, reduceCtorEq, List.reduceReplicate, List.flatten_cons, List.flatten_nil, List.append_nil, eq_self]
  exact Fin.keyV h e s m _

theorem rankHops_spec (h : AHeap) (e s m n : Int) (he : 0 ≤ e) (hs : 0 ≤ s) : SpecX Try.prog nG fn.fingerpostlaw01_RankHops [keyV e s m, .int .i64 n] h fun v h' => v = .bool true := by
  refine SpecX.of_body (ir.fingerpostlaw01_RankHops.spec (Nat.le_of_ble_eq_true rfl)) ?_
  simp (dsimp := false) only [↓ir.fingerpostlaw01_RankHops.bw, ir.fingerpostlaw01_RankHops.rs, keyV, ↓ir.fingerpostlaw01_RankHops.r0.w, ↓ir.fingerpostlaw01_RankHops.r1.w, ↓ir.fingerpostlaw01_RankHops.r2.w, ↓ir.fingerpostlaw01_RankHops.r3.w, ↓ir.fingerpostlaw01_RankHops.r4.w, ↓ir.fingerpostlaw01_RankHops.r5.w, ir.fingerpostlaw01_RankHops.rs, go_sem, Nat.reduceAdd, Nat.reduceEqDiff, Nat.reduceMul, Nat.reduceLeDiff, Nat.reduceSub, Nat.reduceLT, ↓reduceIte, reduceCtorEq, List.reduceReplicate, List.flatten_cons, List.flatten_nil, List.append_nil, eq_self]
  refine callV_of (to_spec _ _ _ _) ?_
  simp (dsimp := false) only [↓ir.fingerpostlaw01_RankHops.r0.w, ↓ir.fingerpostlaw01_RankHops.r1.w, ↓ir.fingerpostlaw01_RankHops.r2.w, ↓ir.fingerpostlaw01_RankHops.r3.w, ↓ir.fingerpostlaw01_RankHops.r4.w, ↓ir.fingerpostlaw01_RankHops.r5.w, ir.fingerpostlaw01_RankHops.rs, go_sem, Nat.reduceAdd, Nat.reduceEqDiff, Nat.reduceMul, Nat.reduceLeDiff, Nat.reduceSub, Nat.reduceLT, ↓reduceIte, reduceCtorEq, List.reduceReplicate, List.flatten_cons, List.flatten_nil, List.append_nil, eq_self]
  refine callV_x (hop_spec _ _ _ _) ?_
  rintro _ h1 ⟨⟨g1, rfl⟩, rfl⟩
  obtain ⟨a1, a2, a3, a4, hh⟩ := hopV_is e s m
  simp (dsimp := false) only [↓ir.fingerpostlaw01_RankHops.r0.w, ↓ir.fingerpostlaw01_RankHops.r1.w, ↓ir.fingerpostlaw01_RankHops.r2.w, ↓ir.fingerpostlaw01_RankHops.r3.w, ↓ir.fingerpostlaw01_RankHops.r4.w, ↓ir.fingerpostlaw01_RankHops.r5.w, ir.fingerpostlaw01_RankHops.rs, go_sem, Nat.reduceAdd, Nat.reduceEqDiff, Nat.reduceMul, Nat.reduceLeDiff, Nat.reduceSub, Nat.reduceLT, ↓reduceIte, reduceCtorEq, List.reduceReplicate, List.flatten_cons, List.flatten_nil, List.append_nil, eq_self, hh]
  refine callV_x (rhop_spec _ _ _ _) ?_
  rintro _ h1 ⟨⟨g1, rfl⟩, rfl⟩
  simp (dsimp := false) only [↓ir.fingerpostlaw01_RankHops.r0.w, ↓ir.fingerpostlaw01_RankHops.r1.w, ↓ir.fingerpostlaw01_RankHops.r2.w, ↓ir.fingerpostlaw01_RankHops.r3.w, ↓ir.fingerpostlaw01_RankHops.r4.w, ↓ir.fingerpostlaw01_RankHops.r5.w, ir.fingerpostlaw01_RankHops.rs, go_sem, Nat.reduceAdd, Nat.reduceEqDiff, Nat.reduceMul, Nat.reduceLeDiff, Nat.reduceSub, Nat.reduceLT, ↓reduceIte, reduceCtorEq, List.reduceReplicate, List.flatten_cons, List.flatten_nil, List.append_nil, eq_self, hh]
  refine callV_of (to_spec _ _ _ _) ?_
  simp (dsimp := false) only [↓ir.fingerpostlaw01_RankHops.r0.w, ↓ir.fingerpostlaw01_RankHops.r1.w, ↓ir.fingerpostlaw01_RankHops.r2.w, ↓ir.fingerpostlaw01_RankHops.r3.w, ↓ir.fingerpostlaw01_RankHops.r4.w, ↓ir.fingerpostlaw01_RankHops.r5.w, ir.fingerpostlaw01_RankHops.rs, go_sem, Nat.reduceAdd, Nat.reduceEqDiff, Nat.reduceMul, Nat.reduceLeDiff, Nat.reduceSub, Nat.reduceLT, ↓reduceIte, reduceCtorEq, List.reduceReplicate, List.flatten_cons, List.flatten_nil, List.append_nil, eq_self]
  refine callV_x (next_spec _ _ _ _ _ he hs) ?_
  rintro _ h1 ⟨⟨g1, rfl⟩, rfl⟩
  obtain ⟨b1, b2, b3, b4, hn⟩ := nextK_is e s m n
  simp (dsimp := false) only [↓ir.fingerpostlaw01_RankHops.r0.w, ↓ir.fingerpostlaw01_RankHops.r1.w, ↓ir.fingerpostlaw01_RankHops.r2.w, ↓ir.fingerpostlaw01_RankHops.r3.w, ↓ir.fingerpostlaw01_RankHops.r4.w, ↓ir.fingerpostlaw01_RankHops.r5.w, ir.fingerpostlaw01_RankHops.rs, go_sem, Nat.reduceAdd, Nat.reduceEqDiff, Nat.reduceMul, Nat.reduceLeDiff, Nat.reduceSub, Nat.reduceLT, ↓reduceIte, reduceCtorEq, List.reduceReplicate, List.flatten_cons, List.flatten_nil, List.append_nil, eq_self, hn]
  refine callV_x (rnext_spec _ _ _ _ _ he hs) ?_
  rintro _ h1 ⟨⟨g1, rfl⟩, rfl⟩
  simp (dsimp := false) only [↓ir.fingerpostlaw01_RankHops.r0.w, ↓ir.fingerpostlaw01_RankHops.r1.w, ↓ir.fingerpostlaw01_RankHops.r2.w, ↓ir.fingerpostlaw01_RankHops.r3.w, ↓ir.fingerpostlaw01_RankHops.r4.w, ↓ir.fingerpostlaw01_RankHops.r5.w, ir.fingerpostlaw01_RankHops.rs, go_sem, Nat.reduceAdd, Nat.reduceEqDiff, Nat.reduceMul, Nat.reduceLeDiff, Nat.reduceSub, Nat.reduceLT, ↓reduceIte, reduceCtorEq, List.reduceReplicate, List.flatten_cons, List.flatten_nil, List.append_nil, eq_self, hn]
  refine callV_of (right_spec _ _ _ _) ?_
  simp (dsimp := false) only [↓ir.fingerpostlaw01_RankHops.r0.w, ↓ir.fingerpostlaw01_RankHops.r1.w, ↓ir.fingerpostlaw01_RankHops.r2.w, ↓ir.fingerpostlaw01_RankHops.r3.w, ↓ir.fingerpostlaw01_RankHops.r4.w, ↓ir.fingerpostlaw01_RankHops.r5.w, ir.fingerpostlaw01_RankHops.rs, go_sem, Nat.reduceAdd, Nat.reduceEqDiff, Nat.reduceMul, Nat.reduceLeDiff, Nat.reduceSub, Nat.reduceLT, ↓reduceIte, reduceCtorEq, List.reduceReplicate, List.flatten_cons, List.flatten_nil, List.append_nil, eq_self, rightB_zero, beq_self_eq_true]
  refine callV_of (from_spec _ _ _ _) ?_
  simp (dsimp := false) only [↓ir.fingerpostlaw01_RankHops.r0.w, ↓ir.fingerpostlaw01_RankHops.r1.w, ↓ir.fingerpostlaw01_RankHops.r2.w, ↓ir.fingerpostlaw01_RankHops.r3.w, ↓ir.fingerpostlaw01_RankHops.r4.w, ↓ir.fingerpostlaw01_RankHops.r5.w, ir.fingerpostlaw01_RankHops.rs, go_sem, Nat.reduceAdd, Nat.reduceEqDiff, Nat.reduceMul, Nat.reduceLeDiff, Nat.reduceSub, Nat.reduceLT, ↓reduceIte, reduceCtorEq, List.reduceReplicate, List.flatten_cons, List.flatten_nil, List.append_nil, eq_self, beq_self_eq_true]
  refine callV_of (from_spec _ _ _ _) ?_
  simp (dsimp := false) only [↓ir.fingerpostlaw01_RankHops.r0.w, ↓ir.fingerpostlaw01_RankHops.r1.w, ↓ir.fingerpostlaw01_RankHops.r2.w, ↓ir.fingerpostlaw01_RankHops.r3.w, ↓ir.fingerpostlaw01_RankHops.r4.w, ↓ir.fingerpostlaw01_RankHops.r5.w, ir.fingerpostlaw01_RankHops.rs, go_sem, Nat.reduceAdd, Nat.reduceEqDiff, Nat.reduceMul, Nat.reduceLeDiff, Nat.reduceSub, Nat.reduceLT, ↓reduceIte, reduceCtorEq, List.reduceReplicate, List.flatten_cons, List.flatten_nil, List.append_nil, eq_self, beq_self_eq_true, Bool.and_true]

theorem hopV_ok {e s m a1 a2 a3 : Int} (hh : hopV e s m = .tuple #[.agg #[.int .u32 a1, .int .u32 a2, .int .i64 a3], .int .i64 0]) : 0 < cmpK e s m a1 a2 a3 ∧ ¬ 0 < cmpK e s 0 a1 a2 0 ∧ rightB a1 a2 a3 = true := by
  unfold hopV at hh
  split at hh
  · rename_i hr
    obtain ⟨q1, q2, q3, q4⟩ := rightB_iff.1 hr
    split at hh
    · simp at hh
    · simp at hh
      obtain ⟨rfl, rfl, rfl⟩ := hh
      rw [cmpK_pos, cmpK_pos, rightB_iff]; omega
  · simp at hh
theorem nextK_ok {e s m n a1 a2 a3 : Int} (hs : 0 ≤ s) (hh : nextK e s m n = .tuple #[.agg #[.int .u32 a1, .int .u32 a2, .int .i64 a3], .int .i64 0]) : 0 < cmpK a1 a2 0 e s 0 ∧ a3 = 0 ∧ rightB a1 a2 a3 = true := by
  unfold nextK at hh
  split at hh
  · rename_i hr
    obtain ⟨q1, q2, q3, q4⟩ := rightB_iff.1 hr.1
    split at hh
    · rename_i hlt
      simp at hh
      obtain ⟨rfl, rfl, rfl⟩ := hh
      have : (2 : Int) ^ n.toNat ≤ 64 := by
        have : n = 0 ∨ n = 1 ∨ n = 2 ∨ n = 3 ∨ n = 4 ∨ n = 5 ∨ n = 6 := by omega
        rcases this with rfl | rfl | rfl | rfl | rfl | rfl | rfl <;> decide
      rw [cmpK_pos, rightB_iff]; omega
    · split at hh
      · simp at hh
        obtain ⟨rfl, rfl, rfl⟩ := hh
        rw [cmpK_pos, rightB_iff]; omega
      · simp at hh
  · simp at hh

theorem rankSteps_spec (h : AHeap) (e s m n : Int) (he : 0 ≤ e) (hs : 0 ≤ s) : SpecX Try.prog nG fn.fingerpostlaw01_RankSteps [keyV e s m, .int .i64 n] h fun v h' => v = .bool true := by
  refine SpecX.of_body (ir.fingerpostlaw01_RankSteps.spec (Nat.le_of_ble_eq_true rfl)) ?_
  rw [ir.fingerpostlaw01_RankSteps.bw, wpC_assoc, wpC_assoc]
  refine wpC_cut (fun env h' => look env 1 = .int .i64 n ∧ look env 5 = .pointer (some ⟨h.length + 1, 0, none⟩) ∧ ∃ g, h' = h ++ .row .fix [.int .u32 e, .int .u32 s, .int .i64 m] :: .row .fix [.int .u32 e, .int .u32 s, .int .i64 m] :: g) ?_ ?_
  · simp (dsimp := false) only [keyV, ↓ir.fingerpostlaw01_RankSteps.r0.w, ↓ir.fingerpostlaw01_RankSteps.r1.w, ↓ir.fingerpostlaw01_RankSteps.r2.w, ↓ir.fingerpostlaw01_RankSteps.r3.w, ↓ir.fingerpostlaw01_RankSteps.r4.w, ↓ir.fingerpostlaw01_RankSteps.r5.w, ↓ir.fingerpostlaw01_RankSteps.r6.w, ↓ir.fingerpostlaw01_RankSteps.r7.w, ↓ir.fingerpostlaw01_RankSteps.r8.w, ir.fingerpostlaw01_RankSteps.rs, go_sem, Nat.reduceAdd, Nat.reduceEqDiff, Nat.reduceMul, Nat.reduceLeDiff, Nat.reduceSub, Nat.reduceLT, ↓reduceIte, reduceCtorEq, List.reduceReplicate, List.flatten_cons, List.flatten_nil, List.append_nil, eq_self]
    refine callV_of (to_spec _ _ _ _) ?_
    simp (dsimp := false) only [↓ir.fingerpostlaw01_RankSteps.r0.w, ↓ir.fingerpostlaw01_RankSteps.r1.w, ↓ir.fingerpostlaw01_RankSteps.r2.w, ↓ir.fingerpostlaw01_RankSteps.r3.w, ↓ir.fingerpostlaw01_RankSteps.r4.w, ↓ir.fingerpostlaw01_RankSteps.r5.w, ↓ir.fingerpostlaw01_RankSteps.r6.w, ↓ir.fingerpostlaw01_RankSteps.r7.w, ↓ir.fingerpostlaw01_RankSteps.r8.w, ir.fingerpostlaw01_RankSteps.rs, go_sem, Nat.reduceAdd, Nat.reduceEqDiff, Nat.reduceMul, Nat.reduceLeDiff, Nat.reduceSub, Nat.reduceLT, ↓reduceIte, reduceCtorEq, List.reduceReplicate, List.flatten_cons, List.flatten_nil, List.append_nil, eq_self]
    refine callV_x (hop_spec _ _ _ _) ?_
    rintro _ h1 ⟨⟨g1, rfl⟩, rfl⟩
    obtain ⟨a1, a2, a3, a4, hh⟩ := hopV_is e s m
    simp (dsimp := false) only [↓ir.fingerpostlaw01_RankSteps.r0.w, ↓ir.fingerpostlaw01_RankSteps.r1.w, ↓ir.fingerpostlaw01_RankSteps.r2.w, ↓ir.fingerpostlaw01_RankSteps.r3.w, ↓ir.fingerpostlaw01_RankSteps.r4.w, ↓ir.fingerpostlaw01_RankSteps.r5.w, ↓ir.fingerpostlaw01_RankSteps.r6.w, ↓ir.fingerpostlaw01_RankSteps.r7.w, ↓ir.fingerpostlaw01_RankSteps.r8.w, ir.fingerpostlaw01_RankSteps.rs, go_sem, Nat.reduceAdd, Nat.reduceEqDiff, Nat.reduceMul, Nat.reduceLeDiff, Nat.reduceSub, Nat.reduceLT, ↓reduceIte, reduceCtorEq, List.reduceReplicate, List.flatten_cons, List.flatten_nil, List.append_nil, eq_self, hh]
    refine gTe (fun hc => ?_) (fun hc => ?_)
    · subst hc
      obtain ⟨k1, k2, k3⟩ := hopV_ok hh
      simp (dsimp := false) only [↓ir.fingerpostlaw01_RankSteps.r0.w, ↓ir.fingerpostlaw01_RankSteps.r1.w, ↓ir.fingerpostlaw01_RankSteps.r2.w, ↓ir.fingerpostlaw01_RankSteps.r3.w, ↓ir.fingerpostlaw01_RankSteps.r4.w, ↓ir.fingerpostlaw01_RankSteps.r5.w, ↓ir.fingerpostlaw01_RankSteps.r6.w, ↓ir.fingerpostlaw01_RankSteps.r7.w, ↓ir.fingerpostlaw01_RankSteps.r8.w, ir.fingerpostlaw01_RankSteps.rs, go_sem, Nat.reduceAdd, Nat.reduceEqDiff, Nat.reduceMul, Nat.reduceLeDiff, Nat.reduceSub, Nat.reduceLT, ↓reduceIte, reduceCtorEq, List.reduceReplicate, List.flatten_cons, List.flatten_nil, List.append_nil, eq_self]
      refine callV_of (compare_spec _ _ _ _ _ _ _) ?_
      simp (dsimp := false) only [↓ir.fingerpostlaw01_RankSteps.r0.w, ↓ir.fingerpostlaw01_RankSteps.r1.w, ↓ir.fingerpostlaw01_RankSteps.r2.w, ↓ir.fingerpostlaw01_RankSteps.r3.w, ↓ir.fingerpostlaw01_RankSteps.r4.w, ↓ir.fingerpostlaw01_RankSteps.r5.w, ↓ir.fingerpostlaw01_RankSteps.r6.w, ↓ir.fingerpostlaw01_RankSteps.r7.w, ↓ir.fingerpostlaw01_RankSteps.r8.w, ir.fingerpostlaw01_RankSteps.rs, go_sem, Nat.reduceAdd, Nat.reduceEqDiff, Nat.reduceMul, Nat.reduceLeDiff, Nat.reduceSub, Nat.reduceLT, ↓reduceIte, reduceCtorEq, List.reduceReplicate, List.flatten_cons, List.flatten_nil, List.append_nil, eq_self, show ¬ cmpK e s m a1 a2 a3 ≤ 0 by omega, decide_false]
      refine callV_of (newer_spec _ _ _ _ _ _ _) ?_
      simp (dsimp := false) only [↓ir.fingerpostlaw01_RankSteps.r0.w, ↓ir.fingerpostlaw01_RankSteps.r1.w, ↓ir.fingerpostlaw01_RankSteps.r2.w, ↓ir.fingerpostlaw01_RankSteps.r3.w, ↓ir.fingerpostlaw01_RankSteps.r4.w, ↓ir.fingerpostlaw01_RankSteps.r5.w, ↓ir.fingerpostlaw01_RankSteps.r6.w, ↓ir.fingerpostlaw01_RankSteps.r7.w, ↓ir.fingerpostlaw01_RankSteps.r8.w, ir.fingerpostlaw01_RankSteps.rs, go_sem, Nat.reduceAdd, Nat.reduceEqDiff, Nat.reduceMul, Nat.reduceLeDiff, Nat.reduceSub, Nat.reduceLT, ↓reduceIte, reduceCtorEq, List.reduceReplicate, List.flatten_cons, List.flatten_nil, List.append_nil, eq_self, k2, decide_false]
      refine callV_of (right_spec _ _ _ _) ?_
      simp (dsimp := false) only [↓ir.fingerpostlaw01_RankSteps.r0.w, ↓ir.fingerpostlaw01_RankSteps.r1.w, ↓ir.fingerpostlaw01_RankSteps.r2.w, ↓ir.fingerpostlaw01_RankSteps.r3.w, ↓ir.fingerpostlaw01_RankSteps.r4.w, ↓ir.fingerpostlaw01_RankSteps.r5.w, ↓ir.fingerpostlaw01_RankSteps.r6.w, ↓ir.fingerpostlaw01_RankSteps.r7.w, ↓ir.fingerpostlaw01_RankSteps.r8.w, ir.fingerpostlaw01_RankSteps.rs, go_sem, Nat.reduceAdd, Nat.reduceEqDiff, Nat.reduceMul, Nat.reduceLeDiff, Nat.reduceSub, Nat.reduceLT, ↓reduceIte, reduceCtorEq, List.reduceReplicate, List.flatten_cons, List.flatten_nil, List.append_nil, eq_self, k3, Bool.not_true]
      exact ⟨_, rfl⟩
    · simp (dsimp := false) only [↓ir.fingerpostlaw01_RankSteps.r0.w, ↓ir.fingerpostlaw01_RankSteps.r1.w, ↓ir.fingerpostlaw01_RankSteps.r2.w, ↓ir.fingerpostlaw01_RankSteps.r3.w, ↓ir.fingerpostlaw01_RankSteps.r4.w, ↓ir.fingerpostlaw01_RankSteps.r5.w, ↓ir.fingerpostlaw01_RankSteps.r6.w, ↓ir.fingerpostlaw01_RankSteps.r7.w, ↓ir.fingerpostlaw01_RankSteps.r8.w, ir.fingerpostlaw01_RankSteps.rs, go_sem, Nat.reduceAdd, Nat.reduceEqDiff, Nat.reduceMul, Nat.reduceLeDiff, Nat.reduceSub, Nat.reduceLT, ↓reduceIte, reduceCtorEq, List.reduceReplicate, List.flatten_cons, List.flatten_nil, List.append_nil, eq_self]
      exact ⟨_, rfl⟩
  · rintro env h1 ⟨e1, e2, g, rfl⟩
    simp (dsimp := false) only [↓ir.fingerpostlaw01_RankSteps.r0.w, ↓ir.fingerpostlaw01_RankSteps.r1.w, ↓ir.fingerpostlaw01_RankSteps.r2.w, ↓ir.fingerpostlaw01_RankSteps.r3.w, ↓ir.fingerpostlaw01_RankSteps.r4.w, ↓ir.fingerpostlaw01_RankSteps.r5.w, ↓ir.fingerpostlaw01_RankSteps.r6.w, ↓ir.fingerpostlaw01_RankSteps.r7.w, ↓ir.fingerpostlaw01_RankSteps.r8.w, ir.fingerpostlaw01_RankSteps.rs, go_sem, Nat.reduceAdd, Nat.reduceEqDiff, Nat.reduceMul, Nat.reduceLeDiff, Nat.reduceSub, Nat.reduceLT, ↓reduceIte, reduceCtorEq, List.reduceReplicate, List.flatten_cons, List.flatten_nil, List.append_nil, eq_self, e1, e2]
    refine callV_x (next_spec _ _ _ _ _ he hs) ?_
    rintro _ h1 ⟨⟨g1, rfl⟩, rfl⟩
    obtain ⟨a1, a2, a3, a4, hh⟩ := nextK_is e s m n
    simp (dsimp := false) only [↓ir.fingerpostlaw01_RankSteps.r0.w, ↓ir.fingerpostlaw01_RankSteps.r1.w, ↓ir.fingerpostlaw01_RankSteps.r2.w, ↓ir.fingerpostlaw01_RankSteps.r3.w, ↓ir.fingerpostlaw01_RankSteps.r4.w, ↓ir.fingerpostlaw01_RankSteps.r5.w, ↓ir.fingerpostlaw01_RankSteps.r6.w, ↓ir.fingerpostlaw01_RankSteps.r7.w, ↓ir.fingerpostlaw01_RankSteps.r8.w, ir.fingerpostlaw01_RankSteps.rs, go_sem, Nat.reduceAdd, Nat.reduceEqDiff, Nat.reduceMul, Nat.reduceLeDiff, Nat.reduceSub, Nat.reduceLT, ↓reduceIte, reduceCtorEq, List.reduceReplicate, List.flatten_cons, List.flatten_nil, List.append_nil, eq_self, hh]
    refine gTe (fun hc => ?_) (fun hc => ?_)
    · subst hc
      obtain ⟨k1, k2, k3⟩ := nextK_ok hs hh
      simp (dsimp := false) only [↓ir.fingerpostlaw01_RankSteps.r0.w, ↓ir.fingerpostlaw01_RankSteps.r1.w, ↓ir.fingerpostlaw01_RankSteps.r2.w, ↓ir.fingerpostlaw01_RankSteps.r3.w, ↓ir.fingerpostlaw01_RankSteps.r4.w, ↓ir.fingerpostlaw01_RankSteps.r5.w, ↓ir.fingerpostlaw01_RankSteps.r6.w, ↓ir.fingerpostlaw01_RankSteps.r7.w, ↓ir.fingerpostlaw01_RankSteps.r8.w, ir.fingerpostlaw01_RankSteps.rs, go_sem, Nat.reduceAdd, Nat.reduceEqDiff, Nat.reduceMul, Nat.reduceLeDiff, Nat.reduceSub, Nat.reduceLT, ↓reduceIte, reduceCtorEq, List.reduceReplicate, List.flatten_cons, List.flatten_nil, List.append_nil, eq_self]
      refine callV_of (newer_spec _ _ _ _ _ _ _) ?_
      simp (dsimp := false) only [↓ir.fingerpostlaw01_RankSteps.r0.w, ↓ir.fingerpostlaw01_RankSteps.r1.w, ↓ir.fingerpostlaw01_RankSteps.r2.w, ↓ir.fingerpostlaw01_RankSteps.r3.w, ↓ir.fingerpostlaw01_RankSteps.r4.w, ↓ir.fingerpostlaw01_RankSteps.r5.w, ↓ir.fingerpostlaw01_RankSteps.r6.w, ↓ir.fingerpostlaw01_RankSteps.r7.w, ↓ir.fingerpostlaw01_RankSteps.r8.w, ir.fingerpostlaw01_RankSteps.rs, go_sem, Nat.reduceAdd, Nat.reduceEqDiff, Nat.reduceMul, Nat.reduceLeDiff, Nat.reduceSub, Nat.reduceLT, ↓reduceIte, reduceCtorEq, List.reduceReplicate, List.flatten_cons, List.flatten_nil, List.append_nil, eq_self, k1, decide_true, Bool.not_true, k2, bne_self_eq_false]
      refine callV_of (right_spec _ _ _ _) ?_
      simp (dsimp := false) only [↓ir.fingerpostlaw01_RankSteps.r0.w, ↓ir.fingerpostlaw01_RankSteps.r1.w, ↓ir.fingerpostlaw01_RankSteps.r2.w, ↓ir.fingerpostlaw01_RankSteps.r3.w, ↓ir.fingerpostlaw01_RankSteps.r4.w, ↓ir.fingerpostlaw01_RankSteps.r5.w, ↓ir.fingerpostlaw01_RankSteps.r6.w, ↓ir.fingerpostlaw01_RankSteps.r7.w, ↓ir.fingerpostlaw01_RankSteps.r8.w, ir.fingerpostlaw01_RankSteps.rs, go_sem, Nat.reduceAdd, Nat.reduceEqDiff, Nat.reduceMul, Nat.reduceLeDiff, Nat.reduceSub, Nat.reduceLT, ↓reduceIte, reduceCtorEq, List.reduceReplicate, List.flatten_cons, List.flatten_nil, List.append_nil, eq_self, k2 ▸ k3, Bool.not_true]
      refine callV_of (right_spec _ _ _ _) ?_
      simp (dsimp := false) only [↓ir.fingerpostlaw01_RankSteps.r0.w, ↓ir.fingerpostlaw01_RankSteps.r1.w, ↓ir.fingerpostlaw01_RankSteps.r2.w, ↓ir.fingerpostlaw01_RankSteps.r3.w, ↓ir.fingerpostlaw01_RankSteps.r4.w, ↓ir.fingerpostlaw01_RankSteps.r5.w, ↓ir.fingerpostlaw01_RankSteps.r6.w, ↓ir.fingerpostlaw01_RankSteps.r7.w, ↓ir.fingerpostlaw01_RankSteps.r8.w, ir.fingerpostlaw01_RankSteps.rs, go_sem, Nat.reduceAdd, Nat.reduceEqDiff, Nat.reduceMul, Nat.reduceLeDiff, Nat.reduceSub, Nat.reduceLT, ↓reduceIte, reduceCtorEq, List.reduceReplicate, List.flatten_cons, List.flatten_nil, List.append_nil, eq_self, rightB_zero]
    · simp (dsimp := false) only [↓ir.fingerpostlaw01_RankSteps.r0.w, ↓ir.fingerpostlaw01_RankSteps.r1.w, ↓ir.fingerpostlaw01_RankSteps.r2.w, ↓ir.fingerpostlaw01_RankSteps.r3.w, ↓ir.fingerpostlaw01_RankSteps.r4.w, ↓ir.fingerpostlaw01_RankSteps.r5.w, ↓ir.fingerpostlaw01_RankSteps.r6.w, ↓ir.fingerpostlaw01_RankSteps.r7.w, ↓ir.fingerpostlaw01_RankSteps.r8.w, ir.fingerpostlaw01_RankSteps.rs, go_sem, Nat.reduceAdd, Nat.reduceEqDiff, Nat.reduceMul, Nat.reduceLeDiff, Nat.reduceSub, Nat.reduceLT, ↓reduceIte, reduceCtorEq, List.reduceReplicate, List.flatten_cons, List.flatten_nil, List.append_nil, eq_self]
      refine callV_of (right_spec _ _ _ _) ?_
      simp (dsimp := false) only [↓ir.fingerpostlaw01_RankSteps.r0.w, ↓ir.fingerpostlaw01_RankSteps.r1.w, ↓ir.fingerpostlaw01_RankSteps.r2.w, ↓ir.fingerpostlaw01_RankSteps.r3.w, ↓ir.fingerpostlaw01_RankSteps.r4.w, ↓ir.fingerpostlaw01_RankSteps.r5.w, ↓ir.fingerpostlaw01_RankSteps.r6.w, ↓ir.fingerpostlaw01_RankSteps.r7.w, ↓ir.fingerpostlaw01_RankSteps.r8.w, ir.fingerpostlaw01_RankSteps.rs, go_sem, Nat.reduceAdd, Nat.reduceEqDiff, Nat.reduceMul, Nat.reduceLeDiff, Nat.reduceSub, Nat.reduceLT, ↓reduceIte, reduceCtorEq, List.reduceReplicate, List.flatten_cons, List.flatten_nil, List.append_nil, eq_self, rightB_zero]
end Go.Proofs.Ytmeojocmngbpaaa.B
