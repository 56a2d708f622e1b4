/-
  Layer 24: counters.
-/
import Derived.Test.YtgndlhmjolaeiaaDoorC2
namespace Go.Proofs.YtgndlhmjolaeiaaDoor.B
open Go
set_option linter.unusedVariables false
set_option linter.unusedSimpArgs false
set_option maxRecDepth 100000
abbrev ints (L : List Int) : List Value := L.map (Value.int .i64)
theorem ints_rd {L : List Int} {i : Nat} (hi : i < L.length) : ((ints L).drop i).take 1 = [.int .i64 (L.getD i 0)] := by
  rw [List.drop_eq_getElem_cons (by simpa using hi)]
  simp [List.getD, hi]
theorem ints_set (L : List Int) (i : Nat) (x : Int) : setC (ints L) i [.int .i64 x] = ints (L.set i x) := by
  show (L.map (Value.int .i64)).set i (.int .i64 x) = (L.set i x).map (Value.int .i64)
  rw [List.map_set]
theorem Fx.irdA {h : AHeap} {b : Nat} {L : List Int} (k : Fx h b (ints L)) {i : Nat} (hi : i < L.length) (g : AHeap) : rds (h ++ g) b i 1 = some [.int .i64 (L.getD i 0)] := k.rdA (ints_rd hi) (by simp; omega) g
theorem Fx.ird {h : AHeap} {b : Nat} {L : List Int} (k : Fx h b (ints L)) {i : Nat} (hi : i < L.length) : rds h b i 1 = some [.int .i64 (L.getD i 0)] := k.rd (ints_rd hi) (by simp; omega)
theorem Fx.iwr {h : AHeap} {b : Nat} {L : List Int} (k : Fx h b (ints L)) {i : Nat} (hi : i < L.length) (x : Int) : wrs h b i [.int .i64 x] = some (h.set b (.row .fix (ints (L.set i x)))) := by
  rw [k.wr (by simp; omega), ints_set]
abbrev zeros : List Int := List.replicate 19 0
theorem new24_spec (h : AHeap) : Spec Tryd.prog nG fn.count_New [] h (.pointer (some ⟨h.length, 0, none⟩)) (h ++ [.row .fix (ints zeros)]) := by
  apply ir.count_New.spec (Nat.le_of_ble_eq_true rfl)
  have hz : ints zeros = [.int .i64 0, .int .i64 0, .int .i64 0, .int .i64 0, .int .i64 0, .int .i64 0, .int .i64 0, .int .i64 0, .int .i64 0, .int .i64 0, .int .i64 0, .int .i64 0, .int .i64 0, .int .i64 0, .int .i64 0, .int .i64 0, .int .i64 0, .int .i64 0, .int .i64 0] := rfl
  rw [hz]
  simp (dsimp := false) only [↓ir.count_New.bw, ir.count_New.rs, ↓ir.count_New.r0.w, ↓ir.count_New.r1.w, ir.count_New.rs, go_sem, Nat.reduceAdd, Nat.reduceEqDiff, Nat.reduceMul, Nat.reduceLeDiff, Nat.reduceSub, Nat.reduceLT, ↓reduceIte, reduceCtorEq, List.reduceReplicate, List.flatten_cons, List.flatten_nil, List.append_nil, eq_self, Int.reduceLE, Int.reduceLT, Int.reduceToNat, Nat.min_eq_left, Int.reducePow, Int.reduceNeg, Int.reduceEq]
  exact .inl ⟨rfl, rfl⟩
section
variable {h : AHeap} {b : Nat} {L : List Int}
theorem aload_spec (k : Fx h b (ints L)) {i : Nat} (hi : i < L.length) : Spec Tryd.prog nG fn.sync_atomic_Int64_Load [.pointer (some ⟨b, i, none⟩)] h (.int .i64 (L.getD i 0)) h := by
  apply ir.sync_atomic_Int64_Load.spec (Nat.le_of_ble_eq_true rfl)
  simp (dsimp := false) only [↓ir.sync_atomic_Int64_Load.bw, ir.sync_atomic_Int64_Load.rs, ↓ir.sync_atomic_Int64_Load.r0.w, ↓ir.sync_atomic_Int64_Load.r1.w, ir.sync_atomic_Int64_Load.rs, go_sem, Nat.reduceAdd, Nat.reduceEqDiff, Nat.reduceMul, Nat.reduceLeDiff, Nat.reduceSub, Nat.reduceLT, ↓reduceIte, reduceCtorEq, List.reduceReplicate, List.flatten_cons, List.flatten_nil, List.append_nil, eq_self, Int.reduceLE, Int.reduceLT, Int.reduceToNat, Nat.min_eq_left, Int.reducePow, Int.reduceNeg, Int.reduceEq]
  refine ⟨_, _, xload (k.ird hi), ?_⟩
  simp (dsimp := false) only [↓ir.sync_atomic_Int64_Load.r0.w, ↓ir.sync_atomic_Int64_Load.r1.w, ir.sync_atomic_Int64_Load.rs, go_sem, Nat.reduceAdd, Nat.reduceEqDiff, Nat.reduceMul, Nat.reduceLeDiff, Nat.reduceSub, Nat.reduceLT, ↓reduceIte, reduceCtorEq, List.reduceReplicate, List.flatten_cons, List.flatten_nil, List.append_nil, eq_self, Int.reduceLE, Int.reduceLT, Int.reduceToNat, Nat.min_eq_left, Int.reducePow, Int.reduceNeg, Int.reduceEq]
  exact .inl ⟨rfl, rfl⟩
theorem aadd_spec (k : Fx h b (ints L)) {i : Nat} (hi : i < L.length) (d : Int) : Spec Tryd.prog nG fn.sync_atomic_Int64_Add [.pointer (some ⟨b, i, none⟩), .int .i64 d] h (.int .i64 (IntKind.i64.wrap (L.getD i 0 + d))) (h.set b (.row .fix (ints (L.set i (IntKind.i64.wrap (L.getD i 0 + d)))))) := by
  apply ir.sync_atomic_Int64_Add.spec (Nat.le_of_ble_eq_true rfl)
  simp (dsimp := false) only [↓ir.sync_atomic_Int64_Add.bw, ir.sync_atomic_Int64_Add.rs, ↓ir.sync_atomic_Int64_Add.r0.w, ↓ir.sync_atomic_Int64_Add.r1.w, ir.sync_atomic_Int64_Add.rs, go_sem, Nat.reduceAdd, Nat.reduceEqDiff, Nat.reduceMul, Nat.reduceLeDiff, Nat.reduceSub, Nat.reduceLT, ↓reduceIte, reduceCtorEq, List.reduceReplicate, List.flatten_cons, List.flatten_nil, List.append_nil, eq_self, Int.reduceLE, Int.reduceLT, Int.reduceToNat, Nat.min_eq_left, Int.reducePow, Int.reduceNeg, Int.reduceEq]
  refine ⟨_, _, xadd (k.ird hi) (k.iwr hi _), ?_⟩
  simp (dsimp := false) only [↓ir.sync_atomic_Int64_Add.r0.w, ↓ir.sync_atomic_Int64_Add.r1.w, ir.sync_atomic_Int64_Add.rs, go_sem, Nat.reduceAdd, Nat.reduceEqDiff, Nat.reduceMul, Nat.reduceLeDiff, Nat.reduceSub, Nat.reduceLT, ↓reduceIte, reduceCtorEq, List.reduceReplicate, List.flatten_cons, List.flatten_nil, List.append_nil, eq_self, Int.reduceLE, Int.reduceLT, Int.reduceToNat, Nat.min_eq_left, Int.reducePow, Int.reduceNeg, Int.reduceEq]
  exact .inl ⟨rfl, rfl⟩
theorem get_spec (k : Fx h b (ints L)) (hl : L.length = 19) (n : Int) : Spec Tryd.prog nG fn.count_Counters_Get [.pointer (some ⟨b, 0, none⟩), .int .i64 n] h (.int .i64 (if 0 ≤ n ∧ n < 19 then L.getD n.toNat 0 else 0)) h := by
  apply ir.count_Counters_Get.spec (Nat.le_of_ble_eq_true rfl)
  simp (dsimp := false) only [↓ir.count_Counters_Get.bw, ir.count_Counters_Get.rs, ↓ir.count_Counters_Get.r0.w, ↓ir.count_Counters_Get.r1.w, ↓ir.count_Counters_Get.r2.w, ↓ir.count_Counters_Get.r3.w, ir.count_Counters_Get.rs, go_sem, Nat.reduceAdd, Nat.reduceEqDiff, Nat.reduceMul, Nat.reduceLeDiff, Nat.reduceSub, Nat.reduceLT, ↓reduceIte, reduceCtorEq, List.reduceReplicate, List.flatten_cons, List.flatten_nil, List.append_nil, eq_self, Int.reduceLE, Int.reduceLT, Int.reduceToNat, Nat.min_eq_left, Int.reducePow, Int.reduceNeg, Int.reduceEq]
  refine gFd (fun c => ?_) (fun c => ?_)
  · simp (dsimp := false) only [↓ir.count_Counters_Get.r0.w, ↓ir.count_Counters_Get.r1.w, ↓ir.count_Counters_Get.r2.w, ↓ir.count_Counters_Get.r3.w, ir.count_Counters_Get.rs, go_sem, Nat.reduceAdd, Nat.reduceEqDiff, Nat.reduceMul, Nat.reduceLeDiff, Nat.reduceSub, Nat.reduceLT, ↓reduceIte, reduceCtorEq, List.reduceReplicate, List.flatten_cons, List.flatten_nil, List.append_nil, eq_self, Int.reduceLE, Int.reduceLT, Int.reduceToNat, Nat.min_eq_left, Int.reducePow, Int.reduceNeg, Int.reduceEq]
    exact .inl ⟨by rw [if_neg (by omega)], rfl⟩
  · simp (dsimp := false) only [↓ir.count_Counters_Get.r0.w, ↓ir.count_Counters_Get.r1.w, ↓ir.count_Counters_Get.r2.w, ↓ir.count_Counters_Get.r3.w, ir.count_Counters_Get.rs, go_sem, Nat.reduceAdd, Nat.reduceEqDiff, Nat.reduceMul, Nat.reduceLeDiff, Nat.reduceSub, Nat.reduceLT, ↓reduceIte, reduceCtorEq, List.reduceReplicate, List.flatten_cons, List.flatten_nil, List.append_nil, eq_self, Int.reduceLE, Int.reduceLT, Int.reduceToNat, Nat.min_eq_left, Int.reducePow, Int.reduceNeg, Int.reduceEq]
    refine cVd (fun c2 => ?_) (fun c2 => ?_)
    · simp (dsimp := false) only [↓ir.count_Counters_Get.r0.w, ↓ir.count_Counters_Get.r1.w, ↓ir.count_Counters_Get.r2.w, ↓ir.count_Counters_Get.r3.w, ir.count_Counters_Get.rs, go_sem, Nat.reduceAdd, Nat.reduceEqDiff, Nat.reduceMul, Nat.reduceLeDiff, Nat.reduceSub, Nat.reduceLT, ↓reduceIte, reduceCtorEq, List.reduceReplicate, List.flatten_cons, List.flatten_nil, List.append_nil, eq_self, Int.reduceLE, Int.reduceLT, Int.reduceToNat, Nat.min_eq_left, Int.reducePow, Int.reduceNeg, Int.reduceEq]
      exact .inl ⟨by rw [if_neg (by omega)], rfl⟩
    · simp (dsimp := false) only [↓ir.count_Counters_Get.r0.w, ↓ir.count_Counters_Get.r1.w, ↓ir.count_Counters_Get.r2.w, ↓ir.count_Counters_Get.r3.w, ir.count_Counters_Get.rs, go_sem, Nat.reduceAdd, Nat.reduceEqDiff, Nat.reduceMul, Nat.reduceLeDiff, Nat.reduceSub, Nat.reduceLT, ↓reduceIte, reduceCtorEq, List.reduceReplicate, List.flatten_cons, List.flatten_nil, List.append_nil, eq_self, Int.reduceLE, Int.reduceLT, Int.reduceToNat, Nat.min_eq_left, Int.reducePow, Int.reduceNeg, Int.reduceEq, ixaV_ptr, Nat.zero_add, Nat.mul_one]
      refine ⟨by omega, ?_⟩
      refine callV_of (aload_spec k (by omega)) ?_
      simp (dsimp := false) only [↓ir.count_Counters_Get.r0.w, ↓ir.count_Counters_Get.r1.w, ↓ir.count_Counters_Get.r2.w, ↓ir.count_Counters_Get.r3.w, ir.count_Counters_Get.rs, go_sem, Nat.reduceAdd, Nat.reduceEqDiff, Nat.reduceMul, Nat.reduceLeDiff, Nat.reduceSub, Nat.reduceLT, ↓reduceIte, reduceCtorEq, List.reduceReplicate, List.flatten_cons, List.flatten_nil, List.append_nil, eq_self, Int.reduceLE, Int.reduceLT, Int.reduceToNat, Nat.min_eq_left, Int.reducePow, Int.reduceNeg, Int.reduceEq]
      exact .inl ⟨by rw [if_pos (by omega)], rfl⟩
theorem add_bad {n d : Int} (c : n < 0 ∨ 19 ≤ n ∨ d < 0) : Spec Tryd.prog nG fn.count_Counters_Add [.pointer (some ⟨b, 0, none⟩), .int .i64 n, .int .i64 d] h (.int .i64 1) h := by
  apply ir.count_Counters_Add.spec (Nat.le_of_ble_eq_true rfl)
  simp (dsimp := false) only [↓ir.count_Counters_Add.bw, ir.count_Counters_Add.rs, ↓ir.count_Counters_Add.r0.w, ↓ir.count_Counters_Add.r1.w, ↓ir.count_Counters_Add.r2.w, ↓ir.count_Counters_Add.r3.w, ↓ir.count_Counters_Add.r4.w, ↓ir.count_Counters_Add.r5.w, ↓ir.count_Counters_Add.r6.w, ir.count_Counters_Add.rs, go_sem, Nat.reduceAdd, Nat.reduceEqDiff, Nat.reduceMul, Nat.reduceLeDiff, Nat.reduceSub, Nat.reduceLT, ↓reduceIte, reduceCtorEq, List.reduceReplicate, List.flatten_cons, List.flatten_nil, List.append_nil, eq_self, Int.reduceLE, Int.reduceLT, Int.reduceToNat, Nat.min_eq_left, Int.reducePow, Int.reduceNeg, Int.reduceEq]
  repeat' (first | ((first | refine cVd (fun hc => ?_) (fun hc => ?_) | refine gTd (fun hc => ?_) (fun hc => ?_) | refine gFd (fun hc => ?_) (fun hc => ?_) | refine cVe (fun hc => ?_) (fun hc => ?_) | refine gTe (fun hc => ?_) (fun hc => ?_) | refine gFe (fun hc => ?_) (fun hc => ?_) | refine cVn (fun hc => ?_) (fun hc => ?_) | refine gTn (fun hc => ?_) (fun hc => ?_) | refine gFn (fun hc => ?_) (fun hc => ?_) | refine cV (fun hc => ?_) (fun hc => ?_) | refine gT (fun hc => ?_) (fun hc => ?_) | refine gF (fun hc => ?_) (fun hc => ?_)) <;> try simp (dsimp := false) only [↓ir.count_Counters_Add.r0.w, ↓ir.count_Counters_Add.r1.w, ↓ir.count_Counters_Add.r2.w, ↓ir.count_Counters_Add.r3.w, ↓ir.count_Counters_Add.r4.w, ↓ir.count_Counters_Add.r5.w, ↓ir.count_Counters_Add.r6.w, ir.count_Counters_Add.rs, go_sem, Nat.reduceAdd, Nat.reduceEqDiff, Nat.reduceMul, Nat.reduceLeDiff, Nat.reduceSub, Nat.reduceLT, ↓reduceIte, reduceCtorEq, List.reduceReplicate, List.flatten_cons, List.flatten_nil, List.append_nil, eq_self, Int.reduceLE, Int.reduceLT, Int.reduceToNat, Nat.min_eq_left, Int.reducePow, Int.reduceNeg, Int.reduceEq]) | (with_reducible refine And.intro (by omega) ?_ <;> try simp (dsimp := false) only [↓ir.count_Counters_Add.r0.w, ↓ir.count_Counters_Add.r1.w, ↓ir.count_Counters_Add.r2.w, ↓ir.count_Counters_Add.r3.w, ↓ir.count_Counters_Add.r4.w, ↓ir.count_Counters_Add.r5.w, ↓ir.count_Counters_Add.r6.w, ir.count_Counters_Add.rs, go_sem, Nat.reduceAdd, Nat.reduceEqDiff, Nat.reduceMul, Nat.reduceLeDiff, Nat.reduceSub, Nat.reduceLT, ↓reduceIte, reduceCtorEq, List.reduceReplicate, List.flatten_cons, List.flatten_nil, List.append_nil, eq_self, Int.reduceLE, Int.reduceLT, Int.reduceToNat, Nat.min_eq_left, Int.reducePow, Int.reduceNeg, Int.reduceEq]))
  all_goals first | exact .inl ⟨rfl, rfl⟩ | (exfalso; omega)
theorem add_good (k : Fx h b (ints L)) (hl : L.length = 19) {n d : Int} (hn : 0 ≤ n ∧ n < 19) (hd : 0 ≤ d) : Spec Tryd.prog nG fn.count_Counters_Add [.pointer (some ⟨b, 0, none⟩), .int .i64 n, .int .i64 d] h (.int .i64 0) (h.set b (.row .fix (ints (L.set n.toNat (IntKind.i64.wrap (L.getD n.toNat 0 + d)))))) := by
  apply ir.count_Counters_Add.spec (Nat.le_of_ble_eq_true rfl)
  have d1 : decide (n < 0) = false := decide_eq_false (by omega)
  have d2 : decide (19 ≤ n) = false := decide_eq_false (by omega)
  have d3 : decide (d < 0) = false := decide_eq_false (by omega)
  have d4 : decide (n ≥ 19) = false := d2
  simp (dsimp := false) only [↓ir.count_Counters_Add.bw, ir.count_Counters_Add.rs, ↓ir.count_Counters_Add.r0.w, ↓ir.count_Counters_Add.r1.w, ↓ir.count_Counters_Add.r2.w, ↓ir.count_Counters_Add.r3.w, ↓ir.count_Counters_Add.r4.w, ↓ir.count_Counters_Add.r5.w, ↓ir.count_Counters_Add.r6.w, ir.count_Counters_Add.rs, go_sem, Nat.reduceAdd, Nat.reduceEqDiff, Nat.reduceMul, Nat.reduceLeDiff, Nat.reduceSub, Nat.reduceLT, ↓reduceIte, reduceCtorEq, List.reduceReplicate, List.flatten_cons, List.flatten_nil, List.append_nil, eq_self, Int.reduceLE, Int.reduceLT, Int.reduceToNat, Nat.min_eq_left, Int.reducePow, Int.reduceNeg, Int.reduceEq, d1, d2, d3, d4, ixaV_ptr, Nat.zero_add, Nat.mul_one]
  refine ⟨by omega, ?_⟩
  refine callV_of (aadd_spec k (by omega) d) ?_
  simp (dsimp := false) only [↓ir.count_Counters_Add.r0.w, ↓ir.count_Counters_Add.r1.w, ↓ir.count_Counters_Add.r2.w, ↓ir.count_Counters_Add.r3.w, ↓ir.count_Counters_Add.r4.w, ↓ir.count_Counters_Add.r5.w, ↓ir.count_Counters_Add.r6.w, ir.count_Counters_Add.rs, go_sem, Nat.reduceAdd, Nat.reduceEqDiff, Nat.reduceMul, Nat.reduceLeDiff, Nat.reduceSub, Nat.reduceLT, ↓reduceIte, reduceCtorEq, List.reduceReplicate, List.flatten_cons, List.flatten_nil, List.append_nil, eq_self, Int.reduceLE, Int.reduceLT, Int.reduceToNat, Nat.min_eq_left, Int.reducePow, Int.reduceNeg, Int.reduceEq]
  exact .inl ⟨rfl, rfl⟩
theorem bump_spec (k : Fx h b (ints L)) (hl : L.length = 19) {n : Int} (hn : 0 ≤ n ∧ n < 19) : Spec Tryd.prog nG fn.count_Counters_Bump [.pointer (some ⟨b, 0, none⟩), .int .i64 n] h (.int .i64 0) (h.set b (.row .fix (ints (L.set n.toNat (IntKind.i64.wrap (L.getD n.toNat 0 + 1)))))) := by
  apply ir.count_Counters_Bump.spec (Nat.le_of_ble_eq_true rfl)
  simp (dsimp := false) only [↓ir.count_Counters_Bump.bw, ir.count_Counters_Bump.rs, ↓ir.count_Counters_Bump.r0.w, ↓ir.count_Counters_Bump.r1.w, ir.count_Counters_Bump.rs, go_sem, Nat.reduceAdd, Nat.reduceEqDiff, Nat.reduceMul, Nat.reduceLeDiff, Nat.reduceSub, Nat.reduceLT, ↓reduceIte, reduceCtorEq, List.reduceReplicate, List.flatten_cons, List.flatten_nil, List.append_nil, eq_self, Int.reduceLE, Int.reduceLT, Int.reduceToNat, Nat.min_eq_left, Int.reducePow, Int.reduceNeg, Int.reduceEq]
  refine callV_of (add_good k hl hn (by decide)) ?_
  simp (dsimp := false) only [↓ir.count_Counters_Bump.r0.w, ↓ir.count_Counters_Bump.r1.w, ir.count_Counters_Bump.rs, go_sem, Nat.reduceAdd, Nat.reduceEqDiff, Nat.reduceMul, Nat.reduceLeDiff, Nat.reduceSub, Nat.reduceLT, ↓reduceIte, reduceCtorEq, List.reduceReplicate, List.flatten_cons, List.flatten_nil, List.append_nil, eq_self, Int.reduceLE, Int.reduceLT, Int.reduceToNat, Nat.min_eq_left, Int.reducePow, Int.reduceNeg, Int.reduceEq]
  exact .inl ⟨rfl, rfl⟩
theorem all24_ow (k : Fx h b (ints L)) (hl : L.length = 19) : SpecX Tryd.prog nG fn.count_Counters_All [.pointer (some ⟨b, 0, none⟩)] h fun v' h' => Pre h h' ∧ Ow h h' 1 v' 19 (ints L) := by
  refine SpecX.of_body (ir.count_Counters_All.spec (Nat.le_of_ble_eq_true rfl)) ?_
  simp (dsimp := false) only [↓ir.count_Counters_All.bw, ir.count_Counters_All.rs, ↓ir.count_Counters_All.r0.w, ↓ir.count_Counters_All.r1.w, ↓ir.count_Counters_All.r2.w, ↓ir.count_Counters_All.r3.w, ↓ir.count_Counters_All.r4.w, ↓ir.count_Counters_All.r5.w, ↓ir.count_Counters_All.r6.w, ↓ir.count_Counters_All.l1.w, ↓ir.count_Counters_All.r7.w, ir.count_Counters_All.rs, go_sem, Nat.reduceAdd, Nat.reduceEqDiff, Nat.reduceMul, Nat.reduceLeDiff, Nat.reduceSub, Nat.reduceLT, ↓reduceIte, reduceCtorEq, List.reduceReplicate, List.flatten_cons, List.flatten_nil, List.append_nil, eq_self, Int.reduceLE, Int.reduceLT, Int.reduceToNat, Nat.min_eq_left, Int.reducePow, Int.reduceNeg, Int.reduceEq]
  refine loopV_of (fun m e h2 => ∃ (i : Nat) (u : Value), m = 19 - i ∧ i ≤ 19 ∧ Pre h h2 ∧ Ow h h2 1 u i (ints (L.take i)) ∧ e = [(0, .pointer (some ⟨b, 0, none⟩)), (3, u), (5, .int .i64 i)]) _
    ⟨0, _, rfl, Nat.zero_le _, .refl _, .nil, rfl⟩ ?_
  rintro m e h2 ⟨i, u, rfl, hi, hp, ho, rfl⟩
  rcases Nat.lt_or_ge i 19 with hlt | hge
  · have hd : decide ((i : Int) < 19) = true := by simpa using (by omega : (i : Int) < 19)
    have e1 : IntKind.i64.wrap ((i : Int) + 1) = ((i + 1 : Nat) : Int) := wrap_succ hlt (by unfold maxI; omega)
    simp (dsimp := false) only [↓ir.count_Counters_All.l1.bw, ↓ir.count_Counters_All.r0.w, ↓ir.count_Counters_All.r1.w, ↓ir.count_Counters_All.r2.w, ↓ir.count_Counters_All.r3.w, ↓ir.count_Counters_All.r4.w, ↓ir.count_Counters_All.r5.w, ↓ir.count_Counters_All.r6.w, ↓ir.count_Counters_All.l1.w, ↓ir.count_Counters_All.r7.w, ir.count_Counters_All.rs, go_sem, Nat.reduceAdd, Nat.reduceEqDiff, Nat.reduceMul, Nat.reduceLeDiff, Nat.reduceSub, Nat.reduceLT, ↓reduceIte, reduceCtorEq, List.reduceReplicate, List.flatten_cons, List.flatten_nil, List.append_nil, eq_self, Int.reduceLE, Int.reduceLT, Int.reduceToNat, Nat.min_eq_left, Int.reducePow, Int.reduceNeg, Int.reduceEq, hd]
    refine callV_of (get_spec (k.pre hp) hl _) ?_
    rw [if_pos (by omega), Int.toNat_natCast]
    simp (dsimp := false) only [↓ir.count_Counters_All.r0.w, ↓ir.count_Counters_All.r1.w, ↓ir.count_Counters_All.r2.w, ↓ir.count_Counters_All.r3.w, ↓ir.count_Counters_All.r4.w, ↓ir.count_Counters_All.r5.w, ↓ir.count_Counters_All.r6.w, ↓ir.count_Counters_All.l1.w, ↓ir.count_Counters_All.r7.w, ir.count_Counters_All.rs, go_sem, Nat.reduceAdd, Nat.reduceEqDiff, Nat.reduceMul, Nat.reduceLeDiff, Nat.reduceSub, Nat.reduceLT, ↓reduceIte, reduceCtorEq, List.reduceReplicate, List.flatten_cons, List.flatten_nil, List.append_nil, eq_self, Int.reduceLE, Int.reduceLT, Int.reduceToNat, Nat.min_eq_left, Int.reducePow, Int.reduceNeg, Int.reduceEq]
    refine (ho.pre (.app _ _)).app (m := 1) rfl rfl ⟨by omega, by omega⟩ (fun u' h' ho' hc _ _ => ?_) (hp.app' _)
    simp (dsimp := false) only [↓ir.count_Counters_All.r0.w, ↓ir.count_Counters_All.r1.w, ↓ir.count_Counters_All.r2.w, ↓ir.count_Counters_All.r3.w, ↓ir.count_Counters_All.r4.w, ↓ir.count_Counters_All.r5.w, ↓ir.count_Counters_All.r6.w, ↓ir.count_Counters_All.l1.w, ↓ir.count_Counters_All.r7.w, ir.count_Counters_All.rs, go_sem, Nat.reduceAdd, Nat.reduceEqDiff, Nat.reduceMul, Nat.reduceLeDiff, Nat.reduceSub, Nat.reduceLT, ↓reduceIte, reduceCtorEq, List.reduceReplicate, List.flatten_cons, List.flatten_nil, List.append_nil, eq_self, Int.reduceLE, Int.reduceLT, Int.reduceToNat, Nat.min_eq_left, Int.reducePow, Int.reduceNeg, Int.reduceEq, e1]
    refine ⟨_, by omega, i + 1, u', rfl, by omega, hc.pre (hp.app' _), ?_, rfl⟩
    rw [List.take_succ_eq_append_getElem (by omega), ints, List.map_append]
    have e2 : L.getD i 0 = L[i] := by rw [List.getD_eq_getElem?_getD, List.getElem?_eq_getElem (by omega)]; rfl
    rw [e2] at ho'
    exact ho'
  · have hd : decide ((i : Int) < 19) = false := by simpa using (by omega : ¬ (i : Int) < 19)
    simp (dsimp := false) only [↓ir.count_Counters_All.l1.bw, ↓ir.count_Counters_All.r0.w, ↓ir.count_Counters_All.r1.w, ↓ir.count_Counters_All.r2.w, ↓ir.count_Counters_All.r3.w, ↓ir.count_Counters_All.r4.w, ↓ir.count_Counters_All.r5.w, ↓ir.count_Counters_All.r6.w, ↓ir.count_Counters_All.l1.w, ↓ir.count_Counters_All.r7.w, ir.count_Counters_All.rs, go_sem, Nat.reduceAdd, Nat.reduceEqDiff, Nat.reduceMul, Nat.reduceLeDiff, Nat.reduceSub, Nat.reduceLT, ↓reduceIte, reduceCtorEq, List.reduceReplicate, List.flatten_cons, List.flatten_nil, List.append_nil, eq_self, Int.reduceLE, Int.reduceLT, Int.reduceToNat, Nat.min_eq_left, Int.reducePow, Int.reduceNeg, Int.reduceEq, hd]
    obtain rfl : i = 19 := by omega
    rw [List.take_of_length_le (by omega)] at ho
    exact ⟨hp, ho⟩
theorem Ow.lsI {h0 : AHeap} {v : Value} (ho : Ow h0 h 1 v 19 (ints L)) (hl : L.length = 19) : Ls h 1 (fun c x => c = [.int .i64 x]) v L := by
  have hs := ho.sl
  rw [← hl] at hs
  rw [show ints L = L.flatMap (fun x => [Value.int .i64 x]) from List.map_eq_flatMap] at hs
  exact hs.ls (fun _ => rfl) rfl
theorem all24_spec (k : Fx h b (ints L)) (hl : L.length = 19) : SpecX Tryd.prog nG fn.count_Counters_All [.pointer (some ⟨b, 0, none⟩)] h fun v' h' => Pre h h' ∧ Ls h' 1 (fun c x => c = [.int .i64 x]) v' L := by
  obtain ⟨v, h', hs, hp, ho⟩ := all24_ow k hl
  exact ⟨v, h', hs, hp, ho.lsI hl⟩
end
end Go.Proofs.YtgndlhmjolaeiaaDoor.B
