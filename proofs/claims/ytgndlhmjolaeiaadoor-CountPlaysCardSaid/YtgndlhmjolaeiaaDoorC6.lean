/-
  Layer 24: the document's example; names (P24.2).
-/
import Derived.Test.YtgndlhmjolaeiaaDoorC5
namespace Go.Proofs.YtgndlhmjolaeiaaDoor.B
open Go
set_option linter.unusedVariables false
set_option linter.unusedSimpArgs false
set_option maxRecDepth 100000
theorem zeros_len : zeros.length = 19 := rfl
theorem lok_small {L : List Int} (h : L.all (fun x => decide (i64ok' x)) = true) : lok L := fun i => by
  by_cases hi : i < L.length
  · rw [List.getD_eq_getElem?_getD, List.getElem?_eq_getElem hi]
    have := List.all_eq_true.1 h _ (List.getElem_mem hi)
    simpa using this
  · rw [List.getD_eq_getElem?_getD, List.getElem?_eq_none (by omega)]
    exact ⟨by decide, by decide⟩
abbrev exL1 : List Int := zeros.set 4 1
abbrev exL2 : List Int := exL1.set 0 2
theorem ex_text : rtS exL2 19 = lit_bbc467c7 := by kernel_rfl
theorem awake24_spec {h : AHeap} (k : CountV h) : Spec Tryd.prog nG fn.law24_awake [] h (.bool true) h := by
  refine Spec.drop (h2 := ((h ++ [AObj.row .fix (ints zeros)]).set h.length (AObj.row .fix (ints exL1))).set h.length (AObj.row .fix (ints exL2))) ?_ (((Pre.app h _).put (Nat.le_refl _) _).put (Nat.le_refl _) _) rfl
  have p1 : Pre h (h ++ [AObj.row .fix (ints zeros)]) := .app _ _
  have k1 : Fx (h ++ [AObj.row .fix (ints zeros)]) h.length (ints zeros) := by simp [Fx]
  have k2 := k1.set (ints exL1)
  have k3 := k2.set (ints exL2)
  have kv : CountV (((h ++ [AObj.row .fix (ints zeros)]).set h.length (AObj.row .fix (ints exL1))).set h.length (AObj.row .fix (ints exL2))) := k.pre ((p1.put (Nat.le_refl _) _).put (Nat.le_refl _) _)
  apply ir.law24_awake.spec (Nat.le_of_ble_eq_true rfl)
  simp (dsimp := false) only [↓ir.law24_awake.bw, ir.law24_awake.rs, ↓ir.law24_awake.r0.w, ↓ir.law24_awake.r1.w, ↓ir.law24_awake.r2.w, ↓ir.law24_awake.r3.w, ↓ir.law24_awake.r4.w, ir.law24_awake.rs, go_sem, Nat.reduceAdd, Nat.reduceEqDiff, Nat.reduceMul, Nat.reduceLeDiff, Nat.reduceSub, Nat.reduceLT, ↓reduceIte, reduceCtorEq, List.reduceReplicate, List.flatten_cons, List.flatten_nil, List.append_nil, eq_self, Int.reduceLE, Int.reduceLT, Int.reduceToNat, Nat.min_eq_left, Int.reducePow, Int.reduceNeg, Int.reduceEq]
  refine callV_of (new24_spec _) ?_
  generalize h ++ [AObj.row Mode.fix (ints zeros)] = h1 at *
  simp (dsimp := false) only [↓ir.law24_awake.r0.w, ↓ir.law24_awake.r1.w, ↓ir.law24_awake.r2.w, ↓ir.law24_awake.r3.w, ↓ir.law24_awake.r4.w, ir.law24_awake.rs, go_sem, Nat.reduceAdd, Nat.reduceEqDiff, Nat.reduceMul, Nat.reduceLeDiff, Nat.reduceSub, Nat.reduceLT, ↓reduceIte, reduceCtorEq, List.reduceReplicate, List.flatten_cons, List.flatten_nil, List.append_nil, eq_self, Int.reduceLE, Int.reduceLT, Int.reduceToNat, Nat.min_eq_left, Int.reducePow, Int.reduceNeg, Int.reduceEq]
  refine callV_of (bump_spec k1 rfl (n := 4) (by decide)) ?_
  rw [show zeros.set (4 : Int).toNat (IntKind.i64.wrap (zeros.getD (4 : Int).toNat 0 + 1)) = exL1 from rfl]
  generalize h1.set h.length (AObj.row Mode.fix (ints exL1)) = h2 at *
  simp (dsimp := false) only [↓ir.law24_awake.r0.w, ↓ir.law24_awake.r1.w, ↓ir.law24_awake.r2.w, ↓ir.law24_awake.r3.w, ↓ir.law24_awake.r4.w, ir.law24_awake.rs, go_sem, Nat.reduceAdd, Nat.reduceEqDiff, Nat.reduceMul, Nat.reduceLeDiff, Nat.reduceSub, Nat.reduceLT, ↓reduceIte, reduceCtorEq, List.reduceReplicate, List.flatten_cons, List.flatten_nil, List.append_nil, eq_self, Int.reduceLE, Int.reduceLT, Int.reduceToNat, Nat.min_eq_left, Int.reducePow, Int.reduceNeg, Int.reduceEq]
  refine callV_of (add_good k2 rfl (n := 0) (d := 2) (by decide) (by decide)) ?_
  rw [show exL1.set (0 : Int).toNat (IntKind.i64.wrap (exL1.getD (0 : Int).toNat 0 + 2)) = exL2 from rfl]
  generalize h2.set h.length (AObj.row Mode.fix (ints exL2)) = h3 at *
  simp (dsimp := false) only [↓ir.law24_awake.r0.w, ↓ir.law24_awake.r1.w, ↓ir.law24_awake.r2.w, ↓ir.law24_awake.r3.w, ↓ir.law24_awake.r4.w, ir.law24_awake.rs, go_sem, Nat.reduceAdd, Nat.reduceEqDiff, Nat.reduceMul, Nat.reduceLeDiff, Nat.reduceSub, Nat.reduceLT, ↓reduceIte, reduceCtorEq, List.reduceReplicate, List.flatten_cons, List.flatten_nil, List.append_nil, eq_self, Int.reduceLE, Int.reduceLT, Int.reduceToNat, Nat.min_eq_left, Int.reducePow, Int.reduceNeg, Int.reduceEq]
  refine callV_of (text24_spec kv k3 rfl (lok_small (by decide))) ?_
  rw [ex_text]
  simp (dsimp := false) only [↓ir.law24_awake.r0.w, ↓ir.law24_awake.r1.w, ↓ir.law24_awake.r2.w, ↓ir.law24_awake.r3.w, ↓ir.law24_awake.r4.w, ir.law24_awake.rs, go_sem, Nat.reduceAdd, Nat.reduceEqDiff, Nat.reduceMul, Nat.reduceLeDiff, Nat.reduceSub, Nat.reduceLT, ↓reduceIte, reduceCtorEq, List.reduceReplicate, List.flatten_cons, List.flatten_nil, List.append_nil, eq_self, Int.reduceLE, Int.reduceLT, Int.reduceToNat, Nat.min_eq_left, Int.reducePow, Int.reduceNeg, Int.reduceEq, beq_self_eq_true]
  refine callV_of (cof_spec _ _) ?_
  rw [show ofI 24 = 4 from rfl]
  simp (dsimp := false) only [↓ir.law24_awake.r0.w, ↓ir.law24_awake.r1.w, ↓ir.law24_awake.r2.w, ↓ir.law24_awake.r3.w, ↓ir.law24_awake.r4.w, ir.law24_awake.rs, go_sem, Nat.reduceAdd, Nat.reduceEqDiff, Nat.reduceMul, Nat.reduceLeDiff, Nat.reduceSub, Nat.reduceLT, ↓reduceIte, reduceCtorEq, List.reduceReplicate, List.flatten_cons, List.flatten_nil, List.append_nil, eq_self, Int.reduceLE, Int.reduceLT, Int.reduceToNat, Nat.min_eq_left, Int.reducePow, Int.reduceNeg, Int.reduceEq]
  exact .inl ⟨rfl, rfl⟩
theorem wh_names : (List.range 19).all (fun k => decide (whF (countB.getD k ⟨#[]⟩) = k)) = true := by kernel_rfl
theorem wh_name {n : Int} (hn : 0 ≤ n ∧ n < 19) : whF (nmS countB n) = n := by
  have h := List.all_eq_true.1 wh_names n.toNat (List.mem_range.2 (by omega))
  have h2 : whF (countB.getD n.toNat ⟨#[]⟩) = n.toNat := by simpa using h
  unfold nmS
  rw [if_pos (by rw [countB_len]; omega), h2]
  omega
theorem countNames_spec {h : AHeap} (k : CountV h) (n : Int) (s : ByteArray) (e : Int) :
    SpecX Tryd.prog nG fn.law24_CountNames [.int .i64 n, .string s, .int .i64 e] h fun v' _ => v' = .bool true := by
  refine SpecX.of_body (ir.law24_CountNames.spec (Nat.le_of_ble_eq_true rfl)) ?_
  simp (dsimp := false) only [↓ir.law24_CountNames.bw, ir.law24_CountNames.rs, ↓ir.law24_CountNames.r0.w, ↓ir.law24_CountNames.r1.w, ir.law24_CountNames.rs, go_sem, Nat.reduceAdd, Nat.reduceEqDiff, Nat.reduceMul, Nat.reduceLeDiff, Nat.reduceSub, Nat.reduceLT, ↓reduceIte, reduceCtorEq, List.reduceReplicate, List.flatten_cons, List.flatten_nil, List.append_nil, eq_self, Int.reduceLE, Int.reduceLT, Int.reduceToNat, Nat.min_eq_left, Int.reducePow, Int.reduceNeg, Int.reduceEq]
  refine callV_of (awake24_spec k) ?_
  simp (dsimp := false) only [↓ir.law24_CountNames.r0.w, ↓ir.law24_CountNames.r1.w, ir.law24_CountNames.rs, go_sem, Nat.reduceAdd, Nat.reduceEqDiff, Nat.reduceMul, Nat.reduceLeDiff, Nat.reduceSub, Nat.reduceLT, ↓reduceIte, reduceCtorEq, List.reduceReplicate, List.flatten_cons, List.flatten_nil, List.append_nil, eq_self, Int.reduceLE, Int.reduceLT, Int.reduceToNat, Nat.min_eq_left, Int.reducePow, Int.reduceNeg, Int.reduceEq]
  refine callV_of (cname_spec k _) ?_
  simp (dsimp := false) only [↓ir.law24_CountNames.r0.w, ↓ir.law24_CountNames.r1.w, ir.law24_CountNames.rs, go_sem, Nat.reduceAdd, Nat.reduceEqDiff, Nat.reduceMul, Nat.reduceLeDiff, Nat.reduceSub, Nat.reduceLT, ↓reduceIte, reduceCtorEq, List.reduceReplicate, List.flatten_cons, List.flatten_nil, List.append_nil, eq_self, Int.reduceLE, Int.reduceLT, Int.reduceToNat, Nat.min_eq_left, Int.reducePow, Int.reduceNeg, Int.reduceEq]
  refine callV_of (rname24_spec _ _) ?_
  simp (dsimp := false) only [↓ir.law24_CountNames.r0.w, ↓ir.law24_CountNames.r1.w, ir.law24_CountNames.rs, go_sem, Nat.reduceAdd, Nat.reduceEqDiff, Nat.reduceMul, Nat.reduceLeDiff, Nat.reduceSub, Nat.reduceLT, ↓reduceIte, reduceCtorEq, List.reduceReplicate, List.flatten_cons, List.flatten_nil, List.append_nil, eq_self, Int.reduceLE, Int.reduceLT, Int.reduceToNat, Nat.min_eq_left, Int.reducePow, Int.reduceNeg, Int.reduceEq, beq_self_eq_true]
  refine callV_of (cwhich_spec k _) ?_
  simp (dsimp := false) only [↓ir.law24_CountNames.r0.w, ↓ir.law24_CountNames.r1.w, ir.law24_CountNames.rs, go_sem, Nat.reduceAdd, Nat.reduceEqDiff, Nat.reduceMul, Nat.reduceLeDiff, Nat.reduceSub, Nat.reduceLT, ↓reduceIte, reduceCtorEq, List.reduceReplicate, List.flatten_cons, List.flatten_nil, List.append_nil, eq_self, Int.reduceLE, Int.reduceLT, Int.reduceToNat, Nat.min_eq_left, Int.reducePow, Int.reduceNeg, Int.reduceEq]
  refine callV_of (rwhich_spec _ _) ?_
  simp (dsimp := false) only [↓ir.law24_CountNames.r0.w, ↓ir.law24_CountNames.r1.w, ir.law24_CountNames.rs, go_sem, Nat.reduceAdd, Nat.reduceEqDiff, Nat.reduceMul, Nat.reduceLeDiff, Nat.reduceSub, Nat.reduceLT, ↓reduceIte, reduceCtorEq, List.reduceReplicate, List.flatten_cons, List.flatten_nil, List.append_nil, eq_self, Int.reduceLE, Int.reduceLT, Int.reduceToNat, Nat.min_eq_left, Int.reducePow, Int.reduceNeg, Int.reduceEq, beq_self_eq_true]
  refine callV_of (cof_spec _ _) ?_
  simp (dsimp := false) only [↓ir.law24_CountNames.r0.w, ↓ir.law24_CountNames.r1.w, ir.law24_CountNames.rs, go_sem, Nat.reduceAdd, Nat.reduceEqDiff, Nat.reduceMul, Nat.reduceLeDiff, Nat.reduceSub, Nat.reduceLT, ↓reduceIte, reduceCtorEq, List.reduceReplicate, List.flatten_cons, List.flatten_nil, List.append_nil, eq_self, Int.reduceLE, Int.reduceLT, Int.reduceToNat, Nat.min_eq_left, Int.reducePow, Int.reduceNeg, Int.reduceEq]
  refine callV_of (rof_spec _ _) ?_
  simp (dsimp := false) only [↓ir.law24_CountNames.r0.w, ↓ir.law24_CountNames.r1.w, ir.law24_CountNames.rs, go_sem, Nat.reduceAdd, Nat.reduceEqDiff, Nat.reduceMul, Nat.reduceLeDiff, Nat.reduceSub, Nat.reduceLT, ↓reduceIte, reduceCtorEq, List.reduceReplicate, List.flatten_cons, List.flatten_nil, List.append_nil, eq_self, Int.reduceLE, Int.reduceLT, Int.reduceToNat, Nat.min_eq_left, Int.reducePow, Int.reduceNeg, Int.reduceEq, beq_self_eq_true]
  refine callV_of (rname24_spec _ _) ?_
  simp (dsimp := false) only [↓ir.law24_CountNames.r0.w, ↓ir.law24_CountNames.r1.w, ir.law24_CountNames.rs, go_sem, Nat.reduceAdd, Nat.reduceEqDiff, Nat.reduceMul, Nat.reduceLeDiff, Nat.reduceSub, Nat.reduceLT, ↓reduceIte, reduceCtorEq, List.reduceReplicate, List.flatten_cons, List.flatten_nil, List.append_nil, eq_self, Int.reduceLE, Int.reduceLT, Int.reduceToNat, Nat.min_eq_left, Int.reducePow, Int.reduceNeg, Int.reduceEq]
  refine gF (fun c => ?_) (fun c => ?_)
  · simp (dsimp := false) only [↓ir.law24_CountNames.r0.w, ↓ir.law24_CountNames.r1.w, ir.law24_CountNames.rs, go_sem, Nat.reduceAdd, Nat.reduceEqDiff, Nat.reduceMul, Nat.reduceLeDiff, Nat.reduceSub, Nat.reduceLT, ↓reduceIte, reduceCtorEq, List.reduceReplicate, List.flatten_cons, List.flatten_nil, List.append_nil, eq_self, Int.reduceLE, Int.reduceLT, Int.reduceToNat, Nat.min_eq_left, Int.reducePow, Int.reduceNeg, Int.reduceEq]
  · have hn : 0 ≤ n ∧ n < 19 := Classical.byContradiction fun q => by
      rw [nmS_out (by rw [countB_len]; omega)] at c
      simp at c
    simp (dsimp := false) only [↓ir.law24_CountNames.r0.w, ↓ir.law24_CountNames.r1.w, ir.law24_CountNames.rs, go_sem, Nat.reduceAdd, Nat.reduceEqDiff, Nat.reduceMul, Nat.reduceLeDiff, Nat.reduceSub, Nat.reduceLT, ↓reduceIte, reduceCtorEq, List.reduceReplicate, List.flatten_cons, List.flatten_nil, List.append_nil, eq_self, Int.reduceLE, Int.reduceLT, Int.reduceToNat, Nat.min_eq_left, Int.reducePow, Int.reduceNeg, Int.reduceEq]
    refine callV_of (cname_spec k _) ?_
    simp (dsimp := false) only [↓ir.law24_CountNames.r0.w, ↓ir.law24_CountNames.r1.w, ir.law24_CountNames.rs, go_sem, Nat.reduceAdd, Nat.reduceEqDiff, Nat.reduceMul, Nat.reduceLeDiff, Nat.reduceSub, Nat.reduceLT, ↓reduceIte, reduceCtorEq, List.reduceReplicate, List.flatten_cons, List.flatten_nil, List.append_nil, eq_self, Int.reduceLE, Int.reduceLT, Int.reduceToNat, Nat.min_eq_left, Int.reducePow, Int.reduceNeg, Int.reduceEq]
    refine callV_of (cwhich_spec k _) ?_
    rw [wh_name hn]
    simp (dsimp := false) only [↓ir.law24_CountNames.r0.w, ↓ir.law24_CountNames.r1.w, ir.law24_CountNames.rs, go_sem, Nat.reduceAdd, Nat.reduceEqDiff, Nat.reduceMul, Nat.reduceLeDiff, Nat.reduceSub, Nat.reduceLT, ↓reduceIte, reduceCtorEq, List.reduceReplicate, List.flatten_cons, List.flatten_nil, List.append_nil, eq_self, Int.reduceLE, Int.reduceLT, Int.reduceToNat, Nat.min_eq_left, Int.reducePow, Int.reduceNeg, Int.reduceEq, beq_self_eq_true]
end Go.Proofs.YtgndlhmjolaeiaaDoor.B
