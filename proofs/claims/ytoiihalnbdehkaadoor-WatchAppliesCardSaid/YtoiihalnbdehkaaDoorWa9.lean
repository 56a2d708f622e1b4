/-
  Layer 34: P34.3, P34.4 as the law says them.
-/
import Derived.Test.YtoiihalnbdehkaaDoorWa7
namespace Go.Proofs.YtoiihalnbdehkaaDoor.B
open Go
set_option linter.unusedVariables false
set_option linter.unusedSimpArgs false
theorem Ls.nd {h h' : AHeap} {v : Value} {l : List NodeR} (hv : Ls h 7 (isNR h) v l) (p : Pre h h') : Ls h' 7 (isNR h') v l := (hv.pre p).mono fun c x ⟨tv, e, k⟩ => ⟨tv, e, k.pre p⟩
theorem bit_bound : ∀ x : Nat, x < 256 → ∀ p : Nat, p < 8 → setB x p < 256 ∧ clrB x p < 256 := by decide +kernel
theorem applyN_fine {x : NodeR} {e : EvR} {n : Nat} (t : Tab x.hops) (l : x.live < 256) (m : e.may n) : Tab (applyN x e).hops ∧ (applyN x e).live < 256 := by
  obtain ⟨b1, b2⟩ := bit_bound x.live l e.peer.toNat (by have := m.peer; omega)
  unfold applyN
  repeat' split
  · exact ⟨.nil, Nat.zero_lt_succ _⟩
  · exact ⟨.nil, Nat.zero_lt_succ _⟩
  · exact ⟨t, l⟩
  · exact ⟨t, b1⟩
  · exact ⟨t, b2⟩
  · exact ⟨t.del _, l⟩
  · exact ⟨t.put m.d.1 m.d.2, l⟩
theorem fold_fine : ∀ (D : List EvR) (T : List NodeR), (∀ x ∈ T, Tab x.hops ∧ x.live < 256) → (∀ e ∈ D, e.may T.length) → ∀ x ∈ D.foldl applyT T, Tab x.hops ∧ x.live < 256
  | [], T, h, _ => h
  | e :: D, T, h, m => by
    rw [List.foldl_cons]
    refine fold_fine D _ ?_ fun y hy => by rw [applyT_len]; exact m y (by simp [hy])
    intro x hx
    have me := m e (by simp)
    unfold applyT at hx
    rcases List.mem_or_eq_of_mem_set hx with q | q
    · exact h x q
    · subst q
      have hk : e.node.toNat < T.length := by have := me.node; omega
      rw [nthN_lt hk]
      obtain ⟨t, l⟩ := h _ (List.getElem_mem hk)
      exact applyN_fine t l me
theorem fold_len : ∀ (D : List EvR) (T : List NodeR), (D.foldl applyT T).length = T.length
  | [], T => rfl
  | e :: D, T => by rw [List.foldl_cons, fold_len D, applyT_len]
theorem watchApplies_spec {h : AHeap} (k : WatchV h) {va vb : Value} {xs ys : List NodeR} (ha : Ls h 7 (isNR h) va xs) (hb : Ls h 7 (isNR h) vb ys) (oka : ∀ x ∈ xs, x.ok ∧ FitsR x.hops) (okb : ∀ x ∈ ys, x.ok ∧ FitsR x.hops) (ta tb : Int) :
    SpecX Tryd.prog nG fn.law34_WatchApplies [.agg #[.int .i64 ta, va], .agg #[.int .i64 tb, vb]] h fun v' _ => v' = .bool true := by
  refine SpecX.of_body (ir.law34_WatchApplies.spec (Nat.le_of_ble_eq_true rfl)) ?_
  simp (dsimp := false) only [↓ir.law34_WatchApplies.bw, ir.law34_WatchApplies.rs, go_sem, Nat.reduceAdd, Nat.reduceEqDiff, Nat.reduceMul, Nat.reduceLeDiff, Nat.reduceSub, Nat.reduceLT, ↓reduceIte, reduceCtorEq, List.reduceReplicate, List.flatten_cons, List.flatten_nil, List.append_nil, eq_self, Int.reduceLE, Int.reduceLT, Int.reduceToNat, Nat.min_eq_left, Int.reducePow, Int.reduceNeg, Int.reduceEq, ha.cellsA, hb.cellsA]
  obtain ⟨h1, eh1⟩ : ∃ h1, h ++ [AObj.row Mode.fix [.int .i64 ta, va], AObj.row Mode.fix [.int .i64 tb, vb]] = h1 := ⟨_, rfl⟩
  have hp1 : Pre h h1 := eh1 ▸ .app _ _
  have f2 : Fx h1 h.length [.int .i64 ta, va] := eh1 ▸ Fx.here _ _ _
  have f3 : Fx h1 (h.length + 1) [.int .i64 tb, vb] := by rw [← eh1]; simp [Fx]
  rw [eh1]
  clear eh1
  have R2 : ∀ {h2}, Pre h1 h2 → rds h2 h.length 0 2 = some [.int .i64 ta, va] := fun p => (f2.pre p).rd rfl (by simp)
  have R3 : ∀ {h2}, Pre h1 h2 → rds h2 (h.length + 1) 0 2 = some [.int .i64 tb, vb] := fun p => (f3.pre p).rd rfl (by simp)
  have R2a : ∀ {h2}, Pre h1 h2 → rds h2 h.length 1 1 = some [va] := fun p => (f2.pre p).rd rfl (by simp)
  have R3a : ∀ {h2}, Pre h1 h2 → rds h2 (h.length + 1) 1 1 = some [vb] := fun p => (f3.pre p).rd rfl (by simp)
  have R3t : ∀ {h2}, Pre h1 h2 → rds h2 (h.length + 1) 0 1 = some [.int .i64 tb] := fun p => (f3.pre p).rd rfl (by simp)
  obtain ⟨b1, s1, q1⟩ := light_may (ha.nd hp1) ta
  obtain ⟨b2, s2, q2⟩ := light_may (hb.nd hp1) tb
  have k1 := k.pre hp1
  refine callV_of s1 ?_
  cases b1
  · simp (dsimp := false) only [go_sem, Nat.reduceAdd, Nat.reduceEqDiff, Nat.reduceMul, Nat.reduceLeDiff, Nat.reduceSub, Nat.reduceLT, ↓reduceIte, reduceCtorEq, List.reduceReplicate, List.flatten_cons, List.flatten_nil, List.append_nil, eq_self, Int.reduceLE, Int.reduceLT, Int.reduceToNat, Nat.min_eq_left, Int.reducePow, Int.reduceNeg, Int.reduceEq, Bool.not_false]
    refine callV_of (awake_spec k1) ?_
    simp (dsimp := false) only [go_sem, Nat.reduceAdd, Nat.reduceEqDiff, Nat.reduceMul, Nat.reduceLeDiff, Nat.reduceSub, Nat.reduceLT, ↓reduceIte, reduceCtorEq, List.reduceReplicate, List.flatten_cons, List.flatten_nil, List.append_nil, eq_self, Int.reduceLE, Int.reduceLT, Int.reduceToNat, Nat.min_eq_left, Int.reducePow, Int.reduceNeg, Int.reduceEq]
  simp (dsimp := false) only [go_sem, Nat.reduceAdd, Nat.reduceEqDiff, Nat.reduceMul, Nat.reduceLeDiff, Nat.reduceSub, Nat.reduceLT, ↓reduceIte, reduceCtorEq, List.reduceReplicate, List.flatten_cons, List.flatten_nil, List.append_nil, eq_self, Int.reduceLE, Int.reduceLT, Int.reduceToNat, Nat.min_eq_left, Int.reducePow, Int.reduceNeg, Int.reduceEq, Bool.not_true, R3 (.refl _)]
  refine callV_of s2 ?_
  cases b2
  · simp (dsimp := false) only [go_sem, Nat.reduceAdd, Nat.reduceEqDiff, Nat.reduceMul, Nat.reduceLeDiff, Nat.reduceSub, Nat.reduceLT, ↓reduceIte, reduceCtorEq, List.reduceReplicate, List.flatten_cons, List.flatten_nil, List.append_nil, eq_self, Int.reduceLE, Int.reduceLT, Int.reduceToNat, Nat.min_eq_left, Int.reducePow, Int.reduceNeg, Int.reduceEq, Bool.not_false]
    refine callV_of (awake_spec k1) ?_
    simp (dsimp := false) only [go_sem, Nat.reduceAdd, Nat.reduceEqDiff, Nat.reduceMul, Nat.reduceLeDiff, Nat.reduceSub, Nat.reduceLT, ↓reduceIte, reduceCtorEq, List.reduceReplicate, List.flatten_cons, List.flatten_nil, List.append_nil, eq_self, Int.reduceLE, Int.reduceLT, Int.reduceToNat, Nat.min_eq_left, Int.reducePow, Int.reduceNeg, Int.reduceEq]
  obtain ⟨la, ma⟩ := q1 rfl
  obtain ⟨lb, mb⟩ := q2 rfl
  simp (dsimp := false) only [go_sem, Nat.reduceAdd, Nat.reduceEqDiff, Nat.reduceMul, Nat.reduceLeDiff, Nat.reduceSub, Nat.reduceLT, ↓reduceIte, reduceCtorEq, List.reduceReplicate, List.flatten_cons, List.flatten_nil, List.append_nil, eq_self, Int.reduceLE, Int.reduceLT, Int.reduceToNat, Nat.min_eq_left, Int.reducePow, Int.reduceNeg, Int.reduceEq, Bool.not_true, R2a (.refl _), R3a (.refl _), ha.lenV, hb.lenV]
  refine cVn (fun c => ?_) (fun c => ?_)
  · simp (dsimp := false) only [go_sem, Nat.reduceAdd, Nat.reduceEqDiff, Nat.reduceMul, Nat.reduceLeDiff, Nat.reduceSub, Nat.reduceLT, ↓reduceIte, reduceCtorEq, List.reduceReplicate, List.flatten_cons, List.flatten_nil, List.append_nil, eq_self, Int.reduceLE, Int.reduceLT, Int.reduceToNat, Nat.min_eq_left, Int.reducePow, Int.reduceNeg, Int.reduceEq]
    refine callV_of (awake_spec k1) ?_
    simp (dsimp := false) only [go_sem, Nat.reduceAdd, Nat.reduceEqDiff, Nat.reduceMul, Nat.reduceLeDiff, Nat.reduceSub, Nat.reduceLT, ↓reduceIte, reduceCtorEq, List.reduceReplicate, List.flatten_cons, List.flatten_nil, List.append_nil, eq_self, Int.reduceLE, Int.reduceLT, Int.reduceToNat, Nat.min_eq_left, Int.reducePow, Int.reduceNeg, Int.reduceEq]
  have hl : xs.length = ys.length := by omega
  clear c
  simp (dsimp := false) only [go_sem, Nat.reduceAdd, Nat.reduceEqDiff, Nat.reduceMul, Nat.reduceLeDiff, Nat.reduceSub, Nat.reduceLT, ↓reduceIte, reduceCtorEq, List.reduceReplicate, List.flatten_cons, List.flatten_nil, List.append_nil, eq_self, Int.reduceLE, Int.reduceLT, Int.reduceToNat, Nat.min_eq_left, Int.reducePow, Int.reduceNeg, Int.reduceEq, R2 (.refl _)]
  refine callV_x (to34_spec (ha.nd hp1) la (fun x hx => (oka x hx).2) ta) ?_
  rintro _ h2 ⟨hp2, u1, rfl, L1⟩
  simp (dsimp := false) only [go_sem, Nat.reduceAdd, Nat.reduceEqDiff, Nat.reduceMul, Nat.reduceLeDiff, Nat.reduceSub, Nat.reduceLT, ↓reduceIte, reduceCtorEq, List.reduceReplicate, List.flatten_cons, List.flatten_nil, List.append_nil, eq_self, Int.reduceLE, Int.reduceLT, Int.reduceToNat, Nat.min_eq_left, Int.reducePow, Int.reduceNeg, Int.reduceEq, L1.oneA, Bool.and_true]
  obtain ⟨h3, eh3⟩ : ∃ h3, h2 ++ [AObj.row Mode.fix [.int .i64 ta, u1]] = h3 := ⟨_, rfl⟩
  have hp3 : Pre h2 h3 := eh3 ▸ .app _ _
  have f5 : Fx h3 h2.length [.int .i64 ta, u1] := eh3 ▸ Fx.here _ _ _
  rw [eh3]
  clear eh3
  have R5 : ∀ {h4}, Pre h3 h4 → rds h4 h2.length 0 2 = some [.int .i64 ta, u1] := fun p => (f5.pre p).rd rfl (by simp)
  have hp13 := hp2.trans hp3
  simp (dsimp := false) only [go_sem, Nat.reduceAdd, Nat.reduceEqDiff, Nat.reduceMul, Nat.reduceLeDiff, Nat.reduceSub, Nat.reduceLT, ↓reduceIte, reduceCtorEq, List.reduceReplicate, List.flatten_cons, List.flatten_nil, List.append_nil, eq_self, Int.reduceLE, Int.reduceLT, Int.reduceToNat, Nat.min_eq_left, Int.reducePow, Int.reduceNeg, Int.reduceEq, R3t hp13, R5 (.refl _), R3 hp13]
  refine callV_x (to34_spec (hb.nd (hp1.trans hp13)) lb (fun x hx => (okb x hx).2) tb) ?_
  rintro _ h4 ⟨hp4, u2, rfl, L2⟩
  refine ⟨hp4, ?_⟩
  simp (dsimp := false) only [go_sem, Nat.reduceAdd, Nat.reduceEqDiff, Nat.reduceMul, Nat.reduceLeDiff, Nat.reduceSub, Nat.reduceLT, ↓reduceIte, reduceCtorEq, List.reduceReplicate, List.flatten_cons, List.flatten_nil, List.append_nil, eq_self, Int.reduceLE, Int.reduceLT, Int.reduceToNat, Nat.min_eq_left, Int.reducePow, Int.reduceNeg, Int.reduceEq]
  have L1' := L1.nd (hp3.trans hp4)
  refine callV_x (wdiff_spec L1' L2 la lb (fun x hx => (oka x hx).1) (fun x hx => (okb x hx).1) ta tb) ?_
  rintro ul h5 ⟨hp5, A1⟩
  refine ⟨hp5, ?_⟩
  simp (dsimp := false) only [go_sem, Nat.reduceAdd, Nat.reduceEqDiff, Nat.reduceMul, Nat.reduceLeDiff, Nat.reduceSub, Nat.reduceLT, ↓reduceIte, reduceCtorEq, List.reduceReplicate, List.flatten_cons, List.flatten_nil, List.append_nil, eq_self, Int.reduceLE, Int.reduceLT, Int.reduceToNat, Nat.min_eq_left, Int.reducePow, Int.reduceNeg, Int.reduceEq]
  rw [← hl, Nat.max_self] at A1
  have hm := diff_may hl ma mb xs.length (Nat.le_refl _)
  have hf := fold_all hl (fun x hx => (oka x hx).1) (fun x hx => (okb x hx).1) ma mb
  generalize diffS xs ys xs.length = D at A1 hm hf
  have LD : Ls h5 10 (fun c x => c = EvR.c x) ul D := A1.sl.ls (fun _ => rfl) rfl
  have fine0 : ∀ x ∈ xs, Tab x.hops ∧ x.live < 256 := fun x hx => ⟨(ma x hx).tab, (oka x hx).1.live⟩
  refine callV_x (apply_spec (L1'.nd hp5) LD la (fun x hx => (oka x hx).2) (fun i hi => ⟨hm _ (List.getElem_mem hi), fold_fine _ _ fine0 fun e he => hm e (List.mem_of_mem_take he)⟩) (fun i => fold_len _ _) ta tb) ?_
  rintro _ h6 ⟨hp6, u3, rfl, L3⟩
  rw [hf] at L3
  refine ⟨hp6, ?_⟩
  simp (dsimp := false) only [go_sem, Nat.reduceAdd, Nat.reduceEqDiff, Nat.reduceMul, Nat.reduceLeDiff, Nat.reduceSub, Nat.reduceLT, ↓reduceIte, reduceCtorEq, List.reduceReplicate, List.flatten_cons, List.flatten_nil, List.append_nil, eq_self, Int.reduceLE, Int.reduceLT, Int.reduceToNat, Nat.min_eq_left, Int.reducePow, Int.reduceNeg, Int.reduceEq, L3.oneA, Bool.and_true]
  obtain ⟨h7, eh7⟩ : ∃ h7, h6 ++ [AObj.row Mode.fix [.int .i64 tb, u3]] = h7 := ⟨_, rfl⟩
  have hp7 : Pre h6 h7 := eh7 ▸ .app _ _
  have f6 : Fx h7 h6.length [.int .i64 tb, u3] := eh7 ▸ Fx.here _ _ _
  rw [eh7]
  clear eh7
  have hp37 := ((hp4.trans hp5).trans hp6).trans hp7
  have hp17 := hp13.trans hp37
  have R6 := f6.rd (off := 0) (n := 2) (vs := [.int .i64 tb, u3]) rfl (by simp)
  refine callV_of (awake_spec (k1.pre hp17)) ⟨.refl _, ?_⟩
  simp (dsimp := false) only [go_sem, Nat.reduceAdd, Nat.reduceEqDiff, Nat.reduceMul, Nat.reduceLeDiff, Nat.reduceSub, Nat.reduceLT, ↓reduceIte, reduceCtorEq, List.reduceReplicate, List.flatten_cons, List.flatten_nil, List.append_nil, eq_self, Int.reduceLE, Int.reduceLT, Int.reduceToNat, Nat.min_eq_left, Int.reducePow, Int.reduceNeg, Int.reduceEq, R6]
  refine callV_x (from34_spec (L3.nd hp7) lb (fun x hx => (okb x hx).2) tb) ?_
  rintro _ h8 ⟨hp8, u4, rfl, L4⟩
  refine ⟨hp8, ?_⟩
  simp (dsimp := false) only [go_sem, Nat.reduceAdd, Nat.reduceEqDiff, Nat.reduceMul, Nat.reduceLeDiff, Nat.reduceSub, Nat.reduceLT, ↓reduceIte, reduceCtorEq, List.reduceReplicate, List.flatten_cons, List.flatten_nil, List.append_nil, eq_self, Int.reduceLE, Int.reduceLT, Int.reduceToNat, Nat.min_eq_left, Int.reducePow, Int.reduceNeg, Int.reduceEq, R3 (hp17.trans hp8)]
  refine callV_of (sameView_spec L4 (hb.nd (hp1.trans (hp17.trans hp8))) tb) ⟨.refl _, ?_⟩
  simp (dsimp := false) only [go_sem, Nat.reduceAdd, Nat.reduceEqDiff, Nat.reduceMul, Nat.reduceLeDiff, Nat.reduceSub, Nat.reduceLT, ↓reduceIte, reduceCtorEq, List.reduceReplicate, List.flatten_cons, List.flatten_nil, List.append_nil, eq_self, Int.reduceLE, Int.reduceLT, Int.reduceToNat, Nat.min_eq_left, Int.reducePow, Int.reduceNeg, Int.reduceEq, R5 (hp37.trans hp8)]
  refine callV_x (from34_spec (L1.nd ((hp3.trans hp37).trans hp8)) la (fun x hx => (oka x hx).2) ta) ?_
  rintro _ h9 ⟨hp9, u5, rfl, L5⟩
  refine ⟨hp9, ?_⟩
  simp (dsimp := false) only [go_sem, Nat.reduceAdd, Nat.reduceEqDiff, Nat.reduceMul, Nat.reduceLeDiff, Nat.reduceSub, Nat.reduceLT, ↓reduceIte, reduceCtorEq, List.reduceReplicate, List.flatten_cons, List.flatten_nil, List.append_nil, eq_self, Int.reduceLE, Int.reduceLT, Int.reduceToNat, Nat.min_eq_left, Int.reducePow, Int.reduceNeg, Int.reduceEq, R2 ((hp17.trans hp8).trans hp9)]
  refine callV_of (sameView_spec L5 (ha.nd (hp1.trans ((hp17.trans hp8).trans hp9))) ta) ⟨.refl _, ?_⟩
  simp (dsimp := false) only [go_sem, Nat.reduceAdd, Nat.reduceEqDiff, Nat.reduceMul, Nat.reduceLeDiff, Nat.reduceSub, Nat.reduceLT, ↓reduceIte, reduceCtorEq, List.reduceReplicate, List.flatten_cons, List.flatten_nil, List.append_nil, eq_self, Int.reduceLE, Int.reduceLT, Int.reduceToNat, Nat.min_eq_left, Int.reducePow, Int.reduceNeg, Int.reduceEq]
end Go.Proofs.YtoiihalnbdehkaaDoor.B
