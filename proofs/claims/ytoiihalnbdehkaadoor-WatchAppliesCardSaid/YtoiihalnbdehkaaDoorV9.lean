/-
  Layer 34: what happened between two views, in the program.
-/
import Derived.Test.YtoiihalnbdehkaaDoorV8
namespace Go.Proofs.YtoiihalnbdehkaaDoor.B
open Go
set_option linter.unusedVariables false
set_option linter.unusedSimpArgs false
def nthN (l : List NodeR) (i : Nat) : NodeR := l.getD i zeroN
theorem nthN_lt {l : List NodeR} {i : Nat} (h : i < l.length) : nthN l i = l[i] := by
  unfold nthN; rw [List.getD_eq_getElem?_getD, List.getElem?_eq_getElem h]; rfl
theorem nthN_ge {l : List NodeR} {i : Nat} (h : l.length ≤ i) : nthN l i = zeroN := by
  unfold nthN; rw [List.getD_eq_getElem?_getD, List.getElem?_eq_none h]; rfl
theorem nthN_ok {l : List NodeR} (h : ∀ x ∈ l, x.ok) (i : Nat) : (nthN l i).ok := by
  rcases Nat.lt_or_ge i l.length with q | q
  · rw [nthN_lt q]; exact h _ (List.getElem_mem q)
  · rw [nthN_ge q]; exact ⟨by decide, by decide, by decide, by decide⟩
def diffS (a b : List NodeR) (n : Nat) : List EvR := (List.range n).flatMap fun (i : Nat) => turnS (i : Int) (nthN a i) (nthN b i)
theorem diffS_succ (a b : List NodeR) (n : Nat) : diffS a b (n + 1) = diffS a b n ++ turnS (n : Int) (nthN a n) (nthN b n) := by
  unfold diffS; rw [List.range_succ, List.flatMap_append]; simp
theorem diffS_len (a b : List NodeR) : ∀ n, (diffS a b n).length ≤ n * 19
  | 0 => Nat.le_refl _
  | n + 1 => by
    rw [diffS_succ, List.length_append]
    have := diffS_len a b n
    have := turnS_len (n : Int) (nthN a n) (nthN b n)
    omega
theorem lsNil {h : AHeap} : Ls h 3 isHR nilS ([] : List HopR) := ⟨[], .nil, fun i hi => absurd hi (Nat.not_lt_zero _)⟩
theorem wdiff_spec {h : AHeap} {va vb : Value} {xs ys : List NodeR} (ha : Ls h 7 (isNR h) va xs) (hb : Ls h 7 (isNR h) vb ys) (la : xs.length ≤ 12) (lb : ys.length ≤ 12) (oka : ∀ x ∈ xs, x.ok) (okb : ∀ x ∈ ys, x.ok) (ta tb : Int) :
    SpecX Tryd.prog nG fn.watch_Diff [.agg #[.int .i64 ta, va], .agg #[.int .i64 tb, vb]] h fun v' h' => Pre h h' ∧ Ac h h' v' (diffS xs ys (max xs.length ys.length)) := by
  refine SpecX.of_body (ir.watch_Diff.spec (Nat.le_of_ble_eq_true rfl)) ?_
  have hmax : (if (xs.length : Int) < (ys.length : Int) then (ys.length : Int) else (xs.length : Int)) = ((max xs.length ys.length : Nat) : Int) := by split <;> omega
  simp (dsimp := false) only [↓ir.watch_Diff.bw, ir.watch_Diff.rs, go_sem, Nat.reduceAdd, Nat.reduceEqDiff, Nat.reduceMul, Nat.reduceLeDiff, Nat.reduceSub, Nat.reduceLT, ↓reduceIte, reduceCtorEq, List.reduceReplicate, List.flatten_cons, List.flatten_nil, List.append_nil, eq_self, Int.reduceLE, Int.reduceLT, Int.reduceToNat, Nat.min_eq_left, Int.reducePow, Int.reduceNeg, Int.reduceEq, ha.cellsA, hb.cellsA, ha.lenV, hb.lenV, mmV_max, gt_iff_lt, hmax]
  obtain ⟨n, hn⟩ : ∃ n, max xs.length ys.length = n := ⟨_, rfl⟩
  rw [hn]
  have hn12 : n ≤ 12 := by omega
  obtain ⟨h1, eh1⟩ : ∃ h1, h ++ [AObj.row Mode.fix [.int .i64 ta, va], AObj.row Mode.fix [.int .i64 tb, vb]] = h1 := ⟨_, rfl⟩
  have hp1 : Pre h h1 := eh1 ▸ .app _ _
  have f2 : Fx h1 h.length [.int .i64 ta, va] := eh1 ▸ Fx.here _ _ _
  have f3 : Fx h1 (h.length + 1) [.int .i64 tb, vb] := by rw [← eh1]; simp [Fx]
  rw [eh1]
  clear eh1 hmax
  refine loopV_of (fun m e h2 => ∃ (i : Nat) (u : Value), m = n - i ∧ i ≤ n ∧ Pre h1 h2 ∧ Ac h1 h2 u (diffS xs ys i) ∧
    e = [(2, .pointer (some ⟨h.length, 0, none⟩)), (3, .pointer (some ⟨h.length + 1, 0, none⟩)), (5, u), (15, .int .i64 n), (16, .int .i64 i)]) _ ⟨0, nilS, rfl, Nat.zero_le _, .refl _, .nil, rfl⟩ ?_
  rintro m e h2 ⟨i, u, rfl, hi, hp, ho, rfl⟩
  rcases Nat.lt_or_ge i n with hlt | hge
  · have w : IntKind.i64.wrap ((i : Int) + 1) = ((i + 1 : Nat) : Int) := wrap_succ hlt (by unfold maxI; omega)
    have r2 := (f2.pre hp).rdA (off := 1) (n := 1) (vs := [va]) rfl (by simp)
    have r3 := (f3.pre hp).rdA (off := 1) (n := 1) (vs := [vb]) rfl (by simp)
    have hdl := diffS_len xs ys i
    have htl := turnS_len (i : Int) (nthN xs i) (nthN ys i)
    have ds := diffS_succ xs ys i
    have oa := nthN_ok oka i
    have ob := nthN_ok okb i
    have hph := hp1.trans hp
    rcases Nat.lt_or_ge i xs.length with qa | qa
    · obtain ⟨tva, a1, _, lta⟩ := ha.nodeAt hph qa
      have e1 : (i : Int) < (xs.length : Int) := by omega
      rw [nthN_lt qa] at oa ds htl
      rcases Nat.lt_or_ge i ys.length with qb | qb
      · obtain ⟨tvb, b1, _, ltb⟩ := hb.nodeAt hph qb
        have e2 : (i : Int) < (ys.length : Int) := by omega
        rw [nthN_lt qb] at ob ds htl
        have pz : Pre h (h2 ++ [AObj.row Mode.fix (xs[i].c tva), AObj.row Mode.fix (ys[i].c tvb)]) := hph.app' _
        simp (dsimp := false) only [↓ir.watch_Diff.l1.bw, go_sem, Nat.reduceAdd, Nat.reduceEqDiff, Nat.reduceMul, Nat.reduceLeDiff, Nat.reduceSub, Nat.reduceLT, ↓reduceIte, reduceCtorEq, List.reduceReplicate, List.flatten_cons, List.flatten_nil, List.append_nil, eq_self, Int.reduceLE, Int.reduceLT, Int.reduceToNat, Nat.min_eq_left, Int.reducePow, Int.reduceNeg, Int.reduceEq, Int.ofNat_lt, hlt, decide_true, ha.lenV, hb.lenV, r2, r3, e1, e2, decide_false, Bool.and_true, ha.ixsN qa, a1, lta.oneA, hb.ixsN qb, b1, ltb.oneA]
        refine callV_x (turn_spec (a := xs[i]) (b := ys[i]) (lta.pre pz) (ltb.pre pz) oa ob (i : Int)) ?_
        rintro w0 h3 ⟨hp3, k3⟩
        have hpz : Pre h2 h3 := (Pre.app _ _).trans hp3
        simp (dsimp := false) only [go_sem, Nat.reduceAdd, Nat.reduceEqDiff, Nat.reduceMul, Nat.reduceLeDiff, Nat.reduceSub, Nat.reduceLT, ↓reduceIte, reduceCtorEq, List.reduceReplicate, List.flatten_cons, List.flatten_nil, List.append_nil, eq_self, Int.reduceLE, Int.reduceLT, Int.reduceToNat, Nat.min_eq_left, Int.reducePow, Int.reduceNeg, Int.reduceEq, k3.src]
        refine (ho.pre hpz).app (evs_len _) (evs_oneA _) ⟨by omega, by omega⟩ (fun u' h' ho' hc _ _ => ?_) (hp.trans hpz)
        simp (dsimp := false) only [go_sem, Nat.reduceAdd, Nat.reduceEqDiff, Nat.reduceMul, Nat.reduceLeDiff, Nat.reduceSub, Nat.reduceLT, ↓reduceIte, reduceCtorEq, List.reduceReplicate, List.flatten_cons, List.flatten_nil, List.append_nil, eq_self, Int.reduceLE, Int.reduceLT, Int.reduceToNat, Nat.min_eq_left, Int.reducePow, Int.reduceNeg, Int.reduceEq, w]
        refine ⟨n - (i + 1), by omega, i + 1, u', rfl, hlt, hc.pre (hp.trans hpz), ?_, rfl⟩
        unfold Ac
        rw [ds, List.length_append, List.flatMap_append]
        exact ho'
      · have e2 : ¬ (i : Int) < (ys.length : Int) := by omega
        rw [nthN_ge qb] at ob ds htl
        have pz : Pre h (h2 ++ [AObj.row Mode.fix (xs[i].c tva), AObj.row Mode.fix (zeroN.c nilS)]) := hph.app' _
        simp (dsimp := false) only [↓ir.watch_Diff.l1.bw, go_sem, Nat.reduceAdd, Nat.reduceEqDiff, Nat.reduceMul, Nat.reduceLeDiff, Nat.reduceSub, Nat.reduceLT, ↓reduceIte, reduceCtorEq, List.reduceReplicate, List.flatten_cons, List.flatten_nil, List.append_nil, eq_self, Int.reduceLE, Int.reduceLT, Int.reduceToNat, Nat.min_eq_left, Int.reducePow, Int.reduceNeg, Int.reduceEq, Int.ofNat_lt, hlt, decide_true, ha.lenV, hb.lenV, r2, r3, e1, e2, decide_false, Bool.and_true, ha.ixsN qa, a1, lta.oneA]
        refine callV_x (turn_spec (a := xs[i]) (b := zeroN) (lta.pre pz) lsNil oa ob (i : Int)) ?_
        rintro w0 h3 ⟨hp3, k3⟩
        have hpz : Pre h2 h3 := (Pre.app _ _).trans hp3
        simp (dsimp := false) only [go_sem, Nat.reduceAdd, Nat.reduceEqDiff, Nat.reduceMul, Nat.reduceLeDiff, Nat.reduceSub, Nat.reduceLT, ↓reduceIte, reduceCtorEq, List.reduceReplicate, List.flatten_cons, List.flatten_nil, List.append_nil, eq_self, Int.reduceLE, Int.reduceLT, Int.reduceToNat, Nat.min_eq_left, Int.reducePow, Int.reduceNeg, Int.reduceEq, k3.src]
        refine (ho.pre hpz).app (evs_len _) (evs_oneA _) ⟨by omega, by omega⟩ (fun u' h' ho' hc _ _ => ?_) (hp.trans hpz)
        simp (dsimp := false) only [go_sem, Nat.reduceAdd, Nat.reduceEqDiff, Nat.reduceMul, Nat.reduceLeDiff, Nat.reduceSub, Nat.reduceLT, ↓reduceIte, reduceCtorEq, List.reduceReplicate, List.flatten_cons, List.flatten_nil, List.append_nil, eq_self, Int.reduceLE, Int.reduceLT, Int.reduceToNat, Nat.min_eq_left, Int.reducePow, Int.reduceNeg, Int.reduceEq, w]
        refine ⟨n - (i + 1), by omega, i + 1, u', rfl, hlt, hc.pre (hp.trans hpz), ?_, rfl⟩
        unfold Ac
        rw [ds, List.length_append, List.flatMap_append]
        exact ho'
    · have e1 : ¬ (i : Int) < (xs.length : Int) := by omega
      rw [nthN_ge qa] at oa ds htl
      rcases Nat.lt_or_ge i ys.length with qb | qb
      · obtain ⟨tvb, b1, _, ltb⟩ := hb.nodeAt hph qb
        have e2 : (i : Int) < (ys.length : Int) := by omega
        rw [nthN_lt qb] at ob ds htl
        have pz : Pre h (h2 ++ [AObj.row Mode.fix (zeroN.c nilS), AObj.row Mode.fix (ys[i].c tvb)]) := hph.app' _
        simp (dsimp := false) only [↓ir.watch_Diff.l1.bw, go_sem, Nat.reduceAdd, Nat.reduceEqDiff, Nat.reduceMul, Nat.reduceLeDiff, Nat.reduceSub, Nat.reduceLT, ↓reduceIte, reduceCtorEq, List.reduceReplicate, List.flatten_cons, List.flatten_nil, List.append_nil, eq_self, Int.reduceLE, Int.reduceLT, Int.reduceToNat, Nat.min_eq_left, Int.reducePow, Int.reduceNeg, Int.reduceEq, Int.ofNat_lt, hlt, decide_true, ha.lenV, hb.lenV, r2, r3, e1, e2, decide_false, Bool.and_true, hb.ixsN qb, b1, ltb.oneA]
        refine callV_x (turn_spec (a := zeroN) (b := ys[i]) lsNil (ltb.pre pz) oa ob (i : Int)) ?_
        rintro w0 h3 ⟨hp3, k3⟩
        have hpz : Pre h2 h3 := (Pre.app _ _).trans hp3
        simp (dsimp := false) only [go_sem, Nat.reduceAdd, Nat.reduceEqDiff, Nat.reduceMul, Nat.reduceLeDiff, Nat.reduceSub, Nat.reduceLT, ↓reduceIte, reduceCtorEq, List.reduceReplicate, List.flatten_cons, List.flatten_nil, List.append_nil, eq_self, Int.reduceLE, Int.reduceLT, Int.reduceToNat, Nat.min_eq_left, Int.reducePow, Int.reduceNeg, Int.reduceEq, k3.src]
        refine (ho.pre hpz).app (evs_len _) (evs_oneA _) ⟨by omega, by omega⟩ (fun u' h' ho' hc _ _ => ?_) (hp.trans hpz)
        simp (dsimp := false) only [go_sem, Nat.reduceAdd, Nat.reduceEqDiff, Nat.reduceMul, Nat.reduceLeDiff, Nat.reduceSub, Nat.reduceLT, ↓reduceIte, reduceCtorEq, List.reduceReplicate, List.flatten_cons, List.flatten_nil, List.append_nil, eq_self, Int.reduceLE, Int.reduceLT, Int.reduceToNat, Nat.min_eq_left, Int.reducePow, Int.reduceNeg, Int.reduceEq, w]
        refine ⟨n - (i + 1), by omega, i + 1, u', rfl, hlt, hc.pre (hp.trans hpz), ?_, rfl⟩
        unfold Ac
        rw [ds, List.length_append, List.flatMap_append]
        exact ho'
      · have e2 : ¬ (i : Int) < (ys.length : Int) := by omega
        rw [nthN_ge qb] at ob ds htl
        have pz : Pre h (h2 ++ [AObj.row Mode.fix (zeroN.c nilS), AObj.row Mode.fix (zeroN.c nilS)]) := hph.app' _
        simp (dsimp := false) only [↓ir.watch_Diff.l1.bw, go_sem, Nat.reduceAdd, Nat.reduceEqDiff, Nat.reduceMul, Nat.reduceLeDiff, Nat.reduceSub, Nat.reduceLT, ↓reduceIte, reduceCtorEq, List.reduceReplicate, List.flatten_cons, List.flatten_nil, List.append_nil, eq_self, Int.reduceLE, Int.reduceLT, Int.reduceToNat, Nat.min_eq_left, Int.reducePow, Int.reduceNeg, Int.reduceEq, Int.ofNat_lt, hlt, decide_true, ha.lenV, hb.lenV, r2, r3, e1, e2, decide_false, Bool.and_true]
        refine callV_x (turn_spec (a := zeroN) (b := zeroN) lsNil lsNil oa ob (i : Int)) ?_
        rintro w0 h3 ⟨hp3, k3⟩
        have hpz : Pre h2 h3 := (Pre.app _ _).trans hp3
        simp (dsimp := false) only [go_sem, Nat.reduceAdd, Nat.reduceEqDiff, Nat.reduceMul, Nat.reduceLeDiff, Nat.reduceSub, Nat.reduceLT, ↓reduceIte, reduceCtorEq, List.reduceReplicate, List.flatten_cons, List.flatten_nil, List.append_nil, eq_self, Int.reduceLE, Int.reduceLT, Int.reduceToNat, Nat.min_eq_left, Int.reducePow, Int.reduceNeg, Int.reduceEq, k3.src]
        refine (ho.pre hpz).app (evs_len _) (evs_oneA _) ⟨by omega, by omega⟩ (fun u' h' ho' hc _ _ => ?_) (hp.trans hpz)
        simp (dsimp := false) only [go_sem, Nat.reduceAdd, Nat.reduceEqDiff, Nat.reduceMul, Nat.reduceLeDiff, Nat.reduceSub, Nat.reduceLT, ↓reduceIte, reduceCtorEq, List.reduceReplicate, List.flatten_cons, List.flatten_nil, List.append_nil, eq_self, Int.reduceLE, Int.reduceLT, Int.reduceToNat, Nat.min_eq_left, Int.reducePow, Int.reduceNeg, Int.reduceEq, w]
        refine ⟨n - (i + 1), by omega, i + 1, u', rfl, hlt, hc.pre (hp.trans hpz), ?_, rfl⟩
        unfold Ac
        rw [ds, List.length_append, List.flatMap_append]
        exact ho'
  · obtain rfl : i = n := by omega
    simp (dsimp := false) only [↓ir.watch_Diff.l1.bw, go_sem, Nat.reduceAdd, Nat.reduceEqDiff, Nat.reduceMul, Nat.reduceLeDiff, Nat.reduceSub, Nat.reduceLT, ↓reduceIte, reduceCtorEq, List.reduceReplicate, List.flatten_cons, List.flatten_nil, List.append_nil, eq_self, Int.reduceLE, Int.reduceLT, Int.reduceToNat, Nat.min_eq_left, Int.reducePow, Int.reduceNeg, Int.reduceEq, show ¬ ((i : Int) < (i : Int)) by omega, decide_false]
    exact ⟨hp1.trans hp, ho.old hp1.len⟩
end Go.Proofs.YtoiihalnbdehkaaDoor.B
