/-
  Layer 34: a view behind what happened.
-/
import Derived.Test.YtoiihalnbdehkaaDoorWa2
namespace Go.Proofs.YtoiihalnbdehkaaDoor.B
open Go
set_option linter.unusedVariables false
set_option linter.unusedSimpArgs false
/-- Where the second loop stands. -/
abbrev EvI (h : AHeap) (u : Value) (D : List EvR) (tb : Int) (ul : Value) (xs : List NodeR) (m : Nat) (e : Env) (h2 : AHeap) : Prop :=
  ∃ (i : Nat) (L : List (NodeR × Value)), m = D.length - i ∧ i ≤ D.length ∧ (∃ b11 E, EvS h h2 u L (h.length + 1) (h.length + 2) b11 tb E) ∧ L.map Prod.fst = (D.take i).foldl applyT xs ∧
    e = [(6, .pointer (some ⟨h.length + 1, 0, none⟩)), (7, .pointer (some ⟨h.length + 2, 0, none⟩)), (33, ul), (34, .int .i64 D.length), (35, .int .i64 (i : Int))]
theorem mvN_map {L : List (NodeR × Value)} {k : Nat} {x : NodeR} {tv : Value} : (L.set k (x, tv)).map Prod.fst = (L.map Prod.fst).set k x := by rw [List.map_set]
theorem apply_spec {h : AHeap} {va ul : Value} {xs : List NodeR} {D : List EvR} (ha : Ls h 7 (isNR h) va xs) (hD : Ls h 10 (fun c x => c = EvR.c x) ul D) (la : xs.length ≤ 12) (hfit : ∀ x ∈ xs, FitsR x.hops)
    (okD : ∀ i (hi : i < D.length), D[i].may xs.length ∧ (∀ x ∈ (D.take i).foldl applyT xs, Tab x.hops ∧ x.live < 256)) (hlen : ∀ i, ((D.take i).foldl applyT xs).length = xs.length) (ta tb : Int) :
    SpecX Tryd.prog nG fn.watch_Apply [.agg #[.int .i64 ta, va], .int .i64 tb, ul] h fun v' h' => Pre h h' ∧ ∃ u, v' = .agg #[.int .i64 tb, u] ∧ Ls h' 7 (isNR h') u (D.foldl applyT xs) := by
  refine SpecX.of_body (ir.watch_Apply.spec (Nat.le_of_ble_eq_true rfl)) ?_
  simp (dsimp := false) only [↓ir.watch_Apply.bw, ir.watch_Apply.rs, go_sem, Nat.reduceAdd, Nat.reduceEqDiff, Nat.reduceMul, Nat.reduceLeDiff, Nat.reduceSub, Nat.reduceLT, ↓reduceIte, reduceCtorEq, List.reduceReplicate, List.flatten_cons, List.flatten_nil, List.append_nil, eq_self, Int.reduceLE, Int.reduceLT, Int.reduceToNat, Nat.min_eq_left, Int.reducePow, Int.reduceNeg, Int.reduceEq, ha.cellsA, ha.lenV]
  obtain ⟨h1, eh1⟩ : ∃ h1, h ++ [AObj.row Mode.fix [.int .i64 ta, va], AObj.row Mode.fix [.int .i64 0, nilS], AObj.row Mode.fix [.int .i64 tb, nilS]] = h1 := ⟨_, rfl⟩
  have hp1 : Pre h h1 := eh1 ▸ .app _ _
  have g6 : Fx h1 (h.length + 1) [.int .i64 0, nilS] := by rw [← eh1]; simp [Fx]
  have g7 : Fx h1 (h.length + 2) [.int .i64 tb, nilS] := by rw [← eh1]; simp [Fx]
  rw [eh1]
  clear eh1
  refine loopV_of (fun m e h2 => ∃ (i : Nat) (u : Value) (L : List (NodeR × Value)), m = xs.length - i ∧ i ≤ xs.length ∧ Pre h h2 ∧ Out h h2 u L ∧ L.map Prod.fst = xs.take i ∧ Fx h2 (h.length + 1) [.int .i64 0, nilS] ∧ Fx h2 (h.length + 2) [.int .i64 tb, u] ∧
    e = [(2, ul), (6, .pointer (some ⟨h.length + 1, 0, none⟩)), (7, .pointer (some ⟨h.length + 2, 0, none⟩)), (16, va), (17, .int .i64 xs.length), (18, .int .i64 i)]) _
    ⟨0, nilS, [], rfl, Nat.zero_le _, hp1, .nil, rfl, g6, g7, rfl⟩ ?_
  clear g6 g7 hp1
  clear h1
  rintro m e h2 ⟨i, u, L, rfl, hi, hp, ko, hL, g6, g7, rfl⟩
  have hLl : L.length = i := by have := congrArg List.length hL; simpa [Nat.min_eq_left hi] using this
  rcases Nat.lt_or_ge i xs.length with hlt | hge
  · obtain ⟨tv, r1, r0, lt⟩ := ha.nodeAt hp hlt
    have w := wrap_succ hlt ha.le
    have hfi := hfit xs[i] (List.getElem_mem hlt)
    have ht : xs.take (i + 1) = xs.take i ++ [xs[i]] := List.take_succ_eq_append_getElem hlt
    obtain ⟨⟨up, boot, e, s, m, live, hops⟩, hx⟩ : ∃ x, xs[i] = x := ⟨_, rfl⟩
    rw [hx] at r0 r1 lt hfi ht
    simp (dsimp := false) only [↓ir.watch_Apply.l1.bw, go_sem, Nat.reduceAdd, Nat.reduceEqDiff, Nat.reduceMul, Nat.reduceLeDiff, Nat.reduceSub, Nat.reduceLT, ↓reduceIte, reduceCtorEq, List.reduceReplicate, List.flatten_cons, List.flatten_nil, List.append_nil, eq_self, Int.reduceLE, Int.reduceLT, Int.reduceToNat, Nat.min_eq_left, Int.reducePow, Int.reduceNeg, Int.reduceEq, Int.ofNat_lt, hlt, decide_true, ha.ixsN hlt, r0, r1, lt.oneA, Bool.and_true]
    refine callV_x (clone_spec (lt.pre (hp.app' _)) hfi) ?_
    rintro tv2 h3 ⟨hp3, o3⟩
    have f9 : Fx h3 h2.length (NodeR.c ⟨up, boot, e, s, m, live, hops⟩ tv) := (Fx.here h2 _ []).pre hp3
    have g6' := (g6.app [AObj.row .fix (NodeR.c ⟨up, boot, e, s, m, live, hops⟩ tv)]).pre hp3
    have g7' := (g7.app [AObj.row .fix (NodeR.c ⟨up, boot, e, s, m, live, hops⟩ tv)]).pre hp3
    have wr9 : wrs h3 h2.length 6 [tv2] = some (h3.set h2.length (.row .fix (NodeR.c ⟨up, boot, e, s, m, live, hops⟩ tv2))) := by rw [f9.wr (by simp)]; rfl
    have hp23 : Pre h2 h3 := (Pre.app _ _).trans hp3
    have o4 := o3.put (o3.nfix f9) (.row .fix (NodeR.c ⟨up, boot, e, s, m, live, hops⟩ tv2))
    have f9' := f9.set (NodeR.c ⟨up, boot, e, s, m, live, hops⟩ tv2)
    have hl9 := f9.lt
    have l2 := g7.lt
    have l1 := g6.lt
    have g6'' := g6'.other (show h2.length ≠ h.length + 1 by omega) (.row .fix (NodeR.c ⟨up, boot, e, s, m, live, hops⟩ tv2))
    have g7'' := g7'.other (show h2.length ≠ h.length + 2 by omega) (.row .fix (NodeR.c ⟨up, boot, e, s, m, live, hops⟩ tv2))
    have hp24 : Pre h2 (h3.set h2.length (.row .fix (NodeR.c ⟨up, boot, e, s, m, live, hops⟩ tv2))) := hp23.put (Nat.le_refl _) _
    obtain ⟨h4, eh4⟩ : ∃ h4, h3.set h2.length (.row .fix (NodeR.c ⟨up, boot, e, s, m, live, hops⟩ tv2)) = h4 := ⟨_, rfl⟩
    rw [eh4] at wr9 o4 f9' g6'' g7'' hp24
    clear eh4 g6' g7'
    have rr9 := f9'.rd (off := 0) (n := 7) (vs := NodeR.c ⟨up, boot, e, s, m, live, hops⟩ tv2) rfl (by simp)
    have rr7 := g7''.rd (off := 1) (n := 1) (vs := [u]) rfl (by simp)
    simp (dsimp := false) only [go_sem, Nat.reduceAdd, Nat.reduceEqDiff, Nat.reduceMul, Nat.reduceLeDiff, Nat.reduceSub, Nat.reduceLT, ↓reduceIte, reduceCtorEq, List.reduceReplicate, List.flatten_cons, List.flatten_nil, List.append_nil, eq_self, Int.reduceLE, Int.reduceLT, Int.reduceToNat, Nat.min_eq_left, Int.reducePow, Int.reduceNeg, Int.reduceEq, o3.sl.cellsA, o3.sl.oneA, Bool.and_true, wr9, rr9, rr7]
    refine Out.snoc (x := ⟨up, boot, e, s, m, live, hops⟩) ko hp (hp24.app' _) (o4.pre (.app _ _)) (by simp) ⟨by omega, by omega⟩ fun u' h' ko' hp' hc => ?_
    have k6 := (g6''.app _).chg hc (ko.row.nfix g6)
    have k7 := (g7''.app _).chg hc (ko.row.nfix g7)
    have wr : wrs h' (h.length + 2) 1 [u'] = some (h'.set (h.length + 2) (.row .fix [.int .i64 tb, u'])) := by rw [k7.wr (by simp)]; rfl
    simp (dsimp := false) only [go_sem, Nat.reduceAdd, Nat.reduceEqDiff, Nat.reduceMul, Nat.reduceLeDiff, Nat.reduceSub, Nat.reduceLT, ↓reduceIte, reduceCtorEq, List.reduceReplicate, List.flatten_cons, List.flatten_nil, List.append_nil, eq_self, Int.reduceLE, Int.reduceLT, Int.reduceToNat, Nat.min_eq_left, Int.reducePow, Int.reduceNeg, Int.reduceEq, ko'.row.sl.cellsA, ko'.row.sl.oneA, Bool.and_true, wr, w]
    refine ⟨xs.length - (i + 1), by omega, i + 1, u', _, rfl, hlt, hp'.put (by omega) _, ko'.fx k7 _, by rw [List.map_append, hL, ht]; rfl, k6.other (by omega) _, k7.set _, rfl⟩
  · obtain rfl : xs.length = i := by omega
    rw [List.take_length] at hL
    simp (dsimp := false) only [↓ir.watch_Apply.l1.bw, go_sem, Nat.reduceAdd, Nat.reduceEqDiff, Nat.reduceMul, Nat.reduceLeDiff, Nat.reduceSub, Nat.reduceLT, ↓reduceIte, reduceCtorEq, List.reduceReplicate, List.flatten_cons, List.flatten_nil, List.append_nil, eq_self, Int.reduceLE, Int.reduceLT, Int.reduceToNat, Nat.min_eq_left, Int.reducePow, Int.reduceNeg, Int.reduceEq, Int.ofNat_lt, Nat.lt_irrefl, decide_false, hD.lenV]
    have hfl : ∀ (l : List EvR) (T : List NodeR), (l.foldl applyT T).length = T.length := by
      intro l
      induction l with
      | nil => intro T; rfl
      | cons e l ih => intro T; rw [List.foldl_cons, ih, applyT_len]
    refine loopV_of (EvI h u D tb ul xs) _ ⟨0, L, rfl, Nat.zero_le _, ⟨h.length + 1, _, hp, ko, g6, g7, g6⟩, hL, rfl⟩ ?_
    clear ko g6 g7 hp hL hLl hi
    clear L h2
    rintro m e h2 ⟨i, L, rfl, hi, ⟨b11, E, k0⟩, hL, rfl⟩
    have hLl : L.length = xs.length := by have := congrArg List.length hL; rw [hfl] at this; simpa using this
    rcases Nat.lt_or_ge i D.length with hlt | hge
    · have w := wrap_succ hlt hD.le
      obtain ⟨r0, r1⟩ := hD.evAt k0.pre hlt
      obtain ⟨om, ot⟩ := okD i hlt
      rw [← hL] at ot
      have k1 : EvS h (h2 ++ [AObj.row .fix D[i].c]) u L (h.length + 1) (h.length + 2) h2.length tb D[i].c := ⟨(k0.app _).pre, (k0.app _).out, (k0.app _).f6, (k0.app _).f7, Fx.here _ _ _⟩
      have htk : (D.take (i + 1)).foldl applyT xs = applyT (L.map Prod.fst) D[i] := by rw [List.take_succ_eq_append_getElem hlt, List.foldl_append, ← hL]; rfl
      have next : ∀ h4 L' b11 E, EvS h h4 u L' (h.length + 1) (h.length + 2) b11 tb E → L'.map Prod.fst = applyT (L.map Prod.fst) D[i] → ∃ m', m' < D.length - i ∧ EvI h u D tb ul xs m'
          [(6, .pointer (some ⟨h.length + 1, 0, none⟩)), (7, .pointer (some ⟨h.length + 2, 0, none⟩)), (33, ul), (34, .int .i64 D.length), (35, .int .i64 ((i + 1 : Nat) : Int))] h4 := fun h4 L' b11 E q1 q2 =>
        ⟨D.length - (i + 1), by omega, i + 1, L', rfl, hlt, ⟨b11, E, q1⟩, by rw [htk]; exact q2, rfl⟩
      simp (dsimp := false) only [↓ir.watch_Apply.l2.bw, go_sem, Nat.reduceAdd, Nat.reduceEqDiff, Nat.reduceMul, Nat.reduceLeDiff, Nat.reduceSub, Nat.reduceLT, ↓reduceIte, reduceCtorEq, List.reduceReplicate, List.flatten_cons, List.flatten_nil, List.append_nil, eq_self, Int.reduceLE, Int.reduceLT, Int.reduceToNat, Nat.min_eq_left, Int.reducePow, Int.reduceNeg, Int.reduceEq, Int.ofNat_lt, hlt, decide_true, hD.ixsN hlt, r0]
      obtain ⟨h3, eh3⟩ : ∃ h3, h2 ++ [AObj.row .fix D[i].c] = h3 := ⟨_, rfl⟩
      obtain ⟨b, eb⟩ : ∃ b, h2.length = b := ⟨_, rfl⟩
      rw [eh3, eb] at k1 ⊢
      clear eh3 eb k0 htk r0 r1 b11 E
      clear h2
      obtain ⟨⟨wt, nd, e, s, mt, bt, pr, d, n, t⟩, hx⟩ : ∃ x, D[i] = x := ⟨_, rfl⟩
      rw [hx] at k1 om next
      obtain ⟨⟨on0, on1⟩, ⟨ow0, ow1⟩, ⟨op0, op1⟩, ⟨od0, od1⟩⟩ := om
      simp only at on0 on1 ow0 ow1 op0 op1 od0 od1
      obtain ⟨k, rfl⟩ : ∃ k : Nat, nd = k := ⟨nd.toNat, by omega⟩
      have hk : k < L.length := by omega
      have re : ∀ off m vs, ((EvR.c ⟨wt, (k : Int), e, s, mt, bt, pr, d, n, t⟩).drop off).take m = vs → off + m ≤ 10 → rds h3 b off m = some vs := fun off m vs q1 q2 => k1.f11.rd q1 (by simpa using q2)
      have e1 := re 1 1 [.int .i64 (k : Int)] rfl (by omega)
      have e0 := re 0 1 [.int .i64 wt] rfl (by omega)
      have ru := k1.f7.rd (off := 1) (n := 1) (vs := [u]) rfl (by simp)
      have c0 : decide ((k : Int) < 0) = false := decide_eq_false (by omega)
      have c1 : decide ((L.length : Int) ≤ (k : Int)) = false := decide_eq_false (by omega)
      have ku := k1.out.row.sl
      have hat : nthN (L.map Prod.fst) k = L[k].1 := by rw [nthN_lt (by simpa using hk)]; simp
      simp only [hx]
      simp (dsimp := false) only [go_sem, Nat.reduceAdd, Nat.reduceEqDiff, Nat.reduceMul, Nat.reduceLeDiff, Nat.reduceSub, Nat.reduceLT, ↓reduceIte, reduceCtorEq, List.reduceReplicate, List.flatten_cons, List.flatten_nil, List.append_nil, eq_self, Int.reduceLE, Int.reduceLT, Int.reduceToNat, Nat.min_eq_left, Int.reducePow, Int.reduceNeg, Int.reduceEq, e1, c0, ru, ku.lenV, ge_iff_le, c1, ku.ixsN hk, e0]
      have apT : applyT (L.map Prod.fst) ⟨wt, (k : Int), e, s, mt, bt, pr, d, n, t⟩ = (L.map Prod.fst).set k (applyN L[k].1 ⟨wt, (k : Int), e, s, mt, bt, pr, d, n, t⟩) := by
        unfold applyT
        simp only [Int.toNat_natCast]
        rw [hat]
      rw [apT] at next
      clear apT hat hx okD hfit ha hD hL hfl hlen
      obtain ⟨N, tv, hN⟩ : ∃ N tv, L[k] = (N, tv) := ⟨L[k].1, L[k].2, rfl⟩
      have hN1 : L[k].1 = N := by rw [hN]
      have hN2 : L[k].2 = tv := by rw [hN]
      have oT := ot N (List.mem_map.2 ⟨L[k], List.getElem_mem hk, hN1⟩)
      clear ot
      rw [hN1] at next
      have rn : ∀ {h' E b11 off m vs} {L' : List (NodeR × Value)} (hk' : k < L'.length), EvS h h' u L' (h.length + 1) (h.length + 2) b11 tb E → ((encP L'[k]).drop off).take m = vs → off + m ≤ 7 → rds h' (sb u) (so u + k * 7 + off) m = some vs := fun hk' q0 q1 q2 => by
        rw [← q1]; exact q0.out.rdc hk' (.refl _) q2
      refine cVe (fun c => ?_) (fun c1 => ?_)
      · subst c
        obtain ⟨o, w1, k2⟩ := k1.mut hk (n' := ⟨true, bt, 0, 0, 0, 0, []⟩) (tv' := nilS) (.refl _ _ _) .nil (.inl rfl) (off := 0) (vs := encP (⟨true, bt, 0, 0, 0, 0, []⟩, nilS)) (by rw [encP_len]; omega) (by rw [encP_len]; omega) (setC_all0 rfl)
        have w2 : wrs h3 (sb u) (so u + k * 7) [.bool true, .int .u64 bt, .int .u32 0, .int .u32 0, .int .i64 0, .int .u8 0, nilS] = some (h3.set (sb u) o) := w1
        have e5 := re 5 1 [.int .u64 bt] rfl (by omega)
        simp (dsimp := false) only [go_sem, Nat.reduceAdd, Nat.reduceEqDiff, Nat.reduceMul, Nat.reduceLeDiff, Nat.reduceSub, Nat.reduceLT, ↓reduceIte, reduceCtorEq, List.reduceReplicate, List.flatten_cons, List.flatten_nil, List.append_nil, eq_self, Int.reduceLE, Int.reduceLT, Int.reduceToNat, Nat.min_eq_left, Int.reducePow, Int.reduceNeg, Int.reduceEq, e5, w2, w]
        exact next _ _ _ _ k2 (by rw [mvN_map]; rfl)
      simp (dsimp := false) only [go_sem, Nat.reduceAdd, Nat.reduceEqDiff, Nat.reduceMul, Nat.reduceLeDiff, Nat.reduceSub, Nat.reduceLT, ↓reduceIte, reduceCtorEq, List.reduceReplicate, List.flatten_cons, List.flatten_nil, List.append_nil, eq_self, Int.reduceLE, Int.reduceLT, Int.reduceToNat, Nat.min_eq_left, Int.reducePow, Int.reduceNeg, Int.reduceEq]
      refine cVe (fun c => ?_) (fun c2 => ?_)
      · subst c
        obtain ⟨o, w1, k2⟩ := k1.mut hk (n' := zeroN) (tv' := nilS) (.refl _ _ _) .nil (.inl rfl) (off := 0) (vs := encP (zeroN, nilS)) (by rw [encP_len]; omega) (by rw [encP_len]; omega) (setC_all0 rfl)
        have w2 : wrs h3 (sb u) (so u + k * 7) [.bool false, .int .u64 0, .int .u32 0, .int .u32 0, .int .i64 0, .int .u8 0, nilS] = some (h3.set (sb u) o) := w1
        simp (dsimp := false) only [go_sem, Nat.reduceAdd, Nat.reduceEqDiff, Nat.reduceMul, Nat.reduceLeDiff, Nat.reduceSub, Nat.reduceLT, ↓reduceIte, reduceCtorEq, List.reduceReplicate, List.flatten_cons, List.flatten_nil, List.append_nil, eq_self, Int.reduceLE, Int.reduceLT, Int.reduceToNat, Nat.min_eq_left, Int.reducePow, Int.reduceNeg, Int.reduceEq, w2, w]
        exact next _ _ _ _ k2 (by rw [mvN_map]; rfl)
      simp (dsimp := false) only [go_sem, Nat.reduceAdd, Nat.reduceEqDiff, Nat.reduceMul, Nat.reduceLeDiff, Nat.reduceSub, Nat.reduceLT, ↓reduceIte, reduceCtorEq, List.reduceReplicate, List.flatten_cons, List.flatten_nil, List.append_nil, eq_self, Int.reduceLE, Int.reduceLT, Int.reduceToNat, Nat.min_eq_left, Int.reducePow, Int.reduceNeg, Int.reduceEq]
      refine cVe (fun c => ?_) (fun c3 => ?_)
      · subst c
        obtain ⟨o, w1, k2⟩ := k1.set hk (n' := ⟨N.up, N.boot, e, s, mt, N.live, N.hops⟩) (by rw [hN1]) (off := 2) (vs := [.int .u32 e, .int .u32 s, .int .i64 mt]) (by simp) (by simp) (by rw [hN]; rfl)
        have e2 := re 2 3 [.int .u32 e, .int .u32 s, .int .i64 mt] rfl (by omega)
        simp (dsimp := false) only [go_sem, Nat.reduceAdd, Nat.reduceEqDiff, Nat.reduceMul, Nat.reduceLeDiff, Nat.reduceSub, Nat.reduceLT, ↓reduceIte, reduceCtorEq, List.reduceReplicate, List.flatten_cons, List.flatten_nil, List.append_nil, eq_self, Int.reduceLE, Int.reduceLT, Int.reduceToNat, Nat.min_eq_left, Int.reducePow, Int.reduceNeg, Int.reduceEq, e2, w1, w]
        exact next _ _ _ _ k2 (by rw [mvN_map]; rfl)
      simp (dsimp := false) only [go_sem, Nat.reduceAdd, Nat.reduceEqDiff, Nat.reduceMul, Nat.reduceLeDiff, Nat.reduceSub, Nat.reduceLT, ↓reduceIte, reduceCtorEq, List.reduceReplicate, List.flatten_cons, List.flatten_nil, List.append_nil, eq_self, Int.reduceLE, Int.reduceLT, Int.reduceToNat, Nat.min_eq_left, Int.reducePow, Int.reduceNeg, Int.reduceEq]
      have r5 : rds h3 (sb u) (so u + k * 7 + 5) 1 = some [.int .u8 N.live] := rn hk k1 (by rw [hN]; rfl) (by omega)
      have e6 := re 6 1 [.int .i64 pr] rfl (by omega)
      obtain ⟨p, rfl⟩ : ∃ p : Nat, pr = p := ⟨pr.toNat, by omega⟩
      obtain ⟨hb1, hb2⟩ := clrB_at N.live oT.2 p (by omega)
      obtain ⟨S, hS⟩ : ∃ S, shB p = S := ⟨_, rfl⟩
      rw [hS] at hb1 hb2
      have hsh : IntKind.u8.wrap (1 * 2 ^ min (IntKind.u64.wrap (IntKind.i64.wrap ((BitVec.ofInt IntKind.i64.bits (p : Int) &&& BitVec.ofInt IntKind.i64.bits 7).toNat : Int))).toNat 8) = S := hS
      have hcl : IntKind.u8.wrap ((BitVec.ofInt IntKind.u8.bits (N.live : Int) &&& ~~~BitVec.ofInt IntKind.u8.bits S).toNat : Int) = (clrB N.live p : Int) := hb1
      have hor : IntKind.u8.wrap ((BitVec.ofInt IntKind.u8.bits (clrB N.live p : Int) ||| BitVec.ofInt IntKind.u8.bits S).toNat : Int) = (setB N.live p : Int) := hb2
      clear hS hb1 hb2
      refine cVe (fun c => ?_) (fun c4 => ?_)
      · subst c
        obtain ⟨o, w1, k2⟩ := k1.set hk (n' := ⟨N.up, N.boot, N.e, N.s, N.m, clrB N.live p, N.hops⟩) (by rw [hN1]) (off := 5) (vs := [.int .u8 (clrB N.live p : Nat)]) (by simp) (by simp) (by rw [hN]; rfl)
        have hk2 : k < (L.set k ((⟨N.up, N.boot, N.e, N.s, N.m, clrB N.live p, N.hops⟩ : NodeR), L[k].2)).length := by simpa using hk
        have e0' := k2.f11.rd (off := 0) (n := 1) (vs := [.int .i64 4]) rfl (by simp)
        have r5' : rds (h3.set (sb u) o) (sb u) (so u + k * 7 + 5) 1 = some [.int .u8 (clrB N.live p : Nat)] := rn hk2 k2 (by rw [List.getElem_set_self]; rfl) (by omega)
        have e6' := k2.f11.rd (off := 6) (n := 1) (vs := [.int .i64 p]) rfl (by simp)
        obtain ⟨o2, w2, k3⟩ := k2.set hk2 (n' := ⟨N.up, N.boot, N.e, N.s, N.m, setB N.live p, N.hops⟩) (by rw [List.getElem_set_self]) (off := 5) (vs := [.int .u8 (setB N.live p : Nat)]) (by simp) (by simp) (by rw [List.getElem_set_self]; rfl)
        simp (dsimp := false) only [go_sem, Nat.reduceAdd, Nat.reduceEqDiff, Nat.reduceMul, Nat.reduceLeDiff, Nat.reduceSub, Nat.reduceLT, ↓reduceIte, reduceCtorEq, List.reduceReplicate, List.flatten_cons, List.flatten_nil, List.append_nil, eq_self, Int.reduceLE, Int.reduceLT, Int.reduceToNat, Nat.min_eq_left, Int.reducePow, Int.reduceNeg, Int.reduceEq, beq_self_eq_true, r5, e6, e0, binV_andNot, hsh, hcl, w1]
        simp (dsimp := false) only [go_sem, Nat.reduceAdd, Nat.reduceEqDiff, Nat.reduceMul, Nat.reduceLeDiff, Nat.reduceSub, Nat.reduceLT, ↓reduceIte, reduceCtorEq, List.reduceReplicate, List.flatten_cons, List.flatten_nil, List.append_nil, eq_self, Int.reduceLE, Int.reduceLT, Int.reduceToNat, Nat.min_eq_left, Int.reducePow, Int.reduceNeg, Int.reduceEq, beq_self_eq_true, e0']
        simp (dsimp := false) only [go_sem, Nat.reduceAdd, Nat.reduceEqDiff, Nat.reduceMul, Nat.reduceLeDiff, Nat.reduceSub, Nat.reduceLT, ↓reduceIte, reduceCtorEq, List.reduceReplicate, List.flatten_cons, List.flatten_nil, List.append_nil, eq_self, Int.reduceLE, Int.reduceLT, Int.reduceToNat, Nat.min_eq_left, Int.reducePow, Int.reduceNeg, Int.reduceEq, r5', e6', hsh, hor, w2, w]
        exact next _ _ _ _ k3 (by rw [mvN_map, mvN_map, List.set_set]; rfl)
      simp (dsimp := false) only [go_sem, Nat.reduceAdd, Nat.reduceEqDiff, Nat.reduceMul, Nat.reduceLeDiff, Nat.reduceSub, Nat.reduceLT, ↓reduceIte, reduceCtorEq, List.reduceReplicate, List.flatten_cons, List.flatten_nil, List.append_nil, eq_self, Int.reduceLE, Int.reduceLT, Int.reduceToNat, Nat.min_eq_left, Int.reducePow, Int.reduceNeg, Int.reduceEq]
      refine cVe (fun c => ?_) (fun c5 => ?_)
      · subst c
        obtain ⟨o, w1, k2⟩ := k1.set hk (n' := ⟨N.up, N.boot, N.e, N.s, N.m, clrB N.live p, N.hops⟩) (by rw [hN1]) (off := 5) (vs := [.int .u8 (clrB N.live p : Nat)]) (by simp) (by simp) (by rw [hN]; rfl)
        have hk2 : k < (L.set k ((⟨N.up, N.boot, N.e, N.s, N.m, clrB N.live p, N.hops⟩ : NodeR), L[k].2)).length := by simpa using hk
        have e0' := k2.f11.rd (off := 0) (n := 1) (vs := [.int .i64 5]) rfl (by simp)
        simp (dsimp := false) only [go_sem, Nat.reduceAdd, Nat.reduceEqDiff, Nat.reduceMul, Nat.reduceLeDiff, Nat.reduceSub, Nat.reduceLT, ↓reduceIte, reduceCtorEq, List.reduceReplicate, List.flatten_cons, List.flatten_nil, List.append_nil, eq_self, Int.reduceLE, Int.reduceLT, Int.reduceToNat, Nat.min_eq_left, Int.reducePow, Int.reduceNeg, Int.reduceEq, (show ((5 : Int) == 4) = false from rfl), beq_self_eq_true, r5, e6, e0, binV_andNot, hsh, hcl, w1]
        simp (dsimp := false) only [go_sem, Nat.reduceAdd, Nat.reduceEqDiff, Nat.reduceMul, Nat.reduceLeDiff, Nat.reduceSub, Nat.reduceLT, ↓reduceIte, reduceCtorEq, List.reduceReplicate, List.flatten_cons, List.flatten_nil, List.append_nil, eq_self, Int.reduceLE, Int.reduceLT, Int.reduceToNat, Nat.min_eq_left, Int.reducePow, Int.reduceNeg, Int.reduceEq, (show ((5 : Int) == 4) = false from rfl), e0', w]
        exact next _ _ _ _ k2 (by rw [mvN_map]; rfl)
      have kt := oT.1
      clear hsh hcl hor r5 e6 oT
      rcases (show wt = 6 ∨ wt = 7 ∨ wt = 8 by omega) with rfl | rfl | rfl
      · clear c1 c2 c3 c4 c5
        have r6 : rds h3 (sb u) (so u + k * 7 + 6) 1 = some [tv] := rn hk k1 (by rw [hN]; rfl) (by omega)
        have own := (k1.out.own k hk).1
        rw [hN] at own
        simp (dsimp := false) only [go_sem, Nat.reduceAdd, Nat.reduceEqDiff, Nat.reduceMul, Nat.reduceLeDiff, Nat.reduceSub, Nat.reduceLT, ↓reduceIte, reduceCtorEq, List.reduceReplicate, List.flatten_cons, List.flatten_nil, List.append_nil, eq_self, Int.reduceLE, Int.reduceLT, Int.reduceToNat, Nat.min_eq_left, Int.reducePow, Int.reduceNeg, Int.reduceEq, (show ((6 : Int) == 6) = true from rfl), r6]
        refine callV_x (delete_spec own k1.f11 (d := d) rfl (by simp)) ?_
        rintro v1 h4 ⟨hc4, o4, pl4⟩
        obtain ⟨o, w1, k2⟩ := k1.mut hk (n' := ⟨N.up, N.boot, N.e, N.s, N.m, N.live, delH N.hops d⟩) (tv' := v1) (by rw [hN2]; exact hc4) o4 (by rw [hN2]; exact pl4.imp id .inl) (off := 6) (vs := [v1]) (by simp) (by simp) (by rw [hN]; rfl)
        have e0' := k2.f11.rd (off := 0) (n := 1) (vs := [.int .i64 6]) rfl (by simp)
        simp (dsimp := false) only [go_sem, Nat.reduceAdd, Nat.reduceEqDiff, Nat.reduceMul, Nat.reduceLeDiff, Nat.reduceSub, Nat.reduceLT, ↓reduceIte, reduceCtorEq, List.reduceReplicate, List.flatten_cons, List.flatten_nil, List.append_nil, eq_self, Int.reduceLE, Int.reduceLT, Int.reduceToNat, Nat.min_eq_left, Int.reducePow, Int.reduceNeg, Int.reduceEq, o4.sl.cellsA, o4.sl.oneA, Bool.and_true, w1, e0']
        simp (dsimp := false) only [go_sem, Nat.reduceAdd, Nat.reduceEqDiff, Nat.reduceMul, Nat.reduceLeDiff, Nat.reduceSub, Nat.reduceLT, ↓reduceIte, reduceCtorEq, List.reduceReplicate, List.flatten_cons, List.flatten_nil, List.append_nil, eq_self, Int.reduceLE, Int.reduceLT, Int.reduceToNat, Nat.min_eq_left, Int.reducePow, Int.reduceNeg, Int.reduceEq, (show ((6 : Int) != 8) = true from rfl)]
        have hk2 : k < (L.set k ((⟨N.up, N.boot, N.e, N.s, N.m, N.live, delH N.hops d⟩ : NodeR), v1)).length := by simpa using hk
        have r6' : rds (h4.set (sb u) o) (sb u) (so u + k * 7 + 6) 1 = some [v1] := rn hk2 k2 (by rw [List.getElem_set_self]; rfl) (by omega)
        have e7 := k2.f11.rd (off := 7) (n := 3) (vs := [.int .i64 d, .int .i64 n, .int .i64 t]) rfl (by simp)
        have own2 : OwH h (h4.set (sb u) o) v1 (delH N.hops d) := by
          have := (k2.out.own k hk2).1
          rw [List.getElem_set_self] at this
          exact this
        have hl9 := (kt.del d).len
        generalize h4.set (sb u) o = h5 at k2 r6' e7 own2 ⊢
        generalize hL1 : L.set k ((⟨N.up, N.boot, N.e, N.s, N.m, N.live, delH N.hops d⟩ : NodeR), v1) = L1 at k2 hk2
        have hL1k : L1[k] = (⟨N.up, N.boot, N.e, N.s, N.m, N.live, delH N.hops d⟩, v1) := by subst hL1; rw [List.getElem_set_self]
        simp (dsimp := false) only [go_sem, Nat.reduceAdd, Nat.reduceEqDiff, Nat.reduceMul, Nat.reduceLeDiff, Nat.reduceSub, Nat.reduceLT, ↓reduceIte, reduceCtorEq, List.reduceReplicate, List.flatten_cons, List.flatten_nil, List.append_nil, eq_self, Int.reduceLE, Int.reduceLT, Int.reduceToNat, Nat.min_eq_left, Int.reducePow, Int.reduceNeg, Int.reduceEq, r6', e7]
        refine (own2.pre (.app _ _)).app (m := 1) rfl rfl ⟨by omega, by omega⟩ (fun v2 h6 o6 hc6 sb6 _ => ?_) (k2.pre.app' _)
        have o6' : OwH h h6 v2 (delH N.hops d ++ [⟨d, n, t⟩]) := by
          unfold OwH
          rw [List.length_append, List.flatMap_append]
          exact o6
        obtain ⟨o2, w2, k3⟩ := (k2.app [AObj.row (.grow 3) [.int .i64 d, .int .i64 n, .int .i64 t]]).mut hk2 (n' := ⟨N.up, N.boot, N.e, N.s, N.m, N.live, delH N.hops d ++ [⟨d, n, t⟩]⟩) (tv' := v2) (by rw [hL1k]; exact hc6) o6'
          (by rw [hL1k]; exact .inr ((sb6 (by omega)).symm.imp id fun q => Nat.le_of_eq q.symm)) (off := 6) (vs := [v2]) (by simp) (by simp) (by rw [hL1k]; rfl)
        have hk3 : k < (L1.set k ((⟨N.up, N.boot, N.e, N.s, N.m, N.live, delH N.hops d ++ [⟨d, n, t⟩]⟩ : NodeR), v2)).length := by simpa using hk2
        have r6'' : rds (h6.set (sb u) o2) (sb u) (so u + k * 7 + 6) 1 = some [v2] := rn hk3 k3 (by rw [List.getElem_set_self]; rfl) (by omega)
        have own3 : OwH h (h6.set (sb u) o2) v2 (delH N.hops d ++ [⟨d, n, t⟩]) := by
          have := (k3.out.own k hk3).1
          rw [List.getElem_set_self] at this
          exact this
        simp (dsimp := false) only [go_sem, Nat.reduceAdd, Nat.reduceEqDiff, Nat.reduceMul, Nat.reduceLeDiff, Nat.reduceSub, Nat.reduceLT, ↓reduceIte, reduceCtorEq, List.reduceReplicate, List.flatten_cons, List.flatten_nil, List.append_nil, eq_self, Int.reduceLE, Int.reduceLT, Int.reduceToNat, Nat.min_eq_left, Int.reducePow, Int.reduceNeg, Int.reduceEq, o6.sl.cellsA, o6.sl.oneA, Bool.and_true, w2]
        simp (dsimp := false) only [go_sem, Nat.reduceAdd, Nat.reduceEqDiff, Nat.reduceMul, Nat.reduceLeDiff, Nat.reduceSub, Nat.reduceLT, ↓reduceIte, reduceCtorEq, List.reduceReplicate, List.flatten_cons, List.flatten_nil, List.append_nil, eq_self, Int.reduceLE, Int.reduceLT, Int.reduceToNat, Nat.min_eq_left, Int.reducePow, Int.reduceNeg, Int.reduceEq, r6'']
        refine callV_x (sort_spec own3 (by simp; omega)) ?_
        rintro _ h8 ⟨hc8, M, oM, pM, sM⟩
        obtain rfl := sorted_put kt (y := ⟨d, n, t⟩) od0 od1 pM sM
        have k4 := k3.inplace hk3 (l := putH N.hops ⟨d, n, t⟩) (by rw [List.getElem_set_self]; exact hc8) (by rw [List.getElem_set_self]; exact oM)
        simp (dsimp := false) only [go_sem, Nat.reduceAdd, Nat.reduceEqDiff, Nat.reduceMul, Nat.reduceLeDiff, Nat.reduceSub, Nat.reduceLT, ↓reduceIte, reduceCtorEq, List.reduceReplicate, List.flatten_cons, List.flatten_nil, List.append_nil, eq_self, Int.reduceLE, Int.reduceLT, Int.reduceToNat, Nat.min_eq_left, Int.reducePow, Int.reduceNeg, Int.reduceEq, w]
        refine next _ _ _ _ k4 ?_
        simp only [List.getElem_set_self]
        rw [mvN_map, mvN_map, ← hL1, mvN_map, List.set_set, List.set_set]
        rfl
      · clear c1 c2 c3 c4 c5
        have r6 : rds h3 (sb u) (so u + k * 7 + 6) 1 = some [tv] := rn hk k1 (by rw [hN]; rfl) (by omega)
        have own := (k1.out.own k hk).1
        rw [hN] at own
        simp (dsimp := false) only [go_sem, Nat.reduceAdd, Nat.reduceEqDiff, Nat.reduceMul, Nat.reduceLeDiff, Nat.reduceSub, Nat.reduceLT, ↓reduceIte, reduceCtorEq, List.reduceReplicate, List.flatten_cons, List.flatten_nil, List.append_nil, eq_self, Int.reduceLE, Int.reduceLT, Int.reduceToNat, Nat.min_eq_left, Int.reducePow, Int.reduceNeg, Int.reduceEq, (show ((7 : Int) == 6) = false from rfl), (show ((7 : Int) == 7) = true from rfl), r6]
        refine callV_x (delete_spec own k1.f11 (d := d) rfl (by simp)) ?_
        rintro v1 h4 ⟨hc4, o4, pl4⟩
        obtain ⟨o, w1, k2⟩ := k1.mut hk (n' := ⟨N.up, N.boot, N.e, N.s, N.m, N.live, delH N.hops d⟩) (tv' := v1) (by rw [hN2]; exact hc4) o4 (by rw [hN2]; exact pl4.imp id .inl) (off := 6) (vs := [v1]) (by simp) (by simp) (by rw [hN]; rfl)
        have e0' := k2.f11.rd (off := 0) (n := 1) (vs := [.int .i64 7]) rfl (by simp)
        simp (dsimp := false) only [go_sem, Nat.reduceAdd, Nat.reduceEqDiff, Nat.reduceMul, Nat.reduceLeDiff, Nat.reduceSub, Nat.reduceLT, ↓reduceIte, reduceCtorEq, List.reduceReplicate, List.flatten_cons, List.flatten_nil, List.append_nil, eq_self, Int.reduceLE, Int.reduceLT, Int.reduceToNat, Nat.min_eq_left, Int.reducePow, Int.reduceNeg, Int.reduceEq, o4.sl.cellsA, o4.sl.oneA, Bool.and_true, w1, e0']
        simp (dsimp := false) only [go_sem, Nat.reduceAdd, Nat.reduceEqDiff, Nat.reduceMul, Nat.reduceLeDiff, Nat.reduceSub, Nat.reduceLT, ↓reduceIte, reduceCtorEq, List.reduceReplicate, List.flatten_cons, List.flatten_nil, List.append_nil, eq_self, Int.reduceLE, Int.reduceLT, Int.reduceToNat, Nat.min_eq_left, Int.reducePow, Int.reduceNeg, Int.reduceEq, (show ((7 : Int) != 8) = true from rfl)]
        have hk2 : k < (L.set k ((⟨N.up, N.boot, N.e, N.s, N.m, N.live, delH N.hops d⟩ : NodeR), v1)).length := by simpa using hk
        have r6' : rds (h4.set (sb u) o) (sb u) (so u + k * 7 + 6) 1 = some [v1] := rn hk2 k2 (by rw [List.getElem_set_self]; rfl) (by omega)
        have e7 := k2.f11.rd (off := 7) (n := 3) (vs := [.int .i64 d, .int .i64 n, .int .i64 t]) rfl (by simp)
        have own2 : OwH h (h4.set (sb u) o) v1 (delH N.hops d) := by
          have := (k2.out.own k hk2).1
          rw [List.getElem_set_self] at this
          exact this
        have hl9 := (kt.del d).len
        generalize h4.set (sb u) o = h5 at k2 r6' e7 own2 ⊢
        generalize hL1 : L.set k ((⟨N.up, N.boot, N.e, N.s, N.m, N.live, delH N.hops d⟩ : NodeR), v1) = L1 at k2 hk2
        have hL1k : L1[k] = (⟨N.up, N.boot, N.e, N.s, N.m, N.live, delH N.hops d⟩, v1) := by subst hL1; rw [List.getElem_set_self]
        simp (dsimp := false) only [go_sem, Nat.reduceAdd, Nat.reduceEqDiff, Nat.reduceMul, Nat.reduceLeDiff, Nat.reduceSub, Nat.reduceLT, ↓reduceIte, reduceCtorEq, List.reduceReplicate, List.flatten_cons, List.flatten_nil, List.append_nil, eq_self, Int.reduceLE, Int.reduceLT, Int.reduceToNat, Nat.min_eq_left, Int.reducePow, Int.reduceNeg, Int.reduceEq, r6', e7]
        refine (own2.pre (.app _ _)).app (m := 1) rfl rfl ⟨by omega, by omega⟩ (fun v2 h6 o6 hc6 sb6 _ => ?_) (k2.pre.app' _)
        have o6' : OwH h h6 v2 (delH N.hops d ++ [⟨d, n, t⟩]) := by
          unfold OwH
          rw [List.length_append, List.flatMap_append]
          exact o6
        obtain ⟨o2, w2, k3⟩ := (k2.app [AObj.row (.grow 3) [.int .i64 d, .int .i64 n, .int .i64 t]]).mut hk2 (n' := ⟨N.up, N.boot, N.e, N.s, N.m, N.live, delH N.hops d ++ [⟨d, n, t⟩]⟩) (tv' := v2) (by rw [hL1k]; exact hc6) o6'
          (by rw [hL1k]; exact .inr ((sb6 (by omega)).symm.imp id fun q => Nat.le_of_eq q.symm)) (off := 6) (vs := [v2]) (by simp) (by simp) (by rw [hL1k]; rfl)
        have hk3 : k < (L1.set k ((⟨N.up, N.boot, N.e, N.s, N.m, N.live, delH N.hops d ++ [⟨d, n, t⟩]⟩ : NodeR), v2)).length := by simpa using hk2
        have r6'' : rds (h6.set (sb u) o2) (sb u) (so u + k * 7 + 6) 1 = some [v2] := rn hk3 k3 (by rw [List.getElem_set_self]; rfl) (by omega)
        have own3 : OwH h (h6.set (sb u) o2) v2 (delH N.hops d ++ [⟨d, n, t⟩]) := by
          have := (k3.out.own k hk3).1
          rw [List.getElem_set_self] at this
          exact this
        simp (dsimp := false) only [go_sem, Nat.reduceAdd, Nat.reduceEqDiff, Nat.reduceMul, Nat.reduceLeDiff, Nat.reduceSub, Nat.reduceLT, ↓reduceIte, reduceCtorEq, List.reduceReplicate, List.flatten_cons, List.flatten_nil, List.append_nil, eq_self, Int.reduceLE, Int.reduceLT, Int.reduceToNat, Nat.min_eq_left, Int.reducePow, Int.reduceNeg, Int.reduceEq, o6.sl.cellsA, o6.sl.oneA, Bool.and_true, w2]
        simp (dsimp := false) only [go_sem, Nat.reduceAdd, Nat.reduceEqDiff, Nat.reduceMul, Nat.reduceLeDiff, Nat.reduceSub, Nat.reduceLT, ↓reduceIte, reduceCtorEq, List.reduceReplicate, List.flatten_cons, List.flatten_nil, List.append_nil, eq_self, Int.reduceLE, Int.reduceLT, Int.reduceToNat, Nat.min_eq_left, Int.reducePow, Int.reduceNeg, Int.reduceEq, r6'']
        refine callV_x (sort_spec own3 (by simp; omega)) ?_
        rintro _ h8 ⟨hc8, M, oM, pM, sM⟩
        obtain rfl := sorted_put kt (y := ⟨d, n, t⟩) od0 od1 pM sM
        have k4 := k3.inplace hk3 (l := putH N.hops ⟨d, n, t⟩) (by rw [List.getElem_set_self]; exact hc8) (by rw [List.getElem_set_self]; exact oM)
        simp (dsimp := false) only [go_sem, Nat.reduceAdd, Nat.reduceEqDiff, Nat.reduceMul, Nat.reduceLeDiff, Nat.reduceSub, Nat.reduceLT, ↓reduceIte, reduceCtorEq, List.reduceReplicate, List.flatten_cons, List.flatten_nil, List.append_nil, eq_self, Int.reduceLE, Int.reduceLT, Int.reduceToNat, Nat.min_eq_left, Int.reducePow, Int.reduceNeg, Int.reduceEq, w]
        refine next _ _ _ _ k4 ?_
        simp only [List.getElem_set_self]
        rw [mvN_map, mvN_map, ← hL1, mvN_map, List.set_set, List.set_set]
        rfl
      · clear c1 c2 c3 c4 c5
        have r6 : rds h3 (sb u) (so u + k * 7 + 6) 1 = some [tv] := rn hk k1 (by rw [hN]; rfl) (by omega)
        have own := (k1.out.own k hk).1
        rw [hN] at own
        simp (dsimp := false) only [go_sem, Nat.reduceAdd, Nat.reduceEqDiff, Nat.reduceMul, Nat.reduceLeDiff, Nat.reduceSub, Nat.reduceLT, ↓reduceIte, reduceCtorEq, List.reduceReplicate, List.flatten_cons, List.flatten_nil, List.append_nil, eq_self, Int.reduceLE, Int.reduceLT, Int.reduceToNat, Nat.min_eq_left, Int.reducePow, Int.reduceNeg, Int.reduceEq, (show ((8 : Int) == 6) = false from rfl), (show ((8 : Int) == 7) = false from rfl), (show ((8 : Int) == 8) = true from rfl), r6]
        refine callV_x (delete_spec own k1.f11 (d := d) rfl (by simp)) ?_
        rintro v1 h4 ⟨hc4, o4, pl4⟩
        obtain ⟨o, w1, k2⟩ := k1.mut hk (n' := ⟨N.up, N.boot, N.e, N.s, N.m, N.live, delH N.hops d⟩) (tv' := v1) (by rw [hN2]; exact hc4) o4 (by rw [hN2]; exact pl4.imp id .inl) (off := 6) (vs := [v1]) (by simp) (by simp) (by rw [hN]; rfl)
        have e0' := k2.f11.rd (off := 0) (n := 1) (vs := [.int .i64 8]) rfl (by simp)
        simp (dsimp := false) only [go_sem, Nat.reduceAdd, Nat.reduceEqDiff, Nat.reduceMul, Nat.reduceLeDiff, Nat.reduceSub, Nat.reduceLT, ↓reduceIte, reduceCtorEq, List.reduceReplicate, List.flatten_cons, List.flatten_nil, List.append_nil, eq_self, Int.reduceLE, Int.reduceLT, Int.reduceToNat, Nat.min_eq_left, Int.reducePow, Int.reduceNeg, Int.reduceEq, o4.sl.cellsA, o4.sl.oneA, Bool.and_true, w1, e0']
        simp (dsimp := false) only [go_sem, Nat.reduceAdd, Nat.reduceEqDiff, Nat.reduceMul, Nat.reduceLeDiff, Nat.reduceSub, Nat.reduceLT, ↓reduceIte, reduceCtorEq, List.reduceReplicate, List.flatten_cons, List.flatten_nil, List.append_nil, eq_self, Int.reduceLE, Int.reduceLT, Int.reduceToNat, Nat.min_eq_left, Int.reducePow, Int.reduceNeg, Int.reduceEq, (show ((8 : Int) != 8) = false from rfl), w]
        exact next _ _ _ _ k2 (by rw [mvN_map]; rfl)
    · obtain rfl : i = D.length := by omega
      rw [List.take_length] at hL
      simp (dsimp := false) only [↓ir.watch_Apply.l2.bw, go_sem, Nat.reduceAdd, Nat.reduceEqDiff, Nat.reduceMul, Nat.reduceLeDiff, Nat.reduceSub, Nat.reduceLT, ↓reduceIte, reduceCtorEq, List.reduceReplicate, List.flatten_cons, List.flatten_nil, List.append_nil, eq_self, Int.reduceLE, Int.reduceLT, Int.reduceToNat, Nat.min_eq_left, Int.reducePow, Int.reduceNeg, Int.reduceEq, Int.ofNat_lt, Nat.lt_irrefl, decide_false]
      have rr7 := k0.f7.rd (off := 0) (n := 2) (vs := [.int .i64 tb, u]) rfl (by simp)
      have wr : wrs h2 (h.length + 1) 0 [.int .i64 tb, u] = some (h2.set (h.length + 1) (.row .fix [.int .i64 tb, u])) := by rw [k0.f6.wr (by simp)]; rfl
      have rr6 := (k0.f6.set [.int .i64 tb, u]).rd (off := 0) (n := 2) (vs := [.int .i64 tb, u]) rfl (by simp)
      have ls := (k0.out.fx k0.f6 (.row .fix [.int .i64 tb, u])).nodes
      rw [hL] at ls
      simp (dsimp := false) only [go_sem, Nat.reduceAdd, Nat.reduceEqDiff, Nat.reduceMul, Nat.reduceLeDiff, Nat.reduceSub, Nat.reduceLT, ↓reduceIte, reduceCtorEq, List.reduceReplicate, List.flatten_cons, List.flatten_nil, List.append_nil, eq_self, Int.reduceLE, Int.reduceLT, Int.reduceToNat, Nat.min_eq_left, Int.reducePow, Int.reduceNeg, Int.reduceEq, rr7, k0.out.row.sl.oneA, Bool.and_true, wr, rr6]
      exact ⟨k0.pre.put (by omega) _, u, rfl, ls⟩
end Go.Proofs.YtoiihalnbdehkaaDoor.B
