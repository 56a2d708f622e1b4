/-
  'fingerpostlaw01.RankFloors' answers true.
-/
import Derived.Test.YtbomppdiiaodbaaRRRRf3
namespace Go.Proofs.YtbomppdiiaodbaaRRR.B
open Go
set_option linter.unusedVariables false
set_option linter.unusedSimpArgs false
set_option maxRecDepth 100000
abbrev ZZ : List Value := [.bool false, .bool false, .bool false, .bool false, .bool false, .bool false, .bool false, .bool false, .int .u32 0, .int .u32 0, .int .i64 0, .int .u32 0, .int .u32 0, .int .i64 0, .int .u32 0, .int .u32 0, .int .i64 0, .int .u32 0, .int .u32 0, .int .i64 0, .int .u32 0, .int .u32 0, .int .i64 0, .int .u32 0, .int .u32 0, .int .i64 0, .int .u32 0, .int .u32 0, .int .i64 0, .int .u32 0, .int .u32 0, .int .i64 0]
theorem rankFloors_spec {h : AHeap} {v : Value} {l : List OpR} (hv : Ls h 4 isOp v l) (ke ks km : Int) : SpecX Try.prog nG fn.law01_RankFloors [v, keyV ke ks km] h fun v' _ => v' = .bool true := by
  refine SpecX.of_body (ir.law01_RankFloors.spec (Nat.le_of_ble_eq_true rfl)) ?_
  simp (dsimp := false) only [↓ir.law01_RankFloors.bw, ir.law01_RankFloors.rs, go_sem, Nat.reduceAdd, Nat.reduceEqDiff, Nat.reduceMul, Nat.reduceLeDiff, Nat.reduceSub, Nat.reduceLT, ↓reduceIte, reduceCtorEq, List.reduceReplicate, List.flatten_cons, List.flatten_nil, List.append_nil, eq_self, Int.reduceLE, Int.reduceLT, Int.reduceToNat, Nat.min_eq_left, Int.reducePow, Int.reduceNeg, Int.reduceEq]
  refine callV_x new_spec ?_
  rintro _ h1 ⟨hp1, fp, mb, rfl, F1, hfp, hmb, hml, hfl⟩
  have y1 : Fx h1 h.length [.int .u32 ke, .int .u32 ks, .int .i64 km] := (Fx.here h _ []).pre hp1
  have hp0 := (Pre.app h [.row .fix [.int .u32 ke, .int .u32 ks, .int .i64 km]]).trans hp1
  simp (dsimp := false) only [go_sem, Nat.reduceAdd, Nat.reduceEqDiff, Nat.reduceMul, Nat.reduceLeDiff, Nat.reduceSub, Nat.reduceLT, ↓reduceIte, reduceCtorEq, List.reduceReplicate, List.flatten_cons, List.flatten_nil, List.append_nil, eq_self, Int.reduceLE, Int.reduceLT, Int.reduceToNat, Nat.min_eq_left, Int.reducePow, Int.reduceNeg, Int.reduceEq, hv.lenV]
  obtain ⟨bb, hbb⟩ : ∃ bb, h1.length = bb := ⟨_, rfl⟩
  have hne : fp ≠ mb := by
    intro e; subst e
    have := F1.f
    unfold Fx at this
    rw [F1.m] at this
    cases this
  simp only [List.length_append, List.length_cons, List.length_nil] at hfp hmb
  rw [hbb]
  have x1 : Fx (h1 ++ [.row .fix ZZ]) bb (flK []) := by subst hbb; exact Fx.here h1 _ []
  refine loopV_of (fun m e h2 => ∃ (i : Nat) (kc : List (Int × Value)), m = l.length - i ∧ i ≤ l.length ∧ Pre h h2 ∧ FloorsV h2 fp mb kc ∧ Good kc ∧ Fx h2 bb (flK kc) ∧ Fx h2 h.length [.int .u32 ke, .int .u32 ks, .int .i64 km] ∧
    e = [(3, .pointer (some ⟨h.length, 0, none⟩)), (5, .pointer (some ⟨fp, 0, none⟩)), (6, .pointer (some ⟨bb, 0, none⟩)), (24, v), (25, .int .i64 l.length), (26, .int .i64 i)]) _ ⟨0, [], rfl, Nat.zero_le _, hp0.app' _, F1.pre (.app _ _), Good.nil, x1, y1.app _, rfl⟩ ?_
  have hfb : fp ≠ bb := by omega
  have hmbb : mb ≠ bb := by omega
  have hb0 : h.length < bb := by have := y1.lt; omega
  clear x1 hp0 y1 F1 hp1 hbb hml hfl
  rintro m e h2 ⟨i, kc, rfl, hi, hp, F, g, x, y, rfl⟩
  rcases Nat.lt_or_ge i l.length with hlt | hge
  case inr =>
    simp (dsimp := false) only [↓ir.law01_RankFloors.l3.bw, go_sem, Nat.reduceAdd, Nat.reduceEqDiff, Nat.reduceMul, Nat.reduceLeDiff, Nat.reduceSub, Nat.reduceLT, ↓reduceIte, reduceCtorEq, List.reduceReplicate, List.flatten_cons, List.flatten_nil, List.append_nil, eq_self, Int.reduceLE, Int.reduceLT, Int.reduceToNat, Nat.min_eq_left, Int.reducePow, Int.reduceNeg, Int.reduceEq, Int.ofNat_lt, show ¬ i < l.length by omega, decide_false]
    refine callV_of (right_spec _ 0 0 0) ?_
    simp (dsimp := false) only [go_sem, Nat.reduceAdd, Nat.reduceEqDiff, Nat.reduceMul, Nat.reduceLeDiff, Nat.reduceSub, Nat.reduceLT, ↓reduceIte, reduceCtorEq, List.reduceReplicate, List.flatten_cons, List.flatten_nil, List.append_nil, eq_self, Int.reduceLE, Int.reduceLT, Int.reduceToNat, Nat.min_eq_left, Int.reducePow, Int.reduceNeg, Int.reduceEq]
    rfl
  obtain ⟨_, _, t0, r0, r1⟩ := hv.rd2 hp hlt
  obtain ⟨d, e, s, m, hop⟩ : ∃ d e s m, l[i] = ⟨d, e, s, m⟩ := ⟨_, _, _, _, rfl⟩
  rw [hop] at t0
  subst t0
  simp only [OpR.c] at r0 r1
  have hml2 := (List.getElem?_eq_some_iff.1 F.m).1
  simp (dsimp := false) only [↓ir.law01_RankFloors.l3.bw, go_sem, Nat.reduceAdd, Nat.reduceEqDiff, Nat.reduceMul, Nat.reduceLeDiff, Nat.reduceSub, Nat.reduceLT, ↓reduceIte, reduceCtorEq, List.reduceReplicate, List.flatten_cons, List.flatten_nil, List.append_nil, eq_self, Int.reduceLE, Int.reduceLT, Int.reduceToNat, Nat.min_eq_left, Int.reducePow, Int.reduceNeg, Int.reduceEq, Int.ofNat_lt, hlt, decide_true, hv.ixsN hlt, r0]
  have i5 : IntKind.i64.wrap ((i : Int) + 1) = ((i + 1 : Nat) : Int) := wrap_succ hlt hv.le
  refine callV_of (to_spec _ e s m) ⟨.refl _, ?_⟩
  simp (dsimp := false) only [go_sem, Nat.reduceAdd, Nat.reduceEqDiff, Nat.reduceMul, Nat.reduceLeDiff, Nat.reduceSub, Nat.reduceLT, ↓reduceIte, reduceCtorEq, List.reduceReplicate, List.flatten_cons, List.flatten_nil, List.append_nil, eq_self, Int.reduceLE, Int.reduceLT, Int.reduceToNat, Nat.min_eq_left, Int.reducePow, Int.reduceNeg, Int.reduceEq]
  refine callV_x (raise_spec (F.pre (.app _ _)) d e s m) ?_
  rintro _ h3 ⟨up, er, kc2, hq, rfl, p3⟩
  have g2 := g.raise hq
  have op0 : Fx (h2 ++ [AObj.row .fix [.int .i64 d, .int .u32 e, .int .u32 s, .int .i64 m]]) h2.length [.int .i64 d, .int .u32 e, .int .u32 s, .int .i64 m] := Fx.here _ _ _
  have op3 := (op0.other (c := mb) (by omega) (.map true (encM kc2))).pre p3
  have x3 := ((x.app [AObj.row .fix [.int .i64 d, .int .u32 e, .int .u32 s, .int .i64 m]]).other (c := mb) (by omega) (.map true (encM kc2))).pre p3
  have y3 := ((y.app [AObj.row .fix [.int .i64 d, .int .u32 e, .int .u32 s, .int .i64 m]]).other (c := mb) (by omega) (.map true (encM kc2))).pre p3
  have hp3 := ((hp.app' [AObj.row .fix [.int .i64 d, .int .u32 e, .int .u32 s, .int .i64 m]]).put (by omega) (.map true (encM kc2))).trans p3
  have F3 : FloorsV h3 fp mb kc2 := ⟨((F.f.app _).other (c := mb) (by omega) _).pre p3, by
    rw [p3.get (by simp; omega), List.getElem?_set_self (by simp; omega)], g2.k⟩
  clear op0 x y hp F
  have w3 := x3.wholeF (n := 32) rfl
  have agf : aggOf true (flK kc) = some (.agg ⟨flK kc⟩) := rfl
  have agk : aggOf true [.int .u32 e, .int .u32 s, .int .i64 m] = some (keyV e s m) := rfl
  have o1 := op3.rd (off := 0) (n := 1) (vs := [.int .i64 d]) rfl (by simp)
  have o2 := op3.rd (off := 1) (n := 3) (vs := [.int .u32 e, .int .u32 s, .int .i64 m]) rfl (by simp)
  simp (dsimp := false) only [go_sem, Nat.reduceAdd, Nat.reduceEqDiff, Nat.reduceMul, Nat.reduceLeDiff, Nat.reduceSub, Nat.reduceLT, ↓reduceIte, reduceCtorEq, List.reduceReplicate, List.flatten_cons, List.flatten_nil, List.append_nil, eq_self, Int.reduceLE, Int.reduceLT, Int.reduceToNat, Nat.min_eq_left, Int.reducePow, Int.reduceNeg, Int.reduceEq, w3, agf, o1, o2, agk]
  refine callV_x (rraise_spec g.k g.i d e s m) ?_
  rintro _ h4 ⟨p4, up', er', kc', hq', rfl⟩
  rw [← hq] at hq'
  cases hq'
  have cap : cellsA (.agg ⟨flK kc2⟩) = some (flK kc2) := rfl
  have agp : aggOf true (flK kc2) = some (.agg ⟨flK kc2⟩) := rfl
  have hwn := wrs_new (h := h4) (cs := ZZ) (vs := flK kc2) rfl
  simp (dsimp := false) only [go_sem, Nat.reduceAdd, Nat.reduceEqDiff, Nat.reduceMul, Nat.reduceLeDiff, Nat.reduceSub, Nat.reduceLT, ↓reduceIte, reduceCtorEq, List.reduceReplicate, List.flatten_cons, List.flatten_nil, List.append_nil, eq_self, Int.reduceLE, Int.reduceLT, Int.reduceToNat, Nat.min_eq_left, Int.reducePow, Int.reduceNeg, Int.reduceEq, cap, hwn, beq_self_eq_true, bne_self_eq_false]
  refine ⟨rfl, rfl, ?_⟩
  have qw : (if 32 ≤ (flK kc2).length then some (List.take 32 (flK kc2)) else none).bind (aggOf true) = some (.agg ⟨flK kc2⟩) := rfl
  have x5 := (x3.pre p4).app [.row .fix (flK kc2)]
  have hw5 := x5.overF (vs := flK kc2) rfl
  have xA := x5.set (flK kc2)
  have yA := ((y3.pre p4).app [.row .fix (flK kc2)]).other (c := bb) (by omega) (.row .fix (flK kc2))
  have F4 := (F3.pre p4).pre (.app h4 [.row .fix (flK kc2)])
  have FA : FloorsV ((h4 ++ [AObj.row .fix (flK kc2)]).set bb (AObj.row .fix (flK kc2))) fp mb kc2 := ⟨F4.f.other (c := bb) (by omega) _, by rw [List.getElem?_set_ne (by omega)]; exact F4.m, F4.k⟩
  have hpA := ((hp3.trans p4).app' [.row .fix (flK kc2)]).put (b := bb) (by omega) (.row .fix (flK kc2))
  rw [qw]
  simp (dsimp := false) only [go_sem, Nat.reduceAdd, Nat.reduceEqDiff, Nat.reduceMul, Nat.reduceLeDiff, Nat.reduceSub, Nat.reduceLT, ↓reduceIte, reduceCtorEq, List.reduceReplicate, List.flatten_cons, List.flatten_nil, List.append_nil, eq_self, Int.reduceLE, Int.reduceLT, Int.reduceToNat, Nat.min_eq_left, Int.reducePow, Int.reduceNeg, Int.reduceEq, cap, hw5]
  refine ⟨rfl, rfl, ?_⟩
  clear x5 hw5 F4 F3 y3 x3 hp3 p4 p3 op3 w3 o1 o2 hwn
  generalize ((h4 ++ [AObj.row .fix (flK kc2)]).set bb (.row .fix (flK kc2))) = hA at xA yA FA hpA ⊢
  refine loopV_of (fun m' e' h5 => ∃ (j : Nat) (w : Value), m' = 10 - j ∧ j ≤ 10 ∧ Pre hA h5 ∧ Ow hA h5 1 w (hasN kc2 j).length (ik .i64 (hasN kc2 j)) ∧
    e' = [(3, .pointer (some ⟨h.length, 0, none⟩)), (5, .pointer (some ⟨fp, 0, none⟩)), (6, .pointer (some ⟨bb, 0, none⟩)), (14, w), (15, .int .i64 ((j : Int) - 1)), (24, v), (25, .int .i64 l.length), (26, .int .i64 i)]) _ ⟨0, nilS, rfl, Nat.zero_le _, .refl _, .nil, rfl⟩ ?_
  rintro m' e' h5 ⟨j, w, rfl, hj, p5, ow, rfl⟩
  rcases Nat.lt_or_ge j 10 with hlt2 | hge2
  case inl =>
    have d0 : decide ((j : Int) - 1 ≤ 8) = true := decide_eq_true (by omega)
    have x5 := xA.pre p5
    have y5 := yA.pre p5
    have F5 := FA.pre p5
    simp (dsimp := false) only [↓ir.law01_RankFloors.l1.bw, go_sem, Nat.reduceAdd, Nat.reduceEqDiff, Nat.reduceMul, Nat.reduceLeDiff, Nat.reduceSub, Nat.reduceLT, ↓reduceIte, reduceCtorEq, List.reduceReplicate, List.flatten_cons, List.flatten_nil, List.append_nil, eq_self, Int.reduceLE, Int.reduceLT, Int.reduceToNat, Nat.min_eq_left, Int.reducePow, Int.reduceNeg, Int.reduceEq, d0]
    refine callV_x (get_spec F5 _) ?_
    rintro _ h6 ⟨p6, rfl⟩
    obtain ⟨te, ts, tm, ht⟩ : ∃ te ts tm, kT (getM ((j : Int) - 1) kc2) = (te, ts, tm) := ⟨_, _, _, rfl⟩
    obtain ⟨b, hb⟩ : ∃ b, (getM ((j : Int) - 1) kc2).isSome = b := ⟨_, rfl⟩
    have hgot : gotV (getM ((j : Int) - 1) kc2) = .tuple #[.agg ⟨[.int .u32 te, .int .u32 ts, .int .i64 tm]⟩, .bool b] := by rw [got_kT g2.k, ht, hb]; rfl
    have x6 := x5.pre p6
    rw [hgot]
    have cat : cellsA (.agg ⟨[.int .u32 te, .int .u32 ts, .int .i64 tm]⟩) = some [.int .u32 te, .int .u32 ts, .int .i64 tm] := rfl
    have hw6 := wrs_new (h := h6) (cs := [.int .u32 0, .int .u32 0, .int .i64 0]) (vs := [.int .u32 te, .int .u32 ts, .int .i64 tm]) rfl
    have ra6 := (x6.app [.row .fix [.int .u32 te, .int .u32 ts, .int .i64 tm]]).wholeF (n := 32) rfl
    simp (dsimp := false) only [go_sem, Nat.reduceAdd, Nat.reduceEqDiff, Nat.reduceMul, Nat.reduceLeDiff, Nat.reduceSub, Nat.reduceLT, ↓reduceIte, reduceCtorEq, List.reduceReplicate, List.flatten_cons, List.flatten_nil, List.append_nil, eq_self, Int.reduceLE, Int.reduceLT, Int.reduceToNat, Nat.min_eq_left, Int.reducePow, Int.reduceNeg, Int.reduceEq, cat, hw6, ra6, agp]
    have y7 := (y5.pre p6).app [.row .fix [.int .u32 te, .int .u32 ts, .int .i64 tm]]
    have F7 := (F5.pre p6).pre (.app h6 [.row .fix [.int .u32 te, .int .u32 ts, .int .i64 tm]])
    have z7 : Fx (h6 ++ [.row .fix [.int .u32 te, .int .u32 ts, .int .i64 tm]]) h6.length [.int .u32 te, .int .u32 ts, .int .i64 tm] := Fx.here _ _ _
    have x7 := x6.app [.row .fix [.int .u32 te, .int .u32 ts, .int .i64 tm]]
    have p7 := (p5.trans p6).app' [.row .fix [.int .u32 te, .int .u32 ts, .int .i64 tm]]
    have o7 := (ow.pre p6).pre (.app h6 [.row .fix [.int .u32 te, .int .u32 ts, .int .i64 tm]])
    refine callV_x (rget_spec g2.k g2.i _) ?_
    rintro _ h8 ⟨p8, rfl⟩
    rw [hgot]
    have hw8 := wrs_new (h := h8) (cs := [.int .u32 0, .int .u32 0, .int .i64 0]) (vs := [.int .u32 te, .int .u32 ts, .int .i64 tm]) rfl
    have z9 := (z7.pre p8).app [.row .fix [.int .u32 te, .int .u32 ts, .int .i64 tm]]
    have v9 : Fx (h8 ++ [.row .fix [.int .u32 te, .int .u32 ts, .int .i64 tm]]) h8.length [.int .u32 te, .int .u32 ts, .int .i64 tm] := Fx.here _ _ _
    have y9 := (y7.pre p8).app [.row .fix [.int .u32 te, .int .u32 ts, .int .i64 tm]]
    have x9 := (x7.pre p8).app [.row .fix [.int .u32 te, .int .u32 ts, .int .i64 tm]]
    have F9 := (F7.pre p8).pre (.app h8 [.row .fix [.int .u32 te, .int .u32 ts, .int .i64 tm]])
    have o9 := (o7.pre p8).pre (.app h8 [.row .fix [.int .u32 te, .int .u32 ts, .int .i64 tm]])
    have p9 := (p7.trans p8).app' [.row .fix [.int .u32 te, .int .u32 ts, .int .i64 tm]]
    have rz := z9.wholeF (n := 3) rfl
    have rv := v9.wholeF (n := 3) rfl
    have ag3 : aggOf true [.int .u32 te, .int .u32 ts, .int .i64 tm] = some (.agg ⟨[.int .u32 te, .int .u32 ts, .int .i64 tm]⟩) := rfl
    simp (dsimp := false) only [go_sem, Nat.reduceAdd, Nat.reduceEqDiff, Nat.reduceMul, Nat.reduceLeDiff, Nat.reduceSub, Nat.reduceLT, ↓reduceIte, reduceCtorEq, List.reduceReplicate, List.flatten_cons, List.flatten_nil, List.append_nil, eq_self, Int.reduceLE, Int.reduceLT, Int.reduceToNat, Nat.min_eq_left, Int.reducePow, Int.reduceNeg, Int.reduceEq, cat, hw8, bne_self_eq_false, rz, ag3]
    generalize (h8 ++ [AObj.row .fix [.int .u32 te, .int .u32 ts, .int .i64 tm]]) = h9 at *
    refine callV_of (from_spec _ te ts tm) ⟨.refl _, ?_⟩
    have ry := y9.wholeF (n := 3) rfl
    have agy : aggOf true [.int .u32 ke, .int .u32 ks, .int .i64 km] = some (keyV ke ks km) := rfl
    simp (dsimp := false) only [go_sem, Nat.reduceAdd, Nat.reduceEqDiff, Nat.reduceMul, Nat.reduceLeDiff, Nat.reduceSub, Nat.reduceLT, ↓reduceIte, reduceCtorEq, List.reduceReplicate, List.flatten_cons, List.flatten_nil, List.append_nil, eq_self, Int.reduceLE, Int.reduceLT, Int.reduceToNat, Nat.min_eq_left, Int.reducePow, Int.reduceNeg, Int.reduceEq, rv, ag3, beq_self_eq_true, ry, agy]
    refine callV_of (to_spec _ ke ks km) ⟨.refl _, ?_⟩
    simp (dsimp := false) only [go_sem, Nat.reduceAdd, Nat.reduceEqDiff, Nat.reduceMul, Nat.reduceLeDiff, Nat.reduceSub, Nat.reduceLT, ↓reduceIte, reduceCtorEq, List.reduceReplicate, List.flatten_cons, List.flatten_nil, List.append_nil, eq_self, Int.reduceLE, Int.reduceLT, Int.reduceToNat, Nat.min_eq_left, Int.reducePow, Int.reduceNeg, Int.reduceEq]
    refine callV_x (may_spec F9 _ ke ks km) ?_
    rintro _ h10 ⟨p10, rfl⟩
    refine ⟨p10, ?_⟩
    have ra10 := (x9.pre p10).wholeF (n := 32) rfl
    have ry10 := (y9.pre p10).wholeF (n := 3) rfl
    simp (dsimp := false) only [go_sem, Nat.reduceAdd, Nat.reduceEqDiff, Nat.reduceMul, Nat.reduceLeDiff, Nat.reduceSub, Nat.reduceLT, ↓reduceIte, reduceCtorEq, List.reduceReplicate, List.flatten_cons, List.flatten_nil, List.append_nil, eq_self, Int.reduceLE, Int.reduceLT, Int.reduceToNat, Nat.min_eq_left, Int.reducePow, Int.reduceNeg, Int.reduceEq, ra10, agp, ry10, agy]
    refine callV_x (rmay_spec g2.k g2.i _ ke ks km) ?_
    rintro _ h11 ⟨p11, rfl⟩
    refine ⟨p11, ?_⟩
    have o11 := (o9.pre p10).pre p11
    have p12 := (p9.trans p10).trans p11
    have dw : IntKind.i64.wrap ((j : Int) - 1 + 1) = ((j + 1 : Nat) : Int) - 1 := by rw [wrap_i64 (by omega)]; omega
    have hlen := hasN_len kc2 j
    cases b with
    | false =>
      have hN : hasN kc2 (j + 1) = hasN kc2 j := by rw [hasN, hb]; simp
      simp (dsimp := false) only [go_sem, Nat.reduceAdd, Nat.reduceEqDiff, Nat.reduceMul, Nat.reduceLeDiff, Nat.reduceSub, Nat.reduceLT, ↓reduceIte, reduceCtorEq, List.reduceReplicate, List.flatten_cons, List.flatten_nil, List.append_nil, eq_self, Int.reduceLE, Int.reduceLT, Int.reduceToNat, Nat.min_eq_left, Int.reducePow, Int.reduceNeg, Int.reduceEq, bne_self_eq_false, dw]
      exact ⟨10 - (j + 1), by omega, j + 1, w, rfl, hlt2, p12, by rw [hN]; exact o11, rfl⟩
    | true =>
      have hN : hasN kc2 (j + 1) = hasN kc2 j ++ [(j : Int) - 1] := by rw [hasN, hb]; simp
      simp (dsimp := false) only [go_sem, Nat.reduceAdd, Nat.reduceEqDiff, Nat.reduceMul, Nat.reduceLeDiff, Nat.reduceSub, Nat.reduceLT, ↓reduceIte, reduceCtorEq, List.reduceReplicate, List.flatten_cons, List.flatten_nil, List.append_nil, eq_self, Int.reduceLE, Int.reduceLT, Int.reduceToNat, Nat.min_eq_left, Int.reducePow, Int.reduceNeg, Int.reduceEq, bne_self_eq_false]
      refine (o11.pre (.app h11 [.row (.grow 1) [.int .i64 ((j : Int) - 1)]])).app (m := 1) rfl rfl (show room ((hasN kc2 j).length + 1) 8 from ⟨by omega, by omega⟩) (fun w2 h12 o12 hc _ _ => ?_) (p12.app' _)
      have p13 := hc.pre (p12.app' [.row (.grow 1) [.int .i64 ((j : Int) - 1)]])
      simp (dsimp := false) only [go_sem, Nat.reduceAdd, Nat.reduceEqDiff, Nat.reduceMul, Nat.reduceLeDiff, Nat.reduceSub, Nat.reduceLT, ↓reduceIte, reduceCtorEq, List.reduceReplicate, List.flatten_cons, List.flatten_nil, List.append_nil, eq_self, Int.reduceLE, Int.reduceLT, Int.reduceToNat, Nat.min_eq_left, Int.reducePow, Int.reduceNeg, Int.reduceEq, dw]
      refine ⟨10 - (j + 1), by omega, j + 1, w2, rfl, hlt2, p13, ?_, rfl⟩
      rw [hN, List.length_append, ik, List.map_append]
      exact o12
  obtain rfl : j = 10 := by omega
  have d0 : decide (((10 : Nat) : Int) - 1 ≤ 8) = false := rfl
  simp (dsimp := false) only [↓ir.law01_RankFloors.l1.bw, go_sem, Nat.reduceAdd, Nat.reduceEqDiff, Nat.reduceMul, Nat.reduceLeDiff, Nat.reduceSub, Nat.reduceLT, ↓reduceIte, reduceCtorEq, List.reduceReplicate, List.flatten_cons, List.flatten_nil, List.append_nil, eq_self, Int.reduceLE, Int.reduceLT, Int.reduceToNat, Nat.min_eq_left, Int.reducePow, Int.reduceNeg, Int.reduceEq, d0]
  have FB := FA.pre p5
  have gl := g2.len
  refine callV_x (dests_spec FB g2.n (by omega) (fun x hx => ?_)) ?_
  · obtain ⟨p, hp, rfl⟩ := List.mem_map.1 hx
    have := g2.i p hp
    omega
  rintro lv h6 ⟨p6, ls6⟩
  rw [g2.keysS] at ls6
  have lw6 := (ow.pre p6).lsF
  simp (dsimp := false) only [go_sem, Nat.reduceAdd, Nat.reduceEqDiff, Nat.reduceMul, Nat.reduceLeDiff, Nat.reduceSub, Nat.reduceLT, ↓reduceIte, reduceCtorEq, List.reduceReplicate, List.flatten_cons, List.flatten_nil, List.append_nil, eq_self, Int.reduceLE, Int.reduceLT, Int.reduceToNat, Nat.min_eq_left, Int.reducePow, Int.reduceNeg, Int.reduceEq, ls6.lenV, lw6.lenV, bne_self_eq_false]
  obtain ⟨L, hL⟩ : ∃ L, hasN kc2 10 = L := ⟨_, rfl⟩
  have hLl : L.length ≤ 10 := by rw [← hL]; exact hasN_len kc2 10
  rw [hL] at ls6 lw6 ⊢
  have i5 : IntKind.i64.wrap ((i : Int) + 1) = ((i + 1 : Nat) : Int) := wrap_succ hlt hv.le
  have p6 := p5.trans p6
  refine loopV_of (fun m' e' h7 => ∃ j : Nat, m' = L.length - j ∧ j ≤ L.length ∧ h7 = h6 ∧
    e' = [(3, .pointer (some ⟨h.length, 0, none⟩)), (5, .pointer (some ⟨fp, 0, none⟩)), (6, .pointer (some ⟨bb, 0, none⟩)), (14, w), (20, lv), (24, v), (25, .int .i64 l.length), (26, .int .i64 i), (109, .int .i64 L.length), (110, .int .i64 j)]) _ ⟨0, rfl, Nat.zero_le _, rfl, rfl⟩ ?_
  rintro m' e' h7 ⟨j, rfl, hj2, rfl, rfl⟩
  rcases Nat.lt_or_ge j L.length with hlt2 | hge2
  case inl =>
    have d0 : decide ((j : Int) < (L.length : Int)) = true := decide_eq_true (by omega)
    have j5 : IntKind.i64.wrap ((j : Int) + 1) = ((j + 1 : Nat) : Int) := wrap_succ hlt2 (by unfold maxI; omega)
    have ra := ls6.rdK0 (.refl _) hlt2
    have rb := lw6.rdK0 (.refl _) hlt2
    have xa := fun {h2 : AHeap} {K : Value → AHeap → Prop} {u : Hold K} => ls6.ixsN hlt2 (h2 := h2) (K := K) (u := u) (q := .i64)
    have xb := fun {h2 : AHeap} {K : Value → AHeap → Prop} {u : Hold K} => lw6.ixsN hlt2 (h2 := h2) (K := K) (u := u) (q := .i64)
    simp (dsimp := false) only [↓ir.law01_RankFloors.l2.bw, go_sem, Nat.reduceAdd, Nat.reduceEqDiff, Nat.reduceMul, Nat.reduceLeDiff, Nat.reduceSub, Nat.reduceLT, ↓reduceIte, reduceCtorEq, List.reduceReplicate, List.flatten_cons, List.flatten_nil, List.append_nil, eq_self, Int.reduceLE, Int.reduceLT, Int.reduceToNat, Nat.min_eq_left, Int.reducePow, Int.reduceNeg, Int.reduceEq, d0, xa, xb, Nat.mul_one, ra, rb, bne_self_eq_false, j5]
    exact ⟨L.length - (j + 1), by omega, j + 1, rfl, hlt2, rfl⟩
  obtain rfl : j = L.length := by omega
  have d0 : decide ((L.length : Int) < (L.length : Int)) = false := decide_eq_false (by omega)
  simp (dsimp := false) only [↓ir.law01_RankFloors.l2.bw, go_sem, Nat.reduceAdd, Nat.reduceEqDiff, Nat.reduceMul, Nat.reduceLeDiff, Nat.reduceSub, Nat.reduceLT, ↓reduceIte, reduceCtorEq, List.reduceReplicate, List.flatten_cons, List.flatten_nil, List.append_nil, eq_self, Int.reduceLE, Int.reduceLT, Int.reduceToNat, Nat.min_eq_left, Int.reducePow, Int.reduceNeg, Int.reduceEq, d0, i5]
  exact ⟨l.length - (i + 1), by omega, i + 1, kc2, rfl, hlt, hpA.trans p6, FA.pre p6, g2, xA.pre p6, yA.pre p6, rfl⟩
end Go.Proofs.YtbomppdiiaodbaaRRR.B
