/-
  Floors (layer 1): the document's May and Raise.
-/
import Derived.Test.YtbomppdiiaodbaaRRRRf1
namespace Go.Proofs.YtbomppdiiaodbaaRRR.B
open Go
set_option linter.unusedVariables false
set_option linter.unusedSimpArgs false
theorem cmpK_neg (e s m e' s' m' : Int) : cmpK e' s' m' e s m = - cmpK e s m e' s' m' := by
  unfold cmpK
  repeat' split
  all_goals omega
theorem rmay_spec {h : AHeap} {kc : List (Int × Value)} (k : AllM isKV kc) (ki : InM kc) (d e s m : Int) : SpecX Try.prog nG fn.ref01_Floors_May [.agg ⟨flK kc⟩, .int .i64 d, keyV e s m] h fun v' h' => Pre h h' ∧ v' = .bool (mayB e s m (getM d kc)) := by
  refine SpecX.of_body (ir.ref01_Floors_May.spec (Nat.le_of_ble_eq_true rfl)) ?_
  have ca : cellsA (.agg ⟨flK kc⟩) = some (flK kc) := rfl
  have f1 : Fx (h ++ [AObj.row .fix (flK kc), AObj.row .fix [.int .u32 e, .int .u32 s, .int .i64 m]]) h.length (flK kc) := Fx.here _ _ _
  have r1 := f1.rd (off := 0) (n := 32) (vs := flK kc) rfl (by rw [flK_len]; exact Nat.le_refl _)
  have ag : aggOf true (flK kc) = some (.agg ⟨flK kc⟩) := rfl
  have q : (if 32 ≤ (flK kc).length then some (List.take 32 (flK kc)) else none).bind (aggOf true) = some (.agg ⟨flK kc⟩) := rfl
  have y : Fx (h ++ [AObj.row .fix (flK kc), AObj.row .fix [.int .u32 e, .int .u32 s, .int .i64 m]]) (h.length + 1) [.int .u32 e, .int .u32 s, .int .i64 m] := by simp [Fx]
  have p1 := Pre.app h [AObj.row .fix (flK kc), AObj.row .fix [.int .u32 e, .int .u32 s, .int .i64 m]]
  simp (dsimp := false) only [↓ir.ref01_Floors_May.bw, ir.ref01_Floors_May.rs, go_sem, Nat.reduceAdd, Nat.reduceEqDiff, Nat.reduceMul, Nat.reduceLeDiff, Nat.reduceSub, Nat.reduceLT, ↓reduceIte, reduceCtorEq, List.reduceReplicate, List.flatten_cons, List.flatten_nil, List.append_nil, eq_self, Int.reduceLE, Int.reduceLT, Int.reduceToNat, Nat.min_eq_left, Int.reducePow, Int.reduceNeg, Int.reduceEq, ca, q]
  generalize (h ++ [AObj.row .fix (flK kc), AObj.row .fix [.int .u32 e, .int .u32 s, .int .i64 m]]) = h1 at y p1 ⊢
  refine callV_x (rget_spec k ki d) ?_
  rintro _ h2 ⟨p2, rfl⟩
  have y2 := y.pre p2
  have p2 := p1.trans p2
  cases hg : getM d kc with
  | none =>
    simp (dsimp := false) only [go_sem, Nat.reduceAdd, Nat.reduceEqDiff, Nat.reduceMul, Nat.reduceLeDiff, Nat.reduceSub, Nat.reduceLT, ↓reduceIte, reduceCtorEq, List.reduceReplicate, List.flatten_cons, List.flatten_nil, List.append_nil, eq_self, Int.reduceLE, Int.reduceLT, Int.reduceToNat, Nat.min_eq_left, Int.reducePow, Int.reduceNeg, Int.reduceEq, gotV, Option.getD_none, Option.isSome_none, Bool.not_false]
    exact ⟨p2.app' _, rfl⟩
  | some v =>
    obtain ⟨e', s', m', rfl⟩ := k.get hg
    simp (dsimp := false) only [go_sem, Nat.reduceAdd, Nat.reduceEqDiff, Nat.reduceMul, Nat.reduceLeDiff, Nat.reduceSub, Nat.reduceLT, ↓reduceIte, reduceCtorEq, List.reduceReplicate, List.flatten_cons, List.flatten_nil, List.append_nil, eq_self, Int.reduceLE, Int.reduceLT, Int.reduceToNat, Nat.min_eq_left, Int.reducePow, Int.reduceNeg, Int.reduceEq, gotV, Option.getD_some, Option.isSome_some, Bool.not_true, y2.rdA (off := 0) (n := 3) (vs := [.int .u32 e, .int .u32 s, .int .i64 m]) rfl (Nat.le_of_ble_eq_true rfl)]
    refine callV_of (better_spec _ e' s' m' e s m) ?_
    simp (dsimp := false) only [go_sem, Nat.reduceAdd, Nat.reduceEqDiff, Nat.reduceMul, Nat.reduceLeDiff, Nat.reduceSub, Nat.reduceLT, ↓reduceIte, reduceCtorEq, List.reduceReplicate, List.flatten_cons, List.flatten_nil, List.append_nil, eq_self, Int.reduceLE, Int.reduceLT, Int.reduceToNat, Nat.min_eq_left, Int.reducePow, Int.reduceNeg, Int.reduceEq]
    refine ⟨p2.app' _, ?_⟩
    have : (!betterB e' s' m' e s m) = decide (0 ≤ cmpK e s m e' s' m') := by
      unfold betterB
      rw [cmpK_neg e s m e' s' m']
      by_cases c : 0 ≤ cmpK e s m e' s' m'
      · rw [decide_eq_true c, decide_eq_false (by omega)]; rfl
      · rw [decide_eq_false c, decide_eq_true (by omega)]; rfl
    show Value.bool _ = Value.bool _
    rw [this]
    rfl
theorem flK_put (kc : List (Int × Value)) (d : Nat) (e s m : Int) : flK (putM (d : Int) (keyV e s m) kc) = flC (upF (hsK kc) d true) (upF (ksK kc) d (e, s, m)) := by
  unfold flK
  congr 1
  · funext i
    show (getM (i : Int) _).isSome = _
    rw [getM_put]
    unfold upF
    by_cases q : i = d
    · subst q; simp
    · rw [if_neg (by omega), if_neg q]
  · funext i
    show kT (getM (i : Int) _) = _
    rw [getM_put]
    unfold upF
    by_cases q : i = d
    · subst q; simp [kT]
    · rw [if_neg (by omega), if_neg q]
theorem rraise_spec {h : AHeap} {kc : List (Int × Value)} (k : AllM isKV kc) (ki : InM kc) (d e s m : Int) : SpecX Try.prog nG fn.ref01_Floors_Raise [.agg ⟨flK kc⟩, .int .i64 d, keyV e s m] h fun v' h' => Pre h h' ∧ ∃ up er kc', (up, er, kc') = raiseF e s m d kc ∧ v' = .tuple #[.bool up, .int .i64 er, .agg ⟨flK kc'⟩] := by
  refine SpecX.of_body (ir.ref01_Floors_Raise.spec (Nat.le_of_ble_eq_true rfl)) ?_
  have ca : cellsA (.agg ⟨flK kc⟩) = some (flK kc) := rfl
  simp (dsimp := false) only [↓ir.ref01_Floors_Raise.bw, ir.ref01_Floors_Raise.rs, go_sem, Nat.reduceAdd, Nat.reduceEqDiff, Nat.reduceMul, Nat.reduceLeDiff, Nat.reduceSub, Nat.reduceLT, ↓reduceIte, reduceCtorEq, List.reduceReplicate, List.flatten_cons, List.flatten_nil, List.append_nil, eq_self, Int.reduceLE, Int.reduceLT, Int.reduceToNat, Nat.min_eq_left, Int.reducePow, Int.reduceNeg, Int.reduceEq, ca]
  obtain ⟨h1, hh1⟩ : ∃ h1, h ++ [AObj.row .fix (flK kc), AObj.row .fix [.int .u32 e, .int .u32 s, .int .i64 m], AObj.row .fix [.bool false, .bool false, .bool false, .bool false, .bool false, .bool false, .bool false, .bool false, .int .u32 0, .int .u32 0, .int .i64 0, .int .u32 0, .int .u32 0, .int .i64 0, .int .u32 0, .int .u32 0, .int .i64 0, .int .u32 0, .int .u32 0, .int .i64 0, .int .u32 0, .int .u32 0, .int .i64 0, .int .u32 0, .int .u32 0, .int .i64 0, .int .u32 0, .int .u32 0, .int .i64 0, .int .u32 0, .int .u32 0, .int .i64 0]] = h1 := ⟨_, rfl⟩
  rw [hh1]
  have f0 : Fx h1 h.length (flK kc) := by rw [← hh1]; exact Fx.here _ _ _
  have y : Fx h1 (h.length + 1) [.int .u32 e, .int .u32 s, .int .i64 m] := by rw [← hh1]; simp [Fx]
  have z : Fx h1 (h.length + 2) (flC (fun _ => false) (fun _ => (0, 0, 0))) := by rw [← hh1]; simp [Fx, flC]
  have p1 : Pre h h1 := ⟨_, hh1.symm⟩
  clear hh1
  have ag : ∀ hs ks, aggOf true (flC hs ks) = some (.agg ⟨flC hs ks⟩) := fun _ _ => rfl
  have cg : ∀ hs ks, cellsA (.agg ⟨flC hs ks⟩) = some (flC hs ks) := fun _ _ => rfl
  have fl : flK kc = flC (hsK kc) (ksK kc) := rfl
  have w0 := f0.wholeF (n := 32) rfl
  have hz := z.overF (vs := flK kc) rfl
  have rz := (z.set (flK kc)).wholeF (n := 32) rfl
  have ry := y.wholeF (n := 3) rfl
  have agk : aggOf true [.int .u32 e, .int .u32 s, .int .i64 m] = some (keyV e s m) := rfl
  have agf : aggOf true (flK kc) = some (.agg ⟨flK kc⟩) := rfl
  have bad : (d < 0 ∨ 8 ≤ d ∨ rightB e s m = false) → ∃ up er kc', (up, er, kc') = raiseF e s m d kc ∧ (Value.tuple #[.bool false, .int .i64 1, .agg ⟨flK kc⟩]) = .tuple #[.bool up, .int .i64 er, .agg ⟨flK kc'⟩] := fun q =>
    ⟨false, 1, kc, by rw [raiseF, if_pos q], rfl⟩
  by_cases c0 : d < 0
  · have d0 : decide (d < 0) = true := decide_eq_true c0
    simp (dsimp := false) only [go_sem, Nat.reduceAdd, Nat.reduceEqDiff, Nat.reduceMul, Nat.reduceLeDiff, Nat.reduceSub, Nat.reduceLT, ↓reduceIte, reduceCtorEq, List.reduceReplicate, List.flatten_cons, List.flatten_nil, List.append_nil, eq_self, Int.reduceLE, Int.reduceLT, Int.reduceToNat, Nat.min_eq_left, Int.reducePow, Int.reduceNeg, Int.reduceEq, d0, w0, agf, ca, hz, rz]
    exact ⟨rfl, rfl, p1.put (by omega) _, bad (.inl c0)⟩
  have d0 : decide (d < 0) = false := decide_eq_false c0
  by_cases c1 : d ≥ 8
  · have d1 : decide (d ≥ 8) = true := decide_eq_true c1
    have d1' : decide (8 ≤ d) = true := d1
    simp (dsimp := false) only [go_sem, Nat.reduceAdd, Nat.reduceEqDiff, Nat.reduceMul, Nat.reduceLeDiff, Nat.reduceSub, Nat.reduceLT, ↓reduceIte, reduceCtorEq, List.reduceReplicate, List.flatten_cons, List.flatten_nil, List.append_nil, eq_self, Int.reduceLE, Int.reduceLT, Int.reduceToNat, Nat.min_eq_left, Int.reducePow, Int.reduceNeg, Int.reduceEq, d0, d1, d1', w0, agf, ca, hz, rz]
    exact ⟨rfl, rfl, p1.put (by omega) _, bad (.inr (.inl c1))⟩
  have d1 : decide (d ≥ 8) = false := decide_eq_false c1
  have d1' : decide (8 ≤ d) = false := d1
  simp (dsimp := false) only [go_sem, Nat.reduceAdd, Nat.reduceEqDiff, Nat.reduceMul, Nat.reduceLeDiff, Nat.reduceSub, Nat.reduceLT, ↓reduceIte, reduceCtorEq, List.reduceReplicate, List.flatten_cons, List.flatten_nil, List.append_nil, eq_self, Int.reduceLE, Int.reduceLT, Int.reduceToNat, Nat.min_eq_left, Int.reducePow, Int.reduceNeg, Int.reduceEq, d0, d1, d1', ry, agk]
  refine callV_of (rright_spec _ e s m) ?_
  cases c3 : rightB e s m
  · simp (dsimp := false) only [go_sem, Nat.reduceAdd, Nat.reduceEqDiff, Nat.reduceMul, Nat.reduceLeDiff, Nat.reduceSub, Nat.reduceLT, ↓reduceIte, reduceCtorEq, List.reduceReplicate, List.flatten_cons, List.flatten_nil, List.append_nil, eq_self, Int.reduceLE, Int.reduceLT, Int.reduceToNat, Nat.min_eq_left, Int.reducePow, Int.reduceNeg, Int.reduceEq, Bool.not_false, w0, agf, ca, hz, rz]
    exact ⟨rfl, rfl, p1.put (by omega) _, bad (.inr (.inr c3))⟩
  clear bad
  obtain ⟨n, rfl, hn⟩ : ∃ n : Nat, d = n ∧ n < 8 := ⟨d.toNat, by omega, by omega⟩
  have hne : ¬ ((n : Int) < 0 ∨ 8 ≤ (n : Int) ∨ rightB e s m = false) := by simp [c3]; omega
  have rH := f0.rd (off := n) (n := 1) (vs := [.bool (hsK kc n)]) (flC_has _ _ hn) (by rw [flK_len]; simp; omega)
  have rK := f0.rd (off := 8 + n * 3) (n := 3) (vs := tC (ksK kc n)) (flC_key _ _ hn) (by rw [flK_len]; simp [tC]; omega)
  have agt : aggOf true (tC (ksK kc n)) = some (.agg ⟨tC (ksK kc n)⟩) := rfl
  have hw1 := f0.wr (off := n) (vs := [.bool true]) (by rw [flK_len]; simp; omega)
  rw [show setC (flK kc) n [.bool true] = flC (upF (hsK kc) n true) (ksK kc) from flC_setH _ _ hn true] at hw1
  have g1 := f0.set (flC (upF (hsK kc) n true) (ksK kc))
  have yk := y.other (c := h.length) (by omega) (.row .fix (flC (upF (hsK kc) n true) (ksK kc)))
  have ryk := yk.wholeF (n := 3) rfl
  have hw2 := g1.wr (off := 8 + n * 3) (vs := [.int .u32 e, .int .u32 s, .int .i64 m]) (by rw [flC_len]; simp; omega)
  rw [show setC (flC (upF (hsK kc) n true) (ksK kc)) (8 + n * 3) [.int .u32 e, .int .u32 s, .int .i64 m] = flK (putM (n : Int) (keyV e s m) kc) from (flC_setK _ _ hn (e, s, m)).trans (flK_put kc n e s m).symm] at hw2
  have g2 := g1.set (flK (putM (n : Int) (keyV e s m) kc))
  have z2 := (z.other (c := h.length) (by omega) (.row .fix (flC (upF (hsK kc) n true) (ksK kc)))).other (c := h.length) (by omega) (.row .fix (flK (putM (n : Int) (keyV e s m) kc)))
  have w2 := g2.wholeF (n := 32) rfl
  have agp : aggOf true (flK (putM (n : Int) (keyV e s m) kc)) = some (.agg ⟨flK (putM (n : Int) (keyV e s m) kc)⟩) := rfl
  have cap : cellsA (.agg ⟨flK (putM (n : Int) (keyV e s m) kc)⟩) = some (flK (putM (n : Int) (keyV e s m) kc)) := rfl
  have hz2 := z2.overF (vs := flK (putM (n : Int) (keyV e s m) kc)) rfl
  have rz2 := (z2.set (flK (putM (n : Int) (keyV e s m) kc))).wholeF (n := 32) rfl
  cases hg : getM (n : Int) kc with
  | none =>
    have hF : raiseF e s m n kc = (true, 0, putM (n : Int) (keyV e s m) kc) := by rw [raiseF, if_neg hne, hg]
    have hH : hsK kc n = false := by simp [hsK, hg]
    rw [hH] at rH
    simp (dsimp := false) only [go_sem, Nat.reduceAdd, Nat.reduceEqDiff, Nat.reduceMul, Nat.reduceLeDiff, Nat.reduceSub, Nat.reduceLT, ↓reduceIte, reduceCtorEq, List.reduceReplicate, List.flatten_cons, List.flatten_nil, List.append_nil, eq_self, Int.reduceLE, Int.reduceLT, Int.reduceToNat, Nat.min_eq_left, Int.reducePow, Int.reduceNeg, Int.reduceEq, Bool.not_true, Int.toNat_natCast, Nat.mul_one, rH, hw1, ryk, agk, hw2, w2, agp, cap, hz2, rz2]
    (repeat (with_reducible refine And.intro (by omega) ?_))
    exact ⟨rfl, rfl, ((p1.put (Nat.le_refl _) _).put (Nat.le_refl _) _).put (by omega) _, true, 0, _, hF.symm, rfl⟩
  | some v =>
    obtain ⟨e', s', m', rfl⟩ := k.get hg
    have hF : raiseF e s m n kc = if cmpK e s m e' s' m' ≤ 0 then (false, 0, kc) else (true, 0, putM (n : Int) (keyV e s m) kc) := by rw [raiseF, if_neg hne, hg]
    have hH : hsK kc n = true := by simp [hsK, hg]
    have hK : ksK kc n = (e', s', m') := by simp [ksK, hg, kT]
    rw [hH] at rH
    rw [hK] at rK agt
    simp (dsimp := false) only [go_sem, Nat.reduceAdd, Nat.reduceEqDiff, Nat.reduceMul, Nat.reduceLeDiff, Nat.reduceSub, Nat.reduceLT, ↓reduceIte, reduceCtorEq, List.reduceReplicate, List.flatten_cons, List.flatten_nil, List.append_nil, eq_self, Int.reduceLE, Int.reduceLT, Int.reduceToNat, Nat.min_eq_left, Int.reducePow, Int.reduceNeg, Int.reduceEq, Bool.not_true, Int.toNat_natCast, Nat.mul_one, rH, ry, agk, rK, agt]
    (repeat (with_reducible refine And.intro (by omega) ?_))
    refine callV_of (better_spec _ e s m e' s' m') ⟨.refl _, ?_⟩
    by_cases c4 : cmpK e s m e' s' m' ≤ 0
    · have b4 : betterB e s m e' s' m' = false := decide_eq_false (by omega)
      rw [if_pos c4] at hF
      simp (dsimp := false) only [go_sem, Nat.reduceAdd, Nat.reduceEqDiff, Nat.reduceMul, Nat.reduceLeDiff, Nat.reduceSub, Nat.reduceLT, ↓reduceIte, reduceCtorEq, List.reduceReplicate, List.flatten_cons, List.flatten_nil, List.append_nil, eq_self, Int.reduceLE, Int.reduceLT, Int.reduceToNat, Nat.min_eq_left, Int.reducePow, Int.reduceNeg, Int.reduceEq, b4, Bool.not_false, w0, agf, ca, hz, rz]
      exact ⟨rfl, rfl, p1.put (by omega) _, false, 0, _, hF.symm, rfl⟩
    · have b4 : betterB e s m e' s' m' = true := decide_eq_true (by omega)
      rw [if_neg c4] at hF
      simp (dsimp := false) only [go_sem, Nat.reduceAdd, Nat.reduceEqDiff, Nat.reduceMul, Nat.reduceLeDiff, Nat.reduceSub, Nat.reduceLT, ↓reduceIte, reduceCtorEq, List.reduceReplicate, List.flatten_cons, List.flatten_nil, List.append_nil, eq_self, Int.reduceLE, Int.reduceLT, Int.reduceToNat, Nat.min_eq_left, Int.reducePow, Int.reduceNeg, Int.reduceEq, b4, Bool.not_true, Int.toNat_natCast, Nat.mul_one, hw1, ryk, agk, hw2, w2, agp, cap, hz2, rz2]
      (repeat (with_reducible refine And.intro (by omega) ?_))
      exact ⟨rfl, rfl, ((p1.put (Nat.le_refl _) _).put (Nat.le_refl _) _).put (by omega) _, true, 0, _, hF.symm, rfl⟩
end Go.Proofs.YtbomppdiiaodbaaRRR.B
