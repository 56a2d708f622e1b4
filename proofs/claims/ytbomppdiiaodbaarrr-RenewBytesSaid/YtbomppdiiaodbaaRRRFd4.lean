/-
  Fields (layer 3) and signed records (layer 11): a record is read, by the program.
-/
import Derived.Test.YtbomppdiiaodbaaRRRFd3
namespace Go.Proofs.YtbomppdiiaodbaaRRR.B
open Go
set_option linter.unusedVariables false
set_option linter.unusedSimpArgs false
set_option maxRecDepth 100000
theorem err_spec {h : AHeap} {b : Nat} {r : List Int} {e : Int} (H : InV h b r e) : Spec Try.prog nG fn.field_In_Err [.pointer (some ⟨b, 0, none⟩)] h (.int .i64 e) h := by
  apply ir.field_In_Err.spec (Nat.le_of_ble_eq_true rfl)
  obtain ⟨v, f, ls, ne⟩ := H.is
  have re := f.rd (off := 1) (n := 1) (vs := [.int .i64 e]) rfl (by simp)
  simp (dsimp := false) only [↓ir.field_In_Err.bw, ir.field_In_Err.rs, go_sem, Nat.reduceAdd, Nat.reduceEqDiff, Nat.reduceMul, Nat.reduceLeDiff, Nat.reduceSub, Nat.reduceLT, ↓reduceIte, reduceCtorEq, List.reduceReplicate, List.flatten_cons, List.flatten_nil, List.append_nil, eq_self, Int.reduceLE, Int.reduceLT, Int.reduceToNat, Nat.min_eq_left, Int.reducePow, Int.reduceNeg, Int.reduceEq, re]
  exact Fin.sc0 rfl
theorem left_spec {h : AHeap} {b : Nat} {r : List Int} {e : Int} (H : InV h b r e) : Spec Try.prog nG fn.field_In_Left [.pointer (some ⟨b, 0, none⟩)] h (.int .i64 (r.length : Int)) h := by
  apply ir.field_In_Left.spec (Nat.le_of_ble_eq_true rfl)
  obtain ⟨v, f, ls, ne⟩ := H.is
  have rv := f.rd (off := 0) (n := 1) (vs := [v]) rfl (by simp)
  simp (dsimp := false) only [↓ir.field_In_Left.bw, ir.field_In_Left.rs, go_sem, Nat.reduceAdd, Nat.reduceEqDiff, Nat.reduceMul, Nat.reduceLeDiff, Nat.reduceSub, Nat.reduceLT, ↓reduceIte, reduceCtorEq, List.reduceReplicate, List.flatten_cons, List.flatten_nil, List.append_nil, eq_self, Int.reduceLE, Int.reduceLT, Int.reduceToNat, Nat.min_eq_left, Int.reducePow, Int.reduceNeg, Int.reduceEq, rv, ls.lenV]
  exact Fin.sc0 rfl
def endF (r : List Int) (e : Int) : Int := if r.length > 0 then 10 else e
theorem end_spec {h : AHeap} {b : Nat} {r : List Int} {e : Int} (H : InV h b r e) : SpecX Try.prog nG fn.field_In_End [.pointer (some ⟨b, 0, none⟩)] h fun v' h' => v' = .int .i64 (endF r e) ∧ Only b h h' ∧ ∃ r' e', InV h' b r' e' := by
  refine SpecX.of_body (ir.field_In_End.spec (Nat.le_of_ble_eq_true rfl)) ?_
  simp (dsimp := false) only [↓ir.field_In_End.bw, ir.field_In_End.rs, go_sem, Nat.reduceAdd, Nat.reduceEqDiff, Nat.reduceMul, Nat.reduceLeDiff, Nat.reduceSub, Nat.reduceLT, ↓reduceIte, reduceCtorEq, List.reduceReplicate, List.flatten_cons, List.flatten_nil, List.append_nil, eq_self, Int.reduceLE, Int.reduceLT, Int.reduceToNat, Nat.min_eq_left, Int.reducePow, Int.reduceNeg, Int.reduceEq]
  refine callV_of (left_spec H) ?_
  by_cases hr : 0 < r.length
  · have he : e = 0 := by
      by_cases q : e = 0
      · exact q
      · have := H.no q
        rw [this] at hr; simp at hr
    subst he
    have d0 : decide ((r.length : Int) > 0) = true := decide_eq_true (by omega)
    have d1 : decide (0 < (r.length : Int)) = true := d0
    simp (dsimp := false) only [go_sem, Nat.reduceAdd, Nat.reduceEqDiff, Nat.reduceMul, Nat.reduceLeDiff, Nat.reduceSub, Nat.reduceLT, ↓reduceIte, reduceCtorEq, List.reduceReplicate, List.flatten_cons, List.flatten_nil, List.append_nil, eq_self, Int.reduceLE, Int.reduceLT, Int.reduceToNat, Nat.min_eq_left, Int.reducePow, Int.reduceNeg, Int.reduceEq, d0, d1]
    refine callV_x (fail_spec H (by decide)) ?_
    rintro _ h1 ⟨H1, o1⟩
    simp (dsimp := false) only [go_sem, Nat.reduceAdd, Nat.reduceEqDiff, Nat.reduceMul, Nat.reduceLeDiff, Nat.reduceSub, Nat.reduceLT, ↓reduceIte, reduceCtorEq, List.reduceReplicate, List.flatten_cons, List.flatten_nil, List.append_nil, eq_self, Int.reduceLE, Int.reduceLT, Int.reduceToNat, Nat.min_eq_left, Int.reducePow, Int.reduceNeg, Int.reduceEq]
    refine callV_of (err_spec H1) ?_
    simp (dsimp := false) only [go_sem, Nat.reduceAdd, Nat.reduceEqDiff, Nat.reduceMul, Nat.reduceLeDiff, Nat.reduceSub, Nat.reduceLT, ↓reduceIte, reduceCtorEq, List.reduceReplicate, List.flatten_cons, List.flatten_nil, List.append_nil, eq_self, Int.reduceLE, Int.reduceLT, Int.reduceToNat, Nat.min_eq_left, Int.reducePow, Int.reduceNeg, Int.reduceEq]
    exact ⟨by unfold endF; rw [if_pos hr], o1, _, _, H1⟩
  · have d0 : decide ((r.length : Int) > 0) = false := decide_eq_false (by omega)
    have d1 : decide (0 < (r.length : Int)) = false := d0
    simp (dsimp := false) only [go_sem, Nat.reduceAdd, Nat.reduceEqDiff, Nat.reduceMul, Nat.reduceLeDiff, Nat.reduceSub, Nat.reduceLT, ↓reduceIte, reduceCtorEq, List.reduceReplicate, List.flatten_cons, List.flatten_nil, List.append_nil, eq_self, Int.reduceLE, Int.reduceLT, Int.reduceToNat, Nat.min_eq_left, Int.reducePow, Int.reduceNeg, Int.reduceEq, d0, d1]
    refine callV_of (err_spec H) ?_
    simp (dsimp := false) only [go_sem, Nat.reduceAdd, Nat.reduceEqDiff, Nat.reduceMul, Nat.reduceLeDiff, Nat.reduceSub, Nat.reduceLT, ↓reduceIte, reduceCtorEq, List.reduceReplicate, List.flatten_cons, List.flatten_nil, List.append_nil, eq_self, Int.reduceLE, Int.reduceLT, Int.reduceToNat, Nat.min_eq_left, Int.reducePow, Int.reduceNeg, Int.reduceEq]
    exact ⟨by unfold endF; rw [if_neg hr], Only.refl _ _, _, _, H⟩
/-- The cells of a signed record: the destination, the epoch, and bytes. -/
def sgC (d e : Int) (B : List Int) : List Value := .int .i64 d :: .int .u32 e :: ik .u8 B
theorem sgC_len {d e : Int} {B : List Int} : (sgC d e B).length = B.length + 2 := by simp [sgC]
theorem sgC_one (d e : Int) (B : List Int) : (sgC d e B).all oneA = true := by simp [sgC, oneA, ik]
theorem sgC_scalar (d e : Int) (B : List Int) : (sgC d e B).all scalarB = true := by simp [sgC, scalarB, ik]
theorem zsg (n : Nat) : [Value.int .i64 0, .int .u32 0] ++ zrep n (.int .u8 0) = sgC 0 0 (irep n 0) := by simp [sgC, zrep_ik]
theorem setC_mid {a b c v : List Value} (hl : b.length = v.length) : setC (a ++ b ++ c) a.length v = a ++ v ++ c := by
  rw [setC_eq (by simp only [List.length_append]; omega)]
  simp [← hl]
theorem sgC_set {d e : Int} {X Y Z V : List Int} {k : Nat} (hk : k = X.length + 2) (hl : Y.length = V.length) : setC (sgC d e (X ++ Y ++ Z)) k (ik .u8 V) = sgC d e (X ++ V ++ Z) := by
  have := setC_mid (a := sgC d e X) (b := ik .u8 Y) (c := ik .u8 Z) (v := ik .u8 V) (by simpa using hl)
  rw [sgC_len, ← hk] at this
  have e1 : sgC d e X ++ ik .u8 Y ++ ik .u8 Z = sgC d e (X ++ Y ++ Z) := by simp [sgC]
  have e2 : sgC d e X ++ ik .u8 V ++ ik .u8 Z = sgC d e (X ++ V ++ Z) := by simp [sgC]
  rw [e1, e2] at this
  exact this
def sumsF : Nat → List Int → Int → List Int × List Int × Int
  | 0, r, e => ([], r, e)
  | j + 1, r, e => ((sumsF j r e).1 ++ sumF (nextF (sumsF j r e).2.1 (sumsF j r e).2.2 16).1, (nextF (sumsF j r e).2.1 (sumsF j r e).2.2 16).2)
theorem sumsF_len : ∀ (j : Nat) (r : List Int) (e : Int), (sumsF j r e).1.length = 16 * j
  | 0, r, e => rfl
  | j + 1, r, e => by rw [sumsF, List.length_append, sumF_len, sumsF_len j]; omega
def getS (r : List Int) (e : Int) : List Int × List Int × Int := sumsF 70 (nextF (nextF r e 1).2.1 (nextF r e 1).2.2 4).2.1 (nextF (nextF r e 1).2.1 (nextF r e 1).2.2 4).2.2
def getC (r : List Int) (e : Int) : List Value := if (getS r e).2.2 = 0 then sgC (IntKind.i64.wrap (numF (nextF r e 1).1)) (IntKind.u32.wrap (numF (nextF (nextF r e 1).2.1 (nextF r e 1).2.2 4).1)) (getS r e).1 else sgC 0 0 (irep 1120 0)
theorem zl32 : (zrep 32 (Value.int .u8 0)).length = 32 := by simp [zrep]
theorem rec_fill {a b : Value} {R N : List Int} (hR : R.length = 16) (hN : N.length = 16) : setC (setC (a :: b :: zrep 32 (.int .u8 0)) 2 (ik .u8 R)) 18 (ik .u8 N) = a :: b :: ik .u8 (R ++ N) := by
  have e1 : a :: b :: zrep 32 (Value.int .u8 0) = [a, b] ++ ik .u8 (irep 16 0) ++ ik .u8 (irep 16 0) := rfl
  rw [e1]
  have e2 := setC_mid (a := [a, b]) (b := ik .u8 (irep 16 0)) (c := ik .u8 (irep 16 0)) (v := ik .u8 R) (by rw [List.length_map, irep_len, List.length_map, hR])
  have e3 : ([a, b] : List Value).length = 2 := rfl
  rw [e3] at e2
  rw [e2]
  have e4 := setC_mid (a := [a, b] ++ ik .u8 R) (b := ik .u8 (irep 16 0)) (c := []) (v := ik .u8 N) (by rw [List.length_map, irep_len, List.length_map, hN])
  rw [List.append_nil, List.append_nil, List.length_append, List.length_map, hR] at e4
  rw [show 18 = [a, b].length + 16 from rfl, e4]
  simp
theorem irep_add (m n : Nat) (x : Int) : irep (m + n) x = irep m x ++ irep n x := by simp [irep]
theorem sg_first {d e : Int} {X : List Int} (hX : X.length = 32) : setC (sgC 0 0 (irep 1120 0)) 0 (.int .i64 d :: .int .u32 e :: ik .u8 X) = sgC d e (X ++ irep 1088 0) := by
  have e1 : sgC 0 0 (irep 1120 0) = [] ++ sgC 0 0 (irep 32 0) ++ ik .u8 (irep 1088 0) := by
    rw [show 1120 = 32 + 1088 from rfl, irep_add]; simp [sgC]
  have := setC_mid (a := []) (b := sgC 0 0 (irep 32 0)) (c := ik .u8 (irep 1088 0)) (v := .int .i64 d :: .int .u32 e :: ik .u8 X) (by rw [sgC_len, irep_len]; simp [hX])
  rw [e1, show 0 = ([] : List Value).length from rfl, this]
  simp [sgC]
theorem Fx.whole {h : AHeap} {b n : Nat} {cs : List Value} (f : Fx h b cs) (hn : cs.length = n) : rds h b 0 n = some cs := f.rd (by rw [List.drop_zero, List.take_of_length_le (by omega)]) (by omega)
theorem Fx.over {h : AHeap} {b : Nat} {cs vs : List Value} (f : Fx h b cs) (hl : cs.length = vs.length) : wrs h b 0 vs = some (h.set b (.row .fix vs)) := by
  rw [f.wr (by omega), setC_all hl]
theorem InV.put {h : AHeap} {b c : Nat} {r : List Int} {e : Int} (H : InV h b r e) (hc : b < c) (cs : List Value) : InV (h.set c (.row .fix cs)) b r e := by
  obtain ⟨v, f, l, ne⟩ := H.is
  exact ⟨H.isb, H.no, v, f.other (by omega) _, l.put (fun hn e1 => by have := ne.resolve_left (l.nnil (by omega)); omega) _, ne⟩
theorem Only.put {b c : Nat} {h h' : AHeap} (p : Only b h h') (hc : h.length ≤ c) (o : AObj) : Only b h (h'.set c o) :=
  ⟨by rw [List.length_set]; exact p.1, fun i hi ne => by rw [List.getElem?_set_ne (by omega)]; exact p.2 i hi ne⟩
theorem get_spec {h : AHeap} {b : Nat} {r : List Int} {e : Int} (H : InV h b r e) : SpecX Try.prog nG fn.renew_Get [.pointer (some ⟨b, 0, none⟩)] h fun v' h' =>
    v' = .agg ⟨getC r e⟩ ∧ InV h' b (getS r e).2.1 (getS r e).2.2 ∧ Only b h h' := by
  refine SpecX.of_body (ir.renew_Get.spec (Nat.le_of_ble_eq_true rfl)) ?_
  obtain ⟨_, f, _, _⟩ := H.is
  have hbl := f.lt
  simp (dsimp := false) only [↓ir.renew_Get.bw, ir.renew_Get.rs, go_sem, Nat.reduceAdd, Nat.reduceEqDiff, Nat.reduceMul, Nat.reduceLeDiff, Nat.reduceSub, Nat.reduceLT, ↓reduceIte, reduceCtorEq, List.reduceReplicate, List.flatten_cons, List.flatten_nil, List.append_nil, eq_self, Int.reduceLE, Int.reduceLT, Int.reduceToNat, Nat.min_eq_left, Int.reducePow, Int.reduceNeg, Int.reduceEq, zsg]
  have f1 : Fx (h ++ [AObj.row .fix (sgC 0 0 (irep 1120 0)), AObj.row .fix (sgC 0 0 (irep 1120 0))]) h.length (sgC 0 0 (irep 1120 0)) := Fx.here _ _ _
  have f2 : Fx (h ++ [AObj.row .fix (sgC 0 0 (irep 1120 0)), AObj.row .fix (sgC 0 0 (irep 1120 0))]) (h.length + 1) (sgC 0 0 (irep 1120 0)) := by simp [Fx]
  have H0 : InV (h ++ [AObj.row .fix (sgC 0 0 (irep 1120 0)), AObj.row .fix (sgC 0 0 (irep 1120 0))]) b r e := H.pre (.app _ _)
  have q0 : Only b h (h ++ [AObj.row .fix (sgC 0 0 (irep 1120 0)), AObj.row .fix (sgC 0 0 (irep 1120 0))]) := .of_pre (.app _ _)
  generalize (h ++ [AObj.row .fix (sgC 0 0 (irep 1120 0)), AObj.row .fix (sgC 0 0 (irep 1120 0))]) = h0 at f1 f2 H0 q0 ⊢
  refine callV_x (iu8_spec H0) ?_
  rintro _ h1 ⟨rfl, H1, o1⟩
  simp (dsimp := false) only [go_sem, Nat.reduceAdd, Nat.reduceEqDiff, Nat.reduceMul, Nat.reduceLeDiff, Nat.reduceSub, Nat.reduceLT, ↓reduceIte, reduceCtorEq, List.reduceReplicate, List.flatten_cons, List.flatten_nil, List.append_nil, eq_self, Int.reduceLE, Int.reduceLT, Int.reduceToNat, Nat.min_eq_left, Int.reducePow, Int.reduceNeg, Int.reduceEq]
  refine callV_x (iu32_spec H1) ?_
  rintro _ h2 ⟨rfl, H2, o2⟩
  obtain ⟨D, hD⟩ : ∃ D, IntKind.i64.wrap (numF (nextF r e 1).1) = D := ⟨_, rfl⟩
  obtain ⟨E, hE⟩ : ∃ E, IntKind.u32.wrap (numF (nextF (nextF r e 1).2.1 (nextF r e 1).2.2 4).1) = E := ⟨_, rfl⟩
  have hGC : getC r e = if (getS r e).2.2 = 0 then sgC D E (getS r e).1 else sgC 0 0 (irep 1120 0) := by unfold getC; rw [hD, hE]
  obtain ⟨r2, hr2⟩ : ∃ x, (nextF (nextF r e 1).2.1 (nextF r e 1).2.2 4).2.1 = x := ⟨_, rfl⟩
  obtain ⟨e2, he2⟩ : ∃ x, (nextF (nextF r e 1).2.1 (nextF r e 1).2.2 4).2.2 = x := ⟨_, rfl⟩
  have hGS : getS r e = sumsF 70 r2 e2 := by unfold getS; rw [hr2, he2]
  rw [hr2, he2] at H2
  rw [hGC, hGS]
  clear hGC hGS
  simp (dsimp := false) only [go_sem, Nat.reduceAdd, Nat.reduceEqDiff, Nat.reduceMul, Nat.reduceLeDiff, Nat.reduceSub, Nat.reduceLT, ↓reduceIte, reduceCtorEq, List.reduceReplicate, List.flatten_cons, List.flatten_nil, List.append_nil, eq_self, Int.reduceLE, Int.reduceLT, Int.reduceToNat, Nat.min_eq_left, Int.reducePow, Int.reduceNeg, Int.reduceEq, hD, hE]
  refine callV_x (isum_spec H2) ?_
  rintro _ h3 ⟨rfl, H3, o3⟩
  simp (dsimp := false) only [go_sem, Nat.reduceAdd, Nat.reduceEqDiff, Nat.reduceMul, Nat.reduceLeDiff, Nat.reduceSub, Nat.reduceLT, ↓reduceIte, reduceCtorEq, List.reduceReplicate, List.flatten_cons, List.flatten_nil, List.append_nil, eq_self, Int.reduceLE, Int.reduceLT, Int.reduceToNat, Nat.min_eq_left, Int.reducePow, Int.reduceNeg, Int.reduceEq]
  refine callV_x (isum_spec H3) ?_
  rintro _ h4 ⟨rfl, H4, o4⟩
  have oo := (((q0.trans o1).trans o2).trans o3).trans o4
  have g1 := (((f1.only o1 (by omega)).only o2 (by omega)).only o3 (by omega)).only o4 (by omega)
  have g2 := (((f2.only o1 (by omega)).only o2 (by omega)).only o3 (by omega)).only o4 (by omega)
  clear f1 f2 H0 H1 H2 H3 o1 o2 o3 o4 q0
  obtain ⟨R, hR⟩ : ∃ R, sumF (nextF r2 e2 16).1 = R := ⟨_, rfl⟩
  obtain ⟨N, hN⟩ : ∃ N, sumF (nextF (nextF r2 e2 16).2.1 (nextF r2 e2 16).2.2 16).1 = N := ⟨_, rfl⟩
  have hRl : R.length = 16 := by rw [← hR, sumF_len]
  have hNl : N.length = 16 := by rw [← hN, sumF_len]
  have hs2 : (sumsF 2 r2 e2) = (R ++ N, (nextF (nextF r2 e2 16).2.1 (nextF r2 e2 16).2.2 16).2) := by
    rw [← hR, ← hN]; rfl
  have H4 : InV h4 b (sumsF 2 r2 e2).2.1 (sumsF 2 r2 e2).2.2 := by rw [hs2]; exact H4
  rw [hR, hN]
  have cR : cellsA (.agg ⟨ik .u8 R⟩) = some (ik .u8 R) := rfl
  have cN : cellsA (.agg ⟨ik .u8 N⟩) = some (ik .u8 N) := rfl
  have lR : (ik .u8 R).length = 16 := by rw [List.length_map, hRl]
  have lN : (ik .u8 N).length = 16 := by rw [List.length_map, hNl]
  simp (dsimp := false) only [go_sem, Nat.reduceAdd, Nat.reduceEqDiff, Nat.reduceMul, Nat.reduceLeDiff, Nat.reduceSub, Nat.reduceLT, ↓reduceIte, reduceCtorEq, List.reduceReplicate, List.flatten_cons, List.flatten_nil, List.append_nil, eq_self, Int.reduceLE, Int.reduceLT, Int.reduceToNat, Nat.min_eq_left, Int.reducePow, Int.reduceNeg, Int.reduceEq, cR, cN, lR, lN, setC_length]
  rw [zl32, if_pos (by omega), if_pos (by omega), rec_fill hRl hNl]
  have hX : (R ++ N).length = 32 := by rw [List.length_append, hRl, hNl]
  have hs2' : (sumsF 2 r2 e2).1 = R ++ N := by rw [hs2]
  obtain ⟨X, hXe⟩ : ∃ X, R ++ N = X := ⟨_, rfl⟩
  rw [hXe] at hX hs2' ⊢
  have cX : cellsA (.agg (Value.int .i64 D :: .int .u32 E :: ik .u8 X).toArray) = some (.int .i64 D :: .int .u32 E :: ik .u8 X) := rfl
  have hw := g2.wr (off := 0) (vs := .int .i64 D :: .int .u32 E :: ik .u8 X) (by rw [sgC_len, irep_len]; simp [hX])
  rw [sg_first hX] at hw
  have f2 := g2.set (sgC D E (X ++ irep 1088 0))
  have f1 := g1.other (show h.length + 1 ≠ h.length by omega) (.row .fix (sgC D E (X ++ irep 1088 0)))
  have H5 : InV (h4.set (h.length + 1) (.row .fix (sgC D E (X ++ irep 1088 0)))) b (sumsF 2 r2 e2).2.1 (sumsF 2 r2 e2).2.2 := H4.put (by omega) _
  have oo : Only b h (h4.set (h.length + 1) (.row .fix (sgC D E (X ++ irep 1088 0)))) := oo.put (by omega) _
  simp (dsimp := false) only [go_sem, Nat.reduceAdd, Nat.reduceEqDiff, Nat.reduceMul, Nat.reduceLeDiff, Nat.reduceSub, Nat.reduceLT, ↓reduceIte, reduceCtorEq, List.reduceReplicate, List.flatten_cons, List.flatten_nil, List.append_nil, eq_self, Int.reduceLE, Int.reduceLT, Int.reduceToNat, Nat.min_eq_left, Int.reducePow, Int.reduceNeg, Int.reduceEq, hD, cX, hw]
  refine ⟨by simp [hX], by simp [oneA, ik], ?_⟩
  rw [← hs2'] at f1 f2 H5 oo ⊢
  generalize h4.set (h.length + 1) (AObj.row .fix (sgC D E ((sumsF 2 r2 e2).1 ++ irep 1088 0))) = h5 at f1 f2 H5 oo ⊢
  refine loopV_of (fun m' e' h6 => ∃ i : Nat, m' = 68 - i ∧ i ≤ 68 ∧ Fx h6 h.length (sgC 0 0 (irep 1120 0)) ∧ Fx h6 (h.length + 1) (sgC D E ((sumsF (2 + i) r2 e2).1 ++ irep (1088 - 16 * i) 0)) ∧ InV h6 b (sumsF (2 + i) r2 e2).2.1 (sumsF (2 + i) r2 e2).2.2 ∧ Only b h h6 ∧
    e' = [(0, .pointer (some ⟨b, 0, none⟩)), (2, .pointer (some ⟨h.length, 0, none⟩)), (3, .pointer (some ⟨h.length + 1, 0, none⟩)), (17, .int .i64 (i : Int))]) _ ⟨0, rfl, Nat.zero_le _, f1, f2, H5, oo, rfl⟩ ?_
  clear f1 f2 H5 oo H4 g1 g2 hw hs2 hs2'
  rintro m' e' h6 ⟨i, rfl, hi, f1, f2, H5, oo, rfl⟩
  rcases Nat.lt_or_ge i 68 with hlt | hge
  case inl =>
    have d0 : decide ((i : Int) < 68) = true := decide_eq_true (by omega)
    have i5 : IntKind.i64.wrap ((i : Int) + 1) = ((i + 1 : Nat) : Int) := wrap_succ hlt (by unfold maxI; omega)
    simp (dsimp := false) only [↓ir.renew_Get.l1.bw, go_sem, Nat.reduceAdd, Nat.reduceEqDiff, Nat.reduceMul, Nat.reduceLeDiff, Nat.reduceSub, Nat.reduceLT, ↓reduceIte, reduceCtorEq, List.reduceReplicate, List.flatten_cons, List.flatten_nil, List.append_nil, eq_self, Int.reduceLE, Int.reduceLT, Int.reduceToNat, Nat.min_eq_left, Int.reducePow, Int.reduceNeg, Int.reduceEq, d0]
    refine callV_x (isum_spec H5) ?_
    rintro _ h7 ⟨rfl, H7, o7⟩
    have g1 := f1.only o7 (by omega)
    have g2 := f2.only o7 (by omega)
    have oo7 := oo.trans o7
    obtain ⟨V, hV⟩ : ∃ V, sumF (nextF (sumsF (2 + i) r2 e2).2.1 (sumsF (2 + i) r2 e2).2.2 16).1 = V := ⟨_, rfl⟩
    have hVl : V.length = 16 := by rw [← hV, sumF_len]
    rw [hV]
    have cV' : cellsA (.agg ⟨ik .u8 V⟩) = some (ik .u8 V) := rfl
    have hsl := sumsF_len (2 + i) r2 e2
    have hw := g2.wr (off := 34 + i * 16) (vs := ik .u8 V) (by rw [sgC_len, List.length_append, irep_len, List.length_map]; omega)
    have hst : setC (sgC D E ((sumsF (2 + i) r2 e2).1 ++ irep (1088 - 16 * i) 0)) (34 + i * 16) (ik .u8 V) = sgC D E ((sumsF (2 + (i + 1)) r2 e2).1 ++ irep (1088 - 16 * (i + 1)) 0) := by
      rw [show 1088 - 16 * i = 16 + (1088 - 16 * (i + 1)) by omega, irep_add, ← List.append_assoc, sgC_set (by omega) (by rw [irep_len, hVl])]
      rw [show 2 + (i + 1) = (2 + i) + 1 by omega, sumsF, hV]
    rw [hst] at hw
    simp (dsimp := false) only [go_sem, Nat.reduceAdd, Nat.reduceEqDiff, Nat.reduceMul, Nat.reduceLeDiff, Nat.reduceSub, Nat.reduceLT, ↓reduceIte, reduceCtorEq, List.reduceReplicate, List.flatten_cons, List.flatten_nil, List.append_nil, eq_self, Int.reduceLE, Int.reduceLT, Int.reduceToNat, Nat.min_eq_left, Int.reducePow, Int.reduceNeg, Int.reduceEq, cV', Int.toNat_natCast, hw]
    refine ⟨by omega, by rw [List.length_map, hVl], ik_one _ _, ?_⟩
    simp (dsimp := false) only [go_sem, Nat.reduceAdd, Nat.reduceEqDiff, Nat.reduceMul, Nat.reduceLeDiff, Nat.reduceSub, Nat.reduceLT, ↓reduceIte, reduceCtorEq, List.reduceReplicate, List.flatten_cons, List.flatten_nil, List.append_nil, eq_self, Int.reduceLE, Int.reduceLT, Int.reduceToNat, Nat.min_eq_left, Int.reducePow, Int.reduceNeg, Int.reduceEq, i5]
    refine ⟨68 - (i + 1), by omega, i + 1, rfl, hlt, g1.other (by omega) _, g2.set _, ?_, oo7.put (by omega) _, rfl⟩
    have : sumsF (2 + (i + 1)) r2 e2 = ((sumsF (2 + i) r2 e2).1 ++ V, (nextF (sumsF (2 + i) r2 e2).2.1 (sumsF (2 + i) r2 e2).2.2 16).2) := by
      rw [show 2 + (i + 1) = (2 + i) + 1 by omega, sumsF, hV]
    rw [this]
    exact H7.put (by omega) _
  obtain rfl : i = 68 := by omega
  have d0 : decide (((68 : Nat) : Int) < 68) = false := rfl
  rw [show 2 + 68 = 70 from rfl] at f2 H5
  rw [show 1088 - 16 * 68 = 0 from rfl, show irep 0 0 = [] from rfl, List.append_nil] at f2
  simp (dsimp := false) only [↓ir.renew_Get.l1.bw, go_sem, Nat.reduceAdd, Nat.reduceEqDiff, Nat.reduceMul, Nat.reduceLeDiff, Nat.reduceSub, Nat.reduceLT, ↓reduceIte, reduceCtorEq, List.reduceReplicate, List.flatten_cons, List.flatten_nil, List.append_nil, eq_self, Int.reduceLE, Int.reduceLT, Int.reduceToNat, Nat.min_eq_left, Int.reducePow, Int.reduceNeg, Int.reduceEq, d0]
  refine callV_of (err_spec H5) ?_
  have hsl := sumsF_len 70 r2 e2
  have hbl2 := oo.1
  by_cases he : (sumsF 70 r2 e2).2.2 = 0
  · have b0 : ((sumsF 70 r2 e2).2.2 != 0) = false := by simpa using he
    have hl : (sgC D E (sumsF 70 r2 e2).1).length = 1122 := by rw [sgC_len, hsl]
    have rs := f2.whole hl
    have hw := f1.over (vs := sgC D E (sumsF 70 r2 e2).1) (by rw [hl, sgC_len, irep_len])
    have rr := (f1.set (sgC D E (sumsF 70 r2 e2).1)).whole hl
    have ag : aggOf true (sgC D E (sumsF 70 r2 e2).1) = some (.agg ⟨sgC D E (sumsF 70 r2 e2).1⟩) := rfl
    have ca : cellsA (.agg ⟨sgC D E (sumsF 70 r2 e2).1⟩) = some (sgC D E (sumsF 70 r2 e2).1) := rfl
    simp (dsimp := false) only [go_sem, Nat.reduceAdd, Nat.reduceEqDiff, Nat.reduceMul, Nat.reduceLeDiff, Nat.reduceSub, Nat.reduceLT, ↓reduceIte, reduceCtorEq, List.reduceReplicate, List.flatten_cons, List.flatten_nil, List.append_nil, eq_self, Int.reduceLE, Int.reduceLT, Int.reduceToNat, Nat.min_eq_left, Int.reducePow, Int.reduceNeg, Int.reduceEq, b0, rs, ag, ca, hw, rr]
    refine ⟨hl, sgC_one _ _ _, ?_, H5.put (by omega) _, oo.put (Nat.le_refl _) _⟩
    rw [if_pos he]
  · have b0 : ((sumsF 70 r2 e2).2.2 != 0) = true := by simpa using he
    have hl : (sgC 0 0 (irep 1120 0)).length = 1122 := by rw [sgC_len, irep_len]
    have hw := f1.over (vs := sgC 0 0 (irep 1120 0)) rfl
    have rr := (f1.set (sgC 0 0 (irep 1120 0))).whole hl
    have ag : aggOf true (sgC 0 0 (irep 1120 0)) = some (.agg ⟨sgC 0 0 (irep 1120 0)⟩) := rfl
    have ca : cellsA (.agg (sgC 0 0 (irep 1120 0)).toArray) = some (sgC 0 0 (irep 1120 0)) := rfl
    simp (dsimp := false) only [go_sem, Nat.reduceAdd, Nat.reduceEqDiff, Nat.reduceMul, Nat.reduceLeDiff, Nat.reduceSub, Nat.reduceLT, ↓reduceIte, reduceCtorEq, List.reduceReplicate, List.flatten_cons, List.flatten_nil, List.append_nil, eq_self, Int.reduceLE, Int.reduceLT, Int.reduceToNat, Nat.min_eq_left, Int.reducePow, Int.reduceNeg, Int.reduceEq, b0, zsg, ca, hw, rr, ag]
    exact ⟨hl, sgC_one _ _ _, by rw [if_neg he], H5.put (by omega) _, oo.put (Nat.le_refl _) _⟩
end Go.Proofs.YtbomppdiiaodbaaRRR.B
