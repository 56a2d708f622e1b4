/-
  Signed records (layer 11): a record is read, by the document (third part).
-/
import Derived.Test.YtbomppdiiaodbaaRRRFd5
namespace Go.Proofs.YtbomppdiiaodbaaRRR.B
open Go
set_option linter.unusedVariables false
set_option linter.unusedSimpArgs false
set_option maxRecDepth 100000
theorem sgC_d (d e : Int) (B : List Int) (x : Int) : setC (sgC d e B) 0 [.int .i64 x] = sgC x e B := rfl
theorem sgC_e (d e : Int) (B : List Int) (x : Int) : setC (sgC d e B) 1 [.int .u32 x] = sgC d x B := rfl
theorem sums_set {D E : Int} {r : List Int} {e : Int} {k : Nat} (hk : k < 70) {V : List Int} (hV : sumF (nextF (sumsF k r e).2.1 (sumsF k r e).2.2 16).1 = V) {o : Nat} (ho : o = 2 + 16 * k) :
    setC (sgC D E ((sumsF k r e).1 ++ irep (1120 - 16 * k) 0)) o (ik .u8 V) = sgC D E ((sumsF (k + 1) r e).1 ++ irep (1120 - 16 * (k + 1)) 0) := by
  have hVl : V.length = 16 := by rw [← hV, sumF_len]
  have hsl := sumsF_len k r e
  rw [show 1120 - 16 * k = 16 + (1120 - 16 * (k + 1)) by omega, irep_add, ← List.append_assoc, sgC_set (by omega) (by rw [irep_len, hVl]), sumsF, hV]
theorem rget_spec {h : AHeap} {b : Nat} {r : List Int} {e : Int} (H : RnV h b r e) : SpecX Try.prog nG fn.ref11_Get [.pointer (some ⟨b, 0, none⟩)] h fun v' h' =>
    v' = .agg ⟨getC r e⟩ ∧ RnV h' b (getS r e).2.1 (getS r e).2.2 ∧ Only b h h' := by
  refine SpecX.of_body (ir.ref11_Get.spec (Nat.le_of_ble_eq_true rfl)) ?_
  obtain ⟨_, _, _, f, _⟩ := H.is
  have hbl := f.lt
  simp (dsimp := false) only [↓ir.ref11_Get.bw, ir.ref11_Get.rs, go_sem, Nat.reduceAdd, Nat.reduceEqDiff, Nat.reduceMul, Nat.reduceLeDiff, Nat.reduceSub, Nat.reduceLT, ↓reduceIte, reduceCtorEq, List.reduceReplicate, List.flatten_cons, List.flatten_nil, List.append_nil, eq_self, Int.reduceLE, Int.reduceLT, Int.reduceToNat, Nat.min_eq_left, Int.reducePow, Int.reduceNeg, Int.reduceEq, zsg]
  have f1 : Fx (h ++ [AObj.row .fix (sgC 0 0 (irep 1120 0)), AObj.row .fix (sgC 0 0 (irep 1120 0))]) h.length (sgC 0 0 (irep 1120 0)) := Fx.here _ _ _
  have f2 : Fx (h ++ [AObj.row .fix (sgC 0 0 (irep 1120 0)), AObj.row .fix (sgC 0 0 (irep 1120 0))]) (h.length + 1) (sgC 0 0 (irep 1120 0)) := by simp [Fx]
  have H0 : RnV (h ++ [AObj.row .fix (sgC 0 0 (irep 1120 0)), AObj.row .fix (sgC 0 0 (irep 1120 0))]) b r e := H.pre (.app _ _)
  have q0 : Only b h (h ++ [AObj.row .fix (sgC 0 0 (irep 1120 0)), AObj.row .fix (sgC 0 0 (irep 1120 0))]) := .of_pre (.app _ _)
  generalize (h ++ [AObj.row .fix (sgC 0 0 (irep 1120 0)), AObj.row .fix (sgC 0 0 (irep 1120 0))]) = h0 at f1 f2 H0 q0 ⊢
  refine callV_x (rnum_spec (n := 1) H0 (by omega) (by omega)) ?_
  rintro _ h1 ⟨rfl, H1, o1⟩
  have f1 := f1.only o1 (by omega)
  have f2 := f2.only o1 (by omega)
  have oo := q0.trans o1
  have hG : getC r e = getC r e := rfl
  conv at hG => rhs; unfold getC
  have hS : getS r e = getS r e := rfl
  conv at hS => rhs; unfold getS
  obtain ⟨D, hD⟩ : ∃ D, IntKind.i64.wrap (numF (nextF r e 1).1) = D := ⟨_, rfl⟩
  rw [hD] at hG
  have hw := f2.wr (off := 0) (vs := [.int .i64 D]) (by rw [sgC_len]; simp)
  rw [sgC_d] at hw
  simp (dsimp := false) only [go_sem, Nat.reduceAdd, Nat.reduceEqDiff, Nat.reduceMul, Nat.reduceLeDiff, Nat.reduceSub, Nat.reduceLT, ↓reduceIte, reduceCtorEq, List.reduceReplicate, List.flatten_cons, List.flatten_nil, List.append_nil, eq_self, Int.reduceLE, Int.reduceLT, Int.reduceToNat, Nat.min_eq_left, Int.reducePow, Int.reduceNeg, Int.reduceEq, hD, hw]
  have f1 := f1.other (show h.length + 1 ≠ h.length by omega) (.row .fix (sgC D 0 (irep 1120 0)))
  have f2 := f2.set (sgC D 0 (irep 1120 0))
  have H1 := H1.put (show b < h.length + 1 by omega) (sgC D 0 (irep 1120 0))
  have oo := oo.put (show h.length ≤ h.length + 1 by omega) (.row .fix (sgC D 0 (irep 1120 0)))
  generalize h1.set (h.length + 1) (AObj.row .fix (sgC D 0 (irep 1120 0))) = h2 at f1 f2 H1 oo ⊢
  refine callV_x (rnum_spec (n := 4) H1 (by omega) (by omega)) ?_
  rintro _ h3 ⟨rfl, H3, o3⟩
  have f1 := f1.only o3 (by omega)
  have f2 := f2.only o3 (by omega)
  have oo := oo.trans o3
  obtain ⟨E, hE⟩ : ∃ E, IntKind.u32.wrap (numF (nextF (nextF r e 1).2.1 (nextF r e 1).2.2 4).1) = E := ⟨_, rfl⟩
  rw [hE] at hG
  have hw := f2.wr (off := 1) (vs := [.int .u32 E]) (by rw [sgC_len]; simp)
  rw [sgC_e] at hw
  simp (dsimp := false) only [go_sem, Nat.reduceAdd, Nat.reduceEqDiff, Nat.reduceMul, Nat.reduceLeDiff, Nat.reduceSub, Nat.reduceLT, ↓reduceIte, reduceCtorEq, List.reduceReplicate, List.flatten_cons, List.flatten_nil, List.append_nil, eq_self, Int.reduceLE, Int.reduceLT, Int.reduceToNat, Nat.min_eq_left, Int.reducePow, Int.reduceNeg, Int.reduceEq, hE, hw]
  have f1 := f1.other (show h.length + 1 ≠ h.length by omega) (.row .fix (sgC D E (irep 1120 0)))
  have f2 := f2.set (sgC D E (irep 1120 0))
  have H3 := H3.put (show b < h.length + 1 by omega) (sgC D E (irep 1120 0))
  have oo := oo.put (show h.length ≤ h.length + 1 by omega) (.row .fix (sgC D E (irep 1120 0)))
  generalize h3.set (h.length + 1) (AObj.row .fix (sgC D E (irep 1120 0))) = h4 at f1 f2 H3 oo ⊢
  obtain ⟨r2, hr2⟩ : ∃ x, (nextF (nextF r e 1).2.1 (nextF r e 1).2.2 4).2.1 = x := ⟨_, rfl⟩
  obtain ⟨e2, he2⟩ : ∃ x, (nextF (nextF r e 1).2.1 (nextF r e 1).2.2 4).2.2 = x := ⟨_, rfl⟩
  rw [hr2, he2] at hS H3
  rw [hS] at hG
  rw [hG, hS]
  clear hG hS
  have f2 : Fx h4 (h.length + 1) (sgC D E ((sumsF 0 r2 e2).1 ++ irep (1120 - 16 * 0) 0)) := f2
  have H3 : RnV h4 b (sumsF 0 r2 e2).2.1 (sumsF 0 r2 e2).2.2 := H3
  have step : ∀ {k : Nat} {h5 : AHeap} {V : List Int}, sumF (nextF (sumsF k r2 e2).2.1 (sumsF k r2 e2).2.2 16).1 = V → RnV h5 b (nextF (sumsF k r2 e2).2.1 (sumsF k r2 e2).2.2 16).2.1 (nextF (sumsF k r2 e2).2.1 (sumsF k r2 e2).2.2 16).2.2 → RnV h5 b (sumsF (k + 1) r2 e2).2.1 (sumsF (k + 1) r2 e2).2.2 := fun _ q => q
  refine callV_x (rnsum_spec H3) ?_
  rintro _ h5 ⟨rfl, H5, o5⟩
  have f1 := f1.only o5 (by omega)
  have f2 := f2.only o5 (by omega)
  have oo := oo.trans o5
  obtain ⟨V, hV⟩ : ∃ V, sumF (nextF (sumsF 0 r2 e2).2.1 (sumsF 0 r2 e2).2.2 16).1 = V := ⟨_, rfl⟩
  have H5 := step hV H5
  rw [hV]
  have hVl : V.length = 16 := by rw [← hV, sumF_len]
  have cV' : cellsA (.agg ⟨ik .u8 V⟩) = some (ik .u8 V) := rfl
  have hsl0 := sumsF_len 0 r2 e2
  have hw := f2.wr (off := 2) (vs := ik .u8 V) (by rw [sgC_len, List.length_append, irep_len, List.length_map]; omega)
  rw [sums_set (k := 0) (by omega) hV rfl] at hw
  simp (dsimp := false) only [go_sem, Nat.reduceAdd, Nat.reduceEqDiff, Nat.reduceMul, Nat.reduceLeDiff, Nat.reduceSub, Nat.reduceLT, ↓reduceIte, reduceCtorEq, List.reduceReplicate, List.flatten_cons, List.flatten_nil, List.append_nil, eq_self, Int.reduceLE, Int.reduceLT, Int.reduceToNat, Nat.min_eq_left, Int.reducePow, Int.reduceNeg, Int.reduceEq, cV', hw]
  refine ⟨by rw [List.length_map, hVl], ik_one _ _, ?_⟩
  have f1 := f1.other (show h.length + 1 ≠ h.length by omega) (.row .fix (sgC D E ((sumsF 1 r2 e2).1 ++ irep 1104 0)))
  have f2 : Fx _ (h.length + 1) (sgC D E ((sumsF 1 r2 e2).1 ++ irep (1120 - 16 * 1) 0)) := f2.set (sgC D E ((sumsF 1 r2 e2).1 ++ irep 1104 0))
  have H5 := H5.put (show b < h.length + 1 by omega) (sgC D E ((sumsF 1 r2 e2).1 ++ irep 1104 0))
  have oo := oo.put (show h.length ≤ h.length + 1 by omega) (.row .fix (sgC D E ((sumsF 1 r2 e2).1 ++ irep 1104 0)))
  generalize h5.set (h.length + 1) (AObj.row .fix (sgC D E ((sumsF 1 r2 e2).1 ++ irep 1104 0))) = h6 at f1 f2 H5 oo ⊢
  clear hV hVl cV' hw V
  refine callV_x (rnsum_spec H5) ?_
  rintro _ h7 ⟨rfl, H5, o7⟩
  have f1 := f1.only o7 (by omega)
  have f2 := f2.only o7 (by omega)
  have oo := oo.trans o7
  obtain ⟨V, hV⟩ : ∃ V, sumF (nextF (sumsF 1 r2 e2).2.1 (sumsF 1 r2 e2).2.2 16).1 = V := ⟨_, rfl⟩
  have H5 := step hV H5
  rw [hV]
  have hVl : V.length = 16 := by rw [← hV, sumF_len]
  have cV' : cellsA (.agg ⟨ik .u8 V⟩) = some (ik .u8 V) := rfl
  have hsl1 := sumsF_len 1 r2 e2
  have hw := f2.wr (off := 18) (vs := ik .u8 V) (by rw [sgC_len, List.length_append, irep_len, List.length_map]; omega)
  rw [sums_set (k := 1) (by omega) hV rfl] at hw
  simp (dsimp := false) only [go_sem, Nat.reduceAdd, Nat.reduceEqDiff, Nat.reduceMul, Nat.reduceLeDiff, Nat.reduceSub, Nat.reduceLT, ↓reduceIte, reduceCtorEq, List.reduceReplicate, List.flatten_cons, List.flatten_nil, List.append_nil, eq_self, Int.reduceLE, Int.reduceLT, Int.reduceToNat, Nat.min_eq_left, Int.reducePow, Int.reduceNeg, Int.reduceEq, cV', hw]
  refine ⟨by rw [List.length_map, hVl], ik_one _ _, ?_⟩
  have f1 := f1.other (show h.length + 1 ≠ h.length by omega) (.row .fix (sgC D E ((sumsF 2 r2 e2).1 ++ irep 1088 0)))
  have f2 : Fx _ (h.length + 1) (sgC D E ((sumsF 2 r2 e2).1 ++ irep (1120 - 16 * 2) 0)) := f2.set (sgC D E ((sumsF 2 r2 e2).1 ++ irep 1088 0))
  have H5 := H5.put (show b < h.length + 1 by omega) (sgC D E ((sumsF 2 r2 e2).1 ++ irep 1088 0))
  have oo := oo.put (show h.length ≤ h.length + 1 by omega) (.row .fix (sgC D E ((sumsF 2 r2 e2).1 ++ irep 1088 0)))
  generalize h7.set (h.length + 1) (AObj.row .fix (sgC D E ((sumsF 2 r2 e2).1 ++ irep 1088 0))) = h8 at f1 f2 H5 oo ⊢
  clear hV hVl cV' hw V
  refine loopV_of (fun m' e' h6 => ∃ i : Nat, m' = 68 - i ∧ i ≤ 68 ∧ Fx h6 h.length (sgC 0 0 (irep 1120 0)) ∧ Fx h6 (h.length + 1) (sgC D E ((sumsF (2 + i) r2 e2).1 ++ irep (1120 - 16 * (2 + i)) 0)) ∧ RnV h6 b (sumsF (2 + i) r2 e2).2.1 (sumsF (2 + i) r2 e2).2.2 ∧ Only b h h6 ∧
    e' = [(0, .pointer (some ⟨b, 0, none⟩)), (2, .pointer (some ⟨h.length, 0, none⟩)), (3, .pointer (some ⟨h.length + 1, 0, none⟩)), (4, .int .i64 (i : Int))]) _ ⟨0, rfl, Nat.zero_le _, f1, f2, H5, oo, rfl⟩ ?_
  clear f1 f2 H5 oo
  rintro m' e' h6 ⟨i, rfl, hi, f1, f2, H5, oo, rfl⟩
  rcases Nat.lt_or_ge i 68 with hlt | hge
  case inl =>
    have d0 : decide ((i : Int) < 68) = true := decide_eq_true (by omega)
    have i5 : IntKind.i64.wrap ((i : Int) + 1) = ((i + 1 : Nat) : Int) := wrap_succ hlt (by unfold maxI; omega)
    simp (dsimp := false) only [↓ir.ref11_Get.l1.bw, go_sem, Nat.reduceAdd, Nat.reduceEqDiff, Nat.reduceMul, Nat.reduceLeDiff, Nat.reduceSub, Nat.reduceLT, ↓reduceIte, reduceCtorEq, List.reduceReplicate, List.flatten_cons, List.flatten_nil, List.append_nil, eq_self, Int.reduceLE, Int.reduceLT, Int.reduceToNat, Nat.min_eq_left, Int.reducePow, Int.reduceNeg, Int.reduceEq, d0]
    refine callV_x (rnsum_spec H5) ?_
    rintro _ h7 ⟨rfl, H7, o7⟩
    have g1 := f1.only o7 (by omega)
    have g2 := f2.only o7 (by omega)
    have oo7 := oo.trans o7
    obtain ⟨V, hV⟩ : ∃ V, sumF (nextF (sumsF (2 + i) r2 e2).2.1 (sumsF (2 + i) r2 e2).2.2 16).1 = V := ⟨_, rfl⟩
    have H7 := step hV H7
    rw [hV]
    have hVl : V.length = 16 := by rw [← hV, sumF_len]
    have cV' : cellsA (.agg ⟨ik .u8 V⟩) = some (ik .u8 V) := rfl
    have hsl := sumsF_len (2 + i) r2 e2
    have hw := g2.wr (off := 34 + i * 16) (vs := ik .u8 V) (by rw [sgC_len, List.length_append, irep_len, List.length_map]; omega)
    rw [sums_set (k := 2 + i) (by omega) hV (by omega)] at hw
    simp (dsimp := false) only [go_sem, Nat.reduceAdd, Nat.reduceEqDiff, Nat.reduceMul, Nat.reduceLeDiff, Nat.reduceSub, Nat.reduceLT, ↓reduceIte, reduceCtorEq, List.reduceReplicate, List.flatten_cons, List.flatten_nil, List.append_nil, eq_self, Int.reduceLE, Int.reduceLT, Int.reduceToNat, Nat.min_eq_left, Int.reducePow, Int.reduceNeg, Int.reduceEq, cV', Int.toNat_natCast, hw]
    refine ⟨by omega, by rw [List.length_map, hVl], ik_one _ _, ?_⟩
    simp (dsimp := false) only [go_sem, Nat.reduceAdd, Nat.reduceEqDiff, Nat.reduceMul, Nat.reduceLeDiff, Nat.reduceSub, Nat.reduceLT, ↓reduceIte, reduceCtorEq, List.reduceReplicate, List.flatten_cons, List.flatten_nil, List.append_nil, eq_self, Int.reduceLE, Int.reduceLT, Int.reduceToNat, Nat.min_eq_left, Int.reducePow, Int.reduceNeg, Int.reduceEq, i5]
    exact ⟨68 - (i + 1), by omega, i + 1, rfl, hlt, g1.other (by omega) _, g2.set _, H7.put (by omega) _, oo7.put (by omega) _, rfl⟩
  obtain rfl : i = 68 := by omega
  have d0 : decide (((68 : Nat) : Int) < 68) = false := rfl
  have f2 : Fx h6 (h.length + 1) (sgC D E (sumsF 70 r2 e2).1) := by
    have : (sumsF (2 + 68) r2 e2).1 ++ irep (1120 - 16 * (2 + 68)) 0 = (sumsF 70 r2 e2).1 := by
      rw [show irep (1120 - 16 * (2 + 68)) 0 = [] from rfl, List.append_nil]
    rw [← this]; exact f2
  have H5 : RnV h6 b (sumsF 70 r2 e2).2.1 (sumsF 70 r2 e2).2.2 := H5
  obtain ⟨v9, l9, a9, f9, q9⟩ := H5.is
  have re := f9.rd (off := 2) (n := 1) (vs := [.int .i64 (sumsF 70 r2 e2).2.2]) rfl (by simp)
  simp (dsimp := false) only [↓ir.ref11_Get.l1.bw, go_sem, Nat.reduceAdd, Nat.reduceEqDiff, Nat.reduceMul, Nat.reduceLeDiff, Nat.reduceSub, Nat.reduceLT, ↓reduceIte, reduceCtorEq, List.reduceReplicate, List.flatten_cons, List.flatten_nil, List.append_nil, eq_self, Int.reduceLE, Int.reduceLT, Int.reduceToNat, Nat.min_eq_left, Int.reducePow, Int.reduceNeg, Int.reduceEq, d0, re]
  have hsl := sumsF_len 70 r2 e2
  have hbl2 := oo.1
  by_cases he : (sumsF 70 r2 e2).2.2 = 0
  · have b0 : ((sumsF 70 r2 e2).2.2 != 0) = false := by simpa using he
    have hl : (sgC D E (sumsF 70 r2 e2).1).length = 1122 := by rw [sgC_len, hsl]
    have rs := f2.whole hl
    have hw := f1.over (vs := sgC D E (sumsF 70 r2 e2).1) (by rw [hl, sgC_len, irep_len])
    have rr := (f1.set (sgC D E (sumsF 70 r2 e2).1)).whole hl
    have ag : aggOf true (sgC D E (sumsF 70 r2 e2).1) = some (.agg ⟨sgC D E (sumsF 70 r2 e2).1⟩) := rfl
    have ca : cellsA (.agg ⟨sgC D E (sumsF 70 r2 e2).1⟩) = some (sgC D E (sumsF 70 r2 e2).1) := rfl
    simp (dsimp := false) only [go_sem, Nat.reduceAdd, Nat.reduceEqDiff, Nat.reduceMul, Nat.reduceLeDiff, Nat.reduceSub, Nat.reduceLT, ↓reduceIte, reduceCtorEq, List.reduceReplicate, List.flatten_cons, List.flatten_nil, List.append_nil, eq_self, Int.reduceLE, Int.reduceLT, Int.reduceToNat, Nat.min_eq_left, Int.reducePow, Int.reduceNeg, Int.reduceEq, b0, rs, ag, ca, hw, rr]
    refine ⟨hl, sgC_one _ _ _, ?_, H5.put (by omega) _, oo.put (Nat.le_refl _) _⟩
    rw [if_pos he]
  · have b0 : ((sumsF 70 r2 e2).2.2 != 0) = true := by simpa using he
    have hl : (sgC 0 0 (irep 1120 0)).length = 1122 := by rw [sgC_len, irep_len]
    have hw := f1.over (vs := sgC 0 0 (irep 1120 0)) rfl
    have rr := (f1.set (sgC 0 0 (irep 1120 0))).whole hl
    have ag : aggOf true (sgC 0 0 (irep 1120 0)) = some (.agg ⟨sgC 0 0 (irep 1120 0)⟩) := rfl
    have ca : cellsA (.agg (sgC 0 0 (irep 1120 0)).toArray) = some (sgC 0 0 (irep 1120 0)) := rfl
    simp (dsimp := false) only [go_sem, Nat.reduceAdd, Nat.reduceEqDiff, Nat.reduceMul, Nat.reduceLeDiff, Nat.reduceSub, Nat.reduceLT, ↓reduceIte, reduceCtorEq, List.reduceReplicate, List.flatten_cons, List.flatten_nil, List.append_nil, eq_self, Int.reduceLE, Int.reduceLT, Int.reduceToNat, Nat.min_eq_left, Int.reducePow, Int.reduceNeg, Int.reduceEq, b0, zsg, ca, hw, rr, ag]
    exact ⟨hl, sgC_one _ _ _, by rw [if_neg he], H5.put (by omega) _, oo.put (Nat.le_refl _) _⟩
end Go.Proofs.YtbomppdiiaodbaaRRR.B
