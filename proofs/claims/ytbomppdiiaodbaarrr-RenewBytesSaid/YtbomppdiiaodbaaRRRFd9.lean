/-
  Signed records (layer 11): messages; the document's bytes.
-/
import Derived.Test.YtbomppdiiaodbaaRRRFd8
namespace Go.Proofs.YtbomppdiiaodbaaRRR.B
open Go
set_option linter.unusedVariables false
set_option linter.unusedSimpArgs false
set_option maxRecDepth 100000
/-- A row of one slice. -/
theorem oneL {h : AHeap} {v : Value} {l : List Int} (hv : Ls h 1 by8 v l) : Ls (h ++ [.row (.grow 1) [v]]) 1 (isL 1 by8 (h ++ [.row (.grow 1) [v]])) (.slice (some ⟨h.length, 0, none⟩) 1 1) [l] :=
  ⟨_, litS (h := h ++ [.row (.grow 1) [v]]) (b := h.length) (n := 1) (sz := 1) (cells := [v]) (by simp) rfl (by decide), fun i hi => by
    obtain rfl : i = 0 := by simpa using hi
    exact ⟨v, rfl, hv.pre (.app _ _)⟩⟩
theorem message_spec {h : AHeap} {X : List Int} {d e : Int} (hB : IsB X) (hBl : X.length = 32) (he0 : 0 ≤ e) (he1 : e < 4294967296) :
    Spec Try.prog nG fn.renew_Message [.agg ⟨sgC d e X⟩] h (.agg ⟨ik .u8 (shortF 82 [recF d e X])⟩) h := by
  refine SpecX.ag (ik_scalar _ _) (SpecX.of_body (ir.renew_Message.spec (Nat.le_of_ble_eq_true rfl)) ?_)
  have ca : cellsA (.agg ⟨sgC d e X⟩) = some (sgC d e X) := rfl
  have hl : (sgC d e X).length = 34 := by rw [sgC_len, hBl]
  have ag : aggOf true (sgC d e X) = some (.agg ⟨sgC d e X⟩) := rfl
  have rs := ((Fx.here h (sgC d e X) [.row .fix (ik .u8 (irep 16 0))]).whole hl)
  simp (dsimp := false) only [↓ir.renew_Message.bw, ir.renew_Message.rs, go_sem, Nat.reduceAdd, Nat.reduceEqDiff, Nat.reduceMul, Nat.reduceLeDiff, Nat.reduceSub, Nat.reduceLT, ↓reduceIte, reduceCtorEq, List.reduceReplicate, List.flatten_cons, List.flatten_nil, List.append_nil, eq_self, Int.reduceLE, Int.reduceLT, Int.reduceToNat, Nat.min_eq_left, Int.reducePow, Int.reduceNeg, Int.reduceEq, ca, zrep_ik, rs, ag]
  have f1 : Fx (h ++ [.row .fix (sgC d e X), .row .fix (ik .u8 (irep 16 0))]) (h.length + 1) (ik .u8 (irep 16 0)) := by simp [Fx]
  have p0 := Pre.app h [.row .fix (sgC d e X), .row .fix (ik .u8 (irep 16 0))]
  generalize (h ++ [AObj.row .fix (sgC d e X), .row .fix (ik .u8 (irep 16 0))]) = h1 at f1 p0 ⊢
  refine callV_x (rbytes_spec hB hBl he0 he1) ?_
  rintro v2 h2 ⟨p2, l2⟩
  simp (dsimp := false) only [go_sem, Nat.reduceAdd, Nat.reduceEqDiff, Nat.reduceMul, Nat.reduceLeDiff, Nat.reduceSub, Nat.reduceLT, ↓reduceIte, reduceCtorEq, List.reduceReplicate, List.flatten_cons, List.flatten_nil, List.append_nil, eq_self, Int.reduceLE, Int.reduceLT, Int.reduceToNat, Nat.min_eq_left, Int.reducePow, Int.reduceNeg, Int.reduceEq, l2.cellsA]
  refine callV_of (short_spec (oneL l2) (by omega) (by omega) (fun p hp => ?_) (by simp [recF_len]; omega)) ?_
  · obtain rfl : p = recF d e X := by simpa using hp
    exact recF_isB hB
  have g1 := (f1.pre p2).app [.row (.grow 1) [v2]]
  have p3 := (p0.trans p2).app' [.row (.grow 1) [v2]]
  have hlt : (ik .u8 (shortF 82 [recF d e X])).length = 16 := by rw [List.length_map, shortF_len]
  have hw := g1.over (vs := ik .u8 (shortF 82 [recF d e X])) (by rw [hlt, List.length_map, irep_len])
  have rr := (g1.set (ik .u8 (shortF 82 [recF d e X]))).whole hlt
  have ag2 : aggOf true (ik .u8 (shortF 82 [recF d e X])) = some (.agg ⟨ik .u8 (shortF 82 [recF d e X])⟩) := rfl
  have ca2 : cellsA (.agg ⟨ik .u8 (shortF 82 [recF d e X])⟩) = some (ik .u8 (shortF 82 [recF d e X])) := rfl
  generalize (h2 ++ [AObj.row (.grow 1) [v2]]) = h3 at g1 p3 hw rr ⊢
  simp (dsimp := false) only [go_sem, Nat.reduceAdd, Nat.reduceEqDiff, Nat.reduceMul, Nat.reduceLeDiff, Nat.reduceSub, Nat.reduceLT, ↓reduceIte, reduceCtorEq, List.reduceReplicate, List.flatten_cons, List.flatten_nil, List.append_nil, eq_self, Int.reduceLE, Int.reduceLT, Int.reduceToNat, Nat.min_eq_left, Int.reducePow, Int.reduceNeg, Int.reduceEq, ca2, hw, rr, ag2]
  exact ⟨hlt, ik_one _ _, p3.put (by omega) _⟩
theorem Ow.storeK {h0 h : AHeap} {k : IntKind} {l : List Int} {v : Value} (o : Ow h0 h 1 v l.length (ik k l)) {i : Nat} (hi : i < l.length) (x : Int) : ∃ h', wrs h (sb v) (so v + i) [.int k x] = some h' ∧ Ow h0 h' 1 v (l.set i x).length (ik k (l.set i x)) ∧
    But h0 (sb v) h h' ∧ (∀ c, c ≠ sb v → h'[c]? = h[c]?) ∧ h'.length = h.length := by
  generalize hn : l.length = n at o
  generalize hcs : ik k l = cs at o
  cases o with
  | nil => omega
  | row hb hr hl hc hm =>
    rename_i b off cap cells
    have hbl := (List.getElem?_eq_some_iff.1 hr).1
    simp only [Nat.mul_one] at *
    refine ⟨h.set b (.row (.grow 1) (cells.set (off + i) (.int k x))), ?_, ?_, ⟨by simp, fun j hj e => ?_⟩, fun c hc' => ?_, by simp⟩
    · simp only [wrs, sb, so, hr, setC]
      exact if_pos (show off + i + 1 ≤ cells.length by omega)
    · have := Ow.row (h0 := h0) (h := h.set b (.row (.grow 1) (cells.set (off + i) (.int k x)))) (sz := 1) (b := b) (off := off) (n := n) (cap := cap) (cells := cells.set (off + i) (.int k x)) hb (by simp [hbl]) (by simp; omega) hc hm
      have e2 : ((cells.set (off + i) (.int k x)).drop off).take (n * 1) = ik k (l.set i x) := by
        rw [← ik_set]
        show _ = (ik k l).set i (.int k x)
        rw [hcs, Nat.mul_one]
        apply List.ext_getElem?
        intro j
        simp only [List.getElem?_take, List.getElem?_drop, List.getElem?_set, List.length_take, List.length_drop]
        by_cases hj : j < n
        · simp only [hj, if_true]
          by_cases e : i = j
          · subst e; simp only [if_true]; rw [if_pos (by omega), if_pos (by omega)]
          · rw [if_neg (by omega), if_neg e]
        · simp only [hj, if_false]
          by_cases e : i = j
          · subst e; omega
          · rw [if_neg e]
      rw [e2] at this
      simpa [hn] using this
    · rw [List.getElem?_set_ne]
      intro e3; have := e e3.symm; omega
    · rw [List.getElem?_set_ne]
      intro e3; exact hc' e3.symm
def numB (X : Int) (s j : Nat) : List Int := irep (s - j) 0 ++ (beF s X).drop (s - j)
theorem numB_len (X : Int) {s j : Nat} (h : j ≤ s) : (numB X s j).length = s := by simp only [numB, irep, List.length_append, List.length_replicate, List.length_drop, beF_len]; omega
theorem beF_get (s : Nat) (X : Int) {i : Nat} (h : i < s) : (beF s X)[i]? = some (X / 256 ^ (s - 1 - i) % 256) := by simp [beF, h]
theorem numB_set (X : Int) {s j : Nat} (h : j < s) : (numB X s j).set (s - 1 - j) (X / 256 ^ j % 256) = numB X s (j + 1) := by
  apply List.ext_getElem?
  intro i
  rw [List.getElem?_set]
  have l1 : (irep (s - j) 0).length = s - j := irep_len _ _
  have l2 : (irep (s - (j + 1)) 0).length = s - (j + 1) := irep_len _ _
  unfold numB
  by_cases e : s - 1 - j = i
  · subst e
    rw [if_pos rfl, if_pos (by rw [List.length_append, l1, List.length_drop, beF_len]; omega), List.getElem?_append_right (by omega), l2, List.getElem?_drop, show s - (j + 1) + (s - 1 - j - (s - (j + 1))) = s - 1 - j by omega, beF_get s X (by omega)]
    congr 4; omega
  · rw [if_neg e]
    by_cases hi : i < s - (j + 1)
    · rw [List.getElem?_append_left (by omega), List.getElem?_append_left (by omega)]
      simp [irep, show i < s - j by omega, hi]
    · rw [List.getElem?_append_right (by omega), List.getElem?_append_right (by omega), l1, l2, List.getElem?_drop, List.getElem?_drop]
      congr 1; omega
theorem num5_spec {h : AHeap} {X : Int} {s : Nat} (hs : 0 < s) (hs2 : s ≤ 8) (hX0 : 0 ≤ X) (hX1 : X < 18446744073709551616) : SpecX Try.prog nG fn.ref05_Num [.int .u64 X, .int .i64 (s : Int)] h fun v' h' => Pre h h' ∧ Ls h' 1 by8 v' (beF s X) := by
  refine SpecX.of_body (ir.ref05_Num.spec (Nat.le_of_ble_eq_true rfl)) ?_
  have w1 : IntKind.i64.wrap ((s : Int) - 1) = (s : Int) - 1 - ((0 : Nat) : Int) := by rw [wrap_i64 (by omega)]; omega
  simp (dsimp := false) only [↓ir.ref05_Num.bw, ir.ref05_Num.rs, go_sem, Nat.reduceAdd, Nat.reduceEqDiff, Nat.reduceMul, Nat.reduceLeDiff, Nat.reduceSub, Nat.reduceLT, ↓reduceIte, reduceCtorEq, List.reduceReplicate, List.flatten_cons, List.flatten_nil, List.append_nil, eq_self, Int.reduceLE, Int.reduceLT, Int.reduceToNat, Nat.min_eq_left, Int.reducePow, Int.reduceNeg, Int.reduceEq, w1, Int.toNat_natCast]
  refine ⟨by omega, ?_⟩
  have hrow : (List.replicate s [Value.int .u8 0]).flatten = ik .u8 (numB X s 0) := by
    have : numB X s 0 = List.replicate s 0 := by simp [numB, irep, beF_len]
    rw [this]
    clear hs hs2 w1 this
    induction s with
    | zero => rfl
    | succ s ih => rw [List.replicate_succ, List.flatten_cons, ih]; rfl
  rw [hrow]
  have o0 : Ow h (h ++ [.row (.grow 1) (ik .u8 (numB X s 0))]) 1 (.slice (some ⟨h.length, 0, none⟩) s s) s (ik .u8 (numB X s 0)) := by
    have hl : (ik .u8 (numB X s 0)).length = s := by rw [List.length_map, numB_len X (Nat.zero_le _)]
    have := Ow.row (h0 := h) (h := h ++ [.row (.grow 1) (ik .u8 (numB X s 0))]) (sz := 1) (b := h.length) (off := 0) (n := s) (cap := s) (cells := ik .u8 (numB X s 0)) (Nat.le_refl _) (by simp) (by omega) (Nat.le_refl _) (by unfold maxI; omega)
    rw [List.drop_zero, List.take_of_length_le (by omega)] at this
    exact this
  refine loopV_of (fun m' e h4 => ∃ (j : Nat) (v : Value), m' = s - j ∧ j ≤ s ∧ Pre h h4 ∧ Ow h h4 1 v s (ik .u8 (numB X s j)) ∧
    e = [(0, .int .u64 (X / 256 ^ j)), (5, v), (6, .int .i64 ((s : Int) - 1 - (j : Int)))]) _ ⟨0, _, rfl, Nat.zero_le _, .app _ _, o0, by simp⟩ ?_
  clear o0 hrow w1
  rintro m' e h3 ⟨j, v, rfl, hj, p0, o1, rfl⟩
  have hnl := numB_len X hj
  have o1' : Ow h h3 1 v (numB X s j).length (ik .u8 (numB X s j)) := by rw [hnl]; exact o1
  rcases Nat.lt_or_ge j s with hlt | hge
  case inl =>
    have d0 : decide (((s : Int) - 1 - (j : Int)) ≥ 0) = true := decide_eq_true (by omega)
    have hpos : (0 : Int) < 256 ^ j := Int.pow_pos (by omega)
    have hx0 : 0 ≤ X / 256 ^ j := Int.ediv_nonneg hX0 (Int.le_of_lt hpos)
    have hx1 : X / 256 ^ j ≤ X := Int.ediv_le_self _ hX0
    have b0 : IntKind.u8.wrap ((X / 256 ^ j).tmod 256) = X / 256 ^ j % 256 := by rw [Int.tmod_eq_emod_of_nonneg hx0, IntKind.wrap_u8]; omega
    have b1 : IntKind.u64.wrap ((X / 256 ^ j).tdiv 256) = X / 256 ^ (j + 1) := by
      rw [Int.tdiv_eq_ediv_of_nonneg hx0, IntKind.wrap_u64, Int.pow_succ, ← Int.ediv_ediv_of_nonneg (Int.le_of_lt hpos)]
      omega
    have jw : IntKind.i64.wrap ((s : Int) - 1 - (j : Int) - 1) = (s : Int) - 1 - ((j + 1 : Nat) : Int) := by rw [wrap_i64 (by omega)]; omega
    have jn : ((s : Int) - 1 - (j : Int)) = ((s - 1 - j : Nat) : Int) := by omega
    obtain ⟨h5, hw, o5, hbut, hoth, hlen⟩ := o1'.storeK (i := s - 1 - j) (by omega) (X / 256 ^ j % 256)
    rw [numB_set X hlt, numB_len X (by omega)] at o5
    have ix := fun {h2 : AHeap} {K : Value → AHeap → Prop} {u : Hold K} => o1'.lsK.ixsN (i := s - 1 - j) (by omega) (h2 := h2) (K := K) (u := u) (q := .i64)
    have p5 : Pre h h5 := hbut.pre p0
    simp (dsimp := false) only [↓ir.ref05_Num.l1.bw, go_sem, Nat.reduceAdd, Nat.reduceEqDiff, Nat.reduceMul, Nat.reduceLeDiff, Nat.reduceSub, Nat.reduceLT, ↓reduceIte, reduceCtorEq, List.reduceReplicate, List.flatten_cons, List.flatten_nil, List.append_nil, eq_self, Int.reduceLE, Int.reduceLT, Int.reduceToNat, Nat.min_eq_left, Int.reducePow, Int.reduceNeg, Int.reduceEq, d0, b0]
    rw [jn]
    refine ⟨by omega, ?_⟩
    simp (dsimp := false) only [go_sem, Nat.reduceAdd, Nat.reduceEqDiff, Nat.reduceMul, Nat.reduceLeDiff, Nat.reduceSub, Nat.reduceLT, ↓reduceIte, reduceCtorEq, List.reduceReplicate, List.flatten_cons, List.flatten_nil, List.append_nil, eq_self, Int.reduceLE, Int.reduceLT, Int.reduceToNat, Nat.min_eq_left, Int.reducePow, Int.reduceNeg, Int.reduceEq, ix, Nat.mul_one, hw, b1]
    rw [← jn]
    simp (dsimp := false) only [go_sem, Nat.reduceAdd, Nat.reduceEqDiff, Nat.reduceMul, Nat.reduceLeDiff, Nat.reduceSub, Nat.reduceLT, ↓reduceIte, reduceCtorEq, List.reduceReplicate, List.flatten_cons, List.flatten_nil, List.append_nil, eq_self, Int.reduceLE, Int.reduceLT, Int.reduceToNat, Nat.min_eq_left, Int.reducePow, Int.reduceNeg, Int.reduceEq, b1, jw]
    exact ⟨by omega, s - (j + 1), by omega, j + 1, v, rfl, hlt, p5, o5, rfl⟩
  obtain rfl : j = s := by omega
  have d0 : decide (((j : Int) - 1 - (j : Int)) ≥ 0) = false := decide_eq_false (by omega)
  have hfull : numB X j j = beF j X := by simp [numB, irep]
  rw [hfull] at o1'
  simp (dsimp := false) only [↓ir.ref05_Num.l1.bw, go_sem, Nat.reduceAdd, Nat.reduceEqDiff, Nat.reduceMul, Nat.reduceLeDiff, Nat.reduceSub, Nat.reduceLT, ↓reduceIte, reduceCtorEq, List.reduceReplicate, List.flatten_cons, List.flatten_nil, List.append_nil, eq_self, Int.reduceLE, Int.reduceLT, Int.reduceToNat, Nat.min_eq_left, Int.reducePow, Int.reduceNeg, Int.reduceEq, d0]
  exact ⟨p0, o1'.lsK⟩
/-- Bytes more. -/
theorem rB_spec {h : AHeap} {X : List Int} {d e : Int} (hB : IsB X) (hBl : X.length = 32) (he0 : 0 ≤ e) (he1 : e < 4294967296) :
    SpecX Try.prog nG fn.ref11_Bytes [.agg ⟨sgC d e X⟩] h fun v' h' => Pre h h' ∧ Ow h h' 1 v' (recF d e X).length (ik .u8 (recF d e X)) := by
  refine SpecX.of_body (ir.ref11_Bytes.spec (Nat.le_of_ble_eq_true rfl)) ?_
  have ca : cellsA (.agg ⟨sgC d e X⟩) = some (sgC d e X) := rfl
  have fb : Fx (h ++ [.row .fix (sgC d e X)]) h.length (sgC d e X) := Fx.here _ _ _
  have r0 := fb.rd (off := 0) (n := 1) (vs := [.int .i64 d]) rfl (by rw [sgC_len]; omega)
  have w0 : IntKind.u8.wrap d = d % 256 := IntKind.wrap_u8 d
  simp (dsimp := false) only [↓ir.ref11_Bytes.bw, ir.ref11_Bytes.rs, go_sem, Nat.reduceAdd, Nat.reduceEqDiff, Nat.reduceMul, Nat.reduceLeDiff, Nat.reduceSub, Nat.reduceLT, ↓reduceIte, reduceCtorEq, List.reduceReplicate, List.flatten_cons, List.flatten_nil, List.append_nil, eq_self, Int.reduceLE, Int.reduceLT, Int.reduceToNat, Nat.min_eq_left, Int.reducePow, Int.reduceNeg, Int.reduceEq, ca, r0, w0]
  refine ⟨⟨by omega, by omega⟩, ?_⟩
  have e1 : (if 2 ≤ (sgC d e X).length then some (List.take 1 (List.drop 1 (sgC d e X))) else none).bind (aggOf false) = some (.int .u32 e) := by
    rw [if_pos (by rw [sgC_len]; omega)]; rfl
  have w1 : IntKind.u64.wrap e = e := by rw [IntKind.wrap_u64]; omega
  rw [e1]
  have o1 : Ow h (h ++ [.row .fix (sgC d e X), .row (.grow 1) [.int .u8 (d % 256)], .row (.grow 1) [.int .u8 (d % 256)]]) 1 (.slice (some ⟨h.length + 2, 0, none⟩) 1 1) 1 (ik .u8 [d % 256]) := by
    have := Ow.row (h0 := h) (h := h ++ [.row .fix (sgC d e X), .row (.grow 1) [.int .u8 (d % 256)], .row (.grow 1) [.int .u8 (d % 256)]]) (sz := 1) (b := h.length + 2) (off := 0) (n := 1) (cap := 1) (cells := [.int .u8 (d % 256)]) (by omega) (by simp) (by simp) (Nat.le_refl _) (by decide)
    simpa using this
  have fb : Fx (h ++ [.row .fix (sgC d e X), .row (.grow 1) [.int .u8 (d % 256)], .row (.grow 1) [.int .u8 (d % 256)]]) h.length (sgC d e X) := Fx.here _ _ _
  have p1 := Pre.app h [.row .fix (sgC d e X), .row (.grow 1) [.int .u8 (d % 256)], .row (.grow 1) [.int .u8 (d % 256)]]
  generalize (h ++ [AObj.row .fix (sgC d e X), .row (.grow 1) [.int .u8 (d % 256)], .row (.grow 1) [.int .u8 (d % 256)]]) = h1 at o1 fb p1 ⊢
  simp (dsimp := false) only [go_sem, Nat.reduceAdd, Nat.reduceEqDiff, Nat.reduceMul, Nat.reduceLeDiff, Nat.reduceSub, Nat.reduceLT, ↓reduceIte, reduceCtorEq, List.reduceReplicate, List.flatten_cons, List.flatten_nil, List.append_nil, eq_self, Int.reduceLE, Int.reduceLT, Int.reduceToNat, Nat.min_eq_left, Int.reducePow, Int.reduceNeg, Int.reduceEq, w1]
  refine callV_x (num5_spec (s := 4) (by omega) (by omega) he0 (by omega)) ?_
  rintro v2 h2 ⟨p2, l2⟩
  have o2 := o1.pre p2
  have fb2 := fb.pre p2
  simp (dsimp := false) only [go_sem, Nat.reduceAdd, Nat.reduceEqDiff, Nat.reduceMul, Nat.reduceLeDiff, Nat.reduceSub, Nat.reduceLT, ↓reduceIte, reduceCtorEq, List.reduceReplicate, List.flatten_cons, List.flatten_nil, List.append_nil, eq_self, Int.reduceLE, Int.reduceLT, Int.reduceToNat, Nat.min_eq_left, Int.reducePow, Int.reduceNeg, Int.reduceEq, l2.src (.refl _)]
  rw [beF_len]
  refine o2.app (by rw [List.length_map, beF_len]) (ik_one _ _) (show room (1 + 4) 1 from ⟨by omega, by omega⟩) (fun v3 h3 o3 hc _ _ => ?_) (p1.trans p2)
  have p3 := hc.pre (p1.trans p2)
  have fb3 := fb2.chg hc (o2.nfix fb2)
  rw [← List.map_append] at o3
  have src1 : ∀ {h5 : AHeap} (f : Fx h5 h.length (sgC d e X)) (k : Nat), k + 16 ≤ 32 → appSrc h5 1 false (.slice (some ⟨h.length, 2 + k, none⟩) 16 16) = some (16, ik .u8 ((X.drop k).take 16)) := fun f k hk => by
    have := sg_rdB f (k := k) (n := 16) (by omega)
    simp only [appSrc, Nat.mul_one, this]; rfl
  have s1 := src1 fb3 0 (by omega)
  simp (dsimp := false) only [go_sem, Nat.reduceAdd, Nat.reduceEqDiff, Nat.reduceMul, Nat.reduceLeDiff, Nat.reduceSub, Nat.reduceLT, ↓reduceIte, reduceCtorEq, List.reduceReplicate, List.flatten_cons, List.flatten_nil, List.append_nil, eq_self, Int.reduceLE, Int.reduceLT, Int.reduceToNat, Nat.min_eq_left, Int.reducePow, Int.reduceNeg, Int.reduceEq, Option.getD_none, Int.toNat_zero, Nat.zero_mul, ite_self, Nat.sub_zero, Int.toNat_natCast, Nat.add_zero, s1]
  refine ⟨by omega, slaOK_at fb3, ?_⟩
  refine o3.app (m := 16) (by rw [List.length_map, List.length_take]; omega) (ik_one _ _) (show room (1 + 4 + 16) 1 from ⟨by omega, by omega⟩) (fun v4 h4 o4 hc _ _ => ?_) p3
  have p4 := hc.pre p3
  have fb4 := fb3.chg hc (o3.nfix fb3)
  rw [← List.map_append] at o4
  have s2 := src1 fb4 16 (by omega)
  simp (dsimp := false) only [go_sem, Nat.reduceAdd, Nat.reduceEqDiff, Nat.reduceMul, Nat.reduceLeDiff, Nat.reduceSub, Nat.reduceLT, ↓reduceIte, reduceCtorEq, List.reduceReplicate, List.flatten_cons, List.flatten_nil, List.append_nil, eq_self, Int.reduceLE, Int.reduceLT, Int.reduceToNat, Nat.min_eq_left, Int.reducePow, Int.reduceNeg, Int.reduceEq, Option.getD_none, Int.toNat_zero, Nat.zero_mul, ite_self, Nat.sub_zero, Int.toNat_natCast, Nat.add_zero, s2]
  refine ⟨by omega, slaOK_at fb4, ?_⟩
  refine o4.app (m := 16) (by rw [List.length_map, List.length_take, List.length_drop]; omega) (ik_one _ _) (show room (1 + 4 + 16 + 16) 1 from ⟨by omega, by omega⟩) (fun v5 h5 o5 hc _ _ => ?_) p4
  have p5 := hc.pre p4
  rw [← List.map_append] at o5
  simp (dsimp := false) only [go_sem, Nat.reduceAdd, Nat.reduceEqDiff, Nat.reduceMul, Nat.reduceLeDiff, Nat.reduceSub, Nat.reduceLT, ↓reduceIte, reduceCtorEq, List.reduceReplicate, List.flatten_cons, List.flatten_nil, List.append_nil, eq_self, Int.reduceLE, Int.reduceLT, Int.reduceToNat, Nat.min_eq_left, Int.reducePow, Int.reduceNeg, Int.reduceEq]
  have e6 : [d % 256] ++ beF 4 e ++ X.take 16 ++ (X.drop 16).take 16 = recF d e X := by
    have : X = X.take 16 ++ (X.drop 16).take 16 := by
      rw [← List.take_add, List.take_of_length_le (by omega)]
    conv => rhs; rw [this]
    simp [recF]
  rw [recF_len, hBl]
  rw [e6] at o5
  exact ⟨p5, o5⟩
theorem rput11_spec {h : AHeap} {B : List Int} {d e : Int} (hB : IsB B) (hBl : B.length = 1120) (he0 : 0 ≤ e) (he1 : e < 4294967296) :
    SpecX Try.prog nG fn.ref11_Put [.agg ⟨sgC d e B⟩] h fun v' h' => Pre h h' ∧ Ls h' 1 by8 v' (recF d e B) := by
  refine SpecX.of_body (ir.ref11_Put.spec (Nat.le_of_ble_eq_true rfl)) ?_
  have ca : cellsA (.agg ⟨sgC d e B⟩) = some (sgC d e B) := rfl
  have fb : Fx (h ++ [.row .fix (sgC d e B)]) h.length (sgC d e B) := Fx.here _ _ _
  have p0 := Pre.app h [.row .fix (sgC d e B)]
  have hr : ((sgC d e B).drop 0).take 34 = sgC d e (B.take 32) := by simp [sgC]
  have r0 := fb.rd (off := 0) (n := 34) (vs := sgC d e (B.take 32)) hr (by rw [sgC_len]; omega)
  have ag : aggOf true (sgC d e (B.take 32)) = some (.agg ⟨sgC d e (B.take 32)⟩) := rfl
  simp (dsimp := false) only [↓ir.ref11_Put.bw, ir.ref11_Put.rs, go_sem, Nat.reduceAdd, Nat.reduceEqDiff, Nat.reduceMul, Nat.reduceLeDiff, Nat.reduceSub, Nat.reduceLT, ↓reduceIte, reduceCtorEq, List.reduceReplicate, List.flatten_cons, List.flatten_nil, List.append_nil, eq_self, Int.reduceLE, Int.reduceLT, Int.reduceToNat, Nat.min_eq_left, Int.reducePow, Int.reduceNeg, Int.reduceEq, ca, r0, ag]
  generalize (h ++ [AObj.row .fix (sgC d e B)]) = h1 at fb p0 ⊢
  refine callV_x (rB_spec (hB.take _) (by rw [List.length_take]; omega) he0 he1) ?_
  rintro v2 h2 ⟨p2, o2⟩
  have hbl := fb.lt
  have fb2 := fb.pre p2
  have hl2 : (recF d e (B.take 32)).length = 37 := by rw [recF_len, List.length_take]; omega
  rw [hl2] at o2
  simp (dsimp := false) only [go_sem, Nat.reduceAdd, Nat.reduceEqDiff, Nat.reduceMul, Nat.reduceLeDiff, Nat.reduceSub, Nat.reduceLT, ↓reduceIte, reduceCtorEq, List.reduceReplicate, List.flatten_cons, List.flatten_nil, List.append_nil, eq_self, Int.reduceLE, Int.reduceLT, Int.reduceToNat, Nat.min_eq_left, Int.reducePow, Int.reduceNeg, Int.reduceEq]
  refine loopV_of (fun m' e' h6 => ∃ (i : Nat) (w : Value), m' = 68 - i ∧ i ≤ 68 ∧ Pre h1 h6 ∧ Ow h1 h6 1 w (37 + 16 * i) (ik .u8 (recF d e (B.take (32 + 16 * i)))) ∧
    e' = [(1, .pointer (some ⟨h.length, 0, none⟩)), (3, w), (4, .int .i64 (i : Int))]) _ ⟨0, v2, rfl, Nat.zero_le _, p2, o2, rfl⟩ ?_
  clear o2 fb2 p2 r0
  rintro m' e' h6 ⟨i, w, rfl, hi, p6, o6, rfl⟩
  have fb6 := fb.pre p6
  rcases Nat.lt_or_ge i 68 with hlt | hge
  case inl =>
    have d0 : decide ((i : Int) < 68) = true := decide_eq_true (by omega)
    have i5 : IntKind.i64.wrap ((i : Int) + 1) = ((i + 1 : Nat) : Int) := wrap_succ hlt (by unfold maxI; omega)
    have r1 := sg_rdB fb6 (k := 32 + i * 16) (n := 16) (by omega)
    obtain ⟨V, hV⟩ : ∃ V, (B.drop (32 + i * 16)).take 16 = V := ⟨_, rfl⟩
    have hVl : V.length = 16 := by rw [← hV, List.length_take, List.length_drop]; omega
    rw [hV, ← Nat.add_assoc, show 2 + 32 = 34 from rfl] at r1
    have ag : aggOf true (ik .u8 V) = some (.agg ⟨ik .u8 V⟩) := rfl
    have ca2 : cellsA (.agg ⟨ik .u8 V⟩) = some (ik .u8 V) := rfl
    have hw := wrs_new (h := h6) (cs := ik .u8 (irep 16 0)) (vs := ik .u8 V) (by rw [List.length_map, List.length_map, irep_len, hVl])
    have fv : Fx (h6 ++ [.row .fix (ik .u8 V)]) h6.length (ik .u8 V) := Fx.here _ _ _
    simp (dsimp := false) only [↓ir.ref11_Put.l1.bw, go_sem, Nat.reduceAdd, Nat.reduceEqDiff, Nat.reduceMul, Nat.reduceLeDiff, Nat.reduceSub, Nat.reduceLT, ↓reduceIte, reduceCtorEq, List.reduceReplicate, List.flatten_cons, List.flatten_nil, List.append_nil, eq_self, Int.reduceLE, Int.reduceLT, Int.reduceToNat, Nat.min_eq_left, Int.reducePow, Int.reduceNeg, Int.reduceEq, d0, Int.toNat_natCast, r1, ag, zrep_ik, ca2, hw]
    refine ⟨by omega, by rw [List.length_map, hVl], ik_one _ _, ?_⟩
    have src := (fv.sl (n := 16) (c := 16) hVl (Nat.le_refl _) (by decide)).src (.refl _)
    rw [hVl] at src
    have o7 := o6.pre (.app h6 [.row .fix (ik .u8 V)])
    have p7 := p6.app' [.row .fix (ik .u8 V)]
    generalize (h6 ++ [AObj.row .fix (ik .u8 V)]) = h7 at fv src o7 p7 ⊢
    simp (dsimp := false) only [go_sem, Nat.reduceAdd, Nat.reduceEqDiff, Nat.reduceMul, Nat.reduceLeDiff, Nat.reduceSub, Nat.reduceLT, ↓reduceIte, reduceCtorEq, List.reduceReplicate, List.flatten_cons, List.flatten_nil, List.append_nil, eq_self, Int.reduceLE, Int.reduceLT, Int.reduceToNat, Nat.min_eq_left, Int.reducePow, Int.reduceNeg, Int.reduceEq, Option.getD_none, Int.toNat_zero, Nat.zero_mul, ite_self, Nat.sub_zero, Int.toNat_natCast, Nat.add_zero, src]
    refine ⟨by omega, slaOK_at fv, ?_⟩
    refine o7.app (m := 16) (by rw [List.length_map, hVl]) (ik_one _ _) (show room (37 + 16 * i + 16) 1 from ⟨by omega, by omega⟩) (fun w2 h8 o8 hc _ _ => ?_) p7
    have p8 := hc.pre p7
    rw [← List.map_append] at o8
    simp (dsimp := false) only [go_sem, Nat.reduceAdd, Nat.reduceEqDiff, Nat.reduceMul, Nat.reduceLeDiff, Nat.reduceSub, Nat.reduceLT, ↓reduceIte, reduceCtorEq, List.reduceReplicate, List.flatten_cons, List.flatten_nil, List.append_nil, eq_self, Int.reduceLE, Int.reduceLT, Int.reduceToNat, Nat.min_eq_left, Int.reducePow, Int.reduceNeg, Int.reduceEq, i5]
    refine ⟨68 - (i + 1), by omega, i + 1, w2, rfl, hlt, p8, ?_, rfl⟩
    have e7 : B.take (32 + 16 * i + 16) = B.take (32 + 16 * i) ++ V := by rw [← hV, Nat.mul_comm i 16]; exact List.take_add
    have e6 : recF d e (B.take (32 + 16 * i)) ++ V = recF d e (B.take (32 + 16 * (i + 1))) := by
      rw [show 32 + 16 * (i + 1) = (32 + 16 * i) + 16 by omega, e7]; simp [recF]
    rw [← e6, show 37 + 16 * (i + 1) = 37 + 16 * i + 16 by omega]
    exact o8
  obtain rfl : i = 68 := by omega
  have d0 : decide (((68 : Nat) : Int) < 68) = false := rfl
  rw [List.take_of_length_le (by omega)] at o6
  simp (dsimp := false) only [↓ir.ref11_Put.l1.bw, go_sem, Nat.reduceAdd, Nat.reduceEqDiff, Nat.reduceMul, Nat.reduceLeDiff, Nat.reduceSub, Nat.reduceLT, ↓reduceIte, reduceCtorEq, List.reduceReplicate, List.flatten_cons, List.flatten_nil, List.append_nil, eq_self, Int.reduceLE, Int.reduceLT, Int.reduceToNat, Nat.min_eq_left, Int.reducePow, Int.reduceNeg, Int.reduceEq, d0]
  refine ⟨p0.trans p6, Ow.lsK (h0 := h1) ?_⟩
  rw [recF_len, hBl]
  exact o6
theorem rmessage_spec {h : AHeap} {X : List Int} {d e : Int} (hB : IsB X) (hBl : X.length = 32) (he0 : 0 ≤ e) (he1 : e < 4294967296) :
    Spec Try.prog nG fn.ref11_Message [.agg ⟨sgC d e X⟩] h (.agg ⟨ik .u8 (shortF 82 [recF d e X])⟩) h := by
  refine SpecX.ag (ik_scalar _ _) (SpecX.of_body (ir.ref11_Message.spec (Nat.le_of_ble_eq_true rfl)) ?_)
  have ca : cellsA (.agg ⟨sgC d e X⟩) = some (sgC d e X) := rfl
  have hl : (sgC d e X).length = 34 := by rw [sgC_len, hBl]
  have ag : aggOf true (sgC d e X) = some (.agg ⟨sgC d e X⟩) := rfl
  have rs := ((Fx.here h (sgC d e X) [.row .fix (ik .u8 (irep 16 0))]).whole hl)
  simp (dsimp := false) only [↓ir.ref11_Message.bw, ir.ref11_Message.rs, go_sem, Nat.reduceAdd, Nat.reduceEqDiff, Nat.reduceMul, Nat.reduceLeDiff, Nat.reduceSub, Nat.reduceLT, ↓reduceIte, reduceCtorEq, List.reduceReplicate, List.flatten_cons, List.flatten_nil, List.append_nil, eq_self, Int.reduceLE, Int.reduceLT, Int.reduceToNat, Nat.min_eq_left, Int.reducePow, Int.reduceNeg, Int.reduceEq, ca, zrep_ik, rs, ag]
  have f1 : Fx (h ++ [.row .fix (sgC d e X), .row .fix (ik .u8 (irep 16 0))]) (h.length + 1) (ik .u8 (irep 16 0)) := by simp [Fx]
  have p0 := Pre.app h [.row .fix (sgC d e X), .row .fix (ik .u8 (irep 16 0))]
  generalize (h ++ [AObj.row .fix (sgC d e X), .row .fix (ik .u8 (irep 16 0))]) = h1 at f1 p0 ⊢
  refine callV_x (rB_spec hB hBl he0 he1) ?_
  rintro v2 h2 ⟨p2, o2⟩
  have l2 := o2.lsK
  simp (dsimp := false) only [go_sem, Nat.reduceAdd, Nat.reduceEqDiff, Nat.reduceMul, Nat.reduceLeDiff, Nat.reduceSub, Nat.reduceLT, ↓reduceIte, reduceCtorEq, List.reduceReplicate, List.flatten_cons, List.flatten_nil, List.append_nil, eq_self, Int.reduceLE, Int.reduceLT, Int.reduceToNat, Nat.min_eq_left, Int.reducePow, Int.reduceNeg, Int.reduceEq, l2.cellsA]
  refine callV_of (rshort_spec (oneL l2) (by omega) (by omega) (fun p hp => ?_) (by simp [recF_len]; omega)) ?_
  · obtain rfl : p = recF d e X := by simpa using hp
    exact recF_isB hB
  have g1 := (f1.pre p2).app [.row (.grow 1) [v2]]
  have p3 := (p0.trans p2).app' [.row (.grow 1) [v2]]
  have hlt : (ik .u8 (shortF 82 [recF d e X])).length = 16 := by rw [List.length_map, shortF_len]
  have hw := g1.over (vs := ik .u8 (shortF 82 [recF d e X])) (by rw [hlt, List.length_map, irep_len])
  have rr := (g1.set (ik .u8 (shortF 82 [recF d e X]))).whole hlt
  have ag2 : aggOf true (ik .u8 (shortF 82 [recF d e X])) = some (.agg ⟨ik .u8 (shortF 82 [recF d e X])⟩) := rfl
  have ca2 : cellsA (.agg ⟨ik .u8 (shortF 82 [recF d e X])⟩) = some (ik .u8 (shortF 82 [recF d e X])) := rfl
  generalize (h2 ++ [AObj.row (.grow 1) [v2]]) = h3 at g1 p3 hw rr ⊢
  simp (dsimp := false) only [go_sem, Nat.reduceAdd, Nat.reduceEqDiff, Nat.reduceMul, Nat.reduceLeDiff, Nat.reduceSub, Nat.reduceLT, ↓reduceIte, reduceCtorEq, List.reduceReplicate, List.flatten_cons, List.flatten_nil, List.append_nil, eq_self, Int.reduceLE, Int.reduceLT, Int.reduceToNat, Nat.min_eq_left, Int.reducePow, Int.reduceNeg, Int.reduceEq, ca2, hw, rr, ag2]
  exact ⟨hlt, ik_one _ _, p3.put (by omega) _⟩
end Go.Proofs.YtbomppdiiaodbaaRRR.B
