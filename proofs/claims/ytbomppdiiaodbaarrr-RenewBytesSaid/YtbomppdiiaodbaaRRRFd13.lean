/-
  'fingerpostlaw11.RenewBytes': the example; what holds along the law.
-/
import Derived.Test.YtbomppdiiaodbaaRRRFd12
import Derived.Test.YtbomppdiiaodbaaRRRAbI
namespace Go.Proofs.YtbomppdiiaodbaaRRR.B
open Go
set_option linter.unusedVariables false
set_option linter.unusedSimpArgs false
set_option maxRecDepth 100000
theorem awake11_spec {h : AHeap} : Spec Try.prog nG fn.law11_awake [] h (.bool true) h :=
  Spec.of_run (h0 := []) (m := 1000) (n := 20) tbl.law11_awake.ok rfl rfl rfl rfl (fun b o hb ho => by simp at hb) (by kernel_rfl)
theorem Ls.place {α : Type} {R : List Value → α → Prop} {h : AHeap} {sz : Nat} {v : Value} {l : List α} (k : Ls h sz R v l) : v = nilS ∨ sb v = 0 ∨ sb v < h.length := by
  obtain ⟨c, a, _⟩ := k
  generalize l.length = n at a
  cases a with
  | nil => exact .inl rfl
  | void => exact .inr (.inl rfl)
  | row hl hr hc hb ho hm => exact .inr (.inr hb)
theorem Ls.only' {α : Type} {R : List Value → α → Prop} {h h' : AHeap} {sz b : Nat} {v : Value} {l : List α} (k : Ls h sz R v l) (p : Only b h h') (hq : ∀ cs, h[b]? = some (.row .fix cs) → ∃ cs', h'[b]? = some (.row .fix cs')) (hf : ∃ cs, h[b]? = some (.row .fix cs)) (ne : l.length ≠ 0 → sb v ≠ b) : Ls h' sz R v l := by
  obtain ⟨c, a, q⟩ := k
  refine ⟨c, ?_, q⟩
  clear q
  generalize l.length = n at a ne
  cases a with
  | nil => exact .nil
  | void => exact .void
  | row hl hr hc hb ho hm =>
    rename_i b' off cap
    by_cases e' : b' = b
    · subst e'
      obtain rfl : n = 0 := by
        cases n with
        | zero => rfl
        | succ n => exact absurd rfl (ne (by omega))
      obtain ⟨cs, h1⟩ := hf
      obtain ⟨cs', h2⟩ := hq cs h1
      refine .row hl (fun hn => absurd rfl hn) hc (Nat.lt_of_lt_of_le hb p.1) ?_ hm
      unfold slOK; rw [h2]; trivial
    · have e : h'[b']? = h[b']? := p.2 b' hb e'
      refine .row hl (fun hn => ?_) hc (Nat.lt_of_lt_of_le hb p.1) (by unfold slOK at *; rw [e]; exact ho) hm
      have := hr hn
      unfold rds at *
      rw [e]; exact this
theorem InV.only {h h' : AHeap} {b c : Nat} {r : List Int} {e : Int} (H : InV h b r e) (p : Only c h h') (hc : b < c) : InV h' b r e := by
  obtain ⟨v, f, l, ne⟩ := H.is
  exact ⟨H.isb, H.no, v, f.only p (by omega), l.only p (ne.imp id fun q => by omega), ne⟩
theorem RnV.only {h h' : AHeap} {b c : Nat} {r s s2 : List Int} {e x x2 : Int} (H : RnV h b r e) (I : InV h c s x) (I' : InV h' c s2 x2) (p : Only c h h') (hc : b ≠ c) : RnV h' b r e := by
  obtain ⟨v, l, a, f, ls, ne, q⟩ := H.is
  obtain ⟨w, g, lw, _⟩ := I.is
  obtain ⟨w', g', _, _⟩ := I'.is
  refine ⟨H.isb, H.no, v, l, a, f.only p hc, ls.only' p (fun _ _ => ⟨_, g'⟩) ⟨_, g⟩ (fun hn hs => ?_), ne, q⟩
  have hr := ls.rdK0 (.refl _) (i := 0) (by omega)
  rw [hs] at hr
  have hw : ∃ a m k, w = .slice a m k := by
    obtain ⟨cs, sl, _⟩ := lw
    generalize s.length = n at sl
    cases sl <;> exact ⟨_, _, _, rfl⟩
  obtain ⟨wa, wm, wk, rfl⟩ := hw
  unfold Fx at g
  unfold rds at hr
  rw [g] at hr
  generalize so v + 0 = k at hr
  rcases (show k = 0 ∨ k = 1 ∨ 2 ≤ k by omega) with rfl | rfl | hk
  · simp at hr
  · simp at hr
  · simp only [List.length_cons, List.length_nil] at hr
    rw [if_neg (by omega)] at hr; cases hr
theorem bytesA_map (l : List Int) : bytesA (l.map (Value.int .u8)) = some l := by
  induction l with
  | nil => rfl
  | cons a l ih => simp [bytesA, ih]
theorem Ls.bts {h : AHeap} {v : Value} {l : List Int} (k : Ls h 1 by8 v l) {K : Value → AHeap → Prop} {w : Hold K} : btsV v h K w = K (.string (bytesS l)) h := by
  have hl := Ls.src k (.refl _)
  obtain ⟨cs, a, q⟩ := k
  clear q
  cases hn : l.length with
  | zero =>
    obtain rfl : l = [] := List.eq_nil_of_length_eq_zero hn
    rw [hn] at a
    cases a <;> rfl
  | succ n =>
    rw [hn] at a
    cases a with
    | row h1 hr hc hb ho hm =>
      rename_i b off cap
      have := hr (by omega)
      simp only [Nat.mul_one] at this
      simp only [appSrc, Nat.mul_one, this] at hl
      simp only [Option.map_some, Option.some.injEq, Prod.mk.injEq] at hl
      rw [hl.2] at this
      simp only [btsV, this, Option.bind_some, bytesA_map]
theorem eqInts : ∀ {cs : List Value}, (∀ v ∈ cs, ∃ k x, v = .int k x) → eqCells (List.replicate cs.length 0) cs cs = some true
  | [], _ => rfl
  | v :: cs, k => by
    obtain ⟨q, x, rfl⟩ := k v (List.mem_cons_self ..)
    have := eqInts (cs := cs) fun v hv => k v (List.mem_cons_of_mem _ hv)
    rw [List.length_cons, List.replicate_succ, eqCells_cons, keyEqI, this]
    simp
theorem ik_ints (k : IntKind) (L : List Int) : ∀ v ∈ ik k L, ∃ k x, v = .int k x := fun v hv => by
  obtain ⟨x, _, rfl⟩ := List.mem_map.1 hv
  exact ⟨k, x, rfl⟩
theorem sgC_ints (d e : Int) (B : List Int) : ∀ v ∈ sgC d e B, ∃ k x, v = .int k x := fun v hv => by
  simp only [sgC, List.mem_cons] at hv
  rcases hv with rfl | rfl | hv
  · exact ⟨_, _, rfl⟩
  · exact ⟨_, _, rfl⟩
  · exact ik_ints _ _ v hv
theorem getC_is (r : List Int) (e : Int) : ∃ D E X, getC r e = sgC D E X ∧ X.length = 1120 := by
  unfold getC
  split
  · exact ⟨_, _, _, rfl, by unfold getS; rw [sumsF_len]⟩
  · exact ⟨_, _, _, rfl, irep_len _ _⟩
end Go.Proofs.YtbomppdiiaodbaaRRR.B
/-
  'fingerpostlaw11.RenewBytes' answers true.
-/
namespace Go.Proofs.YtbomppdiiaodbaaRRR.B
open Go
set_option linter.unusedVariables false
set_option linter.unusedSimpArgs false
set_option maxRecDepth 100000
theorem eqsK {n : Nat} {cs : List Value} (hn : cs.length = n) (k : ∀ v ∈ cs, ∃ k x, v = .int k x) {h : AHeap} {K : Value → AHeap → Prop} {u : Hold K} : eqsV (List.replicate n 0) false (.agg ⟨cs⟩) (.agg ⟨cs⟩) h K u = K (.bool true) h := by
  subst hn
  rw [eqsV_eq, eqInts k]; rfl
theorem Pre.only {h h1 h2 : AHeap} {b : Nat} (p : Pre h h1) (o : Only b h1 h2) (hb : h.length ≤ b) : Pre h h2 := But.pre (b := b) p ⟨o.1, fun i hi q => by
    by_cases e : i = b
    · have := q e; omega
    · exact o.2 i hi e⟩
theorem renewBytes_spec {h : AHeap} {bv : Value} {bl B : List Int} {d e : Int} (hv : Ls h 1 by8 bv bl) (hb : IsB bl) (hbl : bl.length ≤ 140737488351232) (hB : IsB B) (hBl : B.length = 1120) (he0 : 0 ≤ e) (he1 : e < 4294967296) :
    Spec Try.prog nG fn.law11_RenewBytes [.agg ⟨sgC d e B⟩, bv] h (.bool true) h := by
  refine SpecX.sc rfl (SpecX.of_body (ir.law11_RenewBytes.spec (Nat.le_of_ble_eq_true rfl)) ?_)
  have ca : cellsA (.agg ⟨sgC d e B⟩) = some (sgC d e B) := rfl
  have hsl : (sgC d e B).length = 1122 := by rw [sgC_len, hBl]
  have ag : aggOf true (sgC d e B) = some (.agg ⟨sgC d e B⟩) := rfl
  simp (dsimp := false) only [↓ir.law11_RenewBytes.bw, ir.law11_RenewBytes.rs, go_sem, Nat.reduceAdd, Nat.reduceEqDiff, Nat.reduceMul, Nat.reduceLeDiff, Nat.reduceSub, Nat.reduceLT, ↓reduceIte, reduceCtorEq, List.reduceReplicate, List.flatten_cons, List.flatten_nil, List.append_nil, eq_self, Int.reduceLE, Int.reduceLT, Int.reduceToNat, Nat.min_eq_left, Int.reducePow, Int.reduceNeg, Int.reduceEq, ca]
  have f1 : Fx (h ++ [.row .fix (sgC d e B)]) h.length (sgC d e B) := Fx.here _ _ _
  have p1 := Pre.app h [.row .fix (sgC d e B)]
  generalize (h ++ [AObj.row .fix (sgC d e B)]) = h1 at f1 p1 ⊢
  have hlt := f1.lt
  refine callV_x lay_spec ?_
  rintro _ h2 ⟨b, rfl, p2, H⟩
  have hb1 : h1.length ≤ b := H.new
  have w2 := (f1.pre p2).whole hsl
  simp (dsimp := false) only [go_sem, Nat.reduceAdd, Nat.reduceEqDiff, Nat.reduceMul, Nat.reduceLeDiff, Nat.reduceSub, Nat.reduceLT, ↓reduceIte, reduceCtorEq, List.reduceReplicate, List.flatten_cons, List.flatten_nil, List.append_nil, eq_self, Int.reduceLE, Int.reduceLT, Int.reduceToNat, Nat.min_eq_left, Int.reducePow, Int.reduceNeg, Int.reduceEq, w2, ag]
  refine callV_of (to_spec hBl) ?_
  simp (dsimp := false) only [go_sem, Nat.reduceAdd, Nat.reduceEqDiff, Nat.reduceMul, Nat.reduceLeDiff, Nat.reduceSub, Nat.reduceLT, ↓reduceIte, reduceCtorEq, List.reduceReplicate, List.flatten_cons, List.flatten_nil, List.append_nil, eq_self, Int.reduceLE, Int.reduceLT, Int.reduceToNat, Nat.min_eq_left, Int.reducePow, Int.reduceNeg, Int.reduceEq]
  refine callV_x (rput_spec H p2 hB hBl he0 he1 (by simp)) ?_
  rintro _ h3 ⟨H3, p3⟩
  rw [List.nil_append] at H3
  simp (dsimp := false) only [go_sem, Nat.reduceAdd, Nat.reduceEqDiff, Nat.reduceMul, Nat.reduceLeDiff, Nat.reduceSub, Nat.reduceLT, ↓reduceIte, reduceCtorEq, List.reduceReplicate, List.flatten_cons, List.flatten_nil, List.append_nil, eq_self, Int.reduceLE, Int.reduceLT, Int.reduceToNat, Nat.min_eq_left, Int.reducePow, Int.reduceNeg, Int.reduceEq]
  refine callV_x (obytes_spec H3 (by rw [recF_len, hBl]; decide)) ?_
  rintro _ h4 ⟨p4, v4, rfl, l4⟩
  simp (dsimp := false) only [go_sem, Nat.reduceAdd, Nat.reduceEqDiff, Nat.reduceMul, Nat.reduceLeDiff, Nat.reduceSub, Nat.reduceLT, ↓reduceIte, reduceCtorEq, List.reduceReplicate, List.flatten_cons, List.flatten_nil, List.append_nil, eq_self, Int.reduceLE, Int.reduceLT, Int.reduceToNat, Nat.min_eq_left, Int.reducePow, Int.reduceNeg, Int.reduceEq]
  have pp4 := (p1.trans p3).trans p4
  refine callV_x (take_spec (hv.pre pp4) hb hbl) ?_
  rintro _ h5 ⟨b5, rfl, p5, hb5, I5⟩
  have pp5 := pp4.trans p5
  have cv := hv.cellsA
  simp (dsimp := false) only [go_sem, Nat.reduceAdd, Nat.reduceEqDiff, Nat.reduceMul, Nat.reduceLeDiff, Nat.reduceSub, Nat.reduceLT, ↓reduceIte, reduceCtorEq, List.reduceReplicate, List.flatten_cons, List.flatten_nil, List.append_nil, eq_self, Int.reduceLE, Int.reduceLT, Int.reduceToNat, Nat.min_eq_left, Int.reducePow, Int.reduceNeg, Int.reduceEq, cv]
  have hb5l : b5 < h5.length := by obtain ⟨_, f, _⟩ := I5.is; exact f.lt
  have hl4 : h.length < h4.length := Nat.lt_of_lt_of_le (f1.lt) (p3.trans p4).len
  have I6 := I5.pre (.app h5 [AObj.row .fix [bv, .int .i64 0, .int .i64 0]])
  have f6 : Fx (h5 ++ [AObj.row .fix [bv, .int .i64 0, .int .i64 0]]) h5.length [bv, .int .i64 0, .int .i64 0] := Fx.here _ _ _
  have pp6 := pp5.app' [AObj.row .fix [bv, .int .i64 0, .int .i64 0]]
  have x6 := ((f1.pre p3).pre (p4.trans p5)).app [AObj.row .fix [bv, .int .i64 0, .int .i64 0]]
  have m6 := (l4.pre p5).pre (.app h5 [AObj.row .fix [bv, .int .i64 0, .int .i64 0]])
  have hl6 : h5.length < (h5 ++ [AObj.row .fix [bv, .int .i64 0, .int .i64 0]]).length := by simp
  generalize (h5 ++ [AObj.row .fix [bv, .int .i64 0, .int .i64 0]]) = h6 at I6 f6 pp6 x6 m6 hl6 ⊢
  have pl := hv.place
  have ql := l4.place
  refine callV_x (get_spec I6) ?_
  rintro _ h7 ⟨rfl, I7, o7⟩
  have R7 : RnV h7 h5.length bl 0 := ⟨hb, fun q => absurd rfl q, bv, bl, 0, f6.only o7 (by omega), (hv.pre pp6).only o7 (pl.imp id fun q => by omega), pl.imp id fun q => by omega, fun _ => rfl, Nat.zero_le _, hb, hbl⟩
  have x7 := x6.only o7 (by omega)
  have m7 := m6.only o7 (ql.imp id fun q => by omega)
  have pp7 := pp6.only o7 (by omega)
  simp (dsimp := false) only [go_sem, Nat.reduceAdd, Nat.reduceEqDiff, Nat.reduceMul, Nat.reduceLeDiff, Nat.reduceSub, Nat.reduceLT, ↓reduceIte, reduceCtorEq, List.reduceReplicate, List.flatten_cons, List.flatten_nil, List.append_nil, eq_self, Int.reduceLE, Int.reduceLT, Int.reduceToNat, Nat.min_eq_left, Int.reducePow, Int.reduceNeg, Int.reduceEq]
  refine callV_x (rget_spec R7) ?_
  rintro _ h8 ⟨rfl, R8, o8⟩
  have I8 := I7.only o8 hb5l
  have x8 := x7.only o8 (by omega)
  have m8 := m7.only o8 (ql.imp id fun q => by have := p5.len; omega)
  have pp8 := pp7.only o8 (by omega)
  have hl8 : h6.length ≤ h8.length := Nat.le_trans o7.1 o8.1
  obtain ⟨D, E, X, hC, hX⟩ := getC_is bl 0
  have cz : (sgC 0 0 (irep 1120 0)).length = 1122 := by rw [sgC_len, irep_len]
  have cl : (sgC D E X).length = 1122 := by rw [sgC_len, hX]
  have cg : cellsA (.agg ⟨sgC D E X⟩) = some (sgC D E X) := rfl
  have agg : aggOf true (sgC D E X) = some (.agg ⟨sgC D E X⟩) := rfl
  rw [hC]
  have hle : ((sgC D E X).length ≤ (sgC 0 0 (irep 1120 0)).length) = True := eq_true (by rw [cz, cl]; exact Nat.le_refl _)
  have sal : setC (sgC 0 0 (irep 1120 0)) 0 (sgC D E X) = sgC D E X := setC_all (by rw [cz, cl])
  simp (dsimp := false) only [go_sem, Nat.reduceAdd, Nat.reduceEqDiff, Nat.reduceMul, Nat.reduceLeDiff, Nat.reduceSub, Nat.reduceLT, ↓reduceIte, reduceCtorEq, List.reduceReplicate, List.flatten_cons, List.flatten_nil, List.append_nil, eq_self, Int.reduceLE, Int.reduceLT, Int.reduceToNat, Nat.min_eq_left, Int.reducePow, Int.reduceNeg, Int.reduceEq, zsg, cg, hle, sal, if_true, Option.map_some]
  refine ⟨cl, sgC_one _ _ _, cl, sgC_one _ _ _, ?_⟩
  have x9 := x8.app [.row .fix (sgC D E X), .row .fix (sgC D E X)]
  have m9 := m8.pre (.app h8 [.row .fix (sgC D E X), .row .fix (sgC D E X)])
  have I9 := I8.pre (.app h8 [.row .fix (sgC D E X), .row .fix (sgC D E X)])
  have R9 := R8.pre (.app h8 [.row .fix (sgC D E X), .row .fix (sgC D E X)])
  have pp9 := pp8.app' [.row .fix (sgC D E X), .row .fix (sgC D E X)]
  have y10 : Fx (h8 ++ [.row .fix (sgC D E X), .row .fix (sgC D E X)]) h8.length (sgC D E X) := Fx.here _ _ _
  have y11 : Fx (h8 ++ [.row .fix (sgC D E X), .row .fix (sgC D E X)]) (h8.length + 1) (sgC D E X) := by simp [Fx]
  clear I5 I6 I7 I8 R7 R8 o7 o8 m6 m7 m8 x6 x7 x8 f6 pp4 pp5 pp6 pp7 pp8 p1 p2 p3 p4 p5 H H3 f1 l4 w2
  generalize (h8 ++ [AObj.row .fix (sgC D E X), AObj.row .fix (sgC D E X)]) = h9 at x9 m9 I9 R9 pp9 y10 y11 ⊢
  refine callV_of awake11_spec ⟨.refl _, ?_⟩
  have xw := x9.whole hsl
  simp (dsimp := false) only [go_sem, Nat.reduceAdd, Nat.reduceEqDiff, Nat.reduceMul, Nat.reduceLeDiff, Nat.reduceSub, Nat.reduceLT, ↓reduceIte, reduceCtorEq, List.reduceReplicate, List.flatten_cons, List.flatten_nil, List.append_nil, eq_self, Int.reduceLE, Int.reduceLT, Int.reduceToNat, Nat.min_eq_left, Int.reducePow, Int.reduceNeg, Int.reduceEq, m9.bts, xw, ag, beq_self_eq_true]
  refine callV_x (rput11_spec hB hBl he0 he1) ?_
  rintro v10 h10 ⟨p10, l10⟩
  refine ⟨p10, ?_⟩
  have y10' := (y10.pre p10).whole cl
  simp (dsimp := false) only [go_sem, Nat.reduceAdd, Nat.reduceEqDiff, Nat.reduceMul, Nat.reduceLeDiff, Nat.reduceSub, Nat.reduceLT, ↓reduceIte, reduceCtorEq, List.reduceReplicate, List.flatten_cons, List.flatten_nil, List.append_nil, eq_self, Int.reduceLE, Int.reduceLT, Int.reduceToNat, Nat.min_eq_left, Int.reducePow, Int.reduceNeg, Int.reduceEq, l10.bts, beq_self_eq_true, y10', agg]
  refine callV_of (from_spec hX) ⟨.refl _, ?_⟩
  have y11' := (y11.pre p10).whole cl
  generalize hZ : List.replicate 1122 (0 : Nat) = Z
  generalize hY : List.replicate 16 (0 : Nat) = Y
  have eqs := fun {h2 : AHeap} {K : Value → AHeap → Prop} {u : Hold K} => eqsK cl (sgC_ints D E X) (h := h2) (K := K) (u := u)
  rw [hZ] at eqs
  have y10 := y10.pre p10
  simp (dsimp := false) only [go_sem, Nat.reduceAdd, Nat.reduceEqDiff, Nat.reduceMul, Nat.reduceLeDiff, Nat.reduceSub, Nat.reduceLT, ↓reduceIte, reduceCtorEq, List.reduceReplicate, List.flatten_cons, List.flatten_nil, List.append_nil, eq_self, Int.reduceLE, Int.reduceLT, Int.reduceToNat, Nat.min_eq_left, Int.reducePow, Int.reduceNeg, Int.reduceEq, y11', agg, eqs]
  have I10 := I9.pre p10
  have R10 := R9.pre p10
  refine callV_x (end_spec I10) ?_
  rintro _ h11 ⟨rfl, o11, r', e', I11⟩
  have R11 := R10.only I10 I11 o11 (by omega)
  simp (dsimp := false) only [go_sem, Nat.reduceAdd, Nat.reduceEqDiff, Nat.reduceMul, Nat.reduceLeDiff, Nat.reduceSub, Nat.reduceLT, ↓reduceIte, reduceCtorEq, List.reduceReplicate, List.flatten_cons, List.flatten_nil, List.append_nil, eq_self, Int.reduceLE, Int.reduceLT, Int.reduceToNat, Nat.min_eq_left, Int.reducePow, Int.reduceNeg, Int.reduceEq]
  refine callV_x (rend_spec R11) ?_
  rintro _ h12 ⟨rfl, o12⟩
  have x10 := x9.pre p10
  have x11 := x10.only o11 (by omega)
  have x12 := x11.only o12 (by omega)
  have pp12 := ((pp9.trans p10).only o11 (by omega)).only o12 (by omega)
  clear R9 R10 R11 I9 I10 I11 o11 o12
  have xw := x12.whole hsl
  simp (dsimp := false) only [go_sem, Nat.reduceAdd, Nat.reduceEqDiff, Nat.reduceMul, Nat.reduceLeDiff, Nat.reduceSub, Nat.reduceLT, ↓reduceIte, reduceCtorEq, List.reduceReplicate, List.flatten_cons, List.flatten_nil, List.append_nil, eq_self, Int.reduceLE, Int.reduceLT, Int.reduceToNat, Nat.min_eq_left, Int.reducePow, Int.reduceNeg, Int.reduceEq, xw, ag, beq_self_eq_true]
  refine callV_of (to_spec hBl) ⟨.refl _, ?_⟩
  have hBx : (B.take 32).length = 32 := by rw [List.length_take]; omega
  have e34 : (sgC d e B).take 34 = sgC d e (B.take 32) := by simp [sgC]
  have ag34 : aggOf true (sgC d e (B.take 32)) = some (.agg ⟨sgC d e (B.take 32)⟩) := rfl
  have r34 := x12.rd (off := 0) (n := 34) (vs := sgC d e (B.take 32)) (by simp [sgC]) (by omega)
  simp (dsimp := false) only [go_sem, Nat.reduceAdd, Nat.reduceEqDiff, Nat.reduceMul, Nat.reduceLeDiff, Nat.reduceSub, Nat.reduceLT, ↓reduceIte, reduceCtorEq, List.reduceReplicate, List.flatten_cons, List.flatten_nil, List.append_nil, eq_self, Int.reduceLE, Int.reduceLT, Int.reduceToNat, Nat.min_eq_left, Int.reducePow, Int.reduceNeg, Int.reduceEq, e34, ag34]
  refine ⟨by simp [hsl], ?_⟩
  have hM := shortF_len 82 [recF d e (B.take 32)]
  have hMB := shortF_isB 82 [recF d e (B.take 32)]
  have hc := (dgF_D (shortF 82 [recF d e (B.take 32)])).cst
  rw [dgF_len, hM] at hc
  refine callV_of (message_spec (hB.take 32) hBx he0 he1) ⟨.refl _, ?_⟩
  simp (dsimp := false) only [go_sem, Nat.reduceAdd, Nat.reduceEqDiff, Nat.reduceMul, Nat.reduceLeDiff, Nat.reduceSub, Nat.reduceLT, ↓reduceIte, reduceCtorEq, List.reduceReplicate, List.flatten_cons, List.flatten_nil, List.append_nil, eq_self, Int.reduceLE, Int.reduceLT, Int.reduceToNat, Nat.min_eq_left, Int.reducePow, Int.reduceNeg, Int.reduceEq, r34, ag34]
  refine callV_of (rmessage_spec (hB.take 32) hBx he0 he1) ⟨.refl _, ?_⟩
  have hsM : (ik .u8 (shortF 82 [recF d e (B.take 32)])).length = 16 := by rw [List.length_map, hM]
  have eqy := fun {h2 : AHeap} {K : Value → AHeap → Prop} {u : Hold K} => eqsK hsM (ik_ints .u8 (shortF 82 [recF d e (B.take 32)])) (h := h2) (K := K) (u := u)
  rw [hY] at eqy
  simp (dsimp := false) only [go_sem, Nat.reduceAdd, Nat.reduceEqDiff, Nat.reduceMul, Nat.reduceLeDiff, Nat.reduceSub, Nat.reduceLT, ↓reduceIte, reduceCtorEq, List.reduceReplicate, List.flatten_cons, List.flatten_nil, List.append_nil, eq_self, Int.reduceLE, Int.reduceLT, Int.reduceToNat, Nat.min_eq_left, Int.reducePow, Int.reduceNeg, Int.reduceEq, eqy, xw, ag]
  refine callV_of (to_spec hBl) ⟨.refl _, ?_⟩
  simp (dsimp := false) only [go_sem, Nat.reduceAdd, Nat.reduceEqDiff, Nat.reduceMul, Nat.reduceLeDiff, Nat.reduceSub, Nat.reduceLT, ↓reduceIte, reduceCtorEq, List.reduceReplicate, List.flatten_cons, List.flatten_nil, List.append_nil, eq_self, Int.reduceLE, Int.reduceLT, Int.reduceToNat, Nat.min_eq_left, Int.reducePow, Int.reduceNeg, Int.reduceEq, e34, ag34]
  refine ⟨by simp [hsl], ?_⟩
  refine callV_of (ncost_spec (hB.take 32) hBx he0 he1) ⟨.refl _, ?_⟩
  simp (dsimp := false) only [go_sem, Nat.reduceAdd, Nat.reduceEqDiff, Nat.reduceMul, Nat.reduceLeDiff, Nat.reduceSub, Nat.reduceLT, ↓reduceIte, reduceCtorEq, List.reduceReplicate, List.flatten_cons, List.flatten_nil, List.append_nil, eq_self, Int.reduceLE, Int.reduceLT, Int.reduceToNat, Nat.min_eq_left, Int.reducePow, Int.reduceNeg, Int.reduceEq, r34, ag34]
  refine callV_of (rmessage_spec (hB.take 32) hBx he0 he1) ⟨.refl _, ?_⟩
  simp (dsimp := false) only [go_sem, Nat.reduceAdd, Nat.reduceEqDiff, Nat.reduceMul, Nat.reduceLeDiff, Nat.reduceSub, Nat.reduceLT, ↓reduceIte, reduceCtorEq, List.reduceReplicate, List.flatten_cons, List.flatten_nil, List.append_nil, eq_self, Int.reduceLE, Int.reduceLT, Int.reduceToNat, Nat.min_eq_left, Int.reducePow, Int.reduceNeg, Int.reduceEq]
  refine callV_of (rcost_spec hMB hM) ⟨.refl _, ?_⟩
  have w : IntKind.i64.wrap (1 + (18 + cst (dgF (shortF 82 [recF d e (B.take 32)])))) = 19 + cst (dgF (shortF 82 [recF d e (B.take 32)])) := by rw [wrap_i64 (by omega)]; omega
  simp (dsimp := false) only [go_sem, Nat.reduceAdd, Nat.reduceEqDiff, Nat.reduceMul, Nat.reduceLeDiff, Nat.reduceSub, Nat.reduceLT, ↓reduceIte, reduceCtorEq, List.reduceReplicate, List.flatten_cons, List.flatten_nil, List.append_nil, eq_self, Int.reduceLE, Int.reduceLT, Int.reduceToNat, Nat.min_eq_left, Int.reducePow, Int.reduceNeg, Int.reduceEq, w, beq_self_eq_true]
  exact pp12
end Go.Proofs.YtbomppdiiaodbaaRRR.B
