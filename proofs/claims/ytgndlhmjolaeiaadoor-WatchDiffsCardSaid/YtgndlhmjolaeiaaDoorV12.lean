/-
  Layer 34: P34.2 as the law says it.
-/
import Derived.Test.YtgndlhmjolaeiaaDoorV11
namespace Go.Proofs.YtgndlhmjolaeiaaDoor.B
open Go
set_option linter.unusedVariables false
set_option linter.unusedSimpArgs false
theorem Ac.at {h0 h : AHeap} {u : Value} {l : List EvR} (k : Ac h0 h u l) {h2 : AHeap} (p : Pre h h2) {i : Nat} (hi : i < l.length) :
    rds h2 (sb u) (so u + i * 10) 10 = some l[i].c ∧ (∀ {h2 : AHeap} {K : Value → AHeap → Prop} {w : Hold K}, ixsV 10 u (.int .i64 (i : Int)) h2 K w = mvV (.pointer (some ⟨sb u, so u + i * 10, none⟩)) h2 K w) := by
  have L : Ls h 10 (fun c x => c = EvR.c x) u l := k.sl.ls (fun _ => rfl) rfl
  obtain ⟨c, _, t0, r0, _⟩ := L.rd2 p hi
  subst t0
  exact ⟨r0, L.ixsN hi⟩
theorem Ac.lenV {h0 h : AHeap} {u : Value} {l : List EvR} (k : Ac h0 h u l) {h2 : AHeap} {K : Value → AHeap → Prop} {w : Hold K} : lenV false u h2 K w = mvV (.int .i64 l.length) h2 K w := k.sl.lenV
theorem eqs_self (x : EvR) : eqCells [0, 0, 0, 0, 0, 0, 0, 0, 0, 0] x.c x.c = some true := by
  simp [EvR.c, eqCells_cons, eqCells_nil, keyEqI]
theorem hopQ_self (x : HopR) : hopQ x x = true := by simp [hopQ]
theorem hopsS_self (id : Int) (l : List HopR) : ∀ n, hopsS id l l n = []
  | 0 => rfl
  | n + 1 => by
    rw [hopsS_succ, hopsS_self id l n]
    cases findH l (n : Int) with
    | none => rfl
    | some x => simp [hopE, hopQ_self]
theorem bitsS_self (id : Int) (x : Nat) : ∀ n, bitsS id x x n = []
  | 0 => rfl
  | n + 1 => by
    rw [bitsS_succ, bitsS_self id x n]
    simp [bitE]
theorem turnS_self (id : Int) (a : NodeR) : turnS id a a = [] := by
  have h1 : endB a a = false := by unfold endB; cases a.up <;> simp
  have h2 : nowN a a = a := by unfold nowN; rw [h1]; rfl
  have h3 : ownQ a a = true := by simp [ownQ]
  unfold turnS
  rw [h2, bitsS_self, hopsS_self]
  unfold l1S l2S l3S
  rw [h1, h3]
  cases a.up <;> rfl
theorem diffS_self (xs : List NodeR) : ∀ n, diffS xs xs n = []
  | 0 => rfl
  | n + 1 => by rw [diffS_succ, diffS_self xs n, turnS_self]; rfl
theorem Ls.nd {h h' : AHeap} {v : Value} {l : List NodeR} (hv : Ls h 7 (isNR h) v l) (p : Pre h h') : Ls h' 7 (isNR h') v l := (hv.pre p).mono fun c x ⟨tv, e, k⟩ => ⟨tv, e, k.pre p⟩
theorem watchDiffs_spec {h : AHeap} (k : WatchV h) {va vb : Value} {xs ys : List NodeR} (ha : Ls h 7 (isNR h) va xs) (hb : Ls h 7 (isNR h) vb ys) (oka : ∀ x ∈ xs, x.ok ∧ FitsR x.hops) (okb : ∀ x ∈ ys, x.ok ∧ FitsR x.hops) (ta tb : Int) :
    SpecX Tryd.prog nG fn.law34_WatchDiffs [.agg #[.int .i64 ta, va], .agg #[.int .i64 tb, vb]] h fun v' _ => v' = .bool true := by
  refine SpecX.of_body (ir.law34_WatchDiffs.spec (Nat.le_of_ble_eq_true rfl)) ?_
  simp (dsimp := false) only [↓ir.law34_WatchDiffs.bw, ir.law34_WatchDiffs.rs, ↓ir.law34_WatchDiffs.r0.w, ↓ir.law34_WatchDiffs.r1.w, ↓ir.law34_WatchDiffs.r2.w, ↓ir.law34_WatchDiffs.r3.w, ↓ir.law34_WatchDiffs.r4.w, ↓ir.law34_WatchDiffs.r5.w, ↓ir.law34_WatchDiffs.r6.w, ↓ir.law34_WatchDiffs.r7.w, ↓ir.law34_WatchDiffs.r8.w, ↓ir.law34_WatchDiffs.r9.w, ↓ir.law34_WatchDiffs.r10.w, ↓ir.law34_WatchDiffs.r11.w, ↓ir.law34_WatchDiffs.l1.w, ↓ir.law34_WatchDiffs.r12.w, ir.law34_WatchDiffs.rs, go_sem, Nat.reduceAdd, Nat.reduceEqDiff, Nat.reduceMul, Nat.reduceLeDiff, Nat.reduceSub, Nat.reduceLT, ↓reduceIte, reduceCtorEq, List.reduceReplicate, List.flatten_cons, List.flatten_nil, List.append_nil, eq_self, Int.reduceLE, Int.reduceLT, Int.reduceToNat, Nat.min_eq_left, Int.reducePow, Int.reduceNeg, Int.reduceEq, ha.cellsA, hb.cellsA]
  obtain ⟨h1, eh1⟩ : ∃ h1, h ++ [AObj.row Mode.fix [.int .i64 ta, va], AObj.row Mode.fix [.int .i64 tb, vb]] = h1 := ⟨_, rfl⟩
  have hp1 : Pre h h1 := eh1 ▸ .app _ _
  have f2 : Fx h1 h.length [.int .i64 ta, va] := eh1 ▸ Fx.here _ _ _
  have f3 : Fx h1 (h.length + 1) [.int .i64 tb, vb] := by rw [← eh1]; simp [Fx]
  rw [eh1]
  clear eh1
  have R2 : ∀ {h2}, Pre h1 h2 → rds h2 h.length 0 2 = some [.int .i64 ta, va] := fun p => (f2.pre p).rd rfl (by simp)
  have R3 : ∀ {h2}, Pre h1 h2 → rds h2 (h.length + 1) 0 2 = some [.int .i64 tb, vb] := fun p => (f3.pre p).rd rfl (by simp)
  obtain ⟨b1, s1, q1⟩ := light_some (ha.nd hp1) ta
  obtain ⟨b2, s2, q2⟩ := light_some (hb.nd hp1) tb
  have k1 := k.pre hp1
  refine callV_of s1 ?_
  cases b1
  · simp (dsimp := false) only [↓ir.law34_WatchDiffs.r0.w, ↓ir.law34_WatchDiffs.r1.w, ↓ir.law34_WatchDiffs.r2.w, ↓ir.law34_WatchDiffs.r3.w, ↓ir.law34_WatchDiffs.r4.w, ↓ir.law34_WatchDiffs.r5.w, ↓ir.law34_WatchDiffs.r6.w, ↓ir.law34_WatchDiffs.r7.w, ↓ir.law34_WatchDiffs.r8.w, ↓ir.law34_WatchDiffs.r9.w, ↓ir.law34_WatchDiffs.r10.w, ↓ir.law34_WatchDiffs.r11.w, ↓ir.law34_WatchDiffs.l1.w, ↓ir.law34_WatchDiffs.r12.w, ir.law34_WatchDiffs.rs, go_sem, Nat.reduceAdd, Nat.reduceEqDiff, Nat.reduceMul, Nat.reduceLeDiff, Nat.reduceSub, Nat.reduceLT, ↓reduceIte, reduceCtorEq, List.reduceReplicate, List.flatten_cons, List.flatten_nil, List.append_nil, eq_self, Int.reduceLE, Int.reduceLT, Int.reduceToNat, Nat.min_eq_left, Int.reducePow, Int.reduceNeg, Int.reduceEq, Bool.not_false]
    refine callV_of (awake_spec k1) ?_
    simp (dsimp := false) only [↓ir.law34_WatchDiffs.r0.w, ↓ir.law34_WatchDiffs.r1.w, ↓ir.law34_WatchDiffs.r2.w, ↓ir.law34_WatchDiffs.r3.w, ↓ir.law34_WatchDiffs.r4.w, ↓ir.law34_WatchDiffs.r5.w, ↓ir.law34_WatchDiffs.r6.w, ↓ir.law34_WatchDiffs.r7.w, ↓ir.law34_WatchDiffs.r8.w, ↓ir.law34_WatchDiffs.r9.w, ↓ir.law34_WatchDiffs.r10.w, ↓ir.law34_WatchDiffs.r11.w, ↓ir.law34_WatchDiffs.l1.w, ↓ir.law34_WatchDiffs.r12.w, ir.law34_WatchDiffs.rs, go_sem, Nat.reduceAdd, Nat.reduceEqDiff, Nat.reduceMul, Nat.reduceLeDiff, Nat.reduceSub, Nat.reduceLT, ↓reduceIte, reduceCtorEq, List.reduceReplicate, List.flatten_cons, List.flatten_nil, List.append_nil, eq_self, Int.reduceLE, Int.reduceLT, Int.reduceToNat, Nat.min_eq_left, Int.reducePow, Int.reduceNeg, Int.reduceEq]
  simp (dsimp := false) only [↓ir.law34_WatchDiffs.r0.w, ↓ir.law34_WatchDiffs.r1.w, ↓ir.law34_WatchDiffs.r2.w, ↓ir.law34_WatchDiffs.r3.w, ↓ir.law34_WatchDiffs.r4.w, ↓ir.law34_WatchDiffs.r5.w, ↓ir.law34_WatchDiffs.r6.w, ↓ir.law34_WatchDiffs.r7.w, ↓ir.law34_WatchDiffs.r8.w, ↓ir.law34_WatchDiffs.r9.w, ↓ir.law34_WatchDiffs.r10.w, ↓ir.law34_WatchDiffs.r11.w, ↓ir.law34_WatchDiffs.l1.w, ↓ir.law34_WatchDiffs.r12.w, ir.law34_WatchDiffs.rs, go_sem, Nat.reduceAdd, Nat.reduceEqDiff, Nat.reduceMul, Nat.reduceLeDiff, Nat.reduceSub, Nat.reduceLT, ↓reduceIte, reduceCtorEq, List.reduceReplicate, List.flatten_cons, List.flatten_nil, List.append_nil, eq_self, Int.reduceLE, Int.reduceLT, Int.reduceToNat, Nat.min_eq_left, Int.reducePow, Int.reduceNeg, Int.reduceEq, Bool.not_true, R3 (.refl _)]
  refine callV_of s2 ?_
  cases b2
  · simp (dsimp := false) only [↓ir.law34_WatchDiffs.r0.w, ↓ir.law34_WatchDiffs.r1.w, ↓ir.law34_WatchDiffs.r2.w, ↓ir.law34_WatchDiffs.r3.w, ↓ir.law34_WatchDiffs.r4.w, ↓ir.law34_WatchDiffs.r5.w, ↓ir.law34_WatchDiffs.r6.w, ↓ir.law34_WatchDiffs.r7.w, ↓ir.law34_WatchDiffs.r8.w, ↓ir.law34_WatchDiffs.r9.w, ↓ir.law34_WatchDiffs.r10.w, ↓ir.law34_WatchDiffs.r11.w, ↓ir.law34_WatchDiffs.l1.w, ↓ir.law34_WatchDiffs.r12.w, ir.law34_WatchDiffs.rs, go_sem, Nat.reduceAdd, Nat.reduceEqDiff, Nat.reduceMul, Nat.reduceLeDiff, Nat.reduceSub, Nat.reduceLT, ↓reduceIte, reduceCtorEq, List.reduceReplicate, List.flatten_cons, List.flatten_nil, List.append_nil, eq_self, Int.reduceLE, Int.reduceLT, Int.reduceToNat, Nat.min_eq_left, Int.reducePow, Int.reduceNeg, Int.reduceEq, Bool.not_false]
    refine callV_of (awake_spec k1) ?_
    simp (dsimp := false) only [↓ir.law34_WatchDiffs.r0.w, ↓ir.law34_WatchDiffs.r1.w, ↓ir.law34_WatchDiffs.r2.w, ↓ir.law34_WatchDiffs.r3.w, ↓ir.law34_WatchDiffs.r4.w, ↓ir.law34_WatchDiffs.r5.w, ↓ir.law34_WatchDiffs.r6.w, ↓ir.law34_WatchDiffs.r7.w, ↓ir.law34_WatchDiffs.r8.w, ↓ir.law34_WatchDiffs.r9.w, ↓ir.law34_WatchDiffs.r10.w, ↓ir.law34_WatchDiffs.r11.w, ↓ir.law34_WatchDiffs.l1.w, ↓ir.law34_WatchDiffs.r12.w, ir.law34_WatchDiffs.rs, go_sem, Nat.reduceAdd, Nat.reduceEqDiff, Nat.reduceMul, Nat.reduceLeDiff, Nat.reduceSub, Nat.reduceLT, ↓reduceIte, reduceCtorEq, List.reduceReplicate, List.flatten_cons, List.flatten_nil, List.append_nil, eq_self, Int.reduceLE, Int.reduceLT, Int.reduceToNat, Nat.min_eq_left, Int.reducePow, Int.reduceNeg, Int.reduceEq]
  have la := q1 rfl
  have lb := q2 rfl
  simp (dsimp := false) only [↓ir.law34_WatchDiffs.r0.w, ↓ir.law34_WatchDiffs.r1.w, ↓ir.law34_WatchDiffs.r2.w, ↓ir.law34_WatchDiffs.r3.w, ↓ir.law34_WatchDiffs.r4.w, ↓ir.law34_WatchDiffs.r5.w, ↓ir.law34_WatchDiffs.r6.w, ↓ir.law34_WatchDiffs.r7.w, ↓ir.law34_WatchDiffs.r8.w, ↓ir.law34_WatchDiffs.r9.w, ↓ir.law34_WatchDiffs.r10.w, ↓ir.law34_WatchDiffs.r11.w, ↓ir.law34_WatchDiffs.l1.w, ↓ir.law34_WatchDiffs.r12.w, ir.law34_WatchDiffs.rs, go_sem, Nat.reduceAdd, Nat.reduceEqDiff, Nat.reduceMul, Nat.reduceLeDiff, Nat.reduceSub, Nat.reduceLT, ↓reduceIte, reduceCtorEq, List.reduceReplicate, List.flatten_cons, List.flatten_nil, List.append_nil, eq_self, Int.reduceLE, Int.reduceLT, Int.reduceToNat, Nat.min_eq_left, Int.reducePow, Int.reduceNeg, Int.reduceEq, Bool.not_true, R2 (.refl _)]
  refine callV_x (to34_spec (ha.nd hp1) la (fun x hx => (oka x hx).2) ta) ?_
  rintro _ h2 ⟨hp2, u1, rfl, L1⟩
  simp (dsimp := false) only [↓ir.law34_WatchDiffs.r0.w, ↓ir.law34_WatchDiffs.r1.w, ↓ir.law34_WatchDiffs.r2.w, ↓ir.law34_WatchDiffs.r3.w, ↓ir.law34_WatchDiffs.r4.w, ↓ir.law34_WatchDiffs.r5.w, ↓ir.law34_WatchDiffs.r6.w, ↓ir.law34_WatchDiffs.r7.w, ↓ir.law34_WatchDiffs.r8.w, ↓ir.law34_WatchDiffs.r9.w, ↓ir.law34_WatchDiffs.r10.w, ↓ir.law34_WatchDiffs.r11.w, ↓ir.law34_WatchDiffs.l1.w, ↓ir.law34_WatchDiffs.r12.w, ir.law34_WatchDiffs.rs, go_sem, Nat.reduceAdd, Nat.reduceEqDiff, Nat.reduceMul, Nat.reduceLeDiff, Nat.reduceSub, Nat.reduceLT, ↓reduceIte, reduceCtorEq, List.reduceReplicate, List.flatten_cons, List.flatten_nil, List.append_nil, eq_self, Int.reduceLE, Int.reduceLT, Int.reduceToNat, Nat.min_eq_left, Int.reducePow, Int.reduceNeg, Int.reduceEq, R3 hp2]
  refine ⟨hp2, ?_⟩
  refine callV_x (to34_spec (hb.nd (hp1.trans hp2)) lb (fun x hx => (okb x hx).2) tb) ?_
  rintro _ h3 ⟨hp3, u2, rfl, L2⟩
  simp (dsimp := false) only [↓ir.law34_WatchDiffs.r0.w, ↓ir.law34_WatchDiffs.r1.w, ↓ir.law34_WatchDiffs.r2.w, ↓ir.law34_WatchDiffs.r3.w, ↓ir.law34_WatchDiffs.r4.w, ↓ir.law34_WatchDiffs.r5.w, ↓ir.law34_WatchDiffs.r6.w, ↓ir.law34_WatchDiffs.r7.w, ↓ir.law34_WatchDiffs.r8.w, ↓ir.law34_WatchDiffs.r9.w, ↓ir.law34_WatchDiffs.r10.w, ↓ir.law34_WatchDiffs.r11.w, ↓ir.law34_WatchDiffs.l1.w, ↓ir.law34_WatchDiffs.r12.w, ir.law34_WatchDiffs.rs, go_sem, Nat.reduceAdd, Nat.reduceEqDiff, Nat.reduceMul, Nat.reduceLeDiff, Nat.reduceSub, Nat.reduceLT, ↓reduceIte, reduceCtorEq, List.reduceReplicate, List.flatten_cons, List.flatten_nil, List.append_nil, eq_self, Int.reduceLE, Int.reduceLT, Int.reduceToNat, Nat.min_eq_left, Int.reducePow, Int.reduceNeg, Int.reduceEq]
  refine ⟨hp3, ?_⟩
  refine callV_x (wdiff_spec (L1.nd hp3) L2 la lb (fun x hx => (oka x hx).1) (fun x hx => (okb x hx).1) ta tb) ?_
  rintro u h4 ⟨hp4, A1⟩
  have hp14 := (hp2.trans hp3).trans hp4
  simp (dsimp := false) only [↓ir.law34_WatchDiffs.r0.w, ↓ir.law34_WatchDiffs.r1.w, ↓ir.law34_WatchDiffs.r2.w, ↓ir.law34_WatchDiffs.r3.w, ↓ir.law34_WatchDiffs.r4.w, ↓ir.law34_WatchDiffs.r5.w, ↓ir.law34_WatchDiffs.r6.w, ↓ir.law34_WatchDiffs.r7.w, ↓ir.law34_WatchDiffs.r8.w, ↓ir.law34_WatchDiffs.r9.w, ↓ir.law34_WatchDiffs.r10.w, ↓ir.law34_WatchDiffs.r11.w, ↓ir.law34_WatchDiffs.l1.w, ↓ir.law34_WatchDiffs.r12.w, ir.law34_WatchDiffs.rs, go_sem, Nat.reduceAdd, Nat.reduceEqDiff, Nat.reduceMul, Nat.reduceLeDiff, Nat.reduceSub, Nat.reduceLT, ↓reduceIte, reduceCtorEq, List.reduceReplicate, List.flatten_cons, List.flatten_nil, List.append_nil, eq_self, Int.reduceLE, Int.reduceLT, Int.reduceToNat, Nat.min_eq_left, Int.reducePow, Int.reduceNeg, Int.reduceEq, R2 hp14, R3 hp14]
  refine ⟨hp4, ?_⟩
  refine callV_x (rdiff_spec (ha.nd (hp1.trans hp14)) (hb.nd (hp1.trans hp14)) la lb (fun x hx => (oka x hx).1) (fun x hx => (okb x hx).1) ta tb) ?_
  rintro w h5 ⟨hp5, A2⟩
  obtain ⟨D, hD⟩ : ∃ D, diffS xs ys (max xs.length ys.length) = D := ⟨_, rfl⟩
  rw [hD] at A1 A2
  have hDl : D.length ≤ 300 := by have := diffS_len xs ys (max xs.length ys.length); rw [hD] at this; omega
  have hp15 := hp14.trans hp5
  simp (dsimp := false) only [↓ir.law34_WatchDiffs.r0.w, ↓ir.law34_WatchDiffs.r1.w, ↓ir.law34_WatchDiffs.r2.w, ↓ir.law34_WatchDiffs.r3.w, ↓ir.law34_WatchDiffs.r4.w, ↓ir.law34_WatchDiffs.r5.w, ↓ir.law34_WatchDiffs.r6.w, ↓ir.law34_WatchDiffs.r7.w, ↓ir.law34_WatchDiffs.r8.w, ↓ir.law34_WatchDiffs.r9.w, ↓ir.law34_WatchDiffs.r10.w, ↓ir.law34_WatchDiffs.r11.w, ↓ir.law34_WatchDiffs.l1.w, ↓ir.law34_WatchDiffs.r12.w, ir.law34_WatchDiffs.rs, go_sem, Nat.reduceAdd, Nat.reduceEqDiff, Nat.reduceMul, Nat.reduceLeDiff, Nat.reduceSub, Nat.reduceLT, ↓reduceIte, reduceCtorEq, List.reduceReplicate, List.flatten_cons, List.flatten_nil, List.append_nil, eq_self, Int.reduceLE, Int.reduceLT, Int.reduceToNat, Nat.min_eq_left, Int.reducePow, Int.reduceNeg, Int.reduceEq, A1.lenV, A2.lenV, bne_self_eq_false]
  refine ⟨hp5, ?_⟩
  refine loopV_of (fun m e h2 => ∃ (i : Nat), m = D.length - i ∧ i ≤ D.length ∧ h2 = h5 ∧ e = [(2, .pointer (some ⟨h.length, 0, none⟩)), (5, u), (6, w), (31, .int .i64 D.length), (32, .int .i64 i)]) _ ⟨0, rfl, Nat.zero_le _, rfl, rfl⟩ ?_
  rintro m e h' ⟨i, rfl, hi, rfl, rfl⟩
  rcases Nat.lt_or_ge i D.length with hlt | hge
  · have wr := wrap_succ hlt (by unfold maxI; omega)
    obtain ⟨r1, x1⟩ := A1.at hp5 hlt
    obtain ⟨r2, x2⟩ := A2.at (.refl _) hlt
    simp (dsimp := false) only [↓ir.law34_WatchDiffs.l1.bw, ↓ir.law34_WatchDiffs.r0.w, ↓ir.law34_WatchDiffs.r1.w, ↓ir.law34_WatchDiffs.r2.w, ↓ir.law34_WatchDiffs.r3.w, ↓ir.law34_WatchDiffs.r4.w, ↓ir.law34_WatchDiffs.r5.w, ↓ir.law34_WatchDiffs.r6.w, ↓ir.law34_WatchDiffs.r7.w, ↓ir.law34_WatchDiffs.r8.w, ↓ir.law34_WatchDiffs.r9.w, ↓ir.law34_WatchDiffs.r10.w, ↓ir.law34_WatchDiffs.r11.w, ↓ir.law34_WatchDiffs.l1.w, ↓ir.law34_WatchDiffs.r12.w, ir.law34_WatchDiffs.rs, go_sem, Nat.reduceAdd, Nat.reduceEqDiff, Nat.reduceMul, Nat.reduceLeDiff, Nat.reduceSub, Nat.reduceLT, ↓reduceIte, reduceCtorEq, List.reduceReplicate, List.flatten_cons, List.flatten_nil, List.append_nil, eq_self, Int.reduceLE, Int.reduceLT, Int.reduceToNat, Nat.min_eq_left, Int.reducePow, Int.reduceNeg, Int.reduceEq, Int.ofNat_lt, hlt, decide_true, x1, x2, r1, r2]
    refine callV_of (event_spec _ D[i]) ?_
    have ee := eqs_self D[i]
    simp (dsimp := false) only [↓ir.law34_WatchDiffs.r0.w, ↓ir.law34_WatchDiffs.r1.w, ↓ir.law34_WatchDiffs.r2.w, ↓ir.law34_WatchDiffs.r3.w, ↓ir.law34_WatchDiffs.r4.w, ↓ir.law34_WatchDiffs.r5.w, ↓ir.law34_WatchDiffs.r6.w, ↓ir.law34_WatchDiffs.r7.w, ↓ir.law34_WatchDiffs.r8.w, ↓ir.law34_WatchDiffs.r9.w, ↓ir.law34_WatchDiffs.r10.w, ↓ir.law34_WatchDiffs.r11.w, ↓ir.law34_WatchDiffs.l1.w, ↓ir.law34_WatchDiffs.r12.w, ir.law34_WatchDiffs.rs, go_sem, Nat.reduceAdd, Nat.reduceEqDiff, Nat.reduceMul, Nat.reduceLeDiff, Nat.reduceSub, Nat.reduceLT, ↓reduceIte, reduceCtorEq, List.reduceReplicate, List.flatten_cons, List.flatten_nil, List.append_nil, eq_self, Int.reduceLE, Int.reduceLT, Int.reduceToNat, Nat.min_eq_left, Int.reducePow, Int.reduceNeg, Int.reduceEq, ee, Bool.not_true, wr]
    exact ⟨D.length - (i + 1), by omega, i + 1, rfl, hlt, rfl⟩
  · simp (dsimp := false) only [↓ir.law34_WatchDiffs.l1.bw, ↓ir.law34_WatchDiffs.r0.w, ↓ir.law34_WatchDiffs.r1.w, ↓ir.law34_WatchDiffs.r2.w, ↓ir.law34_WatchDiffs.r3.w, ↓ir.law34_WatchDiffs.r4.w, ↓ir.law34_WatchDiffs.r5.w, ↓ir.law34_WatchDiffs.r6.w, ↓ir.law34_WatchDiffs.r7.w, ↓ir.law34_WatchDiffs.r8.w, ↓ir.law34_WatchDiffs.r9.w, ↓ir.law34_WatchDiffs.r10.w, ↓ir.law34_WatchDiffs.r11.w, ↓ir.law34_WatchDiffs.l1.w, ↓ir.law34_WatchDiffs.r12.w, ir.law34_WatchDiffs.rs, go_sem, Nat.reduceAdd, Nat.reduceEqDiff, Nat.reduceMul, Nat.reduceLeDiff, Nat.reduceSub, Nat.reduceLT, ↓reduceIte, reduceCtorEq, List.reduceReplicate, List.flatten_cons, List.flatten_nil, List.append_nil, eq_self, Int.reduceLE, Int.reduceLT, Int.reduceToNat, Nat.min_eq_left, Int.reducePow, Int.reduceNeg, Int.reduceEq, Int.ofNat_lt, show ¬ i < D.length by omega, decide_false]
    refine callV_of (awake_spec (k.pre (hp1.trans hp15))) ?_
    simp (dsimp := false) only [↓ir.law34_WatchDiffs.r0.w, ↓ir.law34_WatchDiffs.r1.w, ↓ir.law34_WatchDiffs.r2.w, ↓ir.law34_WatchDiffs.r3.w, ↓ir.law34_WatchDiffs.r4.w, ↓ir.law34_WatchDiffs.r5.w, ↓ir.law34_WatchDiffs.r6.w, ↓ir.law34_WatchDiffs.r7.w, ↓ir.law34_WatchDiffs.r8.w, ↓ir.law34_WatchDiffs.r9.w, ↓ir.law34_WatchDiffs.r10.w, ↓ir.law34_WatchDiffs.r11.w, ↓ir.law34_WatchDiffs.l1.w, ↓ir.law34_WatchDiffs.r12.w, ir.law34_WatchDiffs.rs, go_sem, Nat.reduceAdd, Nat.reduceEqDiff, Nat.reduceMul, Nat.reduceLeDiff, Nat.reduceSub, Nat.reduceLT, ↓reduceIte, reduceCtorEq, List.reduceReplicate, List.flatten_cons, List.flatten_nil, List.append_nil, eq_self, Int.reduceLE, Int.reduceLT, Int.reduceToNat, Nat.min_eq_left, Int.reducePow, Int.reduceNeg, Int.reduceEq, R2 hp15]
    refine callV_x (to34_spec (ha.nd (hp1.trans hp15)) la (fun x hx => (oka x hx).2) ta) ?_
    rintro _ h6 ⟨hp6, u3, rfl, L3⟩
    simp (dsimp := false) only [↓ir.law34_WatchDiffs.r0.w, ↓ir.law34_WatchDiffs.r1.w, ↓ir.law34_WatchDiffs.r2.w, ↓ir.law34_WatchDiffs.r3.w, ↓ir.law34_WatchDiffs.r4.w, ↓ir.law34_WatchDiffs.r5.w, ↓ir.law34_WatchDiffs.r6.w, ↓ir.law34_WatchDiffs.r7.w, ↓ir.law34_WatchDiffs.r8.w, ↓ir.law34_WatchDiffs.r9.w, ↓ir.law34_WatchDiffs.r10.w, ↓ir.law34_WatchDiffs.r11.w, ↓ir.law34_WatchDiffs.l1.w, ↓ir.law34_WatchDiffs.r12.w, ir.law34_WatchDiffs.rs, go_sem, Nat.reduceAdd, Nat.reduceEqDiff, Nat.reduceMul, Nat.reduceLeDiff, Nat.reduceSub, Nat.reduceLT, ↓reduceIte, reduceCtorEq, List.reduceReplicate, List.flatten_cons, List.flatten_nil, List.append_nil, eq_self, Int.reduceLE, Int.reduceLT, Int.reduceToNat, Nat.min_eq_left, Int.reducePow, Int.reduceNeg, Int.reduceEq, R2 (hp15.trans hp6)]
    refine ⟨hp6, ?_⟩
    refine callV_x (to34_spec (ha.nd ((hp1.trans hp15).trans hp6)) la (fun x hx => (oka x hx).2) ta) ?_
    rintro _ h7 ⟨hp7, u4, rfl, L4⟩
    simp (dsimp := false) only [↓ir.law34_WatchDiffs.r0.w, ↓ir.law34_WatchDiffs.r1.w, ↓ir.law34_WatchDiffs.r2.w, ↓ir.law34_WatchDiffs.r3.w, ↓ir.law34_WatchDiffs.r4.w, ↓ir.law34_WatchDiffs.r5.w, ↓ir.law34_WatchDiffs.r6.w, ↓ir.law34_WatchDiffs.r7.w, ↓ir.law34_WatchDiffs.r8.w, ↓ir.law34_WatchDiffs.r9.w, ↓ir.law34_WatchDiffs.r10.w, ↓ir.law34_WatchDiffs.r11.w, ↓ir.law34_WatchDiffs.l1.w, ↓ir.law34_WatchDiffs.r12.w, ir.law34_WatchDiffs.rs, go_sem, Nat.reduceAdd, Nat.reduceEqDiff, Nat.reduceMul, Nat.reduceLeDiff, Nat.reduceSub, Nat.reduceLT, ↓reduceIte, reduceCtorEq, List.reduceReplicate, List.flatten_cons, List.flatten_nil, List.append_nil, eq_self, Int.reduceLE, Int.reduceLT, Int.reduceToNat, Nat.min_eq_left, Int.reducePow, Int.reduceNeg, Int.reduceEq]
    refine ⟨hp7, ?_⟩
    refine callV_x (wdiff_spec (L3.nd hp7) L4 la la (fun x hx => (oka x hx).1) (fun x hx => (oka x hx).1) ta ta) ?_
    rintro u5 h8 ⟨hp8, A3⟩
    rw [diffS_self] at A3
    simp (dsimp := false) only [↓ir.law34_WatchDiffs.r0.w, ↓ir.law34_WatchDiffs.r1.w, ↓ir.law34_WatchDiffs.r2.w, ↓ir.law34_WatchDiffs.r3.w, ↓ir.law34_WatchDiffs.r4.w, ↓ir.law34_WatchDiffs.r5.w, ↓ir.law34_WatchDiffs.r6.w, ↓ir.law34_WatchDiffs.r7.w, ↓ir.law34_WatchDiffs.r8.w, ↓ir.law34_WatchDiffs.r9.w, ↓ir.law34_WatchDiffs.r10.w, ↓ir.law34_WatchDiffs.r11.w, ↓ir.law34_WatchDiffs.l1.w, ↓ir.law34_WatchDiffs.r12.w, ir.law34_WatchDiffs.rs, go_sem, Nat.reduceAdd, Nat.reduceEqDiff, Nat.reduceMul, Nat.reduceLeDiff, Nat.reduceSub, Nat.reduceLT, ↓reduceIte, reduceCtorEq, List.reduceReplicate, List.flatten_cons, List.flatten_nil, List.append_nil, eq_self, Int.reduceLE, Int.reduceLT, Int.reduceToNat, Nat.min_eq_left, Int.reducePow, Int.reduceNeg, Int.reduceEq, A3.lenV]
    exact ⟨hp8, rfl⟩
end Go.Proofs.YtgndlhmjolaeiaaDoor.B
