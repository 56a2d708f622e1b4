/-
  The document's sum (layer 4), and its short sums (layer 5).
-/
import Derived.Test.YtbomppdiiaodbaaRRRSh5
namespace Go.Proofs.YtbomppdiiaodbaaRRR.B
open Go
set_option linter.unusedVariables false
set_option linter.unusedSimpArgs false
set_option maxRecDepth 100000
theorem Ls.slMid {α : Type} {h : AHeap} {sz : Nat} {R : List Value → α → Prop} {v : Value} {l : List α} (k : Ls h sz R v l) {i j : Nat} (hi : i ≤ j) (hj : j ≤ l.length) (hl : 0 < l.length) {h2 : AHeap} (p : Pre h h2) {K : Value → AHeap → Prop} {u : Hold K} :
    slV sz v (some (some (i : Int))) (some (some (j : Int))) h2 K u = K (sliceFrom sz i (sliceTo j v)) h2 := by
  obtain ⟨cs, a, b⟩ := k
  clear b
  generalize l.length = n at *
  cases a with
  | nil => omega
  | void => omega
  | row hl hr hc hb ho hx =>
    have := slOK_pre p hb ho
    simp [slV_slice, slK_some, sliceFrom, sliceTo, this]
    intro q; omega
theorem Ls.mid {α : Type} {h : AHeap} {sz : Nat} {R : List Value → α → Prop} {v : Value} {l : List α} (k : Ls h sz R v l) {i j : Nat} (hi : i ≤ j) (hj : j ≤ l.length) (hl : 0 < j) : Ls h sz R (sliceFrom sz i (sliceTo j v)) ((l.take j).drop i) :=
  (k.front hj).back (by rw [List.length_take]; omega) (by rw [List.length_take]; omega)
theorem Fx.sl {h : AHeap} {b : Nat} {k : IntKind} {L : List Int} (f : Fx h b (ik k L)) {n c : Nat} (hn : L.length = n) (hc : n ≤ c) (hm : n ≤ maxI) : Ls h 1 (isK k) (.slice (some ⟨b, 0, none⟩) n c) L := by
  subst hn
  refine ⟨ik k L, .row (by simp) (fun _ => f.rd (by rw [List.drop_zero, List.take_of_length_le (by simp)]) (by simp)) hc f.lt ?_ hm, fun i hi => by rw [Nat.mul_one, ik_rd hi]; simp [List.getD, hi]⟩
  unfold slOK; unfold Fx at f; rw [f]; trivial
def lowF (X : Int) (j : Nat) : List Int := irep (8 - j) 0 ++ (beF 8 X).drop (8 - j)
theorem lowF_len (X : Int) {j : Nat} (h : j ≤ 8) : (lowF X j).length = 8 := by simp only [lowF, irep, List.length_append, List.length_replicate, List.length_drop, beF_len]; omega
theorem be8 (x : Int) : beF 8 x = [x / 256 ^ 7 % 256, x / 256 ^ 6 % 256, x / 256 ^ 5 % 256, x / 256 ^ 4 % 256, x / 256 ^ 3 % 256, x / 256 ^ 2 % 256, x / 256 ^ 1 % 256, x / 256 ^ 0 % 256] := rfl
theorem lowF_set (X : Int) {j : Nat} (h : j < 8) : (lowF X j).set (7 - j) (X / 256 ^ j % 256) = lowF X (j + 1) := by
  rcases (show j = 0 ∨ j = 1 ∨ j = 2 ∨ j = 3 ∨ j = 4 ∨ j = 5 ∨ j = 6 ∨ j = 7 by omega) with rfl | rfl | rfl | rfl | rfl | rfl | rfl | rfl <;> rfl
theorem lowF_full (X : Int) : lowF X 8 = beF 8 X := by simp [lowF, irep]
theorem pad_spec {h : AHeap} {v : Value} {m : List Int} (hv : Ls h 1 by8 v m) (hm : m.length ≤ 70368744177664) :
    SpecX Try.prog nG fn.ref04_Pad [v] h fun v' h' => Pre h h' ∧ Ls h' 1 by8 v' (m ++ tailF m.length) := by
  refine SpecX.of_body (ir.ref04_Pad.spec (Nat.le_of_ble_eq_true rfl)) ?_
  have src := hv.src (.app h [.row (.grow 1) []])
  simp (dsimp := false) only [↓ir.ref04_Pad.bw, ir.ref04_Pad.rs, go_sem, Nat.reduceAdd, Nat.reduceEqDiff, Nat.reduceMul, Nat.reduceLeDiff, Nat.reduceSub, Nat.reduceLT, ↓reduceIte, reduceCtorEq, List.reduceReplicate, List.flatten_cons, List.flatten_nil, List.append_nil, eq_self, Int.reduceLE, Int.reduceLT, Int.reduceToNat, Nat.min_eq_left, Int.reducePow, Int.reduceNeg, Int.reduceEq, src]
  obtain ⟨N, hN⟩ : ∃ N, m.length = N := ⟨_, rfl⟩
  rw [hN]
  have oe := Ow.empty (h0 := h) (h := h) (sz := 1) (Nat.le_refl _)
  refine oe.app (by simp [hN]) (ik_one _ _) ⟨by omega, by omega⟩ (fun v2 h2 o2 hc _ _ => ?_) (.app _ _)
  simp only [Nat.zero_add, List.nil_append] at o2
  have p0 := hc.pre (.app _ _)
  clear hc oe src
  simp (dsimp := false) only [go_sem, Nat.reduceAdd, Nat.reduceEqDiff, Nat.reduceMul, Nat.reduceLeDiff, Nat.reduceSub, Nat.reduceLT, ↓reduceIte, reduceCtorEq, List.reduceReplicate, List.flatten_cons, List.flatten_nil, List.append_nil, eq_self, Int.reduceLE, Int.reduceLT, Int.reduceToNat, Nat.min_eq_left, Int.reducePow, Int.reduceNeg, Int.reduceEq]
  refine (o2.pre (.app h2 [.row (.grow 1) [.int .u8 128]])).app (m := 1) rfl rfl ⟨by omega, by omega⟩ (fun v3 h3 o3 hc _ _ => ?_) (p0.app' _)
  have p0 := hc.pre (p0.app' _)
  clear hc o2
  have ev : ik .u8 m ++ [.int .u8 128] = ik .u8 (m ++ 128 :: List.replicate 0 0) := by simp
  rw [ev] at o3
  simp (dsimp := false) only [go_sem, Nat.reduceAdd, Nat.reduceEqDiff, Nat.reduceMul, Nat.reduceLeDiff, Nat.reduceSub, Nat.reduceLT, ↓reduceIte, reduceCtorEq, List.reduceReplicate, List.flatten_cons, List.flatten_nil, List.append_nil, eq_self, Int.reduceLE, Int.reduceLT, Int.reduceToNat, Nat.min_eq_left, Int.reducePow, Int.reduceNeg, Int.reduceEq]
  refine loopV_of (fun m' e h4 => ∃ (k : Nat) (v1 : Value), m' = zpad N - k ∧ k ≤ zpad N ∧ Pre h h4 ∧ Ow h h4 1 v1 (N + 1 + k) (ik .u8 (m ++ 128 :: List.replicate k 0)) ∧
    e = [(0, v), (3, v1)]) _ ⟨0, v3, rfl, Nat.zero_le _, p0, o3, rfl⟩ ?_
  clear o3 p0 ev
  rintro m' e h1 ⟨k, v1, rfl, hk, p0, o1, rfl⟩
  have lv : ∀ {h2 : AHeap} {K : Value → AHeap → Prop} {u : Hold K}, lenV false v1 h2 K u = mvV (.int .i64 ((N + 1 + k : Nat) : Int)) h2 K u := o1.sl.lenV
  have tm : ((N + 1 + k : Nat) : Int).tmod 64 = (((N + 1 + k) % 64 : Nat) : Int) := tmod_nat _ 64
  have hz := zpad_at (n := N) (k := k) hk
  have hzp : zpad N < 64 := by unfold zpad; omega
  by_cases hlt : k = zpad N
  case neg =>
    have d0 : ((((N + 1 + k) % 64 : Nat) : Int) != 56) = true := by
      have := fun q => hlt (hz.1 q)
      simp only [bne_iff_ne, ne_eq]; omega
    simp (dsimp := false) only [↓ir.ref04_Pad.l1.bw, go_sem, Nat.reduceAdd, Nat.reduceEqDiff, Nat.reduceMul, Nat.reduceLeDiff, Nat.reduceSub, Nat.reduceLT, ↓reduceIte, reduceCtorEq, List.reduceReplicate, List.flatten_cons, List.flatten_nil, List.append_nil, eq_self, Int.reduceLE, Int.reduceLT, Int.reduceToNat, Nat.min_eq_left, Int.reducePow, Int.reduceNeg, Int.reduceEq, lv, tm, d0]
    refine ⟨by omega, ?_⟩
    refine (o1.pre (.app h1 [.row (.grow 1) [.int .u8 0]])).app (m := 1) rfl rfl (show room (N + 1 + k + 1) 1 from ⟨by omega, by omega⟩) (fun v3 h3 o3 hc _ _ => ?_) (p0.app' _)
    have p0 := hc.pre (p0.app' _)
    have ev : ik .u8 (m ++ 128 :: List.replicate k 0) ++ [.int .u8 0] = ik .u8 (m ++ 128 :: List.replicate (k + 1) 0) := by
      rw [List.replicate_succ']; simp
    rw [ev] at o3
    simp (dsimp := false) only [go_sem, Nat.reduceAdd, Nat.reduceEqDiff, Nat.reduceMul, Nat.reduceLeDiff, Nat.reduceSub, Nat.reduceLT, ↓reduceIte, reduceCtorEq, List.reduceReplicate, List.flatten_cons, List.flatten_nil, List.append_nil, eq_self, Int.reduceLE, Int.reduceLT, Int.reduceToNat, Nat.min_eq_left, Int.reducePow, Int.reduceNeg, Int.reduceEq]
    exact ⟨zpad N - (k + 1), by omega, k + 1, v3, rfl, by omega, p0, o3, rfl⟩
  have d0 : ((((N + 1 + k) % 64 : Nat) : Int) != 56) = false := by
    have := hz.2 hlt
    simp only [bne_eq_false_iff_eq]; omega
  simp (dsimp := false) only [↓ir.ref04_Pad.l1.bw, go_sem, Nat.reduceAdd, Nat.reduceEqDiff, Nat.reduceMul, Nat.reduceLeDiff, Nat.reduceSub, Nat.reduceLT, ↓reduceIte, reduceCtorEq, List.reduceReplicate, List.flatten_cons, List.flatten_nil, List.append_nil, eq_self, Int.reduceLE, Int.reduceLT, Int.reduceToNat, Nat.min_eq_left, Int.reducePow, Int.reduceNeg, Int.reduceEq, lv, tm, d0, hv.lenV]
  subst hlt
  clear lv tm d0 hz hk
  obtain ⟨X, hX⟩ : ∃ X : Int, (N : Int) * 8 % 18446744073709551616 = X := ⟨_, rfl⟩
  have xw : IntKind.u64.wrap (IntKind.u64.wrap (m.length : Int) * 8) = X := by rw [IntKind.wrap_u64, IntKind.wrap_u64, ← hX, hN]; omega
  have hX0 : 0 ≤ X := by omega
  have hX1 : X < 18446744073709551616 := by omega
  rw [xw]
  refine ⟨by omega, ?_⟩
  have o1 := o1.pre (.app h1 [.row .fix [.int .u8 0, .int .u8 0, .int .u8 0, .int .u8 0, .int .u8 0, .int .u8 0, .int .u8 0, .int .u8 0]])
  have f1 : Fx (h1 ++ [.row .fix [.int .u8 0, .int .u8 0, .int .u8 0, .int .u8 0, .int .u8 0, .int .u8 0, .int .u8 0, .int .u8 0]]) h1.length (ik .u8 (lowF X 0)) := Fx.here _ _ _
  have hL : h.length ≤ h1.length := p0.len
  have p0 := p0.app' [.row .fix [.int .u8 0, .int .u8 0, .int .u8 0, .int .u8 0, .int .u8 0, .int .u8 0, .int .u8 0, .int .u8 0]]
  generalize (h1 ++ [AObj.row .fix [.int .u8 0, .int .u8 0, .int .u8 0, .int .u8 0, .int .u8 0, .int .u8 0, .int .u8 0, .int .u8 0]]) = h2 at o1 f1 p0 ⊢
  obtain ⟨lB, hlB⟩ : ∃ n, h1.length = n := ⟨_, rfl⟩
  rw [hlB] at f1 hL ⊢
  obtain ⟨Q, hQ⟩ : ∃ Q, m ++ 128 :: List.replicate (zpad N) 0 = Q := ⟨_, rfl⟩
  have hQl : Q.length = N + 1 + zpad N := by rw [← hQ]; simp [hN]; omega
  rw [← hQl, hQ] at o1
  refine loopV_of (fun m' e h4 => ∃ j : Nat, m' = 8 - j ∧ j ≤ 8 ∧ Pre h h4 ∧ Fx h4 lB (ik .u8 (lowF X j)) ∧ Ow h h4 1 v1 Q.length (ik .u8 Q) ∧
    e = [(3, v1), (4, .int .u64 (X / 256 ^ j)), (5, .pointer (some ⟨lB, 0, none⟩)), (6, .int .i64 (7 - (j : Int)))]) _ ⟨0, rfl, Nat.zero_le _, p0, f1, o1, by simp⟩ ?_
  clear o1 f1 p0
  rintro m' e h3 ⟨j, rfl, hj, p0, f1, o1, rfl⟩
  rcases Nat.lt_or_ge j 8 with hlt | hge
  case inl =>
    have d0 : decide ((7 - (j : Int)) ≥ 0) = true := decide_eq_true (by omega)
    have d1 : decide (0 ≤ (7 - (j : Int))) = true := d0
    have hpos : (0 : Int) < 256 ^ j := Int.pow_pos (by omega)
    have hx0 : 0 ≤ X / 256 ^ j := Int.ediv_nonneg hX0 (Int.le_of_lt hpos)
    have hx1 : X / 256 ^ j ≤ X := Int.ediv_le_self _ hX0
    have b0 : IntKind.u8.wrap ((X / 256 ^ j).tmod 256) = X / 256 ^ j % 256 := by rw [Int.tmod_eq_emod_of_nonneg hx0, IntKind.wrap_u8]; omega
    have b1 : IntKind.u64.wrap ((X / 256 ^ j).tdiv 256) = X / 256 ^ (j + 1) := by
      rw [Int.tdiv_eq_ediv_of_nonneg hx0, IntKind.wrap_u64, Int.pow_succ, ← Int.ediv_ediv_of_nonneg (Int.le_of_lt hpos)]
      omega
    have jw : IntKind.i64.wrap (7 - (j : Int) - 1) = 7 - ((j + 1 : Nat) : Int) := by rw [wrap_i64 (by omega)]; omega
    have jn : (7 - (j : Int)).toNat = 7 - j := by omega
    have hw := f1.kwr (i := 7 - j) (by rw [lowF_len X hj]; omega) (X / 256 ^ j % 256)
    rw [lowF_set X hlt] at hw
    simp (dsimp := false) only [↓ir.ref04_Pad.l2.bw, go_sem, Nat.reduceAdd, Nat.reduceEqDiff, Nat.reduceMul, Nat.reduceLeDiff, Nat.reduceSub, Nat.reduceLT, ↓reduceIte, reduceCtorEq, List.reduceReplicate, List.flatten_cons, List.flatten_nil, List.append_nil, eq_self, Int.reduceLE, Int.reduceLT, Int.reduceToNat, Nat.min_eq_left, Int.reducePow, Int.reduceNeg, Int.reduceEq, d0, d1, b0, jn, Nat.mul_one, hw]
    (repeat (with_reducible refine And.intro (by omega) ?_))
    simp (dsimp := false) only [go_sem, Nat.reduceAdd, Nat.reduceEqDiff, Nat.reduceMul, Nat.reduceLeDiff, Nat.reduceSub, Nat.reduceLT, ↓reduceIte, reduceCtorEq, List.reduceReplicate, List.flatten_cons, List.flatten_nil, List.append_nil, eq_self, Int.reduceLE, Int.reduceLT, Int.reduceToNat, Nat.min_eq_left, Int.reducePow, Int.reduceNeg, Int.reduceEq, b1, jw]
    (repeat (with_reducible refine And.intro (by omega) ?_))
    exact ⟨8 - (j + 1), by omega, j + 1, rfl, hlt, p0.put hL _, f1.set _, o1.put (o1.nfix f1) _, rfl⟩
  obtain rfl : j = 8 := by omega
  have d0 : decide ((7 - ((8 : Nat) : Int)) ≥ 0) = false := rfl
  simp (dsimp := false) only [↓ir.ref04_Pad.l2.bw, go_sem, Nat.reduceAdd, Nat.reduceEqDiff, Nat.reduceMul, Nat.reduceLeDiff, Nat.reduceSub, Nat.reduceLT, ↓reduceIte, reduceCtorEq, List.reduceReplicate, List.flatten_cons, List.flatten_nil, List.append_nil, eq_self, Int.reduceLE, Int.reduceLT, Int.reduceToNat, Nat.min_eq_left, Int.reducePow, Int.reduceNeg, Int.reduceEq, d0]
  rw [lowF_full] at f1
  have src := (f1.sl (n := 8) (c := 8) (by rw [beF_len]) (Nat.le_refl _) (by decide)).src (.refl _)
  simp only [Option.getD_none, Int.toNat_zero, Nat.zero_mul, ite_self, Nat.sub_zero, Int.toNat_natCast]
  rw [src, beF_len]
  refine ⟨by omega, slaOK_at f1, ?_⟩
  refine o1.app (by rw [List.length_map, beF_len]) (ik_one _ _) (show room (Q.length + 8) 1 from ⟨by omega, by omega⟩) (fun v5 h5 o5 hc _ _ => ?_) p0
  have p0 := hc.pre p0
  simp (dsimp := false) only [go_sem, Nat.reduceAdd, Nat.reduceEqDiff, Nat.reduceMul, Nat.reduceLeDiff, Nat.reduceSub, Nat.reduceLT, ↓reduceIte, reduceCtorEq, List.reduceReplicate, List.flatten_cons, List.flatten_nil, List.append_nil, eq_self, Int.reduceLE, Int.reduceLT, Int.reduceToNat, Nat.min_eq_left, Int.reducePow, Int.reduceNeg, Int.reduceEq]
  refine ⟨p0, ?_⟩
  have e : m ++ tailF N = Q ++ beF 8 X := by
    rw [← hQ, ← hX]; unfold tailF; simp
  rw [e]
  rw [← List.map_append] at o5
  refine Ow.lsK (h0 := h) (h := h5) (k := .u8) ?_
  rw [List.length_append, beF_len]
  exact o5
end Go.Proofs.YtbomppdiiaodbaaRRR.B
