/-
  The document's sum (layer 4), and its short sums (layer 5): sums.
-/
import Derived.Test.YtbomppdiiaodbaaRRRSh6
namespace Go.Proofs.YtbomppdiiaodbaaRRR.B
open Go
set_option linter.unusedVariables false
set_option linter.unusedSimpArgs false
set_option maxRecDepth 100000
def inD (L : List Int) (i : Nat) (y : Int) : Nat → List Int
  | 0 => L
  | d + 1 => (inD L i y d).set (4 * i + 3 - d) (y / 256 ^ d % 256)
theorem inD_len (L : List Int) (i : Nat) (y : Int) : ∀ d, (inD L i y d).length = L.length
  | 0 => rfl
  | d + 1 => by rw [inD, List.length_set, inD_len L i y d]
theorem inD_full (T : St) {i : Nat} (h : i < 8) : inD (dF T i) i (T.l.getD i 0) 4 = dF T (i + 1) := by
  have e : ∀ y : Int, inD (dF T i) i y 4 = ((((dF T i).set (4 * i + 3) (y % 256)).set (4 * i + 2) (y / 256 % 256)).set (4 * i + 1) (y / 65536 % 256)).set (4 * i) (y / 16777216 % 256) := fun y => by
    simp [inD]
  rw [e]
  rcases (show i = 0 ∨ i = 1 ∨ i = 2 ∨ i = 3 ∨ i = 4 ∨ i = 5 ∨ i = 6 ∨ i = 7 by omega) with rfl | rfl | rfl | rfl | rfl | rfl | rfl | rfl <;> (simp only [dF, St.l, List.take, List.flatMap_cons, List.flatMap_nil, be4]; rfl)
def okSt (s : St) : Prop := ∀ x ∈ s.l, 0 ≤ x ∧ x < 4294967296
theorem addU_ok (a b : Int) : 0 ≤ addU a b ∧ addU a b < 4294967296 := by
  unfold addU; rw [IntKind.wrap_u32]; omega
theorem okSt_mix (s : St) (m : List Int) : okSt (mixF s m) := by
  unfold mixF addSt okSt St.l
  intro x hx
  simp only [List.mem_cons, List.not_mem_nil, or_false] at hx
  rcases hx with rfl | rfl | rfl | rfl | rfl | rfl | rfl | rfl <;> exact addU_ok _ _
theorem okSt_0 : okSt st0 := by
  unfold okSt st0 St.l
  decide
theorem okSt_hash : ∀ (n : Nat) (s : St) (m : List Int), m.length = n → okSt s → okSt (hashF mixF s m) := by
  intro n
  induction n using Nat.strongRecOn with
  | _ n ih =>
    intro s m hm hs
    by_cases h : 64 ≤ m.length
    · rw [hashF_ge _ _ h]
      exact ih _ (by simp; omega) _ _ rfl (okSt_mix _ _)
    · rw [hashF_lt _ _ (by omega)]; exact hs
theorem rsum_spec {h : AHeap} {v : Value} {m : List Int} (hv : Ls h 1 by8 v m) (hB : IsB m) (hm : m.length ≤ 70368744177664) : Spec Try.prog nG fn.ref04_Sum [v] h (.agg ⟨ik .u8 (shaF m)⟩) h := by
  refine SpecX.ag (ik_scalar _ _) (SpecX.of_body (ir.ref04_Sum.spec (Nat.le_of_ble_eq_true rfl)) ?_)
  simp (dsimp := false) only [↓ir.ref04_Sum.bw, ir.ref04_Sum.rs, go_sem, Nat.reduceAdd, Nat.reduceEqDiff, Nat.reduceMul, Nat.reduceLeDiff, Nat.reduceSub, Nat.reduceLT, ↓reduceIte, reduceCtorEq, List.reduceReplicate, List.flatten_cons, List.flatten_nil, List.append_nil, eq_self, Int.reduceLE, Int.reduceLT, Int.reduceToNat, Nat.min_eq_left, Int.reducePow, Int.reduceNeg, Int.reduceEq, zrep_ik]
  have f0 : Fx (h ++ [.row .fix (ik .u8 (irep 32 0))]) h.length (ik .u8 (irep 32 0)) := Fx.here _ _ _
  have p0 := Pre.app h [.row .fix (ik .u8 (irep 32 0))]
  refine callV_x (pad_spec (hv.pre p0) hm) ?_
  rintro v1 h1 ⟨p1, hv1⟩
  obtain ⟨Y, hY⟩ : ∃ Y, m ++ tailF m.length = Y := ⟨_, rfl⟩
  have hYB : IsB Y := by
    rw [← hY]
    exact hB.append (IsB.cons (by omega) (by omega) ((IsB.rep _ (by omega) (by omega)).append (IsB.be _ _)))
  have hY64 : Y.length % 64 = 0 := by
    rw [← hY, List.length_append, tailF_len]
    have := zpad_full m.length
    omega
  have hYl : Y.length ≤ 70368744177664 + 128 := by
    rw [← hY, List.length_append, tailF_len]
    have : zpad m.length < 64 := by unfold zpad; omega
    omega
  have hT : hashF mixF st0 Y = hashF mixF st0 (m ++ tailF m.length) := by rw [hY]
  rw [hY] at hv1
  have hvb := fun hn => hv1.blk hn
  simp (dsimp := false) only [go_sem, Nat.reduceAdd, Nat.reduceEqDiff, Nat.reduceMul, Nat.reduceLeDiff, Nat.reduceSub, Nat.reduceLT, ↓reduceIte, reduceCtorEq, List.reduceReplicate, List.flatten_cons, List.flatten_nil, List.append_nil, eq_self, Int.reduceLE, Int.reduceLT, Int.reduceToNat, Nat.min_eq_left, Int.reducePow, Int.reduceNeg, Int.reduceEq]
  refine callV_of first_spec ?_
  have f0 := f0.pre p1
  have hl0 : h.length < h1.length := f0.lt
  have p0 := p0.trans p1
  have ca : cellsA (.agg ⟨st0.c'⟩) = some st0.c' := rfl
  have hw1 : wrs (h1 ++ [.row .fix [.int .u32 0, .int .u32 0, .int .u32 0, .int .u32 0, .int .u32 0, .int .u32 0, .int .u32 0, .int .u32 0]]) h1.length 0 st0.c' = some (h1 ++ [.row .fix st0.c']) := wrs_new rfl
  simp (dsimp := false) only [go_sem, Nat.reduceAdd, Nat.reduceEqDiff, Nat.reduceMul, Nat.reduceLeDiff, Nat.reduceSub, Nat.reduceLT, ↓reduceIte, reduceCtorEq, List.reduceReplicate, List.flatten_cons, List.flatten_nil, List.append_nil, eq_self, Int.reduceLE, Int.reduceLT, Int.reduceToNat, Nat.min_eq_left, Int.reducePow, Int.reduceNeg, Int.reduceEq, ca, hw1]
  refine ⟨rfl, rfl, ?_⟩
  refine callV_of rK_spec ?_
  have hkl : (ik .u32 (irep 64 0)).length = (ik .u32 KS).length := by rw [List.length_map, irep_len]; rfl
  have ck : cellsA (.agg ⟨ik .u32 KS⟩) = some (ik .u32 KS) := rfl
  obtain ⟨hB, eh⟩ : ∃ n, h1.length = n := ⟨_, rfl⟩
  have fh := Fx.here h1 st0.c' []
  have f0 := f0.app [.row .fix st0.c']
  have p0 := p0.app' [.row .fix st0.c']
  have hv1 := hv1.pre (.app h1 [.row .fix st0.c'])
  have hn1 : (h1 ++ [AObj.row .fix st0.c']).length = hB + 1 := by simp [← eh]
  rw [eh] at fh hl0 ⊢
  generalize h1 ++ [AObj.row .fix st0.c'] = h2 at f0 fh p0 hv1 hn1 ⊢
  have hw2 := wrs_new (h := h2) hkl
  simp (dsimp := false) only [go_sem, Nat.reduceAdd, Nat.reduceEqDiff, Nat.reduceMul, Nat.reduceLeDiff, Nat.reduceSub, Nat.reduceLT, ↓reduceIte, reduceCtorEq, List.reduceReplicate, List.flatten_cons, List.flatten_nil, List.append_nil, eq_self, Int.reduceLE, Int.reduceLT, Int.reduceToNat, Nat.min_eq_left, Int.reducePow, Int.reduceNeg, Int.reduceEq, zrep_ik, hw2, ck]
  refine ⟨rfl, ik_one _ _, ?_⟩
  obtain ⟨kB, ek⟩ : ∃ n, h2.length = n := ⟨_, rfl⟩
  have fk := Fx.here h2 (ik .u32 KS) []
  have f0 := f0.app [.row .fix (ik .u32 KS)]
  have fh := fh.app [.row .fix (ik .u32 KS)]
  have p0 := p0.app' [.row .fix (ik .u32 KS)]
  have hv1 := hv1.pre (.app h2 [.row .fix (ik .u32 KS)])
  rw [ek] at fk hn1 ⊢
  generalize h2 ++ [AObj.row .fix (ik .u32 KS)] = h3 at f0 fh fk p0 hv1 ⊢
  have hhB : h.length ≤ hB := by omega
  obtain ⟨oB, eo⟩ : ∃ n, h.length = n := ⟨_, rfl⟩
  rw [eo] at f0 hl0 hhB ⊢
  have hrow : Y.length ≠ 0 → sb v1 ≠ hB := fun hn e => by
    have := hvb hn
    omega
  refine loopV_of (fun m' e h4 => ∃ (i : Nat) (S : St), m' = Y.length - 64 * i ∧ 64 * i ≤ Y.length ∧ hashF mixF S (Y.drop (64 * i)) = hashF mixF st0 Y ∧ Pre h h4 ∧ Fx h4 oB (ik .u8 (irep 32 0)) ∧ Fx h4 hB S.c' ∧ Fx h4 kB (ik .u32 KS) ∧ Ls h4 1 by8 v1 Y ∧
    e = [(2, .pointer (some ⟨oB, 0, none⟩)), (3, v1), (4, .pointer (some ⟨hB, 0, none⟩)), (5, .pointer (some ⟨kB, 0, none⟩)), (6, .int .i64 ((64 * i : Nat) : Int))]) _ ⟨0, st0, rfl, Nat.zero_le _, rfl, p0, f0, fh, fk, hv1, rfl⟩ ?_
  clear f0 fh fk p0 hv1
  rintro m' e h4 ⟨i, S, rfl, hi, hS, p0, f0, fh, fk, hv1, rfl⟩
  rcases Nat.lt_or_ge (64 * i) Y.length with hlt | hge
  case inl =>
    have hle : 64 * i + 64 ≤ Y.length := by omega
    have d0 : decide (((64 * i : Nat) : Int) < (Y.length : Int)) = true := decide_eq_true (by omega)
    have i1 : IntKind.i64.wrap (((64 * i : Nat) : Int) + 64) = ((64 * i + 64 : Nat) : Int) := by rw [wrap_i64 (by omega)]; omega
    have rs := fh.rd (off := 0) (n := 8) (vs := S.c') rfl (by simp [St.c'])
    have ag : aggOf true S.c' = some (.agg ⟨S.c'⟩) := rfl
    have rk := fk.rd (off := 0) (n := 64) (vs := ik .u32 KS) rfl (Nat.le_of_ble_eq_true rfl)
    have ag2 : aggOf true (ik .u32 KS) = some (.agg ⟨ik .u32 KS⟩) := rfl
    have hsl := fun {K : Value → AHeap → Prop} {u : Hold K} => hv1.slMid (i := 64 * i) (j := 64 * i + 64) (by omega) hle (by omega) (.refl _) (K := K) (u := u)
    simp (dsimp := false) only [↓ir.ref04_Sum.l1.bw, go_sem, Nat.reduceAdd, Nat.reduceEqDiff, Nat.reduceMul, Nat.reduceLeDiff, Nat.reduceSub, Nat.reduceLT, ↓reduceIte, reduceCtorEq, List.reduceReplicate, List.flatten_cons, List.flatten_nil, List.append_nil, eq_self, Int.reduceLE, Int.reduceLT, Int.reduceToNat, Nat.min_eq_left, Int.reducePow, Int.reduceNeg, Int.reduceEq, hv1.lenV, d0, i1, rs, ag, rk, ag2, hsl]
    have hmd := hv1.mid (i := 64 * i) (j := 64 * i + 64) (by omega) hle (by omega)
    have hml : ((Y.take (64 * i + 64)).drop (64 * i)).length = 64 := by simp; omega
    refine callV_of (block_spec hmd (by omega) (hYB.take _ |>.drop _) S) ?_
    obtain ⟨S', hS'⟩ : ∃ S', mixF S ((Y.take (64 * i + 64)).drop (64 * i)) = S' := ⟨_, rfl⟩
    rw [hS']
    have e1 : (Y.drop (64 * i)).take 64 = (Y.take (64 * i + 64)).drop (64 * i) := by
      rw [List.drop_take, show 64 * i + 64 - 64 * i = 64 by omega]
    have key : hashF mixF S (Y.drop (64 * i)) = hashF mixF S' (Y.drop (64 * (i + 1))) := by
      rw [hashF_ge mixF S (m := Y.drop (64 * i)) (by rw [List.length_drop]; omega), e1, hS', List.drop_drop, show 64 * i + 64 = 64 * (i + 1) by omega]
    have ca : cellsA (.agg ⟨S'.c'⟩) = some S'.c' := rfl
    have hw : wrs h4 hB 0 S'.c' = some (h4.set hB (.row .fix S'.c')) := by
      rw [fh.wr (by simp [St.c'])]; rfl
    have i2 : ((64 * i + 64 : Nat) : Int) = ((64 * (i + 1) : Nat) : Int) := by omega
    simp (dsimp := false) only [go_sem, Nat.reduceAdd, Nat.reduceEqDiff, Nat.reduceMul, Nat.reduceLeDiff, Nat.reduceSub, Nat.reduceLT, ↓reduceIte, reduceCtorEq, List.reduceReplicate, List.flatten_cons, List.flatten_nil, List.append_nil, eq_self, Int.reduceLE, Int.reduceLT, Int.reduceToNat, Nat.min_eq_left, Int.reducePow, Int.reduceNeg, Int.reduceEq, ca, hw, i1, i2]
    refine ⟨rfl, rfl, Y.length - 64 * (i + 1), by omega, i + 1, S', rfl, by omega, ?_, p0.put (by omega) _, f0.other (by omega) _, fh.set _, fk.other (by omega) _, hv1.put hrow _, rfl⟩
    exact key.symm.trans hS
  have hend : 64 * i = Y.length := by omega
  rw [hend, List.drop_length, hashF_lt _ _ (by simp), hT] at hS
  have d0 : decide (((64 * i : Nat) : Int) < (Y.length : Int)) = false := decide_eq_false (by omega)
  simp (dsimp := false) only [↓ir.ref04_Sum.l1.bw, go_sem, Nat.reduceAdd, Nat.reduceEqDiff, Nat.reduceMul, Nat.reduceLeDiff, Nat.reduceSub, Nat.reduceLT, ↓reduceIte, reduceCtorEq, List.reduceReplicate, List.flatten_cons, List.flatten_nil, List.append_nil, eq_self, Int.reduceLE, Int.reduceLT, Int.reduceToNat, Nat.min_eq_left, Int.reducePow, Int.reduceNeg, Int.reduceEq, hv1.lenV, d0, zrep_ik]
  obtain ⟨T, hT2⟩ : ∃ T, hashF mixF st0 (m ++ tailF m.length) = T := ⟨_, rfl⟩
  have hok : okSt T := by rw [← hT2]; exact okSt_hash _ _ _ rfl okSt_0
  rw [hT2] at hS
  subst hS
  have l0 := f0.lt
  have l1 := fh.lt
  have hLd : h.length ≤ h4.length := p0.len
  have f0 := f0.app [.row .fix (ik .u8 (irep 32 0))]
  have fh := fh.app [.row .fix (ik .u8 (irep 32 0))]
  have p0 := p0.app' [.row .fix (ik .u8 (irep 32 0))]
  have f1 : Fx (h4 ++ [.row .fix (ik .u8 (irep 32 0))]) h4.length (ik .u8 (dF S 0)) := Fx.here _ _ _
  obtain ⟨dB, ed⟩ : ∃ n, h4.length = n := ⟨_, rfl⟩
  rw [ed] at f1 l0 l1 hLd ⊢
  generalize h4 ++ [AObj.row .fix (ik .u8 (irep 32 0))] = h5 at f0 fh f1 p0 ⊢
  clear fk hv1
  refine loopV_of (fun m' e h6 => ∃ i : Nat, m' = 8 - i ∧ i ≤ 8 ∧ Pre h h6 ∧ Fx h6 oB (ik .u8 (irep 32 0)) ∧ Fx h6 hB S.c' ∧ Fx h6 dB (ik .u8 (dF S i)) ∧
    e = [(2, .pointer (some ⟨oB, 0, none⟩)), (4, .pointer (some ⟨hB, 0, none⟩)), (7, .pointer (some ⟨dB, 0, none⟩)), (8, .int .i64 (i : Int))]) _ ⟨0, rfl, Nat.zero_le _, p0, f0, fh, f1, rfl⟩ ?_
  clear f0 fh f1 p0
  rintro m' e h6 ⟨i, rfl, hi, p0, f0, fh, f1, rfl⟩
  rcases Nat.lt_or_ge i 8 with hlt | hge
  case inl =>
    have d0 : decide ((i : Int) < 8) = true := decide_eq_true (by omega)
    have i5 : IntKind.i64.wrap ((i : Int) + 1) = ((i + 1 : Nat) : Int) := wrap_succ hlt (by unfold maxI; omega)
    have fh' : Fx h6 hB (ik .u32 S.l) := fh
    have rh := fh'.krd (i := i) (by show i < 8; exact hlt)
    obtain ⟨y, hy⟩ : ∃ y, S.l.getD i 0 = y := ⟨_, rfl⟩
    have hy0 : 0 ≤ y ∧ y < 4294967296 := by
      rw [← hy, List.getD_eq_getElem?_getD, List.getElem?_eq_getElem (by show i < 8; exact hlt)]
      exact hok _ (List.getElem_mem _)
    rw [hy] at rh
    simp (dsimp := false) only [↓ir.ref04_Sum.l3.bw, go_sem, Nat.reduceAdd, Nat.reduceEqDiff, Nat.reduceMul, Nat.reduceLeDiff, Nat.reduceSub, Nat.reduceLT, ↓reduceIte, reduceCtorEq, List.reduceReplicate, List.flatten_cons, List.flatten_nil, List.append_nil, eq_self, Int.reduceLE, Int.reduceLT, Int.reduceToNat, Nat.min_eq_left, Int.reducePow, Int.reduceNeg, Int.reduceEq, d0, Int.toNat_natCast, Nat.mul_one, rh]
    (repeat (with_reducible refine And.intro (by omega) ?_))
    refine loopV_of (fun m' e h7 => ∃ d : Nat, m' = 4 - d ∧ d ≤ 4 ∧ Pre h h7 ∧ Fx h7 oB (ik .u8 (irep 32 0)) ∧ Fx h7 hB S.c' ∧ Fx h7 dB (ik .u8 (inD (dF S i) i y d)) ∧
      e = [(2, .pointer (some ⟨oB, 0, none⟩)), (4, .pointer (some ⟨hB, 0, none⟩)), (7, .pointer (some ⟨dB, 0, none⟩)), (8, .int .i64 (i : Int)), (9, .int .u32 (y / 256 ^ d)), (10, .int .i64 (3 - (d : Int)))]) _ ⟨0, rfl, Nat.zero_le _, p0, f0, fh, f1, by simp⟩ ?_
    clear f0 fh f1 p0 fh' rh d0
    rintro m' e h7 ⟨d, rfl, hd, p0, f0, fh, f1, rfl⟩
    rcases Nat.lt_or_ge d 4 with hdlt | hdge
    case inl =>
      have d0 : decide ((3 - (d : Int)) ≥ 0) = true := decide_eq_true (by omega)
      have hpos : (0 : Int) < 256 ^ d := Int.pow_pos (by omega)
      have hx0 : 0 ≤ y / 256 ^ d := Int.ediv_nonneg hy0.1 (Int.le_of_lt hpos)
      have hx1 : y / 256 ^ d ≤ y := Int.ediv_le_self _ hy0.1
      have b0 : IntKind.u8.wrap ((y / 256 ^ d).tmod 256) = y / 256 ^ d % 256 := by rw [Int.tmod_eq_emod_of_nonneg hx0, IntKind.wrap_u8]; omega
      have b1 : IntKind.u32.wrap ((y / 256 ^ d).tdiv 256) = y / 256 ^ (d + 1) := by
        rw [Int.tdiv_eq_ediv_of_nonneg hx0, IntKind.wrap_u32, Int.pow_succ, ← Int.ediv_ediv_of_nonneg (Int.le_of_lt hpos)]
        omega
      have jw : IntKind.i64.wrap (3 - (d : Int) - 1) = 3 - ((d + 1 : Nat) : Int) := by rw [wrap_i64 (by omega)]; omega
      have j4 : IntKind.i64.wrap (4 * (i : Int)) = ((4 * i : Nat) : Int) := by rw [wrap_i64 (by omega)]; omega
      have jn : IntKind.i64.wrap (((4 * i : Nat) : Int) + (3 - (d : Int))) = ((4 * i + 3 - d : Nat) : Int) := by rw [wrap_i64 (by omega)]; omega
      have hil : (inD (dF S i) i y d).length = 32 := by rw [inD_len, dF_len _ hi]
      have hw := f1.kwr (i := 4 * i + 3 - d) (by omega) (y / 256 ^ d % 256)
      have hs : (inD (dF S i) i y d).set (4 * i + 3 - d) (y / 256 ^ d % 256) = inD (dF S i) i y (d + 1) := rfl
      rw [hs] at hw
      simp (dsimp := false) only [↓ir.ref04_Sum.l2.bw, go_sem, Nat.reduceAdd, Nat.reduceEqDiff, Nat.reduceMul, Nat.reduceLeDiff, Nat.reduceSub, Nat.reduceLT, ↓reduceIte, reduceCtorEq, List.reduceReplicate, List.flatten_cons, List.flatten_nil, List.append_nil, eq_self, Int.reduceLE, Int.reduceLT, Int.reduceToNat, Nat.min_eq_left, Int.reducePow, Int.reduceNeg, Int.reduceEq, d0, b0, j4, jn, Int.toNat_natCast, Nat.mul_one, hw]
      (repeat (with_reducible refine And.intro (by omega) ?_))
      simp (dsimp := false) only [go_sem, Nat.reduceAdd, Nat.reduceEqDiff, Nat.reduceMul, Nat.reduceLeDiff, Nat.reduceSub, Nat.reduceLT, ↓reduceIte, reduceCtorEq, List.reduceReplicate, List.flatten_cons, List.flatten_nil, List.append_nil, eq_self, Int.reduceLE, Int.reduceLT, Int.reduceToNat, Nat.min_eq_left, Int.reducePow, Int.reduceNeg, Int.reduceEq, b1, jw]
      (repeat (with_reducible refine And.intro (by omega) ?_))
      exact ⟨4 - (d + 1), by omega, d + 1, rfl, hdlt, p0.put hLd _, f0.other (by omega) _, fh.other (by omega) _, f1.set _, rfl⟩
    obtain rfl : d = 4 := by omega
    have d0 : decide ((3 - ((4 : Nat) : Int)) ≥ 0) = false := rfl
    simp (dsimp := false) only [↓ir.ref04_Sum.l2.bw, go_sem, Nat.reduceAdd, Nat.reduceEqDiff, Nat.reduceMul, Nat.reduceLeDiff, Nat.reduceSub, Nat.reduceLT, ↓reduceIte, reduceCtorEq, List.reduceReplicate, List.flatten_cons, List.flatten_nil, List.append_nil, eq_self, Int.reduceLE, Int.reduceLT, Int.reduceToNat, Nat.min_eq_left, Int.reducePow, Int.reduceNeg, Int.reduceEq, d0, i5]
    rw [← hy, inD_full S hlt] at f1
    exact ⟨8 - (i + 1), by omega, i + 1, rfl, hlt, p0, f0, fh, f1, rfl⟩
  obtain rfl : i = 8 := by omega
  have d0 : decide (((8 : Nat) : Int) < 8) = false := rfl
  rw [dF_full] at f1
  have hfl : (S.l.flatMap (beF 4)).length = 32 := by simp [St.l, beF_len]
  have rs := f1.rd (off := 0) (n := 32) (vs := ik .u8 (S.l.flatMap (beF 4))) (by rw [List.drop_zero, List.take_of_length_le (by rw [List.length_map]; omega)]) (by rw [List.length_map]; omega)
  have ag2 : aggOf true (ik .u8 (S.l.flatMap (beF 4))) = some (.agg ⟨ik .u8 (S.l.flatMap (beF 4))⟩) := rfl
  have ca : cellsA (.agg ⟨ik .u8 (S.l.flatMap (beF 4))⟩) = some (ik .u8 (S.l.flatMap (beF 4))) := rfl
  have hw : wrs h6 oB 0 (ik .u8 (S.l.flatMap (beF 4))) = some (h6.set oB (.row .fix (ik .u8 (S.l.flatMap (beF 4))))) := by
    rw [f0.wr (by rw [List.length_map, List.length_map, irep_len]; omega), setC_all (by rw [List.length_map, List.length_map, irep_len]; omega)]
  have hr := (f0.set (ik .u8 (S.l.flatMap (beF 4)))).rd (off := 0) (n := 32) (vs := ik .u8 (S.l.flatMap (beF 4))) (by rw [List.drop_zero, List.take_of_length_le (by rw [List.length_map]; omega)]) (by rw [List.length_map]; omega)
  simp (dsimp := false) only [↓ir.ref04_Sum.l3.bw, go_sem, Nat.reduceAdd, Nat.reduceEqDiff, Nat.reduceMul, Nat.reduceLeDiff, Nat.reduceSub, Nat.reduceLT, ↓reduceIte, reduceCtorEq, List.reduceReplicate, List.flatten_cons, List.flatten_nil, List.append_nil, eq_self, Int.reduceLE, Int.reduceLT, Int.reduceToNat, Nat.min_eq_left, Int.reducePow, Int.reduceNeg, Int.reduceEq, d0, rs, ag2, ca, hw, hr]
  refine ⟨by rw [List.length_map]; omega, ik_one _ _, p0.put (by omega) _, ?_⟩
  unfold shaF
  rw [hT2]
end Go.Proofs.YtbomppdiiaodbaaRRR.B
/-
  The document's short sums (layer 5).
-/
namespace Go.Proofs.YtbomppdiiaodbaaRRR.B
open Go
set_option linter.unusedVariables false
set_option linter.unusedSimpArgs false
set_option maxRecDepth 100000
def cutF (D : List Int) (i : Nat) : List Int := D.take i ++ irep (16 - i) 0
theorem cutF_len {D : List Int} {i : Nat} (h : i ≤ 16) (hD : D.length = 32) : (cutF D i).length = 16 := by
  simp only [cutF, irep, List.length_append, List.length_take, List.length_replicate]; omega
theorem cutF_set {D : List Int} {i : Nat} (h : i < 16) (hD : D.length = 32) : (cutF D i).set i (D.getD i 0) = cutF D (i + 1) := by
  have hl : (D.take i).length = i := by rw [List.length_take]; omega
  unfold cutF irep
  rw [List.set_append_right _ _ (by omega), hl, Nat.sub_self, show 16 - i = (16 - (i + 1)) + 1 by omega, List.replicate_succ, List.set_cons_zero, List.take_succ_eq_append_getElem (by omega), List.append_assoc]
  simp [List.getD_eq_getElem?_getD, hD, show i < 32 by omega]
theorem half_spec {h : AHeap} {D : List Int} (hD : D.length = 32) : Spec Try.prog nG fn.ref05_Half [.agg ⟨ik .u8 D⟩] h (.agg ⟨ik .u8 (D.take 16)⟩) h := by
  refine SpecX.ag (ik_scalar _ _) (SpecX.of_body (ir.ref05_Half.spec (Nat.le_of_ble_eq_true rfl)) ?_)
  have ca : cellsA (.agg ⟨ik .u8 D⟩) = some (ik .u8 D) := rfl
  simp (dsimp := false) only [↓ir.ref05_Half.bw, ir.ref05_Half.rs, go_sem, Nat.reduceAdd, Nat.reduceEqDiff, Nat.reduceMul, Nat.reduceLeDiff, Nat.reduceSub, Nat.reduceLT, ↓reduceIte, reduceCtorEq, List.reduceReplicate, List.flatten_cons, List.flatten_nil, List.append_nil, eq_self, Int.reduceLE, Int.reduceLT, Int.reduceToNat, Nat.min_eq_left, Int.reducePow, Int.reduceNeg, Int.reduceEq, ca, zrep_ik]
  have f0 : Fx (h ++ [AObj.row .fix (ik .u8 D), AObj.row .fix (ik .u8 (irep 16 0)), AObj.row .fix (ik .u8 (irep 16 0))]) h.length (ik .u8 D) := Fx.here _ _ _
  have f1 : Fx (h ++ [AObj.row .fix (ik .u8 D), AObj.row .fix (ik .u8 (irep 16 0)), AObj.row .fix (ik .u8 (irep 16 0))]) (h.length + 1) (ik .u8 (irep 16 0)) := by simp [Fx]
  have f2 : Fx (h ++ [AObj.row .fix (ik .u8 D), AObj.row .fix (ik .u8 (irep 16 0)), AObj.row .fix (ik .u8 (irep 16 0))]) (h.length + 2) (ik .u8 (cutF D 0)) := by simp [Fx, cutF, irep]
  have p0 := Pre.app h [AObj.row .fix (ik .u8 D), AObj.row .fix (ik .u8 (irep 16 0)), AObj.row .fix (ik .u8 (irep 16 0))]
  generalize (h ++ [AObj.row .fix (ik .u8 D), AObj.row .fix (ik .u8 (irep 16 0)), AObj.row .fix (ik .u8 (irep 16 0))]) = h1 at f0 f1 f2 p0 ⊢
  refine loopV_of (fun m' e h6 => ∃ i : Nat, m' = 16 - i ∧ i ≤ 16 ∧ Pre h h6 ∧ Fx h6 h.length (ik .u8 D) ∧ Fx h6 (h.length + 1) (ik .u8 (irep 16 0)) ∧ Fx h6 (h.length + 2) (ik .u8 (cutF D i)) ∧
    e = [(1, .pointer (some ⟨h.length, 0, none⟩)), (2, .pointer (some ⟨h.length + 1, 0, none⟩)), (3, .pointer (some ⟨h.length + 2, 0, none⟩)), (4, .int .i64 (i : Int))]) _ ⟨0, rfl, Nat.zero_le _, p0, f0, f1, f2, rfl⟩ ?_
  clear f0 f2 f1 p0
  rintro m' e h6 ⟨i, rfl, hi, p0, f0, f1, f2, rfl⟩
  rcases Nat.lt_or_ge i 16 with hlt | hge
  case inl =>
    have d0 : decide ((i : Int) < 16) = true := decide_eq_true (by omega)
    have i5 : IntKind.i64.wrap ((i : Int) + 1) = ((i + 1 : Nat) : Int) := wrap_succ hlt (by unfold maxI; omega)
    have r0 := f0.krd (i := i) (by omega)
    have hw := f2.kwr (i := i) (by rw [cutF_len hi hD]; exact hlt) (D.getD i 0)
    rw [cutF_set hlt hD] at hw
    simp (dsimp := false) only [↓ir.ref05_Half.l1.bw, go_sem, Nat.reduceAdd, Nat.reduceEqDiff, Nat.reduceMul, Nat.reduceLeDiff, Nat.reduceSub, Nat.reduceLT, ↓reduceIte, reduceCtorEq, List.reduceReplicate, List.flatten_cons, List.flatten_nil, List.append_nil, eq_self, Int.reduceLE, Int.reduceLT, Int.reduceToNat, Nat.min_eq_left, Int.reducePow, Int.reduceNeg, Int.reduceEq, d0, Int.toNat_natCast, Nat.mul_one, r0, hw]
    (repeat (with_reducible refine And.intro (by omega) ?_))
    simp (dsimp := false) only [go_sem, Nat.reduceAdd, Nat.reduceEqDiff, Nat.reduceMul, Nat.reduceLeDiff, Nat.reduceSub, Nat.reduceLT, ↓reduceIte, reduceCtorEq, List.reduceReplicate, List.flatten_cons, List.flatten_nil, List.append_nil, eq_self, Int.reduceLE, Int.reduceLT, Int.reduceToNat, Nat.min_eq_left, Int.reducePow, Int.reduceNeg, Int.reduceEq, i5]
    exact ⟨16 - (i + 1), by omega, i + 1, rfl, hlt, p0.put (by omega) _, f0.other (by omega) _, f1.other (by omega) _, f2.set _, rfl⟩
  obtain rfl : i = 16 := by omega
  have d0 : decide (((16 : Nat) : Int) < 16) = false := rfl
  have e16 : cutF D 16 = D.take 16 := by simp [cutF, irep]
  rw [e16] at f2
  have hlt : (ik .u8 (D.take 16)).length = 16 := by rw [List.length_map, List.length_take]; omega
  have rs := f2.rd (off := 0) (n := 16) (vs := ik .u8 (D.take 16)) (by rw [List.drop_zero, List.take_of_length_le (by omega)]) (by omega)
  have hw := f1.wr (off := 0) (vs := ik .u8 (D.take 16)) (by rw [hlt, List.length_map, irep_len]; omega)
  rw [setC_all (by rw [hlt, List.length_map, irep_len])] at hw
  have g3 := f1.set (ik .u8 (D.take 16))
  have rr := g3.rd (off := 0) (n := 16) (vs := ik .u8 (D.take 16)) (by rw [List.drop_zero, List.take_of_length_le (by omega)]) (by omega)
  have ag : aggOf true (ik .u8 (D.take 16)) = some (.agg ⟨ik .u8 (D.take 16)⟩) := rfl
  have ca2 : cellsA (.agg ⟨ik .u8 (D.take 16)⟩) = some (ik .u8 (D.take 16)) := rfl
  simp (dsimp := false) only [↓ir.ref05_Half.l1.bw, go_sem, Nat.reduceAdd, Nat.reduceEqDiff, Nat.reduceMul, Nat.reduceLeDiff, Nat.reduceSub, Nat.reduceLT, ↓reduceIte, reduceCtorEq, List.reduceReplicate, List.flatten_cons, List.flatten_nil, List.append_nil, eq_self, Int.reduceLE, Int.reduceLT, Int.reduceToNat, Nat.min_eq_left, Int.reducePow, Int.reduceNeg, Int.reduceEq, d0, rs, ag, ca2, hw, rr]
  exact ⟨hlt, ik_one _ _, p0.put (by omega) _⟩
theorem text_spec {h : AHeap} {pv : Value} {parts : List (List Int)} {x : Int} (hv : Ls h 1 (isL 1 by8 h) pv parts) (hl : parts.flatten.length ≤ 70368744177000) :
    SpecX Try.prog nG fn.ref05_Text [.int .u8 x, pv] h fun v' h' => Pre h h' ∧ Ls h' 1 by8 v' (x :: parts.flatten) := by
  refine SpecX.of_body (ir.ref05_Text.spec (Nat.le_of_ble_eq_true rfl)) ?_
  simp (dsimp := false) only [↓ir.ref05_Text.bw, ir.ref05_Text.rs, go_sem, Nat.reduceAdd, Nat.reduceEqDiff, Nat.reduceMul, Nat.reduceLeDiff, Nat.reduceSub, Nat.reduceLT, ↓reduceIte, reduceCtorEq, List.reduceReplicate, List.flatten_cons, List.flatten_nil, List.append_nil, eq_self, Int.reduceLE, Int.reduceLT, Int.reduceToNat, Nat.min_eq_left, Int.reducePow, Int.reduceNeg, Int.reduceEq]
  have o0 : Ow h (h ++ [.row (.grow 1) [.int .u8 x]]) 1 (.slice (some ⟨h.length, 0, none⟩) 1 1) 1 (ik .u8 [x]) := by
    have := Ow.row (h0 := h) (h := h ++ [.row (.grow 1) [.int .u8 x]]) (sz := 1) (b := h.length) (off := 0) (n := 1) (cap := 1) (cells := [.int .u8 x]) (Nat.le_refl _) (by simp) (by simp) (Nat.le_refl _) (by decide)
    simpa using this
  have hpl := hv.le
  refine loopV_of (fun m' e h4 => ∃ (i : Nat) (v : Value), m' = parts.length - i ∧ i ≤ parts.length ∧ Pre h h4 ∧ Ow h h4 1 v (1 + (parts.take i).flatten.length) (ik .u8 (x :: (parts.take i).flatten)) ∧
    e = [(1, pv), (5, v), (6, .int .i64 (i : Int))]) _ ⟨0, _, rfl, Nat.zero_le _, .app _ _, o0, rfl⟩ ?_
  clear o0
  rintro m' e h4 ⟨i, v, rfl, hi, p4, o4, rfl⟩
  rcases Nat.lt_or_ge i parts.length with hlt | hge
  case inl =>
    have d0 : decide ((i : Int) < (parts.length : Int)) = true := decide_eq_true (by omega)
    have i5 : IntKind.i64.wrap ((i : Int) + 1) = ((i + 1 : Nat) : Int) := wrap_succ hlt hpl
    obtain ⟨_, _, ⟨tv, rfl, ht⟩, r0, _⟩ := hv.rd2 p4 hlt
    have hfl : (parts.take i).flatten.length + parts[i].length ≤ parts.flatten.length := by
      have := congrArg (fun l => (List.flatten l).length) (List.take_append_drop i parts)
      simp only [List.flatten_append, List.length_append, List.drop_eq_getElem_cons hlt, List.flatten_cons] at this
      omega
    simp (dsimp := false) only [↓ir.ref05_Text.l1.bw, go_sem, Nat.reduceAdd, Nat.reduceEqDiff, Nat.reduceMul, Nat.reduceLeDiff, Nat.reduceSub, Nat.reduceLT, ↓reduceIte, reduceCtorEq, List.reduceReplicate, List.flatten_cons, List.flatten_nil, List.append_nil, eq_self, Int.reduceLE, Int.reduceLT, Int.reduceToNat, Nat.min_eq_left, Int.reducePow, Int.reduceNeg, Int.reduceEq, hv.lenV, d0, hv.ixsN hlt, r0, ht.src p4]
    refine o4.app (by simp) (ik_one _ _) (show room (1 + (parts.take i).flatten.length + parts[i].length) 1 from ⟨by omega, by omega⟩) (fun v5 h5 o5 hc _ _ => ?_) p4
    have p5 := hc.pre p4
    simp (dsimp := false) only [go_sem, Nat.reduceAdd, Nat.reduceEqDiff, Nat.reduceMul, Nat.reduceLeDiff, Nat.reduceSub, Nat.reduceLT, ↓reduceIte, reduceCtorEq, List.reduceReplicate, List.flatten_cons, List.flatten_nil, List.append_nil, eq_self, Int.reduceLE, Int.reduceLT, Int.reduceToNat, Nat.min_eq_left, Int.reducePow, Int.reduceNeg, Int.reduceEq, i5]
    refine ⟨parts.length - (i + 1), by omega, i + 1, v5, rfl, hlt, p5, ?_, rfl⟩
    rw [List.take_succ_eq_append_getElem hlt, List.flatten_append, List.flatten_cons, List.flatten_nil, List.append_nil, List.length_append, ← Nat.add_assoc]
    rw [← List.map_append] at o5
    exact o5
  obtain rfl : i = parts.length := by omega
  rw [List.take_length] at o4
  have d0 : decide ((parts.length : Int) < (parts.length : Int)) = false := decide_eq_false (by omega)
  simp (dsimp := false) only [↓ir.ref05_Text.l1.bw, go_sem, Nat.reduceAdd, Nat.reduceEqDiff, Nat.reduceMul, Nat.reduceLeDiff, Nat.reduceSub, Nat.reduceLT, ↓reduceIte, reduceCtorEq, List.reduceReplicate, List.flatten_cons, List.flatten_nil, List.append_nil, eq_self, Int.reduceLE, Int.reduceLT, Int.reduceToNat, Nat.min_eq_left, Int.reducePow, Int.reduceNeg, Int.reduceEq, hv.lenV, d0]
  refine ⟨p4, Ow.lsK (h0 := h) ?_⟩
  rw [List.length_cons, Nat.add_comm]
  exact o4
theorem rshort_spec {h : AHeap} {pv : Value} {parts : List (List Int)} {x : Int} (hv : Ls h 1 (isL 1 by8 h) pv parts) (hx0 : 0 ≤ x) (hx1 : x < 256) (hb : ∀ p ∈ parts, IsB p) (hl : parts.flatten.length ≤ 70368744177000) :
    Spec Try.prog nG fn.ref05_Short [.int .u8 x, pv] h (.agg ⟨ik .u8 (shortF x parts)⟩) h := by
  refine SpecX.ag (ik_scalar _ _) (SpecX.of_body (ir.ref05_Short.spec (Nat.le_of_ble_eq_true rfl)) ?_)
  simp (dsimp := false) only [↓ir.ref05_Short.bw, ir.ref05_Short.rs, go_sem, Nat.reduceAdd, Nat.reduceEqDiff, Nat.reduceMul, Nat.reduceLeDiff, Nat.reduceSub, Nat.reduceLT, ↓reduceIte, reduceCtorEq, List.reduceReplicate, List.flatten_cons, List.flatten_nil, List.append_nil, eq_self, Int.reduceLE, Int.reduceLT, Int.reduceToNat, Nat.min_eq_left, Int.reducePow, Int.reduceNeg, Int.reduceEq, zrep_ik]
  have f0 : Fx (h ++ [AObj.row .fix (ik .u8 (irep 16 0))]) h.length (ik .u8 (irep 16 0)) := Fx.here _ _ _
  have p0 := Pre.app h [AObj.row .fix (ik .u8 (irep 16 0))]
  generalize (h ++ [AObj.row .fix (ik .u8 (irep 16 0))]) = h1 at f0 p0 ⊢
  have hv1 : Ls h1 1 (isL 1 by8 h1) pv parts := (hv.pre p0).mono fun c a ⟨tv, q, r⟩ => ⟨tv, q, r.pre p0⟩
  refine callV_x (text_spec hv1 hl) ?_
  rintro v2 h2 ⟨p2, hv2⟩
  have hB : IsB (x :: parts.flatten) := IsB.cons hx0 hx1 fun y hy => by
    obtain ⟨p, hp, hy⟩ := List.mem_flatten.1 hy
    exact hb p hp y hy
  simp (dsimp := false) only [go_sem, Nat.reduceAdd, Nat.reduceEqDiff, Nat.reduceMul, Nat.reduceLeDiff, Nat.reduceSub, Nat.reduceLT, ↓reduceIte, reduceCtorEq, List.reduceReplicate, List.flatten_cons, List.flatten_nil, List.append_nil, eq_self, Int.reduceLE, Int.reduceLT, Int.reduceToNat, Nat.min_eq_left, Int.reducePow, Int.reduceNeg, Int.reduceEq]
  refine callV_of (rsum_spec hv2 hB (by simp only [List.length_cons]; omega)) ?_
  simp (dsimp := false) only [go_sem, Nat.reduceAdd, Nat.reduceEqDiff, Nat.reduceMul, Nat.reduceLeDiff, Nat.reduceSub, Nat.reduceLT, ↓reduceIte, reduceCtorEq, List.reduceReplicate, List.flatten_cons, List.flatten_nil, List.append_nil, eq_self, Int.reduceLE, Int.reduceLT, Int.reduceToNat, Nat.min_eq_left, Int.reducePow, Int.reduceNeg, Int.reduceEq]
  refine callV_of (half_spec (shaF_len _)) ?_
  have g0 := f0.pre p2
  have hlt : (ik .u8 ((shaF (x :: parts.flatten)).take 16)).length = 16 := by rw [List.length_map, List.length_take, shaF_len]; omega
  have hw := g0.wr (off := 0) (vs := ik .u8 ((shaF (x :: parts.flatten)).take 16)) (by rw [hlt, List.length_map, irep_len]; omega)
  rw [setC_all (by rw [hlt, List.length_map, irep_len])] at hw
  have g3 := g0.set (ik .u8 ((shaF (x :: parts.flatten)).take 16))
  have rr := g3.rd (off := 0) (n := 16) (vs := ik .u8 ((shaF (x :: parts.flatten)).take 16)) (by rw [List.drop_zero, List.take_of_length_le (by omega)]) (by omega)
  have ag : aggOf true (ik .u8 ((shaF (x :: parts.flatten)).take 16)) = some (.agg ⟨ik .u8 ((shaF (x :: parts.flatten)).take 16)⟩) := rfl
  have ca2 : cellsA (.agg ⟨ik .u8 ((shaF (x :: parts.flatten)).take 16)⟩) = some (ik .u8 ((shaF (x :: parts.flatten)).take 16)) := rfl
  simp (dsimp := false) only [go_sem, Nat.reduceAdd, Nat.reduceEqDiff, Nat.reduceMul, Nat.reduceLeDiff, Nat.reduceSub, Nat.reduceLT, ↓reduceIte, reduceCtorEq, List.reduceReplicate, List.flatten_cons, List.flatten_nil, List.append_nil, eq_self, Int.reduceLE, Int.reduceLT, Int.reduceToNat, Nat.min_eq_left, Int.reducePow, Int.reduceNeg, Int.reduceEq, ca2, hw, rr, ag]
  exact ⟨hlt, ik_one _ _, (p0.trans p2).put (Nat.le_refl _) _, rfl⟩
end Go.Proofs.YtbomppdiiaodbaaRRR.B
