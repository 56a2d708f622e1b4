/-
  Digits of a message (layer 10), and what they cost.
-/
import Derived.Test.YtbomppdiiaodbaaRRRFd9
namespace Go.Proofs.YtbomppdiiaodbaaRRR.B
open Go
set_option linter.unusedVariables false
set_option linter.unusedSimpArgs false
set_option maxRecDepth 100000
def q4 (x : Int) : List Int := [x / 64 % 4, x / 16 % 4, x / 4 % 4, x % 4]
def low4 (x : Int) (t : Nat) : List Int := irep (4 - t) 0 ++ (q4 x).drop (4 - t)
theorem low4_len (x : Int) {t : Nat} (h : t ≤ 4) : (low4 x t).length = 4 := by
  simp only [low4, irep, List.length_append, List.length_replicate, List.length_drop, q4, List.length_cons, List.length_nil]; omega
theorem low4_set (x : Int) {t : Nat} (h : t < 4) : (low4 x t).set (3 - t) (x / 4 ^ t % 4) = low4 x (t + 1) := by
  rcases (show t = 0 ∨ t = 1 ∨ t = 2 ∨ t = 3 by omega) with rfl | rfl | rfl | rfl <;> simp [low4, q4, irep]
def dgs (m : List Int) : List Int := m.flatMap q4
theorem dgs_app (a b : List Int) : dgs (a ++ b) = dgs a ++ dgs b := by simp [dgs]
theorem dgs_len : ∀ (m : List Int), (dgs m).length = 4 * m.length
  | [] => rfl
  | x :: m => by
    have := dgs_len m
    simp only [dgs, List.flatMap_cons, List.length_append, List.length_cons] at *
    rw [this]; simp [q4]; omega
theorem dgs_get : ∀ (m : List Int) (i : Nat), i / 4 < m.length → (dgs m)[i]? = some (m.getD (i / 4) 0 / 4 ^ (3 - i % 4) % 4)
  | [], i, h => by simp at h
  | x :: m, i, h => by
    have e : dgs (x :: m) = q4 x ++ dgs m := rfl
    rw [e]
    by_cases hi : i < 4
    · rw [List.getElem?_append_left (by simpa [q4] using hi)]
      rcases (show i = 0 ∨ i = 1 ∨ i = 2 ∨ i = 3 by omega) with rfl | rfl | rfl | rfl <;> simp [q4]
    · rw [List.getElem?_append_right (by simp [q4]; omega)]
      have l4 : (q4 x).length = 4 := rfl
      rw [l4, dgs_get m (i - 4) (by simp at h; omega)]
      have e1 : i / 4 = (i - 4) / 4 + 1 := by omega
      have e2 : (i - 4) % 4 = i % 4 := by omega
      rw [e1, e2]; simp
def cst (L : List Int) : Int := (L.map (3 - ·)).sum
theorem cst_app (a b : List Int) : cst (a ++ b) = cst a + cst b := by simp [cst]
theorem cst_one (x : Int) : cst [x] = 3 - x := by simp [cst]
def IsD (L : List Int) : Prop := ∀ x ∈ L, 0 ≤ x ∧ x < 4
theorem IsD.q4 (x : Int) : IsD (q4 x) := fun y hy => by
  simp only [B.q4, List.mem_cons, List.not_mem_nil, or_false] at hy
  rcases hy with rfl | rfl | rfl | rfl <;> omega
theorem IsD.dgs (m : List Int) : IsD (dgs m) := fun y hy => by
  obtain ⟨x, _, hx⟩ := List.mem_flatMap.1 hy
  exact IsD.q4 x y hx
theorem IsD.cst : ∀ {L : List Int}, IsD L → 0 ≤ cst L ∧ cst L ≤ 3 * L.length
  | [], _ => ⟨Int.le_refl _, Int.le_refl _⟩
  | x :: L, h => by
    obtain ⟨a, b⟩ := IsD.cst (L := L) fun y hy => h y (List.mem_cons_of_mem _ hy)
    have := h x (List.mem_cons_self ..)
    simp only [B.cst, List.map_cons, List.sum_cons, List.length_cons] at *
    omega
theorem IsD.take {L : List Int} (h : IsD L) (n : Nat) : IsD (L.take n) := fun x hx => h x (List.mem_of_mem_take hx)
theorem IsD.append {a b : List Int} (ha : IsD a) (hb : IsD b) : IsD (a ++ b) := fun x hx => (List.mem_append.1 hx).elim (ha x) (hb x)
def dgF (m : List Int) : List Int := dgs m ++ q4 (cst (dgs m))
theorem dgF_len (m : List Int) : (dgF m).length = 4 * m.length + 4 := by
  rw [dgF, List.length_append, dgs_len]; rfl
theorem dgF_D (m : List Int) : IsD (dgF m) := (IsD.dgs m).append (IsD.q4 _)
theorem fill_set {L : List Int} {n i : Nat} (hi : i < L.length) (hn : i < n) {x : Int} (hx : L[i]? = some x) : (L.take i ++ irep (n - i) 0).set i x = L.take (i + 1) ++ irep (n - (i + 1)) 0 := by
  have l1 : (L.take i).length = i := by rw [List.length_take]; omega
  rw [show n - i = (n - (i + 1)) + 1 by omega, List.set_append_right _ _ (by omega), l1, Nat.sub_self]
  have : irep (n - (i + 1) + 1) 0 = 0 :: irep (n - (i + 1)) 0 := rfl
  rw [this, List.set_cons_zero, List.take_add_one, hx]
  simp
theorem fd4 {x : Int} {k : Nat} (n : Nat) (hk : k < 4) (hn : 8 ≤ n) : x.fdiv (2 ^ min (2 * k) n) = x / 4 ^ k := by
  have h0 : (0 : Int) ≤ 2 ^ (2 * k) := Int.le_of_lt (Int.pow_pos (by omega))
  rw [Nat.min_eq_left (by omega), Int.fdiv_eq_ediv_of_nonneg _ h0, Int.pow_mul, show (2 : Int) ^ 2 = 4 from rfl]
theorem sh4 {x : Int} {k : Nat} (hx0 : 0 ≤ x) (hx1 : x < 256) (hk : k < 4) :
    IntKind.u8.wrap ((BitVec.ofInt IntKind.u8.bits (x.fdiv (2 ^ min (2 * k) 8)) &&& BitVec.ofInt IntKind.u8.bits 3).toNat) = x / 4 ^ k % 4 := by
  rw [fd4 8 hk (by omega)]
  obtain ⟨n, rfl, hn⟩ : ∃ n : Nat, x = n ∧ n < 256 := ⟨x.toNat, by omega, by omega⟩
  obtain ⟨y, hy⟩ : ∃ y : Nat, (n : Int) / 4 ^ k = y ∧ y < 256 := by
    refine ⟨n / 4 ^ k, by simp, Nat.lt_of_le_of_lt (Nat.div_le_self _ _) hn⟩
  have e1 : (BitVec.ofInt IntKind.u8.bits (y : Int) &&& BitVec.ofInt IntKind.u8.bits 3).toNat = y &&& 3 := by
    show (BitVec.ofInt 8 (y : Int) &&& BitVec.ofInt 8 3).toNat = _
    rw [BitVec.toNat_and, BitVec.toNat_ofInt, BitVec.toNat_ofInt]
    congr 1
    omega
  rw [hy.1, e1, show 3 = 2 ^ 2 - 1 from rfl, Nat.and_two_pow_sub_one_eq_mod, IntKind.wrap_u8]
  omega
theorem sh64 {x : Int} {k : Nat} (hx0 : 0 ≤ x) (hx1 : x < 256) (hk : k < 4) :
    IntKind.i64.wrap ((BitVec.ofInt IntKind.i64.bits (x.fdiv (2 ^ min (2 * k) 64)) &&& BitVec.ofInt IntKind.i64.bits 3).toNat) = x / 4 ^ k % 4 := by
  rw [fd4 64 hk (by omega)]
  obtain ⟨n, rfl, hn⟩ : ∃ n : Nat, x = n ∧ n < 256 := ⟨x.toNat, by omega, by omega⟩
  obtain ⟨y, hy⟩ : ∃ y : Nat, (n : Int) / 4 ^ k = y ∧ y < 256 := by
    refine ⟨n / 4 ^ k, by simp, Nat.lt_of_le_of_lt (Nat.div_le_self _ _) hn⟩
  have e1 : (BitVec.ofInt IntKind.i64.bits (y : Int) &&& BitVec.ofInt IntKind.i64.bits 3).toNat = y &&& 3 := by
    show (BitVec.ofInt 64 (y : Int) &&& BitVec.ofInt 64 3).toNat = _
    rw [BitVec.toNat_and, BitVec.toNat_ofInt, BitVec.toNat_ofInt]
    congr 1
    omega
  rw [hy.1, e1, show 3 = 2 ^ 2 - 1 from rfl, Nat.and_two_pow_sub_one_eq_mod, wrap_i64 (by omega)]
  omega
theorem q4_get (x : Int) {i : Nat} (h : i < 4) : (q4 x)[i]? = some (x / 4 ^ (3 - i) % 4) := by
  rcases (show i = 0 ∨ i = 1 ∨ i = 2 ∨ i = 3 by omega) with rfl | rfl | rfl | rfl <;> simp [q4]
theorem digits_spec {h : AHeap} {m : List Int} (hB : IsB m) (hl : m.length = 16) : Spec Try.prog nG fn.ots_Digits [.agg ⟨ik .u8 m⟩] h (.agg ⟨ik .u8 (dgF m)⟩) h := by
  refine SpecX.ag (ik_scalar _ _) (SpecX.of_body (ir.ots_Digits.spec (Nat.le_of_ble_eq_true rfl)) ?_)
  have ca : cellsA (.agg ⟨ik .u8 m⟩) = some (ik .u8 m) := rfl
  have hml : (ik .u8 m).length = 16 := by rw [List.length_map, hl]
  simp (dsimp := false) only [↓ir.ots_Digits.bw, ir.ots_Digits.rs, go_sem, Nat.reduceAdd, Nat.reduceEqDiff, Nat.reduceMul, Nat.reduceLeDiff, Nat.reduceSub, Nat.reduceLT, ↓reduceIte, reduceCtorEq, List.reduceReplicate, List.flatten_cons, List.flatten_nil, List.append_nil, eq_self, Int.reduceLE, Int.reduceLT, Int.reduceToNat, Nat.min_eq_left, Int.reducePow, Int.reduceNeg, Int.reduceEq, ca, zrep_ik]
  have p0 := Pre.app h [.row .fix (ik .u8 m), .row .fix (ik .u8 (irep 68 0)), .row .fix (ik .u8 (irep 68 0))]
  have f1 : Fx (h ++ [.row .fix (ik .u8 m), .row .fix (ik .u8 (irep 68 0)), .row .fix (ik .u8 (irep 68 0))]) h.length (ik .u8 m) := by simp [Fx]
  have f2 : Fx (h ++ [.row .fix (ik .u8 m), .row .fix (ik .u8 (irep 68 0)), .row .fix (ik .u8 (irep 68 0))]) (h.length + 1) (ik .u8 (irep 68 0)) := by simp [Fx]
  have f3 : Fx (h ++ [.row .fix (ik .u8 m), .row .fix (ik .u8 (irep 68 0)), .row .fix (ik .u8 (irep 68 0))]) (h.length + 2) (ik .u8 ((dgs m).take 0 ++ irep (68 - 0) 0)) := by simp [Fx]
  generalize (h ++ [AObj.row .fix (ik .u8 m), .row .fix (ik .u8 (irep 68 0)), .row .fix (ik .u8 (irep 68 0))]) = h1 at p0 f1 f2 f3 ⊢
  have hdl : (dgs m).length = 64 := by rw [dgs_len, hl]
  refine loopV_of (fun m' e h2 => ∃ i : Nat, m' = 64 - i ∧ i ≤ 64 ∧ Pre h h2 ∧ Fx h2 h.length (ik .u8 m) ∧ Fx h2 (h.length + 1) (ik .u8 (irep 68 0)) ∧ Fx h2 (h.length + 2) (ik .u8 ((dgs m).take i ++ irep (68 - i) 0)) ∧
    e = [(1, .pointer (some ⟨h.length, 0, none⟩)), (2, .pointer (some ⟨h.length + 1, 0, none⟩)), (3, .pointer (some ⟨h.length + 2, 0, none⟩)), (4, .int .i64 (cst ((dgs m).take i))), (8, .int .i64 (i : Int))]) _ ⟨0, rfl, Nat.zero_le _, p0, f1, f2, f3, rfl⟩ ?_
  clear p0 f1 f2 f3
  rintro m' e h2 ⟨i, rfl, hi, p0, f1, f2, f3, rfl⟩
  have hc := ((IsD.dgs m).take i).cst
  have htl : ((dgs m).take i).length = i := by rw [List.length_take]; omega
  rw [htl] at hc
  rcases Nat.lt_or_ge i 64 with hlt | hge
  case inl =>
    have d0 : decide ((i : Int) < 64) = true := decide_eq_true (by omega)
    have i5 : IntKind.i64.wrap ((i : Int) + 1) = ((i + 1 : Nat) : Int) := wrap_succ hlt (by unfold maxI; omega)
    have t1 : (i : Int).tdiv 4 = ((i / 4 : Nat) : Int) := by rw [Int.tdiv_eq_ediv_of_nonneg (by omega)]; omega
    have t2 : (i : Int).tmod 4 = ((i % 4 : Nat) : Int) := tmod_nat _ 4
    have w1 : IntKind.i64.wrap ((i / 4 : Nat) : Int) = ((i / 4 : Nat) : Int) := wrap_i64 (by omega)
    have w2 : IntKind.i64.wrap (2 * ((i % 4 : Nat) : Int)) = ((2 * (i % 4) : Nat) : Int) := by rw [wrap_i64 (by omega)]; omega
    have w3 : IntKind.i64.wrap (6 - ((2 * (i % 4) : Nat) : Int)) = ((2 * (3 - i % 4) : Nat) : Int) := by rw [wrap_i64 (by omega)]; omega
    have rm := f1.krd (i := i / 4) (by omega)
    obtain ⟨a0, a1⟩ := hB.getD (i / 4)
    have sh := sh4 a0 a1 (k := 3 - i % 4) (by omega)
    obtain ⟨X, hX⟩ : ∃ X, m.getD (i / 4) 0 / 4 ^ (3 - i % 4) % 4 = X := ⟨_, rfl⟩
    have hg := dgs_get m i (by omega)
    rw [hX] at sh hg
    have hX0 : 0 ≤ X ∧ X < 4 := by omega
    have w4 : IntKind.i64.wrap X = X := wrap_i64 (by omega)
    have w5 : IntKind.i64.wrap (3 - X) = 3 - X := wrap_i64 (by omega)
    have w6 : IntKind.i64.wrap (cst ((dgs m).take i) + (3 - X)) = cst ((dgs m).take (i + 1)) := by
      rw [wrap_i64 (by omega), List.take_add_one, hg, cst_app]; simp [cst]
    have hw := f3.kwr (i := i) (by rw [List.length_append, htl, irep_len]; omega) X
    rw [fill_set (by omega) (by omega) hg] at hw
    simp (dsimp := false) only [↓ir.ots_Digits.l1.bw, go_sem, Nat.reduceAdd, Nat.reduceEqDiff, Nat.reduceMul, Nat.reduceLeDiff, Nat.reduceSub, Nat.reduceLT, ↓reduceIte, reduceCtorEq, List.reduceReplicate, List.flatten_cons, List.flatten_nil, List.append_nil, eq_self, Int.reduceLE, Int.reduceLT, Int.reduceToNat, Nat.min_eq_left, Int.reducePow, Int.reduceNeg, Int.reduceEq, d0, t1, t2, w1, w2, w3, rm, Int.toNat_natCast, Nat.mul_one, sh, w4, w5, w6, hw, i5]
    (repeat (with_reducible refine And.intro (by omega) ?_))
    exact ⟨64 - (i + 1), by omega, i + 1, rfl, hlt, p0.put (Nat.le_add_right _ _) _, f1.other (by omega) _, f2.other (by omega) _, f3.set _, rfl⟩
  obtain rfl : i = 64 := by omega
  have d0 : decide (((64 : Nat) : Int) < 64) = false := rfl
  have ed : (dgs m).take 64 = dgs m := List.take_of_length_le (by omega)
  rw [ed] at f3 hc ⊢
  obtain ⟨S, hS⟩ : ∃ S, cst (dgs m) = S := ⟨_, rfl⟩
  have e3 : dgs m ++ irep (68 - 64) 0 = dgs m ++ ((q4 S).take 0 ++ irep (4 - 0) 0) := rfl
  rw [e3] at f3
  have hF : dgF m = dgs m ++ q4 S := by rw [dgF, hS]
  rw [hS] at hc ⊢
  simp (dsimp := false) only [↓ir.ots_Digits.l1.bw, go_sem, Nat.reduceAdd, Nat.reduceEqDiff, Nat.reduceMul, Nat.reduceLeDiff, Nat.reduceSub, Nat.reduceLT, ↓reduceIte, reduceCtorEq, List.reduceReplicate, List.flatten_cons, List.flatten_nil, List.append_nil, eq_self, Int.reduceLE, Int.reduceLT, Int.reduceToNat, Nat.min_eq_left, Int.reducePow, Int.reduceNeg, Int.reduceEq, d0]
  clear d0 e3
  refine loopV_of (fun m' e h3 => ∃ i : Nat, m' = 4 - i ∧ i ≤ 4 ∧ Pre h h3 ∧ Fx h3 (h.length + 1) (ik .u8 (irep 68 0)) ∧ Fx h3 (h.length + 2) (ik .u8 (dgs m ++ ((q4 S).take i ++ irep (4 - i) 0))) ∧
    e = [(2, .pointer (some ⟨h.length + 1, 0, none⟩)), (3, .pointer (some ⟨h.length + 2, 0, none⟩)), (4, .int .i64 S), (30, .int .i64 (i : Int))]) _ ⟨0, rfl, Nat.zero_le _, p0, f2, f3, rfl⟩ ?_
  clear p0 f1 f2 f3
  rintro m' e h3 ⟨i, rfl, hi, p0, f2, f3, rfl⟩
  rcases Nat.lt_or_ge i 4 with hlt | hge
  case inl =>
    have d0 : decide ((i : Int) < 4) = true := decide_eq_true (by omega)
    have i5 : IntKind.i64.wrap ((i : Int) + 1) = ((i + 1 : Nat) : Int) := wrap_succ hlt (by unfold maxI; omega)
    have w1 : IntKind.i64.wrap (64 + (i : Int)) = ((64 + i : Nat) : Int) := by rw [wrap_i64 (by omega)]; omega
    have w2 : IntKind.i64.wrap ((i : Int) * 2) = ((2 * i : Nat) : Int) := by rw [wrap_i64 (by omega)]; omega
    have w2' : IntKind.i64.wrap (2 * (i : Int)) = ((2 * i : Nat) : Int) := by rw [wrap_i64 (by omega)]; omega
    have w3 : IntKind.i64.wrap (6 - ((2 * i : Nat) : Int)) = ((2 * (3 - i) : Nat) : Int) := by rw [wrap_i64 (by omega)]; omega
    have sh := sh64 hc.1 (by omega) (k := 3 - i) (by omega)
    obtain ⟨X, hX⟩ : ∃ X, S / 4 ^ (3 - i) % 4 = X := ⟨_, rfl⟩
    have hg := q4_get S hlt
    rw [hX] at sh hg
    have hX0 : 0 ≤ X ∧ X < 4 := by omega
    have w4 : IntKind.u8.wrap X = X := by rw [IntKind.wrap_u8]; omega
    have hw := f3.kwr (i := 64 + i) (by rw [List.length_append, List.length_append, List.length_take, irep_len, hdl]; have : (q4 S).length = 4 := rfl; omega) X
    rw [List.set_append_right _ _ (by omega), hdl, Nat.add_sub_cancel_left, fill_set (show i < (q4 S).length from hlt) hlt hg] at hw
    simp (dsimp := false) only [↓ir.ots_Digits.l2.bw, go_sem, Nat.reduceAdd, Nat.reduceEqDiff, Nat.reduceMul, Nat.reduceLeDiff, Nat.reduceSub, Nat.reduceLT, ↓reduceIte, reduceCtorEq, List.reduceReplicate, List.flatten_cons, List.flatten_nil, List.append_nil, eq_self, Int.reduceLE, Int.reduceLT, Int.reduceToNat, Nat.min_eq_left, Int.reducePow, Int.reduceNeg, Int.reduceEq, d0, w1, w2, w2', w3, Int.toNat_natCast, Nat.mul_one, sh, w4, hw, i5]
    (repeat (with_reducible refine And.intro (by omega) ?_))
    exact ⟨4 - (i + 1), by omega, i + 1, rfl, hlt, p0.put (Nat.le_add_right _ _) _, f2.other (by omega) _, f3.set _, rfl⟩
  obtain rfl : i = 4 := by omega
  have d0 : decide (((4 : Nat) : Int) < 4) = false := rfl
  have e4 : (q4 S).take 4 ++ irep (4 - 4) 0 = q4 S := rfl
  rw [e4, ← hF] at f3
  have hlF : (ik .u8 (dgF m)).length = 68 := by rw [List.length_map, dgF_len, hl]
  have r3 := f3.whole hlF
  have ag : aggOf true (ik .u8 (dgF m)) = some (.agg ⟨ik .u8 (dgF m)⟩) := rfl
  have ca2 : cellsA (.agg ⟨ik .u8 (dgF m)⟩) = some (ik .u8 (dgF m)) := rfl
  have hw := f2.over (vs := ik .u8 (dgF m)) (by rw [hlF, List.length_map, irep_len])
  have rr := (f2.set (ik .u8 (dgF m))).whole hlF
  simp (dsimp := false) only [↓ir.ots_Digits.l2.bw, go_sem, Nat.reduceAdd, Nat.reduceEqDiff, Nat.reduceMul, Nat.reduceLeDiff, Nat.reduceSub, Nat.reduceLT, ↓reduceIte, reduceCtorEq, List.reduceReplicate, List.flatten_cons, List.flatten_nil, List.append_nil, eq_self, Int.reduceLE, Int.reduceLT, Int.reduceToNat, Nat.min_eq_left, Int.reducePow, Int.reduceNeg, Int.reduceEq, d0, r3, ag, ca2, hw, rr]
  exact ⟨hlF, ik_one _ _, p0.put (Nat.le_add_right _ _) _⟩
theorem cost_spec {h : AHeap} {m : List Int} (hB : IsB m) (hl : m.length = 16) : Spec Try.prog nG fn.ots_Cost [.agg ⟨ik .u8 m⟩] h (.int .i64 (18 + cst (dgF m))) h := by
  refine SpecX.sc rfl (SpecX.of_body (ir.ots_Cost.spec (Nat.le_of_ble_eq_true rfl)) ?_)
  have ca : cellsA (.agg ⟨ik .u8 m⟩) = some (ik .u8 m) := rfl
  have ag : aggOf true (ik .u8 m) = some (.agg ⟨ik .u8 m⟩) := rfl
  have rr := (Fx.here h (ik .u8 m) []).whole (n := 16) (by rw [List.length_map, hl])
  simp (dsimp := false) only [↓ir.ots_Cost.bw, ir.ots_Cost.rs, go_sem, Nat.reduceAdd, Nat.reduceEqDiff, Nat.reduceMul, Nat.reduceLeDiff, Nat.reduceSub, Nat.reduceLT, ↓reduceIte, reduceCtorEq, List.reduceReplicate, List.flatten_cons, List.flatten_nil, List.append_nil, eq_self, Int.reduceLE, Int.reduceLT, Int.reduceToNat, Nat.min_eq_left, Int.reducePow, Int.reduceNeg, Int.reduceEq, ca, rr, ag]
  have p0 := Pre.app h [.row .fix (ik .u8 m)]
  generalize (h ++ [AObj.row .fix (ik .u8 m)]) = h1 at p0 ⊢
  refine callV_of (digits_spec hB hl) ?_
  have hD := dgF_D m
  have hdl : (dgF m).length = 68 := by rw [dgF_len, hl]
  obtain ⟨L, hL⟩ : ∃ L, dgF m = L := ⟨_, rfl⟩
  rw [hL] at hD hdl ⊢
  simp (dsimp := false) only [go_sem, Nat.reduceAdd, Nat.reduceEqDiff, Nat.reduceMul, Nat.reduceLeDiff, Nat.reduceSub, Nat.reduceLT, ↓reduceIte, reduceCtorEq, List.reduceReplicate, List.flatten_cons, List.flatten_nil, List.append_nil, eq_self, Int.reduceLE, Int.reduceLT, Int.reduceToNat, Nat.min_eq_left, Int.reducePow, Int.reduceNeg, Int.reduceEq]
  refine loopV_of (fun m' e h2 => ∃ i : Nat, m' = 68 - i ∧ i ≤ 68 ∧ h2 = h1 ∧
    e = [(3, .int .i64 (cst (L.take i))), (7, .agg ⟨ik .u8 L⟩), (8, .int .i64 (i : Int))]) _ ⟨0, rfl, Nat.zero_le _, rfl, rfl⟩ ?_
  rintro m' e h2 ⟨i, rfl, hi, rfl, rfl⟩
  have hc := (hD.take i).cst
  have htl : (L.take i).length = i := by rw [List.length_take]; omega
  rw [htl] at hc
  rcases Nat.lt_or_ge i 68 with hlt | hge
  case inl =>
    have d0 : decide ((i : Int) < 68) = true := decide_eq_true (by omega)
    have i5 : IntKind.i64.wrap ((i : Int) + 1) = ((i + 1 : Nat) : Int) := wrap_succ hlt (by unfold maxI; omega)
    have hsz : (⟨ik .u8 L⟩ : Array Value).size = 68 := by simp; omega
    obtain ⟨X, hX⟩ : ∃ X, L.getD i 0 = X := ⟨_, rfl⟩
    have el := ik_rd (k := .u8) (L := L) (i := i) (by omega)
    have hg : L[i]? = some X := by rw [← hX]; simp [List.getD, show i < L.length by omega]
    have hX0 := hD X (List.mem_of_getElem? hg)
    rw [hX] at el
    have ag : aggOf false [Value.int .u8 X] = some (.int .u8 X) := rfl
    have w4 : IntKind.i64.wrap X = X := wrap_i64 (by omega)
    have w5 : IntKind.i64.wrap (3 - X) = 3 - X := wrap_i64 (by omega)
    have w6 : IntKind.i64.wrap (cst (L.take i) + (3 - X)) = cst (L.take (i + 1)) := by
      rw [wrap_i64 (by omega), List.take_add_one, hg, cst_app]; simp [cst]
    simp (dsimp := false) only [↓ir.ots_Cost.l1.bw, go_sem, Nat.reduceAdd, Nat.reduceEqDiff, Nat.reduceMul, Nat.reduceLeDiff, Nat.reduceSub, Nat.reduceLT, ↓reduceIte, reduceCtorEq, List.reduceReplicate, List.flatten_cons, List.flatten_nil, List.append_nil, eq_self, Int.reduceLE, Int.reduceLT, Int.reduceToNat, Nat.min_eq_left, Int.reducePow, Int.reduceNeg, Int.reduceEq, d0, Int.toNat_natCast, Nat.mul_one, hsz, el, ag, w4, w5, w6, i5]
    (repeat (with_reducible refine And.intro (by omega) ?_))
    exact ⟨68 - (i + 1), by omega, i + 1, rfl, hlt, rfl⟩
  obtain rfl : i = 68 := by omega
  have d0 : decide (((68 : Nat) : Int) < 68) = false := rfl
  rw [List.take_of_length_le (by omega)] at hc ⊢
  have w6 : IntKind.i64.wrap (cst L + 18) = 18 + cst L := by rw [wrap_i64 (by omega)]; omega
  simp (dsimp := false) only [↓ir.ots_Cost.l1.bw, go_sem, Nat.reduceAdd, Nat.reduceEqDiff, Nat.reduceMul, Nat.reduceLeDiff, Nat.reduceSub, Nat.reduceLT, ↓reduceIte, reduceCtorEq, List.reduceReplicate, List.flatten_cons, List.flatten_nil, List.append_nil, eq_self, Int.reduceLE, Int.reduceLT, Int.reduceToNat, Nat.min_eq_left, Int.reducePow, Int.reduceNeg, Int.reduceEq, d0, w6]
  exact p0
end Go.Proofs.YtbomppdiiaodbaaRRR.B
/-
  Digits of a message (layer 10), and what they cost: the document's.
-/
namespace Go.Proofs.YtbomppdiiaodbaaRRR.B
open Go
set_option linter.unusedVariables false
set_option linter.unusedSimpArgs false
set_option maxRecDepth 100000
theorem q4_drop (x : Int) {t : Nat} (h : t < 4) : (q4 x).drop (4 - (t + 1)) = [x / 4 ^ t % 4] ++ (q4 x).drop (4 - t) := by
  rcases (show t = 0 ∨ t = 1 ∨ t = 2 ∨ t = 3 by omega) with rfl | rfl | rfl | rfl <;> simp [q4]
theorem IsD.drop {L : List Int} (h : IsD L) (n : Nat) : IsD (L.drop n) := fun x hx => h x (List.mem_of_mem_drop hx)
theorem irep_add4 (n : Nat) (h : n < 16) : irep (68 - 4 * n) 0 = irep 4 0 ++ irep (64 - 4 * n) 0 := by rw [← irep_add]; congr 1; omega
theorem rdigits_spec {h : AHeap} {m : List Int} (hB : IsB m) (hl : m.length = 16) : Spec Try.prog nG fn.ref10_Digits [.agg ⟨ik .u8 m⟩] h (.agg ⟨ik .u8 (dgF m)⟩) h := by
  refine SpecX.ag (ik_scalar _ _) (SpecX.of_body (ir.ref10_Digits.spec (Nat.le_of_ble_eq_true rfl)) ?_)
  have ca : cellsA (.agg ⟨ik .u8 m⟩) = some (ik .u8 m) := rfl
  have hml : (ik .u8 m).length = 16 := by rw [List.length_map, hl]
  simp (dsimp := false) only [↓ir.ref10_Digits.bw, ir.ref10_Digits.rs, go_sem, Nat.reduceAdd, Nat.reduceEqDiff, Nat.reduceMul, Nat.reduceLeDiff, Nat.reduceSub, Nat.reduceLT, ↓reduceIte, reduceCtorEq, List.reduceReplicate, List.flatten_cons, List.flatten_nil, List.append_nil, eq_self, Int.reduceLE, Int.reduceLT, Int.reduceToNat, Nat.min_eq_left, Int.reducePow, Int.reduceNeg, Int.reduceEq, ca, zrep_ik]
  have p0 := Pre.app h [.row .fix (ik .u8 m), .row .fix (ik .u8 (irep 68 0)), .row .fix (ik .u8 (irep 68 0))]
  have f1 : Fx (h ++ [.row .fix (ik .u8 m), .row .fix (ik .u8 (irep 68 0)), .row .fix (ik .u8 (irep 68 0))]) h.length (ik .u8 m) := by simp [Fx]
  have f2 : Fx (h ++ [.row .fix (ik .u8 m), .row .fix (ik .u8 (irep 68 0)), .row .fix (ik .u8 (irep 68 0))]) (h.length + 1) (ik .u8 (irep 68 0)) := by simp [Fx]
  have f3 : Fx (h ++ [.row .fix (ik .u8 m), .row .fix (ik .u8 (irep 68 0)), .row .fix (ik .u8 (irep 68 0))]) (h.length + 2) (ik .u8 (dgs (m.take 0) ++ irep (68 - 4 * 0) 0)) := by simp [Fx, dgs]
  generalize (h ++ [AObj.row .fix (ik .u8 m), .row .fix (ik .u8 (irep 68 0)), .row .fix (ik .u8 (irep 68 0))]) = h1 at p0 f1 f2 f3 ⊢
  have hdl : (dgs m).length = 64 := by rw [dgs_len, hl]
  refine loopV_of (fun m' e h2 => ∃ i : Nat, m' = 16 - i ∧ i ≤ 16 ∧ Pre h h2 ∧ Fx h2 h.length (ik .u8 m) ∧ Fx h2 (h.length + 1) (ik .u8 (irep 68 0)) ∧ Fx h2 (h.length + 2) (ik .u8 (dgs (m.take i) ++ irep (68 - 4 * i) 0)) ∧
    e = [(1, .pointer (some ⟨h.length, 0, none⟩)), (2, .pointer (some ⟨h.length + 1, 0, none⟩)), (3, .pointer (some ⟨h.length + 2, 0, none⟩)), (4, .int .i64 (cst (dgs (m.take i)))), (5, .int .i64 (i : Int))]) _ ⟨0, rfl, Nat.zero_le _, p0, f1, f2, f3, rfl⟩ ?_
  clear p0 f1 f2 f3
  rintro m' e h2 ⟨i, rfl, hi, p0, f1, f2, f3, rfl⟩
  have hc := (IsD.dgs (m.take i)).cst
  have htl : (dgs (m.take i)).length = 4 * i := by rw [dgs_len, List.length_take]; omega
  rw [htl] at hc
  rcases Nat.lt_or_ge i 16 with hlt | hge
  case inl =>
    have d0 : decide ((i : Int) < 16) = true := decide_eq_true (by omega)
    have i5 : IntKind.i64.wrap ((i : Int) + 1) = ((i + 1 : Nat) : Int) := wrap_succ hlt (by unfold maxI; omega)
    have rm := f1.krd (i := i) (by omega)
    obtain ⟨a0, a1⟩ := hB.getD i
    obtain ⟨x, hx⟩ : ∃ x, m.getD i 0 = x := ⟨_, rfl⟩
    have hg : m[i]? = some x := by rw [← hx]; simp [List.getD, show i < m.length by omega]
    have hT : dgs (m.take (i + 1)) = dgs (m.take i) ++ q4 x := by rw [List.take_add_one, hg, dgs_app]; simp [dgs]
    rw [hx] at rm a0 a1
    rw [irep_add4 i hlt] at f3
    obtain ⟨A, hA⟩ : ∃ A, dgs (m.take i) = A := ⟨_, rfl⟩
    rw [hA] at f3 hc htl hT ⊢
    obtain ⟨Z, hZ⟩ : ∃ Z, irep (64 - 4 * i) 0 = Z := ⟨_, rfl⟩
    have hZl : Z.length = 64 - 4 * i := by rw [← hZ, irep_len]
    rw [hZ] at f3
    simp (dsimp := false) only [↓ir.ref10_Digits.l2.bw, go_sem, Nat.reduceAdd, Nat.reduceEqDiff, Nat.reduceMul, Nat.reduceLeDiff, Nat.reduceSub, Nat.reduceLT, ↓reduceIte, reduceCtorEq, List.reduceReplicate, List.flatten_cons, List.flatten_nil, List.append_nil, eq_self, Int.reduceLE, Int.reduceLT, Int.reduceToNat, Nat.min_eq_left, Int.reducePow, Int.reduceNeg, Int.reduceEq, d0, Int.toNat_natCast, Nat.mul_one, rm]
    refine ⟨by omega, ?_⟩
    refine loopV_of (fun m' e h3 => ∃ t : Nat, m' = 4 - t ∧ t ≤ 4 ∧ Pre h h3 ∧ Fx h3 h.length (ik .u8 m) ∧ Fx h3 (h.length + 1) (ik .u8 (irep 68 0)) ∧ Fx h3 (h.length + 2) (ik .u8 (A ++ (low4 x t ++ Z))) ∧
      e = [(1, .pointer (some ⟨h.length, 0, none⟩)), (2, .pointer (some ⟨h.length + 1, 0, none⟩)), (3, .pointer (some ⟨h.length + 2, 0, none⟩)), (4, .int .i64 (cst A + cst ((q4 x).drop (4 - t)))), (5, .int .i64 (i : Int)), (6, .int .u8 (x / 4 ^ t)), (7, .int .i64 (3 - (t : Int)))]) _
      ⟨0, rfl, Nat.zero_le _, p0, f1, f2, f3, by simp [cst, q4]⟩ ?_
    clear p0 f1 f2 f3 rm d0
    rintro m' e h3 ⟨t, rfl, ht, p0, f1, f2, f3, rfl⟩
    have hc2 := ((IsD.q4 x).drop (4 - t)).cst
    have hq4 : ((q4 x).drop (4 - t)).length ≤ 4 := by rw [List.length_drop]; have : (q4 x).length = 4 := rfl; omega
    rcases Nat.lt_or_ge t 4 with hlt2 | hge2
    case inl =>
      have d0 : decide ((3 - (t : Int)) ≥ 0) = true := decide_eq_true (by omega)
      have d1 : decide (0 ≤ (3 - (t : Int))) = true := d0
      have hpos : (0 : Int) < 4 ^ t := Int.pow_pos (by omega)
      have y0 : 0 ≤ x / 4 ^ t := Int.ediv_nonneg a0 (Int.le_of_lt hpos)
      have y1 : x / 4 ^ t ≤ x := Int.ediv_le_self _ a0
      have b1 : IntKind.u8.wrap ((x / 4 ^ t).tdiv 4) = x / 4 ^ (t + 1) := by
        rw [Int.tdiv_eq_ediv_of_nonneg y0, IntKind.wrap_u8, Int.pow_succ, ← Int.ediv_ediv_of_nonneg (Int.le_of_lt hpos)]
        omega
      have b0 : IntKind.u8.wrap ((x / 4 ^ t).tmod 4) = x / 4 ^ t % 4 := by rw [Int.tmod_eq_emod_of_nonneg y0, IntKind.wrap_u8]; omega
      have b2 : (x / 4 ^ t).tmod 4 = x / 4 ^ t % 4 := Int.tmod_eq_emod_of_nonneg y0
      have hd := q4_drop x hlt2
      have hs := low4_set x hlt2
      obtain ⟨X, hX⟩ : ∃ X, x / 4 ^ t % 4 = X := ⟨_, rfl⟩
      rw [hX] at b0 b2 hd hs
      have hX0 : 0 ≤ X ∧ X < 4 := by omega
      have w1 : IntKind.i64.wrap ((i : Int) * 4) = ((4 * i : Nat) : Int) := by rw [wrap_i64 (by omega)]; omega
      have w2 : IntKind.i64.wrap (((4 * i : Nat) : Int) + (3 - (t : Int))) = ((4 * i + (3 - t) : Nat) : Int) := by rw [wrap_i64 (by omega)]; omega
      have w1' : IntKind.i64.wrap (4 * (i : Int)) = ((4 * i : Nat) : Int) := by rw [wrap_i64 (by omega)]; omega
      have w4 : IntKind.i64.wrap X = X := wrap_i64 (by omega)
      have w5 : IntKind.i64.wrap (cst A + cst ((q4 x).drop (4 - t)) + 3) = cst A + cst ((q4 x).drop (4 - t)) + 3 := wrap_i64 (by omega)
      have w6 : IntKind.i64.wrap (cst A + cst ((q4 x).drop (4 - t)) + 3 - X) = cst A + cst ((q4 x).drop (4 - (t + 1))) := by
        rw [wrap_i64 (by omega), hd, cst_app, cst_one]; omega
      have jw : IntKind.i64.wrap (3 - (t : Int) - 1) = 3 - ((t + 1 : Nat) : Int) := by rw [wrap_i64 (by omega)]; omega
      have hw := f3.kwr (i := 4 * i + (3 - t)) (by rw [List.length_append, List.length_append, htl, low4_len x ht, hZl]; omega) X
      rw [List.set_append_right _ _ (by omega), htl, Nat.add_sub_cancel_left, List.set_append_left _ _ (by rw [low4_len x ht]; omega), hs] at hw
      simp (dsimp := false) only [↓ir.ref10_Digits.l1.bw, go_sem, Nat.reduceAdd, Nat.reduceEqDiff, Nat.reduceMul, Nat.reduceLeDiff, Nat.reduceSub, Nat.reduceLT, ↓reduceIte, reduceCtorEq, List.reduceReplicate, List.flatten_cons, List.flatten_nil, List.append_nil, eq_self, Int.reduceLE, Int.reduceLT, Int.reduceToNat, Nat.min_eq_left, Int.reducePow, Int.reduceNeg, Int.reduceEq, d0, d1, w1, w1', w2, Int.toNat_natCast, Nat.mul_one, b0, b1, b2, w4, w5, w6, jw, hw]
      (repeat (with_reducible refine And.intro (by omega) ?_))
      exact ⟨4 - (t + 1), by omega, t + 1, rfl, hlt2, p0.put (Nat.le_add_right _ _) _, f1.other (by omega) _, f2.other (by omega) _, f3.set _, rfl⟩
    obtain rfl : t = 4 := by omega
    have d0 : decide ((3 - ((4 : Nat) : Int)) ≥ 0) = false := rfl
    have e4 : A ++ (low4 x 4 ++ Z) = dgs (m.take (i + 1)) ++ irep (68 - 4 * (i + 1)) 0 := by
      rw [hT, ← hZ, show 68 - 4 * (i + 1) = 64 - 4 * i by omega]
      have : low4 x 4 = q4 x := rfl
      rw [this, List.append_assoc]
    have e5 : cst A + cst (q4 x) = cst (dgs (m.take (i + 1))) := by rw [hT, cst_app]
    rw [e4] at f3
    simp (dsimp := false) only [↓ir.ref10_Digits.l1.bw, go_sem, Nat.reduceAdd, Nat.reduceEqDiff, Nat.reduceMul, Nat.reduceLeDiff, Nat.reduceSub, Nat.reduceLT, ↓reduceIte, reduceCtorEq, List.reduceReplicate, List.flatten_cons, List.flatten_nil, List.append_nil, eq_self, Int.reduceLE, Int.reduceLT, Int.reduceToNat, Nat.min_eq_left, Int.reducePow, Int.reduceNeg, Int.reduceEq, d0, i5, e5]
    exact ⟨16 - (i + 1), by omega, i + 1, rfl, hlt, p0, f1, f2, f3, rfl⟩
  obtain rfl : i = 16 := by omega
  have d0 : decide (((16 : Nat) : Int) < 16) = false := rfl
  have ed : m.take 16 = m := List.take_of_length_le (by omega)
  rw [ed] at f3 hc ⊢
  obtain ⟨S, hS⟩ : ∃ S, cst (dgs m) = S := ⟨_, rfl⟩
  have e3 : dgs m ++ irep (68 - 4 * 16) 0 = dgs m ++ low4 S 0 := rfl
  rw [e3] at f3
  have hF : dgF m = dgs m ++ q4 S := by rw [dgF, hS]
  rw [hS] at hc ⊢
  simp (dsimp := false) only [↓ir.ref10_Digits.l2.bw, go_sem, Nat.reduceAdd, Nat.reduceEqDiff, Nat.reduceMul, Nat.reduceLeDiff, Nat.reduceSub, Nat.reduceLT, ↓reduceIte, reduceCtorEq, List.reduceReplicate, List.flatten_cons, List.flatten_nil, List.append_nil, eq_self, Int.reduceLE, Int.reduceLT, Int.reduceToNat, Nat.min_eq_left, Int.reducePow, Int.reduceNeg, Int.reduceEq, d0]
  clear d0 e3
  refine loopV_of (fun m' e h3 => ∃ t : Nat, m' = 4 - t ∧ t ≤ 4 ∧ Pre h h3 ∧ Fx h3 (h.length + 1) (ik .u8 (irep 68 0)) ∧ Fx h3 (h.length + 2) (ik .u8 (dgs m ++ low4 S t)) ∧
    e = [(2, .pointer (some ⟨h.length + 1, 0, none⟩)), (3, .pointer (some ⟨h.length + 2, 0, none⟩)), (4, .int .i64 (S / 4 ^ t)), (8, .int .i64 (3 - (t : Int)))]) _ ⟨0, rfl, Nat.zero_le _, p0, f2, f3, by simp⟩ ?_
  clear p0 f1 f2 f3
  rintro m' e h3 ⟨t, rfl, ht, p0, f2, f3, rfl⟩
  rcases Nat.lt_or_ge t 4 with hlt2 | hge2
  case inl =>
    have d0 : decide ((3 - (t : Int)) ≥ 0) = true := decide_eq_true (by omega)
    have d1 : decide (0 ≤ (3 - (t : Int))) = true := d0
    have hpos : (0 : Int) < 4 ^ t := Int.pow_pos (by omega)
    have y0 : 0 ≤ S / 4 ^ t := Int.ediv_nonneg hc.1 (Int.le_of_lt hpos)
    have y1 : S / 4 ^ t ≤ S := Int.ediv_le_self _ hc.1
    have b1 : IntKind.i64.wrap ((S / 4 ^ t).tdiv 4) = S / 4 ^ (t + 1) := by
      rw [Int.tdiv_eq_ediv_of_nonneg y0, Int.pow_succ, ← Int.ediv_ediv_of_nonneg (Int.le_of_lt hpos), wrap_i64 (by omega)]
    have b2 : (S / 4 ^ t).tmod 4 = S / 4 ^ t % 4 := Int.tmod_eq_emod_of_nonneg y0
    have hs := low4_set S hlt2
    obtain ⟨X, hX⟩ : ∃ X, S / 4 ^ t % 4 = X := ⟨_, rfl⟩
    rw [hX] at b2 hs
    have hX0 : 0 ≤ X ∧ X < 4 := by omega
    have w2 : IntKind.i64.wrap (64 + (3 - (t : Int))) = ((64 + (3 - t) : Nat) : Int) := by rw [wrap_i64 (by omega)]; omega
    have w3 : IntKind.i64.wrap X = X := wrap_i64 (by omega)
    have w4 : IntKind.u8.wrap X = X := by rw [IntKind.wrap_u8]; omega
    have jw : IntKind.i64.wrap (3 - (t : Int) - 1) = 3 - ((t + 1 : Nat) : Int) := by rw [wrap_i64 (by omega)]; omega
    have hw := f3.kwr (i := 64 + (3 - t)) (by rw [List.length_append, low4_len S ht, hdl]; omega) X
    rw [List.set_append_right _ _ (by omega), hdl, Nat.add_sub_cancel_left, hs] at hw
    simp (dsimp := false) only [↓ir.ref10_Digits.l3.bw, go_sem, Nat.reduceAdd, Nat.reduceEqDiff, Nat.reduceMul, Nat.reduceLeDiff, Nat.reduceSub, Nat.reduceLT, ↓reduceIte, reduceCtorEq, List.reduceReplicate, List.flatten_cons, List.flatten_nil, List.append_nil, eq_self, Int.reduceLE, Int.reduceLT, Int.reduceToNat, Nat.min_eq_left, Int.reducePow, Int.reduceNeg, Int.reduceEq, d0, d1, w2, Int.toNat_natCast, Nat.mul_one, b1, b2, w3, w4, jw, hw]
    (repeat (with_reducible refine And.intro (by omega) ?_))
    exact ⟨4 - (t + 1), by omega, t + 1, rfl, hlt2, p0.put (Nat.le_add_right _ _) _, f2.other (by omega) _, f3.set _, rfl⟩
  obtain rfl : t = 4 := by omega
  have d0 : decide ((3 - ((4 : Nat) : Int)) ≥ 0) = false := rfl
  have e4 : low4 S 4 = q4 S := rfl
  rw [e4, ← hF] at f3
  have hlF : (ik .u8 (dgF m)).length = 68 := by rw [List.length_map, dgF_len, hl]
  have r3 := f3.whole hlF
  have ag : aggOf true (ik .u8 (dgF m)) = some (.agg ⟨ik .u8 (dgF m)⟩) := rfl
  have ca2 : cellsA (.agg ⟨ik .u8 (dgF m)⟩) = some (ik .u8 (dgF m)) := rfl
  have hw := f2.over (vs := ik .u8 (dgF m)) (by rw [hlF, List.length_map, irep_len])
  have rr := (f2.set (ik .u8 (dgF m))).whole hlF
  simp (dsimp := false) only [↓ir.ref10_Digits.l3.bw, go_sem, Nat.reduceAdd, Nat.reduceEqDiff, Nat.reduceMul, Nat.reduceLeDiff, Nat.reduceSub, Nat.reduceLT, ↓reduceIte, reduceCtorEq, List.reduceReplicate, List.flatten_cons, List.flatten_nil, List.append_nil, eq_self, Int.reduceLE, Int.reduceLT, Int.reduceToNat, Nat.min_eq_left, Int.reducePow, Int.reduceNeg, Int.reduceEq, d0, r3, ag, ca2, hw, rr]
  exact ⟨hlF, ik_one _ _, p0.put (Nat.le_add_right _ _) _⟩
theorem rcost_spec {h : AHeap} {m : List Int} (hB : IsB m) (hl : m.length = 16) : Spec Try.prog nG fn.ref10_Cost [.agg ⟨ik .u8 m⟩] h (.int .i64 (18 + cst (dgF m))) h := by
  refine SpecX.sc rfl (SpecX.of_body (ir.ref10_Cost.spec (Nat.le_of_ble_eq_true rfl)) ?_)
  have ca : cellsA (.agg ⟨ik .u8 m⟩) = some (ik .u8 m) := rfl
  have ag : aggOf true (ik .u8 m) = some (.agg ⟨ik .u8 m⟩) := rfl
  have rr := (Fx.here h (ik .u8 m) []).whole (n := 16) (by rw [List.length_map, hl])
  simp (dsimp := false) only [↓ir.ref10_Cost.bw, ir.ref10_Cost.rs, go_sem, Nat.reduceAdd, Nat.reduceEqDiff, Nat.reduceMul, Nat.reduceLeDiff, Nat.reduceSub, Nat.reduceLT, ↓reduceIte, reduceCtorEq, List.reduceReplicate, List.flatten_cons, List.flatten_nil, List.append_nil, eq_self, Int.reduceLE, Int.reduceLT, Int.reduceToNat, Nat.min_eq_left, Int.reducePow, Int.reduceNeg, Int.reduceEq, ca, rr, ag]
  have p0 := Pre.app h [.row .fix (ik .u8 m)]
  have hle : h.length ≤ (h ++ [AObj.row .fix (ik .u8 m)]).length := by simp
  generalize (h ++ [AObj.row .fix (ik .u8 m)]) = h1 at p0 hle ⊢
  refine callV_of (rdigits_spec hB hl) ?_
  have hD := dgF_D m
  have hdl : (dgF m).length = 68 := by rw [dgF_len, hl]
  obtain ⟨L, hL⟩ : ∃ L, dgF m = L := ⟨_, rfl⟩
  rw [hL] at hD hdl ⊢
  have ca2 : cellsA (.agg ⟨ik .u8 L⟩) = some (ik .u8 L) := rfl
  have hw := wrs_new (h := h1) (cs := ik .u8 (irep 68 0)) (vs := ik .u8 L) (by rw [List.length_map, List.length_map, irep_len, hdl])
  simp (dsimp := false) only [go_sem, Nat.reduceAdd, Nat.reduceEqDiff, Nat.reduceMul, Nat.reduceLeDiff, Nat.reduceSub, Nat.reduceLT, ↓reduceIte, reduceCtorEq, List.reduceReplicate, List.flatten_cons, List.flatten_nil, List.append_nil, eq_self, Int.reduceLE, Int.reduceLT, Int.reduceToNat, Nat.min_eq_left, Int.reducePow, Int.reduceNeg, Int.reduceEq, zrep_ik, ca2, hw]
  refine ⟨by rw [List.length_map, hdl], ik_one _ _, ?_⟩
  have f1 : Fx (h1 ++ [AObj.row .fix (ik .u8 L)]) h1.length (ik .u8 L) := Fx.here _ _ _
  have p1 := p0.app' [AObj.row .fix (ik .u8 L)]
  generalize (h1 ++ [AObj.row .fix (ik .u8 L)]) = h2 at f1 p1 ⊢
  refine loopV_of (fun m' e h3 => ∃ i : Nat, m' = 68 - i ∧ i ≤ 68 ∧ h3 = h2 ∧
    e = [(3, .pointer (some ⟨h1.length, 0, none⟩)), (4, .int .i64 (18 + cst (L.take i))), (5, .int .i64 (i : Int))]) _ ⟨0, rfl, Nat.zero_le _, rfl, rfl⟩ ?_
  rintro m' e h3 ⟨i, rfl, hi, rfl, rfl⟩
  have hc := (hD.take i).cst
  have htl : (L.take i).length = i := by rw [List.length_take]; omega
  rw [htl] at hc
  rcases Nat.lt_or_ge i 68 with hlt | hge
  case inl =>
    have d0 : decide ((i : Int) < 68) = true := decide_eq_true (by omega)
    have i5 : IntKind.i64.wrap ((i : Int) + 1) = ((i + 1 : Nat) : Int) := wrap_succ hlt (by unfold maxI; omega)
    obtain ⟨X, hX⟩ : ∃ X, L.getD i 0 = X := ⟨_, rfl⟩
    have rm := f1.krd (i := i) (by omega)
    have hg : L[i]? = some X := by rw [← hX]; simp [List.getD, show i < L.length by omega]
    have hX0 := hD X (List.mem_of_getElem? hg)
    rw [hX] at rm
    have w4 : IntKind.i64.wrap X = X := wrap_i64 (by omega)
    have w5 : IntKind.i64.wrap (18 + cst (L.take i) + 3) = 18 + cst (L.take i) + 3 := wrap_i64 (by omega)
    have w6 : IntKind.i64.wrap (18 + cst (L.take i) + 3 - X) = 18 + cst (L.take (i + 1)) := by
      rw [wrap_i64 (by omega), List.take_add_one, hg, cst_app]; simp [cst]; omega
    simp (dsimp := false) only [↓ir.ref10_Cost.l1.bw, go_sem, Nat.reduceAdd, Nat.reduceEqDiff, Nat.reduceMul, Nat.reduceLeDiff, Nat.reduceSub, Nat.reduceLT, ↓reduceIte, reduceCtorEq, List.reduceReplicate, List.flatten_cons, List.flatten_nil, List.append_nil, eq_self, Int.reduceLE, Int.reduceLT, Int.reduceToNat, Nat.min_eq_left, Int.reducePow, Int.reduceNeg, Int.reduceEq, d0, Int.toNat_natCast, Nat.mul_one, rm, w4, w5, w6, i5]
    (repeat (with_reducible refine And.intro (by omega) ?_))
    exact ⟨68 - (i + 1), by omega, i + 1, rfl, hlt, rfl⟩
  obtain rfl : i = 68 := by omega
  have d0 : decide (((68 : Nat) : Int) < 68) = false := rfl
  rw [List.take_of_length_le (by omega)] at hc ⊢
  simp (dsimp := false) only [↓ir.ref10_Cost.l1.bw, go_sem, Nat.reduceAdd, Nat.reduceEqDiff, Nat.reduceMul, Nat.reduceLeDiff, Nat.reduceSub, Nat.reduceLT, ↓reduceIte, reduceCtorEq, List.reduceReplicate, List.flatten_cons, List.flatten_nil, List.append_nil, eq_self, Int.reduceLE, Int.reduceLT, Int.reduceToNat, Nat.min_eq_left, Int.reducePow, Int.reduceNeg, Int.reduceEq, d0]
  exact p1
theorem shortF_isB (b : Int) (ps : List (List Int)) : IsB (shortF b ps) := by
  refine IsB.take (fun y hy => ?_) 16
  unfold shaF at hy
  obtain ⟨x, _, hx⟩ := List.mem_flatMap.1 hy
  exact IsB.be 4 x y hx
theorem ncost_spec {h : AHeap} {X : List Int} {d e : Int} (hB : IsB X) (hBl : X.length = 32) (he0 : 0 ≤ e) (he1 : e < 4294967296) :
    Spec Try.prog nG fn.renew_Cost [.agg ⟨sgC d e X⟩] h (.int .i64 (19 + cst (dgF (shortF 82 [recF d e X])))) h := by
  refine SpecX.sc rfl (SpecX.of_body (ir.renew_Cost.spec (Nat.le_of_ble_eq_true rfl)) ?_)
  have ca : cellsA (.agg ⟨sgC d e X⟩) = some (sgC d e X) := rfl
  have hl : (sgC d e X).length = 34 := by rw [sgC_len, hBl]
  have ag : aggOf true (sgC d e X) = some (.agg ⟨sgC d e X⟩) := rfl
  have rs := ((Fx.here h (sgC d e X) []).whole hl)
  simp (dsimp := false) only [↓ir.renew_Cost.bw, ir.renew_Cost.rs, go_sem, Nat.reduceAdd, Nat.reduceEqDiff, Nat.reduceMul, Nat.reduceLeDiff, Nat.reduceSub, Nat.reduceLT, ↓reduceIte, reduceCtorEq, List.reduceReplicate, List.flatten_cons, List.flatten_nil, List.append_nil, eq_self, Int.reduceLE, Int.reduceLT, Int.reduceToNat, Nat.min_eq_left, Int.reducePow, Int.reduceNeg, Int.reduceEq, ca, rs, ag]
  have p0 := Pre.app h [.row .fix (sgC d e X)]
  generalize (h ++ [AObj.row .fix (sgC d e X)]) = h1 at p0 ⊢
  refine callV_of (message_spec hB hBl he0 he1) ?_
  simp (dsimp := false) only [go_sem, Nat.reduceAdd, Nat.reduceEqDiff, Nat.reduceMul, Nat.reduceLeDiff, Nat.reduceSub, Nat.reduceLT, ↓reduceIte, reduceCtorEq, List.reduceReplicate, List.flatten_cons, List.flatten_nil, List.append_nil, eq_self, Int.reduceLE, Int.reduceLT, Int.reduceToNat, Nat.min_eq_left, Int.reducePow, Int.reduceNeg, Int.reduceEq]
  refine callV_of (cost_spec (shortF_isB _ _) (shortF_len _ _)) ?_
  have hc := (dgF_D (shortF 82 [recF d e X])).cst
  rw [dgF_len, shortF_len] at hc
  have w : IntKind.i64.wrap (1 + (18 + cst (dgF (shortF 82 [recF d e X])))) = 19 + cst (dgF (shortF 82 [recF d e X])) := by rw [wrap_i64 (by omega)]; omega
  simp (dsimp := false) only [go_sem, Nat.reduceAdd, Nat.reduceEqDiff, Nat.reduceMul, Nat.reduceLeDiff, Nat.reduceSub, Nat.reduceLT, ↓reduceIte, reduceCtorEq, List.reduceReplicate, List.flatten_cons, List.flatten_nil, List.append_nil, eq_self, Int.reduceLE, Int.reduceLT, Int.reduceToNat, Nat.min_eq_left, Int.reducePow, Int.reduceNeg, Int.reduceEq, w]
  exact p0
end Go.Proofs.YtbomppdiiaodbaaRRR.B
