/-
  The program's sum (layer 4): the sum of what was written.
-/
import Derived.Test.YtbomppdiiaodbaaRRRSh3
namespace Go.Proofs.YtbomppdiiaodbaaRRR.B
open Go
set_option linter.unusedVariables false
set_option linter.unusedSimpArgs false
set_option maxRecDepth 100000
theorem tmod_nat (a b : Nat) : ((a : Int)).tmod (b : Int) = ((a % b : Nat) : Int) := by
  rw [Int.tmod_eq_emod_of_nonneg (by omega)]; omega
theorem byte_sh (x : Int) (k : Nat) : IntKind.u8.wrap (x.fdiv (256 ^ k)) = x / 256 ^ k % 256 := by
  rw [IntKind.wrap_u8, Int.fdiv_eq_ediv_of_nonneg _ (Int.le_of_lt (Int.pow_pos (by omega)))]
/-- The bytes of the words so far, zeros behind. -/
def dF (T : St) (i : Nat) : List Int := (T.l.take i).flatMap (beF 4) ++ irep (32 - 4 * i) 0
theorem dF_len (T : St) {i : Nat} (h : i ≤ 8) : (dF T i).length = 32 := by
  rcases (show i = 0 ∨ i = 1 ∨ i = 2 ∨ i = 3 ∨ i = 4 ∨ i = 5 ∨ i = 6 ∨ i = 7 ∨ i = 8 by omega) with rfl | rfl | rfl | rfl | rfl | rfl | rfl | rfl | rfl <;> rfl
theorem be4 (x : Int) : beF 4 x = [x / 16777216 % 256, x / 65536 % 256, x / 256 % 256, x % 256] := by
  have : beF 4 x = [x / 256 ^ 3 % 256, x / 256 ^ 2 % 256, x / 256 ^ 1 % 256, x / 256 ^ 0 % 256] := rfl
  rw [this]
  simp
theorem dF_set (T : St) {i : Nat} (h : i < 8) : ((((dF T i).set (4 * i) (T.l.getD i 0 / 16777216 % 256)).set (4 * i + 1) (T.l.getD i 0 / 65536 % 256)).set (4 * i + 2) (T.l.getD i 0 / 256 % 256)).set (4 * i + 3) (T.l.getD i 0 % 256) = dF T (i + 1) := by
  rcases (show i = 0 ∨ i = 1 ∨ i = 2 ∨ i = 3 ∨ i = 4 ∨ i = 5 ∨ i = 6 ∨ i = 7 by omega) with rfl | rfl | rfl | rfl | rfl | rfl | rfl | rfl <;> (simp only [dF, St.l, List.take, List.flatMap_cons, List.flatMap_nil, be4]; rfl)
theorem dF_full (T : St) : dF T 8 = T.l.flatMap (beF 4) := by
  simp [dF, St.l, irep]
theorem be_take (X : Int) {j : Nat} (h : j < 8) : (beF 8 X).take (j + 1) = (beF 8 X).take j ++ [X / 256 ^ (7 - j) % 256] := by
  rcases (show j = 0 ∨ j = 1 ∨ j = 2 ∨ j = 3 ∨ j = 4 ∨ j = 5 ∨ j = 6 ∨ j = 7 by omega) with rfl | rfl | rfl | rfl | rfl | rfl | rfl | rfl <;> rfl
theorem len_byte (X : Int) {j : Nat} (h : j < 8) : IntKind.u8.wrap (X.fdiv (2 ^ min (56 - 8 * (j : Int)).toNat 64)) = X / 256 ^ (7 - j) % 256 := by
  have : (2 : Int) ^ min (56 - 8 * (j : Int)).toNat 64 = 256 ^ (7 - j) := by
    rw [show (256 : Int) = 2 ^ 8 from rfl, ← Int.pow_mul]
    congr 1
    omega
  rw [this, byte_sh]
theorem sum_spec {h0 h : AHeap} {b : Nat} {m : List Int} (H : HashV h0 h b m) (hm : m.length ≤ 70368744177664) : Spec Try.prog nG fn.sha_Hash_Sum [.pointer (some ⟨b, 0, none⟩)] h (.agg ⟨ik .u8 (shaF m)⟩) h := by
  refine SpecX.ag (ik_scalar _ _) (SpecX.of_body (ir.sha_Hash_Sum.spec (Nat.le_of_ble_eq_true rfl)) ?_)
  obtain ⟨v, f, o⟩ := H.is
  obtain ⟨S0, hS⟩ : ∃ S, hashF mixF st0 m = S := ⟨_, rfl⟩
  rw [hS] at f
  have rv : ∀ g, rds (h ++ g) b 8 1 = some [v] := fun g => f.rdA (off := 8) (n := 1) (vs := [v]) rfl (by simp [St.c']) g
  have src : ∀ g, appSrc (h ++ g) 1 false v = some ((restF m).length, ik .u8 (restF m)) := fun g => o.lsK.src (.app h g)
  simp (dsimp := false) only [↓ir.sha_Hash_Sum.bw, ir.sha_Hash_Sum.rs, go_sem, Nat.reduceAdd, Nat.reduceEqDiff, Nat.reduceMul, Nat.reduceLeDiff, Nat.reduceSub, Nat.reduceLT, ↓reduceIte, reduceCtorEq, List.reduceReplicate, List.flatten_cons, List.flatten_nil, List.append_nil, eq_self, Int.reduceLE, Int.reduceLT, Int.reduceToNat, Nat.min_eq_left, Int.reducePow, Int.reduceNeg, Int.reduceEq, rv, zrep_ik, src]
  obtain ⟨oB, e0⟩ : ∃ n, h.length = n := ⟨_, rfl⟩
  obtain ⟨dB, e1⟩ : ∃ n, h.length + 1 = n := ⟨_, rfl⟩
  rw [e0] at e1
  obtain ⟨N, hN⟩ : ∃ N, m.length = N := ⟨_, rfl⟩
  have hrl : (restF m).length = N % 64 := by rw [restF_len, hN]
  have hob : oB < dB := by omega
  have hol : h.length ≤ oB := by omega
  have f0 : Fx (h ++ [.row .fix (ik .u8 (irep 32 0)), .row .fix (ik .u8 (irep 32 0)), .row (.grow 1) []]) oB (ik .u8 (irep 32 0)) := by simp [Fx, ← e0]
  have f1 : Fx (h ++ [.row .fix (ik .u8 (irep 32 0)), .row .fix (ik .u8 (irep 32 0)), .row (.grow 1) []]) dB (ik .u8 (irep 32 0)) := by simp [Fx, ← e1, ← e0]
  have oe : Ow h (h ++ [.row .fix (ik .u8 (irep 32 0)), .row .fix (ik .u8 (irep 32 0)), .row (.grow 1) []]) 1 (.slice (some ⟨h.length + 2, 0, none⟩) 0 0) 0 [] := by
    have := Ow.empty (h0 := h) (h := h ++ [.row .fix (ik .u8 (irep 32 0)), .row .fix (ik .u8 (irep 32 0))]) (sz := 1) (by simp)
    simpa using this
  have p0 := Pre.app h [.row .fix (ik .u8 (irep 32 0)), .row .fix (ik .u8 (irep 32 0)), .row (.grow 1) []]
  rw [e0]
  rw [e0] at oe
  rw [e1]
  generalize (h ++ [AObj.row .fix (ik .u8 (irep 32 0)), .row .fix (ik .u8 (irep 32 0)), .row (.grow 1) []]) = h1 at f0 f1 oe p0 ⊢
  refine oe.app (by simp) (ik_one _ _) ⟨by omega, by omega⟩ (fun v2 h2 o2 hc _ _ => ?_) p0
  simp only [Nat.zero_add, List.nil_append] at o2
  have f0 := f0.chg hc (oe.nfix f0)
  have f1 := f1.chg hc (oe.nfix f1)
  have p0 := hc.pre p0
  clear hc oe
  simp (dsimp := false) only [go_sem, Nat.reduceAdd, Nat.reduceEqDiff, Nat.reduceMul, Nat.reduceLeDiff, Nat.reduceSub, Nat.reduceLT, ↓reduceIte, reduceCtorEq, List.reduceReplicate, List.flatten_cons, List.flatten_nil, List.append_nil, eq_self, Int.reduceLE, Int.reduceLT, Int.reduceToNat, Nat.min_eq_left, Int.reducePow, Int.reduceNeg, Int.reduceEq]
  refine (o2.pre (.app h2 [.row (.grow 1) [.int .u8 128]])).app (m := 1) rfl rfl ⟨by omega, by omega⟩ (fun v3 h3 o3 hc _ _ => ?_) (p0.app' _)
  have f0 := (f0.app _).chg hc ((o2.pre (.app h2 [.row (.grow 1) [.int .u8 128]])).nfix (f0.app _))
  have f1 := (f1.app _).chg hc ((o2.pre (.app h2 [.row (.grow 1) [.int .u8 128]])).nfix (f1.app _))
  have p0 := hc.pre (p0.app' _)
  clear hc o2
  have ev : ik .u8 (restF m) ++ [.int .u8 128] = ik .u8 (restF m ++ 128 :: List.replicate 0 0) := by simp
  rw [ev] at o3
  simp (dsimp := false) only [go_sem, Nat.reduceAdd, Nat.reduceEqDiff, Nat.reduceMul, Nat.reduceLeDiff, Nat.reduceSub, Nat.reduceLT, ↓reduceIte, reduceCtorEq, List.reduceReplicate, List.flatten_cons, List.flatten_nil, List.append_nil, eq_self, Int.reduceLE, Int.reduceLT, Int.reduceToNat, Nat.min_eq_left, Int.reducePow, Int.reduceNeg, Int.reduceEq]
  have hisb : IsB (restF m) := restF_isB H.isb
  refine loopV_of (fun m' e h4 => ∃ (k : Nat) (v : Value), m' = zpad N - k ∧ k ≤ zpad N ∧ Pre h h4 ∧ Fx h4 oB (ik .u8 (irep 32 0)) ∧ Fx h4 dB (ik .u8 (irep 32 0)) ∧ Ow h h4 1 v (N % 64 + 1 + k) (ik .u8 (restF m ++ 128 :: List.replicate k 0)) ∧
    e = [(0, .pointer (some ⟨b, 0, none⟩)), (2, .pointer (some ⟨oB, 0, none⟩)), (3, .pointer (some ⟨dB, 0, none⟩)), (4, v)]) _ ⟨0, v3, rfl, Nat.zero_le _, p0, f0, f1, by rw [← hrl]; exact o3, rfl⟩ ?_
  clear f0 f1 o3 p0 ev
  rintro m' e h1 ⟨k, v1, rfl, hk, p0, f0, f1, o1, rfl⟩
  have lv : ∀ {h2 : AHeap} {K : Value → AHeap → Prop} {u : Hold K}, lenV false v1 h2 K u = mvV (.int .i64 ((N % 64 + 1 + k : Nat) : Int)) h2 K u := o1.sl.lenV
  have tm : ((N % 64 + 1 + k : Nat) : Int).tmod 64 = (((N % 64 + 1 + k) % 64 : Nat) : Int) := tmod_nat _ 64
  have hz := zpad_at (n := N % 64) (k := k) (by rw [zpad_mod]; exact hk)
  rw [zpad_mod] at hz
  by_cases hlt : k = zpad N
  case neg =>
    have d0 : ((((N % 64 + 1 + k) % 64 : Nat) : Int) != 56) = true := by
      have := fun q => hlt (hz.1 q)
      simp only [bne_iff_ne, ne_eq]; omega
    simp (dsimp := false) only [↓ir.sha_Hash_Sum.l1.bw, go_sem, Nat.reduceAdd, Nat.reduceEqDiff, Nat.reduceMul, Nat.reduceLeDiff, Nat.reduceSub, Nat.reduceLT, ↓reduceIte, reduceCtorEq, List.reduceReplicate, List.flatten_cons, List.flatten_nil, List.append_nil, eq_self, Int.reduceLE, Int.reduceLT, Int.reduceToNat, Nat.min_eq_left, Int.reducePow, Int.reduceNeg, Int.reduceEq, lv, tm, d0]
    have hzp : zpad N < 64 := by unfold zpad; omega
    refine ⟨by omega, ?_⟩
    refine (o1.pre (.app h1 [.row (.grow 1) [.int .u8 0]])).app (m := 1) rfl rfl (show room (N % 64 + 1 + k + 1) 1 from ⟨by omega, by omega⟩) (fun v3 h3 o3 hc _ _ => ?_) (p0.app' _)
    have f0 := (f0.app _).chg hc ((o1.pre (.app h1 [.row (.grow 1) [.int .u8 0]])).nfix (f0.app _))
    have f1 := (f1.app _).chg hc ((o1.pre (.app h1 [.row (.grow 1) [.int .u8 0]])).nfix (f1.app _))
    have p0 := hc.pre (p0.app' _)
    have ev : ik .u8 (restF m ++ 128 :: List.replicate k 0) ++ [.int .u8 0] = ik .u8 (restF m ++ 128 :: List.replicate (k + 1) 0) := by
      rw [List.replicate_succ']; simp
    rw [ev] at o3
    simp (dsimp := false) only [go_sem, Nat.reduceAdd, Nat.reduceEqDiff, Nat.reduceMul, Nat.reduceLeDiff, Nat.reduceSub, Nat.reduceLT, ↓reduceIte, reduceCtorEq, List.reduceReplicate, List.flatten_cons, List.flatten_nil, List.append_nil, eq_self, Int.reduceLE, Int.reduceLT, Int.reduceToNat, Nat.min_eq_left, Int.reducePow, Int.reduceNeg, Int.reduceEq]
    exact ⟨zpad N - (k + 1), by omega, k + 1, v3, rfl, by omega, p0, f0, f1, o3, rfl⟩
  have d0 : ((((N % 64 + 1 + k) % 64 : Nat) : Int) != 56) = false := by
    have := hz.2 hlt
    simp only [bne_eq_false_iff_eq]; omega
  simp (dsimp := false) only [↓ir.sha_Hash_Sum.l1.bw, go_sem, Nat.reduceAdd, Nat.reduceEqDiff, Nat.reduceMul, Nat.reduceLeDiff, Nat.reduceSub, Nat.reduceLT, ↓reduceIte, reduceCtorEq, List.reduceReplicate, List.flatten_cons, List.flatten_nil, List.append_nil, eq_self, Int.reduceLE, Int.reduceLT, Int.reduceToNat, Nat.min_eq_left, Int.reducePow, Int.reduceNeg, Int.reduceEq, lv, tm, d0]
  subst hlt
  clear lv tm d0 hz hk
  -- the length
  obtain ⟨X, hX⟩ : ∃ X : Int, (N : Int) * 8 % 18446744073709551616 = X := ⟨_, rfl⟩
  obtain ⟨Q, hQ⟩ : ∃ Q, restF m ++ 128 :: List.replicate (zpad N) 0 = Q := ⟨_, rfl⟩
  have hQl : Q.length = N % 64 + 1 + zpad N := by rw [← hQ]; simp [hrl]; omega
  have hzp : zpad N < 64 := by unfold zpad; omega
  rw [← hQl, hQ] at o1
  refine ⟨by omega, ?_⟩
  refine loopV_of (fun m' e h4 => ∃ (j : Nat) (v : Value), m' = 8 - j ∧ j ≤ 8 ∧ Pre h h4 ∧ Fx h4 oB (ik .u8 (irep 32 0)) ∧ Fx h4 dB (ik .u8 (irep 32 0)) ∧ Ow h h4 1 v (Q.length + j) (ik .u8 (Q ++ (beF 8 X).take j)) ∧
    e = [(0, .pointer (some ⟨b, 0, none⟩)), (2, .pointer (some ⟨oB, 0, none⟩)), (3, .pointer (some ⟨dB, 0, none⟩)), (4, v), (5, .int .i64 (56 - 8 * (j : Int)))]) _ ⟨0, v1, rfl, Nat.zero_le _, p0, f0, f1, by simpa using o1, rfl⟩ ?_
  clear f0 f1 o1 p0
  rintro m' e h2 ⟨j, v2, rfl, hj, p0, f0, f1, o1, rfl⟩
  have fb := f.pre p0
  have rn := fb.rd (off := 9) (n := 1) (vs := [.int .u64 (N : Int)]) (by rw [hN]; rfl) (by simp [St.c'])
  rcases Nat.lt_or_ge j 8 with hlt | hge
  case inl =>
    have d0 : decide ((56 - 8 * (j : Int)) ≥ 0) = true := decide_eq_true (by omega)
    have d1 : decide (0 ≤ (56 - 8 * (j : Int))) = true := d0
    have xw : IntKind.u64.wrap ((N : Int) * 8) = X := by rw [IntKind.wrap_u64, hX]
    have bw := len_byte X hlt
    have jw : IntKind.i64.wrap (56 - 8 * (j : Int) - 8) = 56 - 8 * ((j + 1 : Nat) : Int) := by rw [wrap_i64 (by omega)]; omega
    simp (dsimp := false) only [↓ir.sha_Hash_Sum.l2.bw, go_sem, Nat.reduceAdd, Nat.reduceEqDiff, Nat.reduceMul, Nat.reduceLeDiff, Nat.reduceSub, Nat.reduceLT, ↓reduceIte, reduceCtorEq, List.reduceReplicate, List.flatten_cons, List.flatten_nil, List.append_nil, eq_self, Int.reduceLE, Int.reduceLT, Int.reduceToNat, Nat.min_eq_left, Int.reducePow, Int.reduceNeg, Int.reduceEq, rn, d0, d1, xw, bw]
    refine ⟨by omega, ?_⟩
    have hro : room (Q.length + j + 1) 1 := ⟨by omega, by omega⟩
    refine (o1.pre (.app h2 [.row (.grow 1) [.int .u8 (X / 256 ^ (7 - j) % 256)]])).app (m := 1) rfl rfl hro (fun v3 h3 o3 hc _ _ => ?_) (p0.app' _)
    have f0 := (f0.app _).chg hc ((o1.pre (.app h2 [.row (.grow 1) [.int .u8 (X / 256 ^ (7 - j) % 256)]])).nfix (f0.app _))
    have f1 := (f1.app _).chg hc ((o1.pre (.app h2 [.row (.grow 1) [.int .u8 (X / 256 ^ (7 - j) % 256)]])).nfix (f1.app _))
    have p0 := hc.pre (p0.app' _)
    have ev : ik .u8 (Q ++ (beF 8 X).take j) ++ [.int .u8 (X / 256 ^ (7 - j) % 256)] = ik .u8 (Q ++ (beF 8 X).take (j + 1)) := by
      rw [be_take X hlt]; simp
    rw [ev] at o3
    simp (dsimp := false) only [go_sem, Nat.reduceAdd, Nat.reduceEqDiff, Nat.reduceMul, Nat.reduceLeDiff, Nat.reduceSub, Nat.reduceLT, ↓reduceIte, reduceCtorEq, List.reduceReplicate, List.flatten_cons, List.flatten_nil, List.append_nil, eq_self, Int.reduceLE, Int.reduceLT, Int.reduceToNat, Nat.min_eq_left, Int.reducePow, Int.reduceNeg, Int.reduceEq, jw]
    exact ⟨8 - (j + 1), by omega, j + 1, v3, rfl, hlt, p0, f0, f1, o3, rfl⟩
  obtain rfl : j = 8 := by omega
  have d0 : decide ((56 - 8 * ((8 : Nat) : Int)) ≥ 0) = false := rfl
  obtain ⟨T, hT⟩ : ∃ T, hashF mixF st0 (m ++ tailF m.length) = T := ⟨_, rfl⟩
  obtain ⟨Y, hY⟩ : ∃ Y, Q ++ beF 8 X = Y := ⟨_, rfl⟩
  have hYT : hashF mixF S0 Y = T := by
    rw [← hT, hashF_append mixF _ _ st0 m rfl, hS, ← hY, ← hQ, ← hX, hN]
    unfold tailF
    congr 1
    simp
  have hY64 : Y.length % 64 = 0 := by
    rw [← hY, List.length_append, beF_len, hQl]
    exact zpad_full N
  have hYB : IsB Y := by
    rw [← hY, ← hQ]
    exact ((restF_isB H.isb).append (IsB.cons (by omega) (by omega) (IsB.rep _ (by omega) (by omega)))).append (IsB.be _ _)
  have hYl : Y.length ≤ 1000 := by rw [← hY, List.length_append, beF_len]; omega
  rw [List.take_of_length_le (by rw [beF_len]; exact Nat.le_refl _), hY, show Q.length + 8 = Y.length by rw [← hY, List.length_append, beF_len]] at o1
  have rs := fb.rd (off := 0) (n := 8) (vs := S0.c') rfl (by simp [St.c'])
  have hwv : wrs (h2 ++ [.row .fix [.int .u32 0, .int .u32 0, .int .u32 0, .int .u32 0, .int .u32 0, .int .u32 0, .int .u32 0, .int .u32 0]]) h2.length 0 S0.c' = some (h2 ++ [.row .fix S0.c']) := wrs_new rfl
  have ca : cellsA (.agg ⟨S0.c'⟩) = some S0.c' := rfl
  have ag : aggOf true S0.c' = some (.agg ⟨S0.c'⟩) := rfl
  simp (dsimp := false) only [↓ir.sha_Hash_Sum.l2.bw, go_sem, Nat.reduceAdd, Nat.reduceEqDiff, Nat.reduceMul, Nat.reduceLeDiff, Nat.reduceSub, Nat.reduceLT, ↓reduceIte, reduceCtorEq, List.reduceReplicate, List.flatten_cons, List.flatten_nil, List.append_nil, eq_self, Int.reduceLE, Int.reduceLT, Int.reduceToNat, Nat.min_eq_left, Int.reducePow, Int.reduceNeg, Int.reduceEq, d0, rs, ca, ag, hwv]
  refine ⟨rfl, rfl, ?_⟩
  obtain ⟨sB, es⟩ : ∃ n, h2.length = n := ⟨_, rfl⟩
  have fs := Fx.here h2 S0.c' []
  have l0 := f0.lt
  have l1 := f1.lt
  have hsl : h.length ≤ sB := by have := p0.len; omega
  have f0 := f0.app [.row .fix S0.c']
  have f1 := f1.app [.row .fix S0.c']
  have o1 := o1.pre (.app h2 [.row .fix S0.c'])
  have p0 := p0.app' [.row .fix S0.c']
  rw [es] at fs l0 l1 ⊢
  generalize h2 ++ [AObj.row .fix S0.c'] = h3 at f0 f1 fs o1 p0 ⊢
  clear rs hwv fb rn
  refine loopV_of (fun m' e h4 => ∃ (S : St) (v : Value) (r : List Int), m' = r.length ∧ hashF mixF S r = T ∧ r.length % 64 = 0 ∧ r.length ≤ 1000 ∧ IsB r ∧ Pre h h4 ∧ Fx h4 oB (ik .u8 (irep 32 0)) ∧ Fx h4 dB (ik .u8 (irep 32 0)) ∧ Fx h4 sB S.c' ∧ Ow h h4 1 v r.length (ik .u8 r) ∧
    e = [(2, .pointer (some ⟨oB, 0, none⟩)), (3, .pointer (some ⟨dB, 0, none⟩)), (4, v), (6, .pointer (some ⟨sB, 0, none⟩))]) _ ⟨S0, v2, Y, rfl, hYT, hY64, hYl, hYB, p0, f0, f1, fs, o1, rfl⟩ ?_
  clear f0 f1 fs o1 p0 hYT hY64 hYB hYl
  rintro m' e h4 ⟨S, v4, r, rfl, hYT, hY64, hYl, hYB, p0, f0, f1, fs, o1, rfl⟩
  have lv := fun {h2 : AHeap} {K : Value → AHeap → Prop} {u : Hold K} => o1.lsK.lenV (h2 := h2) (K := K) (u := u)
  have rs := fs.rd (off := 0) (n := 8) (vs := S.c') rfl (by simp [St.c'])
  have ca : cellsA (.agg ⟨(mixF S r).c'⟩) = some (mixF S r).c' := rfl
  have ag : aggOf true S.c' = some (.agg ⟨S.c'⟩) := rfl
  by_cases hge : 64 ≤ r.length
  · have d0 : decide (((r.length : Nat) : Int) > 0) = true := decide_eq_true (by omega)
    have d1 : decide (0 < ((r.length : Nat) : Int)) = true := decide_eq_true (by omega)
    simp (dsimp := false) only [↓ir.sha_Hash_Sum.l3.bw, go_sem, Nat.reduceAdd, Nat.reduceEqDiff, Nat.reduceMul, Nat.reduceLeDiff, Nat.reduceSub, Nat.reduceLT, ↓reduceIte, reduceCtorEq, List.reduceReplicate, List.flatten_cons, List.flatten_nil, List.append_nil, eq_self, Int.reduceLE, Int.reduceLT, Int.reduceToNat, Nat.min_eq_left, Int.reducePow, Int.reduceNeg, Int.reduceEq, lv, d0, d1, rs, ag]
    refine callV_of (mix_spec o1.lsK hge hYB S) ?_
    have hw : wrs h4 sB 0 (mixF S r).c' = some (h4.set sB (.row .fix (mixF S r).c')) := by
      rw [fs.wr (by simp [St.c'])]; rfl
    have hnf := o1.nfix fs
    have o2 := o1.put hnf (.row .fix (mixF S r).c')
    have hsl2 : ∀ {K : Value → AHeap → Prop} {u : Hold K}, slV 1 v4 (some (some 64)) (some none) (h4.set sB (.row .fix (mixF S r).c')) K u = K (sliceFrom 1 64 v4) (h4.set sB (.row .fix (mixF S r).c')) := o2.lsK.slFrom (m := 64) (by omega) (by omega) (by omega) (.refl _)
    simp (dsimp := false) only [go_sem, Nat.reduceAdd, Nat.reduceEqDiff, Nat.reduceMul, Nat.reduceLeDiff, Nat.reduceSub, Nat.reduceLT, ↓reduceIte, reduceCtorEq, List.reduceReplicate, List.flatten_cons, List.flatten_nil, List.append_nil, eq_self, Int.reduceLE, Int.reduceLT, Int.reduceToNat, Nat.min_eq_left, Int.reducePow, Int.reduceNeg, Int.reduceEq, ca, hw, hsl2]
    refine ⟨rfl, rfl, ?_⟩
    have ob := (o2.back hge (by omega)).1
    have ed : (ik .u8 r).drop (64 * 1) = ik .u8 (r.drop 64) := by rw [Nat.mul_one, ← List.map_drop]
    rw [ed] at ob
    refine ⟨(r.drop 64).length, by simp; omega, mixF S r, sliceFrom 1 64 v4, r.drop 64, rfl, ?_, by simp; omega, by simp; omega, hYB.drop _, p0.put hsl _, f0.other (by omega) _, f1.other (by omega) _, fs.set _, by rw [List.length_drop]; exact ob, rfl⟩
    rw [← hYT, hashF_ge mixF S hge, mixF_take]
  have hr0 : r = [] := List.eq_nil_of_length_eq_zero (by omega)
  subst hr0
  rw [hashF_lt _ _ (by simp)] at hYT
  subst hYT
  have d0 : decide ((([] : List Int).length : Int) > 0) = false := rfl
  have d1 : decide ((0 : Int) < ((0 : Nat) : Int)) = false := rfl
  simp (dsimp := false) only [↓ir.sha_Hash_Sum.l3.bw, go_sem, Nat.reduceAdd, Nat.reduceEqDiff, Nat.reduceMul, Nat.reduceLeDiff, Nat.reduceSub, Nat.reduceLT, ↓reduceIte, reduceCtorEq, List.reduceReplicate, List.flatten_cons, List.flatten_nil, List.append_nil, eq_self, Int.reduceLE, Int.reduceLT, Int.reduceToNat, Nat.min_eq_left, Int.reducePow, Int.reduceNeg, Int.reduceEq, lv, d0, d1, rs, ag]
  have f1 : Fx h4 dB (ik .u8 (dF S 0)) := f1
  refine loopV_of (fun m' e h5 => ∃ i : Nat, m' = 8 - i ∧ i ≤ 8 ∧ Pre h h5 ∧ Fx h5 oB (ik .u8 (irep 32 0)) ∧ Fx h5 dB (ik .u8 (dF S i)) ∧
    e = [(2, .pointer (some ⟨oB, 0, none⟩)), (3, .pointer (some ⟨dB, 0, none⟩)), (54, .agg ⟨S.c'⟩), (55, .int .i64 (i : Int))]) _ ⟨0, rfl, Nat.zero_le _, p0, f0, f1, rfl⟩ ?_
  clear f0 f1 fs o1 p0 lv rs d0 d1 ca
  rintro m' e h5 ⟨i, rfl, hi, p0, f0, f1, rfl⟩
  rcases Nat.lt_or_ge i 8 with hlt | hge
  case inl =>
    have d0 : decide ((i : Int) < 8) = true := decide_eq_true (by omega)
    have i1 : IntKind.i64.wrap (4 * (i : Int)) = ((4 * i : Nat) : Int) := by rw [wrap_i64 (by omega)]; omega
    have i2 : IntKind.i64.wrap (((4 * i : Nat) : Int) + 1) = ((4 * i + 1 : Nat) : Int) := by rw [wrap_i64 (by omega)]; omega
    have i3 : IntKind.i64.wrap (((4 * i : Nat) : Int) + 2) = ((4 * i + 2 : Nat) : Int) := by rw [wrap_i64 (by omega)]; omega
    have i4 : IntKind.i64.wrap (((4 * i : Nat) : Int) + 3) = ((4 * i + 3 : Nat) : Int) := by rw [wrap_i64 (by omega)]; omega
    have i5 : IntKind.i64.wrap ((i : Int) + 1) = ((i + 1 : Nat) : Int) := wrap_succ hlt (by unfold maxI; omega)
    have el : aggOf false ((S.c'.drop i).take 1) = some (.int .u32 (S.l.getD i 0)) := by
      have := ik_rd (k := .u32) (L := S.l) (i := i) (by show i < 8; exact hlt)
      have e : S.c' = ik .u32 S.l := rfl
      rw [e, this]; rfl
    obtain ⟨y, hy⟩ : ∃ y, S.l.getD i 0 = y := ⟨_, rfl⟩
    rw [hy] at el
    have q3 : IntKind.u8.wrap (y.fdiv 16777216) = y / 16777216 % 256 := byte_sh y 3
    have q2 : IntKind.u8.wrap (y.fdiv 65536) = y / 65536 % 256 := byte_sh y 2
    have q1 : IntKind.u8.wrap (y.fdiv 256) = y / 256 % 256 := byte_sh y 1
    have q0 : IntKind.u8.wrap y = y % 256 := IntKind.wrap_u8 y
    have hd := dF_len S hi
    have w1 := f1.kwr (i := 4 * i) (by omega) (y / 16777216 % 256)
    have g1 := f1.set (ik .u8 ((dF S i).set (4 * i) (y / 16777216 % 256)))
    have w2 := g1.kwr (i := 4 * i + 1) (by rw [List.length_set]; omega) (y / 65536 % 256)
    have g2 := g1.set (ik .u8 (((dF S i).set (4 * i) (y / 16777216 % 256)).set (4 * i + 1) (y / 65536 % 256)))
    have w3 := g2.kwr (i := 4 * i + 2) (by simp only [List.length_set]; omega) (y / 256 % 256)
    have g3 := g2.set (ik .u8 ((((dF S i).set (4 * i) (y / 16777216 % 256)).set (4 * i + 1) (y / 65536 % 256)).set (4 * i + 2) (y / 256 % 256)))
    have w4 := g3.kwr (i := 4 * i + 3) (by simp only [List.length_set]; omega) (y % 256)
    have g4 := g3.set (ik .u8 (((((dF S i).set (4 * i) (y / 16777216 % 256)).set (4 * i + 1) (y / 65536 % 256)).set (4 * i + 2) (y / 256 % 256)).set (4 * i + 3) (y % 256)))
    have hds := dF_set S hlt
    rw [hy] at hds
    simp (dsimp := false) only [↓ir.sha_Hash_Sum.l4.bw, go_sem, Nat.reduceAdd, Nat.reduceEqDiff, Nat.reduceMul, Nat.reduceLeDiff, Nat.reduceSub, Nat.reduceLT, ↓reduceIte, reduceCtorEq, List.reduceReplicate, List.flatten_cons, List.flatten_nil, List.append_nil, eq_self, Int.reduceLE, Int.reduceLT, Int.reduceToNat, Nat.min_eq_left, Int.reducePow, Int.reduceNeg, Int.reduceEq, d0, Int.toNat_natCast, Nat.mul_one, el, i1, i2, i3, i4, q3, q2, q1, q0, w1]
    refine ⟨by omega, by show i + 1 ≤ 8; omega, by omega, ?_⟩
    simp (dsimp := false) only [go_sem, Nat.reduceAdd, Nat.reduceEqDiff, Nat.reduceMul, Nat.reduceLeDiff, Nat.reduceSub, Nat.reduceLT, ↓reduceIte, reduceCtorEq, List.reduceReplicate, List.flatten_cons, List.flatten_nil, List.append_nil, eq_self, Int.reduceLE, Int.reduceLT, Int.reduceToNat, Nat.min_eq_left, Int.reducePow, Int.reduceNeg, Int.reduceEq, Int.toNat_natCast, Nat.mul_one, w2]
    refine ⟨by omega, ?_⟩
    simp (dsimp := false) only [go_sem, Nat.reduceAdd, Nat.reduceEqDiff, Nat.reduceMul, Nat.reduceLeDiff, Nat.reduceSub, Nat.reduceLT, ↓reduceIte, reduceCtorEq, List.reduceReplicate, List.flatten_cons, List.flatten_nil, List.append_nil, eq_self, Int.reduceLE, Int.reduceLT, Int.reduceToNat, Nat.min_eq_left, Int.reducePow, Int.reduceNeg, Int.reduceEq, Int.toNat_natCast, Nat.mul_one, w3]
    refine ⟨by omega, ?_⟩
    simp (dsimp := false) only [go_sem, Nat.reduceAdd, Nat.reduceEqDiff, Nat.reduceMul, Nat.reduceLeDiff, Nat.reduceSub, Nat.reduceLT, ↓reduceIte, reduceCtorEq, List.reduceReplicate, List.flatten_cons, List.flatten_nil, List.append_nil, eq_self, Int.reduceLE, Int.reduceLT, Int.reduceToNat, Nat.min_eq_left, Int.reducePow, Int.reduceNeg, Int.reduceEq, Int.toNat_natCast, Nat.mul_one, w4, i5]
    refine ⟨by omega, ?_⟩
    refine ⟨8 - (i + 1), by omega, i + 1, rfl, hlt, ?_, ?_, ?_, rfl⟩
    · exact (((p0.put (by omega) _).put (by omega) _).put (by omega) _).put (by omega) _
    · exact (((f0.other (by omega) _).other (by omega) _).other (by omega) _).other (by omega) _
    · rw [← hds]; exact g4
  obtain rfl : i = 8 := by omega
  have d0 : decide (((8 : Nat) : Int) < 8) = false := rfl
  rw [dF_full] at f1
  have hfl : (S.l.flatMap (beF 4)).length = 32 := by simp [St.l, beF_len]
  have rs := f1.rd (off := 0) (n := 32) (vs := ik .u8 (S.l.flatMap (beF 4))) (by rw [List.drop_zero, List.take_of_length_le (by rw [List.length_map]; omega)]) (by rw [List.length_map]; omega)
  have ag2 : aggOf true (ik .u8 (S.l.flatMap (beF 4))) = some (.agg ⟨ik .u8 (S.l.flatMap (beF 4))⟩) := rfl
  have ca : cellsA (.agg ⟨ik .u8 (S.l.flatMap (beF 4))⟩) = some (ik .u8 (S.l.flatMap (beF 4))) := rfl
  have hw : wrs h5 oB 0 (ik .u8 (S.l.flatMap (beF 4))) = some (h5.set oB (.row .fix (ik .u8 (S.l.flatMap (beF 4))))) := by
    rw [f0.wr (by rw [List.length_map, List.length_map, irep_len]; omega), setC_all (by rw [List.length_map, List.length_map, irep_len]; omega)]
  have hr := (f0.set (ik .u8 (S.l.flatMap (beF 4)))).rd (off := 0) (n := 32) (vs := ik .u8 (S.l.flatMap (beF 4))) (by rw [List.drop_zero, List.take_of_length_le (by rw [List.length_map]; omega)]) (by rw [List.length_map]; omega)
  simp (dsimp := false) only [↓ir.sha_Hash_Sum.l4.bw, go_sem, Nat.reduceAdd, Nat.reduceEqDiff, Nat.reduceMul, Nat.reduceLeDiff, Nat.reduceSub, Nat.reduceLT, ↓reduceIte, reduceCtorEq, List.reduceReplicate, List.flatten_cons, List.flatten_nil, List.append_nil, eq_self, Int.reduceLE, Int.reduceLT, Int.reduceToNat, Nat.min_eq_left, Int.reducePow, Int.reduceNeg, Int.reduceEq, d0, rs, ag2, ca, hw, hr]
  refine ⟨by rw [List.length_map]; omega, ik_one _ _, p0.put hol _, ?_⟩
  unfold shaF
  rw [hT]
end Go.Proofs.YtbomppdiiaodbaaRRR.B
