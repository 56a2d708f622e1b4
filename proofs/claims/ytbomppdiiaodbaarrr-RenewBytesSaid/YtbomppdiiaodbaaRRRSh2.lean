/-
  The document's sum (layer 4): one block.
-/
import Derived.Test.YtbomppdiiaodbaaRRRSh1
namespace Go.Proofs.YtbomppdiiaodbaaRRR.B
open Go
set_option linter.unusedVariables false
set_option linter.unusedSimpArgs false
set_option maxRecDepth 100000
variable {h : AHeap}
def preF (l : List Int) (t : Nat) : List Int := if t ≤ 16 then wordsF l t else schedF (t - 16) (wordsF l 16)
theorem preF_len (l : List Int) (t : Nat) : (preF l t).length = t := by
  unfold preF
  split
  · rw [wordsF_len]
  · rw [schedF_len, wordsF_len]; omega
theorem preF_lo (l : List Int) {t : Nat} (h : t < 16) : preF l (t + 1) = preF l t ++ [wordF (l.getD (4 * t) 0) (l.getD (4 * t + 1) 0) (l.getD (4 * t + 2) 0) (l.getD (4 * t + 3) 0)] := by
  unfold preF
  rw [if_pos (by omega), if_pos (by omega)]; rfl
theorem preF_hi (l : List Int) {t : Nat} (h : 16 ≤ t) : preF l (t + 1) = preF l t ++ [nextW (preF l t)] := by
  have e : preF l t = schedF (t - 16) (wordsF l 16) := by
    unfold preF
    split
    · obtain rfl : t = 16 := by omega
      rfl
    · rfl
  rw [e]
  unfold preF
  rw [if_neg (by omega), show t + 1 - 16 = (t - 16) + 1 by omega, schedF_snoc]
theorem nextW_alt (W : List Int) : addU (addU (addU (s1U (W.getD (W.length - 2) 0)) (W.getD (W.length - 7) 0)) (s0U (W.getD (W.length - 15) 0))) (W.getD (W.length - 16) 0) = nextW W := (sum_ways _ _ _ _).symm
def updF (S T : St) (i : Nat) : List Int := (addSt S T).l.take i ++ S.l.drop i
theorem updF_len {S T : St} {i : Nat} (h : i ≤ 8) : (updF S T i).length = 8 := by simp [updF, St.l]; omega
theorem updF_set (S T : St) {i : Nat} (h : i < 8) : (updF S T i).set i (addU ((updF S T i).getD i 0) (T.l.getD i 0)) = updF S T (i + 1) := by
  rcases (show i = 0 ∨ i = 1 ∨ i = 2 ∨ i = 3 ∨ i = 4 ∨ i = 5 ∨ i = 6 ∨ i = 7 by omega) with rfl | rfl | rfl | rfl | rfl | rfl | rfl | rfl <;> rfl
theorem block_spec {v : Value} {l : List Int} (hv : Ls h 1 by8 v l) (hl : 64 ≤ l.length) (hb : IsB l) (S : St) : Spec Try.prog nG fn.ref04_Block [.agg ⟨S.c'⟩, v, .agg ⟨ik .u32 KS⟩] h (.agg ⟨(mixF S l).c'⟩) h := by
  refine SpecX.ag rfl (SpecX.of_body (ir.ref04_Block.spec (Nat.le_of_ble_eq_true rfl)) ?_)
  have ca : cellsA (.agg ⟨S.c'⟩) = some S.c' := rfl
  have ck : cellsA (.agg ⟨ik .u32 KS⟩) = some (ik .u32 KS) := rfl
  simp (dsimp := false) only [↓ir.ref04_Block.bw, ir.ref04_Block.rs, go_sem, Nat.reduceAdd, Nat.reduceEqDiff, Nat.reduceMul, Nat.reduceLeDiff, Nat.reduceSub, Nat.reduceLT, ↓reduceIte, reduceCtorEq, List.reduceReplicate, List.flatten_cons, List.flatten_nil, List.append_nil, eq_self, Int.reduceLE, Int.reduceLT, Int.reduceToNat, Nat.min_eq_left, Int.reducePow, Int.reduceNeg, Int.reduceEq, ca, ck, zrep_ik]
  obtain ⟨hB, e0⟩ : ∃ n, h.length = n := ⟨_, rfl⟩
  obtain ⟨kB, e1⟩ : ∃ n, h.length + 1 = n := ⟨_, rfl⟩
  obtain ⟨oB, e2⟩ : ∃ n, h.length + 2 = n := ⟨_, rfl⟩
  obtain ⟨wB, e3⟩ : ∃ n, h.length + 3 = n := ⟨_, rfl⟩
  rw [e0] at e1 e2 e3
  have f0 : Fx (h ++ [.row .fix S.c', .row .fix (ik .u32 KS), .row .fix [.int .u32 0, .int .u32 0, .int .u32 0, .int .u32 0, .int .u32 0, .int .u32 0, .int .u32 0, .int .u32 0], .row .fix (ik .u32 (irep 64 0))]) hB S.c' := by simp [Fx, ← e0]
  have fk : Fx (h ++ [.row .fix S.c', .row .fix (ik .u32 KS), .row .fix [.int .u32 0, .int .u32 0, .int .u32 0, .int .u32 0, .int .u32 0, .int .u32 0, .int .u32 0, .int .u32 0], .row .fix (ik .u32 (irep 64 0))]) kB (ik .u32 KS) := by simp [Fx, ← e1, ← e0]
  have f1 : Fx (h ++ [.row .fix S.c', .row .fix (ik .u32 KS), .row .fix [.int .u32 0, .int .u32 0, .int .u32 0, .int .u32 0, .int .u32 0, .int .u32 0, .int .u32 0, .int .u32 0], .row .fix (ik .u32 (irep 64 0))]) oB [.int .u32 0, .int .u32 0, .int .u32 0, .int .u32 0, .int .u32 0, .int .u32 0, .int .u32 0, .int .u32 0] := by simp [Fx, ← e2, ← e0]
  have f2 : Fx (h ++ [.row .fix S.c', .row .fix (ik .u32 KS), .row .fix [.int .u32 0, .int .u32 0, .int .u32 0, .int .u32 0, .int .u32 0, .int .u32 0, .int .u32 0, .int .u32 0], .row .fix (ik .u32 (irep 64 0))]) wB (ik .u32 (padW (preF l 0))) := by simp [Fx, ← e3, ← e0, irep, padW, preF, wordsF]
  have p0 := Pre.app h [.row .fix S.c', .row .fix (ik .u32 KS), .row .fix [.int .u32 0, .int .u32 0, .int .u32 0, .int .u32 0, .int .u32 0, .int .u32 0, .int .u32 0, .int .u32 0], .row .fix (ik .u32 (irep 64 0))]
  generalize (h ++ [AObj.row .fix S.c', .row .fix (ik .u32 KS), .row .fix [.int .u32 0, .int .u32 0, .int .u32 0, .int .u32 0, .int .u32 0, .int .u32 0, .int .u32 0, .int .u32 0], .row .fix (ik .u32 (irep 64 0))]) = h0 at f0 fk f1 f2 p0 ⊢
  rw [e0, e1, e2, e3]
  refine loopV_of (fun m e h2 => ∃ i : Nat, m = 64 - i ∧ i ≤ 64 ∧ Pre h h2 ∧ Fx h2 hB S.c' ∧ Fx h2 kB (ik .u32 KS) ∧ Fx h2 oB [.int .u32 0, .int .u32 0, .int .u32 0, .int .u32 0, .int .u32 0, .int .u32 0, .int .u32 0, .int .u32 0] ∧ Fx h2 wB (ik .u32 (padW (preF l i))) ∧
    e = [(1, v), (3, .pointer (some ⟨hB, 0, none⟩)), (5, .pointer (some ⟨kB, 0, none⟩)), (6, .pointer (some ⟨oB, 0, none⟩)), (7, .pointer (some ⟨wB, 0, none⟩)), (8, .int .i64 (i : Int))]) _ ⟨0, rfl, Nat.zero_le _, p0, f0, fk, f1, f2, rfl⟩ ?_
  clear f0 f1 f2 fk p0 h0
  rintro m e h2 ⟨i, rfl, hi, hp, f0, fk, f1, f2, rfl⟩
  obtain ⟨W, hW⟩ : ∃ W, preF l i = W := ⟨_, rfl⟩
  have hWl : W.length = i := by rw [← hW, preF_len]
  rw [hW] at f2
  have hPl : (padW W).length = 64 := padW_len (by omega)
  rcases Nat.lt_or_ge i 64 with hlt | hge
  case inl =>
    have d0 : decide ((i : Int) < 64) = true := decide_eq_true (by omega)
    have i5 : IntKind.i64.wrap ((i : Int) + 1) = ((i + 1 : Nat) : Int) := wrap_succ hlt (by unfold maxI; omega)
    by_cases hlo : i < 16
    · have d1 : decide ((i : Int) < 16) = true := decide_eq_true (by omega)
      have i1 : IntKind.i64.wrap (4 * (i : Int)) = ((4 * i : Nat) : Int) := by rw [wrap_i64 (by omega)]; omega
      have i2 : IntKind.i64.wrap (((4 * i : Nat) : Int) + 1) = ((4 * i + 1 : Nat) : Int) := by rw [wrap_i64 (by omega)]; omega
      have i3 : IntKind.i64.wrap (((4 * i : Nat) : Int) + 2) = ((4 * i + 2 : Nat) : Int) := by rw [wrap_i64 (by omega)]; omega
      have i4 : IntKind.i64.wrap (((4 * i : Nat) : Int) + 3) = ((4 * i + 3 : Nat) : Int) := by rw [wrap_i64 (by omega)]; omega
      simp (dsimp := false) only [↓ir.ref04_Block.l1.bw, go_sem, Nat.reduceAdd, Nat.reduceEqDiff, Nat.reduceMul, Nat.reduceLeDiff, Nat.reduceSub, Nat.reduceLT, ↓reduceIte, reduceCtorEq, List.reduceReplicate, List.flatten_cons, List.flatten_nil, List.append_nil, eq_self, Int.reduceLE, Int.reduceLT, Int.reduceToNat, Nat.min_eq_left, Int.reducePow, Int.reduceNeg, Int.reduceEq, d0, d1, i1, i2, i3, i4, hv.ixsN (show 4 * i < l.length by omega), hv.ixsN (show 4 * i + 1 < l.length by omega), hv.ixsN (show 4 * i + 2 < l.length by omega), hv.ixsN (show 4 * i + 3 < l.length by omega),
        Nat.mul_one, hv.rdK0 hp (show 4 * i < l.length by omega), hv.rdK0 hp (show 4 * i + 1 < l.length by omega), hv.rdK0 hp (show 4 * i + 2 < l.length by omega), hv.rdK0 hp (show 4 * i + 3 < l.length by omega)]
      have wd := word_ref (hb.getD (4 * i)) (hb.getD (4 * i + 1)) (hb.getD (4 * i + 2)) (hb.getD (4 * i + 3))
      simp only [addU] at wd
      rw [wd]
      have hw := f2.kwr (i := i) (by omega) (wordF (l.getD (4 * i) 0) (l.getD (4 * i + 1) 0) (l.getD (4 * i + 2) 0) (l.getD (4 * i + 3) 0))
      have hs := padW_set (l := W) (by omega) (wordF (l.getD (4 * i) 0) (l.getD (4 * i + 1) 0) (l.getD (4 * i + 2) 0) (l.getD (4 * i + 3) 0))
      rw [hWl] at hs
      rw [hs, ← hW, ← preF_lo l hlo] at hw
      refine ⟨by omega, ?_⟩
      simp (dsimp := false) only [go_sem, Nat.reduceAdd, Nat.reduceEqDiff, Nat.reduceMul, Nat.reduceLeDiff, Nat.reduceSub, Nat.reduceLT, ↓reduceIte, reduceCtorEq, List.reduceReplicate, List.flatten_cons, List.flatten_nil, List.append_nil, eq_self, Int.reduceLE, Int.reduceLT, Int.reduceToNat, Nat.min_eq_left, Int.reducePow, Int.reduceNeg, Int.reduceEq, Int.toNat_natCast, hw, i5]
      exact ⟨64 - (i + 1), by omega, i + 1, rfl, hlt, hp.put (by omega) _, f0.other (by omega) _, fk.other (by omega) _, f1.other (by omega) _, f2.set _, rfl⟩
    · have d1 : decide ((i : Int) < 16) = false := decide_eq_false (by omega)
      have i1 : IntKind.i64.wrap ((i : Int) - 15) = ((i - 15 : Nat) : Int) := sub_nat (m := 15) (by omega) (by unfold maxI; omega)
      have i2 : IntKind.i64.wrap ((i : Int) - 2) = ((i - 2 : Nat) : Int) := sub_nat (m := 2) (by omega) (by unfold maxI; omega)
      have i3 : IntKind.i64.wrap ((i : Int) - 16) = ((i - 16 : Nat) : Int) := sub_nat (m := 16) (by omega) (by unfold maxI; omega)
      have i4 : IntKind.i64.wrap ((i : Int) - 7) = ((i - 7 : Nat) : Int) := sub_nat (m := 7) (by omega) (by unfold maxI; omega)
      have r1 := f2.krd (i := i - 15) (by omega)
      have r2 := f2.krd (i := i - 2) (by omega)
      have r3 := f2.krd (i := i - 16) (by omega)
      have r4 := f2.krd (i := i - 7) (by omega)
      rw [padW_get (by omega)] at r1 r2 r3 r4
      have e1 : s0U (W.getD (i - 15) 0) = s0U (W.getD (i - 15) 0) := rfl
      have e2 : s1U (W.getD (i - 2) 0) = s1U (W.getD (i - 2) 0) := rfl
      have e3 := nextW_alt W
      conv at e1 => lhs; unfold s0U xorU shrU
      conv at e2 => lhs; unfold s1U xorU shrU
      conv at e3 => lhs; unfold addU
      rw [hWl] at e3
      have x3 : (2 ^ 3 : Int) = 8 := rfl
      have x10 : (2 ^ 10 : Int) = 1024 := rfl
      rw [x3] at e1
      rw [x10] at e2
      have hw := f2.kwr (i := i) (by omega) (nextW W)
      have hs := padW_set (l := W) (by omega) (nextW W)
      rw [hWl] at hs
      rw [hs, ← hW, ← preF_hi l (by omega), hW] at hw
      simp (dsimp := false) only [↓ir.ref04_Block.l1.bw, go_sem, Nat.reduceAdd, Nat.reduceEqDiff, Nat.reduceMul, Nat.reduceLeDiff, Nat.reduceSub, Nat.reduceLT, ↓reduceIte, reduceCtorEq, List.reduceReplicate, List.flatten_cons, List.flatten_nil, List.append_nil, eq_self, Int.reduceLE, Int.reduceLT, Int.reduceToNat, Nat.min_eq_left, Int.reducePow, Int.reduceNeg, Int.reduceEq, d0, d1, i1, i2, i3, i4, Int.toNat_natCast, Nat.mul_one, r1, r2, r3, r4]
      refine ⟨by omega, ?_⟩
      refine callV_of (rotr_spec _ (n := 7) (by omega)) ?_
      simp (dsimp := false) only [go_sem, Nat.reduceAdd, Nat.reduceEqDiff, Nat.reduceMul, Nat.reduceLeDiff, Nat.reduceSub, Nat.reduceLT, ↓reduceIte, reduceCtorEq, List.reduceReplicate, List.flatten_cons, List.flatten_nil, List.append_nil, eq_self, Int.reduceLE, Int.reduceLT, Int.reduceToNat, Nat.min_eq_left, Int.reducePow, Int.reduceNeg, Int.reduceEq, i1, i2, i3, i4, Int.toNat_natCast, Nat.mul_one, r1, r2, r3, r4]
      (repeat (with_reducible refine And.intro (by omega) ?_))
      refine callV_of (rotr_spec _ (n := 18) (by omega)) ?_
      simp (dsimp := false) only [go_sem, Nat.reduceAdd, Nat.reduceEqDiff, Nat.reduceMul, Nat.reduceLeDiff, Nat.reduceSub, Nat.reduceLT, ↓reduceIte, reduceCtorEq, List.reduceReplicate, List.flatten_cons, List.flatten_nil, List.append_nil, eq_self, Int.reduceLE, Int.reduceLT, Int.reduceToNat, Nat.min_eq_left, Int.reducePow, Int.reduceNeg, Int.reduceEq, i1, i2, i3, i4, Int.toNat_natCast, Nat.mul_one, r1, r2, r3, r4, e1]
      (repeat (with_reducible refine And.intro (by omega) ?_))
      refine callV_of (rotr_spec _ (n := 17) (by omega)) ?_
      simp (dsimp := false) only [go_sem, Nat.reduceAdd, Nat.reduceEqDiff, Nat.reduceMul, Nat.reduceLeDiff, Nat.reduceSub, Nat.reduceLT, ↓reduceIte, reduceCtorEq, List.reduceReplicate, List.flatten_cons, List.flatten_nil, List.append_nil, eq_self, Int.reduceLE, Int.reduceLT, Int.reduceToNat, Nat.min_eq_left, Int.reducePow, Int.reduceNeg, Int.reduceEq, i1, i2, i3, i4, Int.toNat_natCast, Nat.mul_one, r1, r2, r3, r4]
      (repeat (with_reducible refine And.intro (by omega) ?_))
      refine callV_of (rotr_spec _ (n := 19) (by omega)) ?_
      simp (dsimp := false) only [go_sem, Nat.reduceAdd, Nat.reduceEqDiff, Nat.reduceMul, Nat.reduceLeDiff, Nat.reduceSub, Nat.reduceLT, ↓reduceIte, reduceCtorEq, List.reduceReplicate, List.flatten_cons, List.flatten_nil, List.append_nil, eq_self, Int.reduceLE, Int.reduceLT, Int.reduceToNat, Nat.min_eq_left, Int.reducePow, Int.reduceNeg, Int.reduceEq, i1, i2, i3, i4, Int.toNat_natCast, Nat.mul_one, r1, r2, r3, r4, e2, e3]
      (repeat (with_reducible refine And.intro (by omega) ?_))
      simp (dsimp := false) only [go_sem, Nat.reduceAdd, Nat.reduceEqDiff, Nat.reduceMul, Nat.reduceLeDiff, Nat.reduceSub, Nat.reduceLT, ↓reduceIte, reduceCtorEq, List.reduceReplicate, List.flatten_cons, List.flatten_nil, List.append_nil, eq_self, Int.reduceLE, Int.reduceLT, Int.reduceToNat, Nat.min_eq_left, Int.reducePow, Int.reduceNeg, Int.reduceEq, hw, i5]
      exact ⟨64 - (i + 1), by omega, i + 1, rfl, hlt, hp.put (by omega) _, f0.other (by omega) _, fk.other (by omega) _, f1.other (by omega) _, f2.set _, rfl⟩
  obtain rfl : i = 64 := by omega
  have d0 : decide (((64 : Nat) : Int) < 64) = false := rfl
  have hWm : W = schedF 48 (wordsF l 16) := by rw [← hW]; rfl
  rw [padW_full (by omega)] at f2
  clear hPl
  have rs := f0.rd (off := 0) (n := 8) (vs := S.c') rfl (Nat.le_of_ble_eq_true rfl)
  have hwv : wrs (h2 ++ [.row .fix [.int .u32 0, .int .u32 0, .int .u32 0, .int .u32 0, .int .u32 0, .int .u32 0, .int .u32 0, .int .u32 0]]) h2.length 0 S.c' = some (h2 ++ [.row .fix S.c']) := wrs_new rfl
  simp (dsimp := false) only [↓ir.ref04_Block.l1.bw, go_sem, Nat.reduceAdd, Nat.reduceEqDiff, Nat.reduceMul, Nat.reduceLeDiff, Nat.reduceSub, Nat.reduceLT, ↓reduceIte, reduceCtorEq, List.reduceReplicate, List.flatten_cons, List.flatten_nil, List.append_nil, eq_self, Int.reduceLE, Int.reduceLT, Int.reduceToNat, Nat.min_eq_left, Int.reducePow, Int.reduceNeg, Int.reduceEq, d0, rs, ca, hwv]
  refine ⟨rfl, rfl, ?_⟩
  obtain ⟨vB, ev⟩ : ∃ n, h2.length = n := ⟨_, rfl⟩
  have fv := Fx.here h2 S.c' []
  have hB1 := f0.lt
  have hB2 := fk.lt
  have hB3 := f1.lt
  have hB4 := f2.lt
  have hvB : h.length ≤ vB := by have := hp.len; omega
  have f0 := f0.app [.row .fix S.c']
  have fk := fk.app [.row .fix S.c']
  have f1 := f1.app [.row .fix S.c']
  have f2 := f2.app [.row .fix S.c']
  have hp := hp.app' [.row .fix S.c']
  rw [ev] at fv hB1 hB2 hB3 hB4 ⊢
  generalize h2 ++ [AObj.row .fix S.c'] = h3 at f0 f1 f2 fk fv hp ⊢
  clear rs hwv
  refine loopV_of (fun m e h4 => ∃ i : Nat, m = 64 - i ∧ i ≤ 64 ∧ Pre h h4 ∧ Fx h4 hB S.c' ∧ Fx h4 kB (ik .u32 KS) ∧ Fx h4 oB [.int .u32 0, .int .u32 0, .int .u32 0, .int .u32 0, .int .u32 0, .int .u32 0, .int .u32 0, .int .u32 0] ∧ Fx h4 wB (ik .u32 W) ∧ Fx h4 vB (roundsF KS W S i).c' ∧
    e = [(3, .pointer (some ⟨hB, 0, none⟩)), (5, .pointer (some ⟨kB, 0, none⟩)), (6, .pointer (some ⟨oB, 0, none⟩)), (7, .pointer (some ⟨wB, 0, none⟩)), (11, .pointer (some ⟨vB, 0, none⟩)), (12, .int .i64 (i : Int))]) _ ⟨0, rfl, Nat.zero_le _, hp, f0, fk, f1, f2, fv, rfl⟩ ?_
  clear f0 f1 f2 fk fv hp h3
  rintro m e h3 ⟨i, rfl, hi, hp, f0, fk, f1, f2, fv, rfl⟩
  obtain ⟨T, hT⟩ : ∃ T, roundsF KS W S i = T := ⟨_, rfl⟩
  rw [hT] at fv
  rcases Nat.lt_or_ge i 64 with hlt | hge
  case inl =>
    have d0 : decide ((i : Int) < 64) = true := decide_eq_true (by omega)
    have i5 : IntKind.i64.wrap ((i : Int) + 1) = ((i + 1 : Nat) : Int) := wrap_succ hlt (by unfold maxI; omega)
    have rk := fk.krd (i := i) (by show i < 64; omega)
    have rw' := f2.krd (i := i) (by omega)
    have s0 := fv.rd (off := 0) (n := 1) (vs := [.int .u32 T.a]) rfl (Nat.le_of_ble_eq_true rfl)
    have s1 := fv.rd (off := 1) (n := 1) (vs := [.int .u32 T.b]) rfl (Nat.le_of_ble_eq_true rfl)
    have s2 := fv.rd (off := 2) (n := 1) (vs := [.int .u32 T.c]) rfl (Nat.le_of_ble_eq_true rfl)
    have s3 := fv.rd (off := 3) (n := 1) (vs := [.int .u32 T.d]) rfl (Nat.le_of_ble_eq_true rfl)
    have s4 := fv.rd (off := 4) (n := 1) (vs := [.int .u32 T.e]) rfl (Nat.le_of_ble_eq_true rfl)
    have s5 := fv.rd (off := 5) (n := 1) (vs := [.int .u32 T.f]) rfl (Nat.le_of_ble_eq_true rfl)
    have s6 := fv.rd (off := 6) (n := 1) (vs := [.int .u32 T.g]) rfl (Nat.le_of_ble_eq_true rfl)
    have s7 := fv.rd (off := 7) (n := 1) (vs := [.int .u32 T.z]) rfl (Nat.le_of_ble_eq_true rfl)
    have e1 : b1U T.e = b1U T.e := rfl
    have e3 : b0U T.a = b0U T.a := rfl
    have e2 : t1U (KS.getD i 0) (W.getD i 0) T = t1U (KS.getD i 0) (W.getD i 0) T := rfl
    have e4 : t2U T = t2U T := rfl
    have e5 : chU T.e T.f T.g = chU T.e T.f T.g := rfl
    have e6 : majU T.a T.b T.c = majU T.a T.b T.c := rfl
    conv at e1 => lhs; unfold b1U xorU
    conv at e3 => lhs; unfold b0U xorU
    conv at e5 => lhs; unfold chU xorU andU
    conv at e6 => lhs; unfold majU xorU andU
    conv at e2 => lhs; unfold t1U addU
    conv at e4 => lhs; unfold t2U addU
    simp (dsimp := false) only [↓ir.ref04_Block.l2.bw, go_sem, Nat.reduceAdd, Nat.reduceEqDiff, Nat.reduceMul, Nat.reduceLeDiff, Nat.reduceSub, Nat.reduceLT, ↓reduceIte, reduceCtorEq, List.reduceReplicate, List.flatten_cons, List.flatten_nil, List.append_nil, eq_self, Int.reduceLE, Int.reduceLT, Int.reduceToNat, Nat.min_eq_left, Int.reducePow, Int.reduceNeg, Int.reduceEq, d0, s0, s1, s2, s3, s4, s5, s6, s7, unV_not32, e5, e6]
    (repeat (with_reducible refine And.intro (by omega) ?_))
    refine callV_of (rotr_spec _ (n := 6) (by omega)) ?_
    simp (dsimp := false) only [go_sem, Nat.reduceAdd, Nat.reduceEqDiff, Nat.reduceMul, Nat.reduceLeDiff, Nat.reduceSub, Nat.reduceLT, ↓reduceIte, reduceCtorEq, List.reduceReplicate, List.flatten_cons, List.flatten_nil, List.append_nil, eq_self, Int.reduceLE, Int.reduceLT, Int.reduceToNat, Nat.min_eq_left, Int.reducePow, Int.reduceNeg, Int.reduceEq, s0, s1, s2, s3, s4, s5, s6, s7, unV_not32, e5, e6]
    (repeat (with_reducible refine And.intro (by omega) ?_))
    refine callV_of (rotr_spec _ (n := 11) (by omega)) ?_
    simp (dsimp := false) only [go_sem, Nat.reduceAdd, Nat.reduceEqDiff, Nat.reduceMul, Nat.reduceLeDiff, Nat.reduceSub, Nat.reduceLT, ↓reduceIte, reduceCtorEq, List.reduceReplicate, List.flatten_cons, List.flatten_nil, List.append_nil, eq_self, Int.reduceLE, Int.reduceLT, Int.reduceToNat, Nat.min_eq_left, Int.reducePow, Int.reduceNeg, Int.reduceEq, s0, s1, s2, s3, s4, s5, s6, s7]
    (repeat (with_reducible refine And.intro (by omega) ?_))
    refine callV_of (rotr_spec _ (n := 25) (by omega)) ?_
    simp (dsimp := false) only [go_sem, Nat.reduceAdd, Nat.reduceEqDiff, Nat.reduceMul, Nat.reduceLeDiff, Nat.reduceSub, Nat.reduceLT, ↓reduceIte, reduceCtorEq, List.reduceReplicate, List.flatten_cons, List.flatten_nil, List.append_nil, eq_self, Int.reduceLE, Int.reduceLT, Int.reduceToNat, Nat.min_eq_left, Int.reducePow, Int.reduceNeg, Int.reduceEq, s0, s1, s2, s3, s4, s5, s6, s7, e1, Int.toNat_natCast, Nat.mul_one, rk, rw', e2]
    (repeat (with_reducible refine And.intro (by omega) ?_))
    refine callV_of (rotr_spec _ (n := 2) (by omega)) ?_
    simp (dsimp := false) only [go_sem, Nat.reduceAdd, Nat.reduceEqDiff, Nat.reduceMul, Nat.reduceLeDiff, Nat.reduceSub, Nat.reduceLT, ↓reduceIte, reduceCtorEq, List.reduceReplicate, List.flatten_cons, List.flatten_nil, List.append_nil, eq_self, Int.reduceLE, Int.reduceLT, Int.reduceToNat, Nat.min_eq_left, Int.reducePow, Int.reduceNeg, Int.reduceEq, s0, s1, s2, s3, s4, s5, s6, s7]
    (repeat (with_reducible refine And.intro (by omega) ?_))
    refine callV_of (rotr_spec _ (n := 13) (by omega)) ?_
    simp (dsimp := false) only [go_sem, Nat.reduceAdd, Nat.reduceEqDiff, Nat.reduceMul, Nat.reduceLeDiff, Nat.reduceSub, Nat.reduceLT, ↓reduceIte, reduceCtorEq, List.reduceReplicate, List.flatten_cons, List.flatten_nil, List.append_nil, eq_self, Int.reduceLE, Int.reduceLT, Int.reduceToNat, Nat.min_eq_left, Int.reducePow, Int.reduceNeg, Int.reduceEq, s0, s1, s2, s3, s4, s5, s6, s7]
    (repeat (with_reducible refine And.intro (by omega) ?_))
    refine callV_of (rotr_spec _ (n := 22) (by omega)) ?_
    simp (dsimp := false) only [go_sem, Nat.reduceAdd, Nat.reduceEqDiff, Nat.reduceMul, Nat.reduceLeDiff, Nat.reduceSub, Nat.reduceLT, ↓reduceIte, reduceCtorEq, List.reduceReplicate, List.flatten_cons, List.flatten_nil, List.append_nil, eq_self, Int.reduceLE, Int.reduceLT, Int.reduceToNat, Nat.min_eq_left, Int.reducePow, Int.reduceNeg, Int.reduceEq, s0, s1, s2, s3, s4, s5, s6, s7, e3, e4]
    have e7 : (roundF (KS.getD i 0) (W.getD i 0) T).c' = (roundF (KS.getD i 0) (W.getD i 0) T).c' := rfl
    conv at e7 => lhs; unfold roundF addU St.c'
    simp only at e7
    have hw : wrs h3 vB 0 (roundF (KS.getD i 0) (W.getD i 0) T).c' = some (h3.set vB (.row .fix (roundF (KS.getD i 0) (W.getD i 0) T).c')) := by
      rw [fv.wr (by simp [St.c'])]; rfl
    (repeat (with_reducible refine And.intro (by omega) ?_))
    simp (dsimp := false) only [go_sem, Nat.reduceAdd, Nat.reduceEqDiff, Nat.reduceMul, Nat.reduceLeDiff, Nat.reduceSub, Nat.reduceLT, ↓reduceIte, reduceCtorEq, List.reduceReplicate, List.flatten_cons, List.flatten_nil, List.append_nil, eq_self, Int.reduceLE, Int.reduceLT, Int.reduceToNat, Nat.min_eq_left, Int.reducePow, Int.reduceNeg, Int.reduceEq, e7, hw, i5]
    refine ⟨64 - (i + 1), by omega, i + 1, rfl, hlt, hp.put (by omega) _, f0.other (by omega) _, fk.other (by omega) _, f1.other (by omega) _, f2.other (by omega) _, ?_, rfl⟩
    rw [roundsF, hT]
    exact fv.set _
  obtain rfl : i = 64 := by omega
  have d0 : decide (((64 : Nat) : Int) < 64) = false := rfl
  simp (dsimp := false) only [↓ir.ref04_Block.l2.bw, go_sem, Nat.reduceAdd, Nat.reduceEqDiff, Nat.reduceMul, Nat.reduceLeDiff, Nat.reduceSub, Nat.reduceLT, ↓reduceIte, reduceCtorEq, List.reduceReplicate, List.flatten_cons, List.flatten_nil, List.append_nil, eq_self, Int.reduceLE, Int.reduceLT, Int.reduceToNat, Nat.min_eq_left, Int.reducePow, Int.reduceNeg, Int.reduceEq, d0]
  refine loopV_of (fun m e h4 => ∃ i : Nat, m = 8 - i ∧ i ≤ 8 ∧ Pre h h4 ∧ Fx h4 hB (ik .u32 (updF S T i)) ∧ Fx h4 oB [.int .u32 0, .int .u32 0, .int .u32 0, .int .u32 0, .int .u32 0, .int .u32 0, .int .u32 0, .int .u32 0] ∧ Fx h4 vB (ik .u32 T.l) ∧
    e = [(3, .pointer (some ⟨hB, 0, none⟩)), (6, .pointer (some ⟨oB, 0, none⟩)), (11, .pointer (some ⟨vB, 0, none⟩)), (17, .int .i64 (i : Int))]) _ ⟨0, rfl, Nat.zero_le _, hp, f0, f1, fv, rfl⟩ ?_
  clear f0 f1 f2 fk fv hp h3
  rintro m e h3 ⟨i, rfl, hi, hp, f0, f1, fv, rfl⟩
  rcases Nat.lt_or_ge i 8 with hlt | hge
  case inl =>
    have d0 : decide ((i : Int) < 8) = true := decide_eq_true (by omega)
    have i5 : IntKind.i64.wrap ((i : Int) + 1) = ((i + 1 : Nat) : Int) := wrap_succ hlt (by unfold maxI; omega)
    have r1 := f0.krd (i := i) (by rw [updF_len (by omega)]; exact hlt)
    have r2 := fv.krd (i := i) (by show i < 8; omega)
    have e1 := updF_set S T hlt
    conv at e1 => lhs; unfold addU
    have hw := f0.kwr (i := i) (by rw [updF_len (by omega)]; exact hlt) (IntKind.u32.wrap ((updF S T i).getD i 0 + T.l.getD i 0))
    rw [e1] at hw
    simp (dsimp := false) only [↓ir.ref04_Block.l3.bw, go_sem, Nat.reduceAdd, Nat.reduceEqDiff, Nat.reduceMul, Nat.reduceLeDiff, Nat.reduceSub, Nat.reduceLT, ↓reduceIte, reduceCtorEq, List.reduceReplicate, List.flatten_cons, List.flatten_nil, List.append_nil, eq_self, Int.reduceLE, Int.reduceLT, Int.reduceToNat, Nat.min_eq_left, Int.reducePow, Int.reduceNeg, Int.reduceEq, d0, Int.toNat_natCast, Nat.mul_one, r1, r2]
    (repeat (with_reducible refine And.intro (by omega) ?_))
    simp (dsimp := false) only [go_sem, Nat.reduceAdd, Nat.reduceEqDiff, Nat.reduceMul, Nat.reduceLeDiff, Nat.reduceSub, Nat.reduceLT, ↓reduceIte, reduceCtorEq, List.reduceReplicate, List.flatten_cons, List.flatten_nil, List.append_nil, eq_self, Int.reduceLE, Int.reduceLT, Int.reduceToNat, Nat.min_eq_left, Int.reducePow, Int.reduceNeg, Int.reduceEq, hw, i5]
    exact ⟨8 - (i + 1), by omega, i + 1, rfl, hlt, hp.put (by omega) _, f0.set _, f1.other (by omega) _, fv.other (by omega) _, rfl⟩
  obtain rfl : i = 8 := by omega
  have d0 : decide (((8 : Nat) : Int) < 8) = false := rfl
  have f0 : Fx h3 hB (addSt S T).c' := f0
  have rs := f0.rd (off := 0) (n := 8) (vs := (addSt S T).c') rfl (Nat.le_of_ble_eq_true rfl)
  have hw : wrs h3 oB 0 (addSt S T).c' = some (h3.set oB (.row .fix (addSt S T).c')) := by
    rw [f1.wr (by simp [St.c'])]; rfl
  have hr := (f1.set (addSt S T).c').rd (off := 0) (n := 8) (vs := (addSt S T).c') rfl (Nat.le_of_ble_eq_true rfl)
  have ca : cellsA (.agg ⟨(addSt S T).c'⟩) = some (addSt S T).c' := rfl
  simp (dsimp := false) only [↓ir.ref04_Block.l3.bw, go_sem, Nat.reduceAdd, Nat.reduceEqDiff, Nat.reduceMul, Nat.reduceLeDiff, Nat.reduceSub, Nat.reduceLT, ↓reduceIte, reduceCtorEq, List.reduceReplicate, List.flatten_cons, List.flatten_nil, List.append_nil, eq_self, Int.reduceLE, Int.reduceLT, Int.reduceToNat, Nat.min_eq_left, Int.reducePow, Int.reduceNeg, Int.reduceEq, d0, rs, ca, hw, hr]
  refine ⟨rfl, rfl, hp.put (by omega) _, ?_⟩
  rw [mixF, ← hWm, hT]
end Go.Proofs.YtbomppdiiaodbaaRRR.B
