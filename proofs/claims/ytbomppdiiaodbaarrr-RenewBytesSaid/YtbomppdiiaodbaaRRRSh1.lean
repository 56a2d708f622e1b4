/-
  The program's sum (layer 4): constants, a turn, one block.
-/
import Derived.Test.YtbomppdiiaodbaaRRRIr04
import Derived.Test.YtbomppdiiaodbaaRRRSi
namespace Go.Proofs.YtbomppdiiaodbaaRRR.B
open Go
set_option linter.unusedVariables false
set_option linter.unusedSimpArgs false
set_option maxRecDepth 100000
variable {h : AHeap}
theorem turn_spec (x : Int) {n : Nat} (hn : n ≤ 32) : Spec Try.prog nG fn.sha_turn [.int .u32 x, .int .i64 (n : Int)] h (.int .u32 (rotU x n)) h := by
  apply ir.sha_turn.spec (Nat.le_of_ble_eq_true rfl)
  have e1 : IntKind.i64.wrap (32 - (n : Int)) = ((32 - n : Nat) : Int) := by rw [wrap_i64 (by omega)]; omega
  simp (dsimp := false) only [↓ir.sha_turn.bw, ir.sha_turn.rs, go_sem, Nat.reduceAdd, Nat.reduceEqDiff, Nat.reduceMul, Nat.reduceLeDiff, Nat.reduceSub, Nat.reduceLT, ↓reduceIte, reduceCtorEq, List.reduceReplicate, List.flatten_cons, List.flatten_nil, List.append_nil, eq_self, Int.reduceLE, Int.reduceLT, Int.reduceToNat, Nat.min_eq_left, Int.reducePow, Int.reduceNeg, Int.reduceEq, e1, Int.toNat_natCast, Nat.min_eq_left hn, Nat.min_eq_left (show 32 - n ≤ 32 by omega)]
  exact ⟨by omega, by omega, Fin.sc0 rfl⟩
theorem rotr_spec (x : Int) {n : Nat} (hn : n ≤ 32) : Spec Try.prog nG fn.ref04_rotr [.int .u32 x, .int .u64 (n : Int)] h (.int .u32 (rotU x n)) h := by
  apply ir.ref04_rotr.spec (Nat.le_of_ble_eq_true rfl)
  have e1 : IntKind.u64.wrap (32 - (n : Int)) = ((32 - n : Nat) : Int) := by rw [IntKind.wrap_u64]; omega
  simp (dsimp := false) only [↓ir.ref04_rotr.bw, ir.ref04_rotr.rs, go_sem, Nat.reduceAdd, Nat.reduceEqDiff, Nat.reduceMul, Nat.reduceLeDiff, Nat.reduceSub, Nat.reduceLT, ↓reduceIte, reduceCtorEq, List.reduceReplicate, List.flatten_cons, List.flatten_nil, List.append_nil, eq_self, Int.reduceLE, Int.reduceLT, Int.reduceToNat, Nat.min_eq_left, Int.reducePow, Int.reduceNeg, Int.reduceEq, e1, Int.toNat_natCast, Nat.min_eq_left hn, Nat.min_eq_left (show 32 - n ≤ 32 by omega)]
  exact ⟨by omega, by omega, Fin.sc0 rfl⟩
theorem words_spec : Spec Try.prog nG fn.sha_words [] h (.agg ⟨ik .u32 KS⟩) h := by
  apply ir.sha_words.spec (Nat.le_of_ble_eq_true rfl)
  simp (dsimp := false) only [↓ir.sha_words.bw, ir.sha_words.rs, go_sem, Nat.reduceAdd, Nat.reduceEqDiff, Nat.reduceMul, Nat.reduceLeDiff, Nat.reduceSub, Nat.reduceLT, ↓reduceIte, reduceCtorEq, List.reduceReplicate, List.flatten_cons, List.flatten_nil, List.append_nil, eq_self, Int.reduceLE, Int.reduceLT, Int.reduceToNat, Nat.min_eq_left, Int.reducePow, Int.reduceNeg, Int.reduceEq, zrep]
  exact Fin.agg (ik_scalar _ _) rfl
theorem rK_spec : Spec Try.prog nG fn.ref04_K [] h (.agg ⟨ik .u32 KS⟩) h := by
  apply ir.ref04_K.spec (Nat.le_of_ble_eq_true rfl)
  simp (dsimp := false) only [↓ir.ref04_K.bw, ir.ref04_K.rs, go_sem, Nat.reduceAdd, Nat.reduceEqDiff, Nat.reduceMul, Nat.reduceLeDiff, Nat.reduceSub, Nat.reduceLT, ↓reduceIte, reduceCtorEq, List.reduceReplicate, List.flatten_cons, List.flatten_nil, List.append_nil, eq_self, Int.reduceLE, Int.reduceLT, Int.reduceToNat, Nat.min_eq_left, Int.reducePow, Int.reduceNeg, Int.reduceEq, zrep]
  exact Fin.agg (ik_scalar _ _) rfl
theorem first_spec : Spec Try.prog nG fn.ref04_First [] h (.agg ⟨st0.c'⟩) h := by
  apply ir.ref04_First.spec (Nat.le_of_ble_eq_true rfl)
  simp (dsimp := false) only [↓ir.ref04_First.bw, ir.ref04_First.rs, go_sem, Nat.reduceAdd, Nat.reduceEqDiff, Nat.reduceMul, Nat.reduceLeDiff, Nat.reduceSub, Nat.reduceLT, ↓reduceIte, reduceCtorEq, List.reduceReplicate, List.flatten_cons, List.flatten_nil, List.append_nil, eq_self, Int.reduceLE, Int.reduceLT, Int.reduceToNat, Nat.min_eq_left, Int.reducePow, Int.reduceNeg, Int.reduceEq]
  exact Fin.agg rfl rfl
/-- The words so far, zeros behind. -/
def padW (l : List Int) : List Int := l ++ List.replicate (64 - l.length) 0
theorem padW_len {l : List Int} (h : l.length ≤ 64) : (padW l).length = 64 := by simp [padW]; omega
theorem padW_get {l : List Int} {i : Nat} (h : i < l.length) : (padW l).getD i 0 = l.getD i 0 := by
  simp [padW, List.getD_eq_getElem?_getD, List.getElem?_append_left h]
theorem padW_set {l : List Int} (h : l.length < 64) (x : Int) : (padW l).set l.length x = padW (l ++ [x]) := by
  unfold padW
  rw [List.set_append_right _ _ (Nat.le_refl _), Nat.sub_self, List.length_append, List.length_singleton, show 64 - l.length = (64 - (l.length + 1)) + 1 by omega, List.replicate_succ, List.set_cons_zero, List.append_assoc]
  rfl
theorem padW_full {l : List Int} (h : l.length = 64) : padW l = l := by simp [padW, h]
theorem schedF_snoc (n : Nat) : ∀ (l : List Int), schedF (n + 1) l = schedF n l ++ [nextW (schedF n l)] := by
  induction n with
  | zero => intro l; rfl
  | succ n ih => intro l; rw [schedF, ih (l ++ [nextW l])]; rfl
theorem word_prog {a b c d : Int} (ha : 0 ≤ a ∧ a < 256) (hb : 0 ≤ b ∧ b < 256) (hc : 0 ≤ c ∧ c < 256) (hd : 0 ≤ d ∧ d < 256) :
    orU (orU (orU (IntKind.u32.wrap (IntKind.u32.wrap a * 16777216)) (IntKind.u32.wrap (IntKind.u32.wrap b * 65536))) (IntKind.u32.wrap (IntKind.u32.wrap c * 256))) (IntKind.u32.wrap d) = wordF a b c d := by
  have w : ∀ {x : Int}, 0 ≤ x ∧ x < 256 → IntKind.u32.wrap x = x := fun {x} q => by rw [IntKind.wrap_u32]; omega
  rw [w ha, w hb, w hc, w hd]
  obtain ⟨a, rfl⟩ := Int.eq_ofNat_of_zero_le ha.1
  obtain ⟨b, rfl⟩ := Int.eq_ofNat_of_zero_le hb.1
  obtain ⟨c, rfl⟩ := Int.eq_ofNat_of_zero_le hc.1
  obtain ⟨d, rfl⟩ := Int.eq_ofNat_of_zero_le hd.1
  exact word_or (by omega) (by omega) (by omega) (by omega)
theorem word_ref {a b c d : Int} (ha : 0 ≤ a ∧ a < 256) (hb : 0 ≤ b ∧ b < 256) (hc : 0 ≤ c ∧ c < 256) (hd : 0 ≤ d ∧ d < 256) :
    addU (addU (addU (IntKind.u32.wrap (IntKind.u32.wrap a * 16777216)) (IntKind.u32.wrap (IntKind.u32.wrap b * 65536))) (IntKind.u32.wrap (IntKind.u32.wrap c * 256))) (IntKind.u32.wrap d) = wordF a b c d := by
  have w : ∀ {x : Int}, 0 ≤ x ∧ x < 256 → IntKind.u32.wrap x = x := fun {x} q => by rw [IntKind.wrap_u32]; omega
  rw [w ha, w hb, w hc, w hd]
  obtain ⟨a, rfl⟩ := Int.eq_ofNat_of_zero_le ha.1
  obtain ⟨b, rfl⟩ := Int.eq_ofNat_of_zero_le hb.1
  obtain ⟨c, rfl⟩ := Int.eq_ofNat_of_zero_le hc.1
  obtain ⟨d, rfl⟩ := Int.eq_ofNat_of_zero_le hd.1
  exact word_add (by omega) (by omega) (by omega) (by omega)
theorem mix_spec {v : Value} {l : List Int} (hv : Ls h 1 by8 v l) (hl : 64 ≤ l.length) (hb : IsB l) (S : St) : Spec Try.prog nG fn.sha_mix [.agg ⟨S.c'⟩, v] h (.agg ⟨(mixF S l).c'⟩) h := by
  refine SpecX.ag rfl (SpecX.of_body (ir.sha_mix.spec (Nat.le_of_ble_eq_true rfl)) ?_)
  have ca : cellsA (.agg ⟨S.c'⟩) = some S.c' := rfl
  simp (dsimp := false) only [↓ir.sha_mix.bw, ir.sha_mix.rs, go_sem, Nat.reduceAdd, Nat.reduceEqDiff, Nat.reduceMul, Nat.reduceLeDiff, Nat.reduceSub, Nat.reduceLT, ↓reduceIte, reduceCtorEq, List.reduceReplicate, List.flatten_cons, List.flatten_nil, List.append_nil, eq_self, Int.reduceLE, Int.reduceLT, Int.reduceToNat, Nat.min_eq_left, Int.reducePow, Int.reduceNeg, Int.reduceEq, ca, zrep_ik]
  obtain ⟨hB, e0⟩ : ∃ n, h.length = n := ⟨_, rfl⟩
  obtain ⟨oB, e1⟩ : ∃ n, h.length + 1 = n := ⟨_, rfl⟩
  obtain ⟨wB, e2⟩ : ∃ n, h.length + 2 = n := ⟨_, rfl⟩
  rw [e0] at e1 e2
  have f0 : Fx (h ++ [.row .fix S.c', .row .fix [.int .u32 0, .int .u32 0, .int .u32 0, .int .u32 0, .int .u32 0, .int .u32 0, .int .u32 0, .int .u32 0], .row .fix (ik .u32 (irep 64 0))]) hB S.c' := by simp [Fx, ← e0]
  have f1 : Fx (h ++ [.row .fix S.c', .row .fix [.int .u32 0, .int .u32 0, .int .u32 0, .int .u32 0, .int .u32 0, .int .u32 0, .int .u32 0, .int .u32 0], .row .fix (ik .u32 (irep 64 0))]) oB [.int .u32 0, .int .u32 0, .int .u32 0, .int .u32 0, .int .u32 0, .int .u32 0, .int .u32 0, .int .u32 0] := by simp [Fx, ← e1, ← e0]
  have f2 : Fx (h ++ [.row .fix S.c', .row .fix [.int .u32 0, .int .u32 0, .int .u32 0, .int .u32 0, .int .u32 0, .int .u32 0, .int .u32 0, .int .u32 0], .row .fix (ik .u32 (irep 64 0))]) wB (ik .u32 (padW (wordsF l 0))) := by simp [Fx, ← e2, ← e0, irep, padW, wordsF]
  have p0 := Pre.app h [.row .fix S.c', .row .fix [.int .u32 0, .int .u32 0, .int .u32 0, .int .u32 0, .int .u32 0, .int .u32 0, .int .u32 0, .int .u32 0], .row .fix (ik .u32 (irep 64 0))]
  generalize (h ++ [AObj.row .fix S.c', .row .fix [.int .u32 0, .int .u32 0, .int .u32 0, .int .u32 0, .int .u32 0, .int .u32 0, .int .u32 0, .int .u32 0], .row .fix (ik .u32 (irep 64 0))]) = h0 at f0 f1 f2 p0 ⊢
  rw [e0, e1, e2]
  refine loopV_of (fun m e h2 => ∃ i : Nat, m = 16 - i ∧ i ≤ 16 ∧ Pre h h2 ∧ Fx h2 hB S.c' ∧ Fx h2 oB [.int .u32 0, .int .u32 0, .int .u32 0, .int .u32 0, .int .u32 0, .int .u32 0, .int .u32 0, .int .u32 0] ∧ Fx h2 wB (ik .u32 (padW (wordsF l i))) ∧
    e = [(1, v), (2, .pointer (some ⟨hB, 0, none⟩)), (4, .pointer (some ⟨oB, 0, none⟩)), (5, .pointer (some ⟨wB, 0, none⟩)), (24, .int .i64 i)]) _ ⟨0, rfl, Nat.zero_le _, p0, f0, f1, f2, rfl⟩ ?_
  clear f0 f1 f2 p0 h0
  rintro m e h2 ⟨i, rfl, hi, hp, f0, f1, f2, rfl⟩
  rcases Nat.lt_or_ge i 16 with hlt | hge
  case inl =>
    have i1 : IntKind.i64.wrap (4 * (i : Int)) = ((4 * i : Nat) : Int) := by rw [wrap_i64 (by omega)]; omega
    have i2 : IntKind.i64.wrap (((4 * i : Nat) : Int) + 1) = ((4 * i + 1 : Nat) : Int) := by rw [wrap_i64 (by omega)]; omega
    have i3 : IntKind.i64.wrap (((4 * i : Nat) : Int) + 2) = ((4 * i + 2 : Nat) : Int) := by rw [wrap_i64 (by omega)]; omega
    have i4 : IntKind.i64.wrap (((4 * i : Nat) : Int) + 3) = ((4 * i + 3 : Nat) : Int) := by rw [wrap_i64 (by omega)]; omega
    have i5 : IntKind.i64.wrap ((i : Int) + 1) = ((i + 1 : Nat) : Int) := wrap_succ hlt (by unfold maxI; omega)
    have d0 : decide ((i : Int) < 16) = true := decide_eq_true (by omega)
    simp (dsimp := false) only [↓ir.sha_mix.l1.bw, go_sem, Nat.reduceAdd, Nat.reduceEqDiff, Nat.reduceMul, Nat.reduceLeDiff, Nat.reduceSub, Nat.reduceLT, ↓reduceIte, reduceCtorEq, List.reduceReplicate, List.flatten_cons, List.flatten_nil, List.append_nil, eq_self, Int.reduceLE, Int.reduceLT, Int.reduceToNat, Nat.min_eq_left, Int.reducePow, Int.reduceNeg, Int.reduceEq, d0, i1, i2, i3, i4, i5, hv.ixsN (show 4 * i < l.length by omega), hv.ixsN (show 4 * i + 1 < l.length by omega), hv.ixsN (show 4 * i + 2 < l.length by omega), hv.ixsN (show 4 * i + 3 < l.length by omega),
      Nat.mul_one, hv.rdK0 hp (show 4 * i < l.length by omega), hv.rdK0 hp (show 4 * i + 1 < l.length by omega), hv.rdK0 hp (show 4 * i + 2 < l.length by omega), hv.rdK0 hp (show 4 * i + 3 < l.length by omega)]
    have wd := word_prog (hb.getD (4 * i)) (hb.getD (4 * i + 1)) (hb.getD (4 * i + 2)) (hb.getD (4 * i + 3))
    simp only [orU] at wd
    rw [wd]
    have hw := f2.kwr (i := i) (by rw [padW_len (by rw [wordsF_len]; omega)]; omega) (wordF (l.getD (4 * i) 0) (l.getD (4 * i + 1) 0) (l.getD (4 * i + 2) 0) (l.getD (4 * i + 3) 0))
    have hs := padW_set (l := wordsF l i) (by rw [wordsF_len]; omega) (wordF (l.getD (4 * i) 0) (l.getD (4 * i + 1) 0) (l.getD (4 * i + 2) 0) (l.getD (4 * i + 3) 0))
    rw [wordsF_len] at hs
    rw [hs] at hw
    refine ⟨by omega, ?_⟩
    simp (dsimp := false) only [go_sem, Nat.reduceAdd, Nat.reduceEqDiff, Nat.reduceMul, Nat.reduceLeDiff, Nat.reduceSub, Nat.reduceLT, ↓reduceIte, reduceCtorEq, List.reduceReplicate, List.flatten_cons, List.flatten_nil, List.append_nil, eq_self, Int.reduceLE, Int.reduceLT, Int.reduceToNat, Nat.min_eq_left, Int.reducePow, Int.reduceNeg, Int.reduceEq, Int.toNat_natCast, hw, i5]
    exact ⟨16 - (i + 1), by omega, i + 1, rfl, hlt, hp.put (by omega) _, f0.other (by omega) _, f1.other (by omega) _, f2.set _, rfl⟩
  obtain rfl : i = 16 := by omega
  have d0 : decide (((16 : Nat) : Int) < 16) = false := rfl
  simp (dsimp := false) only [↓ir.sha_mix.l1.bw, go_sem, Nat.reduceAdd, Nat.reduceEqDiff, Nat.reduceMul, Nat.reduceLeDiff, Nat.reduceSub, Nat.reduceLT, ↓reduceIte, reduceCtorEq, List.reduceReplicate, List.flatten_cons, List.flatten_nil, List.append_nil, eq_self, Int.reduceLE, Int.reduceLT, Int.reduceToNat, Nat.min_eq_left, Int.reducePow, Int.reduceNeg, Int.reduceEq, d0]
  -- the schedule
  refine loopV_of (fun m e h3 => ∃ i : Nat, m = 48 - i ∧ i ≤ 48 ∧ Pre h h3 ∧ Fx h3 hB S.c' ∧ Fx h3 oB [.int .u32 0, .int .u32 0, .int .u32 0, .int .u32 0, .int .u32 0, .int .u32 0, .int .u32 0, .int .u32 0] ∧ Fx h3 wB (ik .u32 (padW (schedF i (wordsF l 16)))) ∧
    e = [(2, .pointer (some ⟨hB, 0, none⟩)), (4, .pointer (some ⟨oB, 0, none⟩)), (5, .pointer (some ⟨wB, 0, none⟩)), (7, .int .i64 ((16 + i : Nat) : Int))]) _ ⟨0, rfl, Nat.zero_le _, hp, f0, f1, f2, rfl⟩ ?_
  clear f0 f1 f2 hp h2
  rintro m e h2 ⟨i, rfl, hi, hp, f0, f1, f2, rfl⟩
  obtain ⟨W, hW⟩ : ∃ W, schedF i (wordsF l 16) = W := ⟨_, rfl⟩
  have hWl : W.length = 16 + i := by rw [← hW, schedF_len, wordsF_len]
  rw [hW] at f2
  have hPl : (padW W).length = 64 := padW_len (by omega)
  rcases Nat.lt_or_ge i 48 with hlt | hge
  case inl =>
    have i1 : IntKind.i64.wrap (((16 + i : Nat) : Int) - 15) = ((16 + i - 15 : Nat) : Int) := sub_nat (m := 15) (by omega) (by unfold maxI; omega)
    have i2 : IntKind.i64.wrap (((16 + i : Nat) : Int) - 2) = ((16 + i - 2 : Nat) : Int) := sub_nat (m := 2) (by omega) (by unfold maxI; omega)
    have i3 : IntKind.i64.wrap (((16 + i : Nat) : Int) - 16) = ((16 + i - 16 : Nat) : Int) := sub_nat (m := 16) (by omega) (by unfold maxI; omega)
    have i4 : IntKind.i64.wrap (((16 + i : Nat) : Int) - 7) = ((16 + i - 7 : Nat) : Int) := sub_nat (m := 7) (by omega) (by unfold maxI; omega)
    have i5 : IntKind.i64.wrap (((16 + i : Nat) : Int) + 1) = ((16 + (i + 1) : Nat) : Int) := wrap_succ (m := 64) (by omega) (by unfold maxI; omega)
    have d0 : decide (((16 + i : Nat) : Int) < 64) = true := decide_eq_true (by omega)
    have r1 := f2.krd (i := 16 + i - 15) (by omega)
    have r2 := f2.krd (i := 16 + i - 2) (by omega)
    have r3 := f2.krd (i := 16 + i - 16) (by omega)
    have r4 := f2.krd (i := 16 + i - 7) (by omega)
    rw [padW_get (by omega)] at r1 r2 r3 r4
    simp (dsimp := false) only [↓ir.sha_mix.l2.bw, go_sem, Nat.reduceAdd, Nat.reduceEqDiff, Nat.reduceMul, Nat.reduceLeDiff, Nat.reduceSub, Nat.reduceLT, ↓reduceIte, reduceCtorEq, List.reduceReplicate, List.flatten_cons, List.flatten_nil, List.append_nil, eq_self, Int.reduceLE, Int.reduceLT, Int.reduceToNat, Nat.min_eq_left, Int.reducePow, Int.reduceNeg, Int.reduceEq, d0, i1, i2, i3, i4, Int.toNat_natCast, Nat.mul_one, r1, r2, r3, r4]
    refine ⟨by omega, by omega, ?_⟩
    have q3 : shrU (W.getD (16 + i - 15) 0) 3 = (W.getD (16 + i - 15) 0).fdiv 8 := rfl
    have q10 : shrU (W.getD (16 + i - 2) 0) 10 = (W.getD (16 + i - 2) 0).fdiv 1024 := rfl
    refine callV_of (turn_spec _ (n := 7) (by omega)) ?_
    simp (dsimp := false) only [go_sem, Nat.reduceAdd, Nat.reduceEqDiff, Nat.reduceMul, Nat.reduceLeDiff, Nat.reduceSub, Nat.reduceLT, ↓reduceIte, reduceCtorEq, List.reduceReplicate, List.flatten_cons, List.flatten_nil, List.append_nil, eq_self, Int.reduceLE, Int.reduceLT, Int.reduceToNat, Nat.min_eq_left, Int.reducePow, Int.reduceNeg, Int.reduceEq]
    refine callV_of (turn_spec _ (n := 18) (by omega)) ?_
    simp (dsimp := false) only [go_sem, Nat.reduceAdd, Nat.reduceEqDiff, Nat.reduceMul, Nat.reduceLeDiff, Nat.reduceSub, Nat.reduceLT, ↓reduceIte, reduceCtorEq, List.reduceReplicate, List.flatten_cons, List.flatten_nil, List.append_nil, eq_self, Int.reduceLE, Int.reduceLT, Int.reduceToNat, Nat.min_eq_left, Int.reducePow, Int.reduceNeg, Int.reduceEq]
    refine callV_of (turn_spec _ (n := 17) (by omega)) ?_
    simp (dsimp := false) only [go_sem, Nat.reduceAdd, Nat.reduceEqDiff, Nat.reduceMul, Nat.reduceLeDiff, Nat.reduceSub, Nat.reduceLT, ↓reduceIte, reduceCtorEq, List.reduceReplicate, List.flatten_cons, List.flatten_nil, List.append_nil, eq_self, Int.reduceLE, Int.reduceLT, Int.reduceToNat, Nat.min_eq_left, Int.reducePow, Int.reduceNeg, Int.reduceEq]
    refine callV_of (turn_spec _ (n := 19) (by omega)) ?_
    have e1 : s0U (W.getD (16 + i - 15) 0) = s0U (W.getD (16 + i - 15) 0) := rfl
    have e2 : s1U (W.getD (16 + i - 2) 0) = s1U (W.getD (16 + i - 2) 0) := rfl
    have e3 : nextW W = nextW W := rfl
    conv at e1 => lhs; unfold s0U xorU shrU
    conv at e2 => lhs; unfold s1U xorU shrU
    conv at e3 => lhs; unfold nextW addU
    rw [hWl] at e3
    have x3 : (2 ^ 3 : Int) = 8 := rfl
    have x10 : (2 ^ 10 : Int) = 1024 := rfl
    rw [x3] at e1
    rw [x10] at e2
    have hw := f2.kwr (i := 16 + i) (by omega) (nextW W)
    have hs := padW_set (l := W) (by omega) (nextW W)
    rw [hWl] at hs
    rw [hs] at hw
    simp (dsimp := false) only [go_sem, Nat.reduceAdd, Nat.reduceEqDiff, Nat.reduceMul, Nat.reduceLeDiff, Nat.reduceSub, Nat.reduceLT, ↓reduceIte, reduceCtorEq, List.reduceReplicate, List.flatten_cons, List.flatten_nil, List.append_nil, eq_self, Int.reduceLE, Int.reduceLT, Int.reduceToNat, Nat.min_eq_left, Int.reducePow, Int.reduceNeg, Int.reduceEq, i3, i4, Int.toNat_natCast, Nat.mul_one, r3, r4, e1, e2, e3]
    refine ⟨by omega, by omega, by omega, ?_⟩
    simp (dsimp := false) only [go_sem, Nat.reduceAdd, Nat.reduceEqDiff, Nat.reduceMul, Nat.reduceLeDiff, Nat.reduceSub, Nat.reduceLT, ↓reduceIte, reduceCtorEq, List.reduceReplicate, List.flatten_cons, List.flatten_nil, List.append_nil, eq_self, Int.reduceLE, Int.reduceLT, Int.reduceToNat, Nat.min_eq_left, Int.reducePow, Int.reduceNeg, Int.reduceEq, hw, i5]
    refine ⟨48 - (i + 1), by omega, i + 1, rfl, hlt, hp.put (by omega) _, f0.other (by omega) _, f1.other (by omega) _, ?_, rfl⟩
    rw [schedF_snoc, hW]
    exact f2.set _
  obtain rfl : i = 48 := by omega
  have d0 : decide (((16 + 48 : Nat) : Int) < 64) = false := rfl
  rw [padW_full (by omega)] at f2
  simp (dsimp := false) only [↓ir.sha_mix.l2.bw, go_sem, Nat.reduceAdd, Nat.reduceEqDiff, Nat.reduceMul, Nat.reduceLeDiff, Nat.reduceSub, Nat.reduceLT, ↓reduceIte, reduceCtorEq, List.reduceReplicate, List.flatten_cons, List.flatten_nil, List.append_nil, eq_self, Int.reduceLE, Int.reduceLT, Int.reduceToNat, Nat.min_eq_left, Int.reducePow, Int.reduceNeg, Int.reduceEq, d0]
  -- the rounds
  refine callV_of words_spec ?_
  have hkl : (ik .u32 (irep 64 0)).length = (ik .u32 KS).length := by rw [List.length_map, irep_len]; rfl
  have hwk := wrs_new (h := h2) hkl
  simp (dsimp := false) only [go_sem, Nat.reduceAdd, Nat.reduceEqDiff, Nat.reduceMul, Nat.reduceLeDiff, Nat.reduceSub, Nat.reduceLT, ↓reduceIte, reduceCtorEq, List.reduceReplicate, List.flatten_cons, List.flatten_nil, List.append_nil, eq_self, Int.reduceLE, Int.reduceLT, Int.reduceToNat, Nat.min_eq_left, Int.reducePow, Int.reduceNeg, Int.reduceEq, zrep_ik, hwk]
  refine ⟨rfl, ik_one _ _, by omega, ?_⟩
  obtain ⟨kB, ek⟩ : ∃ n, h2.length = n := ⟨_, rfl⟩
  have fk := Fx.here h2 (ik .u32 KS) []
  have f0 := f0.app [.row .fix (ik .u32 KS)]
  have f1 := f1.app [.row .fix (ik .u32 KS)]
  have f2 := f2.app [.row .fix (ik .u32 KS)]
  have hp := hp.app' [.row .fix (ik .u32 KS)]
  rw [ek] at fk ⊢
  generalize h2 ++ [AObj.row .fix (ik .u32 KS)] = h3 at f0 f1 f2 fk hp ⊢
  clear hwk hPl
  have r0 := f0.rd (off := 0) (n := 1) (vs := [.int .u32 S.a]) rfl (Nat.le_of_ble_eq_true rfl)
  have r1 := f0.rd (off := 1) (n := 1) (vs := [.int .u32 S.b]) rfl (Nat.le_of_ble_eq_true rfl)
  have r2 := f0.rd (off := 2) (n := 1) (vs := [.int .u32 S.c]) rfl (Nat.le_of_ble_eq_true rfl)
  have r3 := f0.rd (off := 3) (n := 1) (vs := [.int .u32 S.d]) rfl (Nat.le_of_ble_eq_true rfl)
  have r4 := f0.rd (off := 4) (n := 1) (vs := [.int .u32 S.e]) rfl (Nat.le_of_ble_eq_true rfl)
  have r5 := f0.rd (off := 5) (n := 1) (vs := [.int .u32 S.f]) rfl (Nat.le_of_ble_eq_true rfl)
  have r6 := f0.rd (off := 6) (n := 1) (vs := [.int .u32 S.g]) rfl (Nat.le_of_ble_eq_true rfl)
  have r7 := f0.rd (off := 7) (n := 1) (vs := [.int .u32 S.z]) rfl (Nat.le_of_ble_eq_true rfl)
  simp (dsimp := false) only [go_sem, Nat.reduceAdd, Nat.reduceEqDiff, Nat.reduceMul, Nat.reduceLeDiff, Nat.reduceSub, Nat.reduceLT, ↓reduceIte, reduceCtorEq, List.reduceReplicate, List.flatten_cons, List.flatten_nil, List.append_nil, eq_self, Int.reduceLE, Int.reduceLT, Int.reduceToNat, Nat.min_eq_left, Int.reducePow, Int.reduceNeg, Int.reduceEq, r0, r1, r2, r3, r4, r5, r6, r7]
  (repeat (with_reducible refine And.intro (by omega) ?_))
  refine loopV_of (fun m e h4 => ∃ i : Nat, m = 64 - i ∧ i ≤ 64 ∧ h4 = h3 ∧ e = [(2, .pointer (some ⟨hB, 0, none⟩)), (4, .pointer (some ⟨oB, 0, none⟩)), (5, .pointer (some ⟨wB, 0, none⟩)), (10, .pointer (some ⟨kB, 0, none⟩)), (11, .int .u32 (roundsF KS W S i).a), (12, .int .u32 (roundsF KS W S i).b), (13, .int .u32 (roundsF KS W S i).c), (14, .int .u32 (roundsF KS W S i).d), (15, .int .u32 (roundsF KS W S i).e), (16, .int .u32 (roundsF KS W S i).f), (17, .int .u32 (roundsF KS W S i).g), (18, .int .u32 (roundsF KS W S i).z), (123, .int .i64 (i : Int))]) _ ⟨0, rfl, Nat.zero_le _, rfl, rfl⟩ ?_
  rintro m e h4 ⟨i, rfl, hi, rfl, rfl⟩
  rcases Nat.lt_or_ge i 64 with hlt | hge
  case inl =>
    obtain ⟨T, hT⟩ : ∃ T, roundsF KS W S i = T := ⟨_, rfl⟩
    rw [hT]
    have d0 : decide ((i : Int) < 64) = true := decide_eq_true (by omega)
    have i5 : IntKind.i64.wrap ((i : Int) + 1) = ((i + 1 : Nat) : Int) := wrap_succ hlt (by unfold maxI; omega)
    have rk := fk.krd (i := i) (by show i < 64; omega)
    have rw' := f2.krd (i := i) (by omega)
    have e1 : b1U T.e = b1U T.e := rfl
    have e3 : b0U T.a = b0U T.a := rfl
    have e2 : t1U (KS.getD i 0) (W.getD i 0) T = t1U (KS.getD i 0) (W.getD i 0) T := rfl
    have e4 : t2U T = t2U T := rfl
    conv at e1 => lhs; unfold b1U xorU
    conv at e3 => lhs; unfold b0U xorU
    conv at e2 => lhs; unfold t1U addU chU xorU andU
    conv at e4 => lhs; unfold t2U addU majU xorU andU
    simp (dsimp := false) only [↓ir.sha_mix.l3.bw, go_sem, Nat.reduceAdd, Nat.reduceEqDiff, Nat.reduceMul, Nat.reduceLeDiff, Nat.reduceSub, Nat.reduceLT, ↓reduceIte, reduceCtorEq, List.reduceReplicate, List.flatten_cons, List.flatten_nil, List.append_nil, eq_self, Int.reduceLE, Int.reduceLT, Int.reduceToNat, Nat.min_eq_left, Int.reducePow, Int.reduceNeg, Int.reduceEq, d0]
    refine callV_of (turn_spec _ (n := 6) (by omega)) ?_
    simp (dsimp := false) only [go_sem, Nat.reduceAdd, Nat.reduceEqDiff, Nat.reduceMul, Nat.reduceLeDiff, Nat.reduceSub, Nat.reduceLT, ↓reduceIte, reduceCtorEq, List.reduceReplicate, List.flatten_cons, List.flatten_nil, List.append_nil, eq_self, Int.reduceLE, Int.reduceLT, Int.reduceToNat, Nat.min_eq_left, Int.reducePow, Int.reduceNeg, Int.reduceEq]
    refine callV_of (turn_spec _ (n := 11) (by omega)) ?_
    simp (dsimp := false) only [go_sem, Nat.reduceAdd, Nat.reduceEqDiff, Nat.reduceMul, Nat.reduceLeDiff, Nat.reduceSub, Nat.reduceLT, ↓reduceIte, reduceCtorEq, List.reduceReplicate, List.flatten_cons, List.flatten_nil, List.append_nil, eq_self, Int.reduceLE, Int.reduceLT, Int.reduceToNat, Nat.min_eq_left, Int.reducePow, Int.reduceNeg, Int.reduceEq]
    refine callV_of (turn_spec _ (n := 25) (by omega)) ?_
    simp (dsimp := false) only [go_sem, Nat.reduceAdd, Nat.reduceEqDiff, Nat.reduceMul, Nat.reduceLeDiff, Nat.reduceSub, Nat.reduceLT, ↓reduceIte, reduceCtorEq, List.reduceReplicate, List.flatten_cons, List.flatten_nil, List.append_nil, eq_self, Int.reduceLE, Int.reduceLT, Int.reduceToNat, Nat.min_eq_left, Int.reducePow, Int.reduceNeg, Int.reduceEq, e1, unV_not32, Int.toNat_natCast, Nat.mul_one, rk, rw', e2]
    refine ⟨by omega, by omega, ?_⟩
    refine callV_of (turn_spec _ (n := 2) (by omega)) ?_
    simp (dsimp := false) only [go_sem, Nat.reduceAdd, Nat.reduceEqDiff, Nat.reduceMul, Nat.reduceLeDiff, Nat.reduceSub, Nat.reduceLT, ↓reduceIte, reduceCtorEq, List.reduceReplicate, List.flatten_cons, List.flatten_nil, List.append_nil, eq_self, Int.reduceLE, Int.reduceLT, Int.reduceToNat, Nat.min_eq_left, Int.reducePow, Int.reduceNeg, Int.reduceEq]
    refine callV_of (turn_spec _ (n := 13) (by omega)) ?_
    simp (dsimp := false) only [go_sem, Nat.reduceAdd, Nat.reduceEqDiff, Nat.reduceMul, Nat.reduceLeDiff, Nat.reduceSub, Nat.reduceLT, ↓reduceIte, reduceCtorEq, List.reduceReplicate, List.flatten_cons, List.flatten_nil, List.append_nil, eq_self, Int.reduceLE, Int.reduceLT, Int.reduceToNat, Nat.min_eq_left, Int.reducePow, Int.reduceNeg, Int.reduceEq]
    refine callV_of (turn_spec _ (n := 22) (by omega)) ?_
    simp (dsimp := false) only [go_sem, Nat.reduceAdd, Nat.reduceEqDiff, Nat.reduceMul, Nat.reduceLeDiff, Nat.reduceSub, Nat.reduceLT, ↓reduceIte, reduceCtorEq, List.reduceReplicate, List.flatten_cons, List.flatten_nil, List.append_nil, eq_self, Int.reduceLE, Int.reduceLT, Int.reduceToNat, Nat.min_eq_left, Int.reducePow, Int.reduceNeg, Int.reduceEq, e3, e4, i5]
    refine ⟨64 - (i + 1), by omega, i + 1, rfl, hlt, ?_⟩
    rw [roundsF, hT]
    rfl
  obtain rfl : i = 64 := by omega
  have d0 : decide (((64 : Nat) : Int) < 64) = false := rfl
  obtain ⟨T, hT⟩ : ∃ T, roundsF KS W S 64 = T := ⟨_, rfl⟩
  rw [hT]
  simp (dsimp := false) only [↓ir.sha_mix.l3.bw, go_sem, Nat.reduceAdd, Nat.reduceEqDiff, Nat.reduceMul, Nat.reduceLeDiff, Nat.reduceSub, Nat.reduceLT, ↓reduceIte, reduceCtorEq, List.reduceReplicate, List.flatten_cons, List.flatten_nil, List.append_nil, eq_self, Int.reduceLE, Int.reduceLT, Int.reduceToNat, Nat.min_eq_left, Int.reducePow, Int.reduceNeg, Int.reduceEq, d0, r0, r1, r2, r3, r4, r5, r6, r7]
  (repeat (with_reducible refine And.intro (by omega) ?_))
  have hw : wrs h4 oB 0 (addSt S T).c' = some (h4.set oB (.row .fix (addSt S T).c')) := by
    rw [f1.wr (by simp [St.c'])]; rfl
  have hr := (f1.set (addSt S T).c').rd (off := 0) (n := 8) (vs := (addSt S T).c') rfl (Nat.le_of_ble_eq_true rfl)
  have e5 : (addSt S T).c' = (addSt S T).c' := rfl
  conv at e5 => lhs; unfold addSt addU St.c'
  simp only at e5
  simp (dsimp := false) only [go_sem, Nat.reduceAdd, Nat.reduceEqDiff, Nat.reduceMul, Nat.reduceLeDiff, Nat.reduceSub, Nat.reduceLT, ↓reduceIte, reduceCtorEq, List.reduceReplicate, List.flatten_cons, List.flatten_nil, List.append_nil, eq_self, Int.reduceLE, Int.reduceLT, Int.reduceToNat, Nat.min_eq_left, Int.reducePow, Int.reduceNeg, Int.reduceEq, e5, hw, hr]
  refine ⟨hp.put (by omega) _, ?_⟩
  rw [mixF, hW, hT]
end Go.Proofs.YtbomppdiiaodbaaRRR.B
