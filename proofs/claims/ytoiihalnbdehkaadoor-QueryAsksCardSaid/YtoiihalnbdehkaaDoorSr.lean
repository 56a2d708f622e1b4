/-
  The document's numerals: Decimal and Whole.
-/
import Derived.Test.YtoiihalnbdehkaaDoorSs
namespace Go.Proofs.YtoiihalnbdehkaaDoor.B
open Go
set_option linter.unusedVariables false
set_option linter.unusedSimpArgs false
theorem size_mk (a : Array UInt8) : (ByteArray.mk a).size = a.size := rfl
theorem Pre.two (h : AHeap) (a b : AObj) : Pre (h ++ [a]) (h ++ [a, b]) := ⟨[b], by simp⟩
theorem bts_rd {h : AHeap} {b off n cap : Nat} {l : List Int} (r : rds h b off n = some (l.map (Value.int .u8))) {K : Value → AHeap → Prop} {w : Hold K} :
    btsV (.slice (some ⟨b, off, none⟩) n cap) h K w = K (.string (bytesS l)) h := by
  cases n with
  | zero =>
    have := rds_len r
    have : l = [] := by simpa using this
    subst this; rfl
  | succ n => simp only [btsV, r, Option.bind_some, bytesA_map]
theorem dgI_small {u : Nat} (h : u < 10) : dgI u 0 = ((48 + u : Nat) : Int) := by
  unfold dgI
  rw [Nat.pow_zero, Nat.div_one, Nat.mod_eq_of_lt h, dB_lt h]
theorem dgI_zero (u : Nat) : dgI u 0 = ((48 + u % 10 : Nat) : Int) := by
  unfold dgI
  rw [Nat.pow_zero, Nat.div_one, dB_lt (by omega)]
theorem decimal_spec (h : AHeap) {u : Nat} (hu : u < 18446744073709551616) : Spec Tryd.prog nG fn.ref01_Decimal [.int .u64 (u : Int)] h (.string (decS u)) h := by
  apply ir.ref01_Decimal.spec (Nat.le_of_ble_eq_true rfl)
  simp (dsimp := false) only [↓ir.ref01_Decimal.bw, ir.ref01_Decimal.rs, go_sem, Nat.reduceAdd, Nat.reduceEqDiff, Nat.reduceMul, Nat.reduceLeDiff, Nat.reduceSub, Nat.reduceLT, ↓reduceIte, reduceCtorEq, List.reduceReplicate, List.flatten_cons, List.flatten_nil, List.append_nil, eq_self, Int.reduceLE, Int.reduceLT, Int.reduceToNat, Nat.min_eq_left, Int.reducePow, Int.reduceNeg, Int.reduceEq]
  refine loopV_of (fun m e h2 => ∃ (n : Nat) (s : ByteArray), m = n ∧ n ≤ u ∧ Pre h h2 ∧ decS u = decS n ++ s ∧ e = [(0, .int .u64 (n : Int)), (3, .string s)]) _ ⟨u, ⟨#[]⟩, rfl, Nat.le_refl _, .refl h, ByteArray.append_empty.symm, rfl⟩ ?_
  rintro m e h2 ⟨n, s, rfl, hn, hp, hd, rfl⟩
  have hsz : (decS m).size + s.size ≤ 20 := by
    have := decS_size hu
    rw [hd, ByteArray.size_append] at this; exact this
  have hs1 : ∀ x : Int, (bytesS [x]).size = 1 := fun x => bytesS_size _
  have hm64 : m < 18446744073709551616 := by omega
  have tm10 : (m : Int).tmod 10 = ((m % 10 : Nat) : Int) := tmN m 10
  have td10 : (m : Int).tdiv 10 = ((m / 10 : Nat) : Int) := tdN m 10
  simp (dsimp := false) only [↓ir.ref01_Decimal.l1.bw, go_sem, Nat.reduceAdd, Nat.reduceEqDiff, Nat.reduceMul, Nat.reduceLeDiff, Nat.reduceSub, Nat.reduceLT, ↓reduceIte, reduceCtorEq, List.reduceReplicate, List.flatten_cons, List.flatten_nil, List.append_nil, eq_self, Int.reduceLE, Int.reduceLT, Int.reduceToNat, Nat.min_eq_left, Int.reducePow, Int.reduceNeg, Int.reduceEq]
  refine cVd (fun c => ?_) (fun c => ?_)
  · have w1 : IntKind.u8.wrap (IntKind.u64.wrap (48 + ((m % 10 : Nat) : Int))) = dgI m 0 := by
      rw [show (48 : Int) + ((m % 10 : Nat) : Int) = ((48 + m % 10 : Nat) : Int) by omega, wrapU64 (by omega), wrapU8 (by omega), dgI_zero]
    have r1 : rds (h2 ++ [AObj.row (.grow 1) [.int .u8 (dgI m 0)]]) h2.length 0 1 = some ([dgI m 0].map (Value.int .u8)) := by simp [rds]
    have w2 := wrapU64 (show m / 10 < 18446744073709551616 by omega)
    simp (dsimp := false) only [go_sem, Nat.reduceAdd, Nat.reduceEqDiff, Nat.reduceMul, Nat.reduceLeDiff, Nat.reduceSub, Nat.reduceLT, ↓reduceIte, reduceCtorEq, List.reduceReplicate, List.flatten_cons, List.flatten_nil, List.append_nil, eq_self, Int.reduceLE, Int.reduceLT, Int.reduceToNat, Nat.min_eq_left, Int.reducePow, Int.reduceNeg, Int.reduceEq, tm10, td10, w1, w2, bts_rd r1, ne_eq, Int.reduceEq, not_false_eq_true, hs1]
    refine ⟨by omega, m / 10, by omega, m / 10, _, rfl, by omega, hp.app' _, ?_, rfl⟩
    rw [hd, decS_ge (by omega), ByteArray.append_assoc]
  · have w1 : IntKind.u8.wrap (IntKind.u64.wrap (48 + (m : Int))) = dgI m 0 := by
      rw [show (48 : Int) + (m : Int) = ((48 + m : Nat) : Int) by omega, wrapU64 (by omega), wrapU8 (by omega), dgI_small (by omega)]
    have r1 : rds (h2 ++ [AObj.row (.grow 1) [.int .u8 (dgI m 0)]]) h2.length 0 1 = some ([dgI m 0].map (Value.int .u8)) := by simp [rds]
    simp (dsimp := false) only [go_sem, Nat.reduceAdd, Nat.reduceEqDiff, Nat.reduceMul, Nat.reduceLeDiff, Nat.reduceSub, Nat.reduceLT, ↓reduceIte, reduceCtorEq, List.reduceReplicate, List.flatten_cons, List.flatten_nil, List.append_nil, eq_self, Int.reduceLE, Int.reduceLT, Int.reduceToNat, Nat.min_eq_left, Int.reducePow, Int.reduceNeg, Int.reduceEq, w1, bts_rd r1, hs1]
    refine ⟨by omega, ?_⟩
    obtain ⟨g, rfl⟩ := hp
    rw [hd, decS_lt (by omega), List.append_assoc]
    exact Fin.sc rfl rfl
theorem rwhole_spec (h : AHeap) {n : Int} (hn : -9223372036854775808 ≤ n ∧ n ≤ 9223372036854775807) : Spec Tryd.prog nG fn.ref01_Whole [.int .i64 n] h (.string (wholeS n)) h := by
  apply ir.ref01_Whole.spec (Nat.le_of_ble_eq_true rfl)
  simp (dsimp := false) only [↓ir.ref01_Whole.bw, ir.ref01_Whole.rs, go_sem, Nat.reduceAdd, Nat.reduceEqDiff, Nat.reduceMul, Nat.reduceLeDiff, Nat.reduceSub, Nat.reduceLT, ↓reduceIte, reduceCtorEq, List.reduceReplicate, List.flatten_cons, List.flatten_nil, List.append_nil, eq_self, Int.reduceLE, Int.reduceLT, Int.reduceToNat, Nat.min_eq_left, Int.reducePow, Int.reduceNeg, Int.reduceEq]
  refine cVd (fun c => ?_) (fun c => ?_)
  · obtain ⟨u, rfl⟩ : ∃ k : Nat, n = -(k : Int) := ⟨n.natAbs, by omega⟩
    have hw : wholeS (-(u : Int)) = bytesS [45] ++ decS u := by
      unfold wholeS; rw [if_pos (by omega)]; congr 2; omega
    have wu : IntKind.u64.wrap (0 - IntKind.u64.wrap (-(u : Int))) = (u : Int) := by
      unfold IntKind.wrap
      simp [IntKind.signed, IntKind.bits]; omega
    have hz := decS_size (u := u) (by omega)
    rw [hw]
    simp (dsimp := false) only [go_sem, Nat.reduceAdd, Nat.reduceEqDiff, Nat.reduceMul, Nat.reduceLeDiff, Nat.reduceSub, Nat.reduceLT, ↓reduceIte, reduceCtorEq, List.reduceReplicate, List.flatten_cons, List.flatten_nil, List.append_nil, eq_self, Int.reduceLE, Int.reduceLT, Int.reduceToNat, Nat.min_eq_left, Int.reducePow, Int.reduceNeg, Int.reduceEq, wu]
    refine callV_of (decimal_spec _ (by omega)) ?_
    have h1 : (⟨#[45]⟩ : ByteArray).size = 1 := rfl
    simp (dsimp := false) only [go_sem, Nat.reduceAdd, Nat.reduceEqDiff, Nat.reduceMul, Nat.reduceLeDiff, Nat.reduceSub, Nat.reduceLT, ↓reduceIte, reduceCtorEq, List.reduceReplicate, List.flatten_cons, List.flatten_nil, List.append_nil, eq_self, Int.reduceLE, Int.reduceLT, Int.reduceToNat, Nat.min_eq_left, Int.reducePow, Int.reduceNeg, Int.reduceEq, h1]
    exact ⟨by omega, .inl ⟨rfl, rfl⟩⟩
  · obtain ⟨u, rfl⟩ : ∃ k : Nat, n = k := ⟨n.toNat, by omega⟩
    rw [wholeS_nat]
    simp (dsimp := false) only [go_sem, Nat.reduceAdd, Nat.reduceEqDiff, Nat.reduceMul, Nat.reduceLeDiff, Nat.reduceSub, Nat.reduceLT, ↓reduceIte, reduceCtorEq, List.reduceReplicate, List.flatten_cons, List.flatten_nil, List.append_nil, eq_self, Int.reduceLE, Int.reduceLT, Int.reduceToNat, Nat.min_eq_left, Int.reducePow, Int.reduceNeg, Int.reduceEq, wrapU64 (show u < 18446744073709551616 by omega)]
    refine callV_of (decimal_spec _ (by omega)) ?_
    simp (dsimp := false) only [go_sem, Nat.reduceAdd, Nat.reduceEqDiff, Nat.reduceMul, Nat.reduceLeDiff, Nat.reduceSub, Nat.reduceLT, ↓reduceIte, reduceCtorEq, List.reduceReplicate, List.flatten_cons, List.flatten_nil, List.append_nil, eq_self, Int.reduceLE, Int.reduceLT, Int.reduceToNat, Nat.min_eq_left, Int.reducePow, Int.reduceNeg, Int.reduceEq]
    exact .inl ⟨rfl, rfl⟩
end Go.Proofs.YtoiihalnbdehkaaDoor.B
