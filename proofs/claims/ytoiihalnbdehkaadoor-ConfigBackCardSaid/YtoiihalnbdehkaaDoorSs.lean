/-
  strconv's numerals of base 10: what each function answers.
-/
import Derived.Test.YtoiihalnbdehkaaDoorIrS
import Derived.Test.YtoiihalnbdehkaaDoorSd
namespace Go.Proofs.YtoiihalnbdehkaaDoor.B
open Go
set_option linter.unusedVariables false
set_option linter.unusedSimpArgs false

/-- How many bits a number has. -/
def blen (x : Nat) : Nat := if x = 0 then 0 else Nat.log2 x + 1
theorem blen_shift {x k : Nat} (h : 2 ^ k ≤ x) : blen x = k + blen (x / 2 ^ k) := by
  have hp : 0 < 2 ^ k := Nat.two_pow_pos k
  have h1 : 1 ≤ x / 2 ^ k := (Nat.one_le_div_iff hp).2 h
  unfold blen
  rw [if_neg (by omega), if_neg (by omega)]
  have : Nat.log2 x = k + Nat.log2 (x / 2 ^ k) := by
    rw [Nat.log2_eq_iff (by omega)]
    have a := Nat.log2_self_le (n := x / 2 ^ k) (by omega)
    have b := Nat.lt_log2_self (n := x / 2 ^ k)
    constructor
    · rw [Nat.pow_add, Nat.mul_comm]
      exact (Nat.le_div_iff_mul_le hp).1 a
    · rw [show k + (x / 2 ^ k).log2 + 1 = ((x / 2 ^ k).log2 + 1) + k by omega, Nat.pow_add]
      exact (Nat.div_lt_iff_lt_mul hp).1 b
  omega
theorem blen_tab : ∀ x, x < 256 → lit_633d862b[x]? = some (UInt8.ofNat (blen x)) := by decide +kernel
theorem blen_small {x : Nat} (h : x < 256) : blen x ≤ 8 := by
  revert x; decide +kernel
theorem shrN (x k : Nat) : (x : Int).fdiv (2 ^ k) = ((x / 2 ^ k : Nat) : Int) := by
  rw [Int.fdiv_eq_ediv_of_nonneg _ (by exact Int.le_of_lt (Int.pow_pos (by omega)))]
  norm_cast

theorem wrapI {n : Nat} (h : n ≤ 9223372036854775807) : IntKind.i64.wrap (n : Int) = n := wrap_nat h
theorem wrapIa {n k : Nat} (h : n + k ≤ 9223372036854775807) : IntKind.i64.wrap ((n : Int) + (k : Int)) = ((n + k : Nat) : Int) := by rw [← Int.natCast_add, wrap_nat h]
theorem fin_i64 {h : AHeap} {a b : Int} (e : a = b) (hb : -9223372036854775808 ≤ b ∧ b ≤ 9223372036854775807) : Fin h (.int .i64 b) h (.int .i64 (IntKind.i64.wrap a)) h := by
  subst e; rw [wrap_i64 hb]; exact .inl ⟨rfl, rfl⟩
theorem len64_spec (h : AHeap) {x : Nat} (hx : x < 18446744073709551616) : Spec Tryd.prog nG fn.math_bits_Len64 [.int .u64 (x : Int)] h (.int .i64 (blen x : Int)) h := by
  apply ir.math_bits_Len64.spec (Nat.le_of_ble_eq_true rfl)
  have m32 : min 32 IntKind.u64.bits = 32 := rfl
  have m16 : min 16 IntKind.u64.bits = 16 := rfl
  have m8 : min 8 IntKind.u64.bits = 8 := rfl
  have e1 : ∀ y : Nat, y < 256 → (((UInt8.ofNat (blen y)).toNat : Nat) : Int) = ((blen y : Nat) : Int) := fun y hy => by
    have := blen_small hy
    rw [UInt8.toNat_ofNat']; congr 1; omega
  simp (dsimp := false) only [↓ir.math_bits_Len64.bw, ir.math_bits_Len64.rs, go_sem, Nat.reduceAdd, Nat.reduceEqDiff, Nat.reduceMul, Nat.reduceLeDiff, Nat.reduceSub, Nat.reduceLT, ↓reduceIte, reduceCtorEq, List.reduceReplicate, List.flatten_cons, List.flatten_nil, List.append_nil, eq_self, Int.reduceLE, Int.reduceLT, Int.reduceToNat, Nat.min_eq_left, Int.reducePow, Int.reduceNeg, Int.reduceEq]
  refine cVd (fun c => ?_) (fun c => ?_)
  · have i1 : ((x : Nat) : Int).fdiv 4294967296 = ((x / 2 ^ 32 : Nat) : Int) := shrN x 32
    rw [blen_shift (x := x) (k := 32) (by omega)]
    have hy2 : x / 2 ^ 32 < 2 ^ 32 := by omega
    simp (dsimp := false) only [go_sem, Nat.reduceAdd, Nat.reduceEqDiff, Nat.reduceMul, Nat.reduceLeDiff, Nat.reduceSub, Nat.reduceLT, ↓reduceIte, reduceCtorEq, List.reduceReplicate, List.flatten_cons, List.flatten_nil, List.append_nil, eq_self, Int.reduceLE, Int.reduceLT, Int.reduceToNat, Nat.min_eq_left, Int.reducePow, Int.reduceNeg, Int.reduceEq, m32, m16, m8, i1, (show IntKind.i64.wrap (0 + 32) = 32 from rfl)]
    generalize x / 2 ^ 32 = y at *
    have hy := hy2
    clear hy2 c i1
    refine cVd (fun c => ?_) (fun c => ?_)
    · have i1 : ((y : Nat) : Int).fdiv 65536 = ((y / 2 ^ 16 : Nat) : Int) := shrN y 16
      rw [blen_shift (x := y) (k := 16) (by omega)]
      have hy2 : y / 2 ^ 16 < 2 ^ 16 := by omega
      simp (dsimp := false) only [go_sem, Nat.reduceAdd, Nat.reduceEqDiff, Nat.reduceMul, Nat.reduceLeDiff, Nat.reduceSub, Nat.reduceLT, ↓reduceIte, reduceCtorEq, List.reduceReplicate, List.flatten_cons, List.flatten_nil, List.append_nil, eq_self, Int.reduceLE, Int.reduceLT, Int.reduceToNat, Nat.min_eq_left, Int.reducePow, Int.reduceNeg, Int.reduceEq, m32, m16, m8, i1, (show IntKind.i64.wrap (32 + 16) = 48 from rfl)]
      generalize y / 2 ^ 16 = y at *
      have hy := hy2
      clear hy2 c i1
      refine cVd (fun c => ?_) (fun c => ?_)
      · have i1 : ((y : Nat) : Int).fdiv 256 = ((y / 2 ^ 8 : Nat) : Int) := shrN y 8
        rw [blen_shift (x := y) (k := 8) (by omega)]
        have hy2 : y / 2 ^ 8 < 2 ^ 8 := by omega
        simp (dsimp := false) only [go_sem, Nat.reduceAdd, Nat.reduceEqDiff, Nat.reduceMul, Nat.reduceLeDiff, Nat.reduceSub, Nat.reduceLT, ↓reduceIte, reduceCtorEq, List.reduceReplicate, List.flatten_cons, List.flatten_nil, List.append_nil, eq_self, Int.reduceLE, Int.reduceLT, Int.reduceToNat, Nat.min_eq_left, Int.reducePow, Int.reduceNeg, Int.reduceEq, m32, m16, m8, i1, (show IntKind.i64.wrap (48 + 8) = 56 from rfl)]
        generalize y / 2 ^ 8 = y at *
        have hy := hy2
        clear hy2 c i1
        have hb := blen_small hy
        simp (dsimp := false) only [go_sem, Nat.reduceAdd, Nat.reduceEqDiff, Nat.reduceMul, Nat.reduceLeDiff, Nat.reduceSub, Nat.reduceLT, ↓reduceIte, reduceCtorEq, List.reduceReplicate, List.flatten_cons, List.flatten_nil, List.append_nil, eq_self, Int.reduceLE, Int.reduceLT, Int.reduceToNat, Nat.min_eq_left, Int.reducePow, Int.reduceNeg, Int.reduceEq, wrapU8 hy, ixstrV_str, Int.toNat_natCast, blen_tab y hy, optV_some, e1 y hy, wrapI (show blen y ≤ 9223372036854775807 by omega)]
        exact fin_i64 (by omega) (by omega)
      · have hy : y < 2 ^ 8 := by omega
        clear c
        simp (dsimp := false) only [go_sem, Nat.reduceAdd, Nat.reduceEqDiff, Nat.reduceMul, Nat.reduceLeDiff, Nat.reduceSub, Nat.reduceLT, ↓reduceIte, reduceCtorEq, List.reduceReplicate, List.flatten_cons, List.flatten_nil, List.append_nil, eq_self, Int.reduceLE, Int.reduceLT, Int.reduceToNat, Nat.min_eq_left, Int.reducePow, Int.reduceNeg, Int.reduceEq]
        have hb := blen_small hy
        simp (dsimp := false) only [go_sem, Nat.reduceAdd, Nat.reduceEqDiff, Nat.reduceMul, Nat.reduceLeDiff, Nat.reduceSub, Nat.reduceLT, ↓reduceIte, reduceCtorEq, List.reduceReplicate, List.flatten_cons, List.flatten_nil, List.append_nil, eq_self, Int.reduceLE, Int.reduceLT, Int.reduceToNat, Nat.min_eq_left, Int.reducePow, Int.reduceNeg, Int.reduceEq, wrapU8 hy, ixstrV_str, Int.toNat_natCast, blen_tab y hy, optV_some, e1 y hy, wrapI (show blen y ≤ 9223372036854775807 by omega)]
        exact fin_i64 (by omega) (by omega)
    · have hy : y < 2 ^ 16 := by omega
      clear c
      simp (dsimp := false) only [go_sem, Nat.reduceAdd, Nat.reduceEqDiff, Nat.reduceMul, Nat.reduceLeDiff, Nat.reduceSub, Nat.reduceLT, ↓reduceIte, reduceCtorEq, List.reduceReplicate, List.flatten_cons, List.flatten_nil, List.append_nil, eq_self, Int.reduceLE, Int.reduceLT, Int.reduceToNat, Nat.min_eq_left, Int.reducePow, Int.reduceNeg, Int.reduceEq]
      refine cVd (fun c => ?_) (fun c => ?_)
      · have i1 : ((y : Nat) : Int).fdiv 256 = ((y / 2 ^ 8 : Nat) : Int) := shrN y 8
        rw [blen_shift (x := y) (k := 8) (by omega)]
        have hy2 : y / 2 ^ 8 < 2 ^ 8 := by omega
        simp (dsimp := false) only [go_sem, Nat.reduceAdd, Nat.reduceEqDiff, Nat.reduceMul, Nat.reduceLeDiff, Nat.reduceSub, Nat.reduceLT, ↓reduceIte, reduceCtorEq, List.reduceReplicate, List.flatten_cons, List.flatten_nil, List.append_nil, eq_self, Int.reduceLE, Int.reduceLT, Int.reduceToNat, Nat.min_eq_left, Int.reducePow, Int.reduceNeg, Int.reduceEq, m32, m16, m8, i1, (show IntKind.i64.wrap (32 + 8) = 40 from rfl)]
        generalize y / 2 ^ 8 = y at *
        have hy := hy2
        clear hy2 c i1
        have hb := blen_small hy
        simp (dsimp := false) only [go_sem, Nat.reduceAdd, Nat.reduceEqDiff, Nat.reduceMul, Nat.reduceLeDiff, Nat.reduceSub, Nat.reduceLT, ↓reduceIte, reduceCtorEq, List.reduceReplicate, List.flatten_cons, List.flatten_nil, List.append_nil, eq_self, Int.reduceLE, Int.reduceLT, Int.reduceToNat, Nat.min_eq_left, Int.reducePow, Int.reduceNeg, Int.reduceEq, wrapU8 hy, ixstrV_str, Int.toNat_natCast, blen_tab y hy, optV_some, e1 y hy, wrapI (show blen y ≤ 9223372036854775807 by omega)]
        exact fin_i64 (by omega) (by omega)
      · have hy : y < 2 ^ 8 := by omega
        clear c
        simp (dsimp := false) only [go_sem, Nat.reduceAdd, Nat.reduceEqDiff, Nat.reduceMul, Nat.reduceLeDiff, Nat.reduceSub, Nat.reduceLT, ↓reduceIte, reduceCtorEq, List.reduceReplicate, List.flatten_cons, List.flatten_nil, List.append_nil, eq_self, Int.reduceLE, Int.reduceLT, Int.reduceToNat, Nat.min_eq_left, Int.reducePow, Int.reduceNeg, Int.reduceEq]
        have hb := blen_small hy
        simp (dsimp := false) only [go_sem, Nat.reduceAdd, Nat.reduceEqDiff, Nat.reduceMul, Nat.reduceLeDiff, Nat.reduceSub, Nat.reduceLT, ↓reduceIte, reduceCtorEq, List.reduceReplicate, List.flatten_cons, List.flatten_nil, List.append_nil, eq_self, Int.reduceLE, Int.reduceLT, Int.reduceToNat, Nat.min_eq_left, Int.reducePow, Int.reduceNeg, Int.reduceEq, wrapU8 hy, ixstrV_str, Int.toNat_natCast, blen_tab y hy, optV_some, e1 y hy, wrapI (show blen y ≤ 9223372036854775807 by omega)]
        exact fin_i64 (by omega) (by omega)
  · have hy : x < 2 ^ 32 := by omega
    clear c
    generalize x = y at *
    simp (dsimp := false) only [go_sem, Nat.reduceAdd, Nat.reduceEqDiff, Nat.reduceMul, Nat.reduceLeDiff, Nat.reduceSub, Nat.reduceLT, ↓reduceIte, reduceCtorEq, List.reduceReplicate, List.flatten_cons, List.flatten_nil, List.append_nil, eq_self, Int.reduceLE, Int.reduceLT, Int.reduceToNat, Nat.min_eq_left, Int.reducePow, Int.reduceNeg, Int.reduceEq]
    refine cVd (fun c => ?_) (fun c => ?_)
    · have i1 : ((y : Nat) : Int).fdiv 65536 = ((y / 2 ^ 16 : Nat) : Int) := shrN y 16
      rw [blen_shift (x := y) (k := 16) (by omega)]
      have hy2 : y / 2 ^ 16 < 2 ^ 16 := by omega
      simp (dsimp := false) only [go_sem, Nat.reduceAdd, Nat.reduceEqDiff, Nat.reduceMul, Nat.reduceLeDiff, Nat.reduceSub, Nat.reduceLT, ↓reduceIte, reduceCtorEq, List.reduceReplicate, List.flatten_cons, List.flatten_nil, List.append_nil, eq_self, Int.reduceLE, Int.reduceLT, Int.reduceToNat, Nat.min_eq_left, Int.reducePow, Int.reduceNeg, Int.reduceEq, m32, m16, m8, i1, (show IntKind.i64.wrap (0 + 16) = 16 from rfl)]
      generalize y / 2 ^ 16 = y at *
      have hy := hy2
      clear hy2 c i1
      refine cVd (fun c => ?_) (fun c => ?_)
      · have i1 : ((y : Nat) : Int).fdiv 256 = ((y / 2 ^ 8 : Nat) : Int) := shrN y 8
        rw [blen_shift (x := y) (k := 8) (by omega)]
        have hy2 : y / 2 ^ 8 < 2 ^ 8 := by omega
        simp (dsimp := false) only [go_sem, Nat.reduceAdd, Nat.reduceEqDiff, Nat.reduceMul, Nat.reduceLeDiff, Nat.reduceSub, Nat.reduceLT, ↓reduceIte, reduceCtorEq, List.reduceReplicate, List.flatten_cons, List.flatten_nil, List.append_nil, eq_self, Int.reduceLE, Int.reduceLT, Int.reduceToNat, Nat.min_eq_left, Int.reducePow, Int.reduceNeg, Int.reduceEq, m32, m16, m8, i1, (show IntKind.i64.wrap (16 + 8) = 24 from rfl)]
        generalize y / 2 ^ 8 = y at *
        have hy := hy2
        clear hy2 c i1
        have hb := blen_small hy
        simp (dsimp := false) only [go_sem, Nat.reduceAdd, Nat.reduceEqDiff, Nat.reduceMul, Nat.reduceLeDiff, Nat.reduceSub, Nat.reduceLT, ↓reduceIte, reduceCtorEq, List.reduceReplicate, List.flatten_cons, List.flatten_nil, List.append_nil, eq_self, Int.reduceLE, Int.reduceLT, Int.reduceToNat, Nat.min_eq_left, Int.reducePow, Int.reduceNeg, Int.reduceEq, wrapU8 hy, ixstrV_str, Int.toNat_natCast, blen_tab y hy, optV_some, e1 y hy, wrapI (show blen y ≤ 9223372036854775807 by omega)]
        exact fin_i64 (by omega) (by omega)
      · have hy : y < 2 ^ 8 := by omega
        clear c
        simp (dsimp := false) only [go_sem, Nat.reduceAdd, Nat.reduceEqDiff, Nat.reduceMul, Nat.reduceLeDiff, Nat.reduceSub, Nat.reduceLT, ↓reduceIte, reduceCtorEq, List.reduceReplicate, List.flatten_cons, List.flatten_nil, List.append_nil, eq_self, Int.reduceLE, Int.reduceLT, Int.reduceToNat, Nat.min_eq_left, Int.reducePow, Int.reduceNeg, Int.reduceEq]
        have hb := blen_small hy
        simp (dsimp := false) only [go_sem, Nat.reduceAdd, Nat.reduceEqDiff, Nat.reduceMul, Nat.reduceLeDiff, Nat.reduceSub, Nat.reduceLT, ↓reduceIte, reduceCtorEq, List.reduceReplicate, List.flatten_cons, List.flatten_nil, List.append_nil, eq_self, Int.reduceLE, Int.reduceLT, Int.reduceToNat, Nat.min_eq_left, Int.reducePow, Int.reduceNeg, Int.reduceEq, wrapU8 hy, ixstrV_str, Int.toNat_natCast, blen_tab y hy, optV_some, e1 y hy, wrapI (show blen y ≤ 9223372036854775807 by omega)]
        exact fin_i64 (by omega) (by omega)
    · have hy : y < 2 ^ 16 := by omega
      clear c
      simp (dsimp := false) only [go_sem, Nat.reduceAdd, Nat.reduceEqDiff, Nat.reduceMul, Nat.reduceLeDiff, Nat.reduceSub, Nat.reduceLT, ↓reduceIte, reduceCtorEq, List.reduceReplicate, List.flatten_cons, List.flatten_nil, List.append_nil, eq_self, Int.reduceLE, Int.reduceLT, Int.reduceToNat, Nat.min_eq_left, Int.reducePow, Int.reduceNeg, Int.reduceEq]
      refine cVd (fun c => ?_) (fun c => ?_)
      · have i1 : ((y : Nat) : Int).fdiv 256 = ((y / 2 ^ 8 : Nat) : Int) := shrN y 8
        rw [blen_shift (x := y) (k := 8) (by omega)]
        have hy2 : y / 2 ^ 8 < 2 ^ 8 := by omega
        simp (dsimp := false) only [go_sem, Nat.reduceAdd, Nat.reduceEqDiff, Nat.reduceMul, Nat.reduceLeDiff, Nat.reduceSub, Nat.reduceLT, ↓reduceIte, reduceCtorEq, List.reduceReplicate, List.flatten_cons, List.flatten_nil, List.append_nil, eq_self, Int.reduceLE, Int.reduceLT, Int.reduceToNat, Nat.min_eq_left, Int.reducePow, Int.reduceNeg, Int.reduceEq, m32, m16, m8, i1, (show IntKind.i64.wrap (0 + 8) = 8 from rfl)]
        generalize y / 2 ^ 8 = y at *
        have hy := hy2
        clear hy2 c i1
        have hb := blen_small hy
        simp (dsimp := false) only [go_sem, Nat.reduceAdd, Nat.reduceEqDiff, Nat.reduceMul, Nat.reduceLeDiff, Nat.reduceSub, Nat.reduceLT, ↓reduceIte, reduceCtorEq, List.reduceReplicate, List.flatten_cons, List.flatten_nil, List.append_nil, eq_self, Int.reduceLE, Int.reduceLT, Int.reduceToNat, Nat.min_eq_left, Int.reducePow, Int.reduceNeg, Int.reduceEq, wrapU8 hy, ixstrV_str, Int.toNat_natCast, blen_tab y hy, optV_some, e1 y hy, wrapI (show blen y ≤ 9223372036854775807 by omega)]
        exact fin_i64 (by omega) (by omega)
      · have hy : y < 2 ^ 8 := by omega
        clear c
        simp (dsimp := false) only [go_sem, Nat.reduceAdd, Nat.reduceEqDiff, Nat.reduceMul, Nat.reduceLeDiff, Nat.reduceSub, Nat.reduceLT, ↓reduceIte, reduceCtorEq, List.reduceReplicate, List.flatten_cons, List.flatten_nil, List.append_nil, eq_self, Int.reduceLE, Int.reduceLT, Int.reduceToNat, Nat.min_eq_left, Int.reducePow, Int.reduceNeg, Int.reduceEq]
        have hb := blen_small hy
        simp (dsimp := false) only [go_sem, Nat.reduceAdd, Nat.reduceEqDiff, Nat.reduceMul, Nat.reduceLeDiff, Nat.reduceSub, Nat.reduceLT, ↓reduceIte, reduceCtorEq, List.reduceReplicate, List.flatten_cons, List.flatten_nil, List.append_nil, eq_self, Int.reduceLE, Int.reduceLT, Int.reduceToNat, Nat.min_eq_left, Int.reducePow, Int.reduceNeg, Int.reduceEq, wrapU8 hy, ixstrV_str, Int.toNat_natCast, blen_tab y hy, optV_some, e1 y hy, wrapI (show blen y ≤ 9223372036854775807 by omega)]
        exact fin_i64 (by omega) (by omega)

theorem log10_spec (h : AHeap) {x : Nat} (hx : x ≤ 64) : Spec Tryd.prog nG fn.internal_strconv_log10Pow2 [.int .i64 (x : Int)] h (.int .i64 ((x * 78913 / 2 ^ 18 : Nat) : Int)) h := by
  apply ir.internal_strconv_log10Pow2.spec (Nat.le_of_ble_eq_true rfl)
  have i1 : (IntKind.i64.wrap ((x : Int) * 78913)).fdiv 262144 = ((x * 78913 / 2 ^ 18 : Nat) : Int) := by
    rw [wrap_i64 (by omega), show (x : Int) * 78913 = ((x * 78913 : Nat) : Int) by omega]
    exact shrN _ 18
  simp (dsimp := false) only [↓ir.internal_strconv_log10Pow2.bw, ir.internal_strconv_log10Pow2.rs, go_sem, Nat.reduceAdd, Nat.reduceEqDiff, Nat.reduceMul, Nat.reduceLeDiff, Nat.reduceSub, Nat.reduceLT, ↓reduceIte, reduceCtorEq, List.reduceReplicate, List.flatten_cons, List.flatten_nil, List.append_nil, eq_self, Int.reduceLE, Int.reduceLT, Int.reduceToNat, Nat.min_eq_left, Int.reducePow, Int.reduceNeg, Int.reduceEq, (show min 18 IntKind.i64.bits = 18 from rfl), i1]
  exact .inl ⟨rfl, rfl⟩
theorem bool2_spec (h : AHeap) (b : Bool) : Spec Tryd.prog nG fn.internal_strconv_bool2_int [.bool b] h (.int .i64 (if b then 1 else 0)) h := by
  apply ir.internal_strconv_bool2_int.spec (Nat.le_of_ble_eq_true rfl)
  cases b <;> (simp (dsimp := false) only [↓ir.internal_strconv_bool2_int.bw, ir.internal_strconv_bool2_int.rs, go_sem, Nat.reduceAdd, Nat.reduceEqDiff, Nat.reduceMul, Nat.reduceLeDiff, Nat.reduceSub, Nat.reduceLT, ↓reduceIte, reduceCtorEq, List.reduceReplicate, List.flatten_cons, List.flatten_nil, List.append_nil, eq_self, Int.reduceLE, Int.reduceLT, Int.reduceToNat, Nat.min_eq_left, Int.reducePow, Int.reduceNeg, Int.reduceEq]; exact .inl ⟨rfl, rfl⟩)

/-- The powers of ten, as the library lays them. -/
def PowV (h : AHeap) : Prop := rds h gv.internal_strconv_uint64pow10 0 20 = some ((List.range 20).map fun i => .int .u64 ((10 ^ i : Nat) : Int))
theorem PowV.pre {h h' : AHeap} (p : Pre h h') (k : PowV h) : PowV h' := rds_pre p k
theorem PowV.at {h : AHeap} (k : PowV h) {i : Nat} (hi : i < 20) : rds h gv.internal_strconv_uint64pow10 i 1 = some [.int .u64 ((10 ^ i : Nat) : Int)] := by
  have := rds_sub k (i := i) (m := 1) (by omega)
  rw [Nat.zero_add] at this
  rw [this]
  congr 1
  rw [← List.map_drop, ← List.map_take]
  have : ((List.range 20).drop i).take 1 = [i] := by
    rw [List.drop_eq_getElem_cons (by simp; omega)]; simp
  rw [this]; rfl
theorem l10_tab : ∀ b, b < 65 → 1 ≤ b → (b * 78913 / 2 ^ 18 = 0 ∨ 10 ^ (b * 78913 / 2 ^ 18 - 1) ≤ 2 ^ (b - 1)) ∧ 2 ^ b ≤ 10 ^ (b * 78913 / 2 ^ 18 + 1) ∧ b * 78913 / 2 ^ 18 < 20 := by decide +kernel
theorem blen_le {u : Nat} (h : u < 18446744073709551616) : blen u ≤ 64 := by
  unfold blen
  split
  · omega
  · have := (Nat.log2_lt (n := u) (k := 64) (by assumption)).2 (by omega)
    omega
theorem nd_eq {u : Nat} (h1 : 1 ≤ u) (h2 : u < 18446744073709551616) : blen u * 78913 / 2 ^ 18 < 20 ∧ (decI u).length = blen u * 78913 / 2 ^ 18 + (if 10 ^ (blen u * 78913 / 2 ^ 18) ≤ u then 1 else 0) := by
  have hb : blen u = Nat.log2 u + 1 := by unfold blen; rw [if_neg (by omega)]
  have a := Nat.log2_self_le (n := u) (by omega)
  have b := Nat.lt_log2_self (n := u)
  obtain ⟨t1, t2, t3⟩ := l10_tab (blen u) (by have := blen_le h2; omega) (by omega)
  generalize hq : blen u * 78913 / 2 ^ 18 = q at *
  rw [hb, Nat.add_sub_cancel] at t1
  rw [hb] at t2
  refine ⟨t3, ?_⟩
  split
  · rename_i hc
    exact decI_unique (by omega) (.inr (by simpa using hc)) (by omega)
  · rename_i hc
    rcases t1 with rfl | t1
    · simp at hc; omega
    · have : q ≠ 0 := by rintro rfl; simp at hc; omega
      rw [Nat.add_zero]
      exact decI_unique (by omega) (.inr (by omega)) (by omega)
theorem numDigits_spec {h : AHeap} (hg : PowV h) {u : Nat} (h1 : 1 ≤ u) (h2 : u < 18446744073709551616) : Spec Tryd.prog nG fn.internal_strconv_numDigits [.int .u64 (u : Int)] h (.int .i64 ((decI u).length : Int)) h := by
  apply ir.internal_strconv_numDigits.spec (Nat.le_of_ble_eq_true rfl)
  obtain ⟨hq, hL⟩ := nd_eq h1 h2
  simp (dsimp := false) only [↓ir.internal_strconv_numDigits.bw, ir.internal_strconv_numDigits.rs, go_sem, Nat.reduceAdd, Nat.reduceEqDiff, Nat.reduceMul, Nat.reduceLeDiff, Nat.reduceSub, Nat.reduceLT, ↓reduceIte, reduceCtorEq, List.reduceReplicate, List.flatten_cons, List.flatten_nil, List.append_nil, eq_self, Int.reduceLE, Int.reduceLT, Int.reduceToNat, Nat.min_eq_left, Int.reducePow, Int.reduceNeg, Int.reduceEq]
  refine callV_of (len64_spec _ h2) ?_
  simp (dsimp := false) only [go_sem, Nat.reduceAdd, Nat.reduceEqDiff, Nat.reduceMul, Nat.reduceLeDiff, Nat.reduceSub, Nat.reduceLT, ↓reduceIte, reduceCtorEq, List.reduceReplicate, List.flatten_cons, List.flatten_nil, List.append_nil, eq_self, Int.reduceLE, Int.reduceLT, Int.reduceToNat, Nat.min_eq_left, Int.reducePow, Int.reduceNeg, Int.reduceEq]
  refine callV_of (log10_spec _ (blen_le h2)) ?_
  generalize blen u * 78913 / 2 ^ 18 = q at *
  simp (dsimp := false) only [go_sem, Nat.reduceAdd, Nat.reduceEqDiff, Nat.reduceMul, Nat.reduceLeDiff, Nat.reduceSub, Nat.reduceLT, ↓reduceIte, reduceCtorEq, List.reduceReplicate, List.flatten_cons, List.flatten_nil, List.append_nil, eq_self, Int.reduceLE, Int.reduceLT, Int.reduceToNat, Nat.min_eq_left, Int.reducePow, Int.reduceNeg, Int.reduceEq, ixaV_ptr, Int.toNat_natCast, Nat.zero_add, Nat.mul_one, hg.at hq]
  refine ⟨⟨by omega, by omega⟩, ?_⟩
  refine callV_of (bool2_spec _ _) ?_
  simp (dsimp := false) only [go_sem, Nat.reduceAdd, Nat.reduceEqDiff, Nat.reduceMul, Nat.reduceLeDiff, Nat.reduceSub, Nat.reduceLT, ↓reduceIte, reduceCtorEq, List.reduceReplicate, List.flatten_cons, List.flatten_nil, List.append_nil, eq_self, Int.reduceLE, Int.reduceLT, Int.reduceToNat, Nat.min_eq_left, Int.reducePow, Int.reduceNeg, Int.reduceEq]
  refine fin_i64 ?_ (by have := decI_le20 h2; omega)
  rw [hL]
  by_cases hc : 10 ^ q ≤ u
  · rw [if_pos hc]
    have : ((10 ^ q : Nat) : Int) ≤ (u : Int) := by exact_mod_cast hc
    simp only [this, decide_true, if_true]; omega
  · rw [if_neg hc]
    have : ¬ ((10 ^ q : Nat) : Int) ≤ (u : Int) := by exact_mod_cast hc
    simp only [this, decide_false]; simp

/-! ### formatBase10 -/
theorem smalls_at : ∀ k, k < 100 → lit_db3e2f51[k * 2]? = some (dB (k / 10)) ∧ lit_db3e2f51[k * 2 + 1]? = some (dB (k % 10)) := by decide +kernel
theorem dg_at (u e t : Nat) (k : Nat) (hk : k = u / 10 ^ e / 10 ^ t % 10) : ((dB k).toNat : Int) = dgI u (e + t) := by
  subst hk
  unfold dgI
  rw [Nat.pow_add, Nat.div_div_eq_div_mul]
theorem td100 (x : Nat) : (x : Int).tdiv 100 = ((x / 100 : Nat) : Int) := tdN x 100
theorem td1e4 (x : Nat) : (x : Int).tdiv 10000 = ((x / 10000 : Nat) : Int) := tdN x 10000
theorem td1e8 (x : Nat) : (x : Int).tdiv 100000000 = ((x / 100000000 : Nat) : Int) := tdN x 100000000
theorem tm100 (x : Nat) : (x : Int).tmod 100 = ((x % 100 : Nat) : Int) := tmN x 100
theorem tm1e4 (x : Nat) : (x : Int).tmod 10000 = ((x % 10000 : Nat) : Int) := tmN x 10000
theorem tm1e8 (x : Nat) : (x : Int).tmod 100000000 = ((x % 100000000 : Nat) : Int) := tmN x 100000000
theorem wrap_mul2 {n : Nat} (h : n < 1000000) : IntKind.u32.wrap ((n : Int) * 2) = ((n * 2 : Nat) : Int) := by
  rw [show (n : Int) * 2 = ((n * 2 : Nat) : Int) by omega, wrapU32 (by omega)]
theorem wrap_add1 {n : Nat} (h : n < 1000000) : IntKind.u32.wrap (((n * 2 : Nat) : Int) + 1) = ((n * 2 + 1 : Nat) : Int) := by
  rw [show ((n * 2 : Nat) : Int) + 1 = ((n * 2 + 1 : Nat) : Int) by omega, wrapU32 (by omega)]
theorem wrap_dn {m k : Nat} (h : m + k ≤ 9223372036854775807) : IntKind.i64.wrap (((m + k : Nat) : Int) - (k : Int)) = (m : Int) := by
  rw [show ((m + k : Nat) : Int) - (k : Int) = (m : Int) by omega, wrap_nat (by unfold maxI; omega)]
theorem set_self {h : AHeap} {b : Nat} {o : AObj} (e : h[b]? = some o) : h.set b o = h := by
  apply List.ext_getElem?
  intro i
  rw [List.getElem?_set]
  split
  · rename_i q; subst q
    rw [if_pos (List.getElem?_eq_some_iff.1 e).1, e]
  · rfl
theorem dgd (u e t k : Nat) (hk : k = u / 10 ^ e / 10 ^ t % 10) (j : Nat) (hj : j = e + t) : (((dB k).toNat : Nat) : Int) = dgI u j := by
  subst hj; exact dg_at u e t k hk
set_option maxRecDepth 10000 in
theorem fmt10_tail {h : AHeap} {b off L cap u q v m : Nat} {cells : List Value} (f : Fx h b cells) (hl : off + L ≤ cells.length) (hq : m + 8 * q = L) (hv : u / 10 ^ (8 * q) = v) (hvm : v < 10 ^ m) (hv7 : v < 10000000) (hm7 : m < 8) (e : Env)
    (e0 : look e 0 = .slice (some ⟨b, off, none⟩) L cap) (e1 : look e 1 = .int .u64 (v : Int)) (e4 : look e 4 = .int .i64 (m : Int)) (Φ : Value → AHeap → Prop) (hΦ : Φ (.tuple #[]) (fillH h b cells off L u 0)) :
    wpC Tryd.prog nG (ir.internal_strconv_formatBase10.r12.seq ((ir.internal_strconv_formatBase10.r13.seq (C.cond (Operand.tmp 99) (ir.internal_strconv_formatBase10.r14.seq (ir.internal_strconv_formatBase10.r15.seq (ir.internal_strconv_formatBase10.r16.seq
      (ir.internal_strconv_formatBase10.r17.seq (ir.internal_strconv_formatBase10.r18.seq ir.internal_strconv_formatBase10.r19))))) C.skip)).seq ((ir.internal_strconv_formatBase10.r20.seq (C.cond (Operand.tmp 139) (ir.internal_strconv_formatBase10.r21.seq
      (ir.internal_strconv_formatBase10.r22.seq (ir.internal_strconv_formatBase10.r23.seq ir.internal_strconv_formatBase10.r24))) C.skip)).seq (ir.internal_strconv_formatBase10.r25.seq (C.cond (Operand.tmp 161) ir.internal_strconv_formatBase10.r26 C.skip))))) e (fillH h b cells off L u m)
      (retX ir.internal_strconv_formatBase10.rs Φ) := by
  have stp : ∀ nd n1 i v, n1 = nd + 1 → nd < L → i = L - 1 - nd → v = dgI u i → wrs (fillH h b cells off L u n1) b (off + nd * 1) [.int .u8 v] = some (fillH h b cells off L u nd) := fun nd n1 i v h0 h1 h2 h3 => by
    subst h3; subst h0; exact fillH_step f hl h1 h2
  refine wpC_cut (fun e h2 => e = [(0, .slice (some ⟨b, off, none⟩) L cap), (4, .int .i64 (m : Int)), (12, .int .u32 (v : Int))] ∧ h2 = fillH h b cells off L u m) ?_ ?_
  · simp (dsimp := false) only [go_sem, Nat.reduceAdd, Nat.reduceEqDiff, Nat.reduceMul, Nat.reduceLeDiff, Nat.reduceSub, Nat.reduceLT, ↓reduceIte, reduceCtorEq, List.reduceReplicate, List.flatten_cons, List.flatten_nil, List.append_nil, eq_self, Int.reduceLE, Int.reduceLT, Int.reduceToNat, Nat.min_eq_left, Int.reducePow, Int.reduceNeg, Int.reduceEq, e0, e1, e4, wrapU32 (show v < 4294967296 by omega)]
  rintro _ _ ⟨rfl, rfl⟩
  refine wpC_cut (fun e h2 => ∃ nd k x : Nat, nd + k = L ∧ nd < 4 ∧ x = u / 10 ^ k ∧ x < 10 ^ nd ∧ h2 = fillH h b cells off L u nd ∧ look e 0 = .slice (some ⟨b, off, none⟩) L cap ∧ look e 4 = .int .i64 (nd : Int) ∧ look e 12 = .int .u32 (x : Int)) ?_ ?_
  · simp (dsimp := false) only [go_sem, Nat.reduceAdd, Nat.reduceEqDiff, Nat.reduceMul, Nat.reduceLeDiff, Nat.reduceSub, Nat.reduceLT, ↓reduceIte, reduceCtorEq, List.reduceReplicate, List.flatten_cons, List.flatten_nil, List.append_nil, eq_self, Int.reduceLE, Int.reduceLT, Int.reduceToNat, Nat.min_eq_left, Int.reducePow, Int.reduceNeg, Int.reduceEq]
    refine cVd (fun c => ?_) (fun c => ?_)
    · obtain ⟨k, rfl⟩ : ∃ k, m = k + 4 := ⟨m - 4, by omega⟩
      have dgs : ∀ t k i, k = v / 10 ^ t % 10 → i = 8 * q + t → (((dB k).toNat : Nat) : Int) = dgI u i := fun t k i h1 h2 => dgd u (8 * q) t k (by rw [hv]; exact h1) i h2
      have d (j i : Nat) (hj : i + j = 4) : IntKind.i64.wrap (((k + 4 : Nat) : Int) - (j : Int)) = ((k + i : Nat) : Int) := by
        rw [show ((k + 4 : Nat) : Int) - (j : Int) = ((k + i : Nat) : Int) by omega, wrap_nat (by unfold maxI; omega)]
      have d1 : IntKind.i64.wrap (((k + 4 : Nat) : Int) - 1) = ((k + 3 : Nat) : Int) := d 1 3 rfl
      have d2 : IntKind.i64.wrap (((k + 4 : Nat) : Int) - 2) = ((k + 2 : Nat) : Int) := d 2 2 rfl
      have d3 : IntKind.i64.wrap (((k + 4 : Nat) : Int) - 3) = ((k + 1 : Nat) : Int) := d 3 1 rfl
      have d4 : IntKind.i64.wrap (((k + 4 : Nat) : Int) - 4) = (k : Int) := d 4 0 rfl
      have s3 : (k + 3 < L) = True := eq_true (by omega)
      have s2 : (k + 2 < L) = True := eq_true (by omega)
      have s1 : (k + 1 < L) = True := eq_true (by omega)
      have s0 : (k < L) = True := eq_true (by omega)
      have a1 := wrapU32 (show v / 10000 < 4294967296 by omega)
      have a2 := wrapU32 (show v % 10000 / 100 < 4294967296 by omega)
      have a3 := wrap_mul2 (show v % 10000 / 100 < 1000000 by omega)
      have a4 := wrap_add1 (show v % 10000 / 100 < 1000000 by omega)
      have a5 := smalls_at (v % 10000 / 100) (by omega)
      have a6 := wrap_mul2 (show v % 10000 % 100 < 1000000 by omega)
      have a7 := wrap_add1 (show v % 10000 % 100 < 1000000 by omega)
      have a8 := smalls_at (v % 10000 % 100) (by omega)
      have z0 := stp (k + 3) (k + 4) (8 * q + 0) _ rfl (by omega) (by omega) (dgs 0 (v % 10000 % 100 % 10) (8 * q + 0) (by omega) rfl)
      have z1 := stp (k + 2) (k + 3) (8 * q + 1) _ rfl (by omega) (by omega) (dgs 1 (v % 10000 % 100 / 10) (8 * q + 1) (by omega) rfl)
      have z2 := stp (k + 1) (k + 2) (8 * q + 2) _ rfl (by omega) (by omega) (dgs 2 (v % 10000 / 100 % 10) (8 * q + 2) (by omega) rfl)
      have z3 := stp k (k + 1) (8 * q + 3) _ rfl (by omega) (by omega) (dgs 3 (v % 10000 / 100 / 10) (8 * q + 3) (by omega) rfl)
      simp (dsimp := false) only [go_sem, Nat.reduceAdd, Nat.reduceEqDiff, Nat.reduceMul, Nat.reduceLeDiff, Nat.reduceSub, Nat.reduceLT, ↓reduceIte, reduceCtorEq, List.reduceReplicate, List.flatten_cons, List.flatten_nil, List.append_nil, eq_self, Int.reduceLE, Int.reduceLT, Int.reduceToNat, Nat.min_eq_left, Int.reducePow, Int.reduceNeg, Int.reduceEq, td1e4, tm1e4, td100, tm100, ixstrV_str, ixsV_slice, Int.toNat_natCast, Int.natCast_nonneg, Int.ofNat_lt, optV_some, a1, a2, a3, a4, a5, a6, a7, a8, z0, z1, z2, z3, d1, d2, d3, d4, s3, s2, s1, s0, ne_eq, Int.reduceEq, not_false_eq_true]
      have hp : 10 ^ (k + 4) = 10 ^ k * 10000 := Nat.pow_add 10 k 4
      exact ⟨k, 8 * q + 4, v / 10000, by omega, by omega, by rw [← hv, Nat.div_div_eq_div_mul, Nat.pow_add], by omega, rfl, rfl, rfl⟩
    · simp (dsimp := false) only [go_sem, Nat.reduceAdd, Nat.reduceEqDiff, Nat.reduceMul, Nat.reduceLeDiff, Nat.reduceSub, Nat.reduceLT, ↓reduceIte, reduceCtorEq, List.reduceReplicate, List.flatten_cons, List.flatten_nil, List.append_nil, eq_self, Int.reduceLE, Int.reduceLT, Int.reduceToNat, Nat.min_eq_left, Int.reducePow, Int.reduceNeg, Int.reduceEq]
      exact ⟨m, 8 * q, v, hq, by omega, hv.symm, hvm, rfl, rfl, rfl⟩
  clear e0 e1 e4 hq hv hvm hv7 hm7
  rintro e _ ⟨m, k0, v, hq, hm, hv, hvm, rfl, e0, e4, e12⟩
  have hv4 : v < 1000 := by
    have : 10 ^ m ≤ 10 ^ 3 := Nat.pow_le_pow_right (by omega) (by omega)
    omega
  refine wpC_cut (fun e h2 => ∃ nd k x : Nat, nd + k = L ∧ nd < 2 ∧ x = u / 10 ^ k ∧ x < 10 ^ nd ∧ h2 = fillH h b cells off L u nd ∧ look e 0 = .slice (some ⟨b, off, none⟩) L cap ∧ look e 4 = .int .i64 (nd : Int) ∧ look e 12 = .int .u32 (x : Int)) ?_ ?_
  · simp (dsimp := false) only [go_sem, Nat.reduceAdd, Nat.reduceEqDiff, Nat.reduceMul, Nat.reduceLeDiff, Nat.reduceSub, Nat.reduceLT, ↓reduceIte, reduceCtorEq, List.reduceReplicate, List.flatten_cons, List.flatten_nil, List.append_nil, eq_self, Int.reduceLE, Int.reduceLT, Int.reduceToNat, Nat.min_eq_left, Int.reducePow, Int.reduceNeg, Int.reduceEq, e0, e4, e12]
    refine cVd (fun c => ?_) (fun c => ?_)
    · obtain ⟨k, rfl⟩ : ∃ k, m = k + 2 := ⟨m - 2, by omega⟩
      have dgs : ∀ t k i, k = v / 10 ^ t % 10 → i = k0 + t → (((dB k).toNat : Nat) : Int) = dgI u i := fun t k i h1 h2 => dgd u k0 t k (by rw [← hv]; exact h1) i h2
      have d (j i : Nat) (hj : i + j = 2) : IntKind.i64.wrap (((k + 2 : Nat) : Int) - (j : Int)) = ((k + i : Nat) : Int) := by
        rw [show ((k + 2 : Nat) : Int) - (j : Int) = ((k + i : Nat) : Int) by omega, wrap_nat (by unfold maxI; omega)]
      have d1 : IntKind.i64.wrap (((k + 2 : Nat) : Int) - 1) = ((k + 1 : Nat) : Int) := d 1 1 rfl
      have d2 : IntKind.i64.wrap (((k + 2 : Nat) : Int) - 2) = (k : Int) := d 2 0 rfl
      have s1 : (k + 1 < L) = True := eq_true (by omega)
      have s0 : (k < L) = True := eq_true (by omega)
      have a1 := wrapU32 (show v / 100 < 4294967296 by omega)
      have a6 := wrap_mul2 (show v % 100 < 1000000 by omega)
      have a7 := wrap_add1 (show v % 100 < 1000000 by omega)
      have a8 := smalls_at (v % 100) (by omega)
      have z0 := stp (k + 1) (k + 2) (k0 + 0) _ rfl (by omega) (by omega) (dgs 0 (v % 100 % 10) (k0 + 0) (by omega) rfl)
      have z1 := stp k (k + 1) (k0 + 1) _ rfl (by omega) (by omega) (dgs 1 (v % 100 / 10) (k0 + 1) (by omega) rfl)
      simp (dsimp := false) only [go_sem, Nat.reduceAdd, Nat.reduceEqDiff, Nat.reduceMul, Nat.reduceLeDiff, Nat.reduceSub, Nat.reduceLT, ↓reduceIte, reduceCtorEq, List.reduceReplicate, List.flatten_cons, List.flatten_nil, List.append_nil, eq_self, Int.reduceLE, Int.reduceLT, Int.reduceToNat, Nat.min_eq_left, Int.reducePow, Int.reduceNeg, Int.reduceEq, td100, tm100, ixstrV_str, ixsV_slice, Int.toNat_natCast, Int.natCast_nonneg, Int.ofNat_lt, optV_some, a1, a6, a7, a8, z0, z1, d1, d2, s1, s0, ne_eq, Int.reduceEq, not_false_eq_true]
      have hp : 10 ^ (k + 2) = 10 ^ k * 100 := Nat.pow_add 10 k 2
      exact ⟨k, k0 + 2, v / 100, by omega, by omega, by rw [hv, Nat.div_div_eq_div_mul, Nat.pow_add], by omega, rfl, rfl, rfl⟩
    · simp (dsimp := false) only [go_sem, Nat.reduceAdd, Nat.reduceEqDiff, Nat.reduceMul, Nat.reduceLeDiff, Nat.reduceSub, Nat.reduceLT, ↓reduceIte, reduceCtorEq, List.reduceReplicate, List.flatten_cons, List.flatten_nil, List.append_nil, eq_self, Int.reduceLE, Int.reduceLT, Int.reduceToNat, Nat.min_eq_left, Int.reducePow, Int.reduceNeg, Int.reduceEq]
      exact ⟨m, k0, v, hq, by omega, hv, hvm, rfl, rfl, rfl⟩
  clear e0 e4 e12 hv4 hv hvm hq hm
  rintro e _ ⟨m, k, v, hq, hm, hv, hvm, rfl, e0, e4, e12⟩
  simp (dsimp := false) only [go_sem, Nat.reduceAdd, Nat.reduceEqDiff, Nat.reduceMul, Nat.reduceLeDiff, Nat.reduceSub, Nat.reduceLT, ↓reduceIte, reduceCtorEq, List.reduceReplicate, List.flatten_cons, List.flatten_nil, List.append_nil, eq_self, Int.reduceLE, Int.reduceLT, Int.reduceToNat, Nat.min_eq_left, Int.reducePow, Int.reduceNeg, Int.reduceEq, e0, e4, e12]
  refine cVd (fun c => ?_) (fun c => ?_)
  · obtain rfl : m = 1 := by omega
    have hv9 : v < 10 := by simpa using hvm
    have w1 : IntKind.u8.wrap (IntKind.u32.wrap (48 + (v : Int))) = dgI u k := by
      rw [show (48 : Int) + (v : Int) = ((48 + v : Nat) : Int) by omega, wrapU32 (by omega), wrapU8 (by omega), ← Nat.add_zero k, ← dgd u k 0 v (by rw [← hv]; omega) (k + 0) rfl, dB_lt hv9]
    have z0 := stp 0 1 k _ rfl (by omega) (by omega) rfl
    rw [Nat.zero_mul] at z0
    simp (dsimp := false) only [go_sem, Nat.reduceAdd, Nat.reduceEqDiff, Nat.reduceMul, Nat.reduceLeDiff, Nat.reduceSub, Nat.reduceLT, ↓reduceIte, reduceCtorEq, List.reduceReplicate, List.flatten_cons, List.flatten_nil, List.append_nil, eq_self, Int.reduceLE, Int.reduceLT, Int.reduceToNat, Nat.min_eq_left, Int.reducePow, Int.reduceNeg, Int.reduceEq, ixsV_slice, Int.toNat_zero, w1, z0, Nat.zero_mul, Nat.add_zero]
    refine ⟨by omega, ?_⟩
    rw [Nat.add_zero] at z0
    rw [z0]
    simp (dsimp := false) only [go_sem, Nat.reduceAdd, Nat.reduceEqDiff, Nat.reduceMul, Nat.reduceLeDiff, Nat.reduceSub, Nat.reduceLT, ↓reduceIte, reduceCtorEq, List.reduceReplicate, List.flatten_cons, List.flatten_nil, List.append_nil, eq_self, Int.reduceLE, Int.reduceLT, Int.reduceToNat, Nat.min_eq_left, Int.reducePow, Int.reduceNeg, Int.reduceEq]
    exact hΦ
  · obtain rfl : m = 0 := by omega
    simp (dsimp := false) only [go_sem, Nat.reduceAdd, Nat.reduceEqDiff, Nat.reduceMul, Nat.reduceLeDiff, Nat.reduceSub, Nat.reduceLT, ↓reduceIte, reduceCtorEq, List.reduceReplicate, List.flatten_cons, List.flatten_nil, List.append_nil, eq_self, Int.reduceLE, Int.reduceLT, Int.reduceToNat, Nat.min_eq_left, Int.reducePow, Int.reduceNeg, Int.reduceEq]
    exact hΦ
set_option maxRecDepth 10000 in
set_option maxHeartbeats 1000000 in
theorem fmt10_spec {h : AHeap} {b off L cap u : Nat} {cells : List Value} (f : Fx h b cells) (hl : off + L ≤ cells.length) (hL : L ≤ 100) (hu : u < 10 ^ L) (h64 : u < 18446744073709551616) :
    SpecX Tryd.prog nG fn.internal_strconv_formatBase10 [.slice (some ⟨b, off, none⟩) L cap, .int .u64 (u : Int)] h fun v' h' => h' = fillH h b cells off L u 0 := by
  refine SpecX.of_body (ir.internal_strconv_formatBase10.spec (Nat.le_of_ble_eq_true rfl)) ?_
  simp (dsimp := false) only [↓ir.internal_strconv_formatBase10.bw, ir.internal_strconv_formatBase10.rs, go_sem, Nat.reduceAdd, Nat.reduceEqDiff, Nat.reduceMul, Nat.reduceLeDiff, Nat.reduceSub, Nat.reduceLT, ↓reduceIte, reduceCtorEq, List.reduceReplicate, List.flatten_cons, List.flatten_nil, List.append_nil, eq_self, Int.reduceLE, Int.reduceLT, Int.reduceToNat, Nat.min_eq_left, Int.reducePow, Int.reduceNeg, Int.reduceEq, lenV_slice]
  refine loopV_of (fun m e h2 => ∃ nd q : Nat, m = nd ∧ nd + 8 * q = L ∧ h2 = fillH h b cells off L u nd ∧
    e = [(0, .slice (some ⟨b, off, none⟩) L cap), (1, .int .u64 ((u / 10 ^ (8 * q) : Nat) : Int)), (4, .int .i64 (nd : Int))]) _ ⟨L, 0, rfl, rfl, by unfold fillH; rw [fillR_all, set_self f], by simp⟩ ?_
  rintro m e h2 ⟨nd, q, rfl, hq, rfl, rfl⟩
  have stp : ∀ nd n1 i v, n1 = nd + 1 → nd < L → i = L - 1 - nd → v = dgI u i → wrs (fillH h b cells off L u n1) b (off + nd * 1) [.int .u8 v] = some (fillH h b cells off L u nd) := fun nd n1 i v h0 h1 h2 h3 => by
    subst h3; subst h0; exact fillH_step f hl h1 h2
  have hv64 : u / 10 ^ (8 * q) < 18446744073709551616 := Nat.lt_of_le_of_lt (Nat.div_le_self _ _) h64
  have dgs : ∀ t k i, k = u / 10 ^ (8 * q) / 10 ^ t % 10 → i = 8 * q + t → (((dB k).toNat : Nat) : Int) = dgI u i := fun t k i h1 h2 => dgd u (8 * q) t k h1 i h2
  have hvm : u / 10 ^ (8 * q) < 10 ^ m := by
    rw [Nat.div_lt_iff_lt_mul (Nat.pow_pos (by omega)), ← Nat.pow_add, hq]; exact hu
  have hd8 : u / 10 ^ (8 * q) / 100000000 = u / 10 ^ (8 * (q + 1)) := by
    rw [Nat.div_div_eq_div_mul, Nat.mul_add, Nat.pow_add]
  generalize hv : u / 10 ^ (8 * q) = v at *
  simp (dsimp := false) only [↓ir.internal_strconv_formatBase10.l1.bw, go_sem, Nat.reduceAdd, Nat.reduceEqDiff, Nat.reduceMul, Nat.reduceLeDiff, Nat.reduceSub, Nat.reduceLT, ↓reduceIte, reduceCtorEq, List.reduceReplicate, List.flatten_cons, List.flatten_nil, List.append_nil, eq_self, Int.reduceLE, Int.reduceLT, Int.reduceToNat, Nat.min_eq_left, Int.reducePow, Int.reduceNeg, Int.reduceEq]
  refine cVd (fun c => ?_) (fun c => ?_)
  · obtain ⟨k, rfl⟩ : ∃ k, m = k + 8 := ⟨m - 8, by omega⟩
    have d (j i : Nat) (hj : i + j = 8) : IntKind.i64.wrap (((k + 8 : Nat) : Int) - (j : Int)) = ((k + i : Nat) : Int) := by
      rw [show ((k + 8 : Nat) : Int) - (j : Int) = ((k + i : Nat) : Int) by omega, wrap_nat (by unfold maxI; omega)]
    have d1 : IntKind.i64.wrap (((k + 8 : Nat) : Int) - 1) = ((k + 7 : Nat) : Int) := d 1 7 rfl
    have d2 : IntKind.i64.wrap (((k + 8 : Nat) : Int) - 2) = ((k + 6 : Nat) : Int) := d 2 6 rfl
    have d3 : IntKind.i64.wrap (((k + 8 : Nat) : Int) - 3) = ((k + 5 : Nat) : Int) := d 3 5 rfl
    have d4 : IntKind.i64.wrap (((k + 8 : Nat) : Int) - 4) = ((k + 4 : Nat) : Int) := d 4 4 rfl
    have d5 : IntKind.i64.wrap (((k + 8 : Nat) : Int) - 5) = ((k + 3 : Nat) : Int) := d 5 3 rfl
    have d6 : IntKind.i64.wrap (((k + 8 : Nat) : Int) - 6) = ((k + 2 : Nat) : Int) := d 6 2 rfl
    have d7 : IntKind.i64.wrap (((k + 8 : Nat) : Int) - 7) = ((k + 1 : Nat) : Int) := d 7 1 rfl
    have d8 : IntKind.i64.wrap (((k + 8 : Nat) : Int) - 8) = (k : Int) := d 8 0 rfl
    have s (i : Nat) (hi : i < 8) : (k + i < L) = True := eq_true (by omega)
    have a1 := wrapU32 (show v % 100000000 < 4294967296 by omega)
    have a2 := wrapU64 (show v / 100000000 < 18446744073709551616 by omega)
    have a3 := wrapU32 (show v % 100000000 / 10000 < 4294967296 by omega)
    have a4 := wrapU32 (show v % 100000000 / 10000 / 100 < 4294967296 by omega)
    have a5 := wrapU32 (show v % 100000000 % 10000 / 100 < 4294967296 by omega)
    have a6 := wrap_mul2 (show v % 100000000 / 10000 / 100 < 1000000 by omega)
    have a7 := wrap_add1 (show v % 100000000 / 10000 / 100 < 1000000 by omega)
    have a8 := smalls_at (v % 100000000 / 10000 / 100) (by omega)
    have a9 := wrap_mul2 (show v % 100000000 % 10000 / 100 < 1000000 by omega)
    have a10 := wrap_add1 (show v % 100000000 % 10000 / 100 < 1000000 by omega)
    have a11 := smalls_at (v % 100000000 % 10000 / 100) (by omega)
    have a12 := wrap_mul2 (show v % 100000000 / 10000 % 100 < 1000000 by omega)
    have a13 := wrap_add1 (show v % 100000000 / 10000 % 100 < 1000000 by omega)
    have a14 := smalls_at (v % 100000000 / 10000 % 100) (by omega)
    have a15 := wrap_mul2 (show v % 100000000 % 10000 % 100 < 1000000 by omega)
    have a16 := wrap_add1 (show v % 100000000 % 10000 % 100 < 1000000 by omega)
    have a17 := smalls_at (v % 100000000 % 10000 % 100) (by omega)
    have z0 := stp (k + 7) (k + 8) (8 * q + 0) _ rfl (by omega) (by omega) (dgs 0 (v % 100000000 % 10000 % 100 % 10) (8 * q + 0) (by omega) rfl)
    have z1 := stp (k + 6) (k + 7) (8 * q + 1) _ rfl (by omega) (by omega) (dgs 1 (v % 100000000 % 10000 % 100 / 10) (8 * q + 1) (by omega) rfl)
    have z2 := stp (k + 5) (k + 6) (8 * q + 2) _ rfl (by omega) (by omega) (dgs 2 (v % 100000000 % 10000 / 100 % 10) (8 * q + 2) (by omega) rfl)
    have z3 := stp (k + 4) (k + 5) (8 * q + 3) _ rfl (by omega) (by omega) (dgs 3 (v % 100000000 % 10000 / 100 / 10) (8 * q + 3) (by omega) rfl)
    have z4 := stp (k + 3) (k + 4) (8 * q + 4) _ rfl (by omega) (by omega) (dgs 4 (v % 100000000 / 10000 % 100 % 10) (8 * q + 4) (by omega) rfl)
    have z5 := stp (k + 2) (k + 3) (8 * q + 5) _ rfl (by omega) (by omega) (dgs 5 (v % 100000000 / 10000 % 100 / 10) (8 * q + 5) (by omega) rfl)
    have z6 := stp (k + 1) (k + 2) (8 * q + 6) _ rfl (by omega) (by omega) (dgs 6 (v % 100000000 / 10000 / 100 % 10) (8 * q + 6) (by omega) rfl)
    have z7 := stp (k) (k + 1) (8 * q + 7) _ rfl (by omega) (by omega) (dgs 7 (v % 100000000 / 10000 / 100 / 10) (8 * q + 7) (by omega) rfl)
    simp (dsimp := false) only [go_sem, Nat.reduceAdd, Nat.reduceEqDiff, Nat.reduceMul, Nat.reduceLeDiff, Nat.reduceSub, Nat.reduceLT, ↓reduceIte, reduceCtorEq, List.reduceReplicate, List.flatten_cons, List.flatten_nil, List.append_nil, eq_self, Int.reduceLE, Int.reduceLT, Int.reduceToNat, Nat.min_eq_left, Int.reducePow, Int.reduceNeg, Int.reduceEq, tm1e8, td1e8, td1e4, tm1e4, td100, tm100, ixstrV_str, ixsV_slice, Int.toNat_natCast, Int.natCast_nonneg, Int.ofNat_lt, optV_some, a1, a2, a3, a4, a5, a6, a7, a8, a9, a10, a11, a12, a13, a14, a15, a16, a17, z0, z1, z2, z3, z4, z5, z6, z7, d1, d2, d3, d4, d5, d6, d7, d8, ne_eq, Int.reduceEq, not_false_eq_true, s 7 (by omega), s 6 (by omega), s 5 (by omega), s 4 (by omega), s 3 (by omega), s 2 (by omega), s 1 (by omega), (show (k < L) = True from s 0 (by omega))]
    exact ⟨k, by omega, k, q + 1, rfl, by omega, rfl, by rw [hd8]⟩
  clear stp dgs
  clear hd8
  have hm7 : m < 8 := by omega
  simp (dsimp := false) only [↓wpC_exit, ↓thenC_exit, ↓blockC_exit, ↓reduceIte, ↓thenC_normal]
  have hv7 : v < 10000000 := by
    have : 10 ^ m ≤ 10 ^ 7 := Nat.pow_le_pow_right (by omega) (by omega)
    omega
  exact fmt10_tail f hl hq hv hvm hv7 hm7 _ rfl rfl rfl _ rfl

/-! ### FormatUint, FormatInt, Itoa -/
theorem digits_at : ∀ i, i < 10 → lit_e9b1713d.extract i (i + 1) = bytesS [dgI i 0] := by decide +kernel
theorem smalls_sl : ∀ i, i < 100 → lit_db3e2f51.extract (i * 2) (i * 2 + 2) = bytesS [dgI (i / 10) 0] ++ bytesS [dgI i 0] := by decide +kernel
theorem small_spec (h : AHeap) {i : Nat} (hi : i < 100) : Spec Tryd.prog nG fn.internal_strconv_small [.int .i64 (i : Int)] h (.string (decS i)) h := by
  apply ir.internal_strconv_small.spec (Nat.le_of_ble_eq_true rfl)
  have w1 : IntKind.i64.wrap ((i : Int) + 1) = ((i + 1 : Nat) : Int) := by rw [wrap_i64 (by omega)]; omega
  have w2 : IntKind.i64.wrap ((i : Int) * 2) = ((i * 2 : Nat) : Int) := by rw [wrap_i64 (by omega)]; omega
  have w3 : IntKind.i64.wrap (((i * 2 : Nat) : Int) + 2) = ((i * 2 + 2 : Nat) : Int) := by rw [wrap_i64 (by omega)]; omega
  have l1 : lit_e9b1713d.size = 36 := rfl
  have l2 : lit_db3e2f51.size = 200 := rfl
  simp (dsimp := false) only [↓ir.internal_strconv_small.bw, ir.internal_strconv_small.rs, go_sem, Nat.reduceAdd, Nat.reduceEqDiff, Nat.reduceMul, Nat.reduceLeDiff, Nat.reduceSub, Nat.reduceLT, ↓reduceIte, reduceCtorEq, List.reduceReplicate, List.flatten_cons, List.flatten_nil, List.append_nil, eq_self, Int.reduceLE, Int.reduceLT, Int.reduceToNat, Nat.min_eq_left, Int.reducePow, Int.reduceNeg, Int.reduceEq]
  refine cVd (fun c => ?_) (fun c => ?_)
  · simp (dsimp := false) only [go_sem, Nat.reduceAdd, Nat.reduceEqDiff, Nat.reduceMul, Nat.reduceLeDiff, Nat.reduceSub, Nat.reduceLT, ↓reduceIte, reduceCtorEq, List.reduceReplicate, List.flatten_cons, List.flatten_nil, List.append_nil, eq_self, Int.reduceLE, Int.reduceLT, Int.reduceToNat, Nat.min_eq_left, Int.reducePow, Int.reduceNeg, Int.reduceEq, slstrV_str, Option.map_some, intO, Option.getD_some, w1, l1]
    refine ⟨by omega, ?_⟩
    simp (dsimp := false) only [go_sem, Nat.reduceAdd, Nat.reduceEqDiff, Nat.reduceMul, Nat.reduceLeDiff, Nat.reduceSub, Nat.reduceLT, ↓reduceIte, reduceCtorEq, List.reduceReplicate, List.flatten_cons, List.flatten_nil, List.append_nil, eq_self, Int.reduceLE, Int.reduceLT, Int.reduceToNat, Nat.min_eq_left, Int.reducePow, Int.reduceNeg, Int.reduceEq, Int.toNat_natCast, digits_at i (by omega)]
    rw [decS_lt (by omega)]
    exact .inl ⟨rfl, rfl⟩
  · simp (dsimp := false) only [go_sem, Nat.reduceAdd, Nat.reduceEqDiff, Nat.reduceMul, Nat.reduceLeDiff, Nat.reduceSub, Nat.reduceLT, ↓reduceIte, reduceCtorEq, List.reduceReplicate, List.flatten_cons, List.flatten_nil, List.append_nil, eq_self, Int.reduceLE, Int.reduceLT, Int.reduceToNat, Nat.min_eq_left, Int.reducePow, Int.reduceNeg, Int.reduceEq, slstrV_str, Option.map_some, intO, Option.getD_some, w2, w3, l2]
    refine ⟨by omega, ?_⟩
    simp (dsimp := false) only [go_sem, Nat.reduceAdd, Nat.reduceEqDiff, Nat.reduceMul, Nat.reduceLeDiff, Nat.reduceSub, Nat.reduceLT, ↓reduceIte, reduceCtorEq, List.reduceReplicate, List.flatten_cons, List.flatten_nil, List.append_nil, eq_self, Int.reduceLE, Int.reduceLT, Int.reduceToNat, Nat.min_eq_left, Int.reducePow, Int.reduceNeg, Int.reduceEq, Int.toNat_natCast, smalls_sl i hi]
    rw [decS_ge (by omega), decS_lt (by omega)]
    exact .inl ⟨rfl, rfl⟩
theorem bts_fx {h : AHeap} {b off n cap : Nat} {cells : List Value} {l : List Int} (f : Fx h b cells) (hl : off + n ≤ cells.length) (e : (cells.drop off).take n = l.map (Value.int .u8)) {K : Value → AHeap → Prop} {w : Hold K} :
    btsV (.slice (some ⟨b, off, none⟩) n cap) h K w = K (.string (bytesS l)) h := by
  cases n with
  | zero =>
    have : l = [] := by simpa using e.symm
    subst this; rfl
  | succ n =>
    simp only [btsV, f.rd e hl, Option.bind_some, bytesA_map]
theorem fillR_at {cells : List Value} {off L u : Nat} (hl : off + L ≤ cells.length) (e : (decI u).length = L) : ((fillR cells off L u 0).drop off).take L = (decI u).map (Value.int .u8) := by
  have hp := decI_pos u
  have hb := decI_bound u
  obtain ⟨k, hk⟩ : ∃ k, L = k + 1 := ⟨L - 1, by omega⟩
  subst hk
  rw [e] at hb
  rw [decI_range k u hb.1 (by rcases hb.2 with q | q; exact .inl (by omega); exact .inr (by simpa using q)), List.map_map]
  unfold fillR
  rw [setC_eq (by simp; omega), Nat.add_zero, List.drop_zero, List.drop_left' (by simp; omega), List.take_left' (by simp)]
  rfl
theorem fillH_new (h : AHeap) (cells cells' : List Value) (off L u nd : Nat) (g : AHeap) : fillH (h ++ .row .fix cells :: g) h.length cells' off L u nd = h ++ .row .fix (fillR cells' off L u nd) :: g := by
  simp [fillH]
abbrev z24 : List Value := zrep 24 (.int .u8 0)
theorem Fx.slaOK {h : AHeap} {b : Nat} {cs : List Value} (k : Fx h b cs) : slaOK h b := by
  unfold Fx at k
  unfold B.slaOK
  rw [k]; trivial
theorem fmtUint_spec {h : AHeap} (hg : PowV h) {u : Nat} (hu : u < 18446744073709551616) : Spec Tryd.prog nG fn.internal_strconv_FormatUint [.int .u64 (u : Int), .int .i64 10] h (.string (decS u)) h := by
  apply ir.internal_strconv_FormatUint.spec (Nat.le_of_ble_eq_true rfl)
  simp (dsimp := false) only [↓ir.internal_strconv_FormatUint.bw, ir.internal_strconv_FormatUint.rs, go_sem, Nat.reduceAdd, Nat.reduceEqDiff, Nat.reduceMul, Nat.reduceLeDiff, Nat.reduceSub, Nat.reduceLT, ↓reduceIte, reduceCtorEq, List.reduceReplicate, List.flatten_cons, List.flatten_nil, List.append_nil, eq_self, Int.reduceLE, Int.reduceLT, Int.reduceToNat, Nat.min_eq_left, Int.reducePow, Int.reduceNeg, Int.reduceEq, (show ((10 : Int) == 10) = true from rfl)]
  refine cVd (fun c => ?_) (fun c => ?_)
  · simp (dsimp := false) only [go_sem, Nat.reduceAdd, Nat.reduceEqDiff, Nat.reduceMul, Nat.reduceLeDiff, Nat.reduceSub, Nat.reduceLT, ↓reduceIte, reduceCtorEq, List.reduceReplicate, List.flatten_cons, List.flatten_nil, List.append_nil, eq_self, Int.reduceLE, Int.reduceLT, Int.reduceToNat, Nat.min_eq_left, Int.reducePow, Int.reduceNeg, Int.reduceEq, wrapI (show u ≤ 9223372036854775807 by omega)]
    refine callV_of (small_spec _ (by omega)) ?_
    simp (dsimp := false) only [go_sem, Nat.reduceAdd, Nat.reduceEqDiff, Nat.reduceMul, Nat.reduceLeDiff, Nat.reduceSub, Nat.reduceLT, ↓reduceIte, reduceCtorEq, List.reduceReplicate, List.flatten_cons, List.flatten_nil, List.append_nil, eq_self, Int.reduceLE, Int.reduceLT, Int.reduceToNat, Nat.min_eq_left, Int.reducePow, Int.reduceNeg, Int.reduceEq]
    exact .inl ⟨rfl, rfl⟩
  · simp (dsimp := false) only [go_sem, Nat.reduceAdd, Nat.reduceEqDiff, Nat.reduceMul, Nat.reduceLeDiff, Nat.reduceSub, Nat.reduceLT, ↓reduceIte, reduceCtorEq, List.reduceReplicate, List.flatten_cons, List.flatten_nil, List.append_nil, eq_self, Int.reduceLE, Int.reduceLT, Int.reduceToNat, Nat.min_eq_left, Int.reducePow, Int.reduceNeg, Int.reduceEq]
    refine callV_of (numDigits_spec (hg.pre (.app _ _)) (by omega) hu) ?_
    have h20 := decI_le20 hu
    have hb := decI_bound u
    obtain ⟨L, hL⟩ : ∃ L, (decI u).length = L := ⟨_, rfl⟩
    rw [hL] at h20 hb ⊢
    have c1 : (0 : Int) ≤ (L : Int) := by omega
    have c2 : (L : Int) ≤ ((24 : Nat) : Int) := by omega
    simp (dsimp := false) only [go_sem, Nat.reduceAdd, Nat.reduceEqDiff, Nat.reduceMul, Nat.reduceLeDiff, Nat.reduceSub, Nat.reduceLT, ↓reduceIte, reduceCtorEq, List.reduceReplicate, List.flatten_cons, List.flatten_nil, List.append_nil, eq_self, Int.reduceLE, Int.reduceLT, Int.reduceToNat, Nat.min_eq_left, Int.reducePow, Int.reduceNeg, Int.reduceEq, slaV_ptr, Option.map_some, Option.map_none, intO, Option.getD_some, Option.getD_none, Int.toNat_natCast, Int.toNat_zero, c1, c2]
    refine ⟨(Fx.here _ _ _).slaOK, ?_⟩
    refine callV_x (fmt10_spec (Fx.here _ _ _) (by simp [zrep]; omega) (by omega) hb.1 hu) ?_
    rintro _ _ rfl
    rw [fillH_new]
    generalize hR : fillR _ 0 L u 0 = R
    have c3 := Fx.here h R []
    have c4 : 0 + L ≤ R.length := by rw [← hR, fillR_len]; simp [zrep]; omega
    have c5 : (R.drop 0).take L = (decI u).map (Value.int .u8) := by rw [← hR]; exact fillR_at (cells := z24) (off := 0) (u := u) (by simp [zrep]; omega) hL
    clear hR
    simp (dsimp := false) only [go_sem, Nat.reduceAdd, Nat.reduceEqDiff, Nat.reduceMul, Nat.reduceLeDiff, Nat.reduceSub, Nat.reduceLT, ↓reduceIte, reduceCtorEq, List.reduceReplicate, List.flatten_cons, List.flatten_nil, List.append_nil, eq_self, Int.reduceLE, Int.reduceLT, Int.reduceToNat, Nat.min_eq_left, Int.reducePow, Int.reduceNeg, Int.reduceEq, slaV_ptr, Option.map_some, Option.map_none, intO, Option.getD_some, Option.getD_none, Int.toNat_natCast, Int.toNat_zero, c1, c2, Nat.sub_zero]
    refine ⟨c3.slaOK, ?_⟩
    rw [bts_fx c3 c4 c5]
    simp (dsimp := false) only [go_sem, Nat.reduceAdd, Nat.reduceEqDiff, Nat.reduceMul, Nat.reduceLeDiff, Nat.reduceSub, Nat.reduceLT, ↓reduceIte, reduceCtorEq, List.reduceReplicate, List.flatten_cons, List.flatten_nil, List.append_nil, eq_self, Int.reduceLE, Int.reduceLT, Int.reduceToNat, Nat.min_eq_left, Int.reducePow, Int.reduceNeg, Int.reduceEq]
    exact Fin.sc rfl rfl

/-- A whole number's numeral. -/
def wholeS (n : Int) : ByteArray := if n < 0 then bytesS [45] ++ decS n.natAbs else decS n.toNat
theorem wholeS_nat (n : Nat) : wholeS (n : Int) = decS n := by simp [wholeS]; omega
theorem wholeS_size {n : Int} (h : -9223372036854775808 ≤ n ∧ n ≤ 9223372036854775807) : (wholeS n).size ≤ 21 := by
  unfold wholeS
  split
  · have := decS_size (u := n.natAbs) (by omega)
    rw [ByteArray.size_append, bytesS_size]; simp; omega
  · have := decS_size (u := n.toNat) (by omega)
    omega
theorem fillR_pre {cells : List Value} {off L u i : Nat} (hl : off + L ≤ cells.length) (hi : i < off) : (fillR cells off L u 0)[i]? = cells[i]? := by
  unfold fillR
  rw [setC_get _ _ _ _ (by simp [zrep]; omega), if_neg (by omega)]
theorem fmtInt_spec {h : AHeap} (hg : PowV h) {n : Int} (hn : -9223372036854775808 ≤ n ∧ n ≤ 9223372036854775807) : Spec Tryd.prog nG fn.internal_strconv_FormatInt [.int .i64 n, .int .i64 10] h (.string (wholeS n)) h := by
  apply ir.internal_strconv_FormatInt.spec (Nat.le_of_ble_eq_true rfl)
  by_cases h0 : 0 ≤ n
  · obtain ⟨u, rfl⟩ : ∃ k : Nat, n = k := ⟨n.toNat, by omega⟩
    rw [wholeS_nat]
    have b0 : decide ((0 : Int) ≤ (u : Int)) = true := decide_eq_true h0
    have b2 : decide ((u : Int) < 0) = false := decide_eq_false (by omega)
    by_cases h1 : u < 100
    · have b1 : decide ((u : Int) < 100) = true := decide_eq_true (by omega)
      simp (dsimp := false) only [↓ir.internal_strconv_FormatInt.bw, ir.internal_strconv_FormatInt.rs, go_sem, Nat.reduceAdd, Nat.reduceEqDiff, Nat.reduceMul, Nat.reduceLeDiff, Nat.reduceSub, Nat.reduceLT, ↓reduceIte, reduceCtorEq, List.reduceReplicate, List.flatten_cons, List.flatten_nil, List.append_nil, eq_self, Int.reduceLE, Int.reduceLT, Int.reduceToNat, Nat.min_eq_left, Int.reducePow, Int.reduceNeg, Int.reduceEq, (show ((10 : Int) == 10) = true from rfl), b0, b1]
      refine callV_of (small_spec _ h1) ?_
      simp (dsimp := false) only [go_sem, Nat.reduceAdd, Nat.reduceEqDiff, Nat.reduceMul, Nat.reduceLeDiff, Nat.reduceSub, Nat.reduceLT, ↓reduceIte, reduceCtorEq, List.reduceReplicate, List.flatten_cons, List.flatten_nil, List.append_nil, eq_self, Int.reduceLE, Int.reduceLT, Int.reduceToNat, Nat.min_eq_left, Int.reducePow, Int.reduceNeg, Int.reduceEq]
      exact .inl ⟨rfl, rfl⟩
    · have b1 : decide ((u : Int) < 100) = false := decide_eq_false (by omega)
      have hu : u < 18446744073709551616 := by omega
      simp (dsimp := false) only [↓ir.internal_strconv_FormatInt.bw, ir.internal_strconv_FormatInt.rs, go_sem, Nat.reduceAdd, Nat.reduceEqDiff, Nat.reduceMul, Nat.reduceLeDiff, Nat.reduceSub, Nat.reduceLT, ↓reduceIte, reduceCtorEq, List.reduceReplicate, List.flatten_cons, List.flatten_nil, List.append_nil, eq_self, Int.reduceLE, Int.reduceLT, Int.reduceToNat, Nat.min_eq_left, Int.reducePow, Int.reduceNeg, Int.reduceEq, (show ((10 : Int) == 10) = true from rfl), b0, b1, b2, wrapU64 hu]
      refine callV_of (numDigits_spec (hg.pre (.app _ _)) (by omega) hu) ?_
      have h20 := decI_le20 hu
      have hb := decI_bound u
      obtain ⟨L, hL⟩ : ∃ L, (decI u).length = L := ⟨_, rfl⟩
      rw [hL] at h20 hb ⊢
      have w1 : IntKind.i64.wrap (1 + (L : Int)) = ((L + 1 : Nat) : Int) := by rw [wrap_i64 (by omega)]; omega
      have c1 : (1 : Int) ≤ ((L + 1 : Nat) : Int) := by omega
      have c2 : ((L + 1 : Nat) : Int) ≤ ((24 : Nat) : Int) := by omega
      simp (dsimp := false) only [go_sem, Nat.reduceAdd, Nat.reduceEqDiff, Nat.reduceMul, Nat.reduceLeDiff, Nat.reduceSub, Nat.reduceLT, ↓reduceIte, reduceCtorEq, List.reduceReplicate, List.flatten_cons, List.flatten_nil, List.append_nil, eq_self, Int.reduceLE, Int.reduceLT, Int.reduceToNat, Nat.min_eq_left, Int.reducePow, Int.reduceNeg, Int.reduceEq, slaV_ptr, Option.map_some, Option.map_none, intO, Option.getD_some, Option.getD_none, Int.toNat_natCast, Int.toNat_one, w1, c1, c2, Nat.add_sub_cancel, Nat.zero_add, Nat.mul_one]
      refine ⟨(Fx.here _ _ _).slaOK, ?_⟩
      refine callV_x (fmt10_spec (Fx.here _ _ _) (by simp [zrep]; omega) (by omega) hb.1 hu) ?_
      rintro _ _ rfl
      rw [fillH_new]
      generalize hR : fillR _ 1 L u 0 = R
      have c3 := Fx.here h R []
      have c4 : 1 + L ≤ R.length := by rw [← hR, fillR_len]; simp [zrep]; omega
      have c5 : (R.drop 1).take L = (decI u).map (Value.int .u8) := by rw [← hR]; exact fillR_at (cells := z24) (off := 1) (u := u) (by simp [zrep]; omega) hL
      clear hR
      simp (dsimp := false) only [go_sem, Nat.reduceAdd, Nat.reduceEqDiff, Nat.reduceMul, Nat.reduceLeDiff, Nat.reduceSub, Nat.reduceLT, ↓reduceIte, reduceCtorEq, List.reduceReplicate, List.flatten_cons, List.flatten_nil, List.append_nil, eq_self, Int.reduceLE, Int.reduceLT, Int.reduceToNat, Nat.min_eq_left, Int.reducePow, Int.reduceNeg, Int.reduceEq, b2, slaV_ptr, Option.map_some, Option.map_none, intO, Option.getD_some, Option.getD_none, Int.toNat_natCast, Int.toNat_one, w1, c1, c2, Nat.add_sub_cancel, Nat.zero_add, Nat.mul_one]
      refine ⟨c3.slaOK, ?_⟩
      rw [bts_fx c3 c4 c5]
      simp (dsimp := false) only [go_sem, Nat.reduceAdd, Nat.reduceEqDiff, Nat.reduceMul, Nat.reduceLeDiff, Nat.reduceSub, Nat.reduceLT, ↓reduceIte, reduceCtorEq, List.reduceReplicate, List.flatten_cons, List.flatten_nil, List.append_nil, eq_self, Int.reduceLE, Int.reduceLT, Int.reduceToNat, Nat.min_eq_left, Int.reducePow, Int.reduceNeg, Int.reduceEq]
      exact Fin.sc rfl rfl
  · obtain ⟨u, rfl⟩ : ∃ k : Nat, n = -(k : Int) := ⟨n.natAbs, by omega⟩
    have hw : wholeS (-(u : Int)) = bytesS [45] ++ decS u := by
      unfold wholeS; rw [if_pos (by omega)]; congr 2; omega
    rw [hw]
    have b0 : decide ((0 : Int) ≤ -(u : Int)) = false := decide_eq_false (by omega)
    have b2 : decide (-(u : Int) < 0) = true := decide_eq_true (by omega)
    have hu : u < 18446744073709551616 := by omega
    have wu : IntKind.u64.wrap (0 - IntKind.u64.wrap (-(u : Int))) = (u : Int) := by
      unfold IntKind.wrap
      simp [IntKind.signed, IntKind.bits]; omega
    simp (dsimp := false) only [↓ir.internal_strconv_FormatInt.bw, ir.internal_strconv_FormatInt.rs, go_sem, Nat.reduceAdd, Nat.reduceEqDiff, Nat.reduceMul, Nat.reduceLeDiff, Nat.reduceSub, Nat.reduceLT, ↓reduceIte, reduceCtorEq, List.reduceReplicate, List.flatten_cons, List.flatten_nil, List.append_nil, eq_self, Int.reduceLE, Int.reduceLT, Int.reduceToNat, Nat.min_eq_left, Int.reducePow, Int.reduceNeg, Int.reduceEq, (show ((10 : Int) == 10) = true from rfl), b0, b2, wu]
    refine callV_of (numDigits_spec (hg.pre (.app _ _)) (by omega) hu) ?_
    have h20 := decI_le20 hu
    have hb := decI_bound u
    obtain ⟨L, hL⟩ : ∃ L, (decI u).length = L := ⟨_, rfl⟩
    rw [hL] at h20 hb ⊢
    have w1 : IntKind.i64.wrap (1 + (L : Int)) = ((L + 1 : Nat) : Int) := by rw [wrap_i64 (by omega)]; omega
    have c0 : (0 : Int) ≤ ((L + 1 : Nat) : Int) := by omega
    have c1 : (1 : Int) ≤ ((L + 1 : Nat) : Int) := by omega
    have c2 : ((L + 1 : Nat) : Int) ≤ ((24 : Nat) : Int) := by omega
    simp (dsimp := false) only [go_sem, Nat.reduceAdd, Nat.reduceEqDiff, Nat.reduceMul, Nat.reduceLeDiff, Nat.reduceSub, Nat.reduceLT, ↓reduceIte, reduceCtorEq, List.reduceReplicate, List.flatten_cons, List.flatten_nil, List.append_nil, eq_self, Int.reduceLE, Int.reduceLT, Int.reduceToNat, Nat.min_eq_left, Int.reducePow, Int.reduceNeg, Int.reduceEq, slaV_ptr, Option.map_some, Option.map_none, intO, Option.getD_some, Option.getD_none, Int.toNat_natCast, Int.toNat_one, w1, c1, c2, Nat.add_sub_cancel, Nat.zero_add, Nat.mul_one]
    refine ⟨(Fx.here _ _ _).slaOK, ?_⟩
    refine callV_x (fmt10_spec (Fx.here _ _ _) (by simp [zrep]; omega) (by omega) hb.1 hu) ?_
    rintro _ _ rfl
    rw [fillH_new]
    generalize hR : fillR _ 1 L u 0 = R
    have c4 : R.length = 24 := by rw [← hR, fillR_len]; rfl
    have c5 : (R.drop 1).take L = (decI u).map (Value.int .u8) := by rw [← hR]; exact fillR_at (cells := z24) (off := 1) (u := u) (by simp [zrep]; omega) hL
    clear hR
    have c6 := Fx.here h (R.set 0 (.int .u8 45)) []
    have c7 : ((R.set 0 (.int .u8 45)).drop 0).take (L + 1) = ([45] ++ decI u).map (Value.int .u8) := by
      rw [List.map_append, ← c5]
      match R, c4 with
      | a :: R, _ => simp
    have e1 : wrs (h ++ [AObj.row Mode.fix R]) h.length 0 [.int .u8 45] = some (h ++ [AObj.row Mode.fix (R.set 0 (.int .u8 45))]) := by
      rw [(Fx.here h R []).wr (by simp [c4])]; simp [setC]
    simp (dsimp := false) only [go_sem, Nat.reduceAdd, Nat.reduceEqDiff, Nat.reduceMul, Nat.reduceLeDiff, Nat.reduceSub, Nat.reduceLT, ↓reduceIte, reduceCtorEq, List.reduceReplicate, List.flatten_cons, List.flatten_nil, List.append_nil, eq_self, Int.reduceLE, Int.reduceLT, Int.reduceToNat, Nat.min_eq_left, Int.reducePow, Int.reduceNeg, Int.reduceEq, b2, ixaV_ptr, Int.toNat_zero, Nat.zero_mul, Nat.add_zero, e1, slaV_ptr, Option.map_some, Option.map_none, intO, Option.getD_some, Option.getD_none, Int.toNat_natCast, Int.toNat_one, w1, c0, c2, Nat.sub_zero, Nat.zero_add, Nat.mul_one]
    refine ⟨by omega, c6.slaOK, ?_⟩
    rw [bts_fx c6 (by rw [List.length_set]; omega) c7, bytesS_append]
    simp (dsimp := false) only [go_sem, Nat.reduceAdd, Nat.reduceEqDiff, Nat.reduceMul, Nat.reduceLeDiff, Nat.reduceSub, Nat.reduceLT, ↓reduceIte, reduceCtorEq, List.reduceReplicate, List.flatten_cons, List.flatten_nil, List.append_nil, eq_self, Int.reduceLE, Int.reduceLT, Int.reduceToNat, Nat.min_eq_left, Int.reducePow, Int.reduceNeg, Int.reduceEq]
    exact Fin.sc rfl rfl
theorem itoa0_spec {h : AHeap} (hg : PowV h) {n : Int} (hn : -9223372036854775808 ≤ n ∧ n ≤ 9223372036854775807) : Spec Tryd.prog nG fn.internal_strconv_Itoa [.int .i64 n] h (.string (wholeS n)) h := by
  apply ir.internal_strconv_Itoa.spec (Nat.le_of_ble_eq_true rfl)
  simp (dsimp := false) only [↓ir.internal_strconv_Itoa.bw, ir.internal_strconv_Itoa.rs, go_sem, Nat.reduceAdd, Nat.reduceEqDiff, Nat.reduceMul, Nat.reduceLeDiff, Nat.reduceSub, Nat.reduceLT, ↓reduceIte, reduceCtorEq, List.reduceReplicate, List.flatten_cons, List.flatten_nil, List.append_nil, eq_self, Int.reduceLE, Int.reduceLT, Int.reduceToNat, Nat.min_eq_left, Int.reducePow, Int.reduceNeg, Int.reduceEq]
  refine callV_of (fmtInt_spec hg hn) ?_
  simp (dsimp := false) only [go_sem, Nat.reduceAdd, Nat.reduceEqDiff, Nat.reduceMul, Nat.reduceLeDiff, Nat.reduceSub, Nat.reduceLT, ↓reduceIte, reduceCtorEq, List.reduceReplicate, List.flatten_cons, List.flatten_nil, List.append_nil, eq_self, Int.reduceLE, Int.reduceLT, Int.reduceToNat, Nat.min_eq_left, Int.reducePow, Int.reduceNeg, Int.reduceEq]
  exact .inl ⟨rfl, rfl⟩
theorem itoa_spec {h : AHeap} (hg : PowV h) {n : Int} (hn : -9223372036854775808 ≤ n ∧ n ≤ 9223372036854775807) : Spec Tryd.prog nG fn.strconv_Itoa [.int .i64 n] h (.string (wholeS n)) h := by
  apply ir.strconv_Itoa.spec (Nat.le_of_ble_eq_true rfl)
  simp (dsimp := false) only [↓ir.strconv_Itoa.bw, ir.strconv_Itoa.rs, go_sem, Nat.reduceAdd, Nat.reduceEqDiff, Nat.reduceMul, Nat.reduceLeDiff, Nat.reduceSub, Nat.reduceLT, ↓reduceIte, reduceCtorEq, List.reduceReplicate, List.flatten_cons, List.flatten_nil, List.append_nil, eq_self, Int.reduceLE, Int.reduceLT, Int.reduceToNat, Nat.min_eq_left, Int.reducePow, Int.reduceNeg, Int.reduceEq]
  refine callV_of (itoa0_spec hg hn) ?_
  simp (dsimp := false) only [go_sem, Nat.reduceAdd, Nat.reduceEqDiff, Nat.reduceMul, Nat.reduceLeDiff, Nat.reduceSub, Nat.reduceLT, ↓reduceIte, reduceCtorEq, List.reduceReplicate, List.flatten_cons, List.flatten_nil, List.append_nil, eq_self, Int.reduceLE, Int.reduceLT, Int.reduceToNat, Nat.min_eq_left, Int.reducePow, Int.reduceNeg, Int.reduceEq]
  exact .inl ⟨rfl, rfl⟩
theorem formatInt_spec {h : AHeap} (hg : PowV h) {n : Int} (hn : -9223372036854775808 ≤ n ∧ n ≤ 9223372036854775807) : Spec Tryd.prog nG fn.strconv_FormatInt [.int .i64 n, .int .i64 10] h (.string (wholeS n)) h := by
  apply ir.strconv_FormatInt.spec (Nat.le_of_ble_eq_true rfl)
  simp (dsimp := false) only [↓ir.strconv_FormatInt.bw, ir.strconv_FormatInt.rs, go_sem, Nat.reduceAdd, Nat.reduceEqDiff, Nat.reduceMul, Nat.reduceLeDiff, Nat.reduceSub, Nat.reduceLT, ↓reduceIte, reduceCtorEq, List.reduceReplicate, List.flatten_cons, List.flatten_nil, List.append_nil, eq_self, Int.reduceLE, Int.reduceLT, Int.reduceToNat, Nat.min_eq_left, Int.reducePow, Int.reduceNeg, Int.reduceEq]
  refine callV_of (fmtInt_spec hg hn) ?_
  simp (dsimp := false) only [go_sem, Nat.reduceAdd, Nat.reduceEqDiff, Nat.reduceMul, Nat.reduceLeDiff, Nat.reduceSub, Nat.reduceLT, ↓reduceIte, reduceCtorEq, List.reduceReplicate, List.flatten_cons, List.flatten_nil, List.append_nil, eq_self, Int.reduceLE, Int.reduceLT, Int.reduceToNat, Nat.min_eq_left, Int.reducePow, Int.reduceNeg, Int.reduceEq]
  exact .inl ⟨rfl, rfl⟩
theorem formatUint_spec {h : AHeap} (hg : PowV h) {u : Nat} (hu : u < 18446744073709551616) : Spec Tryd.prog nG fn.strconv_FormatUint [.int .u64 (u : Int), .int .i64 10] h (.string (decS u)) h := by
  apply ir.strconv_FormatUint.spec (Nat.le_of_ble_eq_true rfl)
  simp (dsimp := false) only [↓ir.strconv_FormatUint.bw, ir.strconv_FormatUint.rs, go_sem, Nat.reduceAdd, Nat.reduceEqDiff, Nat.reduceMul, Nat.reduceLeDiff, Nat.reduceSub, Nat.reduceLT, ↓reduceIte, reduceCtorEq, List.reduceReplicate, List.flatten_cons, List.flatten_nil, List.append_nil, eq_self, Int.reduceLE, Int.reduceLT, Int.reduceToNat, Nat.min_eq_left, Int.reducePow, Int.reduceNeg, Int.reduceEq]
  refine callV_of (fmtUint_spec hg hu) ?_
  simp (dsimp := false) only [go_sem, Nat.reduceAdd, Nat.reduceEqDiff, Nat.reduceMul, Nat.reduceLeDiff, Nat.reduceSub, Nat.reduceLT, ↓reduceIte, reduceCtorEq, List.reduceReplicate, List.flatten_cons, List.flatten_nil, List.append_nil, eq_self, Int.reduceLE, Int.reduceLT, Int.reduceToNat, Nat.min_eq_left, Int.reducePow, Int.reduceNeg, Int.reduceEq]
  exact .inl ⟨rfl, rfl⟩
end Go.Proofs.YtoiihalnbdehkaaDoor.B
/-
  The document's numerals: Decimal and Whole.
-/
namespace Go.Proofs.YtoiihalnbdehkaaDoor.B
open Go
set_option linter.unusedVariables false
set_option linter.unusedSimpArgs false
theorem size_mk (a : Array UInt8) : (ByteArray.mk a).size = a.size := rfl
theorem Pre.two (h : AHeap) (a b : AObj) : Pre (h ++ [a]) (h ++ [a, b]) := ⟨[b], by simp⟩
theorem bts_rd {h : AHeap} {b off n cap : Nat} {l : List Int} (r : rds h b off n = some (l.map (Value.int .u8))) {K : Value → AHeap → Prop} {w : Hold K} :
    btsV (.slice (some ⟨b, off, none⟩) n cap) h K w = K (.string (bytesS l)) h := by
  cases n with
  | zero =>
    have := rds_len r
    have : l = [] := by simpa using this
    subst this; rfl
  | succ n => simp only [btsV, r, Option.bind_some, bytesA_map]
theorem dgI_small {u : Nat} (h : u < 10) : dgI u 0 = ((48 + u : Nat) : Int) := by
  unfold dgI
  rw [Nat.pow_zero, Nat.div_one, Nat.mod_eq_of_lt h, dB_lt h]
theorem dgI_zero (u : Nat) : dgI u 0 = ((48 + u % 10 : Nat) : Int) := by
  unfold dgI
  rw [Nat.pow_zero, Nat.div_one, dB_lt (by omega)]
theorem decimal_spec (h : AHeap) {u : Nat} (hu : u < 18446744073709551616) : Spec Tryd.prog nG fn.ref01_Decimal [.int .u64 (u : Int)] h (.string (decS u)) h := by
  apply ir.ref01_Decimal.spec (Nat.le_of_ble_eq_true rfl)
  simp (dsimp := false) only [↓ir.ref01_Decimal.bw, ir.ref01_Decimal.rs, go_sem, Nat.reduceAdd, Nat.reduceEqDiff, Nat.reduceMul, Nat.reduceLeDiff, Nat.reduceSub, Nat.reduceLT, ↓reduceIte, reduceCtorEq, List.reduceReplicate, List.flatten_cons, List.flatten_nil, List.append_nil, eq_self, Int.reduceLE, Int.reduceLT, Int.reduceToNat, Nat.min_eq_left, Int.reducePow, Int.reduceNeg, Int.reduceEq]
  refine loopV_of (fun m e h2 => ∃ (n : Nat) (s : ByteArray), m = n ∧ n ≤ u ∧ Pre h h2 ∧ decS u = decS n ++ s ∧ e = [(0, .int .u64 (n : Int)), (3, .string s)]) _ ⟨u, ⟨#[]⟩, rfl, Nat.le_refl _, .refl h, ByteArray.append_empty.symm, rfl⟩ ?_
  rintro m e h2 ⟨n, s, rfl, hn, hp, hd, rfl⟩
  have hsz : (decS m).size + s.size ≤ 20 := by
    have := decS_size hu
    rw [hd, ByteArray.size_append] at this; exact this
  have hs1 : ∀ x : Int, (bytesS [x]).size = 1 := fun x => bytesS_size _
  have hm64 : m < 18446744073709551616 := by omega
  have tm10 : (m : Int).tmod 10 = ((m % 10 : Nat) : Int) := tmN m 10
  have td10 : (m : Int).tdiv 10 = ((m / 10 : Nat) : Int) := tdN m 10
  simp (dsimp := false) only [↓ir.ref01_Decimal.l1.bw, go_sem, Nat.reduceAdd, Nat.reduceEqDiff, Nat.reduceMul, Nat.reduceLeDiff, Nat.reduceSub, Nat.reduceLT, ↓reduceIte, reduceCtorEq, List.reduceReplicate, List.flatten_cons, List.flatten_nil, List.append_nil, eq_self, Int.reduceLE, Int.reduceLT, Int.reduceToNat, Nat.min_eq_left, Int.reducePow, Int.reduceNeg, Int.reduceEq]
  refine cVd (fun c => ?_) (fun c => ?_)
  · have w1 : IntKind.u8.wrap (IntKind.u64.wrap (48 + ((m % 10 : Nat) : Int))) = dgI m 0 := by
      rw [show (48 : Int) + ((m % 10 : Nat) : Int) = ((48 + m % 10 : Nat) : Int) by omega, wrapU64 (by omega), wrapU8 (by omega), dgI_zero]
    have r1 : rds (h2 ++ [AObj.row (.grow 1) [.int .u8 (dgI m 0)]]) h2.length 0 1 = some ([dgI m 0].map (Value.int .u8)) := by simp [rds]
    have w2 := wrapU64 (show m / 10 < 18446744073709551616 by omega)
    simp (dsimp := false) only [go_sem, Nat.reduceAdd, Nat.reduceEqDiff, Nat.reduceMul, Nat.reduceLeDiff, Nat.reduceSub, Nat.reduceLT, ↓reduceIte, reduceCtorEq, List.reduceReplicate, List.flatten_cons, List.flatten_nil, List.append_nil, eq_self, Int.reduceLE, Int.reduceLT, Int.reduceToNat, Nat.min_eq_left, Int.reducePow, Int.reduceNeg, Int.reduceEq, tm10, td10, w1, w2, bts_rd r1, ne_eq, Int.reduceEq, not_false_eq_true, hs1]
    refine ⟨by omega, m / 10, by omega, m / 10, _, rfl, by omega, hp.app' _, ?_, rfl⟩
    rw [hd, decS_ge (by omega), ByteArray.append_assoc]
  · have w1 : IntKind.u8.wrap (IntKind.u64.wrap (48 + (m : Int))) = dgI m 0 := by
      rw [show (48 : Int) + (m : Int) = ((48 + m : Nat) : Int) by omega, wrapU64 (by omega), wrapU8 (by omega), dgI_small (by omega)]
    have r1 : rds (h2 ++ [AObj.row (.grow 1) [.int .u8 (dgI m 0)]]) h2.length 0 1 = some ([dgI m 0].map (Value.int .u8)) := by simp [rds]
    simp (dsimp := false) only [go_sem, Nat.reduceAdd, Nat.reduceEqDiff, Nat.reduceMul, Nat.reduceLeDiff, Nat.reduceSub, Nat.reduceLT, ↓reduceIte, reduceCtorEq, List.reduceReplicate, List.flatten_cons, List.flatten_nil, List.append_nil, eq_self, Int.reduceLE, Int.reduceLT, Int.reduceToNat, Nat.min_eq_left, Int.reducePow, Int.reduceNeg, Int.reduceEq, w1, bts_rd r1, hs1]
    refine ⟨by omega, ?_⟩
    obtain ⟨g, rfl⟩ := hp
    rw [hd, decS_lt (by omega), List.append_assoc]
    exact Fin.sc rfl rfl
theorem rwhole_spec (h : AHeap) {n : Int} (hn : -9223372036854775808 ≤ n ∧ n ≤ 9223372036854775807) : Spec Tryd.prog nG fn.ref01_Whole [.int .i64 n] h (.string (wholeS n)) h := by
  apply ir.ref01_Whole.spec (Nat.le_of_ble_eq_true rfl)
  simp (dsimp := false) only [↓ir.ref01_Whole.bw, ir.ref01_Whole.rs, go_sem, Nat.reduceAdd, Nat.reduceEqDiff, Nat.reduceMul, Nat.reduceLeDiff, Nat.reduceSub, Nat.reduceLT, ↓reduceIte, reduceCtorEq, List.reduceReplicate, List.flatten_cons, List.flatten_nil, List.append_nil, eq_self, Int.reduceLE, Int.reduceLT, Int.reduceToNat, Nat.min_eq_left, Int.reducePow, Int.reduceNeg, Int.reduceEq]
  refine cVd (fun c => ?_) (fun c => ?_)
  · obtain ⟨u, rfl⟩ : ∃ k : Nat, n = -(k : Int) := ⟨n.natAbs, by omega⟩
    have hw : wholeS (-(u : Int)) = bytesS [45] ++ decS u := by
      unfold wholeS; rw [if_pos (by omega)]; congr 2; omega
    have wu : IntKind.u64.wrap (0 - IntKind.u64.wrap (-(u : Int))) = (u : Int) := by
      unfold IntKind.wrap
      simp [IntKind.signed, IntKind.bits]; omega
    have hz := decS_size (u := u) (by omega)
    rw [hw]
    simp (dsimp := false) only [go_sem, Nat.reduceAdd, Nat.reduceEqDiff, Nat.reduceMul, Nat.reduceLeDiff, Nat.reduceSub, Nat.reduceLT, ↓reduceIte, reduceCtorEq, List.reduceReplicate, List.flatten_cons, List.flatten_nil, List.append_nil, eq_self, Int.reduceLE, Int.reduceLT, Int.reduceToNat, Nat.min_eq_left, Int.reducePow, Int.reduceNeg, Int.reduceEq, wu]
    refine callV_of (decimal_spec _ (by omega)) ?_
    have h1 : (⟨#[45]⟩ : ByteArray).size = 1 := rfl
    simp (dsimp := false) only [go_sem, Nat.reduceAdd, Nat.reduceEqDiff, Nat.reduceMul, Nat.reduceLeDiff, Nat.reduceSub, Nat.reduceLT, ↓reduceIte, reduceCtorEq, List.reduceReplicate, List.flatten_cons, List.flatten_nil, List.append_nil, eq_self, Int.reduceLE, Int.reduceLT, Int.reduceToNat, Nat.min_eq_left, Int.reducePow, Int.reduceNeg, Int.reduceEq, h1]
    exact ⟨by omega, .inl ⟨rfl, rfl⟩⟩
  · obtain ⟨u, rfl⟩ : ∃ k : Nat, n = k := ⟨n.toNat, by omega⟩
    rw [wholeS_nat]
    simp (dsimp := false) only [go_sem, Nat.reduceAdd, Nat.reduceEqDiff, Nat.reduceMul, Nat.reduceLeDiff, Nat.reduceSub, Nat.reduceLT, ↓reduceIte, reduceCtorEq, List.reduceReplicate, List.flatten_cons, List.flatten_nil, List.append_nil, eq_self, Int.reduceLE, Int.reduceLT, Int.reduceToNat, Nat.min_eq_left, Int.reducePow, Int.reduceNeg, Int.reduceEq, wrapU64 (show u < 18446744073709551616 by omega)]
    refine callV_of (decimal_spec _ (by omega)) ?_
    simp (dsimp := false) only [go_sem, Nat.reduceAdd, Nat.reduceEqDiff, Nat.reduceMul, Nat.reduceLeDiff, Nat.reduceSub, Nat.reduceLT, ↓reduceIte, reduceCtorEq, List.reduceReplicate, List.flatten_cons, List.flatten_nil, List.append_nil, eq_self, Int.reduceLE, Int.reduceLT, Int.reduceToNat, Nat.min_eq_left, Int.reducePow, Int.reduceNeg, Int.reduceEq]
    exact .inl ⟨rfl, rfl⟩
end Go.Proofs.YtoiihalnbdehkaaDoor.B
