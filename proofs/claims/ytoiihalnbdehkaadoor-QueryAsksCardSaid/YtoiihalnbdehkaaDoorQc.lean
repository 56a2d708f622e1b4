/-
  Layer 26: what a source tells, asked behind an interface value.
-/
import Derived.Test.YtoiihalnbdehkaaDoorQa
import Derived.Test.YtoiihalnbdehkaaDoorQb
import Derived.Test.YtoiihalnbdehkaaDoorQk
namespace Go.Proofs.YtoiihalnbdehkaaDoor.B
open Go
set_option linter.unusedVariables false
set_option linter.unusedSimpArgs false
set_option maxRecDepth 100000
abbrev i64ok (n : Int) : Prop := -9223372036854775808 ≤ n ∧ n ≤ 9223372036854775807
/-- A key's text. -/
def keyS (e s : Nat) (m : Int) : ByteArray := decS e ++ ⟨#[46]⟩ ++ decS s ++ ⟨#[47]⟩ ++ wholeS m
theorem keyS_size {e s : Nat} {m : Int} (he : e < 4294967296) (hs : s < 4294967296) (hm : i64ok m) : (keyS e s m).size ≤ 63 := by
  have h1 := decS_size (u := e) (by omega)
  have h2 := decS_size (u := s) (by omega)
  have h3 := wholeS_size hm
  unfold keyS
  simp only [ByteArray.size_append, size_mk, List.size_toArray, List.length_cons, List.length_nil]
  omega
theorem rankText_spec {h : AHeap} (hg : PowV h) {e s : Nat} {m : Int} (he : e < 4294967296) (hs : s < 4294967296) (hm : i64ok m) : Spec Tryd.prog nG fn.rank_Text [.agg #[.int .u32 e, .int .u32 s, .int .i64 m]] h (.string (keyS e s m)) h := by
  apply ir.rank_Text.spec (Nat.le_of_ble_eq_true rfl)
  have h1 := decS_size (u := e) (by omega)
  have h2 := decS_size (u := s) (by omega)
  have h3 := wholeS_size hm
  have w1 := wrapU64 (show e < 18446744073709551616 by omega)
  have w2 := wrapU64 (show s < 18446744073709551616 by omega)
  have hg2 : ∀ g, PowV (h ++ g) := fun g => hg.pre (.app _ _)
  simp (dsimp := false) only [↓ir.rank_Text.bw, ir.rank_Text.rs, go_sem, Nat.reduceAdd, Nat.reduceEqDiff, Nat.reduceMul, Nat.reduceLeDiff, Nat.reduceSub, Nat.reduceLT, ↓reduceIte, reduceCtorEq, List.reduceReplicate, List.flatten_cons, List.flatten_nil, List.append_nil, eq_self, Int.reduceLE, Int.reduceLT, Int.reduceToNat, Nat.min_eq_left, Int.reducePow, Int.reduceNeg, Int.reduceEq, w1]
  refine callV_of (formatUint_spec (hg2 _) (by omega)) ?_
  simp (dsimp := false) only [go_sem, Nat.reduceAdd, Nat.reduceEqDiff, Nat.reduceMul, Nat.reduceLeDiff, Nat.reduceSub, Nat.reduceLT, ↓reduceIte, reduceCtorEq, List.reduceReplicate, List.flatten_cons, List.flatten_nil, List.append_nil, eq_self, Int.reduceLE, Int.reduceLT, Int.reduceToNat, Nat.min_eq_left, Int.reducePow, Int.reduceNeg, Int.reduceEq, w2]
  refine ⟨by simp only [ByteArray.size_append, size_mk, List.size_toArray, List.length_cons, List.length_nil]; omega, ?_⟩
  refine callV_of (formatUint_spec (hg2 _) (by omega)) ?_
  simp (dsimp := false) only [go_sem, Nat.reduceAdd, Nat.reduceEqDiff, Nat.reduceMul, Nat.reduceLeDiff, Nat.reduceSub, Nat.reduceLT, ↓reduceIte, reduceCtorEq, List.reduceReplicate, List.flatten_cons, List.flatten_nil, List.append_nil, eq_self, Int.reduceLE, Int.reduceLT, Int.reduceToNat, Nat.min_eq_left, Int.reducePow, Int.reduceNeg, Int.reduceEq]
  refine ⟨by simp only [ByteArray.size_append, size_mk, List.size_toArray, List.length_cons, List.length_nil]; omega, ?_⟩
  refine ⟨by simp only [ByteArray.size_append, size_mk, List.size_toArray, List.length_cons, List.length_nil]; omega, ?_⟩
  refine callV_of (itoa_spec (hg2 _) hm) ?_
  simp (dsimp := false) only [go_sem, Nat.reduceAdd, Nat.reduceEqDiff, Nat.reduceMul, Nat.reduceLeDiff, Nat.reduceSub, Nat.reduceLT, ↓reduceIte, reduceCtorEq, List.reduceReplicate, List.flatten_cons, List.flatten_nil, List.append_nil, eq_self, Int.reduceLE, Int.reduceLT, Int.reduceToNat, Nat.min_eq_left, Int.reducePow, Int.reduceNeg, Int.reduceEq]
  refine ⟨by simp only [ByteArray.size_append, size_mk, List.size_toArray, List.length_cons, List.length_nil]; omega, ?_⟩
  exact Fin.sc rfl rfl
theorem to01_spec (h : AHeap) (e s m : Int) : Spec Tryd.prog nG fn.law01_To [.agg #[.int .u32 e, .int .u32 s, .int .i64 m]] h (.agg #[.int .u32 e, .int .u32 s, .int .i64 m]) h := by
  apply ir.law01_To.spec (Nat.le_of_ble_eq_true rfl)
  simp (dsimp := false) only [↓ir.law01_To.bw, ir.law01_To.rs, go_sem, Nat.reduceAdd, Nat.reduceEqDiff, Nat.reduceMul, Nat.reduceLeDiff, Nat.reduceSub, Nat.reduceLT, ↓reduceIte, reduceCtorEq, List.reduceReplicate, List.flatten_cons, List.flatten_nil, List.append_nil, eq_self, Int.reduceLE, Int.reduceLT, Int.reduceToNat, Nat.min_eq_left, Int.reducePow, Int.reduceNeg, Int.reduceEq]
  exact Fin.agg rfl rfl
abbrev keyC (e s : Nat) (m : Int) : List Value := [.int .u32 (e : Int), .int .u32 (s : Int), .int .i64 m]
theorem qnumber_spec (h : AHeap) {d : Nat} {c : UInt8} (hd : d < 8) (hc : c.toNat = 48 + d) : Spec Tryd.prog nG fn.query_number [.string ⟨#[c]⟩] h (.tuple #[.int .i64 (d : Int), .bool true]) h := by
  apply ir.query_number.spec (Nat.le_of_ble_eq_true rfl)
  have hs : (((#[c] : Array UInt8).size : Nat) : Int) = 1 := rfl
  have g0 : (⟨#[c]⟩ : ByteArray)[0]? = some c := rfl
  have b0 : ((1 : Int) != 1) = false := rfl
  have d1 : decide ((c.toNat : Int) < 48) = false := decide_eq_false (by omega)
  have d2 : decide ((c.toNat : Int) > 55) = false := decide_eq_false (by omega)
  simp (dsimp := false) only [↓ir.query_number.bw, ir.query_number.rs, go_sem, Nat.reduceAdd, Nat.reduceEqDiff, Nat.reduceMul, Nat.reduceLeDiff, Nat.reduceSub, Nat.reduceLT, ↓reduceIte, reduceCtorEq, List.reduceReplicate, List.flatten_cons, List.flatten_nil, List.append_nil, eq_self, Int.reduceLE, Int.reduceLT, Int.reduceToNat, Nat.min_eq_left, Int.reducePow, Int.reduceNeg, Int.reduceEq, hs, b0, ixstrV_str, Int.toNat_zero, g0, d1, d2]
  have w : IntKind.i64.wrap (IntKind.u8.wrap ((c.toNat : Int) - 48)) = (d : Int) := by
    rw [hc]
    match d, hd with
    | 0, _ | 1, _ | 2, _ | 3, _ | 4, _ | 5, _ | 6, _ | 7, _ => rfl
  rw [w]
  exact .inl ⟨rfl, rfl⟩
end Go.Proofs.YtoiihalnbdehkaaDoor.B
