/-
  Layer 34: events.
-/
import Derived.Test.YtoiihalnbdehkaaDoorV1
namespace Go.Proofs.YtoiihalnbdehkaaDoor.B
open Go
set_option linter.unusedVariables false
set_option linter.unusedSimpArgs false
abbrev i64ok (m : Int) : Prop := -9223372036854775808 ≤ m ∧ m ≤ 9223372036854775807
/-- An event: what, node, key, boot, peer, hop. -/
structure EvR where
  w : Int
  node : Int
  e : Nat
  s : Nat
  m : Int
  boot : Nat
  peer : Int
  d : Int
  n : Int
  t : Int
abbrev EvR.c (x : EvR) : List Value := [.int .i64 x.w, .int .i64 x.node, .int .u32 x.e, .int .u32 x.s, .int .i64 x.m, .int .u64 x.boot, .int .i64 x.peer, .int .i64 x.d, .int .i64 x.n, .int .i64 x.t]
structure EvR.ok (x : EvR) : Prop where
  node : i64ok x.node
  e : x.e < 4294967296
  s : x.s < 4294967296
  m : i64ok x.m
  boot : x.boot < 18446744073709551616
  peer : i64ok x.peer
  d : i64ok x.d
  n : i64ok x.n
  t : i64ok x.t
theorem to01_spec (h : AHeap) (e s m : Int) : Spec Tryd.prog nG fn.law01_To [.agg #[.int .u32 e, .int .u32 s, .int .i64 m]] h (.agg #[.int .u32 e, .int .u32 s, .int .i64 m]) h := by
  apply ir.law01_To.spec (Nat.le_of_ble_eq_true rfl)
  simp (dsimp := false) only [↓ir.law01_To.bw, ir.law01_To.rs, go_sem, Nat.reduceAdd, Nat.reduceEqDiff, Nat.reduceMul, Nat.reduceLeDiff, Nat.reduceSub, Nat.reduceLT, ↓reduceIte, reduceCtorEq, List.reduceReplicate, List.flatten_cons, List.flatten_nil, List.append_nil, eq_self, Int.reduceLE, Int.reduceLT, Int.reduceToNat, Nat.min_eq_left, Int.reducePow, Int.reduceNeg, Int.reduceEq]
  exact Fin.agg rfl rfl
end Go.Proofs.YtoiihalnbdehkaaDoor.B
