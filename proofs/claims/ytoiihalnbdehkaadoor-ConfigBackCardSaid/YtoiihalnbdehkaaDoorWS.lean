/-
  What the cards' rows share.
-/
import Derived.Test.YtoiihalnbdehkaaDoorWL
import Derived.Test.YtoiihalnbdehkaaDoorIrS
namespace Go.Proofs.YtoiihalnbdehkaaDoor.B
open Go Go.ChangeShapes Go.WideShapes Go.RowKit
set_option linter.unusedVariables false
theorem own : ownKnob Tryd.prog.godebug = none := by kernel_rfl
theorem laidOut : laidOutB Tryd.prog = true := by kernel_rfl
theorem wf_nat {k : IntKind} {n : Int} {m : Int} (h : (Lit.int k n).wf = true) (hk : k.min = 0) (hm : k.max = m) : ∃ u : Nat, n = u ∧ (u : Int) ≤ m := by
  simp only [Lit.wf, Bool.and_eq_true, decide_eq_true_eq] at h
  exact ⟨n.toNat, by omega, by omega⟩
theorem wf_i64 {n : Int} (h : (Lit.int .i64 n).wf = true) : -9223372036854775808 ≤ n ∧ n ≤ 9223372036854775807 := by
  simp only [Lit.wf, Bool.and_eq_true, decide_eq_true_eq] at h
  have h1 : IntKind.i64.min = -9223372036854775808 := rfl
  have h2 : IntKind.i64.max = 9223372036854775807 := rfl
  exact ⟨by omega, by omega⟩
end Go.Proofs.YtoiihalnbdehkaaDoor.B
