/-
  What the rows of layer 24 share: a text as an argument.
-/
import Derived.Test.YtoiihalnbdehkaaDoorWS
namespace Go.Proofs.YtoiihalnbdehkaaDoor.B
open Go Go.ChangeShapes Go.WideShapes Go.RowKit
set_option linter.unusedVariables false
variable {P : Program} {W : World} {base : Nat} {v : Value} {t : TypeId}
theorem opT (hu : P.underlying t = some .string) (hv : Value.okWide P W .any base t v) : ∃ s, absV W.heap.size v = .string s := by
  obtain ⟨s, rfl⟩ := okWide_string hu hv
  exact ⟨s, rfl⟩
end Go.Proofs.YtoiihalnbdehkaaDoor.B
