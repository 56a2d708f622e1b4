/-
  What the row of CountPlays needs: steps.
-/
import Derived.Test.YtgndlhmjolaeiaaDoorWC
import Derived.Test.YtgndlhmjolaeiaaDoorC7
namespace Go.Proofs.YtgndlhmjolaeiaaDoor.B
open Go Go.ChangeShapes Go.WideShapes Go.RowKit
set_option linter.unusedVariables false
theorem op_cells {h : AHeap} {c : List Value} (hl : c.length = 2) (k : (Sh.fld 1 (.int .i64) (.fld 1 (.int .i64) .nil)).ok h c) : ∃ a : Int × Int, isOp c a := by
  obtain ⟨⟨e, h1, w1⟩, ⟨s, h2, w2⟩, _⟩ := k
  match c, hl with
  | [x, y], _ =>
    simp at h1 h2
    subst h1 h2
    exact ⟨⟨e, s⟩, rfl⟩
end Go.Proofs.YtgndlhmjolaeiaaDoor.B
