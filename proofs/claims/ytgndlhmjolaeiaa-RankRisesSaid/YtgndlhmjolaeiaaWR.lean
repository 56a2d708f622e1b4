/-
  What the rows of floors share: a list of steps.
-/
import Derived.Test.YtgndlhmjolaeiaaRows
import Derived.Test.YtgndlhmjolaeiaaAbQ
import Derived.Test.YtgndlhmjolaeiaaR2
import Derived.OpenShut
import Derived.ShutString
import Derived.Lib.SmallJoins
namespace Go.Proofs.Ytgndlhmjolaeiaa.B
open Go Go.ChangeShapes Go.WideShapes Go.RowKit
set_option linter.unusedVariables false
theorem own : ownKnob Try.prog.godebug = none := by kernel_rfl
theorem laidOut : laidOutB Try.prog = true := by kernel_rfl
abbrev keySh : Sh := .fld 1 (.int .u32) (.fld 1 (.int .u32) (.fld 1 (.int .i64) .nil))
abbrev opSh : Sh := .fld 1 (.int .i64) (.fld 3 keySh .nil)
theorem op_cells {h : AHeap} {c : List Value} (hl : c.length = 4) (k : opSh.ok h c) : ∃ a : OpR, isOp c a := by
  obtain ⟨⟨d, h0, _⟩, ⟨⟨e, h1, _⟩, ⟨s, h2, _⟩, ⟨m, h3, _⟩, _⟩, _⟩ := k
  match c, hl with
  | [w, x, y, z], _ =>
    simp at h0 h1 h2 h3
    subst h0 h1 h2 h3
    exact ⟨⟨d, e, s, m⟩, rfl⟩
end Go.Proofs.Ytgndlhmjolaeiaa.B
