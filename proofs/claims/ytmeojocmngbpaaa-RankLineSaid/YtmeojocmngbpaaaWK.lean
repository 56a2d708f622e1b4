/-
  What the rows share: arguments that are numbers, keys, slices of keys.
-/
import Derived.Test.YtmeojocmngbpaaaRows
import Derived.Test.YtmeojocmngbpaaaAbQ
import Derived.Test.YtmeojocmngbpaaaL01d
import Derived.OpenShut
import Derived.ShutString
import Derived.Lib.SmallJoins
namespace Go.Proofs.Ytmeojocmngbpaaa.B
open Go Go.ChangeShapes Go.WideShapes Go.RowKit
set_option linter.unusedVariables false
theorem own : ownKnob Try.prog.godebug = none := by kernel_rfl
theorem laidOut : laidOutB Try.prog = true := by kernel_rfl

section
variable {W : World} {base : Nat} {v : Value} {t : TypeId}
abbrev keySh : Sh := .fld 1 (.int .u32) (.fld 1 (.int .u32) (.fld 1 (.int .i64) .nil))
theorem key_cells {h : AHeap} {c : List Value} (hl : c.length = 3) (k : keySh.ok h c) : ∃ a : K3, isK c a ∧ 0 ≤ a.e ∧ 0 ≤ a.s := by
  obtain ⟨⟨e, h1, w1⟩, ⟨s, h2, w2⟩, ⟨m, h3, w3⟩, _⟩ := k
  match c, hl with
  | [x, y, z], _ =>
    simp at h1 h2 h3
    subst h1 h2 h3
    exact ⟨⟨e, s, m⟩, rfl, wf_nonneg w1 rfl, wf_nonneg w2 rfl⟩
theorem opK (hv : ∃ cs, v = .agg cs ∧ cs.size = 3) (k : keySh.ok (absH W) (v.cells.toList.map (abs1 W.heap.size))) : ∃ e s m, absV W.heap.size v = keyV e s m ∧ 0 ≤ e ∧ 0 ≤ s := by
  obtain ⟨cs, rfl, hsz⟩ := hv
  obtain ⟨a, h1, h2, h3⟩ := key_cells (by simpa [Value.cells] using hsz) k
  refine ⟨a.e, a.s, a.m, ?_, h2, h3⟩
  show Value.agg _ = _
  congr 1
  apply Array.toList_inj.1
  rw [Array.toList_map]
  exact h1
end
end Go.Proofs.Ytmeojocmngbpaaa.B
