/-
  What the row of a nil vow asks: a key.
-/
import Derived.Test.YtpnpccnbpgckhabGreatRows
import Derived.Test.YtpnpccnbpgckhabGreatAbQ
import Derived.Test.YtpnpccnbpgckhabGreatVc
import Derived.OpenShut
import Derived.ShutString
import Derived.Lib.SmallJoins
namespace Go.Proofs.YtpnpccnbpgckhabGreat.B
open Go Go.ChangeShapes Go.WideShapes Go.RowKit
set_option linter.unusedVariables false
theorem own : ownKnob Tryz.prog.godebug = none := by kernel_rfl
theorem laidOut : laidOutB Tryz.prog = true := by kernel_rfl
abbrev keySh : Sh := .fld 1 (.int .u32) (.fld 1 (.int .u32) (.fld 1 (.int .i64) .nil))
theorem key_cells {h : AHeap} {c : List Value} (hl : c.length = 3) (k : keySh.ok h c) : ∃ e s m, c = [.int .u32 e, .int .u32 s, .int .i64 m] := by
  obtain ⟨⟨e, h1, _⟩, ⟨s, h2, _⟩, ⟨m, h3, _⟩, _⟩ := k
  match c, hl with
  | [x, y, z], _ =>
    simp at h1 h2 h3
    subst h1 h2 h3
    exact ⟨e, s, m, rfl⟩
section
variable {P : Program} {W : World} {base : Nat} {t : TypeId} {v : Value}
theorem opK (hv : ∃ cs, v = .agg cs ∧ cs.size = 3) (k : keySh.ok (absH W) (v.cells.toList.map (abs1 W.heap.size))) : ∃ e s m, absV W.heap.size v = keyV e s m := by
  obtain ⟨cs, rfl, hsz⟩ := hv
  obtain ⟨e, s, m, h1⟩ := key_cells (by simpa [Value.cells] using hsz) k
  refine ⟨e, s, m, ?_⟩
  show Value.agg _ = _
  congr 1
  apply Array.toList_inj.1
  rw [Array.toList_map]
  exact h1
end
end Go.Proofs.YtpnpccnbpgckhabGreat.B
