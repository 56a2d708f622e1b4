/-
  What the row of ConfigReads needs: a text, and the variables.
-/
import Derived.Test.YtoiihalnbdehkaaDoorWR
import Derived.Test.YtoiihalnbdehkaaDoorCf
namespace Go.Proofs.YtoiihalnbdehkaaDoor.B
open Go Go.ChangeShapes Go.WideShapes Go.RowKit
set_option linter.unusedVariables false
variable {P : Program} {W : World} {base : Nat} {v : Value} {t : TypeId}
theorem opT2 (hu : P.underlying t = some .string) (hv : Value.okWide P W .any base t v) (k : Sh.str.ok (absH W) (v.cells.toList.map (abs1 W.heap.size))) : ∃ s : ByteArray, absV W.heap.size v = .string s ∧ s.size ≤ 140737488351232 := by
  obtain ⟨s, rfl⟩ := okWide_string hu hv
  obtain ⟨m, h1, h2⟩ := k
  have : s = m := by simpa [Value.cells, abs1] using h1
  subst this
  exact ⟨s, rfl, h2⟩
structure CfgV (h : AHeap) : Prop where
  pow : h[gv.internal_strconv_uint64pow10]? = some (.row .ro powRow)
  syn : ∃ te, h[gv.strconv_ErrSyntax]? = some (.row .ro [.iface te undef])
  rng : ∃ te, h[gv.strconv_ErrRange]? = some (.row .ro [.iface te undef])
theorem CfgV.errV {h : AHeap} (k : CfgV h) : ErrV h := ⟨let ⟨te, q⟩ := k.syn; ⟨_, te, q⟩, let ⟨te, q⟩ := k.rng; ⟨_, te, q⟩⟩
end Go.Proofs.YtoiihalnbdehkaaDoor.B
