/-
  What the row of RankTexts needs: a key and a text.
-/
import Derived.Test.YtoiihalnbdehkaaDoorWC
import Derived.Test.YtoiihalnbdehkaaDoorK6
namespace Go.Proofs.YtoiihalnbdehkaaDoor.B
open Go Go.ChangeShapes Go.WideShapes Go.RowKit
set_option linter.unusedVariables false
variable {P : Program} {W : World} {base : Nat} {v : Value} {t : TypeId}
theorem opKey (hv : ∃ cs, v = .agg cs ∧ cs.size = 3) (k : (Sh.fld 1 (.int .u32) (.fld 1 (.int .u32) (.fld 1 (.int .i64) .nil))).ok (absH W) (v.cells.toList.map (abs1 W.heap.size))) :
    ∃ (e s : Nat) (m : Int), absV W.heap.size v = .agg #[.int .u32 (e : Int), .int .u32 (s : Int), .int .i64 m] ∧ e < 4294967296 ∧ s < 4294967296 ∧ i64ok m := by
  obtain ⟨cs, rfl, hsz⟩ := hv
  obtain ⟨⟨e, h1, w1⟩, ⟨s, h2, w2⟩, ⟨m, h3, w3⟩, _⟩ := k
  obtain ⟨e, rfl, he⟩ := wf_nat w1 rfl (m := 4294967295) rfl
  obtain ⟨s, rfl, hs⟩ := wf_nat w2 rfl (m := 4294967295) rfl
  refine ⟨e, s, m, ?_, by omega, by omega, wf_i64 w3⟩
  show Value.agg _ = _
  congr 1
  apply Array.toList_inj.1
  rw [Array.toList_map]
  have : (Value.cells (.agg cs)).toList.map (abs1 W.heap.size) = [.int .u32 (e : Int), .int .u32 (s : Int), .int .i64 m] := by
    have hl : ((Value.cells (.agg cs)).toList.map (abs1 W.heap.size)).length = 3 := by simpa [Value.cells] using hsz
    match hc : (Value.cells (.agg cs)).toList.map (abs1 W.heap.size), hl with
    | [x, y, z], _ =>
      rw [hc] at h1 h2 h3
      simp at h1 h2 h3
      rw [h1, h2, h3]
  exact this
theorem opT2 (hu : P.underlying t = some .string) (hv : Value.okWide P W .any base t v) (k : Sh.str.ok (absH W) (v.cells.toList.map (abs1 W.heap.size))) : ∃ s : ByteArray, absV W.heap.size v = .string s ∧ s.size ≤ 140737488351232 := by
  obtain ⟨s, rfl⟩ := okWide_string hu hv
  obtain ⟨m, h1, h2⟩ := k
  have : s = m := by simpa [Value.cells, abs1] using h1
  subst this
  exact ⟨s, rfl, h2⟩
end Go.Proofs.YtoiihalnbdehkaaDoor.B
