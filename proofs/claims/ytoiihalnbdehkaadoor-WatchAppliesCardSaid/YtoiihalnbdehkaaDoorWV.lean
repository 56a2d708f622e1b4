/-
  What the rows of layer 34 share: events.
-/
import Derived.Test.YtoiihalnbdehkaaDoorWS
import Derived.Test.YtoiihalnbdehkaaDoorVe
namespace Go.Proofs.YtoiihalnbdehkaaDoor.B
open Go Go.ChangeShapes Go.WideShapes Go.RowKit
set_option linter.unusedVariables false
abbrev keySh : Sh := .fld 1 (.int .u32) (.fld 1 (.int .u32) (.fld 1 (.int .i64) .nil))
abbrev hopSh : Sh := .fld 1 (.int .i64) (.fld 1 (.int .i64) (.fld 1 (.int .i64) .nil))
abbrev evSh : Sh := .fld 1 (.int .i64) (.fld 1 (.int .i64) (.fld 3 keySh (.fld 1 (.int .u64) (.fld 1 (.int .i64) (.fld 3 hopSh .nil)))))
theorem ev_cells {h : AHeap} {c : List Value} (hl : c.length = 10) (k : evSh.ok h c) : ∃ x : EvR, c = x.c ∧ x.ok := by
  obtain ⟨⟨a0, h0, w0⟩, ⟨a1, h1, w1⟩, ⟨⟨a2, h2, w2⟩, ⟨a3, h3, w3⟩, ⟨a4, h4, w4⟩, _⟩, ⟨a5, h5, w5⟩, ⟨a6, h6, w6⟩, ⟨⟨a7, h7, w7⟩, ⟨a8, h8, w8⟩, ⟨a9, h9, w9⟩, _⟩, _⟩ := k
  match c, hl with
  | [c0, c1, c2, c3, c4, c5, c6, c7, c8, c9], _ =>
    simp at h0 h1 h2 h3 h4 h5 h6 h7 h8 h9
    subst h0 h1 h2 h3 h4 h5 h6 h7 h8 h9
    obtain ⟨e, rfl, he⟩ := wf_nat w2 rfl (m := 4294967295) rfl
    obtain ⟨s, rfl, hs⟩ := wf_nat w3 rfl (m := 4294967295) rfl
    obtain ⟨b, rfl, hb⟩ := wf_nat w5 rfl (m := 18446744073709551615) rfl
    exact ⟨⟨a0, a1, e, s, a4, b, a6, a7, a8, a9⟩, rfl, ⟨wf_i64 w1, show e < 4294967296 by omega, show s < 4294967296 by omega, wf_i64 w4, show b < 18446744073709551616 by omega, wf_i64 w6, wf_i64 w7, wf_i64 w8, wf_i64 w9⟩⟩
theorem opEv {W : World} {v : Value} (hv : ∃ cs, v = .agg cs ∧ cs.size = 10) (k : evSh.ok (absH W) (v.cells.toList.map (abs1 W.heap.size))) : ∃ x : EvR, absV W.heap.size v = .agg ⟨x.c⟩ ∧ x.ok := by
  obtain ⟨cs, rfl, hsz⟩ := hv
  obtain ⟨x, h1, h2⟩ := ev_cells (by simpa [Value.cells] using hsz) k
  refine ⟨x, ?_, h2⟩
  show Value.agg _ = _
  congr 1
  apply Array.toList_inj.1
  rw [Array.toList_map]
  exact h1
end Go.Proofs.YtoiihalnbdehkaaDoor.B
