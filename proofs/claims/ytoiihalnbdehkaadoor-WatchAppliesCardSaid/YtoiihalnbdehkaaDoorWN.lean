/-
  What the rows of layer 34 share: views.
-/
import Derived.Test.YtoiihalnbdehkaaDoorWV
import Derived.Test.YtoiihalnbdehkaaDoorV8
namespace Go.Proofs.YtoiihalnbdehkaaDoor.B
open Go Go.ChangeShapes Go.WideShapes Go.RowKit
set_option linter.unusedVariables false
abbrev nodeSh : Sh := .fld 1 .bool (.fld 1 (.int .u64) (.fld 3 keySh (.fld 1 (.int .u8) (.fld 1 (.slice 3 24 hopSh) .nil))))
theorem hopR_cells {h : AHeap} {c : List Value} (hl : c.length = 3) (k : hopSh.ok h c) : ∃ a : HopR, isHR c a := by
  obtain ⟨⟨e, h1, w1⟩, ⟨s, h2, w2⟩, ⟨m, h3, w3⟩, _⟩ := k
  match c, hl with
  | [x, y, z], _ =>
    simp at h1 h2 h3
    subst h1 h2 h3
    exact ⟨⟨e, s, m⟩, rfl⟩
theorem node_cells {h : AHeap} {c : List Value} (hl : c.length = 7) (k : nodeSh.ok h c) : ∃ x : NodeR, isNR h c x ∧ x.ok ∧ FitsR x.hops := by
  obtain ⟨⟨up, h0⟩, ⟨a1, h1, w1⟩, ⟨⟨a2, h2, w2⟩, ⟨a3, h3, w3⟩, ⟨a4, h4, w4⟩, _⟩, ⟨a5, h5, w5⟩, k6, _⟩ := k
  match c, hl with
  | [c0, c1, c2, c3, c4, c5, c6], _ =>
    obtain ⟨tv, l, e6, t1, t2⟩ := Sh.ls (fun c h1 h2 => hopR_cells h1 h2) k6
    simp at h0 h1 h2 h3 h4 h5 e6
    subst h0 h1 h2 h3 h4 h5 e6
    obtain ⟨b, rfl, hb⟩ := wf_nat w1 rfl (m := 18446744073709551615) rfl
    obtain ⟨e, rfl, he⟩ := wf_nat w2 rfl (m := 4294967295) rfl
    obtain ⟨s, rfl, hs⟩ := wf_nat w3 rfl (m := 4294967295) rfl
    obtain ⟨v, rfl, hv⟩ := wf_nat w5 rfl (m := 255) rfl
    exact ⟨⟨up, b, e, s, a4, v, l⟩, ⟨_, rfl, t1⟩, ⟨show b < 18446744073709551616 by omega, show e < 4294967296 by omega, show s < 4294967296 by omega, show v < 256 by omega⟩, t2⟩
abbrev viewSh : Sh := .fld 1 (.int .i64) (.fld 1 (.slice 7 64 nodeSh) .nil)
theorem opView {W : World} {v : Value} (hv : ∃ cs, v = .agg cs ∧ cs.size = 2) (k : viewSh.ok (absH W) (v.cells.toList.map (abs1 W.heap.size))) :
    ∃ (t : Int) (u : Value) (l : List NodeR), absV W.heap.size v = .agg #[.int .i64 t, u] ∧ Ls (absH W) 7 (isNR (absH W)) u l ∧ ∀ x ∈ l, x.ok ∧ FitsR x.hops := by
  obtain ⟨cs, rfl, hsz⟩ := hv
  obtain ⟨⟨t, h0, w0⟩, k1, _⟩ := k
  obtain ⟨u, l, e1, t1, t2⟩ := Sh.ls (R := fun c x => isNR (absH W) c x ∧ (x.ok ∧ FitsR x.hops)) (fun c h1 h2 => node_cells h1 h2) k1
  refine ⟨t, u, l, ?_, t1.mono fun c a q => q.1, ?_⟩
  · show Value.agg _ = _
    congr 1
    apply Array.toList_inj.1
    rw [Array.toList_map]
    have : (Value.cells (.agg cs)).toList.map (abs1 W.heap.size) = [.int .i64 t, u] := by
      have hl : ((Value.cells (.agg cs)).toList.map (abs1 W.heap.size)).length = 2 := by simpa [Value.cells] using hsz
      match hc : (Value.cells (.agg cs)).toList.map (abs1 W.heap.size), hl with
      | [x, y], _ =>
        rw [hc] at h0 e1
        simp at h0 e1
        rw [h0, e1]
    exact this
  · intro x hx
    obtain ⟨cs', _, hq⟩ := t1
    obtain ⟨i, hi, rfl⟩ := List.getElem_of_mem hx
    exact (hq i hi).2
end Go.Proofs.YtoiihalnbdehkaaDoor.B
