/-
  What the rows of layer 32 share: networks, small numbers.
-/
import Derived.Test.YtmeojocmngbpaaaDoorWF
import Derived.Test.YtmeojocmngbpaaaDoorP6
namespace Go.Proofs.YtmeojocmngbpaaaDoor.B
open Go Go.ChangeShapes Go.WideShapes Go.RowKit
set_option linter.unusedVariables false
abbrev netSh : Sh := .fld 1 (.slice 1 24 (.slice 3 24 hopSh)) (.fld 1 (.slice 1 1 .bool) (.fld 1 (.slice 1 1 .bool) (.fld 1 (.slice 1 24 (.slice 1 1 .bool)) .nil)))
theorem row_cells {h : AHeap} {c : List Value} (hl : c.length = 1) (k : (Sh.slice 1 1 .bool).ok h c) : ∃ r : List Bool, isR h c r := by
  obtain ⟨v, l, rfl, h1, h2⟩ := Sh.ls (R := isB) (fun c h1 (h2 : Sh.bool.ok h c) => h2) k
  exact ⟨l, v, rfl, h1⟩
theorem net_cells {h : AHeap} {c : List Value} (hl : c.length = 4) (k : netSh.ok h c) : ∃ tv hv uv kv N, c = [tv, hv, uv, kv] ∧ NetV h tv hv uv kv N ∧ ∀ t ∈ N.T, Fits t := by
  obtain ⟨k1, k2, k3, k4, _⟩ := k
  match c, hl with
  | [x, y, z, w], _ =>
    simp only [List.take_succ_cons, List.take_zero, List.drop_succ_cons, List.drop_zero] at k1 k2 k3 k4
    obtain ⟨_, T, e1, t1, _⟩ := Sh.ls (R := fun c t => isT h c t ∧ Fits t) (fun c h1 h2 => table_cells h1 h2) k1
    obtain ⟨_, H, e2, t2, _⟩ := Sh.ls (R := isB) (fun c h1 (h2 : Sh.bool.ok h c) => h2) k2
    obtain ⟨_, U, e3, t3, _⟩ := Sh.ls (R := isB) (fun c h1 (h2 : Sh.bool.ok h c) => h2) k3
    obtain ⟨_, K, e4, t4, _⟩ := Sh.ls (R := isR h) (fun c h1 h2 => row_cells h1 h2) k4
    cases e1; cases e2; cases e3; cases e4
    exact ⟨_, _, _, _, ⟨T, H, U, K⟩, rfl, ⟨t1.split.1, t2, t3, t4⟩, t1.split.2⟩
section
variable {P : Program} {W : World} {base : Nat} {v : Value} {t : TypeId}
theorem opNet (hv : ∃ cs, v = .agg cs ∧ cs.size = 4) (k : netSh.ok (absH W) (v.cells.toList.map (abs1 W.heap.size))) : ∃ tv hv uv kv N, absV W.heap.size v = .agg ⟨[tv, hv, uv, kv]⟩ ∧ NetV (absH W) tv hv uv kv N ∧ ∀ t ∈ N.T, Fits t := by
  obtain ⟨cs, rfl, hsz⟩ := hv
  obtain ⟨tv, hv, uv, kv, N, h1, h2, h3⟩ := net_cells (by simpa [Value.cells] using hsz) k
  refine ⟨tv, hv, uv, kv, N, ?_, h2, h3⟩
  show Value.agg _ = _
  congr 1
  apply Array.toList_inj.1
  rw [Array.toList_map]
  exact h1
theorem opU8 (hu : P.underlying t = some (.int .u8)) (hv : Value.okWide P W .any base t v) (k : (Sh.int .u8).ok (absH W) (v.cells.toList.map (abs1 W.heap.size))) : ∃ n, absV W.heap.size v = .int .u8 n ∧ 0 ≤ n ∧ n < 256 := by
  obtain ⟨n, rfl⟩ := okWide_int hu hv
  obtain ⟨m, h1, h2⟩ := k
  have : n = m := by simpa [Value.cells, abs1] using h1
  subst this
  simp only [Lit.wf, Bool.and_eq_true, decide_eq_true_eq] at h2
  refine ⟨n, rfl, ?_, ?_⟩
  · have : IntKind.u8.min = 0 := rfl
    omega
  · have : IntKind.u8.max = 255 := rfl
    omega
end
end Go.Proofs.YtmeojocmngbpaaaDoor.B
