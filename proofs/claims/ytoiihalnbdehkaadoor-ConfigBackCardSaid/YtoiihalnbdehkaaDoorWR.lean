/-
  What the rows of layer 23 share: rules, an array of numbers.
-/
import Derived.Test.YtoiihalnbdehkaaDoorWS
import Derived.Test.YtoiihalnbdehkaaDoorCc
namespace Go.Proofs.YtoiihalnbdehkaaDoor.B
open Go Go.ChangeShapes Go.WideShapes Go.RowKit
set_option linter.unusedVariables false
variable {P : Program} {W : World} {base : Nat} {v : Value} {t : TypeId}
theorem okAgA (n : Nat) {m : Nat} {e : TypeId} (hu : P.underlying t = some (.array m e)) (hc : P.cellsOf t = n) (hv : Value.okWide P W .any base t v) : ∃ cs, v = .agg cs ∧ cs.size = n := by
  simp only [Value.okWide, hu] at hv
  obtain ⟨cs, h1, h2, _⟩ := hv
  exact ⟨cs, h1, h2.trans hc⟩
theorem ints_of {h : AHeap} : ∀ (n : Nat) (c : List Value), c.length = n → (Sh.arr n 1 (.int .i64)).ok h c → ∃ L, c = rulC L ∧ L.length = n ∧ ∀ x ∈ L, -9223372036854775808 ≤ x ∧ x ≤ 9223372036854775807
  | 0, c, hl, k => ⟨[], List.eq_nil_of_length_eq_zero hl, rfl, fun x hx => by cases hx⟩
  | n + 1, [], hl, k => by simp at hl
  | n + 1, v :: c, hl, k => by
    obtain ⟨L, rfl, hn, hB⟩ := ints_of n c (by simpa using hl) fun i hi => by
      have := k (i + 1) (by omega)
      rwa [Nat.mul_one] at this ⊢
    obtain ⟨x, hx, hw⟩ := k 0 (by omega)
    simp at hx
    subst hx
    refine ⟨x :: L, rfl, by simp [hn], fun y hy => ?_⟩
    rcases List.mem_cons.1 hy with rfl | hy
    · exact wf_i64 hw
    · exact hB y hy
theorem opRul (hv : ∃ cs, v = .agg cs ∧ cs.size = 15) (k : (Sh.arr 15 1 (.int .i64)).ok (absH W) (v.cells.toList.map (abs1 W.heap.size))) : ∃ L, absV W.heap.size v = .agg ⟨rulC L⟩ ∧ L.length = 15 ∧ ∀ x ∈ L, -9223372036854775808 ≤ x ∧ x ≤ 9223372036854775807 := by
  obtain ⟨cs, rfl, hsz⟩ := hv
  obtain ⟨L, h1, h2, h3⟩ := ints_of 15 _ (by simpa [Value.cells] using hsz) k
  refine ⟨L, ?_, h2, h3⟩
  show Value.agg _ = _
  congr 1
  apply Array.toList_inj.1
  rw [Array.toList_map]
  exact h1
structure PowS (h : AHeap) : Prop where
  pow : h[gv.internal_strconv_uint64pow10]? = some (.row .ro powRow)
end Go.Proofs.YtoiihalnbdehkaaDoor.B
