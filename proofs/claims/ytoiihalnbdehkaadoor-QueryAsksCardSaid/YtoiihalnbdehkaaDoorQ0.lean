/-
  A text cut at a byte; the first place of a byte, as the library has it. (Lines of Dn.)
-/
import Derived.Test.YtoiihalnbdehkaaDoorSd
import Derived.Lib.ParseIntB
import Derived.Laws.Externs
namespace Go.Proofs.YtoiihalnbdehkaaDoor.B
open Go
set_option linter.unusedVariables false
set_option linter.unusedSimpArgs false
def cutL (c : UInt8) (l : List UInt8) : Option (List UInt8 × List UInt8) := match l.findIdx? (· == c) with
  | some i => some (l.take i, l.drop (i + 1))
  | none => none
theorem cutL_none {c : UInt8} {l : List UInt8} (h : ∀ j, j < l.length → l.getD j 0 ≠ c) : cutL c l = none := by
  have : l.findIdx? (· == c) = none := by
    rw [List.findIdx?_eq_none_iff]
    intro x hx
    obtain ⟨j, hj, rfl⟩ := List.getElem_of_mem hx
    have := h j hj
    rw [List.getD_eq_getElem?_getD, List.getElem?_eq_getElem hj] at this
    simpa using this
  unfold cutL; rw [this]
theorem cutL_some {c : UInt8} {l : List UInt8} {p : Nat} (hp : p < l.length) (h1 : l.getD p 0 = c) (h2 : ∀ j, j < p → l.getD j 0 ≠ c) : cutL c l = some (l.take p, l.drop (p + 1)) := by
  have hg : ∀ j (hj : j < l.length), l.getD j 0 = l[j] := fun j hj => by rw [List.getD_eq_getElem?_getD, List.getElem?_eq_getElem hj]; rfl
  have : l.findIdx? (· == c) = some p := by
    rw [List.findIdx?_eq_some_iff_getElem]
    refine ⟨hp, by rw [← hg p hp, h1]; simp, fun j hj => ?_⟩
    have := h2 j hj
    rw [hg j (by omega)] at this
    simpa using this
  unfold cutL; rw [this]
theorem firstIdx_cut (s : ByteArray) (c : UInt8) : (firstIdx s c = -1 ∧ cutL c s.data.toList = none) ∨ ∃ k : Nat, k < s.size ∧ firstIdx s c = k ∧ cutL c s.data.toList = some (s.data.toList.take k, s.data.toList.drop (k + 1)) := by
  have hg : ∀ j, j < s.size → s[j]! = s.data.toList.getD j 0 := fun j hj => by
    rw [List.getD_eq_getElem?_getD, Array.getElem?_toList]
    have : j < s.data.size := hj
    rw [Array.getElem?_eq_getElem this]
    rw [getElem!_pos s j hj]; rfl
  unfold firstIdx
  cases h : (List.range s.size).find? fun i => s[i]! == c with
  | none =>
    refine .inl ⟨rfl, cutL_none fun j hj => ?_⟩
    have hj' : j < s.size := by rw [Array.length_toList] at hj; exact hj
    have := List.find?_eq_none.1 h j (List.mem_range.2 hj')
    rw [hg j hj'] at this
    simpa using this
  | some k =>
    obtain ⟨h1, i, hi, hk, h2⟩ := List.find?_eq_some_iff_getElem.1 h
    simp only [List.length_range] at hi
    simp only [List.getElem_range] at hk h2
    subst hk
    refine .inr ⟨i, hi, rfl, cutL_some (by rw [Array.length_toList]; exact hi) (by rw [← hg i hi]; simpa using h1) fun j hj => ?_⟩
    have := h2 j hj
    rw [hg j (by omega)] at this
    simpa using this
end Go.Proofs.YtoiihalnbdehkaaDoor.B
