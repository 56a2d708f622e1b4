/-
  Bounds of numbers; the first place of a byte, as the library has it.
-/
import Derived.Test.YtoiihalnbdehkaaDoorDq
import Derived.Laws.Externs
namespace Go.Proofs.YtoiihalnbdehkaaDoor.B
open Go
set_option linter.unusedVariables false
set_option linter.unusedSimpArgs false
theorem prs_le {a b c M : Nat} (ha : a ≤ M) (hb : b ≤ M) (hc : c ≤ M) (l : List UInt8) : prs a b c l = (prs M M M l).bind fun k => if k.1 ≤ a ∧ k.2.1 ≤ b ∧ k.2.2 ≤ c then some k else none := by
  unfold prs
  cases cutL 46 l with
  | none => rfl
  | some x =>
    obtain ⟨A, R⟩ := x
    simp only
    cases cutL 47 R with
    | none => rfl
    | some y =>
      obtain ⟨B, C⟩ := y
      simp only
      rw [numL_le ha, numL_le hb, numL_le hc]
      cases numL M A with
      | none => rfl
      | some u =>
        cases numL M B with
        | none => by_cases h1 : u ≤ a <;> simp [h1]
        | some v =>
          cases numL M C with
          | none => by_cases h1 : u ≤ a <;> by_cases h2 : v ≤ b <;> simp [h1, h2]
          | some w => by_cases h1 : u ≤ a <;> by_cases h2 : v ≤ b <;> by_cases h3 : w ≤ c <;> simp [h1, h2, h3]
theorem firstIdx_cut (s : ByteArray) (c : UInt8) : (firstIdx s c = -1 ∧ cutL c s.data.toList = none) ∨ ∃ k : Nat, k < s.size ∧ firstIdx s c = k ∧ cutL c s.data.toList = some (s.data.toList.take k, s.data.toList.drop (k + 1)) := by
  have hg : ∀ j, j < s.size → s[j]! = s.data.toList.getD j 0 := fun j hj => by
    rw [List.getD_eq_getElem?_getD, Array.getElem?_toList]
    have : j < s.data.size := hj
    rw [Array.getElem?_eq_getElem this]
    rw [getElem!_pos s j hj]; rfl
  unfold firstIdx
  cases h : (List.range s.size).find? fun i => s[i]! == c with
  | none =>
    refine .inl ⟨rfl, cutL_none fun j hj => ?_⟩
    have hj' : j < s.size := by rw [Array.length_toList] at hj; exact hj
    have := List.find?_eq_none.1 h j (List.mem_range.2 hj')
    rw [hg j hj'] at this
    simpa using this
  | some k =>
    obtain ⟨h1, i, hi, hk, h2⟩ := List.find?_eq_some_iff_getElem.1 h
    simp only [List.length_range] at hi
    simp only [List.getElem_range] at hk h2
    subst hk
    refine .inr ⟨i, hi, rfl, cutL_some (by rw [Array.length_toList]; exact hi) (by rw [← hg i hi]; simpa using h1) fun j hj => ?_⟩
    have := h2 j hj
    rw [hg j (by omega)] at this
    simpa using this
end Go.Proofs.YtoiihalnbdehkaaDoor.B
