/-
  A key's text as it is read: cut at two bytes, three numerals.
-/
import Derived.Test.YtoiihalnbdehkaaDoorDn
namespace Go.Proofs.YtoiihalnbdehkaaDoor.B
open Go
set_option linter.unusedVariables false
set_option linter.unusedSimpArgs false
def cutL (c : UInt8) (l : List UInt8) : Option (List UInt8 × List UInt8) := match l.findIdx? (· == c) with
  | some i => some (l.take i, l.drop (i + 1))
  | none => none
theorem cutL_app {c : UInt8} {A R : List UInt8} (h : c ∉ A) : cutL c (A ++ c :: R) = some (A, R) := by
  have : (A ++ c :: R).findIdx? (· == c) = some A.length := by
    rw [List.findIdx?_eq_some_iff_getElem]
    refine ⟨by simp, by simp, fun j hj => ?_⟩
    rw [List.getElem_append_left hj]
    intro e
    exact h (by have := List.getElem_mem hj; simp at e; rwa [e] at this)
  unfold cutL
  rw [this]
  simp
open Classical in
noncomputable def numL (M : Nat) (l : List UInt8) : Option Nat := if canon l ∧ vl l ≤ M then some (vl l) else none
theorem numL_dec {M u : Nat} (h : u ≤ M) : numL M (decL u) = some u := by
  obtain ⟨h1, h2, _⟩ := decL_ok u
  unfold numL
  rw [if_pos ⟨h1, by omega⟩, h2]
theorem numL_big {M u : Nat} (h : ¬ u ≤ M) : numL M (decL u) = none := by
  obtain ⟨h1, h2, _⟩ := decL_ok u
  unfold numL
  rw [if_neg (by omega)]
theorem numL_bad {M : Nat} {l : List UInt8} (h : digs l = false) : numL M l = none := by
  unfold numL
  rw [if_neg (fun q => by rw [q.1.1] at h; cases h)]
noncomputable def prs (a b c : Nat) (l : List UInt8) : Option (Nat × Nat × Nat) := match cutL 46 l with
  | none => none
  | some (A, R) => match cutL 47 R with
    | none => none
    | some (B, C) => match numL a A, numL b B, numL c C with
      | some e, some s, some m => some (e, s, m)
      | _, _, _ => none
theorem digs_not {c : UInt8} {l : List UInt8} (h : digs l = true) (hc : c.toNat < 48 ∨ 57 < c.toNat) : c ∉ l := fun hm => by
  have := List.all_eq_true.1 h c hm
  simp at this
  omega
theorem dec_not {c : UInt8} (u : Nat) (hc : c.toNat < 48 ∨ 57 < c.toNat) : c ∉ decL u := digs_not (decL_ok u).1.1 hc
theorem prs_text {a b c e s : Nat} (C : List UInt8) (he : e ≤ a) (hs : s ≤ b) : prs a b c (decL e ++ 46 :: (decL s ++ 47 :: C)) = (numL c C).map fun m => (e, s, m) := by
  unfold prs
  rw [cutL_app (dec_not e (.inl (by decide)))]
  simp only
  rw [cutL_app (dec_not s (.inl (by decide)))]
  simp only
  rw [numL_dec he, numL_dec hs]
  cases numL c C <;> rfl
theorem prs_textN {a b c e s : Nat} (C : List UInt8) (h : ¬ (e ≤ a ∧ s ≤ b)) : prs a b c (decL e ++ 46 :: (decL s ++ 47 :: C)) = none := by
  unfold prs
  rw [cutL_app (dec_not e (.inl (by decide)))]
  simp only
  rw [cutL_app (dec_not s (.inl (by decide)))]
  simp only
  by_cases h1 : e ≤ a
  · rw [numL_dec h1, numL_big (show ¬ s ≤ b by omega)]
  · rw [numL_big h1]
/-- What a smaller bound takes of what a greater one takes. -/
theorem numL_le {M N : Nat} (h : M ≤ N) (l : List UInt8) : numL M l = (numL N l).bind fun u => if u ≤ M then some u else none := by
  unfold numL
  by_cases h1 : canon l
  · by_cases h2 : vl l ≤ M
    · rw [if_pos ⟨h1, h2⟩, if_pos ⟨h1, by omega⟩]; simp [h2]
    · rw [if_neg (by omega)]
      split
      · simp [h2]
      · rfl
  · rw [if_neg (fun q => h1 q.1), if_neg (fun q => h1 q.1)]; rfl
end Go.Proofs.YtoiihalnbdehkaaDoor.B
