/-
  Texts cut into blocks of 64: plain laws; the padding; numbers as bytes, the great ones first.
-/
import Derived.Test.YtbomppdiiaodbaaRRRAb1
namespace Go.Proofs.YtbomppdiiaodbaaRRR.B
open Go
set_option linter.unusedVariables false
set_option linter.unusedSimpArgs false
variable {S α : Type}
def hashF (B : S → List α → S) (s : S) (m : List α) : S := if h : 64 ≤ m.length then hashF B (B s (m.take 64)) (m.drop 64) else s
termination_by m.length
decreasing_by simp; omega
def restF (m : List α) : List α := m.drop (64 * (m.length / 64))
theorem hashF_ge (B : S → List α → S) (s : S) {m : List α} (h : 64 ≤ m.length) : hashF B s m = hashF B (B s (m.take 64)) (m.drop 64) := by
  rw [hashF, dif_pos h]
theorem hashF_lt (B : S → List α → S) (s : S) {m : List α} (h : m.length < 64) : hashF B s m = s := by
  rw [hashF, dif_neg (by omega)]
theorem restF_ge {m : List α} (h : 64 ≤ m.length) : restF m = restF (m.drop 64) := by
  unfold restF
  rw [List.drop_drop]
  congr 1
  simp only [List.length_drop]
  omega
theorem restF_lt {m : List α} (h : m.length < 64) : restF m = m := by
  unfold restF
  rw [show m.length / 64 = 0 by omega]; rfl
theorem restF_len (m : List α) : (restF m).length = m.length % 64 := by
  unfold restF
  rw [List.length_drop]; omega
theorem hashF_append (B : S → List α → S) (p : List α) : ∀ (n : Nat) (s : S) (m : List α), m.length = n → hashF B s (m ++ p) = hashF B (hashF B s m) (restF m ++ p) := by
  intro n
  induction n using Nat.strongRecOn with
  | _ n ih =>
    intro s m hm
    by_cases h : 64 ≤ m.length
    · rw [hashF_ge B s h, hashF_ge B s (m := m ++ p) (by simp; omega), restF_ge h, List.take_append_of_le_length h, List.drop_append_of_le_length h]
      exact ih _ (by simp; omega) _ _ rfl
    · rw [hashF_lt B s (m := m) (by omega), restF_lt (m := m) (by omega)]
theorem restF_append (p : List α) : ∀ (n : Nat) (m : List α), m.length = n → restF (m ++ p) = restF (restF m ++ p) := by
  intro n
  induction n using Nat.strongRecOn with
  | _ n ih =>
    intro m hm
    by_cases h : 64 ≤ m.length
    · rw [restF_ge h, restF_ge (m := m ++ p) (by simp; omega), List.drop_append_of_le_length h]
      exact ih _ (by simp; omega) _ rfl
    · rw [restF_lt (m := m) (by omega)]
/-- How many zeros stand behind the mark. -/
def zpad (n : Nat) : Nat := (119 - n % 64) % 64
theorem zpad_at {n k : Nat} (hk : k ≤ zpad n) : (n + 1 + k) % 64 = 56 ↔ k = zpad n := by
  unfold zpad at *
  constructor <;> intro h <;> omega
theorem zpad_mod (n : Nat) : zpad (n % 64) = zpad n := by
  unfold zpad; rw [Nat.mod_mod]
theorem zpad_full (n : Nat) : (n % 64 + 1 + zpad n + 8) % 64 = 0 := by
  unfold zpad; omega
/-- A number's bytes. -/
def beF (k : Nat) (x : Int) : List Int := (List.range k).map fun i => x / 256 ^ (k - 1 - i) % 256
theorem beF_len (k : Nat) (x : Int) : (beF k x).length = k := by simp [beF]
end Go.Proofs.YtbomppdiiaodbaaRRR.B
