/-
  Layer 24: all counters as a text.
-/
import Derived.Test.YtgndlhmjolaeiaaDoorC3
namespace Go.Proofs.YtgndlhmjolaeiaaDoor.B
open Go
set_option linter.unusedVariables false
set_option linter.unusedSimpArgs false
set_option maxRecDepth 100000
abbrev spS : ByteArray := ⟨#[32]⟩
def partS (i : Nat) (n : Int) : ByteArray := nmS countB i ++ ⟨#[61]⟩ ++ wholeS n
def cpS (L : List Int) : Nat → List ByteArray
  | 0 => []
  | i + 1 => if L.getD i 0 = 0 then cpS L i else cpS L i ++ [partS i (L.getD i 0)]
theorem cpS_len (L : List Int) (i : Nat) : (cpS L i).length ≤ i := by
  induction i with
  | zero => simp [cpS]
  | succ i ih =>
    rw [cpS]
    split
    · omega
    · rw [List.length_append]; simp; omega
abbrev i64ok' (n : Int) : Prop := -9223372036854775808 ≤ n ∧ n ≤ 9223372036854775807
theorem part_size (i : Nat) {n : Int} (h : i64ok' n) : 1 ≤ (partS i n).size ∧ (partS i n).size ≤ 40 := by
  have h1 := nmS_size (L := countB) (c := 9) (by decide) i
  have h2 := wholeS_size h
  simp only [partS, ByteArray.size_append, size_mk, List.size_toArray, List.length_cons, List.length_nil]
  omega
abbrev lok (L : List Int) : Prop := ∀ i, i64ok' (L.getD i 0)
theorem parts_mem {L : List Int} (h : lok L) (i : Nat) : ∀ x ∈ cpS L i, 1 ≤ x.size ∧ x.size ≤ 40 := by
  induction i with
  | zero => simp [cpS]
  | succ i ih =>
    rw [cpS]
    split
    · exact ih
    · intro x hx
      rcases List.mem_append.1 hx with q | q
      · exact ih x q
      · rw [List.mem_singleton.1 q]; exact part_size i (h i)
theorem joinS_nil (sep : ByteArray) : joinS [] sep = ⟨#[]⟩ := rfl
theorem joinS_one (p sep : ByteArray) : joinS [p] sep = p := by
  simp [joinS, Lib.join_one]
theorem joinS_snoc (x : ByteArray) (l : List ByteArray) (p sep : ByteArray) : joinS (x :: l ++ [p]) sep = joinS (x :: l) sep ++ sep ++ p := by
  apply ByteArray.ext
  simp only [joinS, List.cons_append, List.map_cons, List.map_append, List.map_nil, Lib.join_cons, ByteArray.data_append]
  apply Array.toList_inj.1
  simp [Lib.joinTail]
theorem lens_le : ∀ r : List (List UInt8), (∀ x ∈ r, x.length ≤ 40) → Lib.lens r ≤ r.length * 40
  | [], _ => by simp [Lib.lens]
  | x :: r, h => by
    have h1 := lens_le r fun y hy => h y (List.mem_cons_of_mem _ hy)
    have h2 := h x List.mem_cons_self
    simp only [Lib.lens, List.map_cons, List.sum_cons, List.length_cons] at h1 ⊢
    omega
theorem joinS_size {l : List ByteArray} (h : ∀ x ∈ l, x.size ≤ 40) : (joinS l spS).size ≤ l.length * 41 := by
  cases l with
  | nil => exact Nat.zero_le _
  | cons x r =>
    have h1 := lens_le ((x :: r).map (·.data.toList)) fun y hy => by
      obtain ⟨z, hz, rfl⟩ := List.mem_map.1 hy
      have := h z hz
      rw [Array.length_toList]
      exact this
    have h2 := Lib.join_length x.data.toList (r.map (·.data.toList)) [32]
    have h3 : (joinS (x :: r) spS).size = (Lib.join (x.data.toList :: r.map (·.data.toList)) [32]).length := by simp [joinS, ByteArray.size]
    rw [h3, h2]
    simp only [List.map_cons, List.length_cons, List.length_map, List.length_nil] at h1 ⊢
    omega
/-- As the document builds it. -/
def rtS (L : List Int) : Nat → ByteArray
  | 0 => ⟨#[]⟩
  | i + 1 => if L.getD i 0 = 0 then rtS L i else (if rtS L i = ⟨#[]⟩ then rtS L i else rtS L i ++ spS) ++ partS i (L.getD i 0)
theorem cp_text {L : List Int} (h : lok L) (i : Nat) : rtS L i = joinS (cpS L i) spS ∧ (rtS L i = ⟨#[]⟩ ↔ cpS L i = []) := by
  induction i with
  | zero => exact ⟨rfl, by simp [rtS, cpS]⟩
  | succ i ih =>
    obtain ⟨ih1, ih2⟩ := ih
    rw [rtS, cpS]
    split
    · exact ⟨ih1, ih2⟩
    · have hp := part_size i (h i)
      have hne : ∀ a : ByteArray, a ++ partS i (L.getD i 0) ≠ ⟨#[]⟩ := fun a e => by
        have := congrArg ByteArray.size e
        simp only [ByteArray.size_append, size_mk, List.size_toArray, List.length_nil] at this
        omega
      refine ⟨?_, ⟨fun e => absurd e (hne _), fun e => by simp at e⟩⟩
      by_cases hq : cpS L i = []
      · rw [if_pos (ih2.2 hq), ih2.2 hq, hq, List.nil_append, joinS_one]
        exact ByteArray.empty_append
      · rw [if_neg fun e => hq (ih2.1 e), ih1]
        cases hc : cpS L i with
        | nil => exact absurd hc hq
        | cons x r => rw [joinS_snoc]
end Go.Proofs.YtgndlhmjolaeiaaDoor.B
