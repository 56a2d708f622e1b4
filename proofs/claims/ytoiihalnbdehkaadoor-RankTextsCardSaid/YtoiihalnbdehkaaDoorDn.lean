/-
  Decimal numerals as they are read: which rows of bytes are the numeral of a number.
-/
import Derived.Test.YtoiihalnbdehkaaDoorSd
import Derived.Lib.ParseIntB
namespace Go.Proofs.YtoiihalnbdehkaaDoor.B
open Go
set_option linter.unusedVariables false
set_option linter.unusedSimpArgs false
def vlF (a : Nat) (l : List UInt8) : Nat := l.foldl (fun a c => a * 10 + (c.toNat - 48)) a
abbrev vl (l : List UInt8) : Nat := vlF 0 l
def digs (l : List UInt8) : Bool := l.all fun c => decide (48 ≤ c.toNat ∧ c.toNat ≤ 57)
abbrev decL (u : Nat) : List UInt8 := (decS u).data.toList
theorem dgI_dB (u : Nat) : dgI u 0 = ((dB (u % 10)).toNat : Int) := by simp [dgI]
theorem decL_one (u : Nat) : (bytesS [dgI u 0]).data.toList = [dB (u % 10)] := by
  rw [dgI_dB]; simp [bytesS, ByteArray.push]
theorem decL_lt {u : Nat} (h : u < 10) : decL u = [dB u] := by
  have := decL_one u
  rw [decL, decS_lt h, this, Nat.mod_eq_of_lt h]
theorem decL_ge {u : Nat} (h : 10 ≤ u) : decL u = decL (u / 10) ++ [dB (u % 10)] := by
  rw [decL, decS_ge h, ByteArray.data_append, Array.toList_append, decL_one]
theorem vlF_snoc (a : Nat) (l : List UInt8) (c : UInt8) : vlF a (l ++ [c]) = vlF a l * 10 + (c.toNat - 48) := by simp [vlF]
theorem digs_snoc (l : List UInt8) (c : UInt8) : digs (l ++ [c]) = (digs l && decide (48 ≤ c.toNat ∧ c.toNat ≤ 57)) := by simp [digs]
/-- A row that is a numeral: digits, no zero ahead. -/
def canon (l : List UInt8) : Prop := digs l = true ∧ l ≠ [] ∧ (l.length = 1 ∨ l.head? ≠ some 48)
theorem dB_dig {d : Nat} (h : d < 10) : 48 ≤ (dB d).toNat ∧ (dB d).toNat ≤ 57 := by rw [dB_lt h]; omega
theorem head_app {l m : List UInt8} (h : l ≠ []) : (l ++ m).head? = l.head? := by
  cases l with
  | nil => exact absurd rfl h
  | cons a l => rfl
theorem decL_ok (u : Nat) : canon (decL u) ∧ vl (decL u) = u ∧ (1 ≤ u → (decL u).head? ≠ some 48) := by
  induction u using Nat.strongRecOn with
  | _ u ih =>
    rcases Nat.lt_or_ge u 10 with h | h
    · rw [decL_lt h]
      have hd := dB_dig h
      refine ⟨⟨by simp [digs]; exact hd, by simp, .inl rfl⟩, ?_, fun h1 e => ?_⟩
      · show 0 * 10 + ((dB u).toNat - 48) = u
        rw [dB_lt h]; omega
      · have e2 : dB u = 48 := by simpa using e
        have := congrArg UInt8.toNat e2
        rw [dB_lt h] at this
        have h48 : (48 : UInt8).toNat = 48 := rfl
        omega
    · obtain ⟨⟨i1, i2, i3⟩, i4, i5⟩ := ih (u / 10) (by omega)
      have hm : u % 10 < 10 := Nat.mod_lt _ (by omega)
      have hh : (decL (u / 10) ++ [dB (u % 10)]).head? ≠ some 48 := by
        rw [head_app i2]
        exact i5 (by omega)
      rw [decL_ge h]
      refine ⟨⟨by rw [digs_snoc, i1]; simpa using dB_dig hm, by simp, .inr hh⟩, ?_, fun _ => hh⟩
      have i4' : vlF 0 (decL (u / 10)) = u / 10 := i4
      rw [vl, vlF_snoc, i4', dB_lt hm]
      omega
theorem canon_dec (l : List UInt8) (h : canon l) : decL (vl l) = l := by
  obtain ⟨h1, h2, h3⟩ := h
  have key : ∀ (n : Nat) (l : List UInt8), l.length = n → digs l = true → l ≠ [] → (l.length = 1 ∨ l.head? ≠ some 48) → decL (vl l) = l ∧ (l.head? ≠ some 48 → 1 ≤ vl l) := by
    intro n
    induction n with
    | zero => intro l hl _ hn _; exact absurd (List.eq_nil_of_length_eq_zero hl) hn
    | succ n ih =>
      intro l hl hd hn hz
      rcases List.eq_nil_or_concat l with rfl | ⟨m, c, rfl⟩
      · exact absurd rfl hn
      rw [List.concat_eq_append] at *
      rw [digs_snoc, Bool.and_eq_true, decide_eq_true_eq] at hd
      obtain ⟨hd1, hc⟩ := hd
      have hcb : dB (c.toNat - 48) = c := by
        apply UInt8.toNat_inj.1
        rw [dB_lt (by omega)]; omega
      rw [vl, vlF_snoc]
      by_cases hm : m = []
      · subst hm
        simp only [vlF, List.foldl_nil, Nat.zero_mul, Nat.zero_add, List.nil_append]
        refine ⟨by rw [decL_lt (by omega), hcb], fun hne => ?_⟩
        have : c ≠ 48 := by simpa using hne
        have : c.toNat ≠ 48 := fun e => this (UInt8.toNat_inj.1 e)
        omega
      · have hhd : (m ++ [c]).head? = m.head? := head_app hm
        have hlm : 1 ≤ m.length := List.length_pos_iff.2 hm
        have hz2 : m.head? ≠ some 48 := by
          rcases hz with q | q
          · rw [List.length_append] at q; simp at q; exact absurd q hm
          · rwa [hhd] at q
        obtain ⟨k1, k2⟩ := ih m (by rw [List.length_append] at hl; simpa using hl) hd1 hm (.inr hz2)
        have k3 : 1 ≤ vlF 0 m := k2 hz2
        refine ⟨?_, fun _ => by omega⟩
        have k1' : decL (vlF 0 m) = m := k1
        rw [decL_ge (by omega), show (vlF 0 m * 10 + (c.toNat - 48)) / 10 = vlF 0 m by omega, k1', show (vlF 0 m * 10 + (c.toNat - 48)) % 10 = c.toNat - 48 by omega, hcb]
  exact (key _ l rfl h1 h2 h3).1
theorem vlF_ge : ∀ (l : List UInt8) (a : Nat), a ≤ vlF a l
  | [], a => Nat.le_refl _
  | c :: l, a => Nat.le_trans (by omega) (vlF_ge l (a * 10 + (c.toNat - 48)))
theorem parseM_ok (M : Nat) : ∀ (l : List UInt8) (a u : Nat), Lib.parseUintM M a l = .ok u → digs l = true ∧ u = vlF a l ∧ (l = [] ∨ u ≤ M)
  | [], a, u, h => by
    simp only [Lib.parseUintM, Lib.NumEnd.ok.injEq] at h
    exact ⟨rfl, h.symm, .inl rfl⟩
  | c :: l, a, u, h => by
    rw [Lib.parseUintM] at h
    split at h
    · rename_i hc
      split at h
      · cases h
      · split at h
        · cases h
        · rename_i hM
          obtain ⟨h1, h2, h3⟩ := parseM_ok M l _ u h
          refine ⟨by rw [digs, List.all_cons, Bool.and_eq_true]; exact ⟨by simpa using hc, h1⟩, h2, .inr ?_⟩
          rcases h3 with rfl | h3
          · rw [h2]; show a * 10 + (c.toNat - 48) ≤ M; omega
          · exact h3
    · cases h
theorem parseM_val (M : Nat) (hM : M ≤ 1000000000000000000) : ∀ (l : List UInt8) (a : Nat), digs l = true → vlF a l ≤ M → Lib.parseUintM M a l = .ok (vlF a l)
  | [], a, _, _ => rfl
  | c :: l, a, hd, hv => by
    rw [digs, List.all_cons, Bool.and_eq_true, decide_eq_true_eq] at hd
    have h1 : vlF a (c :: l) = vlF (a * 10 + (c.toNat - 48)) l := rfl
    have h2 := vlF_ge l (a * 10 + (c.toNat - 48))
    rw [h1] at hv ⊢
    rw [Lib.parseUintM, if_pos hd.1, if_neg (by omega), if_neg (by omega)]
    exact parseM_val M hM l _ hd.2 hv
/-- What the program takes for a number below 2^32 is what is a numeral of one. -/
theorem part_iff (t : List UInt8) (u : Nat) : (Lib.parseUintB 32 t = .ok u ∧ decL u = t) ↔ (canon t ∧ vl t = u ∧ u ≤ 4294967295) := by
  have hM : 2 ^ 32 - 1 = 4294967295 := rfl
  unfold Lib.parseUintB
  constructor
  · rintro ⟨h, e⟩
    split at h
    · cases h
    · rename_i hn
      obtain ⟨h1, h2, h3⟩ := parseM_ok _ _ _ _ h
      have hk := decL_ok u
      rw [e] at hk
      exact ⟨hk.1, hk.2.1, h3.elim (fun q => absurd q hn) (fun q => by omega)⟩
  · rintro ⟨h, rfl, hv⟩
    rw [if_neg h.2.1, hM]
    exact ⟨parseM_val _ (by omega) _ _ h.1 hv, canon_dec t h⟩
end Go.Proofs.YtoiihalnbdehkaaDoor.B
