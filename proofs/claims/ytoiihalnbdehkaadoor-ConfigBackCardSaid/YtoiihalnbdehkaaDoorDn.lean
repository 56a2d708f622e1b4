/-
  Decimal numerals as they are read: which rows of bytes are the numeral of a number.
-/
import Derived.Test.YtoiihalnbdehkaaDoorSd
import Derived.Lib.ParseIntB
import Derived.Laws.Externs
namespace Go.Proofs.YtoiihalnbdehkaaDoor.B
open Go
set_option linter.unusedVariables false
set_option linter.unusedSimpArgs false
def vlF (a : Nat) (l : List UInt8) : Nat := l.foldl (fun a c => a * 10 + (c.toNat - 48)) a
abbrev vl (l : List UInt8) : Nat := vlF 0 l
def digs (l : List UInt8) : Bool := l.all fun c => decide (48 ≤ c.toNat ∧ c.toNat ≤ 57)
abbrev decL (u : Nat) : List UInt8 := (decS u).data.toList
theorem dgI_dB (u : Nat) : dgI u 0 = ((dB (u % 10)).toNat : Int) := by simp [dgI]
theorem decL_one (u : Nat) : (bytesS [dgI u 0]).data.toList = [dB (u % 10)] := by
  rw [dgI_dB]; simp [bytesS, ByteArray.push]
theorem decL_lt {u : Nat} (h : u < 10) : decL u = [dB u] := by
  have := decL_one u
  rw [decL, decS_lt h, this, Nat.mod_eq_of_lt h]
theorem decL_ge {u : Nat} (h : 10 ≤ u) : decL u = decL (u / 10) ++ [dB (u % 10)] := by
  rw [decL, decS_ge h, ByteArray.data_append, Array.toList_append, decL_one]
theorem vlF_snoc (a : Nat) (l : List UInt8) (c : UInt8) : vlF a (l ++ [c]) = vlF a l * 10 + (c.toNat - 48) := by simp [vlF]
theorem digs_snoc (l : List UInt8) (c : UInt8) : digs (l ++ [c]) = (digs l && decide (48 ≤ c.toNat ∧ c.toNat ≤ 57)) := by simp [digs]
/-- A row that is a numeral: digits, no zero ahead. -/
def canon (l : List UInt8) : Prop := digs l = true ∧ l ≠ [] ∧ (l.length = 1 ∨ l.head? ≠ some 48)
theorem dB_dig {d : Nat} (h : d < 10) : 48 ≤ (dB d).toNat ∧ (dB d).toNat ≤ 57 := by rw [dB_lt h]; omega
theorem head_app {l m : List UInt8} (h : l ≠ []) : (l ++ m).head? = l.head? := by
  cases l with
  | nil => exact absurd rfl h
  | cons a l => rfl
theorem decL_ok (u : Nat) : canon (decL u) ∧ vl (decL u) = u ∧ (1 ≤ u → (decL u).head? ≠ some 48) := by
  induction u using Nat.strongRecOn with
  | _ u ih =>
    rcases Nat.lt_or_ge u 10 with h | h
    · rw [decL_lt h]
      have hd := dB_dig h
      refine ⟨⟨by simp [digs]; exact hd, by simp, .inl rfl⟩, ?_, fun h1 e => ?_⟩
      · show 0 * 10 + ((dB u).toNat - 48) = u
        rw [dB_lt h]; omega
      · have e2 : dB u = 48 := by simpa using e
        have := congrArg UInt8.toNat e2
        rw [dB_lt h] at this
        have h48 : (48 : UInt8).toNat = 48 := rfl
        omega
    · obtain ⟨⟨i1, i2, i3⟩, i4, i5⟩ := ih (u / 10) (by omega)
      have hm : u % 10 < 10 := Nat.mod_lt _ (by omega)
      have hh : (decL (u / 10) ++ [dB (u % 10)]).head? ≠ some 48 := by
        rw [head_app i2]
        exact i5 (by omega)
      rw [decL_ge h]
      refine ⟨⟨by rw [digs_snoc, i1]; simpa using dB_dig hm, by simp, .inr hh⟩, ?_, fun _ => hh⟩
      have i4' : vlF 0 (decL (u / 10)) = u / 10 := i4
      rw [vl, vlF_snoc, i4', dB_lt hm]
      omega
theorem canon_dec (l : List UInt8) (h : canon l) : decL (vl l) = l := by
  obtain ⟨h1, h2, h3⟩ := h
  have key : ∀ (n : Nat) (l : List UInt8), l.length = n → digs l = true → l ≠ [] → (l.length = 1 ∨ l.head? ≠ some 48) → decL (vl l) = l ∧ (l.head? ≠ some 48 → 1 ≤ vl l) := by
    intro n
    induction n with
    | zero => intro l hl _ hn _; exact absurd (List.eq_nil_of_length_eq_zero hl) hn
    | succ n ih =>
      intro l hl hd hn hz
      rcases List.eq_nil_or_concat l with rfl | ⟨m, c, rfl⟩
      · exact absurd rfl hn
      rw [List.concat_eq_append] at *
      rw [digs_snoc, Bool.and_eq_true, decide_eq_true_eq] at hd
      obtain ⟨hd1, hc⟩ := hd
      have hcb : dB (c.toNat - 48) = c := by
        apply UInt8.toNat_inj.1
        rw [dB_lt (by omega)]; omega
      rw [vl, vlF_snoc]
      by_cases hm : m = []
      · subst hm
        simp only [vlF, List.foldl_nil, Nat.zero_mul, Nat.zero_add, List.nil_append]
        refine ⟨by rw [decL_lt (by omega), hcb], fun hne => ?_⟩
        have : c ≠ 48 := by simpa using hne
        have : c.toNat ≠ 48 := fun e => this (UInt8.toNat_inj.1 e)
        omega
      · have hhd : (m ++ [c]).head? = m.head? := head_app hm
        have hlm : 1 ≤ m.length := List.length_pos_iff.2 hm
        have hz2 : m.head? ≠ some 48 := by
          rcases hz with q | q
          · rw [List.length_append] at q; simp at q; exact absurd q hm
          · rwa [hhd] at q
        obtain ⟨k1, k2⟩ := ih m (by rw [List.length_append] at hl; simpa using hl) hd1 hm (.inr hz2)
        have k3 : 1 ≤ vlF 0 m := k2 hz2
        refine ⟨?_, fun _ => by omega⟩
        have k1' : decL (vlF 0 m) = m := k1
        rw [decL_ge (by omega), show (vlF 0 m * 10 + (c.toNat - 48)) / 10 = vlF 0 m by omega, k1', show (vlF 0 m * 10 + (c.toNat - 48)) % 10 = c.toNat - 48 by omega, hcb]
  exact (key _ l rfl h1 h2 h3).1
theorem vlF_ge : ∀ (l : List UInt8) (a : Nat), a ≤ vlF a l
  | [], a => Nat.le_refl _
  | c :: l, a => Nat.le_trans (by omega) (vlF_ge l (a * 10 + (c.toNat - 48)))
theorem parseM_ok (M : Nat) : ∀ (l : List UInt8) (a u : Nat), Lib.parseUintM M a l = .ok u → digs l = true ∧ u = vlF a l ∧ (l = [] ∨ u ≤ M)
  | [], a, u, h => by
    simp only [Lib.parseUintM, Lib.NumEnd.ok.injEq] at h
    exact ⟨rfl, h.symm, .inl rfl⟩
  | c :: l, a, u, h => by
    rw [Lib.parseUintM] at h
    split at h
    · rename_i hc
      split at h
      · cases h
      · split at h
        · cases h
        · rename_i hM
          obtain ⟨h1, h2, h3⟩ := parseM_ok M l _ u h
          refine ⟨by rw [digs, List.all_cons, Bool.and_eq_true]; exact ⟨by simpa using hc, h1⟩, h2, .inr ?_⟩
          rcases h3 with rfl | h3
          · rw [h2]; show a * 10 + (c.toNat - 48) ≤ M; omega
          · exact h3
    · cases h
theorem parseM_val (M : Nat) (hM : M ≤ 1000000000000000000) : ∀ (l : List UInt8) (a : Nat), digs l = true → vlF a l ≤ M → Lib.parseUintM M a l = .ok (vlF a l)
  | [], a, _, _ => rfl
  | c :: l, a, hd, hv => by
    rw [digs, List.all_cons, Bool.and_eq_true, decide_eq_true_eq] at hd
    have h1 : vlF a (c :: l) = vlF (a * 10 + (c.toNat - 48)) l := rfl
    have h2 := vlF_ge l (a * 10 + (c.toNat - 48))
    rw [h1] at hv ⊢
    rw [Lib.parseUintM, if_pos hd.1, if_neg (by omega), if_neg (by omega)]
    exact parseM_val M hM l _ hd.2 hv
/-- What the program takes for a number below 2^32 is what is a numeral of one. -/
theorem part_iff (t : List UInt8) (u : Nat) : (Lib.parseUintB 32 t = .ok u ∧ decL u = t) ↔ (canon t ∧ vl t = u ∧ u ≤ 4294967295) := by
  have hM : 2 ^ 32 - 1 = 4294967295 := rfl
  unfold Lib.parseUintB
  constructor
  · rintro ⟨h, e⟩
    split at h
    · cases h
    · rename_i hn
      obtain ⟨h1, h2, h3⟩ := parseM_ok _ _ _ _ h
      have hk := decL_ok u
      rw [e] at hk
      exact ⟨hk.1, hk.2.1, h3.elim (fun q => absurd q hn) (fun q => by omega)⟩
  · rintro ⟨h, rfl, hv⟩
    rw [if_neg h.2.1, hM]
    exact ⟨parseM_val _ (by omega) _ _ h.1 hv, canon_dec t h⟩
end Go.Proofs.YtoiihalnbdehkaaDoor.B
/-
  A key's text as it is read: cut at two bytes, three numerals.
-/
namespace Go.Proofs.YtoiihalnbdehkaaDoor.B
open Go
set_option linter.unusedVariables false
set_option linter.unusedSimpArgs false
def cutL (c : UInt8) (l : List UInt8) : Option (List UInt8 × List UInt8) := match l.findIdx? (· == c) with
  | some i => some (l.take i, l.drop (i + 1))
  | none => none
theorem cutL_app {c : UInt8} {A R : List UInt8} (h : c ∉ A) : cutL c (A ++ c :: R) = some (A, R) := by
  have : (A ++ c :: R).findIdx? (· == c) = some A.length := by
    rw [List.findIdx?_eq_some_iff_getElem]
    refine ⟨by simp, by simp, fun j hj => ?_⟩
    rw [List.getElem_append_left hj]
    intro e
    exact h (by have := List.getElem_mem hj; simp at e; rwa [e] at this)
  unfold cutL
  rw [this]
  simp
open Classical in
noncomputable def numL (M : Nat) (l : List UInt8) : Option Nat := if canon l ∧ vl l ≤ M then some (vl l) else none
theorem numL_dec {M u : Nat} (h : u ≤ M) : numL M (decL u) = some u := by
  obtain ⟨h1, h2, _⟩ := decL_ok u
  unfold numL
  rw [if_pos ⟨h1, by omega⟩, h2]
theorem numL_big {M u : Nat} (h : ¬ u ≤ M) : numL M (decL u) = none := by
  obtain ⟨h1, h2, _⟩ := decL_ok u
  unfold numL
  rw [if_neg (by omega)]
theorem numL_bad {M : Nat} {l : List UInt8} (h : digs l = false) : numL M l = none := by
  unfold numL
  rw [if_neg (fun q => by rw [q.1.1] at h; cases h)]
noncomputable def prs (a b c : Nat) (l : List UInt8) : Option (Nat × Nat × Nat) := match cutL 46 l with
  | none => none
  | some (A, R) => match cutL 47 R with
    | none => none
    | some (B, C) => match numL a A, numL b B, numL c C with
      | some e, some s, some m => some (e, s, m)
      | _, _, _ => none
theorem digs_not {c : UInt8} {l : List UInt8} (h : digs l = true) (hc : c.toNat < 48 ∨ 57 < c.toNat) : c ∉ l := fun hm => by
  have := List.all_eq_true.1 h c hm
  simp at this
  omega
theorem dec_not {c : UInt8} (u : Nat) (hc : c.toNat < 48 ∨ 57 < c.toNat) : c ∉ decL u := digs_not (decL_ok u).1.1 hc
theorem prs_text {a b c e s : Nat} (C : List UInt8) (he : e ≤ a) (hs : s ≤ b) : prs a b c (decL e ++ 46 :: (decL s ++ 47 :: C)) = (numL c C).map fun m => (e, s, m) := by
  unfold prs
  rw [cutL_app (dec_not e (.inl (by decide)))]
  simp only
  rw [cutL_app (dec_not s (.inl (by decide)))]
  simp only
  rw [numL_dec he, numL_dec hs]
  cases numL c C <;> rfl
theorem prs_textN {a b c e s : Nat} (C : List UInt8) (h : ¬ (e ≤ a ∧ s ≤ b)) : prs a b c (decL e ++ 46 :: (decL s ++ 47 :: C)) = none := by
  unfold prs
  rw [cutL_app (dec_not e (.inl (by decide)))]
  simp only
  rw [cutL_app (dec_not s (.inl (by decide)))]
  simp only
  by_cases h1 : e ≤ a
  · rw [numL_dec h1, numL_big (show ¬ s ≤ b by omega)]
  · rw [numL_big h1]
/-- What a smaller bound takes of what a greater one takes. -/
theorem numL_le {M N : Nat} (h : M ≤ N) (l : List UInt8) : numL M l = (numL N l).bind fun u => if u ≤ M then some u else none := by
  unfold numL
  by_cases h1 : canon l
  · by_cases h2 : vl l ≤ M
    · rw [if_pos ⟨h1, h2⟩, if_pos ⟨h1, by omega⟩]; simp [h2]
    · rw [if_neg (by omega)]
      split
      · simp [h2]
      · rfl
  · rw [if_neg (fun q => h1 q.1), if_neg (fun q => h1 q.1)]; rfl
end Go.Proofs.YtoiihalnbdehkaaDoor.B
/-
  How the document reads a key's text: places of two bytes; numbers digit by digit.
-/
namespace Go.Proofs.YtoiihalnbdehkaaDoor.B
open Go
set_option linter.unusedVariables false
set_option linter.unusedSimpArgs false
theorem vlF_low : ∀ (l : List UInt8) (a : Nat), a * 10 ^ l.length ≤ vlF a l
  | [], a => by simp [vlF]
  | c :: l, a => by
    have h := vlF_low l (a * 10 + (c.toNat - 48))
    have h1 : vlF a (c :: l) = vlF (a * 10 + (c.toNat - 48)) l := rfl
    rw [h1, List.length_cons, Nat.pow_succ]
    have h2 : a * 10 * 10 ^ l.length ≤ (a * 10 + (c.toNat - 48)) * 10 ^ l.length := Nat.mul_le_mul_right _ (by omega)
    have h3 : a * (10 ^ l.length * 10) = a * 10 * 10 ^ l.length := by rw [Nat.mul_comm (10 ^ l.length) 10, Nat.mul_assoc]
    omega
theorem vlF_high : ∀ (l : List UInt8) (a : Nat), digs l = true → vlF a l < (a + 1) * 10 ^ l.length
  | [], a, _ => by simp [vlF]
  | c :: l, a, hd => by
    rw [digs, List.all_cons, Bool.and_eq_true, decide_eq_true_eq] at hd
    have h := vlF_high l (a * 10 + (c.toNat - 48)) hd.2
    have h1 : vlF a (c :: l) = vlF (a * 10 + (c.toNat - 48)) l := rfl
    rw [h1, List.length_cons, Nat.pow_succ]
    have h2 : (a * 10 + (c.toNat - 48) + 1) * 10 ^ l.length ≤ ((a + 1) * 10) * 10 ^ l.length := Nat.mul_le_mul_right _ (by omega)
    have h3 : (a + 1) * (10 ^ l.length * 10) = (a + 1) * 10 * 10 ^ l.length := by rw [Nat.mul_comm (10 ^ l.length) 10, Nat.mul_assoc]
    omega
theorem numL_long {M : Nat} {l : List UInt8} (hM : M < 1000000000000000000) (h : 18 < l.length) : numL M l = none := by
  unfold numL
  refine if_neg fun ⟨⟨h1, h2, h3⟩, h4⟩ => ?_
  match l, h, h1, h3, h4 with
  | c :: r, h, h1, h3, h4 =>
    rw [digs, List.all_cons, Bool.and_eq_true, decide_eq_true_eq] at h1
    have hc : c ≠ 48 := by
      rcases h3 with q | q
      · rw [q] at h; omega
      · simpa using q
    have hc2 : c.toNat ≠ 48 := fun e => hc (UInt8.toNat_inj.1 e)
    have h5 := vlF_low r (c.toNat - 48)
    have h6 : vl (c :: r) = vlF (c.toNat - 48) r := by show vlF (0 * 10 + (c.toNat - 48)) r = _; rw [Nat.zero_mul, Nat.zero_add]
    have h7 : 10 ^ 18 ≤ 10 ^ r.length := Nat.pow_le_pow_right (by omega) (by rw [List.length_cons] at h; omega)
    have h8 : 1 * 10 ^ r.length ≤ (c.toNat - 48) * 10 ^ r.length := Nat.mul_le_mul_right _ (by omega)
    omega
theorem numL_nil (M : Nat) : numL M [] = none := by
  unfold numL
  exact if_neg fun q => q.1.2.1 rfl
theorem numL_zero {M : Nat} {l : List UInt8} (h : 1 < l.length) (h0 : l.head? = some 48) : numL M l = none := by
  unfold numL
  refine if_neg fun q => ?_
  rcases q.1.2.2 with e | e
  · omega
  · exact e h0
theorem numL_digs {M : Nat} {l : List UInt8} (hn : l ≠ []) (hd : digs l = true) (hz : ¬ (l.head? = some 48 ∧ 1 < l.length)) : numL M l = if vl l ≤ M then some (vl l) else none := by
  have hc : canon l := ⟨hd, hn, by
    by_cases e : l.length = 1
    · exact .inl e
    · right; intro q; exact hz ⟨q, by have := List.length_pos_iff.2 hn; omega⟩⟩
  unfold numL
  by_cases h : vl l ≤ M
  · rw [if_pos ⟨hc, h⟩, if_pos h]
  · rw [if_neg (fun q => h q.2), if_neg h]
/-- Where the two bytes are, of the first i ones. -/
def DB (l : List UInt8) (i : Nat) (d b : Int) : Prop :=
  (d = -1 ∧ b = -1 ∧ ∀ j, j < i → l.getD j 0 ≠ 46) ∨
  ∃ p, p < i ∧ d = (p : Int) ∧ l.getD p 0 = 46 ∧ (∀ j, j < p → l.getD j 0 ≠ 46) ∧
    ((b = -1 ∧ ∀ j, p < j → j < i → l.getD j 0 ≠ 47) ∨ ∃ q, p < q ∧ q < i ∧ b = (q : Int) ∧ l.getD q 0 = 47 ∧ ∀ j, p < j → j < q → l.getD j 0 ≠ 47)
theorem DB.begin (l : List UInt8) : DB l 0 (-1) (-1) := .inl ⟨rfl, rfl, fun j hj => absurd hj (Nat.not_lt_zero _)⟩
theorem DB.step {l : List UInt8} {i : Nat} {d b : Int} (k : DB l i d b) :
    DB l (i + 1) (if l.getD i 0 = 46 ∧ d < 0 then i else d) (if l.getD i 0 = 47 ∧ b < 0 ∧ 0 ≤ (if l.getD i 0 = 46 ∧ d < 0 then (i : Int) else d) then i else b) := by
  rcases k with ⟨rfl, rfl, h⟩ | ⟨p, hp, rfl, h1, h2, h3⟩
  · by_cases c : l.getD i 0 = 46
    · rw [if_pos ⟨c, by omega⟩, if_neg (by rw [c]; intro q; exact absurd q.1 (by decide))]
      exact .inr ⟨i, by omega, rfl, c, h, .inl ⟨rfl, fun j h1 h2 => by omega⟩⟩
    · rw [if_neg (fun q => c q.1), if_neg (fun q => by omega)]
      refine .inl ⟨rfl, rfl, fun j hj => ?_⟩
      rcases Nat.lt_or_ge j i with q | q
      · exact h j q
      · obtain rfl : j = i := by omega
        exact c
  · rw [if_neg (fun q => by omega)]
    rcases h3 with ⟨rfl, h4⟩ | ⟨q, q1, q2, rfl, q3, q4⟩
    · by_cases c : l.getD i 0 = 47
      · rw [if_pos ⟨c, by omega, by omega⟩]
        exact .inr ⟨p, by omega, rfl, h1, h2, .inr ⟨i, by omega, by omega, rfl, c, fun j a b => h4 j a b⟩⟩
      · rw [if_neg (fun q => c q.1)]
        refine .inr ⟨p, by omega, rfl, h1, h2, .inl ⟨rfl, fun j a b => ?_⟩⟩
        rcases Nat.lt_or_ge j i with q | q
        · exact h4 j a q
        · obtain rfl : j = i := by omega
          exact c
    · rw [if_neg (fun q => by omega)]
      exact .inr ⟨p, by omega, rfl, h1, h2, .inr ⟨q, q1, by omega, rfl, q3, q4⟩⟩
theorem cutL_none {c : UInt8} {l : List UInt8} (h : ∀ j, j < l.length → l.getD j 0 ≠ c) : cutL c l = none := by
  have : l.findIdx? (· == c) = none := by
    rw [List.findIdx?_eq_none_iff]
    intro x hx
    obtain ⟨j, hj, rfl⟩ := List.getElem_of_mem hx
    have := h j hj
    rw [List.getD_eq_getElem?_getD, List.getElem?_eq_getElem hj] at this
    simpa using this
  unfold cutL; rw [this]
theorem cutL_some {c : UInt8} {l : List UInt8} {p : Nat} (hp : p < l.length) (h1 : l.getD p 0 = c) (h2 : ∀ j, j < p → l.getD j 0 ≠ c) : cutL c l = some (l.take p, l.drop (p + 1)) := by
  have hg : ∀ j (hj : j < l.length), l.getD j 0 = l[j] := fun j hj => by rw [List.getD_eq_getElem?_getD, List.getElem?_eq_getElem hj]; rfl
  have : l.findIdx? (· == c) = some p := by
    rw [List.findIdx?_eq_some_iff_getElem]
    refine ⟨hp, by rw [← hg p hp, h1]; simp, fun j hj => ?_⟩
    have := h2 j hj
    rw [hg j (by omega)] at this
    simpa using this
  unfold cutL; rw [this]
/-- What comes of the places at the end. -/
theorem DB.last {l : List UInt8} {d b : Int} (k : DB l l.length d b) (x y z : Nat) :
    ((d < 0 ∨ b < 0) ∧ prs x y z l = none) ∨ ∃ p q : Nat, d = p ∧ b = q ∧ p < q ∧ q < l.length ∧ prs x y z l = (match numL x (l.take p), numL y ((l.take q).drop (p + 1)), numL z (l.drop (q + 1)) with
      | some e, some s, some m => some (e, s, m)
      | _, _, _ => none) := by
  have hgd : ∀ p j, (l.drop p).getD j 0 = l.getD (p + j) 0 := fun p j => by rw [List.getD_eq_getElem?_getD, List.getD_eq_getElem?_getD, List.getElem?_drop]
  rcases k with ⟨rfl, rfl, h⟩ | ⟨p, hp, rfl, h1, h2, h3⟩
  · refine .inl ⟨.inl (by omega), ?_⟩
    unfold prs; rw [cutL_none h]
  · have c1 := cutL_some hp h1 h2
    rcases h3 with ⟨rfl, h4⟩ | ⟨q, q1, q2, rfl, q3, q4⟩
    · refine .inl ⟨.inr (by omega), ?_⟩
      unfold prs; rw [c1]
      simp only
      rw [cutL_none fun j hj => by rw [List.length_drop] at hj; rw [hgd]; exact h4 _ (by omega) (by omega)]
    · refine .inr ⟨p, q, rfl, rfl, q1, q2, ?_⟩
      unfold prs; rw [c1]
      simp only
      rw [cutL_some (p := q - (p + 1)) (by rw [List.length_drop]; omega) (by rw [hgd, show p + 1 + (q - (p + 1)) = q by omega]; exact q3) (fun j hj => by rw [hgd]; exact q4 _ (by omega) (by omega))]
      simp only
      rw [List.drop_drop, show p + 1 + (q - (p + 1) + 1) = q + 1 by omega, List.drop_take]
      all_goals rfl
end Go.Proofs.YtoiihalnbdehkaaDoor.B
/-
  Bounds of numbers; the first place of a byte, as the library has it.
-/
namespace Go.Proofs.YtoiihalnbdehkaaDoor.B
open Go
set_option linter.unusedVariables false
set_option linter.unusedSimpArgs false
theorem prs_le {a b c M : Nat} (ha : a ≤ M) (hb : b ≤ M) (hc : c ≤ M) (l : List UInt8) : prs a b c l = (prs M M M l).bind fun k => if k.1 ≤ a ∧ k.2.1 ≤ b ∧ k.2.2 ≤ c then some k else none := by
  unfold prs
  cases cutL 46 l with
  | none => rfl
  | some x =>
    obtain ⟨A, R⟩ := x
    simp only
    cases cutL 47 R with
    | none => rfl
    | some y =>
      obtain ⟨B, C⟩ := y
      simp only
      rw [numL_le ha, numL_le hb, numL_le hc]
      cases numL M A with
      | none => rfl
      | some u =>
        cases numL M B with
        | none => by_cases h1 : u ≤ a <;> simp [h1]
        | some v =>
          cases numL M C with
          | none => by_cases h1 : u ≤ a <;> by_cases h2 : v ≤ b <;> simp [h1, h2]
          | some w => by_cases h1 : u ≤ a <;> by_cases h2 : v ≤ b <;> by_cases h3 : w ≤ c <;> simp [h1, h2, h3]
theorem firstIdx_cut (s : ByteArray) (c : UInt8) : (firstIdx s c = -1 ∧ cutL c s.data.toList = none) ∨ ∃ k : Nat, k < s.size ∧ firstIdx s c = k ∧ cutL c s.data.toList = some (s.data.toList.take k, s.data.toList.drop (k + 1)) := by
  have hg : ∀ j, j < s.size → s[j]! = s.data.toList.getD j 0 := fun j hj => by
    rw [List.getD_eq_getElem?_getD, Array.getElem?_toList]
    have : j < s.data.size := hj
    rw [Array.getElem?_eq_getElem this]
    rw [getElem!_pos s j hj]; rfl
  unfold firstIdx
  cases h : (List.range s.size).find? fun i => s[i]! == c with
  | none =>
    refine .inl ⟨rfl, cutL_none fun j hj => ?_⟩
    have hj' : j < s.size := by rw [Array.length_toList] at hj; exact hj
    have := List.find?_eq_none.1 h j (List.mem_range.2 hj')
    rw [hg j hj'] at this
    simpa using this
  | some k =>
    obtain ⟨h1, i, hi, hk, h2⟩ := List.find?_eq_some_iff_getElem.1 h
    simp only [List.length_range] at hi
    simp only [List.getElem_range] at hk h2
    subst hk
    refine .inr ⟨i, hi, rfl, cutL_some (by rw [Array.length_toList]; exact hi) (by rw [← hg i hi]; simpa using h1) fun j hj => ?_⟩
    have := h2 j hj
    rw [hg j (by omega)] at this
    simpa using this
end Go.Proofs.YtoiihalnbdehkaaDoor.B
