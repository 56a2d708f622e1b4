/-
  How the document reads a key's text: places of two bytes; numbers digit by digit.
-/
import Derived.Test.YtoiihalnbdehkaaDoorDp
namespace Go.Proofs.YtoiihalnbdehkaaDoor.B
open Go
set_option linter.unusedVariables false
set_option linter.unusedSimpArgs false
theorem vlF_low : ∀ (l : List UInt8) (a : Nat), a * 10 ^ l.length ≤ vlF a l
  | [], a => by simp [vlF]
  | c :: l, a => by
    have h := vlF_low l (a * 10 + (c.toNat - 48))
    have h1 : vlF a (c :: l) = vlF (a * 10 + (c.toNat - 48)) l := rfl
    rw [h1, List.length_cons, Nat.pow_succ]
    have h2 : a * 10 * 10 ^ l.length ≤ (a * 10 + (c.toNat - 48)) * 10 ^ l.length := Nat.mul_le_mul_right _ (by omega)
    have h3 : a * (10 ^ l.length * 10) = a * 10 * 10 ^ l.length := by rw [Nat.mul_comm (10 ^ l.length) 10, Nat.mul_assoc]
    omega
theorem vlF_high : ∀ (l : List UInt8) (a : Nat), digs l = true → vlF a l < (a + 1) * 10 ^ l.length
  | [], a, _ => by simp [vlF]
  | c :: l, a, hd => by
    rw [digs, List.all_cons, Bool.and_eq_true, decide_eq_true_eq] at hd
    have h := vlF_high l (a * 10 + (c.toNat - 48)) hd.2
    have h1 : vlF a (c :: l) = vlF (a * 10 + (c.toNat - 48)) l := rfl
    rw [h1, List.length_cons, Nat.pow_succ]
    have h2 : (a * 10 + (c.toNat - 48) + 1) * 10 ^ l.length ≤ ((a + 1) * 10) * 10 ^ l.length := Nat.mul_le_mul_right _ (by omega)
    have h3 : (a + 1) * (10 ^ l.length * 10) = (a + 1) * 10 * 10 ^ l.length := by rw [Nat.mul_comm (10 ^ l.length) 10, Nat.mul_assoc]
    omega
theorem numL_long {M : Nat} {l : List UInt8} (hM : M < 1000000000000000000) (h : 18 < l.length) : numL M l = none := by
  unfold numL
  refine if_neg fun ⟨⟨h1, h2, h3⟩, h4⟩ => ?_
  match l, h, h1, h3, h4 with
  | c :: r, h, h1, h3, h4 =>
    rw [digs, List.all_cons, Bool.and_eq_true, decide_eq_true_eq] at h1
    have hc : c ≠ 48 := by
      rcases h3 with q | q
      · rw [q] at h; omega
      · simpa using q
    have hc2 : c.toNat ≠ 48 := fun e => hc (UInt8.toNat_inj.1 e)
    have h5 := vlF_low r (c.toNat - 48)
    have h6 : vl (c :: r) = vlF (c.toNat - 48) r := by show vlF (0 * 10 + (c.toNat - 48)) r = _; rw [Nat.zero_mul, Nat.zero_add]
    have h7 : 10 ^ 18 ≤ 10 ^ r.length := Nat.pow_le_pow_right (by omega) (by rw [List.length_cons] at h; omega)
    have h8 : 1 * 10 ^ r.length ≤ (c.toNat - 48) * 10 ^ r.length := Nat.mul_le_mul_right _ (by omega)
    omega
theorem numL_nil (M : Nat) : numL M [] = none := by
  unfold numL
  exact if_neg fun q => q.1.2.1 rfl
theorem numL_zero {M : Nat} {l : List UInt8} (h : 1 < l.length) (h0 : l.head? = some 48) : numL M l = none := by
  unfold numL
  refine if_neg fun q => ?_
  rcases q.1.2.2 with e | e
  · omega
  · exact e h0
theorem numL_digs {M : Nat} {l : List UInt8} (hn : l ≠ []) (hd : digs l = true) (hz : ¬ (l.head? = some 48 ∧ 1 < l.length)) : numL M l = if vl l ≤ M then some (vl l) else none := by
  have hc : canon l := ⟨hd, hn, by
    by_cases e : l.length = 1
    · exact .inl e
    · right; intro q; exact hz ⟨q, by have := List.length_pos_iff.2 hn; omega⟩⟩
  unfold numL
  by_cases h : vl l ≤ M
  · rw [if_pos ⟨hc, h⟩, if_pos h]
  · rw [if_neg (fun q => h q.2), if_neg h]
/-- Where the two bytes are, of the first i ones. -/
def DB (l : List UInt8) (i : Nat) (d b : Int) : Prop :=
  (d = -1 ∧ b = -1 ∧ ∀ j, j < i → l.getD j 0 ≠ 46) ∨
  ∃ p, p < i ∧ d = (p : Int) ∧ l.getD p 0 = 46 ∧ (∀ j, j < p → l.getD j 0 ≠ 46) ∧
    ((b = -1 ∧ ∀ j, p < j → j < i → l.getD j 0 ≠ 47) ∨ ∃ q, p < q ∧ q < i ∧ b = (q : Int) ∧ l.getD q 0 = 47 ∧ ∀ j, p < j → j < q → l.getD j 0 ≠ 47)
theorem DB.begin (l : List UInt8) : DB l 0 (-1) (-1) := .inl ⟨rfl, rfl, fun j hj => absurd hj (Nat.not_lt_zero _)⟩
theorem DB.step {l : List UInt8} {i : Nat} {d b : Int} (k : DB l i d b) :
    DB l (i + 1) (if l.getD i 0 = 46 ∧ d < 0 then i else d) (if l.getD i 0 = 47 ∧ b < 0 ∧ 0 ≤ (if l.getD i 0 = 46 ∧ d < 0 then (i : Int) else d) then i else b) := by
  rcases k with ⟨rfl, rfl, h⟩ | ⟨p, hp, rfl, h1, h2, h3⟩
  · by_cases c : l.getD i 0 = 46
    · rw [if_pos ⟨c, by omega⟩, if_neg (by rw [c]; intro q; exact absurd q.1 (by decide))]
      exact .inr ⟨i, by omega, rfl, c, h, .inl ⟨rfl, fun j h1 h2 => by omega⟩⟩
    · rw [if_neg (fun q => c q.1), if_neg (fun q => by omega)]
      refine .inl ⟨rfl, rfl, fun j hj => ?_⟩
      rcases Nat.lt_or_ge j i with q | q
      · exact h j q
      · obtain rfl : j = i := by omega
        exact c
  · rw [if_neg (fun q => by omega)]
    rcases h3 with ⟨rfl, h4⟩ | ⟨q, q1, q2, rfl, q3, q4⟩
    · by_cases c : l.getD i 0 = 47
      · rw [if_pos ⟨c, by omega, by omega⟩]
        exact .inr ⟨p, by omega, rfl, h1, h2, .inr ⟨i, by omega, by omega, rfl, c, fun j a b => h4 j a b⟩⟩
      · rw [if_neg (fun q => c q.1)]
        refine .inr ⟨p, by omega, rfl, h1, h2, .inl ⟨rfl, fun j a b => ?_⟩⟩
        rcases Nat.lt_or_ge j i with q | q
        · exact h4 j a q
        · obtain rfl : j = i := by omega
          exact c
    · rw [if_neg (fun q => by omega)]
      exact .inr ⟨p, by omega, rfl, h1, h2, .inr ⟨q, q1, by omega, rfl, q3, q4⟩⟩
theorem cutL_none {c : UInt8} {l : List UInt8} (h : ∀ j, j < l.length → l.getD j 0 ≠ c) : cutL c l = none := by
  have : l.findIdx? (· == c) = none := by
    rw [List.findIdx?_eq_none_iff]
    intro x hx
    obtain ⟨j, hj, rfl⟩ := List.getElem_of_mem hx
    have := h j hj
    rw [List.getD_eq_getElem?_getD, List.getElem?_eq_getElem hj] at this
    simpa using this
  unfold cutL; rw [this]
theorem cutL_some {c : UInt8} {l : List UInt8} {p : Nat} (hp : p < l.length) (h1 : l.getD p 0 = c) (h2 : ∀ j, j < p → l.getD j 0 ≠ c) : cutL c l = some (l.take p, l.drop (p + 1)) := by
  have hg : ∀ j (hj : j < l.length), l.getD j 0 = l[j] := fun j hj => by rw [List.getD_eq_getElem?_getD, List.getElem?_eq_getElem hj]; rfl
  have : l.findIdx? (· == c) = some p := by
    rw [List.findIdx?_eq_some_iff_getElem]
    refine ⟨hp, by rw [← hg p hp, h1]; simp, fun j hj => ?_⟩
    have := h2 j hj
    rw [hg j (by omega)] at this
    simpa using this
  unfold cutL; rw [this]
/-- What comes of the places at the end. -/
theorem DB.last {l : List UInt8} {d b : Int} (k : DB l l.length d b) (x y z : Nat) :
    ((d < 0 ∨ b < 0) ∧ prs x y z l = none) ∨ ∃ p q : Nat, d = p ∧ b = q ∧ p < q ∧ q < l.length ∧ prs x y z l = (match numL x (l.take p), numL y ((l.take q).drop (p + 1)), numL z (l.drop (q + 1)) with
      | some e, some s, some m => some (e, s, m)
      | _, _, _ => none) := by
  have hgd : ∀ p j, (l.drop p).getD j 0 = l.getD (p + j) 0 := fun p j => by rw [List.getD_eq_getElem?_getD, List.getD_eq_getElem?_getD, List.getElem?_drop]
  rcases k with ⟨rfl, rfl, h⟩ | ⟨p, hp, rfl, h1, h2, h3⟩
  · refine .inl ⟨.inl (by omega), ?_⟩
    unfold prs; rw [cutL_none h]
  · have c1 := cutL_some hp h1 h2
    rcases h3 with ⟨rfl, h4⟩ | ⟨q, q1, q2, rfl, q3, q4⟩
    · refine .inl ⟨.inr (by omega), ?_⟩
      unfold prs; rw [c1]
      simp only
      rw [cutL_none fun j hj => by rw [List.length_drop] at hj; rw [hgd]; exact h4 _ (by omega) (by omega)]
    · refine .inr ⟨p, q, rfl, rfl, q1, q2, ?_⟩
      unfold prs; rw [c1]
      simp only
      rw [cutL_some (p := q - (p + 1)) (by rw [List.length_drop]; omega) (by rw [hgd, show p + 1 + (q - (p + 1)) = q by omega]; exact q3) (fun j hj => by rw [hgd]; exact q4 _ (by omega) (by omega))]
      simp only
      rw [List.drop_drop, show p + 1 + (q - (p + 1) + 1) = q + 1 by omega, List.drop_take]
      rfl
end Go.Proofs.YtoiihalnbdehkaaDoor.B
