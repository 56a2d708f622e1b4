/-
  Decimal digits: a number's numeral as bytes, and the rows that hold it.
-/
import Derived.Test.YtoiihalnbdehkaaDoorArF
namespace Go.Proofs.YtoiihalnbdehkaaDoor.B
open Go
set_option linter.unusedVariables false
set_option linter.unusedSimpArgs false

def dB (d : Nat) : UInt8 := UInt8.ofNat (48 + d)
/-- The digit of a number at a place, as a byte. -/
def dgI (u i : Nat) : Int := ((dB (u / 10 ^ i % 10)).toNat : Int)
theorem dB_lt {d : Nat} (h : d < 10) : (dB d).toNat = 48 + d := by
  unfold dB; rw [UInt8.toNat_ofNat']; omega
/-- A number's numeral: the bytes. -/
def decI (u : Nat) : List Int := if h : u < 10 then [dgI u 0] else decI (u / 10) ++ [dgI u 0]
termination_by u
decreasing_by omega
def decS (u : Nat) : ByteArray := bytesS (decI u)
theorem decI_lt {u : Nat} (h : u < 10) : decI u = [dgI u 0] := by unfold decI; rw [dif_pos h]
theorem decI_ge {u : Nat} (h : 10 ≤ u) : decI u = decI (u / 10) ++ [dgI u 0] := by rw [decI, dif_neg (by omega)]
theorem decI_range : ∀ (L u : Nat), u < 10 ^ (L + 1) → (L = 0 ∨ 10 ^ L ≤ u) → decI u = (List.range (L + 1)).map fun i => dgI u (L - i)
  | 0, u, h, _ => by
    rw [decI_lt (by simpa using h)]; rfl
  | L + 1, u, h, h2 => by
    have hp : 10 ≤ 10 ^ (L + 1) := by
      have := Nat.one_le_two_pow (n := 0)
      calc 10 = 10 ^ 1 := rfl
        _ ≤ 10 ^ (L + 1) := Nat.pow_le_pow_right (by omega) (by omega)
    have h3 : 10 ^ (L + 1) ≤ u := by omega
    rw [decI_ge (by omega), decI_range L (u / 10) (by rw [Nat.pow_succ] at h; omega) (by
      by_cases e : L = 0
      · exact .inl e
      · right; rw [Nat.pow_succ] at h3; omega), List.range_succ (n := L + 1), List.map_append]
    congr 1
    · apply List.map_congr_left
      intro i hi
      have hi : i < L + 1 := by simpa using hi
      unfold dgI
      rw [Nat.div_div_eq_div_mul, show L + 1 - i = (L - i) + 1 by omega, Nat.pow_succ, Nat.mul_comm]
    · simp
theorem decI_pos (u : Nat) : 1 ≤ (decI u).length := by
  by_cases h : u < 10
  · rw [decI_lt h]; simp
  · rw [decI_ge (by omega)]; simp
theorem decI_bound : ∀ (u : Nat), u < 10 ^ (decI u).length ∧ ((decI u).length = 1 ∨ 10 ^ ((decI u).length - 1) ≤ u) := by
  intro u
  induction u using Nat.strongRecOn with
  | _ u ih =>
    by_cases h : u < 10
    · rw [decI_lt h]; simp; omega
    · rw [decI_ge (by omega)]
      obtain ⟨h1, h2⟩ := ih (u / 10) (by omega)
      have hp := decI_pos (u / 10)
      simp only [List.length_append, List.length_cons, List.length_nil, Nat.zero_add, Nat.add_sub_cancel]
      refine ⟨by rw [Nat.pow_succ]; omega, .inr ?_⟩
      rcases h2 with e | e
      · rw [e]; omega
      · obtain ⟨k, hk⟩ : ∃ k, (decI (u / 10)).length = k + 1 := ⟨_, (Nat.sub_add_cancel hp).symm⟩
        rw [hk] at e ⊢
        rw [Nat.add_sub_cancel] at e
        rw [Nat.pow_succ]; omega
theorem decI_unique {u L : Nat} (h : u < 10 ^ L) (h2 : L = 1 ∨ 10 ^ (L - 1) ≤ u) (h3 : 1 ≤ L) : (decI u).length = L := by
  obtain ⟨k, rfl⟩ : ∃ k, L = k + 1 := ⟨L - 1, by omega⟩
  rw [decI_range k u h (by simpa using h2)]; simp
theorem decI_le20 {u : Nat} (h : u < 18446744073709551616) : (decI u).length ≤ 20 := by
  rcases (decI_bound u).2 with e | e
  · omega
  · apply Classical.byContradiction
    intro q
    have : 10 ^ 20 ≤ 10 ^ ((decI u).length - 1) := Nat.pow_le_pow_right (by omega) (by omega)
    omega

/-! ### Bytes -/
theorem bytesS_eq (ns : List Int) : bytesS ns = ⟨(ns.map fun n => UInt8.ofNat n.toNat).toArray⟩ := by
  have key : ∀ (ns : List Int) (a : ByteArray), ns.foldl (fun r n => r.push (UInt8.ofNat n.toNat)) a = ⟨a.data ++ (ns.map fun n => UInt8.ofNat n.toNat).toArray⟩ := by
    intro ns
    induction ns with
    | nil => intro a; simp
    | cons n r ih => intro a; rw [List.foldl_cons, ih]; simp [ByteArray.push]
  unfold bytesS
  rw [key]; simp
theorem bytesS_append (a b : List Int) : bytesS (a ++ b) = bytesS a ++ bytesS b := by
  rw [bytesS_eq, bytesS_eq, bytesS_eq]
  apply ByteArray.ext
  simp [ByteArray.data_append]
theorem bytesS_size (a : List Int) : (bytesS a).size = a.length := by
  rw [bytesS_eq]; simp [ByteArray.size]
theorem decS_size {u : Nat} (h : u < 18446744073709551616) : (decS u).size ≤ 20 := by
  unfold decS; rw [bytesS_size]; exact decI_le20 h
theorem decS_ge {u : Nat} (h : 10 ≤ u) : decS u = decS (u / 10) ++ bytesS [dgI u 0] := by
  unfold decS; rw [decI_ge h, bytesS_append]
theorem decS_lt {u : Nat} (h : u < 10) : decS u = bytesS [dgI u 0] := by
  unfold decS; rw [decI_lt h]
abbrev dV (u i : Nat) : Value := .int .u8 (dgI u i)
theorem bytesA_map (l : List Int) : bytesA (l.map (Value.int .u8)) = some l := by
  induction l with
  | nil => rfl
  | cons a l ih => simp [bytesA, ih]

/-! ### A row that is being filled from its end -/
def fillR (cells : List Value) (off L u nd : Nat) : List Value := setC cells (off + nd) (((List.range L).map fun i => dV u (L - 1 - i)).drop nd)
theorem fillR_len (cells : List Value) (off L u nd : Nat) : (fillR cells off L u nd).length = cells.length := by simp [fillR]
theorem fillR_all (cells : List Value) (off L u : Nat) : fillR cells off L u L = cells := by
  unfold fillR
  rw [List.drop_of_length_le (by simp)]; rfl
theorem fillR_step {cells : List Value} {off L u nd : Nat} (hl : off + L ≤ cells.length) (h : nd < L) : setC (fillR cells off L u (nd + 1)) (off + nd) [dV u (L - 1 - nd)] = fillR cells off L u nd := by
  apply List.ext_getElem?
  intro i
  have e1 := fillR_len cells off L u (nd + 1)
  rw [setC_get _ _ _ _ (by simp only [List.length_cons, List.length_nil]; omega)]
  unfold fillR
  rw [setC_get _ _ _ _ (by simp; omega), setC_get _ _ _ _ (by simp; omega)]
  simp only [List.length_drop, List.length_map, List.length_range, List.length_cons, List.length_nil, List.getElem?_drop, List.getElem?_map]
  by_cases h1 : i = off + nd
  · subst h1
    rw [if_pos (by omega), if_pos (by omega), show off + nd - (off + nd) = 0 by omega, Nat.add_zero, List.getElem?_range h]; rfl
  · rw [if_neg (by omega)]
    by_cases h2 : off + (nd + 1) ≤ i ∧ i < off + L
    · rw [if_pos (by omega), if_pos (by omega), show nd + 1 + (i - (off + (nd + 1))) = nd + (i - (off + nd)) by omega]
    · rw [if_neg (by omega), if_neg (by omega)]
/-- A heap whose block is being filled. -/
def fillH (h : AHeap) (b : Nat) (cells : List Value) (off L u nd : Nat) : AHeap := h.set b (.row .fix (fillR cells off L u nd))
theorem fillH_step {h : AHeap} {b off L u nd : Nat} {cells : List Value} (f : Fx h b cells) (hl : off + L ≤ cells.length) (hn : nd < L) {i : Nat} (hi : i = L - 1 - nd) :
    wrs (fillH h b cells off L u (nd + 1)) b (off + nd * 1) [dV u i] = some (fillH h b cells off L u nd) := by
  subst hi
  unfold fillH
  rw [(f.set (fillR cells off L u (nd + 1))).wr (by rw [fillR_len]; simp; omega), List.set_set, Nat.mul_one, fillR_step hl hn]
theorem fillH_at {h : AHeap} {b off L u nd : Nat} {cells : List Value} (f : Fx h b cells) : Fx (fillH h b cells off L u nd) b (fillR cells off L u nd) := f.set _

/-! ### Arithmetic of words -/
theorem wrapU32 {n : Nat} (h : n < 4294967296) : IntKind.u32.wrap (n : Int) = n := by
  unfold IntKind.wrap
  simp [IntKind.signed, IntKind.bits]; omega
theorem wrapU64 {n : Nat} (h : n < 18446744073709551616) : IntKind.u64.wrap (n : Int) = n := by
  unfold IntKind.wrap
  simp [IntKind.signed, IntKind.bits]; omega
theorem wrapU8 {n : Nat} (h : n < 256) : IntKind.u8.wrap (n : Int) = n := by
  unfold IntKind.wrap
  simp [IntKind.signed, IntKind.bits]; omega
theorem tdN (x k : Nat) : (x : Int).tdiv (k : Int) = ((x / k : Nat) : Int) := (Int.ofNat_tdiv x k).symm
theorem tmN (x k : Nat) : (x : Int).tmod (k : Int) = ((x % k : Nat) : Int) := (Int.ofNat_tmod x k).symm
end Go.Proofs.YtoiihalnbdehkaaDoor.B
