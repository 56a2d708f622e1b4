/-
  Rows that are written in place.
-/
import Derived.Test.YtoiihalnbdehkaaDoorArL
namespace Go.Proofs.YtoiihalnbdehkaaDoor.B
open Go
set_option linter.unusedVariables false
set_option linter.unusedSimpArgs false
theorem Chg.trans {h0 h h1 h2 : AHeap} {u : Value} (a : Chg h0 u h h1) (b : Chg h0 u h1 h2) : Chg h0 u h h2 :=
  ⟨⟨Nat.le_trans a.1.1 b.1.1, fun i hi e => by rw [b.1.2 i (Nat.lt_of_lt_of_le hi a.1.1) e, a.1.2 i hi e]⟩, fun e => (a.2 e).trans (b.2 e)⟩
theorem Chg.refl (h0 h : AHeap) (u : Value) : Chg h0 u h h := ⟨⟨Nat.le_refl _, fun _ _ _ => rfl⟩, fun _ => .refl _⟩
theorem Chg.ofPre {h0 h h1 : AHeap} (u : Value) (p : Pre h h1) : Chg h0 u h h1 := ⟨⟨p.len, fun i hi _ => p.get hi⟩, fun _ => p⟩
theorem Chg.set {h0 h : AHeap} {u : Value} (hp : h0.length ≤ sb u) (hn : u ≠ nilS) (o : AObj) : Chg h0 u h (h.set (sb u) o) :=
  ⟨⟨by simp, fun i hi e => List.getElem?_set_ne fun c => by have := e c.symm; omega⟩, fun e => absurd e hn⟩
theorem setC_all0 {cs vs : List Value} (hl : cs.length = vs.length) : setC cs 0 vs = vs := by
  rw [setC_eq (by omega)]
  simp [← hl]
theorem setC_left {a b vs : List Value} {off : Nat} (h : off + vs.length ≤ a.length) : setC (a ++ b) off vs = setC a off vs ++ b := by
  rw [setC_eq (by simp; omega), setC_eq h, List.take_append_of_le_length (by omega), List.drop_append_of_le_length h]
  simp
theorem setC_right {a b vs : List Value} {off : Nat} (h : off + vs.length ≤ b.length) : setC (a ++ b) (a.length + off) vs = a ++ setC b off vs := by
  rw [setC_eq (by simp; omega), setC_eq h, List.take_append, List.drop_append, List.take_of_length_le (by omega), List.drop_of_length_le (by omega)]
  simp only [Nat.add_assoc, Nat.add_sub_cancel_left, List.nil_append, List.append_assoc]
theorem Ow.wr {h0 h : AHeap} {sz n : Nat} {v : Value} {cs : List Value} (k : Ow h0 h sz v n cs) {off : Nat} {vs : List Value} (hl : off + vs.length ≤ n * sz) (hv : 0 < vs.length) :
    ∃ o, wrs h (sb v) (so v + off) vs = some (h.set (sb v) o) ∧ Ow h0 (h.set (sb v) o) sz v n (setC cs off vs) ∧ (∃ cells, o = .row (.grow sz) cells) := by
  cases k with
  | nil => rw [Nat.zero_mul] at hl; omega
  | row hb hr hlc hc hm =>
    rename_i b off' cap cells
    have hbl := (List.getElem?_eq_some_iff.1 hr).1
    have hmul := Nat.mul_le_mul_right sz hc
    refine ⟨.row (.grow sz) (setC cells (off' + off) vs), ?_, ?_, _, rfl⟩
    · simp only [wrs, sb, so, hr]; exact if_pos (by omega)
    · have := Ow.row (h0 := h0) (h := h.set b (.row (.grow sz) (setC cells (off' + off) vs))) (sz := sz) (b := b) (off := off') (n := n) (cap := cap) (cells := setC cells (off' + off) vs) hb (by simp [hbl]) (by simp; omega) hc hm
      have e : ((setC cells (off' + off) vs).drop off').take (n * sz) = setC ((cells.drop off').take (n * sz)) off vs := by
        rw [setC_eq (by omega), setC_eq (by simp; omega), List.drop_append_of_le_length (by simp; omega), List.drop_take, Nat.add_sub_cancel_left,
          List.take_append, List.take_append, List.take_take, List.take_take, List.drop_take, List.drop_drop]
        simp only [List.length_take, List.length_drop]
        rw [Nat.min_eq_right (a := n * sz) (by omega), Nat.min_eq_left (a := off) (by omega), Nat.min_eq_left (a := off) (by omega),
          List.take_of_length_le (l := vs) (by omega)]
        simp only [Nat.sub_sub, Nat.add_assoc]
      rw [e] at this
      exact this
theorem Ow.front {h0 h : AHeap} {sz n : Nat} {v : Value} {cs : List Value} (k : Ow h0 h sz v n cs) {m : Nat} (hm : m ≤ n) : Ow h0 h sz (sliceTo m v) m (cs.take (m * sz)) ∧ sb (sliceTo m v) = sb v := by
  cases k with
  | nil =>
    obtain rfl : m = 0 := by omega
    exact ⟨by rw [List.take_nil]; exact .nil, rfl⟩
  | row hb hr hl hc hx =>
    have hmul := Nat.mul_le_mul_right sz hm
    refine ⟨?_, rfl⟩
    rw [List.take_take, Nat.min_eq_left hmul]
    exact .row hb hr hl (by omega) hx
end Go.Proofs.YtoiihalnbdehkaaDoor.B
