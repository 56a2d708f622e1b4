/-
  Fields (layer 3) and signed records (layer 11): a record is read, by the document.
-/
import Derived.Test.YtbomppdiiaodbaaRRRFd4
namespace Go.Proofs.YtbomppdiiaodbaaRRR.B
open Go
set_option linter.unusedVariables false
set_option linter.unusedSimpArgs false
set_option maxRecDepth 100000
/-- The document's reader: bytes, a place, an error; r is what is left. -/
structure RnV (h : AHeap) (b : Nat) (r : List Int) (e : Int) : Prop where
  isb : IsB r
  no : e ≠ 0 → r = []
  is : ∃ v l at_, Fx h b [v, .int .i64 ((at_ : Nat) : Int), .int .i64 e] ∧ Ls h 1 by8 v l ∧ (v = nilS ∨ sb v < b) ∧ (e = 0 → r = l.drop at_) ∧ at_ ≤ l.length ∧ IsB l ∧ l.length ≤ 140737488351232
theorem RnV.pre {h h' : AHeap} {b : Nat} {r : List Int} {e : Int} (H : RnV h b r e) (p : Pre h h') : RnV h' b r e := by
  obtain ⟨v, l, a, f, ls, q⟩ := H.is
  exact ⟨H.isb, H.no, v, l, a, f.pre p, ls.pre p, q⟩
theorem RnV.put {h : AHeap} {b c : Nat} {r : List Int} {e : Int} (H : RnV h b r e) (hc : b < c) (cs : List Value) : RnV (h.set c (.row .fix cs)) b r e := by
  obtain ⟨v, l, a, f, ls, ne, q⟩ := H.is
  exact ⟨H.isb, H.no, v, l, a, f.other (by omega) _, ls.put (fun hn e1 => by have := ne.resolve_left (ls.nnil (by omega)); omega) _, ne, q⟩
theorem raw_spec {h : AHeap} {b : Nat} {r : List Int} {e : Int} {n : Nat} (H : RnV h b r e) (hn : 0 < n) (hn2 : n ≤ 100) : SpecX Try.prog nG fn.ref03_In_Raw [.pointer (some ⟨b, 0, none⟩), .int .i64 (n : Int)] h fun v' h' =>
    Ls h' 1 by8 v' (nextF r e n).1 ∧ RnV h' b (nextF r e n).2.1 (nextF r e n).2.2 ∧ Only b h h' ∧ (v' = nilS ∨ h.length ≤ sb v') := by
  refine SpecX.of_body (ir.ref03_In_Raw.spec (Nat.le_of_ble_eq_true rfl)) ?_
  obtain ⟨v, l, a, f, ls, ne, hr, hal, hlB, hll⟩ := H.is
  have re := f.rd (off := 2) (n := 1) (vs := [.int .i64 e]) rfl (by simp)
  have ra := f.rd (off := 1) (n := 1) (vs := [.int .i64 ((a : Nat) : Int)]) rfl (by simp)
  have rv := f.rd (off := 0) (n := 1) (vs := [v]) rfl (by simp)
  by_cases he : e = 0
  case neg =>
    have b1 : (e != 0) = true := by simpa using he
    have hF : nextF r e n = ([], r, e) := by unfold nextF; rw [if_pos he]
    simp (dsimp := false) only [↓ir.ref03_In_Raw.bw, ir.ref03_In_Raw.rs, go_sem, Nat.reduceAdd, Nat.reduceEqDiff, Nat.reduceMul, Nat.reduceLeDiff, Nat.reduceSub, Nat.reduceLT, ↓reduceIte, reduceCtorEq, List.reduceReplicate, List.flatten_cons, List.flatten_nil, List.append_nil, eq_self, Int.reduceLE, Int.reduceLT, Int.reduceToNat, Nat.min_eq_left, Int.reducePow, Int.reduceNeg, Int.reduceEq, re, b1]
    rw [hF]
    exact ⟨⟨[], .nil, fun i hi => by simp at hi⟩, H, Only.refl _ _, .inl trivial⟩
  subst he
  have hr := hr rfl
  have hrl : r.length = l.length - a := by rw [hr, List.length_drop]
  have b1 : ((0 : Int) != 0) = false := rfl
  have ws : IntKind.i64.wrap ((l.length : Int) - (a : Int)) = ((l.length - a : Nat) : Int) := sub_nat hal (by unfold maxI; omega)
  by_cases hlt : r.length < n
  · have hF : nextF r 0 n = ([], [], 9) := by unfold nextF; rw [if_neg (by simp), if_pos hlt]
    have d0 : decide (((l.length - a : Nat) : Int) < (n : Int)) = true := decide_eq_true (by omega)
    have hw := f.wr (off := 2) (vs := [.int .i64 9]) (by simp)
    have e1 : setC [v, .int .i64 ((a : Nat) : Int), .int .i64 0] 2 [.int .i64 9] = [v, .int .i64 ((a : Nat) : Int), .int .i64 9] := rfl
    rw [e1] at hw
    simp (dsimp := false) only [↓ir.ref03_In_Raw.bw, ir.ref03_In_Raw.rs, go_sem, Nat.reduceAdd, Nat.reduceEqDiff, Nat.reduceMul, Nat.reduceLeDiff, Nat.reduceSub, Nat.reduceLT, ↓reduceIte, reduceCtorEq, List.reduceReplicate, List.flatten_cons, List.flatten_nil, List.append_nil, eq_self, Int.reduceLE, Int.reduceLT, Int.reduceToNat, Nat.min_eq_left, Int.reducePow, Int.reduceNeg, Int.reduceEq, re, b1, rv, ra, ls.lenV, ws, d0, hw]
    rw [hF]
    have oo := Only.set b h (.row .fix [v, .int .i64 ((a : Nat) : Int), .int .i64 9])
    exact ⟨⟨[], .nil, fun i hi => by simp at hi⟩, ⟨IsB.nil, fun _ => rfl, v, l, a, f.set _, ls.only oo (ne.imp id Nat.ne_of_lt), ne, fun q => absurd q (by decide), hal, hlB, hll⟩, oo, .inl trivial⟩
  have hF : nextF r 0 n = (r.take n, r.drop n, 0) := by unfold nextF; rw [if_neg (by simp), if_neg hlt]
  have d0 : decide (((l.length - a : Nat) : Int) < (n : Int)) = false := decide_eq_false (by omega)
  simp (dsimp := false) only [↓ir.ref03_In_Raw.bw, ir.ref03_In_Raw.rs, go_sem, Nat.reduceAdd, Nat.reduceEqDiff, Nat.reduceMul, Nat.reduceLeDiff, Nat.reduceSub, Nat.reduceLT, ↓reduceIte, reduceCtorEq, List.reduceReplicate, List.flatten_cons, List.flatten_nil, List.append_nil, eq_self, Int.reduceLE, Int.reduceLT, Int.reduceToNat, Nat.min_eq_left, Int.reducePow, Int.reduceNeg, Int.reduceEq, re, b1, rv, ra, ls.lenV, ws, d0]
  rw [hF]
  refine loopV_of (fun m' e' h6 => ∃ (i : Nat) (w : Value), m' = n - i ∧ i ≤ n ∧ Pre h h6 ∧ Ow h h6 1 w i (ik .u8 (r.take i)) ∧
    e' = [(0, .pointer (some ⟨b, 0, none⟩)), (1, .int .i64 (n : Int)), (5, w), (6, .int .i64 (i : Int))]) _ ⟨0, nilS, rfl, Nat.zero_le _, .refl _, .nil, rfl⟩ ?_
  rintro m' e' h6 ⟨i, w, rfl, hi, p6, o6, rfl⟩
  have f6 := f.pre p6
  have ls6 := ls.pre p6
  rcases Nat.lt_or_ge i n with hlt2 | hge
  case inl =>
    have d1 : decide ((i : Int) < (n : Int)) = true := decide_eq_true (by omega)
    have i5 : IntKind.i64.wrap ((i : Int) + 1) = ((i + 1 : Nat) : Int) := wrap_succ hlt2 (by unfold maxI; omega)
    have wa : IntKind.i64.wrap ((a : Int) + (i : Int)) = ((a + i : Nat) : Int) := add_nat (by unfold maxI; omega)
    have rv6 := f6.rd (off := 0) (n := 1) (vs := [v]) rfl (by simp)
    have ra6 := f6.rd (off := 1) (n := 1) (vs := [.int .i64 ((a : Nat) : Int)]) rfl (by simp)
    have r0 := ls6.rdK0 (.refl _) (show a + i < l.length by omega)
    have ex : l.getD (a + i) 0 = r.getD i 0 := by rw [hr]; simp [List.getD_eq_getElem?_getD]
    rw [ex] at r0
    simp (dsimp := false) only [↓ir.ref03_In_Raw.l1.bw, go_sem, Nat.reduceAdd, Nat.reduceEqDiff, Nat.reduceMul, Nat.reduceLeDiff, Nat.reduceSub, Nat.reduceLT, ↓reduceIte, reduceCtorEq, List.reduceReplicate, List.flatten_cons, List.flatten_nil, List.append_nil, eq_self, Int.reduceLE, Int.reduceLT, Int.reduceToNat, Nat.min_eq_left, Int.reducePow, Int.reduceNeg, Int.reduceEq, d1, rv6, ra6, wa, ls6.ixsN (show a + i < l.length by omega), Nat.mul_one, r0]
    refine (o6.pre (.app h6 [.row (.grow 1) [.int .u8 (r.getD i 0)]])).app (m := 1) rfl rfl (show room (i + 1) 1 from ⟨by omega, by omega⟩) (fun w2 h7 o7 hc _ _ => ?_) (p6.app' _)
    have p7 := hc.pre (p6.app' _)
    have ev : ik .u8 (r.take i) ++ [.int .u8 (r.getD i 0)] = ik .u8 (r.take (i + 1)) := by
      have : r.take (i + 1) = r.take i ++ [r.getD i 0] := by
        rw [List.take_succ_eq_append_getElem (by omega)]
        simp [List.getD_eq_getElem?_getD, show i < r.length by omega]
      rw [this]; simp
    rw [ev] at o7
    simp (dsimp := false) only [go_sem, Nat.reduceAdd, Nat.reduceEqDiff, Nat.reduceMul, Nat.reduceLeDiff, Nat.reduceSub, Nat.reduceLT, ↓reduceIte, reduceCtorEq, List.reduceReplicate, List.flatten_cons, List.flatten_nil, List.append_nil, eq_self, Int.reduceLE, Int.reduceLT, Int.reduceToNat, Nat.min_eq_left, Int.reducePow, Int.reduceNeg, Int.reduceEq, i5]
    exact ⟨n - (i + 1), by omega, i + 1, w2, rfl, hlt2, p7, o7, rfl⟩
  obtain rfl : i = n := by omega
  have d1 : decide ((i : Int) < (i : Int)) = false := decide_eq_false (by omega)
  have ra6 := f6.rd (off := 1) (n := 1) (vs := [.int .i64 ((a : Nat) : Int)]) rfl (by simp)
  have wa : IntKind.i64.wrap ((a : Int) + (i : Int)) = ((a + i : Nat) : Int) := add_nat (by unfold maxI; omega)
  have hw := f6.wr (off := 1) (vs := [.int .i64 ((a + i : Nat) : Int)]) (by simp)
  have e1 : setC [v, .int .i64 ((a : Nat) : Int), .int .i64 0] 1 [.int .i64 ((a + i : Nat) : Int)] = [v, .int .i64 ((a + i : Nat) : Int), .int .i64 0] := rfl
  rw [e1] at hw
  simp (dsimp := false) only [↓ir.ref03_In_Raw.l1.bw, go_sem, Nat.reduceAdd, Nat.reduceEqDiff, Nat.reduceMul, Nat.reduceLeDiff, Nat.reduceSub, Nat.reduceLT, ↓reduceIte, reduceCtorEq, List.reduceReplicate, List.flatten_cons, List.flatten_nil, List.append_nil, eq_self, Int.reduceLE, Int.reduceLT, Int.reduceToNat, Nat.min_eq_left, Int.reducePow, Int.reduceNeg, Int.reduceEq, d1, ra6, wa, hw]
  have oo := Only.set b h6 (.row .fix [v, .int .i64 ((a + i : Nat) : Int), .int .i64 0])
  have o8 : Ow h h6 1 w (r.take i).length (ik .u8 (r.take i)) := by rw [List.length_take, Nat.min_eq_left (by omega)]; exact o6
  refine ⟨(o8.put (o8.nfix f6) _).lsK, ⟨H.isb.drop _, fun q => absurd rfl q, v, l, a + i, f6.set _, ls6.only oo (ne.imp id Nat.ne_of_lt), ne, fun _ => by rw [hr, List.drop_drop], by omega, hlB, hll⟩, (Only.of_pre p6).trans oo, o6.place.imp id (·.1)⟩
theorem rnum_spec {h : AHeap} {b : Nat} {r : List Int} {e : Int} {n : Nat} (H : RnV h b r e) (hn : 0 < n) (hn2 : n ≤ 4) : SpecX Try.prog nG fn.ref03_In_Num [.pointer (some ⟨b, 0, none⟩), .int .i64 (n : Int)] h fun v' h' =>
    v' = .int .u64 (numF (nextF r e n).1) ∧ RnV h' b (nextF r e n).2.1 (nextF r e n).2.2 ∧ Only b h h' := by
  refine SpecX.of_body (ir.ref03_In_Num.spec (Nat.le_of_ble_eq_true rfl)) ?_
  simp (dsimp := false) only [↓ir.ref03_In_Num.bw, ir.ref03_In_Num.rs, go_sem, Nat.reduceAdd, Nat.reduceEqDiff, Nat.reduceMul, Nat.reduceLeDiff, Nat.reduceSub, Nat.reduceLT, ↓reduceIte, reduceCtorEq, List.reduceReplicate, List.flatten_cons, List.flatten_nil, List.append_nil, eq_self, Int.reduceLE, Int.reduceLT, Int.reduceToNat, Nat.min_eq_left, Int.reducePow, Int.reduceNeg, Int.reduceEq]
  refine callV_x (raw_spec H hn (by omega)) ?_
  rintro pv h1 ⟨lp, H1, o1, _⟩
  have hpl := nextF_len r e n
  have hpB := nextF_isB e n H.isb
  obtain ⟨p, hp⟩ : ∃ p, (nextF r e n).1 = p := ⟨_, rfl⟩
  rw [hp] at lp hpl hpB ⊢
  simp (dsimp := false) only [go_sem, Nat.reduceAdd, Nat.reduceEqDiff, Nat.reduceMul, Nat.reduceLeDiff, Nat.reduceSub, Nat.reduceLT, ↓reduceIte, reduceCtorEq, List.reduceReplicate, List.flatten_cons, List.flatten_nil, List.append_nil, eq_self, Int.reduceLE, Int.reduceLT, Int.reduceToNat, Nat.min_eq_left, Int.reducePow, Int.reduceNeg, Int.reduceEq]
  refine loopV_of (fun m' e' h4 => ∃ i : Nat, m' = p.length - i ∧ i ≤ p.length ∧ h4 = h1 ∧
    e' = [(5, pv), (6, .int .u64 (numF (p.take i))), (7, .int .i64 (i : Int))]) _ ⟨0, rfl, Nat.zero_le _, rfl, rfl⟩ ?_
  rintro m' e' h4 ⟨i, rfl, hi, rfl, rfl⟩
  rcases Nat.lt_or_ge i p.length with hlt | hge
  case inl =>
    have d0 : decide ((i : Int) < (p.length : Int)) = true := decide_eq_true (by omega)
    have i5 : IntKind.i64.wrap ((i : Int) + 1) = ((i + 1 : Nat) : Int) := wrap_succ hlt (by unfold maxI; omega)
    have r0 := lp.rdK0 (.refl _) hlt
    obtain ⟨a, ha, hab⟩ := numF_nat (hpB.take i)
    obtain ⟨x, hx, hxb⟩ := hpB.nat i
    have hab2 : a < 2 ^ 48 := Nat.lt_of_lt_of_le hab (Nat.le_trans (Nat.pow_le_pow_right (by omega) (show (p.take i).length ≤ 4 by rw [List.length_take]; omega)) (by decide))
    have ho : IntKind.u64.wrap (IntKind.u64.wrap ((a : Int) * 256) + IntKind.u64.wrap (x : Int)) = ((a * 256 + x : Nat) : Int) := by
      simp only [IntKind.wrap_u64]; omega
    rw [ha]
    rw [hx] at r0
    simp (dsimp := false) only [↓ir.ref03_In_Num.l1.bw, go_sem, Nat.reduceAdd, Nat.reduceEqDiff, Nat.reduceMul, Nat.reduceLeDiff, Nat.reduceSub, Nat.reduceLT, ↓reduceIte, reduceCtorEq, List.reduceReplicate, List.flatten_cons, List.flatten_nil, List.append_nil, eq_self, Int.reduceLE, Int.reduceLT, Int.reduceToNat, Nat.min_eq_left, Int.reducePow, Int.reduceNeg, Int.reduceEq, lp.lenV, d0, lp.ixsN hlt, Nat.mul_one, r0, ho, i5]
    refine ⟨p.length - (i + 1), by omega, i + 1, rfl, hlt, ?_⟩
    have hs : numF (p.take (i + 1)) = ((a * 256 + x : Nat) : Int) := by
      rw [List.take_succ_eq_append_getElem hlt, numF_snoc, ha]
      have : p[i] = (x : Int) := by rw [← hx]; simp [List.getD_eq_getElem?_getD, hlt]
      rw [this]; omega
    rw [hs]
  obtain rfl : i = p.length := by omega
  have d0 : decide ((p.length : Int) < (p.length : Int)) = false := decide_eq_false (by omega)
  simp (dsimp := false) only [↓ir.ref03_In_Num.l1.bw, go_sem, Nat.reduceAdd, Nat.reduceEqDiff, Nat.reduceMul, Nat.reduceLeDiff, Nat.reduceSub, Nat.reduceLT, ↓reduceIte, reduceCtorEq, List.reduceReplicate, List.flatten_cons, List.flatten_nil, List.append_nil, eq_self, Int.reduceLE, Int.reduceLT, Int.reduceToNat, Nat.min_eq_left, Int.reducePow, Int.reduceNeg, Int.reduceEq, lp.lenV, d0]
  rw [List.take_length]
  exact ⟨rfl, H1, o1⟩
theorem rleft_spec {h : AHeap} {b : Nat} {r : List Int} {e : Int} (H : RnV h b r e) : Spec Try.prog nG fn.ref03_In_Left [.pointer (some ⟨b, 0, none⟩)] h (.int .i64 (r.length : Int)) h := by
  apply ir.ref03_In_Left.spec (Nat.le_of_ble_eq_true rfl)
  obtain ⟨v, l, a, f, ls, ne, hr, hal, hlB, hll⟩ := H.is
  have re := f.rd (off := 2) (n := 1) (vs := [.int .i64 e]) rfl (by simp)
  have ra := f.rd (off := 1) (n := 1) (vs := [.int .i64 ((a : Nat) : Int)]) rfl (by simp)
  have rv := f.rd (off := 0) (n := 1) (vs := [v]) rfl (by simp)
  by_cases he : e = 0
  · subst he
    have hrl : r.length = l.length - a := by rw [hr rfl, List.length_drop]
    have ws : IntKind.i64.wrap ((l.length : Int) - (a : Int)) = ((l.length - a : Nat) : Int) := sub_nat hal (by unfold maxI; omega)
    have b1 : ((0 : Int) != 0) = false := rfl
    simp (dsimp := false) only [↓ir.ref03_In_Left.bw, ir.ref03_In_Left.rs, go_sem, Nat.reduceAdd, Nat.reduceEqDiff, Nat.reduceMul, Nat.reduceLeDiff, Nat.reduceSub, Nat.reduceLT, ↓reduceIte, reduceCtorEq, List.reduceReplicate, List.flatten_cons, List.flatten_nil, List.append_nil, eq_self, Int.reduceLE, Int.reduceLT, Int.reduceToNat, Nat.min_eq_left, Int.reducePow, Int.reduceNeg, Int.reduceEq, re, b1, rv, ra, ls.lenV, ws]
    exact Fin.sc0 (by rw [hrl])
  · have b1 : (e != 0) = true := by simpa using he
    simp (dsimp := false) only [↓ir.ref03_In_Left.bw, ir.ref03_In_Left.rs, go_sem, Nat.reduceAdd, Nat.reduceEqDiff, Nat.reduceMul, Nat.reduceLeDiff, Nat.reduceSub, Nat.reduceLT, ↓reduceIte, reduceCtorEq, List.reduceReplicate, List.flatten_cons, List.flatten_nil, List.append_nil, eq_self, Int.reduceLE, Int.reduceLT, Int.reduceToNat, Nat.min_eq_left, Int.reducePow, Int.reduceNeg, Int.reduceEq, re, b1]
    rw [H.no he]
    exact Fin.sc0 rfl
theorem rend_spec {h : AHeap} {b : Nat} {r : List Int} {e : Int} (H : RnV h b r e) : SpecX Try.prog nG fn.ref03_In_End [.pointer (some ⟨b, 0, none⟩)] h fun v' h' => v' = .int .i64 (endF r e) ∧ Only b h h' := by
  refine SpecX.of_body (ir.ref03_In_End.spec (Nat.le_of_ble_eq_true rfl)) ?_
  simp (dsimp := false) only [↓ir.ref03_In_End.bw, ir.ref03_In_End.rs, go_sem, Nat.reduceAdd, Nat.reduceEqDiff, Nat.reduceMul, Nat.reduceLeDiff, Nat.reduceSub, Nat.reduceLT, ↓reduceIte, reduceCtorEq, List.reduceReplicate, List.flatten_cons, List.flatten_nil, List.append_nil, eq_self, Int.reduceLE, Int.reduceLT, Int.reduceToNat, Nat.min_eq_left, Int.reducePow, Int.reduceNeg, Int.reduceEq]
  refine callV_of (rleft_spec H) ?_
  obtain ⟨v, l, a, f, ls, ne, hr, hal, hlB, hll⟩ := H.is
  by_cases hr : 0 < r.length
  · have d0 : decide ((r.length : Int) > 0) = true := decide_eq_true (by omega)
    have d1 : decide (0 < (r.length : Int)) = true := d0
    have hw := f.wr (off := 2) (vs := [.int .i64 10]) (by simp)
    have e1 : setC [v, .int .i64 ((a : Nat) : Int), .int .i64 e] 2 [.int .i64 10] = [v, .int .i64 ((a : Nat) : Int), .int .i64 10] := rfl
    rw [e1] at hw
    have re := (f.set [v, .int .i64 ((a : Nat) : Int), .int .i64 10]).rd (off := 2) (n := 1) (vs := [.int .i64 10]) rfl (by simp)
    simp (dsimp := false) only [go_sem, Nat.reduceAdd, Nat.reduceEqDiff, Nat.reduceMul, Nat.reduceLeDiff, Nat.reduceSub, Nat.reduceLT, ↓reduceIte, reduceCtorEq, List.reduceReplicate, List.flatten_cons, List.flatten_nil, List.append_nil, eq_self, Int.reduceLE, Int.reduceLT, Int.reduceToNat, Nat.min_eq_left, Int.reducePow, Int.reduceNeg, Int.reduceEq, d0, d1, hw, re]
    exact ⟨by unfold endF; rw [if_pos hr], Only.set b h _⟩
  · have d0 : decide ((r.length : Int) > 0) = false := decide_eq_false (by omega)
    have d1 : decide (0 < (r.length : Int)) = false := d0
    have re := f.rd (off := 2) (n := 1) (vs := [.int .i64 e]) rfl (by simp)
    simp (dsimp := false) only [go_sem, Nat.reduceAdd, Nat.reduceEqDiff, Nat.reduceMul, Nat.reduceLeDiff, Nat.reduceSub, Nat.reduceLT, ↓reduceIte, reduceCtorEq, List.reduceReplicate, List.flatten_cons, List.flatten_nil, List.append_nil, eq_self, Int.reduceLE, Int.reduceLT, Int.reduceToNat, Nat.min_eq_left, Int.reducePow, Int.reduceNeg, Int.reduceEq, d0, d1, re]
    exact ⟨by unfold endF; rw [if_neg hr], Only.refl _ _⟩
end Go.Proofs.YtbomppdiiaodbaaRRR.B
/-
  Signed records (layer 11): a record is read, by the document (second part).
-/
namespace Go.Proofs.YtbomppdiiaodbaaRRR.B
open Go
set_option linter.unusedVariables false
set_option linter.unusedSimpArgs false
set_option maxRecDepth 100000
def fillF (p : List Int) (i : Nat) : List Int := p.take i ++ irep (16 - i) 0
theorem fillF_len {p : List Int} {i : Nat} (h : i ≤ 16) (hp : i ≤ p.length) : (fillF p i).length = 16 := by
  simp only [fillF, irep, List.length_append, List.length_take, List.length_replicate]; omega
theorem fillF_set {p : List Int} {i : Nat} (h : i < 16) (hp : i < p.length) : (fillF p i).set i (p.getD i 0) = fillF p (i + 1) := by
  have hl : (p.take i).length = i := by rw [List.length_take]; omega
  unfold fillF irep
  rw [List.set_append_right _ _ (by omega), hl, Nat.sub_self, show 16 - i = (16 - (i + 1)) + 1 by omega, List.replicate_succ, List.set_cons_zero, List.take_succ_eq_append_getElem (by omega), List.append_assoc]
  simp [List.getD_eq_getElem?_getD, hp]
theorem rnsum_spec {h : AHeap} {b : Nat} {r : List Int} {e : Int} (H : RnV h b r e) : SpecX Try.prog nG fn.ref03_In_Sum [.pointer (some ⟨b, 0, none⟩)] h fun v' h' =>
    v' = .agg ⟨ik .u8 (sumF (nextF r e 16).1)⟩ ∧ RnV h' b (nextF r e 16).2.1 (nextF r e 16).2.2 ∧ Only b h h' := by
  refine SpecX.of_body (ir.ref03_In_Sum.spec (Nat.le_of_ble_eq_true rfl)) ?_
  obtain ⟨_, _, _, f, _⟩ := H.is
  have hbl := f.lt
  simp (dsimp := false) only [↓ir.ref03_In_Sum.bw, ir.ref03_In_Sum.rs, go_sem, Nat.reduceAdd, Nat.reduceEqDiff, Nat.reduceMul, Nat.reduceLeDiff, Nat.reduceSub, Nat.reduceLT, ↓reduceIte, reduceCtorEq, List.reduceReplicate, List.flatten_cons, List.flatten_nil, List.append_nil, eq_self, Int.reduceLE, Int.reduceLT, Int.reduceToNat, Nat.min_eq_left, Int.reducePow, Int.reduceNeg, Int.reduceEq, zrep_ik]
  have f1 : Fx (h ++ [AObj.row .fix (ik .u8 (irep 16 0)), AObj.row .fix (ik .u8 (irep 16 0))]) h.length (ik .u8 (irep 16 0)) := Fx.here _ _ _
  have f2 : Fx (h ++ [AObj.row .fix (ik .u8 (irep 16 0)), AObj.row .fix (ik .u8 (irep 16 0))]) (h.length + 1) (ik .u8 (irep 16 0)) := by simp [Fx]
  have H1 : RnV (h ++ [AObj.row .fix (ik .u8 (irep 16 0)), AObj.row .fix (ik .u8 (irep 16 0))]) b r e := H.pre (.app _ _)
  have q0 : Only b h (h ++ [AObj.row .fix (ik .u8 (irep 16 0)), AObj.row .fix (ik .u8 (irep 16 0))]) := .of_pre (.app _ _)
  generalize (h ++ [AObj.row .fix (ik .u8 (irep 16 0)), AObj.row .fix (ik .u8 (irep 16 0))]) = h1 at f1 f2 H1 q0 ⊢
  refine callV_x (raw_spec (n := 16) H1 (by omega) (by omega)) ?_
  rintro pv h2 ⟨lp, H2, o2, hpv⟩
  have h1l := f2.lt
  obtain ⟨p, hp⟩ : ∃ p, (nextF r e 16).1 = p := ⟨_, rfl⟩
  have h2l := nextF_two r e 16
  rw [hp] at lp h2l ⊢
  have g1 := f1.only o2 (by omega)
  have g2 : Fx h2 (h.length + 1) (ik .u8 (fillF p 0)) := f2.only o2 (by omega)
  have oo := q0.trans o2
  simp (dsimp := false) only [go_sem, Nat.reduceAdd, Nat.reduceEqDiff, Nat.reduceMul, Nat.reduceLeDiff, Nat.reduceSub, Nat.reduceLT, ↓reduceIte, reduceCtorEq, List.reduceReplicate, List.flatten_cons, List.flatten_nil, List.append_nil, eq_self, Int.reduceLE, Int.reduceLT, Int.reduceToNat, Nat.min_eq_left, Int.reducePow, Int.reduceNeg, Int.reduceEq]
  have hpb : p.length ≠ 0 → sb pv ≠ h.length + 1 := fun hn => by
    have := hpv.resolve_left (lp.nnil (by omega))
    omega
  refine loopV_of (fun m' e' h4 => ∃ i : Nat, m' = p.length - i ∧ i ≤ p.length ∧ Fx h4 h.length (ik .u8 (irep 16 0)) ∧ Fx h4 (h.length + 1) (ik .u8 (fillF p i)) ∧ RnV h4 b (nextF r e 16).2.1 (nextF r e 16).2.2 ∧ Only b h h4 ∧ Ls h4 1 by8 pv p ∧
    e' = [(2, .pointer (some ⟨h.length, 0, none⟩)), (3, .pointer (some ⟨h.length + 1, 0, none⟩)), (4, pv), (5, .int .i64 (i : Int))]) _ ⟨0, rfl, Nat.zero_le _, g1, g2, H2, oo, lp, rfl⟩ ?_
  clear f1 f2 H1 q0 g1 g2 H2 oo lp o2
  rintro m' e' h4 ⟨i, rfl, hi, g1, g2, H2, oo, lp, rfl⟩
  rcases Nat.lt_or_ge i p.length with hlt | hge
  case inl =>
    have d0 : decide ((i : Int) < (p.length : Int)) = true := decide_eq_true (by omega)
    have i5 : IntKind.i64.wrap ((i : Int) + 1) = ((i + 1 : Nat) : Int) := wrap_succ hlt lp.le
    have r0 := lp.rdK0 (.refl _) hlt
    have hw := g2.kwr (i := i) (by rw [fillF_len (by omega) hi]; omega) (p.getD i 0)
    rw [fillF_set (by omega) hlt] at hw
    simp (dsimp := false) only [↓ir.ref03_In_Sum.l1.bw, go_sem, Nat.reduceAdd, Nat.reduceEqDiff, Nat.reduceMul, Nat.reduceLeDiff, Nat.reduceSub, Nat.reduceLT, ↓reduceIte, reduceCtorEq, List.reduceReplicate, List.flatten_cons, List.flatten_nil, List.append_nil, eq_self, Int.reduceLE, Int.reduceLT, Int.reduceToNat, Nat.min_eq_left, Int.reducePow, Int.reduceNeg, Int.reduceEq, lp.lenV, d0, lp.ixsN hlt, Nat.mul_one, r0, Int.toNat_natCast, hw]
    (repeat (with_reducible refine And.intro (by omega) ?_))
    simp (dsimp := false) only [go_sem, Nat.reduceAdd, Nat.reduceEqDiff, Nat.reduceMul, Nat.reduceLeDiff, Nat.reduceSub, Nat.reduceLT, ↓reduceIte, reduceCtorEq, List.reduceReplicate, List.flatten_cons, List.flatten_nil, List.append_nil, eq_self, Int.reduceLE, Int.reduceLT, Int.reduceToNat, Nat.min_eq_left, Int.reducePow, Int.reduceNeg, Int.reduceEq, i5]
    exact ⟨p.length - (i + 1), by omega, i + 1, rfl, hlt, g1.other (by omega) _, g2.set _, H2.put (by omega) _, oo.put (by omega) _, lp.put (fun hn => hpb hn) _, rfl⟩
  obtain rfl : i = p.length := by omega
  have d0 : decide ((p.length : Int) < (p.length : Int)) = false := decide_eq_false (by omega)
  have hfs : fillF p p.length = sumF p := by
    unfold fillF sumF
    rw [List.take_length]
    rcases h2l with q | q
    · rw [if_neg (by omega), List.eq_nil_of_length_eq_zero q]; rfl
    · rw [if_pos q, q]; simp [irep]
  rw [hfs] at g2
  have hl : (ik .u8 (sumF p)).length = 16 := by rw [List.length_map, sumF_len]
  have rs := g2.whole hl
  have hw := g1.over (vs := ik .u8 (sumF p)) (by rw [hl, List.length_map, irep_len])
  have rr := (g1.set (ik .u8 (sumF p))).whole hl
  have ag : aggOf true (ik .u8 (sumF p)) = some (.agg ⟨ik .u8 (sumF p)⟩) := rfl
  have ca : cellsA (.agg ⟨ik .u8 (sumF p)⟩) = some (ik .u8 (sumF p)) := rfl
  simp (dsimp := false) only [↓ir.ref03_In_Sum.l1.bw, go_sem, Nat.reduceAdd, Nat.reduceEqDiff, Nat.reduceMul, Nat.reduceLeDiff, Nat.reduceSub, Nat.reduceLT, ↓reduceIte, reduceCtorEq, List.reduceReplicate, List.flatten_cons, List.flatten_nil, List.append_nil, eq_self, Int.reduceLE, Int.reduceLT, Int.reduceToNat, Nat.min_eq_left, Int.reducePow, Int.reduceNeg, Int.reduceEq, lp.lenV, d0, rs, ag, ca, hw, rr]
  exact ⟨hl, ik_one _ _, H2.put (by omega) _, oo.put (Nat.le_refl _) _⟩
end Go.Proofs.YtbomppdiiaodbaaRRR.B
