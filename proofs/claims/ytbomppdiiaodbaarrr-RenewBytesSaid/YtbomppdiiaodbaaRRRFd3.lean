/-
  Fields (layer 3): numbers and sums that are read, by the program.
-/
import Derived.Test.YtbomppdiiaodbaaRRRFd2
namespace Go.Proofs.YtbomppdiiaodbaaRRR.B
open Go
set_option linter.unusedVariables false
set_option linter.unusedSimpArgs false
set_option maxRecDepth 100000
theorem or64 {a x : Nat} (ha : a < 2 ^ 56) (hx : x < 256) : IntKind.u64.wrap ((BitVec.ofInt IntKind.u64.bits (IntKind.u64.wrap ((a : Int) * 256)) ||| BitVec.ofInt IntKind.u64.bits (IntKind.u64.wrap (x : Int))).toNat) = ((a * 256 + x : Nat) : Int) := by
  have e1 : IntKind.u64.wrap ((a : Int) * 256) = ((2 ^ 8 * a : Nat) : Int) := by rw [IntKind.wrap_u64]; omega
  have e2 : IntKind.u64.wrap (x : Int) = (x : Int) := by rw [IntKind.wrap_u64]; omega
  rw [e1, e2]
  have e3 : (BitVec.ofInt IntKind.u64.bits ((2 ^ 8 * a : Nat) : Int) ||| BitVec.ofInt IntKind.u64.bits (x : Int)).toNat = 2 ^ 8 * a ||| x := by
    show (BitVec.ofInt 64 ((2 ^ 8 * a : Nat) : Int) ||| BitVec.ofInt 64 (x : Int)).toNat = _
    rw [BitVec.toNat_or, BitVec.toNat_ofInt, BitVec.toNat_ofInt]
    congr 1 <;> omega
  rw [e3, or_add 8 (by omega), IntKind.wrap_u64]
  omega
/-- The number that some bytes are. -/
def numF (p : List Int) : Int := p.foldl (fun a x => a * 256 + x) 0
theorem numF_snoc (p : List Int) (x : Int) : numF (p ++ [x]) = numF p * 256 + x := by simp [numF]
theorem fold_nat : ∀ (p : List Int) (a : Nat), IsB p → ∃ n : Nat, p.foldl (fun a x => a * 256 + x) (a : Int) = n ∧ n < (a + 1) * 256 ^ p.length
  | [], a, _ => ⟨a, rfl, by simp⟩
  | x :: p, a, h => by
    obtain ⟨h0, h1⟩ := h x (by simp)
    obtain ⟨n, k1, k2⟩ := fold_nat p (a * 256 + x.toNat) (fun y hy => h y (List.mem_cons_of_mem _ hy))
    refine ⟨n, ?_, ?_⟩
    · rw [List.foldl_cons, show (a : Int) * 256 + x = ((a * 256 + x.toNat : Nat) : Int) by omega]; exact k1
    · rw [List.length_cons, Nat.pow_succ, Nat.mul_comm (256 ^ p.length), ← Nat.mul_assoc]
      exact Nat.lt_of_lt_of_le k2 (Nat.mul_le_mul_right _ (by omega))
theorem numF_nat {p : List Int} (h : IsB p) : ∃ n : Nat, numF p = n ∧ n < 256 ^ p.length := by
  obtain ⟨n, a, b⟩ := fold_nat p 0 h
  exact ⟨n, a, by simpa using b⟩
theorem nextF_len (r : List Int) (e : Int) (n : Nat) : (nextF r e n).1.length ≤ n := by
  unfold nextF
  split
  · simp
  · split
    · simp
    · simp; omega
theorem nextF_isB {r : List Int} (e : Int) (n : Nat) (h : IsB r) : IsB (nextF r e n).1 := by
  unfold nextF
  split
  · exact IsB.nil
  · split
    · exact IsB.nil
    · exact h.take _
theorem num_spec {h : AHeap} {b : Nat} {r : List Int} {e : Int} {n : Nat} (H : InV h b r e) (hn : 0 < n) (hn2 : n ≤ 4) : SpecX Try.prog nG fn.field_In_num [.pointer (some ⟨b, 0, none⟩), .int .i64 (n : Int)] h fun v' h' =>
    v' = .int .u64 (numF (nextF r e n).1) ∧ InV h' b (nextF r e n).2.1 (nextF r e n).2.2 ∧ Only b h h' := by
  refine SpecX.of_body (ir.field_In_num.spec (Nat.le_of_ble_eq_true rfl)) ?_
  simp (dsimp := false) only [↓ir.field_In_num.bw, ir.field_In_num.rs, go_sem, Nat.reduceAdd, Nat.reduceEqDiff, Nat.reduceMul, Nat.reduceLeDiff, Nat.reduceSub, Nat.reduceLT, ↓reduceIte, reduceCtorEq, List.reduceReplicate, List.flatten_cons, List.flatten_nil, List.append_nil, eq_self, Int.reduceLE, Int.reduceLT, Int.reduceToNat, Nat.min_eq_left, Int.reducePow, Int.reduceNeg, Int.reduceEq]
  refine callV_x (next_spec H hn) ?_
  rintro pv h1 ⟨lp, H1, o1⟩
  have hpl := nextF_len r e n
  have hpB := nextF_isB e n H.isb
  obtain ⟨p, hp⟩ : ∃ p, (nextF r e n).1 = p := ⟨_, rfl⟩
  rw [hp] at lp hpl hpB ⊢
  simp (dsimp := false) only [go_sem, Nat.reduceAdd, Nat.reduceEqDiff, Nat.reduceMul, Nat.reduceLeDiff, Nat.reduceSub, Nat.reduceLT, ↓reduceIte, reduceCtorEq, List.reduceReplicate, List.flatten_cons, List.flatten_nil, List.append_nil, eq_self, Int.reduceLE, Int.reduceLT, Int.reduceToNat, Nat.min_eq_left, Int.reducePow, Int.reduceNeg, Int.reduceEq, lp.lenV]
  refine loopV_of (fun m' e' h4 => ∃ i : Nat, m' = p.length - i ∧ i ≤ p.length ∧ h4 = h1 ∧
    e' = [(5, .int .u64 (numF (p.take i))), (10, pv), (11, .int .i64 (p.length : Int)), (12, .int .i64 (i : Int))]) _ ⟨0, rfl, Nat.zero_le _, rfl, rfl⟩ ?_
  rintro m' e' h4 ⟨i, rfl, hi, rfl, rfl⟩
  rcases Nat.lt_or_ge i p.length with hlt | hge
  case inl =>
    have d0 : decide ((i : Int) < (p.length : Int)) = true := decide_eq_true (by omega)
    have i5 : IntKind.i64.wrap ((i : Int) + 1) = ((i + 1 : Nat) : Int) := wrap_succ hlt (by unfold maxI; omega)
    have r0 := lp.rdK0 (.refl _) hlt
    obtain ⟨a, ha, hab⟩ := numF_nat (hpB.take i)
    obtain ⟨x, hx, hxb⟩ := hpB.nat i
    have hab2 : a < 2 ^ 56 := Nat.lt_of_lt_of_le hab (Nat.le_trans (Nat.pow_le_pow_right (by omega) (show (p.take i).length ≤ 4 by rw [List.length_take]; omega)) (by decide))
    have ho := or64 hab2 hxb
    rw [ha]
    rw [hx] at r0
    simp (dsimp := false) only [↓ir.field_In_num.l1.bw, go_sem, Nat.reduceAdd, Nat.reduceEqDiff, Nat.reduceMul, Nat.reduceLeDiff, Nat.reduceSub, Nat.reduceLT, ↓reduceIte, reduceCtorEq, List.reduceReplicate, List.flatten_cons, List.flatten_nil, List.append_nil, eq_self, Int.reduceLE, Int.reduceLT, Int.reduceToNat, Nat.min_eq_left, Int.reducePow, Int.reduceNeg, Int.reduceEq, d0, lp.ixsN hlt, Nat.mul_one, r0, ho, i5]
    (repeat (with_reducible refine And.intro (by omega) ?_))
    refine ⟨p.length - (i + 1), by omega, i + 1, rfl, hlt, ?_⟩
    have hs : numF (p.take (i + 1)) = ((a * 256 + x : Nat) : Int) := by
      rw [List.take_succ_eq_append_getElem hlt, numF_snoc, ha]
      have : p[i] = (x : Int) := by rw [← hx]; simp [List.getD_eq_getElem?_getD, hlt]
      rw [this]; omega
    rw [hs]
  obtain rfl : i = p.length := by omega
  have d0 : decide ((p.length : Int) < (p.length : Int)) = false := decide_eq_false (by omega)
  simp (dsimp := false) only [↓ir.field_In_num.l1.bw, go_sem, Nat.reduceAdd, Nat.reduceEqDiff, Nat.reduceMul, Nat.reduceLeDiff, Nat.reduceSub, Nat.reduceLT, ↓reduceIte, reduceCtorEq, List.reduceReplicate, List.flatten_cons, List.flatten_nil, List.append_nil, eq_self, Int.reduceLE, Int.reduceLT, Int.reduceToNat, Nat.min_eq_left, Int.reducePow, Int.reduceNeg, Int.reduceEq, d0]
  rw [List.take_length]
  exact ⟨rfl, H1, o1⟩
theorem iu8_spec {h : AHeap} {b : Nat} {r : List Int} {e : Int} (H : InV h b r e) : SpecX Try.prog nG fn.field_In_U8 [.pointer (some ⟨b, 0, none⟩)] h fun v' h' =>
    v' = .int .u64 (numF (nextF r e 1).1) ∧ InV h' b (nextF r e 1).2.1 (nextF r e 1).2.2 ∧ Only b h h' := by
  refine SpecX.of_body (ir.field_In_U8.spec (Nat.le_of_ble_eq_true rfl)) ?_
  simp (dsimp := false) only [↓ir.field_In_U8.bw, ir.field_In_U8.rs, go_sem, Nat.reduceAdd, Nat.reduceEqDiff, Nat.reduceMul, Nat.reduceLeDiff, Nat.reduceSub, Nat.reduceLT, ↓reduceIte, reduceCtorEq, List.reduceReplicate, List.flatten_cons, List.flatten_nil, List.append_nil, eq_self, Int.reduceLE, Int.reduceLT, Int.reduceToNat, Nat.min_eq_left, Int.reducePow, Int.reduceNeg, Int.reduceEq]
  refine callV_x (num_spec (n := 1) H (by omega) (by omega)) ?_
  rintro _ h1 ⟨rfl, q⟩
  simp (dsimp := false) only [go_sem, Nat.reduceAdd, Nat.reduceEqDiff, Nat.reduceMul, Nat.reduceLeDiff, Nat.reduceSub, Nat.reduceLT, ↓reduceIte, reduceCtorEq, List.reduceReplicate, List.flatten_cons, List.flatten_nil, List.append_nil, eq_self, Int.reduceLE, Int.reduceLT, Int.reduceToNat, Nat.min_eq_left, Int.reducePow, Int.reduceNeg, Int.reduceEq]
  exact q
theorem iu32_spec {h : AHeap} {b : Nat} {r : List Int} {e : Int} (H : InV h b r e) : SpecX Try.prog nG fn.field_In_U32 [.pointer (some ⟨b, 0, none⟩)] h fun v' h' =>
    v' = .int .u64 (numF (nextF r e 4).1) ∧ InV h' b (nextF r e 4).2.1 (nextF r e 4).2.2 ∧ Only b h h' := by
  refine SpecX.of_body (ir.field_In_U32.spec (Nat.le_of_ble_eq_true rfl)) ?_
  simp (dsimp := false) only [↓ir.field_In_U32.bw, ir.field_In_U32.rs, go_sem, Nat.reduceAdd, Nat.reduceEqDiff, Nat.reduceMul, Nat.reduceLeDiff, Nat.reduceSub, Nat.reduceLT, ↓reduceIte, reduceCtorEq, List.reduceReplicate, List.flatten_cons, List.flatten_nil, List.append_nil, eq_self, Int.reduceLE, Int.reduceLT, Int.reduceToNat, Nat.min_eq_left, Int.reducePow, Int.reduceNeg, Int.reduceEq]
  refine callV_x (num_spec (n := 4) H (by omega) (by omega)) ?_
  rintro _ h1 ⟨rfl, q⟩
  simp (dsimp := false) only [go_sem, Nat.reduceAdd, Nat.reduceEqDiff, Nat.reduceMul, Nat.reduceLeDiff, Nat.reduceSub, Nat.reduceLT, ↓reduceIte, reduceCtorEq, List.reduceReplicate, List.flatten_cons, List.flatten_nil, List.append_nil, eq_self, Int.reduceLE, Int.reduceLT, Int.reduceToNat, Nat.min_eq_left, Int.reducePow, Int.reduceNeg, Int.reduceEq]
  exact q
theorem InV.pre {h h' : AHeap} {b : Nat} {r : List Int} {e : Int} (H : InV h b r e) (p : Pre h h') : InV h' b r e := by
  obtain ⟨v, f, l, ne⟩ := H.is
  exact ⟨H.isb, H.no, v, f.pre p, l.pre p, ne⟩
theorem Ls.rdsAll {k : IntKind} {h : AHeap} {v : Value} {l : List Int} (hv : Ls h 1 (isK k) v l) (hn : l.length ≠ 0) : ∃ b off cap, v = .slice (some ⟨b, off, none⟩) l.length cap ∧ rds h b off l.length = some (ik k l) := by
  have hs := hv.src (.refl _)
  obtain ⟨cs, a, _⟩ := hv
  generalize hN : l.length = n at a hn hs
  cases a with
  | nil => exact absurd rfl hn
  | void => exact absurd rfl hn
  | row hl hr hc hb ho hm =>
    rename_i b off cap
    refine ⟨b, off, cap, rfl, ?_⟩
    obtain ⟨m, rfl⟩ : ∃ m, n = m + 1 := ⟨n - 1, by omega⟩
    simp only [appSrc, Nat.mul_one] at hs
    cases q : rds h b off (m + 1) with
    | none => rw [q] at hs; cases hs
    | some vs => rw [q] at hs; simp at hs; rw [hs]
def sumF (p : List Int) : List Int := if p.length = 16 then p else irep 16 0
theorem sumF_len (p : List Int) : (sumF p).length = 16 := by
  unfold sumF
  split
  · assumption
  · rw [irep_len]
theorem nextF_two (r : List Int) (e : Int) (n : Nat) : (nextF r e n).1.length = 0 ∨ (nextF r e n).1.length = n := by
  unfold nextF
  split
  · exact .inl rfl
  · split
    · exact .inl rfl
    · right; simp; omega
theorem isum_spec {h : AHeap} {b : Nat} {r : List Int} {e : Int} (H : InV h b r e) : SpecX Try.prog nG fn.field_In_Sum [.pointer (some ⟨b, 0, none⟩)] h fun v' h' =>
    v' = .agg ⟨ik .u8 (sumF (nextF r e 16).1)⟩ ∧ InV h' b (nextF r e 16).2.1 (nextF r e 16).2.2 ∧ Only b h h' := by
  refine SpecX.of_body (ir.field_In_Sum.spec (Nat.le_of_ble_eq_true rfl)) ?_
  obtain ⟨_, f, _, _⟩ := H.is
  have hbl := f.lt
  simp (dsimp := false) only [↓ir.field_In_Sum.bw, ir.field_In_Sum.rs, go_sem, Nat.reduceAdd, Nat.reduceEqDiff, Nat.reduceMul, Nat.reduceLeDiff, Nat.reduceSub, Nat.reduceLT, ↓reduceIte, reduceCtorEq, List.reduceReplicate, List.flatten_cons, List.flatten_nil, List.append_nil, eq_self, Int.reduceLE, Int.reduceLT, Int.reduceToNat, Nat.min_eq_left, Int.reducePow, Int.reduceNeg, Int.reduceEq, zrep_ik]
  have f1 : Fx (h ++ [AObj.row .fix (ik .u8 (irep 16 0)), AObj.row .fix (ik .u8 (irep 16 0))]) h.length (ik .u8 (irep 16 0)) := Fx.here _ _ _
  have f2 : Fx (h ++ [AObj.row .fix (ik .u8 (irep 16 0)), AObj.row .fix (ik .u8 (irep 16 0))]) (h.length + 1) (ik .u8 (irep 16 0)) := by simp [Fx]
  have H1 : InV (h ++ [AObj.row .fix (ik .u8 (irep 16 0)), AObj.row .fix (ik .u8 (irep 16 0))]) b r e := H.pre (.app _ _)
  have q0 : Only b h (h ++ [AObj.row .fix (ik .u8 (irep 16 0)), AObj.row .fix (ik .u8 (irep 16 0))]) := .of_pre (.app _ _)
  generalize (h ++ [AObj.row .fix (ik .u8 (irep 16 0)), AObj.row .fix (ik .u8 (irep 16 0))]) = h1 at f1 f2 H1 q0 ⊢
  obtain ⟨pv, h2, hs, lp, H2, o2⟩ := next_spec (n := 16) H1 (by omega)
  obtain ⟨p, hp⟩ : ∃ p, (nextF r e 16).1 = p := ⟨_, rfl⟩
  have h2l := nextF_two r e 16
  have hpB := nextF_isB e 16 H.isb
  rw [hp] at lp h2l hpB ⊢
  have g1 := f1.only o2 (by omega)
  have g2 := f2.only o2 (by omega)
  have s1 := slaOK_at f2
  have s2 := slaOK_at g2
  obtain ⟨n, hc⟩ : ∃ n : Nat, cpyA h2 1 (.slice (some ⟨h.length + 1, 0, none⟩) 16 16) pv = some (n, h2.set (h.length + 1) (.row .fix (ik .u8 (sumF p)))) := by
    obtain ⟨a, c, rfl, _⟩ := lp.is
    rcases h2l with hz | hz
    · refine ⟨0, ?_⟩
      have : sumF p = irep 16 0 := by unfold sumF; rw [if_neg (by omega)]
      rw [this, hz]
      have hsame : h2.set (h.length + 1) (.row .fix (ik .u8 (irep 16 0))) = h2 := by
        apply List.ext_getElem?
        intro i
        rw [List.getElem?_set]
        split
        · rename_i q; subst q
          rw [if_pos g2.lt]; exact g2.symm
        · rfl
      rw [hsame]; rfl
    · refine ⟨16, ?_⟩
      have : sumF p = p := by unfold sumF; rw [if_pos hz]
      rw [this]
      have lp' : Ls h2 1 by8 (.slice a p.length c) p := lp
      obtain ⟨bb, off, cap, ea, hr⟩ := lp'.rdsAll (by omega)
      have hw := g2.wr (off := 0) (vs := ik .u8 p) (by rw [List.length_map, List.length_map, irep_len]; omega)
      rw [setC_all (by rw [List.length_map, List.length_map, irep_len]; omega)] at hw
      rw [ea, hz]
      rw [hz] at hr
      simp only [cpyA, Nat.min_self, Nat.mul_one, hr, ik_one, if_true, hw, Option.map_some]
      rfl
  have r0 : readyL [[], [], [1], [0, 2, 2]] [false, false, false, false] = [0, 1] := rfl
  have r1 : readyL [[], [], [1], [0, 2, 2]] [true, false, false, false] = [1] := rfl
  have r2 : readyL [[], [], [1], [0, 2, 2]] [false, true, false, false] = [0, 2] := rfl
  have r3 : readyL [[], [], [1], [0, 2, 2]] [true, true, false, false] = [2] := rfl
  have r4 : readyL [[], [], [1], [0, 2, 2]] [false, true, true, false] = [0] := rfl
  have r5 : readyL [[], [], [1], [0, 2, 2]] [true, true, true, false] = [3] := rfl
  have r6 : readyL [[], [], [1], [0, 2, 2]] [true, true, true, true] = [] := rfl
  refine anyV_of [(2, .pointer (some ⟨h.length, 0, none⟩)), (3, .pointer (some ⟨h.length + 1, 0, none⟩))] (h2.set (h.length + 1) (.row .fix (ik .u8 (sumF p)))) ?_ ?_
  · simp only [List.length_cons, List.length_nil, Nat.zero_add, Nat.reduceAdd, List.replicate, wpA, r0, r1, r2, r3, r4, r5, r6, allL, List.set_cons_zero, List.set_cons_succ, List.getElem?_cons_zero, List.getElem?_cons_succ]
    simp (dsimp := false) only [go_sem, Nat.reduceAdd, Nat.reduceEqDiff, Nat.reduceMul, Nat.reduceLeDiff, Nat.reduceSub, Nat.reduceLT, ↓reduceIte, reduceCtorEq, List.reduceReplicate, List.flatten_cons, List.flatten_nil, List.append_nil, eq_self, Int.reduceLE, Int.reduceLT, Int.reduceToNat, Nat.min_eq_left, Int.reducePow, Int.reduceNeg, Int.reduceEq, Option.getD_none, Int.toNat_zero, Nat.zero_mul, ite_self, Nat.sub_zero, Int.toNat_natCast, s1, s2, ne_eq, not_false_eq_true, true_and, and_true, reduceCtorEq, List.cons_ne_nil]
    refine ⟨⟨by omega, callV_of hs ?_⟩, ⟨by omega, callV_of hs ?_⟩, callV_of hs ?_⟩
    · simp (dsimp := false) only [go_sem, Nat.reduceAdd, Nat.reduceEqDiff, Nat.reduceMul, Nat.reduceLeDiff, Nat.reduceSub, Nat.reduceLT, ↓reduceIte, reduceCtorEq, List.reduceReplicate, List.flatten_cons, List.flatten_nil, List.append_nil, eq_self, Int.reduceLE, Int.reduceLT, Int.reduceToNat, Nat.min_eq_left, Int.reducePow, Int.reduceNeg, Int.reduceEq, Option.getD_none, Int.toNat_zero, Nat.zero_mul, ite_self, Nat.sub_zero, Int.toNat_natCast, Nat.add_zero, s1, s2, ne_eq, not_false_eq_true, true_and, and_true, reduceCtorEq, List.cons_ne_nil, cpyV, hc]
    · simp (dsimp := false) only [go_sem, Nat.reduceAdd, Nat.reduceEqDiff, Nat.reduceMul, Nat.reduceLeDiff, Nat.reduceSub, Nat.reduceLT, ↓reduceIte, reduceCtorEq, List.reduceReplicate, List.flatten_cons, List.flatten_nil, List.append_nil, eq_self, Int.reduceLE, Int.reduceLT, Int.reduceToNat, Nat.min_eq_left, Int.reducePow, Int.reduceNeg, Int.reduceEq, Option.getD_none, Int.toNat_zero, Nat.zero_mul, ite_self, Nat.sub_zero, Int.toNat_natCast, Nat.add_zero, s1, s2, ne_eq, not_false_eq_true, true_and, and_true, reduceCtorEq, List.cons_ne_nil, cpyV, hc]
    · simp (dsimp := false) only [go_sem, Nat.reduceAdd, Nat.reduceEqDiff, Nat.reduceMul, Nat.reduceLeDiff, Nat.reduceSub, Nat.reduceLT, ↓reduceIte, reduceCtorEq, List.reduceReplicate, List.flatten_cons, List.flatten_nil, List.append_nil, eq_self, Int.reduceLE, Int.reduceLT, Int.reduceToNat, Nat.min_eq_left, Int.reducePow, Int.reduceNeg, Int.reduceEq, Option.getD_none, Int.toNat_zero, Nat.zero_mul, ite_self, Nat.sub_zero, Int.toNat_natCast, Nat.add_zero, s1, s2, ne_eq, not_false_eq_true, true_and, and_true, reduceCtorEq, List.cons_ne_nil, cpyV, hc]
      omega
  have g3 := g2.set (ik .u8 (sumF p))
  have g4 := g1.other (show h.length + 1 ≠ h.length by omega) (.row .fix (ik .u8 (sumF p)))
  have hlt : (ik .u8 (sumF p)).length = 16 := by rw [List.length_map, sumF_len]
  have rs := g3.rd (off := 0) (n := 16) (vs := ik .u8 (sumF p)) (by rw [List.drop_zero, List.take_of_length_le (by omega)]) (by omega)
  have hw := g4.wr (off := 0) (vs := ik .u8 (sumF p)) (by rw [hlt, List.length_map, irep_len]; omega)
  rw [setC_all (by rw [hlt, List.length_map, irep_len])] at hw
  have g5 := g4.set (ik .u8 (sumF p))
  have rr := g5.rd (off := 0) (n := 16) (vs := ik .u8 (sumF p)) (by rw [List.drop_zero, List.take_of_length_le (by omega)]) (by omega)
  have ag : aggOf true (ik .u8 (sumF p)) = some (.agg ⟨ik .u8 (sumF p)⟩) := rfl
  have ca2 : cellsA (.agg ⟨ik .u8 (sumF p)⟩) = some (ik .u8 (sumF p)) := rfl
  simp (dsimp := false) only [go_sem, Nat.reduceAdd, Nat.reduceEqDiff, Nat.reduceMul, Nat.reduceLeDiff, Nat.reduceSub, Nat.reduceLT, ↓reduceIte, reduceCtorEq, List.reduceReplicate, List.flatten_cons, List.flatten_nil, List.append_nil, eq_self, Int.reduceLE, Int.reduceLT, Int.reduceToNat, Nat.min_eq_left, Int.reducePow, Int.reduceNeg, Int.reduceEq, rs, ag, ca2, hw, rr]
  have h20 := o2.1
  have h10 := q0.1
  refine ⟨hlt, ik_one _ _, ?_, ?_⟩
  · obtain ⟨v, f, l, ne⟩ := H2.is
    have k1 : Fx (h2.set (h.length + 1) (.row .fix (ik .u8 (sumF p)))) b [v, .int .i64 (nextF r e 16).2.2] := f.other (by omega) _
    have k2 := k1.other (show h.length ≠ b by omega) (.row .fix (ik .u8 (sumF p)))
    have lt : ∀ n : Nat, n ≠ 0 → (nextF r e 16).2.1.length = n → sb v < b := fun n hn hl => ne.resolve_left (l.nnil (by omega))
    exact ⟨H2.isb, H2.no, v, k2, (l.put (fun hn e1 => by have := lt _ hn rfl; omega) _).put (fun hn e1 => by have := lt _ hn rfl; omega) _, ne⟩
  · refine ⟨by simp only [List.length_set]; omega, fun i hi hne => ?_⟩
    rw [List.getElem?_set_ne (by omega), List.getElem?_set_ne (by omega), o2.2 i (by omega) hne, q0.2 i hi hne]
end Go.Proofs.YtbomppdiiaodbaaRRR.B
