/-
  Layer 23: the table of slots; what is wrong with rules.
-/
import Derived.Test.YtoiihalnbdehkaaDoorCa
import Derived.Test.YtoiihalnbdehkaaDoorArF
import Derived.Test.YtoiihalnbdehkaaDoorAbZ
namespace Go.Proofs.YtoiihalnbdehkaaDoor.B
open Go
set_option linter.unusedVariables false
set_option linter.unusedSimpArgs false
/-- A slot's name, its least, its greatest number. -/
def slotN : Nat → ByteArray
  | 0 => ⟨#[119, 105, 100, 116, 104]⟩ | 1 => ⟨#[115, 116, 101, 112, 115]⟩ | 2 => ⟨#[104, 101, 105, 103, 104, 116]⟩ | 3 => ⟨#[100, 101, 97, 100]⟩ | 4 => ⟨#[119, 105, 110, 100, 111, 119]⟩
  | 5 => ⟨#[102, 114, 97, 109, 101, 115]⟩ | 6 => ⟨#[102, 114, 97, 109, 101, 115, 45, 116, 105, 99, 107]⟩ | 7 => ⟨#[98, 108, 111, 99, 107, 115]⟩ | 8 => ⟨#[98, 108, 111, 99, 107, 115, 45, 116, 105, 99, 107]⟩
  | 9 => ⟨#[104, 111, 108, 100]⟩ | 10 => ⟨#[108, 105, 102, 101]⟩ | 11 => ⟨#[112, 101, 114, 105, 111, 100]⟩ | 12 => ⟨#[115, 101, 116, 116, 108, 101]⟩ | 13 => ⟨#[109, 111, 115, 116]⟩ | _ => ⟨#[114, 111, 116, 97, 116, 101]⟩
def slotLo (i : Nat) : Int := [1, 1, 0, 1, 1, 1, 0, 1, 0, 0, 1, 1, 0, 64, 1].getD i 0
def slotHi (i : Nat) : Int := [8, 15, 6, 1048576, 64, 1073741824, 1073741824, 1073741824, 1073741824, 1048576, 1048576, 1048576, 1048576, 4096, 1048576].getD i 0
def slotC (b i : Nat) : List Value := [.string (slotN i), .pointer (some ⟨b, i, none⟩), .int .i64 (slotLo i), .int .i64 (slotHi i)]
abbrev isSlot (b : Nat) (c : List Value) (i : Nat) : Prop := c = slotC b i
def idx15 : List Nat := List.range 15
theorem idx15_len : idx15.length = 15 := rfl
theorem idx15_at {i : Nat} (hi : i < idx15.length) : idx15[i] = i := by simp [idx15]
theorem slots_spec (h : AHeap) (b : Nat) : SpecX Tryd.prog nG fn.config_Rules_slots [.pointer (some ⟨b, 0, none⟩)] h fun v' h' => Pre h h' ∧ Ls h' 4 (isSlot b) v' idx15 := by
  refine SpecX.of_body (ir.config_Rules_slots.spec (Nat.le_of_ble_eq_true rfl)) ?_
  simp (dsimp := false) only [↓ir.config_Rules_slots.bw, ir.config_Rules_slots.rs, go_sem, Nat.reduceAdd, Nat.reduceEqDiff, Nat.reduceMul, Nat.reduceLeDiff, Nat.reduceSub, Nat.reduceLT, ↓reduceIte, reduceCtorEq, List.reduceReplicate, List.flatten_cons, List.flatten_nil, List.append_nil, eq_self, Int.reduceLE, Int.reduceLT, Int.reduceToNat, Nat.min_eq_left, Int.reducePow, Int.reduceNeg, Int.reduceEq]
  refine Sl.ls (enc := slotC b) (fun _ => rfl) ?_ rfl
  exact litS (b := h.length) (cells := idx15.flatMap (slotC b)) (List.getElem?_concat_length) rfl (by unfold maxI; omega)
/-- What may be. -/
def goodI (i : Nat) (n : Int) : Prop := slotLo i ≤ n ∧ n ≤ slotHi i ∧ (i = 0 → n = 1 ∨ n = 2 ∨ n = 4 ∨ n = 8)
def rulC (L : List Int) : List Value := L.map (Value.int .i64)
theorem rulC_rd {L : List Int} {i : Nat} (hi : i < L.length) : ((rulC L).drop i).take 1 = [.int .i64 (L.getD i 0)] := by
  rw [rulC, List.drop_eq_getElem_cons (by simpa using hi)]
  simp [List.getD, hi]
theorem slot_name : ∀ i : Nat, i < 15 → i ≠ 0 → ((slotN i).toList == (⟨#[119, 105, 100, 116, 104]⟩ : ByteArray).toList) = false := by
  intro i hi h0
  match i, hi, h0 with
  | 1, _, _ | 2, _, _ | 3, _, _ | 4, _, _ | 5, _, _ | 6, _, _ | 7, _, _ | 8, _, _ | 9, _, _ | 10, _, _ | 11, _, _ | 12, _, _ | 13, _, _ | 14, _, _ => decide +kernel
theorem pow_at : ∀ n : Nat, n < 9 → 1 ≤ n → (IntKind.i64.wrap ((BitVec.ofInt IntKind.i64.bits (n : Int) &&& BitVec.ofInt IntKind.i64.bits (IntKind.i64.wrap ((n : Int) - 1))).toNat : Int) = 0 ↔ n = 1 ∨ n = 2 ∨ n = 4 ∨ n = 8) := by decide +kernel
theorem check_spec {h : AHeap} {L : List Int} (hL : L.length = 15) : ∃ (n : ByteArray) (e : Int), Spec Tryd.prog nG fn.config_Check [.agg ⟨rulC L⟩] h (.tuple #[.string n, .int .i64 e]) h ∧
    ((e = 0 ∧ n = ⟨#[]⟩ ∧ ∀ j, j < 15 → goodI j (L.getD j 0)) ∨ (e = 30 ∧ ∃ i, i < 15 ∧ n = slotN i ∧ ¬ goodI i (L.getD i 0) ∧ ∀ j, j < i → goodI j (L.getD j 0))) := by
  suffices H : SpecX Tryd.prog nG fn.config_Check [.agg ⟨rulC L⟩] h fun v' h' => Pre h h' ∧ ∃ (n : ByteArray) (e : Int), v' = .tuple #[.string n, .int .i64 e] ∧
      ((e = 0 ∧ n = ⟨#[]⟩ ∧ ∀ j, j < 15 → goodI j (L.getD j 0)) ∨ (e = 30 ∧ ∃ i, i < 15 ∧ n = slotN i ∧ ¬ goodI i (L.getD i 0) ∧ ∀ j, j < i → goodI j (L.getD j 0))) by
    obtain ⟨v', h', k, p, n, e, rfl, hq⟩ := H
    obtain ⟨g, rfl⟩ := p
    exact ⟨n, e, k.fin (Fin.tup (l := [.string n, .int .i64 e]) rfl rfl), hq⟩
  refine SpecX.of_body (ir.config_Check.spec (Nat.le_of_ble_eq_true rfl)) ?_
  simp (dsimp := false) only [↓ir.config_Check.bw, ir.config_Check.rs, go_sem, Nat.reduceAdd, Nat.reduceEqDiff, Nat.reduceMul, Nat.reduceLeDiff, Nat.reduceSub, Nat.reduceLT, ↓reduceIte, reduceCtorEq, List.reduceReplicate, List.flatten_cons, List.flatten_nil, List.append_nil, eq_self, Int.reduceLE, Int.reduceLT, Int.reduceToNat, Nat.min_eq_left, Int.reducePow, Int.reduceNeg, Int.reduceEq]
  refine callV_x (slots_spec _ h.length) ?_
  rintro v h1 ⟨hp1, ls⟩
  have fR : Fx h1 h.length (rulC L) := (Fx.here h _ []).pre hp1
  have hp01 : Pre h h1 := (Pre.app _ _).trans hp1
  have hlen : idx15.length = 15 := rfl
  simp (dsimp := false) only [go_sem, Nat.reduceAdd, Nat.reduceEqDiff, Nat.reduceMul, Nat.reduceLeDiff, Nat.reduceSub, Nat.reduceLT, ↓reduceIte, reduceCtorEq, List.reduceReplicate, List.flatten_cons, List.flatten_nil, List.append_nil, eq_self, Int.reduceLE, Int.reduceLT, Int.reduceToNat, Nat.min_eq_left, Int.reducePow, Int.reduceNeg, Int.reduceEq, ls.lenV, hlen]
  refine loopV_of (fun m e h2 => ∃ i : Nat, m = 15 - i ∧ i ≤ 15 ∧ Pre h1 h2 ∧ (∀ j, j < i → goodI j (L.getD j 0)) ∧ e = [(7, v), (8, .int .i64 15), (9, .int .i64 i)]) _ ⟨0, rfl, Nat.zero_le _, .refl _, fun j hj => absurd hj (Nat.not_lt_zero _), rfl⟩ ?_
  rintro m e h2 ⟨i, rfl, hi, hp, hg, rfl⟩
  rcases Nat.lt_or_ge i 15 with hlt | hge
  · have e0 : (i : Int) < 15 := by omega
    have wi : IntKind.i64.wrap ((i : Int) + 1) = ((i + 1 : Nat) : Int) := wrap_succ hlt (by unfold maxI; omega)
    obtain ⟨_, _, t0, r0, r1⟩ := ls.rd2 hp (i := i) (by rw [hlen]; exact hlt)
    have rn : ∀ g, rds (h2 ++ g) h.length i 1 = some [.int .i64 (L.getD i 0)] := (fR.pre hp).rdA (rulC_rd (by omega)) (by simp [rulC]; omega)
    rw [idx15_at] at t0
    subst t0
    have done : goodI i (L.getD i 0) → ∀ g, ∃ m', m' < 15 - i ∧ ∃ j : Nat, m' = 15 - j ∧ j ≤ 15 ∧ Pre h1 (h2 ++ g) ∧ (∀ k, k < j → goodI k (L.getD k 0)) ∧ [(7, v), (8, Value.int .i64 15), (9, .int .i64 ((i + 1 : Nat) : Int))] = [(7, v), (8, .int .i64 15), (9, .int .i64 (j : Int))] := fun q g =>
      ⟨15 - (i + 1), by omega, i + 1, rfl, hlt, hp.app' g, fun k hk => by
        rcases Nat.lt_or_ge k i with z | z
        · exact hg k z
        · obtain rfl : k = i := by omega
          exact q, rfl⟩
    have bad : ¬ goodI i (L.getD i 0) → ∀ g, Pre h (h2 ++ g) ∧ ∃ (n : ByteArray) (e : Int), Value.tuple #[.string (slotN i), .int .i64 30] = .tuple #[.string n, .int .i64 e] ∧
      ((e = 0 ∧ n = ⟨#[]⟩ ∧ ∀ j, j < 15 → goodI j (L.getD j 0)) ∨ (e = 30 ∧ ∃ i, i < 15 ∧ n = slotN i ∧ ¬ goodI i (L.getD i 0) ∧ ∀ j, j < i → goodI j (L.getD j 0))) := fun q g =>
      ⟨(hp01.trans hp).app' g, _, _, rfl, .inr ⟨rfl, i, hlt, rfl, q, hg⟩⟩
    obtain ⟨N, hN⟩ : ∃ N, L.getD i 0 = N := ⟨_, rfl⟩
    rw [hN] at rn done bad
    obtain ⟨W, hW⟩ : ∃ W, ((slotN i).toList == (⟨#[119, 105, 100, 116, 104]⟩ : ByteArray).toList) = W := ⟨_, rfl⟩
    have hW2 : (W = true → i = 0) ∧ (W = false → i ≠ 0) := by
      refine ⟨fun q => ?_, fun q h0 => ?_⟩
      · by_cases h0 : i = 0
        · exact h0
        · rw [slot_name i hlt h0] at hW; rw [← hW] at q; cases q
      · subst h0
        rw [q] at hW
        revert hW
        decide +kernel
    simp (dsimp := false) only [↓ir.config_Check.l1.bw, go_sem, Nat.reduceAdd, Nat.reduceEqDiff, Nat.reduceMul, Nat.reduceLeDiff, Nat.reduceSub, Nat.reduceLT, ↓reduceIte, reduceCtorEq, List.reduceReplicate, List.flatten_cons, List.flatten_nil, List.append_nil, eq_self, Int.reduceLE, Int.reduceLT, Int.reduceToNat, Nat.min_eq_left, Int.reducePow, Int.reduceNeg, Int.reduceEq, e0, decide_true, ls.ixsN (show i < idx15.length by rw [hlen]; exact hlt), r0, slotC]
    simp (dsimp := false) only [go_sem, Nat.reduceAdd, Nat.reduceEqDiff, Nat.reduceMul, Nat.reduceLeDiff, Nat.reduceSub, Nat.reduceLT, ↓reduceIte, reduceCtorEq, List.reduceReplicate, List.flatten_cons, List.flatten_nil, List.append_nil, eq_self, Int.reduceLE, Int.reduceLT, Int.reduceToNat, Nat.min_eq_left, Int.reducePow, Int.reduceNeg, Int.reduceEq, rn]
    refine gFd (fun c1 => ?_) (fun c1 => ?_)
    · simp (dsimp := false) only [go_sem, Nat.reduceAdd, Nat.reduceEqDiff, Nat.reduceMul, Nat.reduceLeDiff, Nat.reduceSub, Nat.reduceLT, ↓reduceIte, reduceCtorEq, List.reduceReplicate, List.flatten_cons, List.flatten_nil, List.append_nil, eq_self, Int.reduceLE, Int.reduceLT, Int.reduceToNat, Nat.min_eq_left, Int.reducePow, Int.reduceNeg, Int.reduceEq, rn]
      exact bad (fun q => by have := q.1; omega) _
    · simp (dsimp := false) only [go_sem, Nat.reduceAdd, Nat.reduceEqDiff, Nat.reduceMul, Nat.reduceLeDiff, Nat.reduceSub, Nat.reduceLT, ↓reduceIte, reduceCtorEq, List.reduceReplicate, List.flatten_cons, List.flatten_nil, List.append_nil, eq_self, Int.reduceLE, Int.reduceLT, Int.reduceToNat, Nat.min_eq_left, Int.reducePow, Int.reduceNeg, Int.reduceEq, rn, gt_iff_lt]
      refine gFd (fun c2 => ?_) (fun c2 => ?_)
      · simp (dsimp := false) only [go_sem, Nat.reduceAdd, Nat.reduceEqDiff, Nat.reduceMul, Nat.reduceLeDiff, Nat.reduceSub, Nat.reduceLT, ↓reduceIte, reduceCtorEq, List.reduceReplicate, List.flatten_cons, List.flatten_nil, List.append_nil, eq_self, Int.reduceLE, Int.reduceLT, Int.reduceToNat, Nat.min_eq_left, Int.reducePow, Int.reduceNeg, Int.reduceEq, rn]
        exact bad (fun q => by have := q.2.1; omega) _
      · simp (dsimp := false) only [go_sem, Nat.reduceAdd, Nat.reduceEqDiff, Nat.reduceMul, Nat.reduceLeDiff, Nat.reduceSub, Nat.reduceLT, ↓reduceIte, reduceCtorEq, List.reduceReplicate, List.flatten_cons, List.flatten_nil, List.append_nil, eq_self, Int.reduceLE, Int.reduceLT, Int.reduceToNat, Nat.min_eq_left, Int.reducePow, Int.reduceNeg, Int.reduceEq, rn, hW]
        cases W
        · have h0 := hW2.2 rfl
          simp (dsimp := false) only [go_sem, Nat.reduceAdd, Nat.reduceEqDiff, Nat.reduceMul, Nat.reduceLeDiff, Nat.reduceSub, Nat.reduceLT, ↓reduceIte, reduceCtorEq, List.reduceReplicate, List.flatten_cons, List.flatten_nil, List.append_nil, eq_self, Int.reduceLE, Int.reduceLT, Int.reduceToNat, Nat.min_eq_left, Int.reducePow, Int.reduceNeg, Int.reduceEq, wi]
          exact done ⟨by omega, by omega, fun q => absurd q h0⟩ _
        · obtain rfl := hW2.1 rfl
          have l0 : slotLo 0 = 1 := rfl
          have u0 : slotHi 0 = 8 := rfl
          obtain ⟨n, rfl⟩ : ∃ n : Nat, N = n := ⟨N.toNat, by omega⟩
          have pw := pow_at n (by omega) (by omega)
          simp (dsimp := false) only [go_sem, Nat.reduceAdd, Nat.reduceEqDiff, Nat.reduceMul, Nat.reduceLeDiff, Nat.reduceSub, Nat.reduceLT, ↓reduceIte, reduceCtorEq, List.reduceReplicate, List.flatten_cons, List.flatten_nil, List.append_nil, eq_self, Int.reduceLE, Int.reduceLT, Int.reduceToNat, Nat.min_eq_left, Int.reducePow, Int.reduceNeg, Int.reduceEq]
          refine cVn (fun c3 => ?_) (fun c3 => ?_)
          · simp (dsimp := false) only [go_sem, Nat.reduceAdd, Nat.reduceEqDiff, Nat.reduceMul, Nat.reduceLeDiff, Nat.reduceSub, Nat.reduceLT, ↓reduceIte, reduceCtorEq, List.reduceReplicate, List.flatten_cons, List.flatten_nil, List.append_nil, eq_self, Int.reduceLE, Int.reduceLT, Int.reduceToNat, Nat.min_eq_left, Int.reducePow, Int.reduceNeg, Int.reduceEq, rn]
            refine bad (fun q => c3 (pw.2 ?_)) _
            have := q.2.2 rfl
            omega
          · simp (dsimp := false) only [go_sem, Nat.reduceAdd, Nat.reduceEqDiff, Nat.reduceMul, Nat.reduceLeDiff, Nat.reduceSub, Nat.reduceLT, ↓reduceIte, reduceCtorEq, List.reduceReplicate, List.flatten_cons, List.flatten_nil, List.append_nil, eq_self, Int.reduceLE, Int.reduceLT, Int.reduceToNat, Nat.min_eq_left, Int.reducePow, Int.reduceNeg, Int.reduceEq, wi]
            refine done ⟨by omega, by omega, fun _ => ?_⟩ _
            have := pw.1 c3
            omega
  · obtain rfl : i = 15 := by omega
    simp (dsimp := false) only [↓ir.config_Check.l1.bw, go_sem, Nat.reduceAdd, Nat.reduceEqDiff, Nat.reduceMul, Nat.reduceLeDiff, Nat.reduceSub, Nat.reduceLT, ↓reduceIte, reduceCtorEq, List.reduceReplicate, List.flatten_cons, List.flatten_nil, List.append_nil, eq_self, Int.reduceLE, Int.reduceLT, Int.reduceToNat, Nat.min_eq_left, Int.reducePow, Int.reduceNeg, Int.reduceEq, show ¬ ((15 : Nat) : Int) < 15 by omega, decide_false]
    exact ⟨hp01.trans hp, _, _, rfl, .inl ⟨rfl, rfl, hg⟩⟩
end Go.Proofs.YtoiihalnbdehkaaDoor.B
