/-
  The best of some keys (layer 1).
-/
import Derived.Test.YtmeojocmngbpaaaRk
import Derived.Test.YtmeojocmngbpaaaArL
namespace Go.Proofs.Ytmeojocmngbpaaa.B
open Go
set_option linter.unusedVariables false
set_option linter.unusedSimpArgs false

structure K3 where
  e : Int
  s : Int
  m : Int

abbrev K3.c (k : K3) : List Value := [.int .u32 k.e, .int .u32 k.s, .int .i64 k.m]
abbrev isK (c : List Value) (k : K3) : Prop := c = k.c
def K3.cmp (a b : K3) : Int := cmpK a.e a.s a.m b.e b.s b.m

/-- The place of the best one. -/
def IsBest (l : List K3) (i : Nat) : Prop := ∃ a, l[i]? = some a ∧ (∀ (j : Nat) (b : K3), l[j]? = some b → ¬ 0 < b.cmp a) ∧ ∀ (j : Nat) (b : K3), j < i → l[j]? = some b → 0 < a.cmp b
def BestR (l : List K3) (r : Int) : Prop := (l = [] ∧ r = -1) ∨ ∃ i : Nat, r = i ∧ IsBest l i

theorem K3.cmp_self (a : K3) : ¬ 0 < a.cmp a := by unfold K3.cmp; rw [cmpK_pos]; omega
theorem K3.cmp_pos {a b : K3} : 0 < a.cmp b ↔ b.e < a.e ∨ a.e = b.e ∧ (b.s < a.s ∨ a.s = b.s ∧ a.m < b.m) := cmpK_pos
theorem K3.cmp_tr {a b c : K3} (h : 0 < a.cmp b) (k : ¬ 0 < c.cmp b) : 0 < a.cmp c := by rw [K3.cmp_pos] at *; omega
theorem take_succ_get {α : Type} {l : List α} {i j : Nat} {b : α} (h : (l.take (i + 1))[j]? = some b) : (l.take i)[j]? = some b ∨ (j = i ∧ l[i]? = some b) := by
  rw [List.getElem?_take] at *
  split at h
  · by_cases e : j < i
    · rw [if_pos e]; exact .inl h
    · obtain rfl : j = i := by omega
      exact .inr ⟨rfl, h⟩
  · cases h
theorem IsBest.step_new {l : List K3} {i j : Nat} (hj : IsBest (l.take i) j) (hi : i < l.length) {hjl : j < l.length} (hc : 0 < (l[i]).cmp l[j]) : IsBest (l.take (i + 1)) i := by
  obtain ⟨a, h1, h2, h3⟩ := hj
  have ha : l[j]? = some a := by rw [List.getElem?_take] at h1; split at h1 <;> first | exact h1 | cases h1
  rw [List.getElem?_eq_getElem hjl] at ha; cases ha
  have key : ∀ (j' : Nat) (b : K3), (l.take i)[j']? = some b → 0 < (l[i]).cmp b := fun j' b hb => K3.cmp_tr hc (h2 j' b hb)
  refine ⟨l[i], by simp [hi], fun j' b hb => ?_, fun j' b hlt hb => ?_⟩
  · rcases take_succ_get hb with q | ⟨rfl, q⟩
    · intro hcc; have := key j' b q; rw [K3.cmp_pos] at *; omega
    · rw [List.getElem?_eq_getElem hi] at q; cases q; exact K3.cmp_self _
  · rcases take_succ_get hb with q | ⟨rfl, q⟩
    · exact key j' b q
    · omega
theorem IsBest.step_old {l : List K3} {i j : Nat} (hj : IsBest (l.take i) j) (hi : i < l.length) {hjl : j < l.length} (hc : ¬ 0 < (l[i]).cmp l[j]) : IsBest (l.take (i + 1)) j := by
  obtain ⟨a, h1, h2, h3⟩ := hj
  have hji : j < i := by have := (List.getElem?_eq_some_iff.1 h1).1; simp at this; omega
  have ha : l[j]? = some a := by rw [List.getElem?_take] at h1; split at h1 <;> first | exact h1 | cases h1
  rw [List.getElem?_eq_getElem hjl] at ha; cases ha
  refine ⟨l[j], by rw [List.getElem?_take, if_pos (by omega)]; exact List.getElem?_eq_getElem hjl, fun j' b hb => ?_, fun j' b hlt hb => ?_⟩
  · rcases take_succ_get hb with q | ⟨rfl, q⟩
    · exact h2 j' b q
    · rw [List.getElem?_eq_getElem hi] at q; cases q; exact hc
  · rcases take_succ_get hb with q | ⟨rfl, q⟩
    · exact h3 j' b hlt q
    · omega

theorem IsBest.ex (l : List K3) : ∀ i, 0 < i → i ≤ l.length → ∃ j, IsBest (l.take i) j
  | 0, h, _ => by omega
  | 1, _, hl => by
    refine ⟨0, l[0], by simp, fun j b hj => ?_, fun j b hj => by omega⟩
    rw [List.getElem?_take] at hj
    split at hj
    · obtain rfl : j = 0 := by omega
      rw [List.getElem?_eq_getElem hl] at hj; cases hj
      exact K3.cmp_self _
    · cases hj
  | i + 2, _, hl => by
    obtain ⟨j, hj⟩ := IsBest.ex l (i + 1) (by omega) (by omega)
    have hjl : j < l.length := by
      obtain ⟨a, h1, _⟩ := hj
      have := (List.getElem?_eq_some_iff.1 h1).1; simp at this; omega
    by_cases hc : 0 < (l[i + 1]).cmp l[j]
    · exact ⟨_, hj.step_new (by omega) hc⟩
    · exact ⟨_, hj.step_old (by omega) hc⟩

theorem best_spec {h : AHeap} {v : Value} {l : List K3} (hv : Ls h 3 isK v l) : SpecX Try.prog nG fn.rank_Best [v] h fun v' h' => Pre h h' ∧ ∃ r, v' = .int .i64 r ∧ BestR l r := by
  refine SpecX.of_body (ir.rank_Best.spec (Nat.le_of_ble_eq_true rfl)) ?_
  simp (dsimp := false) only [↓ir.rank_Best.bw, ir.rank_Best.rs, ↓ir.rank_Best.r0.w, ↓ir.rank_Best.r1.w, ↓ir.rank_Best.r2.w, ↓ir.rank_Best.r3.w, ↓ir.rank_Best.r4.w, ↓ir.rank_Best.r5.w, ↓ir.rank_Best.r6.w, ↓ir.rank_Best.r7.w, ↓ir.rank_Best.l1.w, ↓ir.rank_Best.r8.w, ir.rank_Best.rs, go_sem, Nat.reduceAdd, Nat.reduceEqDiff, Nat.reduceMul, Nat.reduceLeDiff, Nat.reduceSub, Nat.reduceLT, ↓reduceIte, reduceCtorEq, List.reduceReplicate, List.flatten_cons, List.flatten_nil, List.append_nil, eq_self, hv.lenV]
  refine loopV_of (fun m e h2 => ∃ (i : Nat) (r : Int), m = l.length - i ∧ i ≤ l.length ∧ Pre h h2 ∧ BestR (l.take i) r ∧ e = [(0, v), (3, .int .i64 r), (6, v), (7, .int .i64 l.length), (8, .int .i64 i)]) _
    ⟨0, -1, rfl, Nat.zero_le _, .refl _, .inl ⟨rfl, rfl⟩, rfl⟩ ?_
  rintro m e h2 ⟨i, r, rfl, hi, hp, hb, rfl⟩
  rcases Nat.lt_or_ge i l.length with hlt | hge
  · obtain ⟨c, hc, hc2, r0, r1⟩ := hv.rd2 hp hlt
    subst hc2
    rcases hb with ⟨hb, rfl⟩ | ⟨j, rfl, hj⟩
    · simp (dsimp := false) only [↓ir.rank_Best.l1.bw, ↓ir.rank_Best.r0.w, ↓ir.rank_Best.r1.w, ↓ir.rank_Best.r2.w, ↓ir.rank_Best.r3.w, ↓ir.rank_Best.r4.w, ↓ir.rank_Best.r5.w, ↓ir.rank_Best.r6.w, ↓ir.rank_Best.r7.w, ↓ir.rank_Best.l1.w, ↓ir.rank_Best.r8.w, ir.rank_Best.rs, go_sem, Nat.reduceAdd, Nat.reduceEqDiff, Nat.reduceMul, Nat.reduceLeDiff, Nat.reduceSub, Nat.reduceLT, ↓reduceIte, reduceCtorEq, List.reduceReplicate, List.flatten_cons, List.flatten_nil, List.append_nil, eq_self, hv.lenV, hv.ixsN hlt, r0, r1, Int.ofNat_lt, hlt, decide_true, Int.reduceLT, Int.reduceNeg, wrap_succ hlt hv.le]
      refine ⟨l.length - (i + 1), by omega, i + 1, i, rfl, hlt, hp.app' _, .inr ⟨i, rfl, ?_⟩, rfl⟩
      have : i = 0 := by
        have := congrArg List.length hb
        rw [List.length_take, List.length_nil] at this; omega
      subst this
      refine ⟨l[0], by simp [hlt], fun j b hj => ?_, fun j b hj => by omega⟩
      rw [List.getElem?_take] at hj
      split at hj
      · obtain rfl : j = 0 := by omega
        rw [List.getElem?_eq_getElem hlt] at hj; cases hj
        exact K3.cmp_self _
      · cases hj
    · have hjl : j < i := by
        obtain ⟨a, ha, _⟩ := hj
        have := (List.getElem?_eq_some_iff.1 ha).1
        simp at this; omega
      obtain ⟨c, hc, hc2, s0, s1⟩ := hv.rd2 hp (show j < l.length by omega)
      subst hc2
      simp (dsimp := false) only [↓ir.rank_Best.l1.bw, ↓ir.rank_Best.r0.w, ↓ir.rank_Best.r1.w, ↓ir.rank_Best.r2.w, ↓ir.rank_Best.r3.w, ↓ir.rank_Best.r4.w, ↓ir.rank_Best.r5.w, ↓ir.rank_Best.r6.w, ↓ir.rank_Best.r7.w, ↓ir.rank_Best.l1.w, ↓ir.rank_Best.r8.w, ir.rank_Best.rs, go_sem, Nat.reduceAdd, Nat.reduceEqDiff, Nat.reduceMul, Nat.reduceLeDiff, Nat.reduceSub, Nat.reduceLT, ↓reduceIte, reduceCtorEq, List.reduceReplicate, List.flatten_cons, List.flatten_nil, List.append_nil, eq_self, hv.lenV, hv.ixsN hlt, r0, r1, Int.ofNat_lt, hlt, decide_true, show ¬ ((j : Int) < 0) by omega, decide_false, wrap_succ hlt hv.le, hv.ixsN (show j < l.length by omega), s0, s1]
      refine callV_of (compare_spec _ _ _ _ _ _ _) ?_
      simp (dsimp := false) only [↓ir.rank_Best.r0.w, ↓ir.rank_Best.r1.w, ↓ir.rank_Best.r2.w, ↓ir.rank_Best.r3.w, ↓ir.rank_Best.r4.w, ↓ir.rank_Best.r5.w, ↓ir.rank_Best.r6.w, ↓ir.rank_Best.r7.w, ↓ir.rank_Best.l1.w, ↓ir.rank_Best.r8.w, ir.rank_Best.rs, go_sem, Nat.reduceAdd, Nat.reduceEqDiff, Nat.reduceMul, Nat.reduceLeDiff, Nat.reduceSub, Nat.reduceLT, ↓reduceIte, reduceCtorEq, List.reduceReplicate, List.flatten_cons, List.flatten_nil, List.append_nil, eq_self, wrap_succ hlt hv.le]
      refine cVd (fun hc => ?_) (fun hc => ?_) <;> simp (dsimp := false) only [↓ir.rank_Best.r0.w, ↓ir.rank_Best.r1.w, ↓ir.rank_Best.r2.w, ↓ir.rank_Best.r3.w, ↓ir.rank_Best.r4.w, ↓ir.rank_Best.r5.w, ↓ir.rank_Best.r6.w, ↓ir.rank_Best.r7.w, ↓ir.rank_Best.l1.w, ↓ir.rank_Best.r8.w, ir.rank_Best.rs, go_sem, Nat.reduceAdd, Nat.reduceEqDiff, Nat.reduceMul, Nat.reduceLeDiff, Nat.reduceSub, Nat.reduceLT, ↓reduceIte, reduceCtorEq, List.reduceReplicate, List.flatten_cons, List.flatten_nil, List.append_nil, eq_self, wrap_succ hlt hv.le]
      · refine ⟨l.length - (i + 1), by omega, i + 1, i, rfl, hlt, hp.app' _, .inr ⟨i, rfl, ?_⟩, rfl⟩
        exact hj.step_new hlt hc
      · refine ⟨l.length - (i + 1), by omega, i + 1, j, rfl, hlt, hp.app' _, .inr ⟨j, rfl, ?_⟩, rfl⟩
        exact hj.step_old hlt hc
  · simp (dsimp := false) only [↓ir.rank_Best.l1.bw, ↓ir.rank_Best.r0.w, ↓ir.rank_Best.r1.w, ↓ir.rank_Best.r2.w, ↓ir.rank_Best.r3.w, ↓ir.rank_Best.r4.w, ↓ir.rank_Best.r5.w, ↓ir.rank_Best.r6.w, ↓ir.rank_Best.r7.w, ↓ir.rank_Best.l1.w, ↓ir.rank_Best.r8.w, ir.rank_Best.rs, go_sem, Nat.reduceAdd, Nat.reduceEqDiff, Nat.reduceMul, Nat.reduceLeDiff, Nat.reduceSub, Nat.reduceLT, ↓reduceIte, reduceCtorEq, List.reduceReplicate, List.flatten_cons, List.flatten_nil, List.append_nil, eq_self, hv.lenV, Int.ofNat_lt, show ¬ i < l.length by omega, decide_false]
    refine ⟨hp, r, rfl, ?_⟩
    rwa [List.take_of_length_le hge] at hb

theorem K3.cmp_best {l : List K3} {i : Nat} (hi : i < l.length) (hn : ∀ (j : Nat) (b : K3), l[j]? = some b → ¬ 0 < b.cmp l[i]) (hb : ∀ j a, j < i → l[j]? = some a → ∃ (k : Nat) (b : K3), l[k]? = some b ∧ 0 < b.cmp a) : IsBest l i := by
  refine ⟨l[i], List.getElem?_eq_getElem hi, hn, fun j a hj ha => ?_⟩
  obtain ⟨k, b, h1, h2⟩ := hb j a hj ha
  have := hn k b h1
  rw [K3.cmp_pos] at *; omega

theorem rbest_spec {h : AHeap} {v : Value} {l : List K3} (hv : Ls h 3 isK v l) : SpecX Try.prog nG fn.fingerpostref01_Best [v] h fun v' h' => Pre h h' ∧ ∃ r, v' = .int .i64 r ∧ BestR l r := by
  refine SpecX.of_body (ir.fingerpostref01_Best.spec (Nat.le_of_ble_eq_true rfl)) ?_
  simp (dsimp := false) only [↓ir.fingerpostref01_Best.bw, ir.fingerpostref01_Best.rs, ↓ir.fingerpostref01_Best.r0.w, ↓ir.fingerpostref01_Best.r1.w, ↓ir.fingerpostref01_Best.r2.w, ↓ir.fingerpostref01_Best.r4.w, ↓ir.fingerpostref01_Best.r5.w, ↓ir.fingerpostref01_Best.r6.w, ↓ir.fingerpostref01_Best.r8.w, ↓ir.fingerpostref01_Best.r9.w, ↓ir.fingerpostref01_Best.r7.w, ↓ir.fingerpostref01_Best.l1.w, ↓ir.fingerpostref01_Best.r10.w, ↓ir.fingerpostref01_Best.r11.w, ↓ir.fingerpostref01_Best.r3.w, ↓ir.fingerpostref01_Best.l2.w, ↓ir.fingerpostref01_Best.r12.w, ir.fingerpostref01_Best.rs, go_sem, Nat.reduceAdd, Nat.reduceEqDiff, Nat.reduceMul, Nat.reduceLeDiff, Nat.reduceSub, Nat.reduceLT, ↓reduceIte, reduceCtorEq, List.reduceReplicate, List.flatten_cons, List.flatten_nil, List.append_nil, eq_self, hv.lenV]
  refine loopV_of (fun m e h2 => ∃ (i : Nat), m = l.length - i ∧ i ≤ l.length ∧ Pre h h2 ∧ (∀ j a, j < i → l[j]? = some a → ∃ (k : Nat) (b : K3), l[k]? = some b ∧ 0 < b.cmp a) ∧ e = [(0, v), (3, .int .i64 i)]) _
    ⟨0, rfl, Nat.zero_le _, .refl _, fun j a h => by omega, rfl⟩ ?_
  rintro m e h2 ⟨i, rfl, hi, hp, hb, rfl⟩
  rcases Nat.lt_or_ge i l.length with hlt | hge
  · obtain ⟨c, hc, hc2, r0, r1⟩ := hv.rd2 hp hlt
    subst hc2
    simp (dsimp := false) only [↓ir.fingerpostref01_Best.l2.bw, ↓ir.fingerpostref01_Best.r0.w, ↓ir.fingerpostref01_Best.r1.w, ↓ir.fingerpostref01_Best.r2.w, ↓ir.fingerpostref01_Best.r4.w, ↓ir.fingerpostref01_Best.r5.w, ↓ir.fingerpostref01_Best.r6.w, ↓ir.fingerpostref01_Best.r8.w, ↓ir.fingerpostref01_Best.r9.w, ↓ir.fingerpostref01_Best.r7.w, ↓ir.fingerpostref01_Best.l1.w, ↓ir.fingerpostref01_Best.r10.w, ↓ir.fingerpostref01_Best.r11.w, ↓ir.fingerpostref01_Best.r3.w, ↓ir.fingerpostref01_Best.l2.w, ↓ir.fingerpostref01_Best.r12.w, ir.fingerpostref01_Best.rs, go_sem, Nat.reduceAdd, Nat.reduceEqDiff, Nat.reduceMul, Nat.reduceLeDiff, Nat.reduceSub, Nat.reduceLT, ↓reduceIte, reduceCtorEq, List.reduceReplicate, List.flatten_cons, List.flatten_nil, List.append_nil, eq_self, hv.lenV, hv.ixsN hlt, r0, r1, Int.ofNat_lt, hlt, decide_true]
    refine loopV_of (fun m e h3 => ∃ (j : Nat) (b : Bool), m = l.length - j ∧ j ≤ l.length ∧ h3 = h2 ∧ (if b then ∀ k c, k < j → l[k]? = some c → ¬ 0 < c.cmp l[i] else ∃ (k : Nat) (c : K3), l[k]? = some c ∧ 0 < c.cmp l[i]) ∧ e = [(0, v), (3, .int .i64 i), (4, .bool b), (5, .int .i64 j)]) _
      ⟨0, true, rfl, Nat.zero_le _, rfl, fun j a h => by omega, rfl⟩ ?_
    rintro m e h3 ⟨j, b, rfl, hj, rfl, hq, rfl⟩
    rcases Nat.lt_or_ge j l.length with hjl | hge
    · obtain ⟨c, hc, hc2, s0, s1⟩ := hv.rd2 hp hjl
      subst hc2
      simp (dsimp := false) only [↓ir.fingerpostref01_Best.l1.bw, ↓ir.fingerpostref01_Best.r0.w, ↓ir.fingerpostref01_Best.r1.w, ↓ir.fingerpostref01_Best.r2.w, ↓ir.fingerpostref01_Best.r4.w, ↓ir.fingerpostref01_Best.r5.w, ↓ir.fingerpostref01_Best.r6.w, ↓ir.fingerpostref01_Best.r8.w, ↓ir.fingerpostref01_Best.r9.w, ↓ir.fingerpostref01_Best.r7.w, ↓ir.fingerpostref01_Best.l1.w, ↓ir.fingerpostref01_Best.r10.w, ↓ir.fingerpostref01_Best.r11.w, ↓ir.fingerpostref01_Best.r3.w, ↓ir.fingerpostref01_Best.l2.w, ↓ir.fingerpostref01_Best.r12.w, ir.fingerpostref01_Best.rs, go_sem, Nat.reduceAdd, Nat.reduceEqDiff, Nat.reduceMul, Nat.reduceLeDiff, Nat.reduceSub, Nat.reduceLT, ↓reduceIte, reduceCtorEq, List.reduceReplicate, List.flatten_cons, List.flatten_nil, List.append_nil, eq_self, hv.lenV, hv.ixsN hlt, hv.ixsN hjl, r0, r1, s0, s1, Int.ofNat_lt, hjl, decide_true]
      refine callV_of (better_spec _ _ _ _ _ _ _) ?_
      simp (dsimp := false) only [↓ir.fingerpostref01_Best.r0.w, ↓ir.fingerpostref01_Best.r1.w, ↓ir.fingerpostref01_Best.r2.w, ↓ir.fingerpostref01_Best.r4.w, ↓ir.fingerpostref01_Best.r5.w, ↓ir.fingerpostref01_Best.r6.w, ↓ir.fingerpostref01_Best.r8.w, ↓ir.fingerpostref01_Best.r9.w, ↓ir.fingerpostref01_Best.r7.w, ↓ir.fingerpostref01_Best.l1.w, ↓ir.fingerpostref01_Best.r10.w, ↓ir.fingerpostref01_Best.r11.w, ↓ir.fingerpostref01_Best.r3.w, ↓ir.fingerpostref01_Best.l2.w, ↓ir.fingerpostref01_Best.r12.w, ir.fingerpostref01_Best.rs, go_sem, Nat.reduceAdd, Nat.reduceEqDiff, Nat.reduceMul, Nat.reduceLeDiff, Nat.reduceSub, Nat.reduceLT, ↓reduceIte, reduceCtorEq, List.reduceReplicate, List.flatten_cons, List.flatten_nil, List.append_nil, eq_self, wrap_succ hjl hv.le, betterB]
      refine cVd (fun hc => ?_) (fun hc => ?_) <;> simp (dsimp := false) only [↓ir.fingerpostref01_Best.r0.w, ↓ir.fingerpostref01_Best.r1.w, ↓ir.fingerpostref01_Best.r2.w, ↓ir.fingerpostref01_Best.r4.w, ↓ir.fingerpostref01_Best.r5.w, ↓ir.fingerpostref01_Best.r6.w, ↓ir.fingerpostref01_Best.r8.w, ↓ir.fingerpostref01_Best.r9.w, ↓ir.fingerpostref01_Best.r7.w, ↓ir.fingerpostref01_Best.l1.w, ↓ir.fingerpostref01_Best.r10.w, ↓ir.fingerpostref01_Best.r11.w, ↓ir.fingerpostref01_Best.r3.w, ↓ir.fingerpostref01_Best.l2.w, ↓ir.fingerpostref01_Best.r12.w, ir.fingerpostref01_Best.rs, go_sem, Nat.reduceAdd, Nat.reduceEqDiff, Nat.reduceMul, Nat.reduceLeDiff, Nat.reduceSub, Nat.reduceLT, ↓reduceIte, reduceCtorEq, List.reduceReplicate, List.flatten_cons, List.flatten_nil, List.append_nil, eq_self, wrap_succ hjl hv.le]
      · exact ⟨l.length - (j + 1), by omega, j + 1, false, rfl, hjl, ⟨j, l[j], List.getElem?_eq_getElem hjl, hc⟩, rfl⟩
      · refine ⟨l.length - (j + 1), by omega, j + 1, b, rfl, hjl, ?_, rfl⟩
        cases b with
        | false => exact hq
        | true =>
          intro k c hk hkc
          by_cases e : k < j
          · exact hq k c e hkc
          · obtain rfl : k = j := by omega
            rw [List.getElem?_eq_getElem hjl] at hkc; cases hkc; exact hc
    · simp (dsimp := false) only [↓ir.fingerpostref01_Best.l1.bw, ↓ir.fingerpostref01_Best.r0.w, ↓ir.fingerpostref01_Best.r1.w, ↓ir.fingerpostref01_Best.r2.w, ↓ir.fingerpostref01_Best.r4.w, ↓ir.fingerpostref01_Best.r5.w, ↓ir.fingerpostref01_Best.r6.w, ↓ir.fingerpostref01_Best.r8.w, ↓ir.fingerpostref01_Best.r9.w, ↓ir.fingerpostref01_Best.r7.w, ↓ir.fingerpostref01_Best.l1.w, ↓ir.fingerpostref01_Best.r10.w, ↓ir.fingerpostref01_Best.r11.w, ↓ir.fingerpostref01_Best.r3.w, ↓ir.fingerpostref01_Best.l2.w, ↓ir.fingerpostref01_Best.r12.w, ir.fingerpostref01_Best.rs, go_sem, Nat.reduceAdd, Nat.reduceEqDiff, Nat.reduceMul, Nat.reduceLeDiff, Nat.reduceSub, Nat.reduceLT, ↓reduceIte, reduceCtorEq, List.reduceReplicate, List.flatten_cons, List.flatten_nil, List.append_nil, eq_self, hv.lenV, Int.ofNat_lt, show ¬ j < l.length by omega, decide_false]
      cases b with
      | false =>
        simp (dsimp := false) only [go_sem, Nat.reduceAdd, Nat.reduceEqDiff, Nat.reduceMul, Nat.reduceLeDiff, Nat.reduceSub, Nat.reduceLT, ↓reduceIte, reduceCtorEq, List.reduceReplicate, List.flatten_cons, List.flatten_nil, List.append_nil, eq_self, ↓ir.fingerpostref01_Best.r0.w, ↓ir.fingerpostref01_Best.r1.w, ↓ir.fingerpostref01_Best.r2.w, ↓ir.fingerpostref01_Best.r4.w, ↓ir.fingerpostref01_Best.r5.w, ↓ir.fingerpostref01_Best.r6.w, ↓ir.fingerpostref01_Best.r8.w, ↓ir.fingerpostref01_Best.r9.w, ↓ir.fingerpostref01_Best.r7.w, ↓ir.fingerpostref01_Best.l1.w, ↓ir.fingerpostref01_Best.r10.w, ↓ir.fingerpostref01_Best.r11.w, ↓ir.fingerpostref01_Best.r3.w, ↓ir.fingerpostref01_Best.l2.w, ↓ir.fingerpostref01_Best.r12.w, ir.fingerpostref01_Best.rs, wrap_succ hlt hv.le]
        refine ⟨l.length - (i + 1), by omega, i + 1, rfl, hlt, hp, fun j a hj ha => ?_, rfl⟩
        by_cases e : j < i
        · exact hb j a e ha
        · obtain rfl : j = i := by omega
          rw [List.getElem?_eq_getElem hlt] at ha; cases ha; exact hq
      | true =>
        simp (dsimp := false) only [go_sem, Nat.reduceAdd, Nat.reduceEqDiff, Nat.reduceMul, Nat.reduceLeDiff, Nat.reduceSub, Nat.reduceLT, ↓reduceIte, reduceCtorEq, List.reduceReplicate, List.flatten_cons, List.flatten_nil, List.append_nil, eq_self, ↓ir.fingerpostref01_Best.r0.w, ↓ir.fingerpostref01_Best.r1.w, ↓ir.fingerpostref01_Best.r2.w, ↓ir.fingerpostref01_Best.r4.w, ↓ir.fingerpostref01_Best.r5.w, ↓ir.fingerpostref01_Best.r6.w, ↓ir.fingerpostref01_Best.r8.w, ↓ir.fingerpostref01_Best.r9.w, ↓ir.fingerpostref01_Best.r7.w, ↓ir.fingerpostref01_Best.l1.w, ↓ir.fingerpostref01_Best.r10.w, ↓ir.fingerpostref01_Best.r11.w, ↓ir.fingerpostref01_Best.r3.w, ↓ir.fingerpostref01_Best.l2.w, ↓ir.fingerpostref01_Best.r12.w, ir.fingerpostref01_Best.rs]
        exact ⟨hp, i, rfl, .inr ⟨i, rfl, K3.cmp_best hlt (fun j b hb => hq j b (by have := (List.getElem?_eq_some_iff.1 hb).1; omega) hb) hb⟩⟩
  · simp (dsimp := false) only [↓ir.fingerpostref01_Best.l2.bw, ↓ir.fingerpostref01_Best.r0.w, ↓ir.fingerpostref01_Best.r1.w, ↓ir.fingerpostref01_Best.r2.w, ↓ir.fingerpostref01_Best.r4.w, ↓ir.fingerpostref01_Best.r5.w, ↓ir.fingerpostref01_Best.r6.w, ↓ir.fingerpostref01_Best.r8.w, ↓ir.fingerpostref01_Best.r9.w, ↓ir.fingerpostref01_Best.r7.w, ↓ir.fingerpostref01_Best.l1.w, ↓ir.fingerpostref01_Best.r10.w, ↓ir.fingerpostref01_Best.r11.w, ↓ir.fingerpostref01_Best.r3.w, ↓ir.fingerpostref01_Best.l2.w, ↓ir.fingerpostref01_Best.r12.w, ir.fingerpostref01_Best.rs, go_sem, Nat.reduceAdd, Nat.reduceEqDiff, Nat.reduceMul, Nat.reduceLeDiff, Nat.reduceSub, Nat.reduceLT, ↓reduceIte, reduceCtorEq, List.reduceReplicate, List.flatten_cons, List.flatten_nil, List.append_nil, eq_self, hv.lenV, Int.ofNat_lt, show ¬ i < l.length by omega, decide_false]
    refine ⟨hp, -1, rfl, .inl ⟨?_, rfl⟩⟩
    rcases Nat.eq_zero_or_pos l.length with h0 | h0
    · exact List.eq_nil_of_length_eq_zero h0
    · obtain ⟨j, hj⟩ := IsBest.ex l l.length h0 (Nat.le_refl _)
      rw [List.take_of_length_le (Nat.le_refl _)] at hj
      obtain ⟨a, h1, h2, _⟩ := hj
      obtain ⟨k, b, h3, h4⟩ := hb j a (by have := (List.getElem?_eq_some_iff.1 h1).1; omega) h1
      exact absurd h4 (h2 k b h3)

theorem BestR.uniq {l : List K3} {r s : Int} (h : BestR l r) (k : BestR l s) : r = s := by
  rcases h with ⟨rfl, rfl⟩ | ⟨i, rfl, a, h1, h2, h3⟩ <;> rcases k with ⟨k1, rfl⟩ | ⟨j, rfl, b, k1, k2, k3⟩
  · rfl
  · simp at k1
  · subst k1; simp at h1
  · rcases Nat.lt_trichotomy i j with q | rfl | q
    · exact absurd (k3 i a q h1) (h2 j b k1)
    · rfl
    · exact absurd (h3 j b q k1) (k2 i a h1)

theorem rankBests_spec {h : AHeap} {v : Value} {l : List K3} (hv : Ls h 3 isK v l) : SpecX Try.prog nG fn.fingerpostlaw01_RankBests [v] h fun v' h' => v' = .bool true := by
  refine SpecX.of_body (ir.fingerpostlaw01_RankBests.spec (Nat.le_of_ble_eq_true rfl)) ?_
  unfold ir.fingerpostlaw01_RankBests
  rw [wpC_assoc]
  refine wpC_cut (fun e h' => h' = h ∧ ∃ v' l', l'.length ≤ 200 ∧ Ls h 3 isK v' l' ∧ look e 0 = v') ?_ ?_
  · simp (dsimp := false) only [↓ir.fingerpostlaw01_RankBests.bw, ir.fingerpostlaw01_RankBests.rs, ↓ir.fingerpostlaw01_RankBests.r0.w, ↓ir.fingerpostlaw01_RankBests.r1.w, ↓ir.fingerpostlaw01_RankBests.r2.w, ↓ir.fingerpostlaw01_RankBests.r3.w, ↓ir.fingerpostlaw01_RankBests.r4.w, ↓ir.fingerpostlaw01_RankBests.r5.w, ↓ir.fingerpostlaw01_RankBests.r6.w, ↓ir.fingerpostlaw01_RankBests.r7.w, ↓ir.fingerpostlaw01_RankBests.r8.w, ↓ir.fingerpostlaw01_RankBests.l1.w, ↓ir.fingerpostlaw01_RankBests.r9.w, ir.fingerpostlaw01_RankBests.rs, go_sem, Nat.reduceAdd, Nat.reduceEqDiff, Nat.reduceMul, Nat.reduceLeDiff, Nat.reduceSub, Nat.reduceLT, ↓reduceIte, reduceCtorEq, List.reduceReplicate, List.flatten_cons, List.flatten_nil, List.append_nil, eq_self, hv.lenV]
    refine cVd (fun hl => ?_) (fun hl => ?_) <;> simp (dsimp := false) only [↓ir.fingerpostlaw01_RankBests.r0.w, ↓ir.fingerpostlaw01_RankBests.r1.w, ↓ir.fingerpostlaw01_RankBests.r2.w, ↓ir.fingerpostlaw01_RankBests.r3.w, ↓ir.fingerpostlaw01_RankBests.r4.w, ↓ir.fingerpostlaw01_RankBests.r5.w, ↓ir.fingerpostlaw01_RankBests.r6.w, ↓ir.fingerpostlaw01_RankBests.r7.w, ↓ir.fingerpostlaw01_RankBests.r8.w, ↓ir.fingerpostlaw01_RankBests.l1.w, ↓ir.fingerpostlaw01_RankBests.r9.w, ir.fingerpostlaw01_RankBests.rs, go_sem, Nat.reduceAdd, Nat.reduceEqDiff, Nat.reduceMul, Nat.reduceLeDiff, Nat.reduceSub, Nat.reduceLT, ↓reduceIte, reduceCtorEq, List.reduceReplicate, List.flatten_cons, List.flatten_nil, List.append_nil, eq_self]
    case refine_2 => exact ⟨v, l, by omega, hv, rfl⟩
    rw [hv.slToI (by omega) (by omega) (by omega) (.refl _)]
    simp (dsimp := false) only [↓ir.fingerpostlaw01_RankBests.r0.w, ↓ir.fingerpostlaw01_RankBests.r1.w, ↓ir.fingerpostlaw01_RankBests.r2.w, ↓ir.fingerpostlaw01_RankBests.r3.w, ↓ir.fingerpostlaw01_RankBests.r4.w, ↓ir.fingerpostlaw01_RankBests.r5.w, ↓ir.fingerpostlaw01_RankBests.r6.w, ↓ir.fingerpostlaw01_RankBests.r7.w, ↓ir.fingerpostlaw01_RankBests.r8.w, ↓ir.fingerpostlaw01_RankBests.l1.w, ↓ir.fingerpostlaw01_RankBests.r9.w, ir.fingerpostlaw01_RankBests.rs, go_sem, Nat.reduceAdd, Nat.reduceEqDiff, Nat.reduceMul, Nat.reduceLeDiff, Nat.reduceSub, Nat.reduceLT, ↓reduceIte, reduceCtorEq, List.reduceReplicate, List.flatten_cons, List.flatten_nil, List.append_nil, eq_self]
    exact ⟨_, _, by simp; omega, hv.front (m := 200) (by omega), rfl⟩
  · clear hv v l
    rintro e h1 ⟨rfl, v, l, hl, hv, he⟩
    simp (dsimp := false) only [↓ir.fingerpostlaw01_RankBests.bw, ir.fingerpostlaw01_RankBests.rs, ↓ir.fingerpostlaw01_RankBests.r0.w, ↓ir.fingerpostlaw01_RankBests.r1.w, ↓ir.fingerpostlaw01_RankBests.r2.w, ↓ir.fingerpostlaw01_RankBests.r3.w, ↓ir.fingerpostlaw01_RankBests.r4.w, ↓ir.fingerpostlaw01_RankBests.r5.w, ↓ir.fingerpostlaw01_RankBests.r6.w, ↓ir.fingerpostlaw01_RankBests.r7.w, ↓ir.fingerpostlaw01_RankBests.r8.w, ↓ir.fingerpostlaw01_RankBests.l1.w, ↓ir.fingerpostlaw01_RankBests.r9.w, ir.fingerpostlaw01_RankBests.rs, go_sem, Nat.reduceAdd, Nat.reduceEqDiff, Nat.reduceMul, Nat.reduceLeDiff, Nat.reduceSub, Nat.reduceLT, ↓reduceIte, reduceCtorEq, List.reduceReplicate, List.flatten_cons, List.flatten_nil, List.append_nil, eq_self, he, hv.lenV]
    refine loopV_of (fun m e h2 => ∃ (i : Nat) (a : Value), m = l.length - i ∧ i ≤ l.length ∧ Pre h1 h2 ∧ Ow h1 h2 3 a i ((l.take i).flatMap K3.c) ∧ e = [(0, v), (3, a), (11, v), (12, .int .i64 l.length), (13, .int .i64 i)]) _
      ⟨0, _, rfl, Nat.zero_le _, .refl _, .nil, rfl⟩ ?_
    rintro m e h2 ⟨i, a, rfl, hi, hp, ho, rfl⟩
    rcases Nat.lt_or_ge i l.length with hlt | hge
    · obtain ⟨c, hc, hc2, r0, r1⟩ := hv.rd2 hp hlt
      subst hc2
      simp (dsimp := false) only [↓ir.fingerpostlaw01_RankBests.l1.bw, ↓ir.fingerpostlaw01_RankBests.r0.w, ↓ir.fingerpostlaw01_RankBests.r1.w, ↓ir.fingerpostlaw01_RankBests.r2.w, ↓ir.fingerpostlaw01_RankBests.r3.w, ↓ir.fingerpostlaw01_RankBests.r4.w, ↓ir.fingerpostlaw01_RankBests.r5.w, ↓ir.fingerpostlaw01_RankBests.r6.w, ↓ir.fingerpostlaw01_RankBests.r7.w, ↓ir.fingerpostlaw01_RankBests.r8.w, ↓ir.fingerpostlaw01_RankBests.l1.w, ↓ir.fingerpostlaw01_RankBests.r9.w, ir.fingerpostlaw01_RankBests.rs, go_sem, Nat.reduceAdd, Nat.reduceEqDiff, Nat.reduceMul, Nat.reduceLeDiff, Nat.reduceSub, Nat.reduceLT, ↓reduceIte, reduceCtorEq, List.reduceReplicate, List.flatten_cons, List.flatten_nil, List.append_nil, eq_self, hv.lenV, hv.ixsN hlt, r0, r1, Int.ofNat_lt, hlt, decide_true]
      refine callV_of (to_spec _ _ _ _) ?_
      simp (dsimp := false) only [↓ir.fingerpostlaw01_RankBests.r0.w, ↓ir.fingerpostlaw01_RankBests.r1.w, ↓ir.fingerpostlaw01_RankBests.r2.w, ↓ir.fingerpostlaw01_RankBests.r3.w, ↓ir.fingerpostlaw01_RankBests.r4.w, ↓ir.fingerpostlaw01_RankBests.r5.w, ↓ir.fingerpostlaw01_RankBests.r6.w, ↓ir.fingerpostlaw01_RankBests.r7.w, ↓ir.fingerpostlaw01_RankBests.r8.w, ↓ir.fingerpostlaw01_RankBests.l1.w, ↓ir.fingerpostlaw01_RankBests.r9.w, ir.fingerpostlaw01_RankBests.rs, go_sem, Nat.reduceAdd, Nat.reduceEqDiff, Nat.reduceMul, Nat.reduceLeDiff, Nat.reduceSub, Nat.reduceLT, ↓reduceIte, reduceCtorEq, List.reduceReplicate, List.flatten_cons, List.flatten_nil, List.append_nil, eq_self, wrap_succ hlt hv.le]
      refine (ho.pre (.app _ _)).app rfl rfl ⟨by omega, by omega⟩ (fun a' h' ho' hb _ _ => ?_) (hp.app' _)
      simp (dsimp := false) only [↓ir.fingerpostlaw01_RankBests.r0.w, ↓ir.fingerpostlaw01_RankBests.r1.w, ↓ir.fingerpostlaw01_RankBests.r2.w, ↓ir.fingerpostlaw01_RankBests.r3.w, ↓ir.fingerpostlaw01_RankBests.r4.w, ↓ir.fingerpostlaw01_RankBests.r5.w, ↓ir.fingerpostlaw01_RankBests.r6.w, ↓ir.fingerpostlaw01_RankBests.r7.w, ↓ir.fingerpostlaw01_RankBests.r8.w, ↓ir.fingerpostlaw01_RankBests.l1.w, ↓ir.fingerpostlaw01_RankBests.r9.w, ir.fingerpostlaw01_RankBests.rs, go_sem, Nat.reduceAdd, Nat.reduceEqDiff, Nat.reduceMul, Nat.reduceLeDiff, Nat.reduceSub, Nat.reduceLT, ↓reduceIte, reduceCtorEq, List.reduceReplicate, List.flatten_cons, List.flatten_nil, List.append_nil, eq_self, wrap_succ hlt hv.le]
      refine ⟨l.length - (i + 1), by omega, i + 1, a', rfl, hlt, hb.pre (hp.app' _), ?_, rfl⟩
      rw [List.take_succ_eq_append_getElem hlt, List.flatMap_append]
      simpa using ho'
    · simp (dsimp := false) only [↓ir.fingerpostlaw01_RankBests.l1.bw, ↓ir.fingerpostlaw01_RankBests.r0.w, ↓ir.fingerpostlaw01_RankBests.r1.w, ↓ir.fingerpostlaw01_RankBests.r2.w, ↓ir.fingerpostlaw01_RankBests.r3.w, ↓ir.fingerpostlaw01_RankBests.r4.w, ↓ir.fingerpostlaw01_RankBests.r5.w, ↓ir.fingerpostlaw01_RankBests.r6.w, ↓ir.fingerpostlaw01_RankBests.r7.w, ↓ir.fingerpostlaw01_RankBests.r8.w, ↓ir.fingerpostlaw01_RankBests.l1.w, ↓ir.fingerpostlaw01_RankBests.r9.w, ir.fingerpostlaw01_RankBests.rs, go_sem, Nat.reduceAdd, Nat.reduceEqDiff, Nat.reduceMul, Nat.reduceLeDiff, Nat.reduceSub, Nat.reduceLT, ↓reduceIte, reduceCtorEq, List.reduceReplicate, List.flatten_cons, List.flatten_nil, List.append_nil, eq_self, hv.lenV, Int.ofNat_lt, show ¬ i < l.length by omega, decide_false]
      obtain rfl : i = l.length := by omega
      rw [List.take_of_length_le (Nat.le_refl _)] at ho
      refine callV_x (best_spec (ho.sl.ls (fun _ => rfl) rfl)) ?_
      rintro v1 h3 ⟨hp3, r, rfl, hr⟩
      simp (dsimp := false) only [↓ir.fingerpostlaw01_RankBests.r0.w, ↓ir.fingerpostlaw01_RankBests.r1.w, ↓ir.fingerpostlaw01_RankBests.r2.w, ↓ir.fingerpostlaw01_RankBests.r3.w, ↓ir.fingerpostlaw01_RankBests.r4.w, ↓ir.fingerpostlaw01_RankBests.r5.w, ↓ir.fingerpostlaw01_RankBests.r6.w, ↓ir.fingerpostlaw01_RankBests.r7.w, ↓ir.fingerpostlaw01_RankBests.r8.w, ↓ir.fingerpostlaw01_RankBests.l1.w, ↓ir.fingerpostlaw01_RankBests.r9.w, ir.fingerpostlaw01_RankBests.rs, go_sem, Nat.reduceAdd, Nat.reduceEqDiff, Nat.reduceMul, Nat.reduceLeDiff, Nat.reduceSub, Nat.reduceLT, ↓reduceIte, reduceCtorEq, List.reduceReplicate, List.flatten_cons, List.flatten_nil, List.append_nil, eq_self]
      refine callV_x (rbest_spec (hv.pre (hp.trans hp3))) ?_
      rintro v1 h4 ⟨hp4, s, rfl, hs⟩
      obtain rfl := hr.uniq hs
      simp (dsimp := false) only [↓ir.fingerpostlaw01_RankBests.r0.w, ↓ir.fingerpostlaw01_RankBests.r1.w, ↓ir.fingerpostlaw01_RankBests.r2.w, ↓ir.fingerpostlaw01_RankBests.r3.w, ↓ir.fingerpostlaw01_RankBests.r4.w, ↓ir.fingerpostlaw01_RankBests.r5.w, ↓ir.fingerpostlaw01_RankBests.r6.w, ↓ir.fingerpostlaw01_RankBests.r7.w, ↓ir.fingerpostlaw01_RankBests.r8.w, ↓ir.fingerpostlaw01_RankBests.l1.w, ↓ir.fingerpostlaw01_RankBests.r9.w, ir.fingerpostlaw01_RankBests.rs, go_sem, Nat.reduceAdd, Nat.reduceEqDiff, Nat.reduceMul, Nat.reduceLeDiff, Nat.reduceSub, Nat.reduceLT, ↓reduceIte, reduceCtorEq, List.reduceReplicate, List.flatten_cons, List.flatten_nil, List.append_nil, eq_self, beq_self_eq_true]
      refine callV_of (right_spec _ _ _ _) ?_
      simp (dsimp := false) only [↓ir.fingerpostlaw01_RankBests.r0.w, ↓ir.fingerpostlaw01_RankBests.r1.w, ↓ir.fingerpostlaw01_RankBests.r2.w, ↓ir.fingerpostlaw01_RankBests.r3.w, ↓ir.fingerpostlaw01_RankBests.r4.w, ↓ir.fingerpostlaw01_RankBests.r5.w, ↓ir.fingerpostlaw01_RankBests.r6.w, ↓ir.fingerpostlaw01_RankBests.r7.w, ↓ir.fingerpostlaw01_RankBests.r8.w, ↓ir.fingerpostlaw01_RankBests.l1.w, ↓ir.fingerpostlaw01_RankBests.r9.w, ir.fingerpostlaw01_RankBests.rs, go_sem, Nat.reduceAdd, Nat.reduceEqDiff, Nat.reduceMul, Nat.reduceLeDiff, Nat.reduceSub, Nat.reduceLT, ↓reduceIte, reduceCtorEq, List.reduceReplicate, List.flatten_cons, List.flatten_nil, List.append_nil, eq_self]
      rfl
end Go.Proofs.Ytmeojocmngbpaaa.B
