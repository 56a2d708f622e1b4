/-
  Layer 34: what a view that may be is.
-/
import Derived.Test.YtoiihalnbdehkaaDoorWa6
namespace Go.Proofs.YtoiihalnbdehkaaDoor.B
open Go
set_option linter.unusedVariables false
set_option linter.unusedSimpArgs false
def RiseTo (l : List HopR) (i : Nat) : Prop := ∀ j (hj : j < l.length), j < i → (0 ≤ l[j].d ∧ l[j].d < 8) ∧ (∀ k (hk : k + 1 = j), (l[k]'(by omega)).d < l[j].d)
theorem RiseTo.step {l : List HopR} {i : Nat} (k : RiseTo l i) (hi : i < l.length) (h0 : 0 ≤ l[i].d ∧ l[i].d < 8) (h1 : ∀ k (hk : k + 1 = i), (l[k]'(by omega)).d < l[i].d) : RiseTo l (i + 1) := by
  intro j hj hji
  rcases Nat.lt_or_ge j i with q | q
  · exact k j hj q
  · obtain rfl : j = i := by omega
    exact ⟨h0, h1⟩
theorem RiseTo.tab {l : List HopR} (k : RiseTo l l.length) : Tab l := by
  have up : ∀ (d j i : Nat) (hj : j < l.length) (hi : i < l.length), i + d + 1 = j → l[i].d < l[j].d := by
    intro d
    induction d with
    | zero => intro j i hj hi e; exact (k j hj hj).2 i (by omega)
    | succ d ih =>
      intro j i hj hi e
      have h1 := ih (j - 1) i (by omega) hi (by omega)
      have h2 := (k j hj hj).2 (j - 1) (by omega)
      omega
  refine ⟨?_, fun x hx => ?_, fun x hx => ?_⟩
  · rw [List.pairwise_iff_getElem]
    intro i j hi hj hij
    exact up (j - i - 1) j i hj hi (by omega)
  · obtain ⟨j, hj, rfl⟩ := List.getElem_of_mem hx
    exact (k j hj hj).1.1
  · obtain ⟨j, hj, rfl⟩ := List.getElem_of_mem hx
    exact (k j hj hj).1.2
theorem table_tab {h : AHeap} {v : Value} {l : List HopR} (hv : Ls h 3 isHR v l) : ∃ b : Bool, Spec Tryd.prog nG fn.ref22_Table [v] h (.bool b) h ∧ (b = true → Tab l) := by
  suffices H : SpecX Tryd.prog nG fn.ref22_Table [v] h fun v' h' => h' = h ∧ ∃ b : Bool, v' = .bool b ∧ (b = true → Tab l) by
    obtain ⟨v', h', hs, rfl, b, rfl, hb⟩ := H
    exact ⟨b, hs, hb⟩
  refine SpecX.of_body (ir.ref22_Table.spec (Nat.le_of_ble_eq_true rfl)) ?_
  simp (dsimp := false) only [↓ir.ref22_Table.bw, ir.ref22_Table.rs, go_sem, Nat.reduceAdd, Nat.reduceEqDiff, Nat.reduceMul, Nat.reduceLeDiff, Nat.reduceSub, Nat.reduceLT, ↓reduceIte, reduceCtorEq, List.reduceReplicate, List.flatten_cons, List.flatten_nil, List.append_nil, eq_self, Int.reduceLE, Int.reduceLT, Int.reduceToNat, Nat.min_eq_left, Int.reducePow, Int.reduceNeg, Int.reduceEq]
  refine loopV_of (fun m e h2 => ∃ i : Nat, m = l.length - i ∧ i ≤ l.length ∧ h2 = h ∧ RiseTo l i ∧ e = [(0, v), (3, .int .i64 i)]) _ ⟨0, rfl, Nat.zero_le _, rfl, fun j _ hj => absurd hj (Nat.not_lt_zero _), rfl⟩ ?_
  rintro m e h2 ⟨i, rfl, hi, rfl, hr, rfl⟩
  rcases Nat.lt_or_ge i l.length with hlt | hge
  · obtain ⟨r0, r1, r2⟩ := hv.hopP (.refl _) hlt
    have w := wrap_succ hlt hv.le
    have fin : RiseTo l (i + 1) → ∃ m', m' < l.length - i ∧ ∃ j, m' = l.length - j ∧ j ≤ l.length ∧ RiseTo l j ∧ [(0, v), (3, Value.int .i64 ((i + 1 : Nat) : Int))] = [(0, v), (3, .int .i64 (j : Int))] := fun q => ⟨l.length - (i + 1), by omega, i + 1, rfl, hlt, q, rfl⟩
    by_cases hi0 : i = 0
    · have e0 : ¬ ((0 : Int) < (i : Int)) := by omega
      simp (dsimp := false) only [↓ir.ref22_Table.l1.bw, go_sem, Nat.reduceAdd, Nat.reduceEqDiff, Nat.reduceMul, Nat.reduceLeDiff, Nat.reduceSub, Nat.reduceLT, ↓reduceIte, reduceCtorEq, List.reduceReplicate, List.flatten_cons, List.flatten_nil, List.append_nil, eq_self, Int.reduceLE, Int.reduceLT, Int.reduceToNat, Nat.min_eq_left, Int.reducePow, Int.reduceNeg, Int.reduceEq, hv.lenV, hv.ixsN hlt, r0, r1, Int.ofNat_lt, hlt, decide_true]
      repeat' (first | ((first | refine cVd (fun hc => ?_) (fun hc => ?_) | refine gTd (fun hc => ?_) (fun hc => ?_) | refine gFd (fun hc => ?_) (fun hc => ?_) | refine cVe (fun hc => ?_) (fun hc => ?_) | refine gTe (fun hc => ?_) (fun hc => ?_) | refine gFe (fun hc => ?_) (fun hc => ?_) | refine cVn (fun hc => ?_) (fun hc => ?_) | refine gTn (fun hc => ?_) (fun hc => ?_) | refine gFn (fun hc => ?_) (fun hc => ?_) | refine cV (fun hc => ?_) (fun hc => ?_) | refine gT (fun hc => ?_) (fun hc => ?_) | refine gF (fun hc => ?_) (fun hc => ?_)) <;> try simp (dsimp := false) only [go_sem, Nat.reduceAdd, Nat.reduceEqDiff, Nat.reduceMul, Nat.reduceLeDiff, Nat.reduceSub, Nat.reduceLT, ↓reduceIte, reduceCtorEq, List.reduceReplicate, List.flatten_cons, List.flatten_nil, List.append_nil, eq_self, Int.reduceLE, Int.reduceLT, Int.reduceToNat, Nat.min_eq_left, Int.reducePow, Int.reduceNeg, Int.reduceEq, hv.lenV, hv.ixsN hlt, r0, r1, e0, decide_false, w]) | (with_reducible refine And.intro (by omega) ?_ <;> try simp (dsimp := false) only [go_sem, Nat.reduceAdd, Nat.reduceEqDiff, Nat.reduceMul, Nat.reduceLeDiff, Nat.reduceSub, Nat.reduceLT, ↓reduceIte, reduceCtorEq, List.reduceReplicate, List.flatten_cons, List.flatten_nil, List.append_nil, eq_self, Int.reduceLE, Int.reduceLT, Int.reduceToNat, Nat.min_eq_left, Int.reducePow, Int.reduceNeg, Int.reduceEq, hv.lenV, hv.ixsN hlt, r0, r1, e0, decide_false, w]))
      all_goals first
        | exact ⟨false, rfl, fun q => by cases q⟩
        | exact fin (hr.step hlt (by omega) fun k hk => by omega)
    · have hk : i - 1 < l.length := by omega
      obtain ⟨s0, s1, s2⟩ := hv.hopP (.refl _) hk
      have e1 : IntKind.i64.wrap ((i : Int) - 1) = ((i - 1 : Nat) : Int) := by rw [wrap_i64 (by have := hv.le; unfold maxI at this; omega)]; omega
      have e2 : (0 : Int) < (i : Int) := by omega
      simp (dsimp := false) only [↓ir.ref22_Table.l1.bw, go_sem, Nat.reduceAdd, Nat.reduceEqDiff, Nat.reduceMul, Nat.reduceLeDiff, Nat.reduceSub, Nat.reduceLT, ↓reduceIte, reduceCtorEq, List.reduceReplicate, List.flatten_cons, List.flatten_nil, List.append_nil, eq_self, Int.reduceLE, Int.reduceLT, Int.reduceToNat, Nat.min_eq_left, Int.reducePow, Int.reduceNeg, Int.reduceEq, hv.lenV, hv.ixsN hlt, r0, r1, Int.ofNat_lt, hlt, decide_true]
      repeat' (first | ((first | refine cVd (fun hc => ?_) (fun hc => ?_) | refine gTd (fun hc => ?_) (fun hc => ?_) | refine gFd (fun hc => ?_) (fun hc => ?_) | refine cVe (fun hc => ?_) (fun hc => ?_) | refine gTe (fun hc => ?_) (fun hc => ?_) | refine gFe (fun hc => ?_) (fun hc => ?_) | refine cVn (fun hc => ?_) (fun hc => ?_) | refine gTn (fun hc => ?_) (fun hc => ?_) | refine gFn (fun hc => ?_) (fun hc => ?_) | refine cV (fun hc => ?_) (fun hc => ?_) | refine gT (fun hc => ?_) (fun hc => ?_) | refine gF (fun hc => ?_) (fun hc => ?_)) <;> try simp (dsimp := false) only [go_sem, Nat.reduceAdd, Nat.reduceEqDiff, Nat.reduceMul, Nat.reduceLeDiff, Nat.reduceSub, Nat.reduceLT, ↓reduceIte, reduceCtorEq, List.reduceReplicate, List.flatten_cons, List.flatten_nil, List.append_nil, eq_self, Int.reduceLE, Int.reduceLT, Int.reduceToNat, Nat.min_eq_left, Int.reducePow, Int.reduceNeg, Int.reduceEq, hv.lenV, hv.ixsN hlt, hv.ixsN hk, r0, r1, s0, e1, e2, decide_true, w]) | (with_reducible refine And.intro (by omega) ?_ <;> try simp (dsimp := false) only [go_sem, Nat.reduceAdd, Nat.reduceEqDiff, Nat.reduceMul, Nat.reduceLeDiff, Nat.reduceSub, Nat.reduceLT, ↓reduceIte, reduceCtorEq, List.reduceReplicate, List.flatten_cons, List.flatten_nil, List.append_nil, eq_self, Int.reduceLE, Int.reduceLT, Int.reduceToNat, Nat.min_eq_left, Int.reducePow, Int.reduceNeg, Int.reduceEq, hv.lenV, hv.ixsN hlt, hv.ixsN hk, r0, r1, s0, e1, e2, decide_true, w]))
      all_goals first
        | exact ⟨false, rfl, fun q => by cases q⟩
        | exact fin (hr.step hlt (by omega) fun k hk => (by
          obtain rfl : k = i - 1 := by omega
          omega))
  · simp (dsimp := false) only [↓ir.ref22_Table.l1.bw, go_sem, Nat.reduceAdd, Nat.reduceEqDiff, Nat.reduceMul, Nat.reduceLeDiff, Nat.reduceSub, Nat.reduceLT, ↓reduceIte, reduceCtorEq, List.reduceReplicate, List.flatten_cons, List.flatten_nil, List.append_nil, eq_self, Int.reduceLE, Int.reduceLT, Int.reduceToNat, Nat.min_eq_left, Int.reducePow, Int.reduceNeg, Int.reduceEq, hv.lenV, Int.ofNat_lt, show ¬ i < l.length by omega, decide_false]
    obtain rfl : i = l.length := by omega
    exact ⟨true, rfl, fun _ => hr.tab⟩
theorem may_may {h : AHeap} {v : Value} {l : List NodeR} (hv : Ls h 7 (isNR h) v l) (t : Int) : ∃ b : Bool, Spec Tryd.prog nG fn.ref34_May [.agg #[.int .i64 t, v]] h (.bool b) h ∧ (b = true → ∀ x ∈ l, x.may) := by
  refine SpecX.bool (SpecX.of_body (ir.ref34_May.spec (Nat.le_of_ble_eq_true rfl)) ?_)
  simp (dsimp := false) only [↓ir.ref34_May.bw, ir.ref34_May.rs, go_sem, Nat.reduceAdd, Nat.reduceEqDiff, Nat.reduceMul, Nat.reduceLeDiff, Nat.reduceSub, Nat.reduceLT, ↓reduceIte, reduceCtorEq, List.reduceReplicate, List.flatten_cons, List.flatten_nil, List.append_nil, eq_self, Int.reduceLE, Int.reduceLT, Int.reduceToNat, Nat.min_eq_left, Int.reducePow, Int.reduceNeg, Int.reduceEq, hv.cellsA]
  obtain ⟨hb, ehb⟩ : ∃ hb, h ++ [AObj.row Mode.fix [.int .i64 t, v]] = hb := ⟨_, rfl⟩
  have hpb : Pre h hb := ehb ▸ .app _ _
  have fv : Fx hb h.length [.int .i64 t, v] := ehb ▸ Fx.here _ _ _
  rw [ehb]
  clear ehb
  refine loopV_of (fun m e h2 => ∃ i : Nat, m = l.length - i ∧ i ≤ l.length ∧ Pre hb h2 ∧ (∀ j (hj : j < l.length), j < i → l[j].may) ∧ e = [(1, .pointer (some ⟨h.length, 0, none⟩)), (3, .int .i64 i)]) _ ⟨0, rfl, Nat.zero_le _, .refl _, fun j _ hj => absurd hj (Nat.not_lt_zero _), rfl⟩ ?_
  rintro m e h2 ⟨i, rfl, hi, hp, hr, rfl⟩
  have rv := (fv.pre hp).rdA (off := 1) (n := 1) (vs := [v]) rfl (by simp)
  have rv0 := (fv.pre hp).rd (off := 1) (n := 1) (vs := [v]) rfl (by simp)
  have hp2 := hpb.trans hp
  rcases Nat.lt_or_ge i l.length with hlt | hge
  · obtain ⟨tv, r1, r0, lt⟩ := hv.nodeAt hp2 hlt
    have w := wrap_succ hlt hv.le
    obtain ⟨b, sb_, hb_⟩ := table_tab (lt.pre (hp2.app' [AObj.row Mode.fix (l[i].c tv)]))
    have lt2 := lt
    have fin : ∀ g, l[i].may → ∃ m', m' < l.length - i ∧ ∃ j, m' = l.length - j ∧ j ≤ l.length ∧ Pre hb (h2 ++ g) ∧ (∀ k (hk : k < l.length), k < j → l[k].may) ∧ [(1, Value.pointer (some ⟨h.length, 0, none⟩)), (3, .int .i64 ((i + 1 : Nat) : Int))] = [(1, .pointer (some ⟨h.length, 0, none⟩)), (3, .int .i64 (j : Int))] := fun g q =>
      ⟨l.length - (i + 1), by omega, i + 1, rfl, hlt, hp.app' g, fun k hk hki => by
        rcases Nat.lt_or_ge k i with z | z
        · exact hr k hk z
        · obtain rfl : k = i := by omega
          exact q, rfl⟩
    obtain ⟨⟨up, boot, e, s, m, live, hops⟩, hx⟩ : ∃ x, l[i] = x := ⟨_, rfl⟩
    rw [hx] at r0 r1 sb_ lt2 hb_ fin
    simp only at hb_
    simp (dsimp := false) only [↓ir.ref34_May.l1.bw, go_sem, Nat.reduceAdd, Nat.reduceEqDiff, Nat.reduceMul, Nat.reduceLeDiff, Nat.reduceSub, Nat.reduceLT, ↓reduceIte, reduceCtorEq, List.reduceReplicate, List.flatten_cons, List.flatten_nil, List.append_nil, eq_self, Int.reduceLE, Int.reduceLT, Int.reduceToNat, Nat.min_eq_left, Int.reducePow, Int.reduceNeg, Int.reduceEq, rv, rv0, hv.lenV, Int.ofNat_lt, hlt, decide_true, hv.ixsN hlt, r0, r1, lt2.oneA, Bool.and_true]
    refine callV_of sb_ ?_
    cases b
    · simp (dsimp := false) only [go_sem, Nat.reduceAdd, Nat.reduceEqDiff, Nat.reduceMul, Nat.reduceLeDiff, Nat.reduceSub, Nat.reduceLT, ↓reduceIte, reduceCtorEq, List.reduceReplicate, List.flatten_cons, List.flatten_nil, List.append_nil, eq_self, Int.reduceLE, Int.reduceLT, Int.reduceToNat, Nat.min_eq_left, Int.reducePow, Int.reduceNeg, Int.reduceEq, Bool.not_false]
      exact ⟨hp2.app' _, false, rfl, fun q => by cases q⟩
    · have tb := hb_ rfl
      simp (dsimp := false) only [go_sem, Nat.reduceAdd, Nat.reduceEqDiff, Nat.reduceMul, Nat.reduceLeDiff, Nat.reduceSub, Nat.reduceLT, ↓reduceIte, reduceCtorEq, List.reduceReplicate, List.flatten_cons, List.flatten_nil, List.append_nil, eq_self, Int.reduceLE, Int.reduceLT, Int.reduceToNat, Nat.min_eq_left, Int.reducePow, Int.reduceNeg, Int.reduceEq, Bool.not_true]
      cases up
      · simp (dsimp := false) only [go_sem, Nat.reduceAdd, Nat.reduceEqDiff, Nat.reduceMul, Nat.reduceLeDiff, Nat.reduceSub, Nat.reduceLT, ↓reduceIte, reduceCtorEq, List.reduceReplicate, List.flatten_cons, List.flatten_nil, List.append_nil, eq_self, Int.reduceLE, Int.reduceLT, Int.reduceToNat, Nat.min_eq_left, Int.reducePow, Int.reduceNeg, Int.reduceEq, Bool.not_false]
        repeat' ((first | refine cVd (fun hc => ?_) (fun hc => ?_) | refine gTd (fun hc => ?_) (fun hc => ?_) | refine gFd (fun hc => ?_) (fun hc => ?_) | refine cVe (fun hc => ?_) (fun hc => ?_) | refine gTe (fun hc => ?_) (fun hc => ?_) | refine gFe (fun hc => ?_) (fun hc => ?_) | refine cVn (fun hc => ?_) (fun hc => ?_) | refine gTn (fun hc => ?_) (fun hc => ?_) | refine gFn (fun hc => ?_) (fun hc => ?_) | refine cV (fun hc => ?_) (fun hc => ?_) | refine gT (fun hc => ?_) (fun hc => ?_) | refine gF (fun hc => ?_) (fun hc => ?_)) <;> try simp (dsimp := false) only [go_sem, Nat.reduceAdd, Nat.reduceEqDiff, Nat.reduceMul, Nat.reduceLeDiff, Nat.reduceSub, Nat.reduceLT, ↓reduceIte, reduceCtorEq, List.reduceReplicate, List.flatten_cons, List.flatten_nil, List.append_nil, eq_self, Int.reduceLE, Int.reduceLT, Int.reduceToNat, Nat.min_eq_left, Int.reducePow, Int.reduceNeg, Int.reduceEq, lt2.lenV, Bool.not_true, Bool.not_false, w])
        all_goals first
          | exact ⟨hp2.app' _, false, rfl, fun q => by cases q⟩
          | skip
        rename_i q1 q2 q3
        refine fin _ ⟨tb, fun _ => ?_⟩
        have hz : hops = [] := List.eq_nil_of_length_eq_zero (by omega)
        simp at q2
        obtain ⟨z1, z2, z3⟩ := q2
        subst hz
        unfold zeroN
        congr 1 <;> omega
      · simp (dsimp := false) only [go_sem, Nat.reduceAdd, Nat.reduceEqDiff, Nat.reduceMul, Nat.reduceLeDiff, Nat.reduceSub, Nat.reduceLT, ↓reduceIte, reduceCtorEq, List.reduceReplicate, List.flatten_cons, List.flatten_nil, List.append_nil, eq_self, Int.reduceLE, Int.reduceLT, Int.reduceToNat, Nat.min_eq_left, Int.reducePow, Int.reduceNeg, Int.reduceEq, Bool.not_true, w]
        exact fin _ ⟨tb, fun q => by cases q⟩
  · simp (dsimp := false) only [↓ir.ref34_May.l1.bw, go_sem, Nat.reduceAdd, Nat.reduceEqDiff, Nat.reduceMul, Nat.reduceLeDiff, Nat.reduceSub, Nat.reduceLT, ↓reduceIte, reduceCtorEq, List.reduceReplicate, List.flatten_cons, List.flatten_nil, List.append_nil, eq_self, Int.reduceLE, Int.reduceLT, Int.reduceToNat, Nat.min_eq_left, Int.reducePow, Int.reduceNeg, Int.reduceEq, rv, rv0, hv.lenV, Int.ofNat_lt, show ¬ i < l.length by omega, decide_false]
    obtain rfl : i = l.length := by omega
    exact ⟨hp2, true, rfl, fun _ x hx => by obtain ⟨j, hj, rfl⟩ := List.getElem_of_mem hx; exact hr j hj hj⟩
theorem light_may {h : AHeap} {v : Value} {l : List NodeR} (hv : Ls h 7 (isNR h) v l) (t : Int) : ∃ b : Bool, Spec Tryd.prog nG fn.law34_light [.agg #[.int .i64 t, v]] h (.bool b) h ∧ (b = true → l.length ≤ 12 ∧ ∀ x ∈ l, x.may) := by
  refine SpecX.bool (SpecX.of_body (ir.law34_light.spec (Nat.le_of_ble_eq_true rfl)) ?_)
  obtain ⟨b, sm, hb⟩ := may_may ((hv.pre (.app h [AObj.row .fix [.int .i64 t, v]])).mono fun c x ⟨tv, e, k⟩ => ⟨tv, e, k.pre (.app _ _)⟩) t
  simp (dsimp := false) only [↓ir.law34_light.bw, ir.law34_light.rs, go_sem, Nat.reduceAdd, Nat.reduceEqDiff, Nat.reduceMul, Nat.reduceLeDiff, Nat.reduceSub, Nat.reduceLT, ↓reduceIte, reduceCtorEq, List.reduceReplicate, List.flatten_cons, List.flatten_nil, List.append_nil, eq_self, Int.reduceLE, Int.reduceLT, Int.reduceToNat, Nat.min_eq_left, Int.reducePow, Int.reduceNeg, Int.reduceEq, hv.cellsA, hv.lenV]
  refine gTd (fun c => ?_) (fun c => ?_)
  · simp (dsimp := false) only [go_sem, Nat.reduceAdd, Nat.reduceEqDiff, Nat.reduceMul, Nat.reduceLeDiff, Nat.reduceSub, Nat.reduceLT, ↓reduceIte, reduceCtorEq, List.reduceReplicate, List.flatten_cons, List.flatten_nil, List.append_nil, eq_self, Int.reduceLE, Int.reduceLT, Int.reduceToNat, Nat.min_eq_left, Int.reducePow, Int.reduceNeg, Int.reduceEq]
    refine callV_of sm ?_
    simp (dsimp := false) only [go_sem, Nat.reduceAdd, Nat.reduceEqDiff, Nat.reduceMul, Nat.reduceLeDiff, Nat.reduceSub, Nat.reduceLT, ↓reduceIte, reduceCtorEq, List.reduceReplicate, List.flatten_cons, List.flatten_nil, List.append_nil, eq_self, Int.reduceLE, Int.reduceLT, Int.reduceToNat, Nat.min_eq_left, Int.reducePow, Int.reduceNeg, Int.reduceEq]
    exact ⟨b, rfl, fun q => ⟨by omega, hb q⟩⟩
  · simp (dsimp := false) only [go_sem, Nat.reduceAdd, Nat.reduceEqDiff, Nat.reduceMul, Nat.reduceLeDiff, Nat.reduceSub, Nat.reduceLT, ↓reduceIte, reduceCtorEq, List.reduceReplicate, List.flatten_cons, List.flatten_nil, List.append_nil, eq_self, Int.reduceLE, Int.reduceLT, Int.reduceToNat, Nat.min_eq_left, Int.reducePow, Int.reduceNeg, Int.reduceEq]
    exact ⟨false, rfl, fun q => by cases q⟩
end Go.Proofs.YtoiihalnbdehkaaDoor.B
/-
  Layer 34: views as the document's, and whether two are the same.
-/
namespace Go.Proofs.YtoiihalnbdehkaaDoor.B
open Go
set_option linter.unusedVariables false
set_option linter.unusedSimpArgs false
theorem from01_spec (h : AHeap) (e s m : Int) : Spec Tryd.prog nG fn.law01_From [.agg #[.int .u32 e, .int .u32 s, .int .i64 m]] h (.agg #[.int .u32 e, .int .u32 s, .int .i64 m]) h := by
  apply ir.law01_From.spec (Nat.le_of_ble_eq_true rfl)
  simp (dsimp := false) only [↓ir.law01_From.bw, ir.law01_From.rs, go_sem, Nat.reduceAdd, Nat.reduceEqDiff, Nat.reduceMul, Nat.reduceLeDiff, Nat.reduceSub, Nat.reduceLT, ↓reduceIte, reduceCtorEq, List.reduceReplicate, List.flatten_cons, List.flatten_nil, List.append_nil, eq_self, Int.reduceLE, Int.reduceLT, Int.reduceToNat, Nat.min_eq_left, Int.reducePow, Int.reduceNeg, Int.reduceEq]
  exact Fin.agg rfl rfl
theorem from22_spec {h : AHeap} {v : Value} {l : List HopR} (hv : Ls h 3 isHR v l) (hf : FitsR l) : SpecX Tryd.prog nG fn.law22_From [v] h fun v' h' => Pre h h' ∧ Ow h h' 3 v' l.length (l.flatMap HopR.c) := by
  refine SpecX.of_body (ir.law22_From.spec (Nat.le_of_ble_eq_true rfl)) ?_
  simp (dsimp := false) only [↓ir.law22_From.bw, ir.law22_From.rs, go_sem, Nat.reduceAdd, Nat.reduceEqDiff, Nat.reduceMul, Nat.reduceLeDiff, Nat.reduceSub, Nat.reduceLT, ↓reduceIte, reduceCtorEq, List.reduceReplicate, List.flatten_cons, List.flatten_nil, List.append_nil, eq_self, Int.reduceLE, Int.reduceLT, Int.reduceToNat, Nat.min_eq_left, Int.reducePow, Int.reduceNeg, Int.reduceEq, hv.lenV]
  refine loopV_of (fun m e h2 => ∃ (i : Nat) (a : Value), m = l.length - i ∧ i ≤ l.length ∧ Pre h h2 ∧ Ow h h2 3 a i ((l.take i).flatMap HopR.c) ∧ e = [(3, a), (6, v), (7, .int .i64 l.length), (8, .int .i64 i)]) _
    ⟨0, _, rfl, Nat.zero_le _, .refl _, .nil, rfl⟩ ?_
  rintro m e h2 ⟨i, a, rfl, hi, hp, ho, rfl⟩
  rcases Nat.lt_or_ge i l.length with hlt | hge
  · obtain ⟨c, hc, hc2, r0, r1⟩ := hv.rd2 hp hlt
    subst hc2
    simp (dsimp := false) only [↓ir.law22_From.l1.bw, go_sem, Nat.reduceAdd, Nat.reduceEqDiff, Nat.reduceMul, Nat.reduceLeDiff, Nat.reduceSub, Nat.reduceLT, ↓reduceIte, reduceCtorEq, List.reduceReplicate, List.flatten_cons, List.flatten_nil, List.append_nil, eq_self, Int.reduceLE, Int.reduceLT, Int.reduceToNat, Nat.min_eq_left, Int.reducePow, Int.reduceNeg, Int.reduceEq, hv.lenV, hv.ixsN hlt, r0, r1, Int.ofNat_lt, hlt, decide_true, wrap_succ hlt hv.le]
    refine (ho.pre (.app _ _)).app rfl rfl ⟨by unfold FitsR at hf; omega, by unfold FitsR at hf; omega⟩ (fun a' h' ho' hb _ _ => ?_) (hp.app' _)
    simp (dsimp := false) only [go_sem, Nat.reduceAdd, Nat.reduceEqDiff, Nat.reduceMul, Nat.reduceLeDiff, Nat.reduceSub, Nat.reduceLT, ↓reduceIte, reduceCtorEq, List.reduceReplicate, List.flatten_cons, List.flatten_nil, List.append_nil, eq_self, Int.reduceLE, Int.reduceLT, Int.reduceToNat, Nat.min_eq_left, Int.reducePow, Int.reduceNeg, Int.reduceEq, wrap_succ hlt hv.le]
    refine ⟨l.length - (i + 1), by omega, i + 1, a', rfl, hlt, hb.pre (hp.app' _), ?_, rfl⟩
    rw [List.take_succ_eq_append_getElem hlt, List.flatMap_append]
    simpa using ho'
  · simp (dsimp := false) only [↓ir.law22_From.l1.bw, go_sem, Nat.reduceAdd, Nat.reduceEqDiff, Nat.reduceMul, Nat.reduceLeDiff, Nat.reduceSub, Nat.reduceLT, ↓reduceIte, reduceCtorEq, List.reduceReplicate, List.flatten_cons, List.flatten_nil, List.append_nil, eq_self, Int.reduceLE, Int.reduceLT, Int.reduceToNat, Nat.min_eq_left, Int.reducePow, Int.reduceNeg, Int.reduceEq, hv.lenV, Int.ofNat_lt, show ¬ i < l.length by omega, decide_false]
    obtain rfl : i = l.length := by omega
    rw [List.take_of_length_le (Nat.le_refl _)] at ho
    exact ⟨hp, ho⟩
/-- A view as the document's. -/
theorem from34_spec {h : AHeap} {v : Value} {l : List NodeR} (hv : Ls h 7 (isNR h) v l) (hl : l.length ≤ 12) (hf : ∀ x ∈ l, FitsR x.hops) (t : Int) : SpecX Tryd.prog nG fn.law34_from [.agg #[.int .i64 t, v]] h fun v' h' => Pre h h' ∧ ∃ u, v' = .agg #[.int .i64 t, u] ∧ Ls h' 7 (isNR h') u l := by
  refine SpecX.of_body (ir.law34_from.spec (Nat.le_of_ble_eq_true rfl)) ?_
  simp (dsimp := false) only [↓ir.law34_from.bw, ir.law34_from.rs, go_sem, Nat.reduceAdd, Nat.reduceEqDiff, Nat.reduceMul, Nat.reduceLeDiff, Nat.reduceSub, Nat.reduceLT, ↓reduceIte, reduceCtorEq, List.reduceReplicate, List.flatten_cons, List.flatten_nil, List.append_nil, eq_self, Int.reduceLE, Int.reduceLT, Int.reduceToNat, Nat.min_eq_left, Int.reducePow, Int.reduceNeg, Int.reduceEq, hv.cellsA, hv.lenV]
  obtain ⟨hb, ehb⟩ : ∃ hb, h ++ [AObj.row Mode.fix [.int .i64 t, v]] = hb := ⟨_, rfl⟩
  have hpb : Pre h hb := ehb ▸ .app _ _
  have hbl : hb.length = h.length + 1 := by rw [← ehb]; simp
  obtain ⟨h1, eh1⟩ : ∃ h1, h ++ [AObj.row Mode.fix [.int .i64 t, v], AObj.row Mode.fix [.int .i64 0, nilS], AObj.row Mode.fix [.int .i64 t, nilS]] = h1 := ⟨_, rfl⟩
  have hp1 : Pre hb h1 := ⟨[AObj.row Mode.fix [.int .i64 0, nilS], AObj.row Mode.fix [.int .i64 t, nilS]], by rw [← ehb, ← eh1]; simp⟩
  have f2 : Fx h1 (h.length + 1) [.int .i64 0, nilS] := by rw [← eh1]; simp [Fx]
  have f3 : Fx h1 (h.length + 2) [.int .i64 t, nilS] := by rw [← eh1]; simp [Fx]
  rw [eh1]
  clear eh1 ehb
  refine loopV_of (fun m e h2 => ∃ (i : Nat) (u : Value), m = l.length - i ∧ i ≤ l.length ∧ Pre hb h2 ∧ Fx h2 (h.length + 1) [.int .i64 0, nilS] ∧ Fx h2 (h.length + 2) [.int .i64 t, u] ∧ OwNd hb h2 u (l.take i) ∧
    e = [(2, .pointer (some ⟨h.length + 1, 0, none⟩)), (3, .pointer (some ⟨h.length + 2, 0, none⟩)), (10, v), (11, .int .i64 l.length), (12, .int .i64 i)]) _ ⟨0, nilS, rfl, Nat.zero_le _, hp1, f2, f3, .nil, rfl⟩ ?_
  clear hp1 f2 f3
  rintro m e h2 ⟨i, u, rfl, hi, hp, f2, f3, ho, rfl⟩
  rcases Nat.lt_or_ge i l.length with hlt | hge
  · obtain ⟨tv, r1, r0, lt⟩ := hv.nodeAt (hpb.trans hp) hlt
    have w := wrap_succ hlt hv.le
    have hfi := hf l[i] (List.getElem_mem hlt)
    have hlen : (l.take i ++ [l[i]]).length ≤ 12 := by simp; omega
    obtain ⟨⟨up, boot, e, s, m, live, hops⟩, hx⟩ : ∃ x, l[i] = x := ⟨_, rfl⟩
    have ht : l.take (i + 1) = l.take i ++ [⟨up, boot, e, s, m, live, hops⟩] := by rw [List.take_succ_eq_append_getElem hlt, hx]
    rw [hx] at r0 r1 lt hfi hlen
    have r3 := f3.rdA (off := 1) (n := 1) (vs := [u]) rfl (by simp)
    simp (dsimp := false) only [↓ir.law34_from.l1.bw, go_sem, Nat.reduceAdd, Nat.reduceEqDiff, Nat.reduceMul, Nat.reduceLeDiff, Nat.reduceSub, Nat.reduceLT, ↓reduceIte, reduceCtorEq, List.reduceReplicate, List.flatten_cons, List.flatten_nil, List.append_nil, eq_self, Int.reduceLE, Int.reduceLT, Int.reduceToNat, Nat.min_eq_left, Int.reducePow, Int.reduceNeg, Int.reduceEq, Int.ofNat_lt, hlt, decide_true, hv.ixsN hlt, r0, r1, r3, lt.oneA, Bool.and_true]
    refine callV_of (from01_spec _ _ _ _) ?_
    simp (dsimp := false) only [go_sem, Nat.reduceAdd, Nat.reduceEqDiff, Nat.reduceMul, Nat.reduceLeDiff, Nat.reduceSub, Nat.reduceLT, ↓reduceIte, reduceCtorEq, List.reduceReplicate, List.flatten_cons, List.flatten_nil, List.append_nil, eq_self, Int.reduceLE, Int.reduceLT, Int.reduceToNat, Nat.min_eq_left, Int.reducePow, Int.reduceNeg, Int.reduceEq]
    refine callV_x (from22_spec (lt.pre ((hpb.trans hp).app' _)) hfi) ?_
    rintro tv2 h3 ⟨hp3, o3⟩
    have r3' := (f3.app _).pre hp3 |>.rdA (off := 1) (n := 1) (vs := [u]) rfl (by simp)
    simp (dsimp := false) only [go_sem, Nat.reduceAdd, Nat.reduceEqDiff, Nat.reduceMul, Nat.reduceLeDiff, Nat.reduceSub, Nat.reduceLT, ↓reduceIte, reduceCtorEq, List.reduceReplicate, List.flatten_cons, List.flatten_nil, List.append_nil, eq_self, Int.reduceLE, Int.reduceLT, Int.reduceToNat, Nat.min_eq_left, Int.reducePow, Int.reduceNeg, Int.reduceEq, o3.hopsR.cellsA, o3.hopsR.oneA, Bool.and_true]
    refine ⟨hp3, ?_⟩
    have hp4 : Pre h2 (h3 ++ [AObj.row (Mode.grow 7) (NodeR.c ⟨up, boot, e, s, m, live, hops⟩ tv2)]) := ((Pre.app _ _).trans hp3).app' _
    refine OwE.snoc (t := ⟨up, boot, e, s, m, live, hops⟩) ho hp hp4 (fun _ _ => rfl) (o3.pre (.app _ _)) (by simp) (o3.hopsR.pre (.app _ _)) (by simp only [NodeR.c, List.all_cons, List.all_nil, o3.hopsR.oneA, Bool.and_true]; rfl) ⟨by simp; omega, by simp; omega⟩ fun u' h' ho' hp' hc => ?_
    have g2 := (f2.pre hp4).chg hc (ho.nfix f2)
    have g3 := (f3.pre hp4).chg hc (ho.nfix f3)
    have wr : wrs h' (h.length + 2) 1 [u'] = some (h'.set (h.length + 2) (.row .fix [.int .i64 t, u'])) := by rw [g3.wr (by simp)]; rfl
    have l' := ho'.ls
    simp (dsimp := false) only [go_sem, Nat.reduceAdd, Nat.reduceEqDiff, Nat.reduceMul, Nat.reduceLeDiff, Nat.reduceSub, Nat.reduceLT, ↓reduceIte, reduceCtorEq, List.reduceReplicate, List.flatten_cons, List.flatten_nil, List.append_nil, eq_self, Int.reduceLE, Int.reduceLT, Int.reduceToNat, Nat.min_eq_left, Int.reducePow, Int.reduceNeg, Int.reduceEq, l'.cellsA, l'.oneA, Bool.and_true, wr, w]
    refine ⟨l.length - (i + 1), by omega, i + 1, u', rfl, hlt, hp'.put (by omega) _, g2.other (by omega) _, g3.set _, ?_, rfl⟩
    rw [ht]
    exact ho'.put g3 _
  · obtain rfl : i = l.length := by omega
    rw [List.take_of_length_le (Nat.le_refl _)] at ho
    have r3 := f3.rd (off := 0) (n := 2) (vs := [.int .i64 t, u]) rfl (by simp)
    have wr : wrs h2 (h.length + 1) 0 [.int .i64 t, u] = some (h2.set (h.length + 1) (.row .fix [.int .i64 t, u])) := by rw [f2.wr (by simp)]; rfl
    have rr := (f2.set [.int .i64 t, u]).rd (off := 0) (n := 2) (vs := [.int .i64 t, u]) rfl (by simp)
    simp (dsimp := false) only [↓ir.law34_from.l1.bw, go_sem, Nat.reduceAdd, Nat.reduceEqDiff, Nat.reduceMul, Nat.reduceLeDiff, Nat.reduceSub, Nat.reduceLT, ↓reduceIte, reduceCtorEq, List.reduceReplicate, List.flatten_cons, List.flatten_nil, List.append_nil, eq_self, Int.reduceLE, Int.reduceLT, Int.reduceToNat, Nat.min_eq_left, Int.reducePow, Int.reduceNeg, Int.reduceEq, Int.ofNat_lt, show ¬ l.length < l.length by omega, decide_false, r3, wr, ho.ls.oneA, Bool.and_true, rr]
    refine ⟨(hpb.trans hp).put (by omega) _, u, rfl, ?_⟩
    exact (ho.put f2 _).ls
theorem hop_self (x : HopR) : eqCells [0, 0, 0] x.c x.c = some true := by
  simp [HopR.c, eqCells_cons, eqCells_nil, keyEqI]
theorem sameHops_spec {h : AHeap} {va vb : Value} {l : List HopR} (ha : Ls h 3 isHR va l) (hb : Ls h 3 isHR vb l) : Spec Tryd.prog nG fn.ref22_SameHops [va, vb] h (.bool true) h := by
  suffices H : SpecX Tryd.prog nG fn.ref22_SameHops [va, vb] h fun v' h' => h' = h ∧ v' = .bool true by
    obtain ⟨v', h', hs, rfl, rfl⟩ := H
    exact hs
  refine SpecX.of_body (ir.ref22_SameHops.spec (Nat.le_of_ble_eq_true rfl)) ?_
  simp (dsimp := false) only [↓ir.ref22_SameHops.bw, ir.ref22_SameHops.rs, go_sem, Nat.reduceAdd, Nat.reduceEqDiff, Nat.reduceMul, Nat.reduceLeDiff, Nat.reduceSub, Nat.reduceLT, ↓reduceIte, reduceCtorEq, List.reduceReplicate, List.flatten_cons, List.flatten_nil, List.append_nil, eq_self, Int.reduceLE, Int.reduceLT, Int.reduceToNat, Nat.min_eq_left, Int.reducePow, Int.reduceNeg, Int.reduceEq, ha.lenV, hb.lenV, bne_self_eq_false]
  refine loopV_of (fun m e h2 => ∃ i : Nat, m = l.length - i ∧ i ≤ l.length ∧ h2 = h ∧ e = [(0, va), (1, vb), (5, .int .i64 i)]) _ ⟨0, rfl, Nat.zero_le _, rfl, rfl⟩ ?_
  rintro m e h2 ⟨i, rfl, hi, rfl, rfl⟩
  rcases Nat.lt_or_ge i l.length with hlt | hge
  · have w := wrap_succ hlt ha.le
    obtain ⟨r0, r1⟩ := ha.hopAt (.refl _) hlt
    obtain ⟨s0, s1⟩ := hb.hopAt (.refl _) hlt
    have ee := hop_self l[i]
    simp (dsimp := false) only [↓ir.ref22_SameHops.l1.bw, go_sem, Nat.reduceAdd, Nat.reduceEqDiff, Nat.reduceMul, Nat.reduceLeDiff, Nat.reduceSub, Nat.reduceLT, ↓reduceIte, reduceCtorEq, List.reduceReplicate, List.flatten_cons, List.flatten_nil, List.append_nil, eq_self, Int.reduceLE, Int.reduceLT, Int.reduceToNat, Nat.min_eq_left, Int.reducePow, Int.reduceNeg, Int.reduceEq, ha.lenV, Int.ofNat_lt, hlt, decide_true, ha.ixsN hlt, hb.ixsN hlt, r0, s0, ee, Bool.not_true, w]
    exact ⟨l.length - (i + 1), by omega, i + 1, rfl, hlt, rfl⟩
  · simp (dsimp := false) only [↓ir.ref22_SameHops.l1.bw, go_sem, Nat.reduceAdd, Nat.reduceEqDiff, Nat.reduceMul, Nat.reduceLeDiff, Nat.reduceSub, Nat.reduceLT, ↓reduceIte, reduceCtorEq, List.reduceReplicate, List.flatten_cons, List.flatten_nil, List.append_nil, eq_self, Int.reduceLE, Int.reduceLT, Int.reduceToNat, Nat.min_eq_left, Int.reducePow, Int.reduceNeg, Int.reduceEq, ha.lenV, Int.ofNat_lt, show ¬ i < l.length by omega, decide_false]
theorem sameNode_spec {h : AHeap} {va vb : Value} (x : NodeR) (ha : Ls h 3 isHR va x.hops) (hb : Ls h 3 isHR vb x.hops) : Spec Tryd.prog nG fn.ref34_SameNode [.agg ⟨x.c va⟩, .agg ⟨x.c vb⟩] h (.bool true) h := by
  apply ir.ref34_SameNode.spec (Nat.le_of_ble_eq_true rfl)
  obtain ⟨up, boot, e, s, m, live, hops⟩ := x
  have ee : eqCells [0, 0, 0] [.int .u32 (e : Int), .int .u32 (s : Int), .int .i64 m] [.int .u32 (e : Int), .int .u32 (s : Int), .int .i64 m] = some true := by
    simp [eqCells_cons, eqCells_nil, keyEqI]
  simp (dsimp := false) only [↓ir.ref34_SameNode.bw, ir.ref34_SameNode.rs, go_sem, Nat.reduceAdd, Nat.reduceEqDiff, Nat.reduceMul, Nat.reduceLeDiff, Nat.reduceSub, Nat.reduceLT, ↓reduceIte, reduceCtorEq, List.reduceReplicate, List.flatten_cons, List.flatten_nil, List.append_nil, eq_self, Int.reduceLE, Int.reduceLT, Int.reduceToNat, Nat.min_eq_left, Int.reducePow, Int.reduceNeg, Int.reduceEq, ha.cellsA, hb.cellsA, beq_self_eq_true, ee, Bool.and_true]
  refine callV_of (sameHops_spec (ha.pre (.app _ _)) (hb.pre (.app _ _))) ?_
  simp (dsimp := false) only [go_sem, Nat.reduceAdd, Nat.reduceEqDiff, Nat.reduceMul, Nat.reduceLeDiff, Nat.reduceSub, Nat.reduceLT, ↓reduceIte, reduceCtorEq, List.reduceReplicate, List.flatten_cons, List.flatten_nil, List.append_nil, eq_self, Int.reduceLE, Int.reduceLT, Int.reduceToNat, Nat.min_eq_left, Int.reducePow, Int.reduceNeg, Int.reduceEq]
  exact Fin.sc rfl rfl
theorem sameView_spec {h : AHeap} {va vb : Value} {l : List NodeR} (ha : Ls h 7 (isNR h) va l) (hb : Ls h 7 (isNR h) vb l) (t : Int) : Spec Tryd.prog nG fn.ref34_SameView [.agg #[.int .i64 t, va], .agg #[.int .i64 t, vb]] h (.bool true) h := by
  suffices H : ∃ b : Bool, Spec Tryd.prog nG fn.ref34_SameView [.agg #[.int .i64 t, va], .agg #[.int .i64 t, vb]] h (.bool b) h ∧ b = true by
    obtain ⟨_, hs, rfl⟩ := H
    exact hs
  refine SpecX.bool (SpecX.of_body (ir.ref34_SameView.spec (Nat.le_of_ble_eq_true rfl)) ?_)
  simp (dsimp := false) only [↓ir.ref34_SameView.bw, ir.ref34_SameView.rs, go_sem, Nat.reduceAdd, Nat.reduceEqDiff, Nat.reduceMul, Nat.reduceLeDiff, Nat.reduceSub, Nat.reduceLT, ↓reduceIte, reduceCtorEq, List.reduceReplicate, List.flatten_cons, List.flatten_nil, List.append_nil, eq_self, Int.reduceLE, Int.reduceLT, Int.reduceToNat, Nat.min_eq_left, Int.reducePow, Int.reduceNeg, Int.reduceEq, ha.cellsA, hb.cellsA, ha.lenV, hb.lenV, bne_self_eq_false]
  obtain ⟨h1, eh1⟩ : ∃ h1, h ++ [AObj.row Mode.fix [.int .i64 t, va], AObj.row Mode.fix [.int .i64 t, vb]] = h1 := ⟨_, rfl⟩
  have hp1 : Pre h h1 := eh1 ▸ .app _ _
  have f2 : Fx h1 h.length [.int .i64 t, va] := eh1 ▸ Fx.here _ _ _
  have f3 : Fx h1 (h.length + 1) [.int .i64 t, vb] := by rw [← eh1]; simp [Fx]
  rw [eh1]
  clear eh1
  have rA := f2.rd (off := 1) (n := 1) (vs := [va]) rfl (by simp)
  have rB := f3.rd (off := 1) (n := 1) (vs := [vb]) rfl (by simp)
  refine loopV_of (fun m e h2 => ∃ i : Nat, m = l.length - i ∧ i ≤ l.length ∧ h2 = h1 ∧ e = [(2, .pointer (some ⟨h.length, 0, none⟩)), (3, .pointer (some ⟨h.length + 1, 0, none⟩)), (5, .int .i64 i)]) _ ⟨0, rfl, Nat.zero_le _, rfl, rfl⟩ ?_
  rintro m e h2 ⟨i, rfl, hi, rfl, rfl⟩
  rcases Nat.lt_or_ge i l.length with hlt | hge
  · have w := wrap_succ hlt ha.le
    obtain ⟨tv, _, r0, lt⟩ := ha.nodeAt hp1 hlt
    obtain ⟨tw, _, s0, ls⟩ := hb.nodeAt hp1 hlt
    simp (dsimp := false) only [↓ir.ref34_SameView.l1.bw, go_sem, Nat.reduceAdd, Nat.reduceEqDiff, Nat.reduceMul, Nat.reduceLeDiff, Nat.reduceSub, Nat.reduceLT, ↓reduceIte, reduceCtorEq, List.reduceReplicate, List.flatten_cons, List.flatten_nil, List.append_nil, eq_self, Int.reduceLE, Int.reduceLT, Int.reduceToNat, Nat.min_eq_left, Int.reducePow, Int.reduceNeg, Int.reduceEq, rA, rB, ha.lenV, Int.ofNat_lt, hlt, decide_true, ha.ixsN hlt, hb.ixsN hlt, r0, s0]
    refine callV_of (sameNode_spec l[i] (lt.pre hp1) (ls.pre hp1)) ?_
    simp (dsimp := false) only [go_sem, Nat.reduceAdd, Nat.reduceEqDiff, Nat.reduceMul, Nat.reduceLeDiff, Nat.reduceSub, Nat.reduceLT, ↓reduceIte, reduceCtorEq, List.reduceReplicate, List.flatten_cons, List.flatten_nil, List.append_nil, eq_self, Int.reduceLE, Int.reduceLT, Int.reduceToNat, Nat.min_eq_left, Int.reducePow, Int.reduceNeg, Int.reduceEq, Bool.not_true, w]
    exact ⟨l.length - (i + 1), by omega, i + 1, rfl, hlt, rfl⟩
  · simp (dsimp := false) only [↓ir.ref34_SameView.l1.bw, go_sem, Nat.reduceAdd, Nat.reduceEqDiff, Nat.reduceMul, Nat.reduceLeDiff, Nat.reduceSub, Nat.reduceLT, ↓reduceIte, reduceCtorEq, List.reduceReplicate, List.flatten_cons, List.flatten_nil, List.append_nil, eq_self, Int.reduceLE, Int.reduceLT, Int.reduceToNat, Nat.min_eq_left, Int.reducePow, Int.reduceNeg, Int.reduceEq, rA, rB, ha.lenV, Int.ofNat_lt, show ¬ i < l.length by omega, decide_false]
    exact ⟨hp1, true, rfl, rfl⟩
end Go.Proofs.YtoiihalnbdehkaaDoor.B
