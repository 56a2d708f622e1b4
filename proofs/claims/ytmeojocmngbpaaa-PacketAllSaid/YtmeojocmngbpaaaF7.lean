/-
  Layer 22 (fib) over the abstract heap: how far each node is (P22.4).
-/
import Derived.Test.YtmeojocmngbpaaaF4
import Derived.Test.YtmeojocmngbpaaaD1
namespace Go.Proofs.Ytmeojocmngbpaaa.B
open Go Go.IntWalk
set_option linter.unusedVariables false
set_option linter.unusedSimpArgs false

abbrev isB (c : List Value) (b : Bool) : Prop := c = [.bool b]
abbrev isR (h : AHeap) (c : List Value) (r : List Bool) : Prop := ∃ rv, c = [rv] ∧ Ls h 1 isB rv r
theorem Ls.isRpre {h h' : AHeap} (p : Pre h h') {v : Value} {L : List (List Bool)} (k : Ls h 1 (isR h) v L) : Ls h' 1 (isR h') v L := (k.pre p).mono fun _ _ ⟨rv, a, b⟩ => ⟨rv, a, b.pre p⟩

theorem linked_spec {h : AHeap} {v : Value} {L : List (List Bool)} (hv : Ls h 1 (isR h) v L) {a b : Nat} (ha : a < L.length) (hb : b < L.length) : SpecX Try.prog nG fn.ref22_Linked [v, .int .i64 a, .int .i64 b] h fun v' h' =>
    Pre h h' ∧ ∃ x, v' = .bool x ∧ (x = true ↔ LkB L a b) := by
  refine SpecX.of_body (ir.ref22_Linked.spec (Nat.le_of_ble_eq_true rfl)) ?_
  obtain ⟨_, _, ⟨rv, rfl, hr⟩, r0, r1⟩ := hv.rd2 (.refl _) ha
  have e : L[a]? = some L[a] := by simp [ha]
  simp (dsimp := false) only [↓ir.ref22_Linked.bw, ir.ref22_Linked.rs, ↓ir.ref22_Linked.r0.w, ↓ir.ref22_Linked.r1.w, ir.ref22_Linked.rs, go_sem, Nat.reduceAdd, Nat.reduceEqDiff, Nat.reduceMul, Nat.reduceLeDiff, Nat.reduceSub, Nat.reduceLT, ↓reduceIte, reduceCtorEq, List.reduceReplicate, List.flatten_cons, List.flatten_nil, List.append_nil, eq_self, Int.reduceLE, Int.reduceLT, Int.reduceToNat, Nat.min_eq_left, Int.reducePow, Int.reduceNeg, Int.reduceEq, hv.lenV, Int.ofNat_lt, ha, hb, decide_true, hv.ixsN ha, r0, hr.lenV]
  refine gTd (fun hc => ?_) (fun hc => ?_)
  · obtain ⟨_, _, rfl, s0, _⟩ := hr.rd2 (.refl _) hc
    simp (dsimp := false) only [↓ir.ref22_Linked.r0.w, ↓ir.ref22_Linked.r1.w, ir.ref22_Linked.rs, go_sem, Nat.reduceAdd, Nat.reduceEqDiff, Nat.reduceMul, Nat.reduceLeDiff, Nat.reduceSub, Nat.reduceLT, ↓reduceIte, reduceCtorEq, List.reduceReplicate, List.flatten_cons, List.flatten_nil, List.append_nil, eq_self, Int.reduceLE, Int.reduceLT, Int.reduceToNat, Nat.min_eq_left, Int.reducePow, Int.reduceNeg, Int.reduceEq, hv.ixsN ha, r0, hr.ixsN hc, s0]
    refine ⟨_, rfl, fun q => ⟨_, e, by simp [hc, q]⟩, fun ⟨r, q1, q2⟩ => ?_⟩
    rw [e] at q1
    cases q1
    simpa [hc] using q2
  · simp (dsimp := false) only [↓ir.ref22_Linked.r0.w, ↓ir.ref22_Linked.r1.w, ir.ref22_Linked.rs, go_sem, Nat.reduceAdd, Nat.reduceEqDiff, Nat.reduceMul, Nat.reduceLeDiff, Nat.reduceSub, Nat.reduceLT, ↓reduceIte, reduceCtorEq, List.reduceReplicate, List.flatten_cons, List.flatten_nil, List.append_nil, eq_self, Int.reduceLE, Int.reduceLT, Int.reduceToNat, Nat.min_eq_left, Int.reducePow, Int.reduceNeg, Int.reduceEq]
    refine ⟨_, rfl, fun q => (by cases q), fun ⟨r, q1, q2⟩ => ?_⟩
    rw [e] at q1
    cases q1
    exact absurd (List.getElem?_eq_some_iff.1 q2).1 hc

/-- What is said of any destination. -/
def FarOf (L : List (List Bool)) (dest : Int) (f : List Int) : Prop := (dest < 0 ∨ (L.length : Int) ≤ dest → f = List.replicate L.length (-1)) ∧ (0 ≤ dest → dest < L.length → IsFar L dest.toNat f)
theorem FarOf.uniq {L : List (List Bool)} {dest : Int} {f g : List Int} (h : FarOf L dest f) (k : FarOf L dest g) : f = g := by
  by_cases q : 0 ≤ dest ∧ dest < L.length
  · exact (h.2 q.1 q.2).uniq (k.2 q.1 q.2)
  · rw [h.1 (by omega), k.1 (by omega)]

theorem rfar_spec {h : AHeap} {v : Value} {L : List (List Bool)} (hv : Ls h 1 (isR h) v L) (hn : L.length ≤ 10) (dest : Int) : SpecX Try.prog nG fn.ref22_Far [v, .int .i64 dest] h fun v' h' =>
    Pre h h' ∧ ∃ f, Ow h h' 1 v' f.length (f.flatMap intC) ∧ FarOf L dest f := by
  refine SpecX.of_body (ir.ref22_Far.spec (Nat.le_of_ble_eq_true rfl)) ?_
  simp (dsimp := false) only [↓ir.ref22_Far.bw, ir.ref22_Far.rs, ↓ir.ref22_Far.r0.w, ↓ir.ref22_Far.r1.w, ↓ir.ref22_Far.r2.w, ↓ir.ref22_Far.r3.w, ↓ir.ref22_Far.r5.w, ↓ir.ref22_Far.r4.w, ↓ir.ref22_Far.l1.w, ↓ir.ref22_Far.r6.w, ↓ir.ref22_Far.r7.w, ↓ir.ref22_Far.r8.w, ↓ir.ref22_Far.r9.w, ↓ir.ref22_Far.r10.w, ↓ir.ref22_Far.r12.w, ↓ir.ref22_Far.r13.w, ↓ir.ref22_Far.r15.w, ↓ir.ref22_Far.r16.w, ↓ir.ref22_Far.r18.w, ↓ir.ref22_Far.r19.w, ↓ir.ref22_Far.r17.w, ↓ir.ref22_Far.l2.w, ↓ir.ref22_Far.r14.w, ↓ir.ref22_Far.l3.w, ↓ir.ref22_Far.r11.w, ↓ir.ref22_Far.l4.w, ↓ir.ref22_Far.r20.w, ir.ref22_Far.rs, go_sem, Nat.reduceAdd, Nat.reduceEqDiff, Nat.reduceMul, Nat.reduceLeDiff, Nat.reduceSub, Nat.reduceLT, ↓reduceIte, reduceCtorEq, List.reduceReplicate, List.flatten_cons, List.flatten_nil, List.append_nil, eq_self, Int.reduceLE, Int.reduceLT, Int.reduceToNat, Nat.min_eq_left, Int.reducePow, Int.reduceNeg, Int.reduceEq]
  refine loopV_of (fun m e h2 => ∃ (i : Nat) (u : Value), m = L.length - i ∧ i ≤ L.length ∧ Pre h h2 ∧ Ow h h2 1 u (List.replicate i (-1 : Int)).length ((List.replicate i (-1 : Int)).flatMap intC) ∧
    e = [(0, v), (1, .int .i64 dest), (5, u), (6, .int .i64 i)]) _ ⟨0, _, rfl, Nat.zero_le _, .refl _, .nil, rfl⟩ ?_
  rintro m e h2 ⟨i, u, rfl, hi, hp, ho, rfl⟩
  rcases Nat.lt_or_ge i L.length with hlt | hge
  · simp (dsimp := false) only [↓ir.ref22_Far.l1.bw, ↓ir.ref22_Far.r0.w, ↓ir.ref22_Far.r1.w, ↓ir.ref22_Far.r2.w, ↓ir.ref22_Far.r3.w, ↓ir.ref22_Far.r5.w, ↓ir.ref22_Far.r4.w, ↓ir.ref22_Far.l1.w, ↓ir.ref22_Far.r6.w, ↓ir.ref22_Far.r7.w, ↓ir.ref22_Far.r8.w, ↓ir.ref22_Far.r9.w, ↓ir.ref22_Far.r10.w, ↓ir.ref22_Far.r12.w, ↓ir.ref22_Far.r13.w, ↓ir.ref22_Far.r15.w, ↓ir.ref22_Far.r16.w, ↓ir.ref22_Far.r18.w, ↓ir.ref22_Far.r19.w, ↓ir.ref22_Far.r17.w, ↓ir.ref22_Far.l2.w, ↓ir.ref22_Far.r14.w, ↓ir.ref22_Far.l3.w, ↓ir.ref22_Far.r11.w, ↓ir.ref22_Far.l4.w, ↓ir.ref22_Far.r20.w, ir.ref22_Far.rs, go_sem, Nat.reduceAdd, Nat.reduceEqDiff, Nat.reduceMul, Nat.reduceLeDiff, Nat.reduceSub, Nat.reduceLT, ↓reduceIte, reduceCtorEq, List.reduceReplicate, List.flatten_cons, List.flatten_nil, List.append_nil, eq_self, Int.reduceLE, Int.reduceLT, Int.reduceToNat, Nat.min_eq_left, Int.reducePow, Int.reduceNeg, Int.reduceEq, hv.lenV, Int.ofNat_lt, hlt, decide_true]
    refine (ho.pre (.app _ _)).app (m := 1) rfl rfl ⟨by simp; omega, by simp; omega⟩ (fun a' h' ho' hb _ _ => ?_) (hp.app' _)
    have hpp := hb.pre (hp.app' _)
    simp (dsimp := false) only [↓ir.ref22_Far.r0.w, ↓ir.ref22_Far.r1.w, ↓ir.ref22_Far.r2.w, ↓ir.ref22_Far.r3.w, ↓ir.ref22_Far.r5.w, ↓ir.ref22_Far.r4.w, ↓ir.ref22_Far.l1.w, ↓ir.ref22_Far.r6.w, ↓ir.ref22_Far.r7.w, ↓ir.ref22_Far.r8.w, ↓ir.ref22_Far.r9.w, ↓ir.ref22_Far.r10.w, ↓ir.ref22_Far.r12.w, ↓ir.ref22_Far.r13.w, ↓ir.ref22_Far.r15.w, ↓ir.ref22_Far.r16.w, ↓ir.ref22_Far.r18.w, ↓ir.ref22_Far.r19.w, ↓ir.ref22_Far.r17.w, ↓ir.ref22_Far.l2.w, ↓ir.ref22_Far.r14.w, ↓ir.ref22_Far.l3.w, ↓ir.ref22_Far.r11.w, ↓ir.ref22_Far.l4.w, ↓ir.ref22_Far.r20.w, ir.ref22_Far.rs, go_sem, Nat.reduceAdd, Nat.reduceEqDiff, Nat.reduceMul, Nat.reduceLeDiff, Nat.reduceSub, Nat.reduceLT, ↓reduceIte, reduceCtorEq, List.reduceReplicate, List.flatten_cons, List.flatten_nil, List.append_nil, eq_self, Int.reduceLE, Int.reduceLT, Int.reduceToNat, Nat.min_eq_left, Int.reducePow, Int.reduceNeg, Int.reduceEq, wrap_succ hlt hv.le]
    refine ⟨L.length - (i + 1), by omega, i + 1, a', rfl, hlt, hpp, ?_, rfl⟩
    have := ho'.snoc
    rwa [← List.replicate_succ'] at this
  simp (dsimp := false) only [↓ir.ref22_Far.l1.bw, ↓ir.ref22_Far.r0.w, ↓ir.ref22_Far.r1.w, ↓ir.ref22_Far.r2.w, ↓ir.ref22_Far.r3.w, ↓ir.ref22_Far.r5.w, ↓ir.ref22_Far.r4.w, ↓ir.ref22_Far.l1.w, ↓ir.ref22_Far.r6.w, ↓ir.ref22_Far.r7.w, ↓ir.ref22_Far.r8.w, ↓ir.ref22_Far.r9.w, ↓ir.ref22_Far.r10.w, ↓ir.ref22_Far.r12.w, ↓ir.ref22_Far.r13.w, ↓ir.ref22_Far.r15.w, ↓ir.ref22_Far.r16.w, ↓ir.ref22_Far.r18.w, ↓ir.ref22_Far.r19.w, ↓ir.ref22_Far.r17.w, ↓ir.ref22_Far.l2.w, ↓ir.ref22_Far.r14.w, ↓ir.ref22_Far.l3.w, ↓ir.ref22_Far.r11.w, ↓ir.ref22_Far.l4.w, ↓ir.ref22_Far.r20.w, ir.ref22_Far.rs, go_sem, Nat.reduceAdd, Nat.reduceEqDiff, Nat.reduceMul, Nat.reduceLeDiff, Nat.reduceSub, Nat.reduceLT, ↓reduceIte, reduceCtorEq, List.reduceReplicate, List.flatten_cons, List.flatten_nil, List.append_nil, eq_self, Int.reduceLE, Int.reduceLT, Int.reduceToNat, Nat.min_eq_left, Int.reducePow, Int.reduceNeg, Int.reduceEq, hv.lenV, Int.ofNat_lt, show ¬ i < L.length by omega, decide_false]
  obtain rfl : i = L.length := by omega
  clear hge hi
  have fin : (dest < 0 ∨ (L.length : Int) ≤ dest) → Pre h h2 ∧ ∃ f, Ow h h2 1 u f.length (f.flatMap intC) ∧ FarOf L dest f := fun q => ⟨hp, _, ho, fun _ => rfl, fun a b => by omega⟩
  refine gFd (fun c1 => ?_) (fun c1 => ?_)
  · simp (dsimp := false) only [↓ir.ref22_Far.r0.w, ↓ir.ref22_Far.r1.w, ↓ir.ref22_Far.r2.w, ↓ir.ref22_Far.r3.w, ↓ir.ref22_Far.r5.w, ↓ir.ref22_Far.r4.w, ↓ir.ref22_Far.l1.w, ↓ir.ref22_Far.r6.w, ↓ir.ref22_Far.r7.w, ↓ir.ref22_Far.r8.w, ↓ir.ref22_Far.r9.w, ↓ir.ref22_Far.r10.w, ↓ir.ref22_Far.r12.w, ↓ir.ref22_Far.r13.w, ↓ir.ref22_Far.r15.w, ↓ir.ref22_Far.r16.w, ↓ir.ref22_Far.r18.w, ↓ir.ref22_Far.r19.w, ↓ir.ref22_Far.r17.w, ↓ir.ref22_Far.l2.w, ↓ir.ref22_Far.r14.w, ↓ir.ref22_Far.l3.w, ↓ir.ref22_Far.r11.w, ↓ir.ref22_Far.l4.w, ↓ir.ref22_Far.r20.w, ir.ref22_Far.rs, go_sem, Nat.reduceAdd, Nat.reduceEqDiff, Nat.reduceMul, Nat.reduceLeDiff, Nat.reduceSub, Nat.reduceLT, ↓reduceIte, reduceCtorEq, List.reduceReplicate, List.flatten_cons, List.flatten_nil, List.append_nil, eq_self, Int.reduceLE, Int.reduceLT, Int.reduceToNat, Nat.min_eq_left, Int.reducePow, Int.reduceNeg, Int.reduceEq]
    exact fin (.inl c1)
  simp (dsimp := false) only [↓ir.ref22_Far.r0.w, ↓ir.ref22_Far.r1.w, ↓ir.ref22_Far.r2.w, ↓ir.ref22_Far.r3.w, ↓ir.ref22_Far.r5.w, ↓ir.ref22_Far.r4.w, ↓ir.ref22_Far.l1.w, ↓ir.ref22_Far.r6.w, ↓ir.ref22_Far.r7.w, ↓ir.ref22_Far.r8.w, ↓ir.ref22_Far.r9.w, ↓ir.ref22_Far.r10.w, ↓ir.ref22_Far.r12.w, ↓ir.ref22_Far.r13.w, ↓ir.ref22_Far.r15.w, ↓ir.ref22_Far.r16.w, ↓ir.ref22_Far.r18.w, ↓ir.ref22_Far.r19.w, ↓ir.ref22_Far.r17.w, ↓ir.ref22_Far.l2.w, ↓ir.ref22_Far.r14.w, ↓ir.ref22_Far.l3.w, ↓ir.ref22_Far.r11.w, ↓ir.ref22_Far.l4.w, ↓ir.ref22_Far.r20.w, ir.ref22_Far.rs, go_sem, Nat.reduceAdd, Nat.reduceEqDiff, Nat.reduceMul, Nat.reduceLeDiff, Nat.reduceSub, Nat.reduceLT, ↓reduceIte, reduceCtorEq, List.reduceReplicate, List.flatten_cons, List.flatten_nil, List.append_nil, eq_self, Int.reduceLE, Int.reduceLT, Int.reduceToNat, Nat.min_eq_left, Int.reducePow, Int.reduceNeg, Int.reduceEq, hv.lenV]
  refine cVd (fun c2 => ?_) (fun c2 => ?_)
  · simp (dsimp := false) only [↓ir.ref22_Far.r0.w, ↓ir.ref22_Far.r1.w, ↓ir.ref22_Far.r2.w, ↓ir.ref22_Far.r3.w, ↓ir.ref22_Far.r5.w, ↓ir.ref22_Far.r4.w, ↓ir.ref22_Far.l1.w, ↓ir.ref22_Far.r6.w, ↓ir.ref22_Far.r7.w, ↓ir.ref22_Far.r8.w, ↓ir.ref22_Far.r9.w, ↓ir.ref22_Far.r10.w, ↓ir.ref22_Far.r12.w, ↓ir.ref22_Far.r13.w, ↓ir.ref22_Far.r15.w, ↓ir.ref22_Far.r16.w, ↓ir.ref22_Far.r18.w, ↓ir.ref22_Far.r19.w, ↓ir.ref22_Far.r17.w, ↓ir.ref22_Far.l2.w, ↓ir.ref22_Far.r14.w, ↓ir.ref22_Far.l3.w, ↓ir.ref22_Far.r11.w, ↓ir.ref22_Far.l4.w, ↓ir.ref22_Far.r20.w, ir.ref22_Far.rs, go_sem, Nat.reduceAdd, Nat.reduceEqDiff, Nat.reduceMul, Nat.reduceLeDiff, Nat.reduceSub, Nat.reduceLT, ↓reduceIte, reduceCtorEq, List.reduceReplicate, List.flatten_cons, List.flatten_nil, List.append_nil, eq_self, Int.reduceLE, Int.reduceLT, Int.reduceToNat, Nat.min_eq_left, Int.reducePow, Int.reduceNeg, Int.reduceEq]
    exact fin (.inr c2)
  obtain ⟨d, rfl⟩ : ∃ d : Nat, dest = d := ⟨dest.toNat, by omega⟩
  have hd : d < L.length := by omega
  obtain ⟨h3, hw, ho3, hb3, _, _⟩ := ho.store (i := d) (by simp; exact hd) 0
  have hp3 := hb3.pre hp
  simp (dsimp := false) only [↓ir.ref22_Far.r0.w, ↓ir.ref22_Far.r1.w, ↓ir.ref22_Far.r2.w, ↓ir.ref22_Far.r3.w, ↓ir.ref22_Far.r5.w, ↓ir.ref22_Far.r4.w, ↓ir.ref22_Far.l1.w, ↓ir.ref22_Far.r6.w, ↓ir.ref22_Far.r7.w, ↓ir.ref22_Far.r8.w, ↓ir.ref22_Far.r9.w, ↓ir.ref22_Far.r10.w, ↓ir.ref22_Far.r12.w, ↓ir.ref22_Far.r13.w, ↓ir.ref22_Far.r15.w, ↓ir.ref22_Far.r16.w, ↓ir.ref22_Far.r18.w, ↓ir.ref22_Far.r19.w, ↓ir.ref22_Far.r17.w, ↓ir.ref22_Far.l2.w, ↓ir.ref22_Far.r14.w, ↓ir.ref22_Far.l3.w, ↓ir.ref22_Far.r11.w, ↓ir.ref22_Far.l4.w, ↓ir.ref22_Far.r20.w, ir.ref22_Far.rs, go_sem, Nat.reduceAdd, Nat.reduceEqDiff, Nat.reduceMul, Nat.reduceLeDiff, Nat.reduceSub, Nat.reduceLT, ↓reduceIte, reduceCtorEq, List.reduceReplicate, List.flatten_cons, List.flatten_nil, List.append_nil, eq_self, Int.reduceLE, Int.reduceLT, Int.reduceToNat, Nat.min_eq_left, Int.reducePow, Int.reduceNeg, Int.reduceEq, ho.ints.ixsN (i := d) (by simp; exact hd), hw]
  have hst := InRound.start hd rfl
  generalize (List.replicate L.length (-1 : Int)).set d 0 = f at ho3 hst
  clear hb3 hw ho fin c1 c2
  refine loopV_of (fun m e h4 => ∃ (r : Nat) (f : List Int), m = L.length - r ∧ r ≤ L.length ∧ Pre h h4 ∧ Ow h h4 1 u f.length (f.flatMap intC) ∧ InRound L d r 0 0 f ∧
    e = [(0, v), (5, u), (7, .int .i64 r)]) _ ⟨0, f, rfl, Nat.zero_le _, hp3, ho3, hst, rfl⟩ ?_
  clear hst ho3 hp3 hp f
  rintro m e h4 ⟨r, f, rfl, hr, hp, ho, hf, rfl⟩
  rcases Nat.lt_or_ge r L.length with hlt | hge
  case inr =>
    obtain rfl : r = L.length := by omega
    simp (dsimp := false) only [↓ir.ref22_Far.l4.bw, ↓ir.ref22_Far.r0.w, ↓ir.ref22_Far.r1.w, ↓ir.ref22_Far.r2.w, ↓ir.ref22_Far.r3.w, ↓ir.ref22_Far.r5.w, ↓ir.ref22_Far.r4.w, ↓ir.ref22_Far.l1.w, ↓ir.ref22_Far.r6.w, ↓ir.ref22_Far.r7.w, ↓ir.ref22_Far.r8.w, ↓ir.ref22_Far.r9.w, ↓ir.ref22_Far.r10.w, ↓ir.ref22_Far.r12.w, ↓ir.ref22_Far.r13.w, ↓ir.ref22_Far.r15.w, ↓ir.ref22_Far.r16.w, ↓ir.ref22_Far.r18.w, ↓ir.ref22_Far.r19.w, ↓ir.ref22_Far.r17.w, ↓ir.ref22_Far.l2.w, ↓ir.ref22_Far.r14.w, ↓ir.ref22_Far.l3.w, ↓ir.ref22_Far.r11.w, ↓ir.ref22_Far.l4.w, ↓ir.ref22_Far.r20.w, ir.ref22_Far.rs, go_sem, Nat.reduceAdd, Nat.reduceEqDiff, Nat.reduceMul, Nat.reduceLeDiff, Nat.reduceSub, Nat.reduceLT, ↓reduceIte, reduceCtorEq, List.reduceReplicate, List.flatten_cons, List.flatten_nil, List.append_nil, eq_self, Int.reduceLE, Int.reduceLT, Int.reduceToNat, Nat.min_eq_left, Int.reducePow, Int.reduceNeg, Int.reduceEq, hv.lenV, Int.ofNat_lt, Nat.lt_irrefl, decide_false]
    exact ⟨hp, f, ho, fun q => by omega, fun _ _ => hf.done hd⟩
  simp (dsimp := false) only [↓ir.ref22_Far.l4.bw, ↓ir.ref22_Far.r0.w, ↓ir.ref22_Far.r1.w, ↓ir.ref22_Far.r2.w, ↓ir.ref22_Far.r3.w, ↓ir.ref22_Far.r5.w, ↓ir.ref22_Far.r4.w, ↓ir.ref22_Far.l1.w, ↓ir.ref22_Far.r6.w, ↓ir.ref22_Far.r7.w, ↓ir.ref22_Far.r8.w, ↓ir.ref22_Far.r9.w, ↓ir.ref22_Far.r10.w, ↓ir.ref22_Far.r12.w, ↓ir.ref22_Far.r13.w, ↓ir.ref22_Far.r15.w, ↓ir.ref22_Far.r16.w, ↓ir.ref22_Far.r18.w, ↓ir.ref22_Far.r19.w, ↓ir.ref22_Far.r17.w, ↓ir.ref22_Far.l2.w, ↓ir.ref22_Far.r14.w, ↓ir.ref22_Far.l3.w, ↓ir.ref22_Far.r11.w, ↓ir.ref22_Far.l4.w, ↓ir.ref22_Far.r20.w, ir.ref22_Far.rs, go_sem, Nat.reduceAdd, Nat.reduceEqDiff, Nat.reduceMul, Nat.reduceLeDiff, Nat.reduceSub, Nat.reduceLT, ↓reduceIte, reduceCtorEq, List.reduceReplicate, List.flatten_cons, List.flatten_nil, List.append_nil, eq_self, Int.reduceLE, Int.reduceLT, Int.reduceToNat, Nat.min_eq_left, Int.reducePow, Int.reduceNeg, Int.reduceEq, hv.lenV, Int.ofNat_lt, hlt, decide_true]
  refine loopV_of (fun m e h4 => ∃ (a : Nat) (f : List Int), m = L.length - a ∧ a ≤ L.length ∧ Pre h h4 ∧ Ow h h4 1 u f.length (f.flatMap intC) ∧ InRound L d r a 0 f ∧
    e = [(0, v), (5, u), (7, .int .i64 r), (8, .int .i64 a)]) _ ⟨0, f, rfl, Nat.zero_le _, hp, ho, hf, rfl⟩ ?_
  clear hf ho hp f
  rintro m e h5 ⟨a, f, rfl, ha, hp, ho, hf, rfl⟩
  rcases Nat.lt_or_ge a L.length with halt | hage
  case inr =>
    obtain rfl : a = L.length := by omega
    simp (dsimp := false) only [↓ir.ref22_Far.l3.bw, ↓ir.ref22_Far.r0.w, ↓ir.ref22_Far.r1.w, ↓ir.ref22_Far.r2.w, ↓ir.ref22_Far.r3.w, ↓ir.ref22_Far.r5.w, ↓ir.ref22_Far.r4.w, ↓ir.ref22_Far.l1.w, ↓ir.ref22_Far.r6.w, ↓ir.ref22_Far.r7.w, ↓ir.ref22_Far.r8.w, ↓ir.ref22_Far.r9.w, ↓ir.ref22_Far.r10.w, ↓ir.ref22_Far.r12.w, ↓ir.ref22_Far.r13.w, ↓ir.ref22_Far.r15.w, ↓ir.ref22_Far.r16.w, ↓ir.ref22_Far.r18.w, ↓ir.ref22_Far.r19.w, ↓ir.ref22_Far.r17.w, ↓ir.ref22_Far.l2.w, ↓ir.ref22_Far.r14.w, ↓ir.ref22_Far.l3.w, ↓ir.ref22_Far.r11.w, ↓ir.ref22_Far.l4.w, ↓ir.ref22_Far.r20.w, ir.ref22_Far.rs, go_sem, Nat.reduceAdd, Nat.reduceEqDiff, Nat.reduceMul, Nat.reduceLeDiff, Nat.reduceSub, Nat.reduceLT, ↓reduceIte, reduceCtorEq, List.reduceReplicate, List.flatten_cons, List.flatten_nil, List.append_nil, eq_self, Int.reduceLE, Int.reduceLT, Int.reduceToNat, Nat.min_eq_left, Int.reducePow, Int.reduceNeg, Int.reduceEq, hv.lenV, Int.ofNat_lt, Nat.lt_irrefl, decide_false, wrap_succ hlt hv.le]
    exact ⟨L.length - (r + 1), by omega, r + 1, f, rfl, hlt, hp, ho, hf.next hd, rfl⟩
  simp (dsimp := false) only [↓ir.ref22_Far.l3.bw, ↓ir.ref22_Far.r0.w, ↓ir.ref22_Far.r1.w, ↓ir.ref22_Far.r2.w, ↓ir.ref22_Far.r3.w, ↓ir.ref22_Far.r5.w, ↓ir.ref22_Far.r4.w, ↓ir.ref22_Far.l1.w, ↓ir.ref22_Far.r6.w, ↓ir.ref22_Far.r7.w, ↓ir.ref22_Far.r8.w, ↓ir.ref22_Far.r9.w, ↓ir.ref22_Far.r10.w, ↓ir.ref22_Far.r12.w, ↓ir.ref22_Far.r13.w, ↓ir.ref22_Far.r15.w, ↓ir.ref22_Far.r16.w, ↓ir.ref22_Far.r18.w, ↓ir.ref22_Far.r19.w, ↓ir.ref22_Far.r17.w, ↓ir.ref22_Far.l2.w, ↓ir.ref22_Far.r14.w, ↓ir.ref22_Far.l3.w, ↓ir.ref22_Far.r11.w, ↓ir.ref22_Far.l4.w, ↓ir.ref22_Far.r20.w, ir.ref22_Far.rs, go_sem, Nat.reduceAdd, Nat.reduceEqDiff, Nat.reduceMul, Nat.reduceLeDiff, Nat.reduceSub, Nat.reduceLT, ↓reduceIte, reduceCtorEq, List.reduceReplicate, List.flatten_cons, List.flatten_nil, List.append_nil, eq_self, Int.reduceLE, Int.reduceLT, Int.reduceToNat, Nat.min_eq_left, Int.reducePow, Int.reduceNeg, Int.reduceEq, hv.lenV, Int.ofNat_lt, halt, decide_true]
  refine loopV_of (fun m e h4 => ∃ (b : Nat) (f : List Int), m = L.length - b ∧ b ≤ L.length ∧ Pre h h4 ∧ Ow h h4 1 u f.length (f.flatMap intC) ∧ InRound L d r a b f ∧
    e = [(0, v), (5, u), (7, .int .i64 r), (8, .int .i64 a), (9, .int .i64 b)]) _ ⟨0, f, rfl, Nat.zero_le _, hp, ho, hf, rfl⟩ ?_
  clear hf ho hp f
  rintro m e h6 ⟨b, f, rfl, hb, hp, ho, hf, rfl⟩
  rcases Nat.lt_or_ge b L.length with hblt | hbge
  case inr =>
    obtain rfl : b = L.length := by omega
    simp (dsimp := false) only [↓ir.ref22_Far.l2.bw, ↓ir.ref22_Far.r0.w, ↓ir.ref22_Far.r1.w, ↓ir.ref22_Far.r2.w, ↓ir.ref22_Far.r3.w, ↓ir.ref22_Far.r5.w, ↓ir.ref22_Far.r4.w, ↓ir.ref22_Far.l1.w, ↓ir.ref22_Far.r6.w, ↓ir.ref22_Far.r7.w, ↓ir.ref22_Far.r8.w, ↓ir.ref22_Far.r9.w, ↓ir.ref22_Far.r10.w, ↓ir.ref22_Far.r12.w, ↓ir.ref22_Far.r13.w, ↓ir.ref22_Far.r15.w, ↓ir.ref22_Far.r16.w, ↓ir.ref22_Far.r18.w, ↓ir.ref22_Far.r19.w, ↓ir.ref22_Far.r17.w, ↓ir.ref22_Far.l2.w, ↓ir.ref22_Far.r14.w, ↓ir.ref22_Far.l3.w, ↓ir.ref22_Far.r11.w, ↓ir.ref22_Far.l4.w, ↓ir.ref22_Far.r20.w, ir.ref22_Far.rs, go_sem, Nat.reduceAdd, Nat.reduceEqDiff, Nat.reduceMul, Nat.reduceLeDiff, Nat.reduceSub, Nat.reduceLT, ↓reduceIte, reduceCtorEq, List.reduceReplicate, List.flatten_cons, List.flatten_nil, List.append_nil, eq_self, Int.reduceLE, Int.reduceLT, Int.reduceToNat, Nat.min_eq_left, Int.reducePow, Int.reduceNeg, Int.reduceEq, hv.lenV, Int.ofNat_lt, Nat.lt_irrefl, decide_false, wrap_succ halt hv.le]
    exact ⟨L.length - (a + 1), by omega, a + 1, f, rfl, halt, hp, ho, hf.row, rfl⟩
  have hfl := hf.1
  have fa : a < f.length := by omega
  have fb : b < f.length := by omega
  have ea : f[a]? = some f[a] := by simp [fa]
  have eb : f[b]? = some f[b] := by simp [fb]
  obtain ⟨_, _, rfl, r0, _⟩ := ho.ints.rd2 (.refl _) fa
  obtain ⟨_, _, rfl, s0, _⟩ := ho.ints.rd2 (.refl _) fb
  have pair := hf.pair hd halt hblt
  have skip : ∀ h', Pre h h' → Ow h h' 1 u f.length (f.flatMap intC) → ¬ (f[a]? = some (r : Int) ∧ (∃ z : Int, f[b]? = some z ∧ z < 0) ∧ LkB L a b) → ∃ m', m' < L.length - b ∧ ∃ (b' : Nat) (f : List Int), m' = L.length - b' ∧ b' ≤ L.length ∧ Pre h h' ∧ Ow h h' 1 u f.length (f.flatMap intC) ∧ InRound L d r a b' f ∧
      [(0, v), (5, u), (7, Value.int .i64 r), (8, .int .i64 a), (9, .int .i64 ((b + 1 : Nat) : Int))] = [(0, v), (5, u), (7, .int .i64 r), (8, .int .i64 a), (9, .int .i64 b')] := fun h' k1 k2 k3 =>
    ⟨L.length - (b + 1), by omega, b + 1, f, rfl, hblt, k1, k2, pair.2 k3, rfl⟩
  simp (dsimp := false) only [↓ir.ref22_Far.l2.bw, ↓ir.ref22_Far.r0.w, ↓ir.ref22_Far.r1.w, ↓ir.ref22_Far.r2.w, ↓ir.ref22_Far.r3.w, ↓ir.ref22_Far.r5.w, ↓ir.ref22_Far.r4.w, ↓ir.ref22_Far.l1.w, ↓ir.ref22_Far.r6.w, ↓ir.ref22_Far.r7.w, ↓ir.ref22_Far.r8.w, ↓ir.ref22_Far.r9.w, ↓ir.ref22_Far.r10.w, ↓ir.ref22_Far.r12.w, ↓ir.ref22_Far.r13.w, ↓ir.ref22_Far.r15.w, ↓ir.ref22_Far.r16.w, ↓ir.ref22_Far.r18.w, ↓ir.ref22_Far.r19.w, ↓ir.ref22_Far.r17.w, ↓ir.ref22_Far.l2.w, ↓ir.ref22_Far.r14.w, ↓ir.ref22_Far.l3.w, ↓ir.ref22_Far.r11.w, ↓ir.ref22_Far.l4.w, ↓ir.ref22_Far.r20.w, ir.ref22_Far.rs, go_sem, Nat.reduceAdd, Nat.reduceEqDiff, Nat.reduceMul, Nat.reduceLeDiff, Nat.reduceSub, Nat.reduceLT, ↓reduceIte, reduceCtorEq, List.reduceReplicate, List.flatten_cons, List.flatten_nil, List.append_nil, eq_self, Int.reduceLE, Int.reduceLT, Int.reduceToNat, Nat.min_eq_left, Int.reducePow, Int.reduceNeg, Int.reduceEq, hv.lenV, Int.ofNat_lt, hblt, decide_true, ho.ints.ixsN fa, r0]
  refine gTe (fun c1 => ?_) (fun c1 => ?_)
  case refine_2 =>
    simp (dsimp := false) only [↓ir.ref22_Far.r0.w, ↓ir.ref22_Far.r1.w, ↓ir.ref22_Far.r2.w, ↓ir.ref22_Far.r3.w, ↓ir.ref22_Far.r5.w, ↓ir.ref22_Far.r4.w, ↓ir.ref22_Far.l1.w, ↓ir.ref22_Far.r6.w, ↓ir.ref22_Far.r7.w, ↓ir.ref22_Far.r8.w, ↓ir.ref22_Far.r9.w, ↓ir.ref22_Far.r10.w, ↓ir.ref22_Far.r12.w, ↓ir.ref22_Far.r13.w, ↓ir.ref22_Far.r15.w, ↓ir.ref22_Far.r16.w, ↓ir.ref22_Far.r18.w, ↓ir.ref22_Far.r19.w, ↓ir.ref22_Far.r17.w, ↓ir.ref22_Far.l2.w, ↓ir.ref22_Far.r14.w, ↓ir.ref22_Far.l3.w, ↓ir.ref22_Far.r11.w, ↓ir.ref22_Far.l4.w, ↓ir.ref22_Far.r20.w, ir.ref22_Far.rs, go_sem, Nat.reduceAdd, Nat.reduceEqDiff, Nat.reduceMul, Nat.reduceLeDiff, Nat.reduceSub, Nat.reduceLT, ↓reduceIte, reduceCtorEq, List.reduceReplicate, List.flatten_cons, List.flatten_nil, List.append_nil, eq_self, Int.reduceLE, Int.reduceLT, Int.reduceToNat, Nat.min_eq_left, Int.reducePow, Int.reduceNeg, Int.reduceEq, wrap_succ hblt hv.le]
    exact skip _ hp ho fun q => c1 (by rw [ea] at q; simpa using q.1)
  simp (dsimp := false) only [↓ir.ref22_Far.r0.w, ↓ir.ref22_Far.r1.w, ↓ir.ref22_Far.r2.w, ↓ir.ref22_Far.r3.w, ↓ir.ref22_Far.r5.w, ↓ir.ref22_Far.r4.w, ↓ir.ref22_Far.l1.w, ↓ir.ref22_Far.r6.w, ↓ir.ref22_Far.r7.w, ↓ir.ref22_Far.r8.w, ↓ir.ref22_Far.r9.w, ↓ir.ref22_Far.r10.w, ↓ir.ref22_Far.r12.w, ↓ir.ref22_Far.r13.w, ↓ir.ref22_Far.r15.w, ↓ir.ref22_Far.r16.w, ↓ir.ref22_Far.r18.w, ↓ir.ref22_Far.r19.w, ↓ir.ref22_Far.r17.w, ↓ir.ref22_Far.l2.w, ↓ir.ref22_Far.r14.w, ↓ir.ref22_Far.l3.w, ↓ir.ref22_Far.r11.w, ↓ir.ref22_Far.l4.w, ↓ir.ref22_Far.r20.w, ir.ref22_Far.rs, go_sem, Nat.reduceAdd, Nat.reduceEqDiff, Nat.reduceMul, Nat.reduceLeDiff, Nat.reduceSub, Nat.reduceLT, ↓reduceIte, reduceCtorEq, List.reduceReplicate, List.flatten_cons, List.flatten_nil, List.append_nil, eq_self, Int.reduceLE, Int.reduceLT, Int.reduceToNat, Nat.min_eq_left, Int.reducePow, Int.reduceNeg, Int.reduceEq, ho.ints.ixsN fb, s0]
  refine gTd (fun c2 => ?_) (fun c2 => ?_)
  case refine_2 =>
    simp (dsimp := false) only [↓ir.ref22_Far.r0.w, ↓ir.ref22_Far.r1.w, ↓ir.ref22_Far.r2.w, ↓ir.ref22_Far.r3.w, ↓ir.ref22_Far.r5.w, ↓ir.ref22_Far.r4.w, ↓ir.ref22_Far.l1.w, ↓ir.ref22_Far.r6.w, ↓ir.ref22_Far.r7.w, ↓ir.ref22_Far.r8.w, ↓ir.ref22_Far.r9.w, ↓ir.ref22_Far.r10.w, ↓ir.ref22_Far.r12.w, ↓ir.ref22_Far.r13.w, ↓ir.ref22_Far.r15.w, ↓ir.ref22_Far.r16.w, ↓ir.ref22_Far.r18.w, ↓ir.ref22_Far.r19.w, ↓ir.ref22_Far.r17.w, ↓ir.ref22_Far.l2.w, ↓ir.ref22_Far.r14.w, ↓ir.ref22_Far.l3.w, ↓ir.ref22_Far.r11.w, ↓ir.ref22_Far.l4.w, ↓ir.ref22_Far.r20.w, ir.ref22_Far.rs, go_sem, Nat.reduceAdd, Nat.reduceEqDiff, Nat.reduceMul, Nat.reduceLeDiff, Nat.reduceSub, Nat.reduceLT, ↓reduceIte, reduceCtorEq, List.reduceReplicate, List.flatten_cons, List.flatten_nil, List.append_nil, eq_self, Int.reduceLE, Int.reduceLT, Int.reduceToNat, Nat.min_eq_left, Int.reducePow, Int.reduceNeg, Int.reduceEq, wrap_succ hblt hv.le]
    exact skip _ hp ho fun q => c2 (by obtain ⟨z, q1, q2⟩ := q.2.1; rw [eb] at q1; cases q1; exact q2)
  simp (dsimp := false) only [↓ir.ref22_Far.r0.w, ↓ir.ref22_Far.r1.w, ↓ir.ref22_Far.r2.w, ↓ir.ref22_Far.r3.w, ↓ir.ref22_Far.r5.w, ↓ir.ref22_Far.r4.w, ↓ir.ref22_Far.l1.w, ↓ir.ref22_Far.r6.w, ↓ir.ref22_Far.r7.w, ↓ir.ref22_Far.r8.w, ↓ir.ref22_Far.r9.w, ↓ir.ref22_Far.r10.w, ↓ir.ref22_Far.r12.w, ↓ir.ref22_Far.r13.w, ↓ir.ref22_Far.r15.w, ↓ir.ref22_Far.r16.w, ↓ir.ref22_Far.r18.w, ↓ir.ref22_Far.r19.w, ↓ir.ref22_Far.r17.w, ↓ir.ref22_Far.l2.w, ↓ir.ref22_Far.r14.w, ↓ir.ref22_Far.l3.w, ↓ir.ref22_Far.r11.w, ↓ir.ref22_Far.l4.w, ↓ir.ref22_Far.r20.w, ir.ref22_Far.rs, go_sem, Nat.reduceAdd, Nat.reduceEqDiff, Nat.reduceMul, Nat.reduceLeDiff, Nat.reduceSub, Nat.reduceLT, ↓reduceIte, reduceCtorEq, List.reduceReplicate, List.flatten_cons, List.flatten_nil, List.append_nil, eq_self, Int.reduceLE, Int.reduceLT, Int.reduceToNat, Nat.min_eq_left, Int.reducePow, Int.reduceNeg, Int.reduceEq]
  refine callV_x (linked_spec (hv.isRpre hp) halt hblt) ?_
  rintro _ h7 ⟨hp7, x, rfl, hx⟩
  simp (dsimp := false) only [↓ir.ref22_Far.r0.w, ↓ir.ref22_Far.r1.w, ↓ir.ref22_Far.r2.w, ↓ir.ref22_Far.r3.w, ↓ir.ref22_Far.r5.w, ↓ir.ref22_Far.r4.w, ↓ir.ref22_Far.l1.w, ↓ir.ref22_Far.r6.w, ↓ir.ref22_Far.r7.w, ↓ir.ref22_Far.r8.w, ↓ir.ref22_Far.r9.w, ↓ir.ref22_Far.r10.w, ↓ir.ref22_Far.r12.w, ↓ir.ref22_Far.r13.w, ↓ir.ref22_Far.r15.w, ↓ir.ref22_Far.r16.w, ↓ir.ref22_Far.r18.w, ↓ir.ref22_Far.r19.w, ↓ir.ref22_Far.r17.w, ↓ir.ref22_Far.l2.w, ↓ir.ref22_Far.r14.w, ↓ir.ref22_Far.l3.w, ↓ir.ref22_Far.r11.w, ↓ir.ref22_Far.l4.w, ↓ir.ref22_Far.r20.w, ir.ref22_Far.rs, go_sem, Nat.reduceAdd, Nat.reduceEqDiff, Nat.reduceMul, Nat.reduceLeDiff, Nat.reduceSub, Nat.reduceLT, ↓reduceIte, reduceCtorEq, List.reduceReplicate, List.flatten_cons, List.flatten_nil, List.append_nil, eq_self, Int.reduceLE, Int.reduceLT, Int.reduceToNat, Nat.min_eq_left, Int.reducePow, Int.reduceNeg, Int.reduceEq]
  cases x
  case false =>
    simp (dsimp := false) only [↓ir.ref22_Far.r0.w, ↓ir.ref22_Far.r1.w, ↓ir.ref22_Far.r2.w, ↓ir.ref22_Far.r3.w, ↓ir.ref22_Far.r5.w, ↓ir.ref22_Far.r4.w, ↓ir.ref22_Far.l1.w, ↓ir.ref22_Far.r6.w, ↓ir.ref22_Far.r7.w, ↓ir.ref22_Far.r8.w, ↓ir.ref22_Far.r9.w, ↓ir.ref22_Far.r10.w, ↓ir.ref22_Far.r12.w, ↓ir.ref22_Far.r13.w, ↓ir.ref22_Far.r15.w, ↓ir.ref22_Far.r16.w, ↓ir.ref22_Far.r18.w, ↓ir.ref22_Far.r19.w, ↓ir.ref22_Far.r17.w, ↓ir.ref22_Far.l2.w, ↓ir.ref22_Far.r14.w, ↓ir.ref22_Far.l3.w, ↓ir.ref22_Far.r11.w, ↓ir.ref22_Far.l4.w, ↓ir.ref22_Far.r20.w, ir.ref22_Far.rs, go_sem, Nat.reduceAdd, Nat.reduceEqDiff, Nat.reduceMul, Nat.reduceLeDiff, Nat.reduceSub, Nat.reduceLT, ↓reduceIte, reduceCtorEq, List.reduceReplicate, List.flatten_cons, List.flatten_nil, List.append_nil, eq_self, Int.reduceLE, Int.reduceLT, Int.reduceToNat, Nat.min_eq_left, Int.reducePow, Int.reduceNeg, Int.reduceEq, wrap_succ hblt hv.le]
    exact skip _ (hp.trans hp7) (ho.pre hp7) fun q => absurd (hx.2 q.2.2) (by simp)
  have hwr : IntKind.i64.wrap ((r : Int) + 1) = ((r + 1 : Nat) : Int) := wrap_succ hlt hv.le
  obtain ⟨h8, hw, ho8, hb8, _, _⟩ := (ho.pre hp7).store fb ((r + 1 : Nat) : Int)
  simp (dsimp := false) only [↓ir.ref22_Far.r0.w, ↓ir.ref22_Far.r1.w, ↓ir.ref22_Far.r2.w, ↓ir.ref22_Far.r3.w, ↓ir.ref22_Far.r5.w, ↓ir.ref22_Far.r4.w, ↓ir.ref22_Far.l1.w, ↓ir.ref22_Far.r6.w, ↓ir.ref22_Far.r7.w, ↓ir.ref22_Far.r8.w, ↓ir.ref22_Far.r9.w, ↓ir.ref22_Far.r10.w, ↓ir.ref22_Far.r12.w, ↓ir.ref22_Far.r13.w, ↓ir.ref22_Far.r15.w, ↓ir.ref22_Far.r16.w, ↓ir.ref22_Far.r18.w, ↓ir.ref22_Far.r19.w, ↓ir.ref22_Far.r17.w, ↓ir.ref22_Far.l2.w, ↓ir.ref22_Far.r14.w, ↓ir.ref22_Far.l3.w, ↓ir.ref22_Far.r11.w, ↓ir.ref22_Far.l4.w, ↓ir.ref22_Far.r20.w, ir.ref22_Far.rs, go_sem, Nat.reduceAdd, Nat.reduceEqDiff, Nat.reduceMul, Nat.reduceLeDiff, Nat.reduceSub, Nat.reduceLT, ↓reduceIte, reduceCtorEq, List.reduceReplicate, List.flatten_cons, List.flatten_nil, List.append_nil, eq_self, Int.reduceLE, Int.reduceLT, Int.reduceToNat, Nat.min_eq_left, Int.reducePow, Int.reduceNeg, Int.reduceEq, ho.ints.ixsN fb, hwr, hw, wrap_succ hblt hv.le]
  exact ⟨L.length - (b + 1), by omega, b + 1, _, rfl, hblt, hb8.pre (hp.trans hp7), ho8, pair.1 (by rw [ea, c1]) ⟨_, eb, c2⟩ (hx.1 rfl), rfl⟩

theorem InQ.cur {L : List (List Bool)} {dest d c j : Nat} {A B : List Nat} {f : List Int} (hd : dest < L.length) (h : InQ L dest d A B (some (c, j)) f) : c < L.length ∧ d < L.length ∧ f[c]? = some (d : Int) := by
  obtain ⟨h0, h1, h2, h3, h4⟩ := h
  have hc := h3 c j rfl
  have hl := hc.1.lt hd
  refine ⟨hl, hc.bound hd, ?_⟩
  rcases h4 c hl with ⟨k, q1, q2, q3⟩ | ⟨q1, q2⟩ | ⟨q1, q2, q3⟩
  · rw [q2, q3.uniq hc]
  · have := (h2 c q2).uniq hc; omega
  · exact absurd hc.1 q2
def negs (f : List Int) : Nat := f.countP fun x => decide (x < 0)
theorem negs_set {f : List Int} {j : Nat} (hj : j < f.length) (h0 : f[j] < 0) (y : Nat) : negs (f.set j (y : Int)) + 1 = negs f := by
  unfold negs
  have h1 : 0 < f.countP fun x => decide (x < 0) := List.countP_pos_iff.2 ⟨f[j], List.getElem_mem hj, by simpa using h0⟩
  rw [List.countP_set (h := hj), if_pos (by simpa using h0), if_neg (by simp)]
  omega
theorem negs_le (f : List Int) : negs f ≤ f.length := List.countP_le_length
abbrev qs (l : List Nat) : List Int := l.map Int.ofNat

theorem far_spec {h : AHeap} {v : Value} {L : List (List Bool)} (hv : Ls h 1 (isR h) v L) (hn : L.length ≤ 10) (dest : Int) : SpecX Try.prog nG fn.fib_Far [v, .int .i64 dest] h fun v' h' =>
    Pre h h' ∧ ∃ f, Ow h h' 1 v' f.length (f.flatMap intC) ∧ FarOf L dest f := by
  refine SpecX.of_body (ir.fib_Far.spec (Nat.le_of_ble_eq_true rfl)) ?_
  simp (dsimp := false) only [↓ir.fib_Far.bw, ir.fib_Far.rs, ↓ir.fib_Far.r0.w, ↓ir.fib_Far.r1.w, ↓ir.fib_Far.r2.w, ↓ir.fib_Far.r3.w, ↓ir.fib_Far.r4.w, ↓ir.fib_Far.r5.w, ↓ir.fib_Far.r6.w, ↓ir.fib_Far.l1.w, ↓ir.fib_Far.r7.w, ↓ir.fib_Far.r8.w, ↓ir.fib_Far.r9.w, ↓ir.fib_Far.r10.w, ↓ir.fib_Far.r11.w, ↓ir.fib_Far.r12.w, ↓ir.fib_Far.r13.w, ↓ir.fib_Far.r14.w, ↓ir.fib_Far.r15.w, ↓ir.fib_Far.r16.w, ↓ir.fib_Far.r17.w, ↓ir.fib_Far.r18.w, ↓ir.fib_Far.r19.w, ↓ir.fib_Far.r20.w, ↓ir.fib_Far.l2.w, ↓ir.fib_Far.l3.w, ↓ir.fib_Far.r21.w, ir.fib_Far.rs, go_sem, Nat.reduceAdd, Nat.reduceEqDiff, Nat.reduceMul, Nat.reduceLeDiff, Nat.reduceSub, Nat.reduceLT, ↓reduceIte, reduceCtorEq, List.reduceReplicate, List.flatten_cons, List.flatten_nil, List.append_nil, eq_self, Int.reduceLE, Int.reduceLT, Int.reduceToNat, Nat.min_eq_left, Int.reducePow, Int.reduceNeg, Int.reduceEq, hv.lenV, Int.toNat_natCast, Int.le_refl]
  refine ⟨⟨by omega, by omega, by omega⟩, ?_⟩
  have o0 : Ow h (h ++ [.row (.grow 1) ((List.replicate L.length [Value.int .i64 0]).flatten)]) 1 (.slice (some ⟨h.length, 0, none⟩) L.length L.length) (List.replicate L.length (0 : Int)).length ((List.replicate L.length (0 : Int)).flatMap intC) := by
    have := Ow.row (h0 := h) (h := h ++ [.row (.grow 1) ((List.replicate L.length [Value.int .i64 0]).flatten)]) (sz := 1) (b := h.length) (off := 0) (n := L.length) (cap := L.length) (cells := (List.replicate L.length [Value.int .i64 0]).flatten) (Nat.le_refl _) (by simp) (by simp) (Nat.le_refl _) hv.le
    rw [List.drop_zero, List.take_of_length_le (by simp)] at this
    simpa [List.flatMap] using this
  generalize he : (Value.slice (some ⟨h.length, 0, none⟩) L.length L.length) = u at o0 ⊢
  have hun : sb u = h.length := by rw [← he]; rfl
  refine loopV_of (fun m e h2 => ∃ (i : Nat) (f : List Int), m = L.length - i ∧ i ≤ L.length ∧ Pre h h2 ∧ Ow h h2 1 u f.length (f.flatMap intC) ∧ f.length = L.length ∧ (∀ j, j < i → f[j]? = some (-1)) ∧
    e = [(0, v), (1, .int .i64 dest), (5, u), (14, .int .i64 L.length), (15, .int .i64 i)]) _ ⟨0, _, rfl, Nat.zero_le _, .app _ _, o0, by simp, by omega, rfl⟩ ?_
  rintro m e h2 ⟨i, f, rfl, hi, hp, ho, hfl, hf, rfl⟩
  rcases Nat.lt_or_ge i L.length with hlt | hge
  · obtain ⟨h3, hw, ho3, hb3, _, _⟩ := ho.store (i := i) (by omega) (-1)
    simp (dsimp := false) only [↓ir.fib_Far.l1.bw, ↓ir.fib_Far.r0.w, ↓ir.fib_Far.r1.w, ↓ir.fib_Far.r2.w, ↓ir.fib_Far.r3.w, ↓ir.fib_Far.r4.w, ↓ir.fib_Far.r5.w, ↓ir.fib_Far.r6.w, ↓ir.fib_Far.l1.w, ↓ir.fib_Far.r7.w, ↓ir.fib_Far.r8.w, ↓ir.fib_Far.r9.w, ↓ir.fib_Far.r10.w, ↓ir.fib_Far.r11.w, ↓ir.fib_Far.r12.w, ↓ir.fib_Far.r13.w, ↓ir.fib_Far.r14.w, ↓ir.fib_Far.r15.w, ↓ir.fib_Far.r16.w, ↓ir.fib_Far.r17.w, ↓ir.fib_Far.r18.w, ↓ir.fib_Far.r19.w, ↓ir.fib_Far.r20.w, ↓ir.fib_Far.l2.w, ↓ir.fib_Far.l3.w, ↓ir.fib_Far.r21.w, ir.fib_Far.rs, go_sem, Nat.reduceAdd, Nat.reduceEqDiff, Nat.reduceMul, Nat.reduceLeDiff, Nat.reduceSub, Nat.reduceLT, ↓reduceIte, reduceCtorEq, List.reduceReplicate, List.flatten_cons, List.flatten_nil, List.append_nil, eq_self, Int.reduceLE, Int.reduceLT, Int.reduceToNat, Nat.min_eq_left, Int.reducePow, Int.reduceNeg, Int.reduceEq, Int.ofNat_lt, hlt, decide_true, ho.ints.ixsN (i := i) (by omega), hw, wrap_succ hlt hv.le]
    refine ⟨L.length - (i + 1), by omega, i + 1, _, rfl, hlt, hb3.pre hp, ho3, by simp [hfl], fun j hj => ?_, rfl⟩
    by_cases q : i = j
    · subst q; rw [List.getElem?_set_self (by omega)]
    · rw [List.getElem?_set_ne q]; exact hf j (by omega)
  simp (dsimp := false) only [↓ir.fib_Far.l1.bw, ↓ir.fib_Far.r0.w, ↓ir.fib_Far.r1.w, ↓ir.fib_Far.r2.w, ↓ir.fib_Far.r3.w, ↓ir.fib_Far.r4.w, ↓ir.fib_Far.r5.w, ↓ir.fib_Far.r6.w, ↓ir.fib_Far.l1.w, ↓ir.fib_Far.r7.w, ↓ir.fib_Far.r8.w, ↓ir.fib_Far.r9.w, ↓ir.fib_Far.r10.w, ↓ir.fib_Far.r11.w, ↓ir.fib_Far.r12.w, ↓ir.fib_Far.r13.w, ↓ir.fib_Far.r14.w, ↓ir.fib_Far.r15.w, ↓ir.fib_Far.r16.w, ↓ir.fib_Far.r17.w, ↓ir.fib_Far.r18.w, ↓ir.fib_Far.r19.w, ↓ir.fib_Far.r20.w, ↓ir.fib_Far.l2.w, ↓ir.fib_Far.l3.w, ↓ir.fib_Far.r21.w, ir.fib_Far.rs, go_sem, Nat.reduceAdd, Nat.reduceEqDiff, Nat.reduceMul, Nat.reduceLeDiff, Nat.reduceSub, Nat.reduceLT, ↓reduceIte, reduceCtorEq, List.reduceReplicate, List.flatten_cons, List.flatten_nil, List.append_nil, eq_self, Int.reduceLE, Int.reduceLT, Int.reduceToNat, Nat.min_eq_left, Int.reducePow, Int.reduceNeg, Int.reduceEq, Int.ofNat_lt, show ¬ i < L.length by omega, decide_false]
  obtain rfl : f = List.replicate L.length (-1) := by
    apply List.ext_getElem?
    intro j
    by_cases hj : j < L.length
    · rw [hf j (by omega)]; simp [hj]
    · rw [List.getElem?_eq_none (by omega), List.getElem?_eq_none (by simp; omega)]
  clear hf hfl
  have fin : (dest < 0 ∨ (L.length : Int) ≤ dest) → Pre h h2 ∧ ∃ f, Ow h h2 1 u f.length (f.flatMap intC) ∧ FarOf L dest f := fun q => ⟨hp, _, ho, fun _ => rfl, fun a b => by omega⟩
  refine gFd (fun c1 => ?_) (fun c1 => ?_)
  · simp (dsimp := false) only [↓ir.fib_Far.r0.w, ↓ir.fib_Far.r1.w, ↓ir.fib_Far.r2.w, ↓ir.fib_Far.r3.w, ↓ir.fib_Far.r4.w, ↓ir.fib_Far.r5.w, ↓ir.fib_Far.r6.w, ↓ir.fib_Far.l1.w, ↓ir.fib_Far.r7.w, ↓ir.fib_Far.r8.w, ↓ir.fib_Far.r9.w, ↓ir.fib_Far.r10.w, ↓ir.fib_Far.r11.w, ↓ir.fib_Far.r12.w, ↓ir.fib_Far.r13.w, ↓ir.fib_Far.r14.w, ↓ir.fib_Far.r15.w, ↓ir.fib_Far.r16.w, ↓ir.fib_Far.r17.w, ↓ir.fib_Far.r18.w, ↓ir.fib_Far.r19.w, ↓ir.fib_Far.r20.w, ↓ir.fib_Far.l2.w, ↓ir.fib_Far.l3.w, ↓ir.fib_Far.r21.w, ir.fib_Far.rs, go_sem, Nat.reduceAdd, Nat.reduceEqDiff, Nat.reduceMul, Nat.reduceLeDiff, Nat.reduceSub, Nat.reduceLT, ↓reduceIte, reduceCtorEq, List.reduceReplicate, List.flatten_cons, List.flatten_nil, List.append_nil, eq_self, Int.reduceLE, Int.reduceLT, Int.reduceToNat, Nat.min_eq_left, Int.reducePow, Int.reduceNeg, Int.reduceEq]
    exact fin (.inl c1)
  simp (dsimp := false) only [↓ir.fib_Far.r0.w, ↓ir.fib_Far.r1.w, ↓ir.fib_Far.r2.w, ↓ir.fib_Far.r3.w, ↓ir.fib_Far.r4.w, ↓ir.fib_Far.r5.w, ↓ir.fib_Far.r6.w, ↓ir.fib_Far.l1.w, ↓ir.fib_Far.r7.w, ↓ir.fib_Far.r8.w, ↓ir.fib_Far.r9.w, ↓ir.fib_Far.r10.w, ↓ir.fib_Far.r11.w, ↓ir.fib_Far.r12.w, ↓ir.fib_Far.r13.w, ↓ir.fib_Far.r14.w, ↓ir.fib_Far.r15.w, ↓ir.fib_Far.r16.w, ↓ir.fib_Far.r17.w, ↓ir.fib_Far.r18.w, ↓ir.fib_Far.r19.w, ↓ir.fib_Far.r20.w, ↓ir.fib_Far.l2.w, ↓ir.fib_Far.l3.w, ↓ir.fib_Far.r21.w, ir.fib_Far.rs, go_sem, Nat.reduceAdd, Nat.reduceEqDiff, Nat.reduceMul, Nat.reduceLeDiff, Nat.reduceSub, Nat.reduceLT, ↓reduceIte, reduceCtorEq, List.reduceReplicate, List.flatten_cons, List.flatten_nil, List.append_nil, eq_self, Int.reduceLE, Int.reduceLT, Int.reduceToNat, Nat.min_eq_left, Int.reducePow, Int.reduceNeg, Int.reduceEq, hv.lenV]
  refine cVd (fun c2 => ?_) (fun c2 => ?_)
  · simp (dsimp := false) only [↓ir.fib_Far.r0.w, ↓ir.fib_Far.r1.w, ↓ir.fib_Far.r2.w, ↓ir.fib_Far.r3.w, ↓ir.fib_Far.r4.w, ↓ir.fib_Far.r5.w, ↓ir.fib_Far.r6.w, ↓ir.fib_Far.l1.w, ↓ir.fib_Far.r7.w, ↓ir.fib_Far.r8.w, ↓ir.fib_Far.r9.w, ↓ir.fib_Far.r10.w, ↓ir.fib_Far.r11.w, ↓ir.fib_Far.r12.w, ↓ir.fib_Far.r13.w, ↓ir.fib_Far.r14.w, ↓ir.fib_Far.r15.w, ↓ir.fib_Far.r16.w, ↓ir.fib_Far.r17.w, ↓ir.fib_Far.r18.w, ↓ir.fib_Far.r19.w, ↓ir.fib_Far.r20.w, ↓ir.fib_Far.l2.w, ↓ir.fib_Far.l3.w, ↓ir.fib_Far.r21.w, ir.fib_Far.rs, go_sem, Nat.reduceAdd, Nat.reduceEqDiff, Nat.reduceMul, Nat.reduceLeDiff, Nat.reduceSub, Nat.reduceLT, ↓reduceIte, reduceCtorEq, List.reduceReplicate, List.flatten_cons, List.flatten_nil, List.append_nil, eq_self, Int.reduceLE, Int.reduceLT, Int.reduceToNat, Nat.min_eq_left, Int.reducePow, Int.reduceNeg, Int.reduceEq]
    exact fin (.inr c2)
  obtain ⟨d, rfl⟩ : ∃ d : Nat, dest = d := ⟨dest.toNat, by omega⟩
  have hd : d < L.length := by omega
  obtain ⟨h3, hw, ho3, hb3, _, _⟩ := ho.store (i := d) (by simp; exact hd) 0
  have hp3 := hb3.pre hp
  simp (dsimp := false) only [↓ir.fib_Far.r0.w, ↓ir.fib_Far.r1.w, ↓ir.fib_Far.r2.w, ↓ir.fib_Far.r3.w, ↓ir.fib_Far.r4.w, ↓ir.fib_Far.r5.w, ↓ir.fib_Far.r6.w, ↓ir.fib_Far.l1.w, ↓ir.fib_Far.r7.w, ↓ir.fib_Far.r8.w, ↓ir.fib_Far.r9.w, ↓ir.fib_Far.r10.w, ↓ir.fib_Far.r11.w, ↓ir.fib_Far.r12.w, ↓ir.fib_Far.r13.w, ↓ir.fib_Far.r14.w, ↓ir.fib_Far.r15.w, ↓ir.fib_Far.r16.w, ↓ir.fib_Far.r17.w, ↓ir.fib_Far.r18.w, ↓ir.fib_Far.r19.w, ↓ir.fib_Far.r20.w, ↓ir.fib_Far.l2.w, ↓ir.fib_Far.l3.w, ↓ir.fib_Far.r21.w, ir.fib_Far.rs, go_sem, Nat.reduceAdd, Nat.reduceEqDiff, Nat.reduceMul, Nat.reduceLeDiff, Nat.reduceSub, Nat.reduceLT, ↓reduceIte, reduceCtorEq, List.reduceReplicate, List.flatten_cons, List.flatten_nil, List.append_nil, eq_self, Int.reduceLE, Int.reduceLT, Int.reduceToNat, Nat.min_eq_left, Int.reducePow, Int.reduceNeg, Int.reduceEq, ho.ints.ixsN (i := d) (by simp; exact hd), hw]
  have hst := InQ.start hd rfl
  generalize hf0 : (List.replicate L.length (-1 : Int)).set d 0 = f at ho3 hst
  have hfl : f.length = L.length := by rw [← hf0]; simp
  have oq : Ow h (h3 ++ [.row (.grow 1) [Value.int .i64 d]]) 1 (.slice (some ⟨h3.length, 0, none⟩) 1 1) (qs ([d] ++ [])).length ((qs ([d] ++ [])).flatMap intC) :=
    Ow.row (h0 := h) (h := h3 ++ [.row (.grow 1) [Value.int .i64 d]]) (sz := 1) (b := h3.length) (off := 0) (n := 1) (cap := 1) (cells := [Value.int .i64 d]) hp3.len (by simp) (by simp) (Nat.le_refl _) (by unfold maxI; omega)
  have hub : sb u < h3.length := ho3.sl.blk (by omega)
  have hfn := negs_le f
  clear hb3 hw ho fin c1 c2 hf0
  refine loopV_of (fun m e h4 => ∃ (k : Nat) (f : List Int) (A B : List Nat) (q : Value), m = 2 * negs f + (A ++ B).length ∧ m ≤ 2 * L.length + 1 ∧ Pre h h4 ∧ Ow h h4 1 u f.length (f.flatMap intC) ∧ Ow h h4 1 q (qs (A ++ B)).length ((qs (A ++ B)).flatMap intC) ∧ sb u ≠ sb q ∧ InQ L d k A B none f ∧
    ∃ w, e = (0, v) :: (5, u) :: (7, q) :: w) _ ⟨0, f, [d], [], _, rfl, by simp; omega, hp3.app' _, ho3.pre (.app _ _), oq, (show sb u ≠ h3.length by omega), hst, _, rfl⟩ ?_
  clear hst ho3 hp3 hp oq hub hfn hfl f
  rintro m e h4 ⟨k0, f, A0, B0, q, rfl, hm, hp, ho, oq, huq, hf0, w, rfl⟩
  by_cases hE : A0 ++ B0 = []
  · obtain ⟨rfl, rfl⟩ := List.append_eq_nil_iff.1 hE
    have lq : ∀ {h2 : AHeap} {K : Value → AHeap → Prop}, lenV false q h2 K () = mvV (.int .i64 0) h2 K () := oq.ints.lenV
    simp (dsimp := false) only [↓ir.fib_Far.l3.bw, ↓ir.fib_Far.r0.w, ↓ir.fib_Far.r1.w, ↓ir.fib_Far.r2.w, ↓ir.fib_Far.r3.w, ↓ir.fib_Far.r4.w, ↓ir.fib_Far.r5.w, ↓ir.fib_Far.r6.w, ↓ir.fib_Far.l1.w, ↓ir.fib_Far.r7.w, ↓ir.fib_Far.r8.w, ↓ir.fib_Far.r9.w, ↓ir.fib_Far.r10.w, ↓ir.fib_Far.r11.w, ↓ir.fib_Far.r12.w, ↓ir.fib_Far.r13.w, ↓ir.fib_Far.r14.w, ↓ir.fib_Far.r15.w, ↓ir.fib_Far.r16.w, ↓ir.fib_Far.r17.w, ↓ir.fib_Far.r18.w, ↓ir.fib_Far.r19.w, ↓ir.fib_Far.r20.w, ↓ir.fib_Far.l2.w, ↓ir.fib_Far.l3.w, ↓ir.fib_Far.r21.w, ir.fib_Far.rs, go_sem, Nat.reduceAdd, Nat.reduceEqDiff, Nat.reduceMul, Nat.reduceLeDiff, Nat.reduceSub, Nat.reduceLT, ↓reduceIte, reduceCtorEq, List.reduceReplicate, List.flatten_cons, List.flatten_nil, List.append_nil, eq_self, Int.reduceLE, Int.reduceLT, Int.reduceToNat, Nat.min_eq_left, Int.reducePow, Int.reduceNeg, Int.reduceEq, lq, Int.lt_irrefl, decide_false]
    exact ⟨hp, f, ho, fun q => by omega, fun _ _ => hf0.done hd⟩
  obtain ⟨k, c, A, B, hAB, hf⟩ : ∃ k c A B, A0 ++ B0 = c :: (A ++ B) ∧ InQ L d k (c :: A) B none f := by
    cases A0 with
    | cons c A => exact ⟨_, _, _, _, rfl, hf0⟩
    | nil => cases B0 with
      | nil => exact absurd rfl hE
      | cons c B => exact ⟨_, c, B, [], by simp, hf0.turn hd⟩
  rw [hAB] at oq hm ⊢
  clear hf0 hAB hE A0 B0
  have hlen : 0 < (qs (c :: (A ++ B))).length := by simp
  obtain ⟨_, _, rfl, r0, _⟩ := oq.ints.rd2 (.refl _) hlen
  have e1 : ∀ {h2 : AHeap} {K : Value → AHeap → Prop}, ixsV 1 q (.int .i64 0) h2 K () = mvV (.pointer (some ⟨sb q, so q + 0 * 1, none⟩)) h2 K () := oq.ints.ixsN hlen
  have e2 : ∀ {h2 : AHeap} {K : Value → AHeap → Prop}, Pre h4 h2 → slV 1 q (some (some 1)) (some none) h2 K () = K (sliceFrom 1 (1 : Int).toNat q) h2 := fun p => oq.ints.slFrom (by omega) (by omega) hlen p
  obtain ⟨nq, hnq⟩ : ∃ n, (qs (c :: (A ++ B))).length = n := ⟨_, rfl⟩
  have e3 : ((0 : Int) < (nq : Int)) := by omega
  have lq : ∀ {h2 : AHeap} {K : Value → AHeap → Prop}, lenV false q h2 K () = mvV (.int .i64 nq) h2 K () := by rw [← hnq]; exact oq.ints.lenV
  rw [Nat.zero_mul, Nat.add_zero] at r0
  replace r0 : rds h4 (sb q) (so q) 1 = some [Value.int .i64 (c : Int)] := r0
  simp (dsimp := false) only [↓ir.fib_Far.l3.bw, ↓ir.fib_Far.r0.w, ↓ir.fib_Far.r1.w, ↓ir.fib_Far.r2.w, ↓ir.fib_Far.r3.w, ↓ir.fib_Far.r4.w, ↓ir.fib_Far.r5.w, ↓ir.fib_Far.r6.w, ↓ir.fib_Far.l1.w, ↓ir.fib_Far.r7.w, ↓ir.fib_Far.r8.w, ↓ir.fib_Far.r9.w, ↓ir.fib_Far.r10.w, ↓ir.fib_Far.r11.w, ↓ir.fib_Far.r12.w, ↓ir.fib_Far.r13.w, ↓ir.fib_Far.r14.w, ↓ir.fib_Far.r15.w, ↓ir.fib_Far.r16.w, ↓ir.fib_Far.r17.w, ↓ir.fib_Far.r18.w, ↓ir.fib_Far.r19.w, ↓ir.fib_Far.r20.w, ↓ir.fib_Far.l2.w, ↓ir.fib_Far.l3.w, ↓ir.fib_Far.r21.w, ir.fib_Far.rs, go_sem, Nat.reduceAdd, Nat.reduceEqDiff, Nat.reduceMul, Nat.reduceLeDiff, Nat.reduceSub, Nat.reduceLT, ↓reduceIte, reduceCtorEq, List.reduceReplicate, List.flatten_cons, List.flatten_nil, List.append_nil, eq_self, Int.reduceLE, Int.reduceLT, Int.reduceToNat, Nat.min_eq_left, Int.reducePow, Int.reduceNeg, Int.reduceEq, lq, e3, decide_true, e1, r0, e2 (.refl _), hv.lenV]
  obtain ⟨oq2, hsb⟩ := oq.back (m := 1) (by simp) hlen
  have oq3 : Ow h h4 1 (sliceFrom 1 1 q) (qs (A ++ B)).length ((qs (A ++ B)).flatMap intC) := by simpa using oq2
  have huq2 : sb u ≠ sb (sliceFrom 1 1 q) := by rw [hsb]; exact huq
  clear oq2 hsb huq oq e1 e2 e3 r0 lq hnq
  have hm0 : 2 * negs f + (A ++ B).length + 1 ≤ 2 * L.length + 1 := by simp at hm ⊢; omega
  refine loopV_of (fun m e h5 => ∃ (j : Nat) (f' : List Int) (B' : List Nat) (q : Value), m = L.length - j ∧ j ≤ L.length ∧ 2 * negs f' + (A ++ B').length ≤ 2 * negs f + (A ++ B).length ∧ Pre h h5 ∧ Ow h h5 1 u f'.length (f'.flatMap intC) ∧ Ow h h5 1 q (qs (A ++ B')).length ((qs (A ++ B')).flatMap intC) ∧ sb u ≠ sb q ∧ InQ L d k A B' (some (c, j)) f' ∧
    e = [(0, v), (5, u), (7, q), (8, .int .i64 c), (45, .int .i64 L.length), (46, .int .i64 j)]) _ ⟨0, f, B, _, rfl, Nat.zero_le _, Nat.le_refl _, hp, ho, oq3, huq2, hf.pop, rfl⟩ ?_
  clear oq3 huq2 ho hp
  rintro m e h5 ⟨j, f', B', q, rfl, hj, hm', hp, ho, oq, huq, hq, rfl⟩
  have hfl := hq.1
  rcases Nat.lt_or_ge j L.length with hlt | hge
  case inr =>
    obtain rfl : j = L.length := by omega
    simp (dsimp := false) only [↓ir.fib_Far.l2.bw, ↓ir.fib_Far.r0.w, ↓ir.fib_Far.r1.w, ↓ir.fib_Far.r2.w, ↓ir.fib_Far.r3.w, ↓ir.fib_Far.r4.w, ↓ir.fib_Far.r5.w, ↓ir.fib_Far.r6.w, ↓ir.fib_Far.l1.w, ↓ir.fib_Far.r7.w, ↓ir.fib_Far.r8.w, ↓ir.fib_Far.r9.w, ↓ir.fib_Far.r10.w, ↓ir.fib_Far.r11.w, ↓ir.fib_Far.r12.w, ↓ir.fib_Far.r13.w, ↓ir.fib_Far.r14.w, ↓ir.fib_Far.r15.w, ↓ir.fib_Far.r16.w, ↓ir.fib_Far.r17.w, ↓ir.fib_Far.r18.w, ↓ir.fib_Far.r19.w, ↓ir.fib_Far.r20.w, ↓ir.fib_Far.l2.w, ↓ir.fib_Far.l3.w, ↓ir.fib_Far.r21.w, ir.fib_Far.rs, go_sem, Nat.reduceAdd, Nat.reduceEqDiff, Nat.reduceMul, Nat.reduceLeDiff, Nat.reduceSub, Nat.reduceLT, ↓reduceIte, reduceCtorEq, List.reduceReplicate, List.flatten_cons, List.flatten_nil, List.append_nil, eq_self, Int.reduceLE, Int.reduceLT, Int.reduceToNat, Nat.min_eq_left, Int.reducePow, Int.reduceNeg, Int.reduceEq, Int.ofNat_lt, Nat.lt_irrefl, decide_false]
    exact ⟨_, by simp; simp at hm'; omega, k, f', A, B', q, rfl, by omega, hp, ho, oq, huq, hq.leave, _, rfl⟩
  obtain ⟨hcl, hkl, hck⟩ := hq.cur hd
  have fj : j < f'.length := by omega
  have fc : c < f'.length := by omega
  have ej : f'[j]? = some f'[j] := by simp [fj]
  obtain ⟨_, _, rfl, r0, _⟩ := ho.ints.rd2 (.refl _) fj
  have look := hq.look hd hlt
  have skip : ∀ h', Pre h h' → Ow h h' 1 u f'.length (f'.flatMap intC) → Ow h h' 1 q (qs (A ++ B')).length ((qs (A ++ B')).flatMap intC) → ¬ ((∃ z : Int, f'[j]? = some z ∧ z < 0) ∧ LkB L c j) →
      ∃ m', m' < L.length - j ∧ ∃ (j' : Nat) (f'' : List Int) (B' : List Nat) (q' : Value), m' = L.length - j' ∧ j' ≤ L.length ∧ 2 * negs f'' + (A ++ B').length ≤ 2 * negs f + (A ++ B).length ∧ Pre h h' ∧ Ow h h' 1 u f''.length (f''.flatMap intC) ∧ Ow h h' 1 q' (qs (A ++ B')).length ((qs (A ++ B')).flatMap intC) ∧ sb u ≠ sb q' ∧ InQ L d k A B' (some (c, j')) f'' ∧
      [(0, v), (5, u), (7, q), (8, Value.int .i64 c), (45, .int .i64 L.length), (46, .int .i64 ((j + 1 : Nat) : Int))] = [(0, v), (5, u), (7, q'), (8, .int .i64 c), (45, .int .i64 L.length), (46, .int .i64 j')] := fun h' k1 k2 k3 k4 =>
    ⟨L.length - (j + 1), by omega, j + 1, f', B', q, rfl, hlt, hm', k1, k2, k3, huq, look.2 k4, rfl⟩
  simp (dsimp := false) only [↓ir.fib_Far.l2.bw, ↓ir.fib_Far.r0.w, ↓ir.fib_Far.r1.w, ↓ir.fib_Far.r2.w, ↓ir.fib_Far.r3.w, ↓ir.fib_Far.r4.w, ↓ir.fib_Far.r5.w, ↓ir.fib_Far.r6.w, ↓ir.fib_Far.l1.w, ↓ir.fib_Far.r7.w, ↓ir.fib_Far.r8.w, ↓ir.fib_Far.r9.w, ↓ir.fib_Far.r10.w, ↓ir.fib_Far.r11.w, ↓ir.fib_Far.r12.w, ↓ir.fib_Far.r13.w, ↓ir.fib_Far.r14.w, ↓ir.fib_Far.r15.w, ↓ir.fib_Far.r16.w, ↓ir.fib_Far.r17.w, ↓ir.fib_Far.r18.w, ↓ir.fib_Far.r19.w, ↓ir.fib_Far.r20.w, ↓ir.fib_Far.l2.w, ↓ir.fib_Far.l3.w, ↓ir.fib_Far.r21.w, ir.fib_Far.rs, go_sem, Nat.reduceAdd, Nat.reduceEqDiff, Nat.reduceMul, Nat.reduceLeDiff, Nat.reduceSub, Nat.reduceLT, ↓reduceIte, reduceCtorEq, List.reduceReplicate, List.flatten_cons, List.flatten_nil, List.append_nil, eq_self, Int.reduceLE, Int.reduceLT, Int.reduceToNat, Nat.min_eq_left, Int.reducePow, Int.reduceNeg, Int.reduceEq, Int.ofNat_lt, hlt, decide_true, ho.ints.ixsN fj, r0]
  obtain ⟨_, _, ⟨rv, rfl, hr⟩, s0, s1⟩ := hv.rd2 hp hcl
  replace hr := hr.pre hp
  have er : L[c]? = some L[c] := by simp [hcl]
  refine gTd (fun c1 => ?_) (fun c1 => ?_)
  case refine_2 =>
    simp (dsimp := false) only [↓ir.fib_Far.r0.w, ↓ir.fib_Far.r1.w, ↓ir.fib_Far.r2.w, ↓ir.fib_Far.r3.w, ↓ir.fib_Far.r4.w, ↓ir.fib_Far.r5.w, ↓ir.fib_Far.r6.w, ↓ir.fib_Far.l1.w, ↓ir.fib_Far.r7.w, ↓ir.fib_Far.r8.w, ↓ir.fib_Far.r9.w, ↓ir.fib_Far.r10.w, ↓ir.fib_Far.r11.w, ↓ir.fib_Far.r12.w, ↓ir.fib_Far.r13.w, ↓ir.fib_Far.r14.w, ↓ir.fib_Far.r15.w, ↓ir.fib_Far.r16.w, ↓ir.fib_Far.r17.w, ↓ir.fib_Far.r18.w, ↓ir.fib_Far.r19.w, ↓ir.fib_Far.r20.w, ↓ir.fib_Far.l2.w, ↓ir.fib_Far.l3.w, ↓ir.fib_Far.r21.w, ir.fib_Far.rs, go_sem, Nat.reduceAdd, Nat.reduceEqDiff, Nat.reduceMul, Nat.reduceLeDiff, Nat.reduceSub, Nat.reduceLT, ↓reduceIte, reduceCtorEq, List.reduceReplicate, List.flatten_cons, List.flatten_nil, List.append_nil, eq_self, Int.reduceLE, Int.reduceLT, Int.reduceToNat, Nat.min_eq_left, Int.reducePow, Int.reduceNeg, Int.reduceEq, wrap_succ hlt hv.le]
    exact skip _ hp ho oq fun q => c1 (by obtain ⟨z, q1, q2⟩ := q.1; rw [ej] at q1; cases q1; exact q2)
  simp (dsimp := false) only [↓ir.fib_Far.r0.w, ↓ir.fib_Far.r1.w, ↓ir.fib_Far.r2.w, ↓ir.fib_Far.r3.w, ↓ir.fib_Far.r4.w, ↓ir.fib_Far.r5.w, ↓ir.fib_Far.r6.w, ↓ir.fib_Far.l1.w, ↓ir.fib_Far.r7.w, ↓ir.fib_Far.r8.w, ↓ir.fib_Far.r9.w, ↓ir.fib_Far.r10.w, ↓ir.fib_Far.r11.w, ↓ir.fib_Far.r12.w, ↓ir.fib_Far.r13.w, ↓ir.fib_Far.r14.w, ↓ir.fib_Far.r15.w, ↓ir.fib_Far.r16.w, ↓ir.fib_Far.r17.w, ↓ir.fib_Far.r18.w, ↓ir.fib_Far.r19.w, ↓ir.fib_Far.r20.w, ↓ir.fib_Far.l2.w, ↓ir.fib_Far.l3.w, ↓ir.fib_Far.r21.w, ir.fib_Far.rs, go_sem, Nat.reduceAdd, Nat.reduceEqDiff, Nat.reduceMul, Nat.reduceLeDiff, Nat.reduceSub, Nat.reduceLT, ↓reduceIte, reduceCtorEq, List.reduceReplicate, List.flatten_cons, List.flatten_nil, List.append_nil, eq_self, Int.reduceLE, Int.reduceLT, Int.reduceToNat, Nat.min_eq_left, Int.reducePow, Int.reduceNeg, Int.reduceEq, hv.ixsN hcl, s0, hr.lenV, Int.ofNat_lt]
  refine gTd (fun c2 => ?_) (fun c2 => ?_)
  case refine_2 =>
    simp (dsimp := false) only [↓ir.fib_Far.r0.w, ↓ir.fib_Far.r1.w, ↓ir.fib_Far.r2.w, ↓ir.fib_Far.r3.w, ↓ir.fib_Far.r4.w, ↓ir.fib_Far.r5.w, ↓ir.fib_Far.r6.w, ↓ir.fib_Far.l1.w, ↓ir.fib_Far.r7.w, ↓ir.fib_Far.r8.w, ↓ir.fib_Far.r9.w, ↓ir.fib_Far.r10.w, ↓ir.fib_Far.r11.w, ↓ir.fib_Far.r12.w, ↓ir.fib_Far.r13.w, ↓ir.fib_Far.r14.w, ↓ir.fib_Far.r15.w, ↓ir.fib_Far.r16.w, ↓ir.fib_Far.r17.w, ↓ir.fib_Far.r18.w, ↓ir.fib_Far.r19.w, ↓ir.fib_Far.r20.w, ↓ir.fib_Far.l2.w, ↓ir.fib_Far.l3.w, ↓ir.fib_Far.r21.w, ir.fib_Far.rs, go_sem, Nat.reduceAdd, Nat.reduceEqDiff, Nat.reduceMul, Nat.reduceLeDiff, Nat.reduceSub, Nat.reduceLT, ↓reduceIte, reduceCtorEq, List.reduceReplicate, List.flatten_cons, List.flatten_nil, List.append_nil, eq_self, Int.reduceLE, Int.reduceLT, Int.reduceToNat, Nat.min_eq_left, Int.reducePow, Int.reduceNeg, Int.reduceEq, wrap_succ hlt hv.le]
    exact skip _ hp ho oq fun q => c2 (by obtain ⟨r, q1, q2⟩ := q.2; rw [er] at q1; cases q1; exact (List.getElem?_eq_some_iff.1 q2).1)
  obtain ⟨_, _, t0, t1, _⟩ := hr.rd2 (.refl _) c2
  subst t0
  simp (dsimp := false) only [↓ir.fib_Far.r0.w, ↓ir.fib_Far.r1.w, ↓ir.fib_Far.r2.w, ↓ir.fib_Far.r3.w, ↓ir.fib_Far.r4.w, ↓ir.fib_Far.r5.w, ↓ir.fib_Far.r6.w, ↓ir.fib_Far.l1.w, ↓ir.fib_Far.r7.w, ↓ir.fib_Far.r8.w, ↓ir.fib_Far.r9.w, ↓ir.fib_Far.r10.w, ↓ir.fib_Far.r11.w, ↓ir.fib_Far.r12.w, ↓ir.fib_Far.r13.w, ↓ir.fib_Far.r14.w, ↓ir.fib_Far.r15.w, ↓ir.fib_Far.r16.w, ↓ir.fib_Far.r17.w, ↓ir.fib_Far.r18.w, ↓ir.fib_Far.r19.w, ↓ir.fib_Far.r20.w, ↓ir.fib_Far.l2.w, ↓ir.fib_Far.l3.w, ↓ir.fib_Far.r21.w, ir.fib_Far.rs, go_sem, Nat.reduceAdd, Nat.reduceEqDiff, Nat.reduceMul, Nat.reduceLeDiff, Nat.reduceSub, Nat.reduceLT, ↓reduceIte, reduceCtorEq, List.reduceReplicate, List.flatten_cons, List.flatten_nil, List.append_nil, eq_self, Int.reduceLE, Int.reduceLT, Int.reduceToNat, Nat.min_eq_left, Int.reducePow, Int.reduceNeg, Int.reduceEq, hv.ixsN hcl, s0, hr.ixsN c2, t1]
  refine cV (fun c3 => ?_) (fun c3 => ?_)
  case refine_2 =>
    simp (dsimp := false) only [↓ir.fib_Far.r0.w, ↓ir.fib_Far.r1.w, ↓ir.fib_Far.r2.w, ↓ir.fib_Far.r3.w, ↓ir.fib_Far.r4.w, ↓ir.fib_Far.r5.w, ↓ir.fib_Far.r6.w, ↓ir.fib_Far.l1.w, ↓ir.fib_Far.r7.w, ↓ir.fib_Far.r8.w, ↓ir.fib_Far.r9.w, ↓ir.fib_Far.r10.w, ↓ir.fib_Far.r11.w, ↓ir.fib_Far.r12.w, ↓ir.fib_Far.r13.w, ↓ir.fib_Far.r14.w, ↓ir.fib_Far.r15.w, ↓ir.fib_Far.r16.w, ↓ir.fib_Far.r17.w, ↓ir.fib_Far.r18.w, ↓ir.fib_Far.r19.w, ↓ir.fib_Far.r20.w, ↓ir.fib_Far.l2.w, ↓ir.fib_Far.l3.w, ↓ir.fib_Far.r21.w, ir.fib_Far.rs, go_sem, Nat.reduceAdd, Nat.reduceEqDiff, Nat.reduceMul, Nat.reduceLeDiff, Nat.reduceSub, Nat.reduceLT, ↓reduceIte, reduceCtorEq, List.reduceReplicate, List.flatten_cons, List.flatten_nil, List.append_nil, eq_self, Int.reduceLE, Int.reduceLT, Int.reduceToNat, Nat.min_eq_left, Int.reducePow, Int.reduceNeg, Int.reduceEq, wrap_succ hlt hv.le]
    exact skip _ hp ho oq fun q => by
      obtain ⟨r, q1, q2⟩ := q.2
      rw [er] at q1; cases q1
      rw [List.getElem?_eq_some_iff] at q2
      obtain ⟨_, q3⟩ := q2
      rw [c3] at q3; cases q3
  obtain ⟨_, _, t0, u1, _⟩ := ho.ints.rd2 (.refl _) fc
  have ec : f'[c] = (k : Int) := by
    have : f'[c]? = some f'[c] := by simp [fc]
    rw [this] at hck; simpa using hck
  subst t0
  rw [ec] at u1
  have hwr : IntKind.i64.wrap ((k : Int) + 1) = ((k + 1 : Nat) : Int) := wrap_succ hkl hv.le
  obtain ⟨h6, hw, ho6, hb6, hne, hl6⟩ := ho.store fj ((k + 1 : Nat) : Int)
  have hp6 := hb6.pre hp
  have hneg := negs_set fj c1 (k + 1)
  have oq6 := oq.frame (hne _ (fun q => huq q.symm))
  have hub : sb u < h6.length := ho6.sl.blk (by rw [List.length_set]; omega)
  have hlq : (qs (A ++ B')).length = (A ++ B').length := by simp
  have hb21 : (A ++ B').length ≤ 21 := by omega
  simp (dsimp := false) only [↓ir.fib_Far.r0.w, ↓ir.fib_Far.r1.w, ↓ir.fib_Far.r2.w, ↓ir.fib_Far.r3.w, ↓ir.fib_Far.r4.w, ↓ir.fib_Far.r5.w, ↓ir.fib_Far.r6.w, ↓ir.fib_Far.l1.w, ↓ir.fib_Far.r7.w, ↓ir.fib_Far.r8.w, ↓ir.fib_Far.r9.w, ↓ir.fib_Far.r10.w, ↓ir.fib_Far.r11.w, ↓ir.fib_Far.r12.w, ↓ir.fib_Far.r13.w, ↓ir.fib_Far.r14.w, ↓ir.fib_Far.r15.w, ↓ir.fib_Far.r16.w, ↓ir.fib_Far.r17.w, ↓ir.fib_Far.r18.w, ↓ir.fib_Far.r19.w, ↓ir.fib_Far.r20.w, ↓ir.fib_Far.l2.w, ↓ir.fib_Far.l3.w, ↓ir.fib_Far.r21.w, ir.fib_Far.rs, go_sem, Nat.reduceAdd, Nat.reduceEqDiff, Nat.reduceMul, Nat.reduceLeDiff, Nat.reduceSub, Nat.reduceLT, ↓reduceIte, reduceCtorEq, List.reduceReplicate, List.flatten_cons, List.flatten_nil, List.append_nil, eq_self, Int.reduceLE, Int.reduceLT, Int.reduceToNat, Nat.min_eq_left, Int.reducePow, Int.reduceNeg, Int.reduceEq, ho.ints.ixsN fc, ho.ints.ixsN fj, u1, hwr, hw]
  refine (oq6.pre (.app _ _)).app (m := 1) rfl rfl ⟨by rw [hlq]; omega, by rw [hlq]; omega⟩ (fun q' h' oq' hb hsb _ => ?_) (hp6.app' _)
  have hpp := hb.pre (hp6.app' _)
  simp (dsimp := false) only [↓ir.fib_Far.r0.w, ↓ir.fib_Far.r1.w, ↓ir.fib_Far.r2.w, ↓ir.fib_Far.r3.w, ↓ir.fib_Far.r4.w, ↓ir.fib_Far.r5.w, ↓ir.fib_Far.r6.w, ↓ir.fib_Far.l1.w, ↓ir.fib_Far.r7.w, ↓ir.fib_Far.r8.w, ↓ir.fib_Far.r9.w, ↓ir.fib_Far.r10.w, ↓ir.fib_Far.r11.w, ↓ir.fib_Far.r12.w, ↓ir.fib_Far.r13.w, ↓ir.fib_Far.r14.w, ↓ir.fib_Far.r15.w, ↓ir.fib_Far.r16.w, ↓ir.fib_Far.r17.w, ↓ir.fib_Far.r18.w, ↓ir.fib_Far.r19.w, ↓ir.fib_Far.r20.w, ↓ir.fib_Far.l2.w, ↓ir.fib_Far.l3.w, ↓ir.fib_Far.r21.w, ir.fib_Far.rs, go_sem, Nat.reduceAdd, Nat.reduceEqDiff, Nat.reduceMul, Nat.reduceLeDiff, Nat.reduceSub, Nat.reduceLT, ↓reduceIte, reduceCtorEq, List.reduceReplicate, List.flatten_cons, List.flatten_nil, List.append_nil, eq_self, Int.reduceLE, Int.reduceLT, Int.reduceToNat, Nat.min_eq_left, Int.reducePow, Int.reduceNeg, Int.reduceEq, wrap_succ hlt hv.le]
  have hcase := hsb (by omega)
  have hq3 := look.1 ⟨_, ej, c1⟩ ⟨_, er, by simp [c2, c3]⟩
  refine ⟨L.length - (j + 1), by omega, j + 1, _, B' ++ [j], q', rfl, hlt, by simp at hm' hneg ⊢; omega, hpp, ?_, ?_, ?_, hq3, rfl⟩
  · refine (ho6.pre (.app h6 [.row (.grow 1) [.int .i64 (j : Int)]])).frame ?_
    exact hb.1.2 _ (by simp; omega) fun q => absurd q huq
  · have := oq'.snoc
    simpa using this
  · rcases hcase with q | q
    · rw [q]; simp; omega
    · rw [q.1]; exact huq

/-- FibFar is true. -/
theorem fibFar_spec {h : AHeap} {v : Value} {L : List (List Bool)} (hv : Ls h 1 (isR h) v L) (dest : Int) : SpecX Try.prog nG fn.law22_FibFar [v, .int .i64 dest] h fun v' _ => v' = .bool true := by
  refine SpecX.of_body (ir.law22_FibFar.spec (Nat.le_of_ble_eq_true rfl)) ?_
  rw [ir.law22_FibFar.bw, wpC_assoc]
  refine wpC_cut (fun e h' => h' = h ∧ ∃ v' L', L'.length ≤ 10 ∧ Ls h 1 (isR h) v' L' ∧ look e 0 = v' ∧ look e 1 = .int .i64 dest) ?_ ?_
  · simp (dsimp := false) only [↓ir.law22_FibFar.r0.w, ↓ir.law22_FibFar.r1.w, ↓ir.law22_FibFar.r2.w, ↓ir.law22_FibFar.r3.w, ir.law22_FibFar.rs, go_sem, Nat.reduceAdd, Nat.reduceEqDiff, Nat.reduceMul, Nat.reduceLeDiff, Nat.reduceSub, Nat.reduceLT, ↓reduceIte, reduceCtorEq, List.reduceReplicate, List.flatten_cons, List.flatten_nil, List.append_nil, eq_self, Int.reduceLE, Int.reduceLT, Int.reduceToNat, Nat.min_eq_left, Int.reducePow, Int.reduceNeg, Int.reduceEq, hv.lenV]
    refine cVd (fun hl => ?_) (fun hl => ?_) <;> simp (dsimp := false) only [↓ir.law22_FibFar.r0.w, ↓ir.law22_FibFar.r1.w, ↓ir.law22_FibFar.r2.w, ↓ir.law22_FibFar.r3.w, ir.law22_FibFar.rs, go_sem, Nat.reduceAdd, Nat.reduceEqDiff, Nat.reduceMul, Nat.reduceLeDiff, Nat.reduceSub, Nat.reduceLT, ↓reduceIte, reduceCtorEq, List.reduceReplicate, List.flatten_cons, List.flatten_nil, List.append_nil, eq_self, Int.reduceLE, Int.reduceLT, Int.reduceToNat, Nat.min_eq_left, Int.reducePow, Int.reduceNeg, Int.reduceEq]
    case refine_2 => exact ⟨v, L, by omega, hv, rfl⟩
    rw [hv.slToI (by omega) (by omega) (by omega) (.refl _)]
    simp (dsimp := false) only [↓ir.law22_FibFar.r0.w, ↓ir.law22_FibFar.r1.w, ↓ir.law22_FibFar.r2.w, ↓ir.law22_FibFar.r3.w, ir.law22_FibFar.rs, go_sem, Nat.reduceAdd, Nat.reduceEqDiff, Nat.reduceMul, Nat.reduceLeDiff, Nat.reduceSub, Nat.reduceLT, ↓reduceIte, reduceCtorEq, List.reduceReplicate, List.flatten_cons, List.flatten_nil, List.append_nil, eq_self, Int.reduceLE, Int.reduceLT, Int.reduceToNat, Nat.min_eq_left, Int.reducePow, Int.reduceNeg, Int.reduceEq]
    exact ⟨_, _, by simp; omega, hv.front (m := 10) (by omega), rfl⟩
  clear hv v L
  rintro e h' ⟨rfl, v, L, h10, hv, e0, e1⟩
  simp (dsimp := false) only [↓ir.law22_FibFar.r0.w, ↓ir.law22_FibFar.r1.w, ↓ir.law22_FibFar.r2.w, ↓ir.law22_FibFar.r3.w, ir.law22_FibFar.rs, go_sem, Nat.reduceAdd, Nat.reduceEqDiff, Nat.reduceMul, Nat.reduceLeDiff, Nat.reduceSub, Nat.reduceLT, ↓reduceIte, reduceCtorEq, List.reduceReplicate, List.flatten_cons, List.flatten_nil, List.append_nil, eq_self, Int.reduceLE, Int.reduceLT, Int.reduceToNat, Nat.min_eq_left, Int.reducePow, Int.reduceNeg, Int.reduceEq, e0, e1]
  refine callV_x awake22_spec ?_
  rintro _ h1 ⟨hp1, rfl⟩
  simp (dsimp := false) only [↓ir.law22_FibFar.r0.w, ↓ir.law22_FibFar.r1.w, ↓ir.law22_FibFar.r2.w, ↓ir.law22_FibFar.r3.w, ir.law22_FibFar.rs, go_sem, Nat.reduceAdd, Nat.reduceEqDiff, Nat.reduceMul, Nat.reduceLeDiff, Nat.reduceSub, Nat.reduceLT, ↓reduceIte, reduceCtorEq, List.reduceReplicate, List.flatten_cons, List.flatten_nil, List.append_nil, eq_self, Int.reduceLE, Int.reduceLT, Int.reduceToNat, Nat.min_eq_left, Int.reducePow, Int.reduceNeg, Int.reduceEq]
  refine callV_x (far_spec (hv.isRpre hp1) h10 dest) ?_
  rintro u1 h2 ⟨hp2, f1, o1, hf1⟩
  simp (dsimp := false) only [↓ir.law22_FibFar.r0.w, ↓ir.law22_FibFar.r1.w, ↓ir.law22_FibFar.r2.w, ↓ir.law22_FibFar.r3.w, ir.law22_FibFar.rs, go_sem, Nat.reduceAdd, Nat.reduceEqDiff, Nat.reduceMul, Nat.reduceLeDiff, Nat.reduceSub, Nat.reduceLT, ↓reduceIte, reduceCtorEq, List.reduceReplicate, List.flatten_cons, List.flatten_nil, List.append_nil, eq_self, Int.reduceLE, Int.reduceLT, Int.reduceToNat, Nat.min_eq_left, Int.reducePow, Int.reduceNeg, Int.reduceEq]
  refine callV_x (rfar_spec (hv.isRpre (hp1.trans hp2)) h10 dest) ?_
  rintro u2 h3 ⟨hp3, f2, o2, hf2⟩
  obtain rfl := hf1.uniq hf2
  simp (dsimp := false) only [↓ir.law22_FibFar.r0.w, ↓ir.law22_FibFar.r1.w, ↓ir.law22_FibFar.r2.w, ↓ir.law22_FibFar.r3.w, ir.law22_FibFar.rs, go_sem, Nat.reduceAdd, Nat.reduceEqDiff, Nat.reduceMul, Nat.reduceLeDiff, Nat.reduceSub, Nat.reduceLT, ↓reduceIte, reduceCtorEq, List.reduceReplicate, List.flatten_cons, List.flatten_nil, List.append_nil, eq_self, Int.reduceLE, Int.reduceLT, Int.reduceToNat, Nat.min_eq_left, Int.reducePow, Int.reduceNeg, Int.reduceEq]
  refine callV_x (same_spec (o1.ints.pre hp3) o2.ints) ?_
  rintro _ h4 ⟨hp4, rfl⟩
  simp (dsimp := false) only [↓ir.law22_FibFar.r0.w, ↓ir.law22_FibFar.r1.w, ↓ir.law22_FibFar.r2.w, ↓ir.law22_FibFar.r3.w, ir.law22_FibFar.rs, go_sem, Nat.reduceAdd, Nat.reduceEqDiff, Nat.reduceMul, Nat.reduceLeDiff, Nat.reduceSub, Nat.reduceLT, ↓reduceIte, reduceCtorEq, List.reduceReplicate, List.flatten_cons, List.flatten_nil, List.append_nil, eq_self, Int.reduceLE, Int.reduceLT, Int.reduceToNat, Nat.min_eq_left, Int.reducePow, Int.reduceNeg, Int.reduceEq, decide_true]
end Go.Proofs.Ytmeojocmngbpaaa.B
