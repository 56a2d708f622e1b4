/-
  Layer 34: what happened to one node.
-/
import Derived.Test.YtoiihalnbdehkaaDoorV6
namespace Go.Proofs.YtoiihalnbdehkaaDoor.B
open Go
set_option linter.unusedVariables false
set_option linter.unusedSimpArgs false
def bitE (id p : Int) (x y : Nat) : List EvR := if x < y then [⟨4, id, 0, 0, 0, 0, p, 0, 0, 0⟩] else if y < x then [⟨5, id, 0, 0, 0, 0, p, 0, 0, 0⟩] else []
def bitsS (id : Int) (x y n : Nat) : List EvR := (List.range n).flatMap fun (p : Nat) => bitE id (p : Int) (x / 2 ^ p % 2) (y / 2 ^ p % 2)
theorem bitsS_succ (id : Int) (x y n : Nat) : bitsS id x y (n + 1) = bitsS id x y n ++ bitE id n (x / 2 ^ n % 2) (y / 2 ^ n % 2) := by
  unfold bitsS; rw [List.range_succ, List.flatMap_append]; simp
theorem bitE_len (id p : Int) (x y : Nat) : (bitE id p x y).length ≤ 1 := by
  unfold bitE; split
  · simp
  · split <;> simp
theorem bitsS_len (id : Int) (x y : Nat) : ∀ n, (bitsS id x y n).length ≤ n
  | 0 => Nat.le_refl _
  | n + 1 => by
    rw [bitsS_succ, List.length_append]
    have := bitsS_len id x y n
    have := bitE_len id n (x / 2 ^ n % 2) (y / 2 ^ n % 2)
    omega
def endB (a b : NodeR) : Bool := a.up && (!b.up || a.boot != b.boot)
def nowN (a b : NodeR) : NodeR := if endB a b then zeroN else a
def ownQ (a b : NodeR) : Bool := (b.e : Int) == (a.e : Int) && ((b.s : Int) == (a.s : Int) && (b.m == a.m && true))
def l1S (id : Int) (a b : NodeR) : List EvR := if endB a b then [⟨2, id, 0, 0, 0, 0, 0, 0, 0, 0⟩] else []
def l2S (id : Int) (a b : NodeR) : List EvR := if a.up then [] else [⟨1, id, 0, 0, 0, b.boot, 0, 0, 0, 0⟩]
def l3S (id : Int) (a b : NodeR) : List EvR := if ownQ a b then [] else [⟨3, id, b.e, b.s, b.m, 0, 0, 0, 0, 0⟩]
def turnS (id : Int) (a b : NodeR) : List EvR :=
  l1S id a b ++ if b.up then l2S id (nowN a b) b ++ (l3S id (nowN a b) b ++ (bitsS id (nowN a b).live b.live 8 ++ hopsS id (nowN a b).hops b.hops 8)) else []
theorem turnS_len (id : Int) (a b : NodeR) : (turnS id a b).length ≤ 19 := by
  have h1 := bitsS_len id (nowN a b).live b.live 8
  have h2 := hopsS_len id (nowN a b).hops b.hops 8
  unfold turnS l1S l2S l3S
  simp only [List.length_append]
  repeat' split
  all_goals (simp only [List.length_append, List.length_cons, List.length_nil]; try omega)
theorem bit_at : ∀ x : Nat, x < 256 → ∀ p : Nat, p < 8 → IntKind.u8.wrap ((BitVec.ofInt IntKind.u8.bits ((x : Int).fdiv (2 ^ min (p : Int).toNat 8)) &&& BitVec.ofInt IntKind.u8.bits 1).toNat : Int) = ((x / 2 ^ p % 2 : Nat) : Int) := by decide +kernel
/-- Two blocks of a node each, and the events so far. -/
structure TS (h h2 : AHeap) (p4 p5 : Nat) (A B : List Value) (u : Value) (l : List EvR) : Prop where
  pre : Pre h h2
  f4 : Fx h2 p4 A
  f5 : Fx h2 p5 B
  ac : Ac h h2 u l
theorem TS.push {h h2 : AHeap} {p4 p5 : Nat} {A B : List Value} {u : Value} {l : List EvR} (k : TS h h2 p4 p5 A B u l) (x : EvR) (hl : l.length ≤ 1000) {K : Value → AHeap → Prop} {w : Hold K} (hk : ∀ u' h', TS h h' p4 p5 A B u' (l ++ [x]) → K u' h') :
    appV 10 72 u (some (1, x.c)) (h2 ++ [.row (.grow 10) x.c]) K w := by
  refine (k.ac.pre (.app _ _)).app (m := 1) rfl rfl ⟨by omega, by omega⟩ (fun u' h' ho' hc _ _ => ?_) (k.pre.app' _)
  exact hk u' h' ⟨hc.pre (k.pre.app' _), (k.f4.app _).chg hc (k.ac.nfix k.f4), (k.f5.app _).chg hc (k.ac.nfix k.f5), Ac.push ho'⟩
theorem TS.put4 {h h2 : AHeap} {p4 p5 : Nat} {A B : List Value} {u : Value} {l : List EvR} (k : TS h h2 p4 p5 A B u l) (hp : h.length ≤ p4) (ne : p4 ≠ p5) {C : List Value} (hA : A.length = 7) (hC : C.length = 7) :
    wrs h2 p4 0 C = some (h2.set p4 (.row .fix C)) ∧ TS h (h2.set p4 (.row .fix C)) p4 p5 C B u l := by
  refine ⟨?_, ⟨k.pre.put hp _, k.f4.set _, k.f5.other ne _, k.ac.put (k.ac.nfix k.f4) _⟩⟩
  rw [k.f4.wr (by omega)]
  have : setC A 0 C = C := by
    rw [setC_eq (by omega)]
    simp; omega
  rw [this]
theorem TS.chg {h h2 : AHeap} {p4 p5 : Nat} {A B : List Value} {u : Value} {l : List EvR} (k : TS h h2 p4 p5 A B u l) {h3 : AHeap} (p : Pre h2 h3) : TS h h3 p4 p5 A B u l := ⟨k.pre.trans p, k.f4.pre p, k.f5.pre p, k.ac.pre p⟩
theorem nowN_ok {a b : NodeR} (oa : a.ok) : (nowN a b).ok := by
  unfold nowN
  split
  · exact ⟨by decide, by decide, by decide, by decide⟩
  · exact oa
theorem turn_spec {h : AHeap} {va vb : Value} {a b : NodeR} (ha : Ls h 3 isHR va a.hops) (hb : Ls h 3 isHR vb b.hops) (oa : a.ok) (ob : b.ok) (id : Int) :
    SpecX Tryd.prog nG fn.watch_turn [.int .i64 id, .agg ⟨a.c va⟩, .agg ⟨b.c vb⟩] h fun v' h' => Pre h h' ∧ Ac h h' v' (turnS id a b) := by
  refine SpecX.of_body (ir.watch_turn.spec (Nat.le_of_ble_eq_true rfl)) ?_
  rw [ir.watch_turn.bw, wpC_assoc, wpC_assoc]
  have hne : h.length ≠ h.length + 1 := by omega
  refine wpC_cut (fun e h2 => ∃ (va' u : Value), TS h h2 h.length (h.length + 1) ((nowN a b).c va') (b.c vb) u (l1S id a b) ∧ Ls h 3 isHR va' (nowN a b).hops ∧ look e 0 = .int .i64 id ∧ look e 4 = .pointer (some ⟨h.length, 0, none⟩) ∧ look e 5 = .pointer (some ⟨h.length + 1, 0, none⟩) ∧ look e 7 = u) ?_ ?_
  · have k0 : TS h (h ++ [.row .fix (a.c va), .row .fix (b.c vb)]) h.length (h.length + 1) (a.c va) (b.c vb) nilS [] := ⟨.app _ _, Fx.here _ _ _, by simp [Fx], .nil⟩
    have stay : endB a b = false → TS h (h ++ [.row .fix (a.c va), .row .fix (b.c vb)]) h.length (h.length + 1) ((nowN a b).c va) (b.c vb) nilS (l1S id a b) ∧ Ls h 3 isHR va (nowN a b).hops := fun q => by
      unfold nowN l1S; rw [q]; exact ⟨k0, ha⟩
    have gone : ∀ (B : List Value) (o1 : AObj), TS h (h ++ [.row .fix (zeroN.c nilS), .row .fix B, o1, .row (.grow 10) (EvR.c ⟨2, id, 0, 0, 0, 0, 0, 0, 0, 0⟩)]) h.length (h.length + 1) (zeroN.c nilS) B (.slice (some ⟨h.length + 3, 0, none⟩) 1 1) [⟨2, id, 0, 0, 0, 0, 0, 0, 0, 0⟩] := fun B o1 => by
      refine ⟨.app _ _, Fx.here _ _ _, by simp [Fx], ?_⟩
      have := Ow.row (h0 := h) (h := h ++ [.row .fix (zeroN.c nilS), .row .fix B, o1, .row (.grow 10) (EvR.c ⟨2, id, 0, 0, 0, 0, 0, 0, 0, 0⟩)]) (sz := 10) (b := h.length + 3) (off := 0) (n := 1) (cap := 1) (cells := EvR.c ⟨2, id, 0, 0, 0, 0, 0, 0, 0, 0⟩) (by omega) (by simp) (by simp) (Nat.le_refl _) (by unfold maxI; omega)
      exact this
    have lnil : Ls h 3 isHR nilS [] := ⟨[], .nil, fun i hi => absurd hi (Nat.not_lt_zero _)⟩
    obtain ⟨ua, ba, ea, sa, ma, la, ha'⟩ := a
    obtain ⟨ub, bb, eb, sb', mb, lb, hb'⟩ := b
    simp (dsimp := false) only [go_sem, Nat.reduceAdd, Nat.reduceEqDiff, Nat.reduceMul, Nat.reduceLeDiff, Nat.reduceSub, Nat.reduceLT, ↓reduceIte, reduceCtorEq, List.reduceReplicate, List.flatten_cons, List.flatten_nil, List.append_nil, eq_self, Int.reduceLE, Int.reduceLT, Int.reduceToNat, Nat.min_eq_left, Int.reducePow, Int.reduceNeg, Int.reduceEq, NodeR.c]
    cases ua
    · simp (dsimp := false) only [go_sem, Nat.reduceAdd, Nat.reduceEqDiff, Nat.reduceMul, Nat.reduceLeDiff, Nat.reduceSub, Nat.reduceLT, ↓reduceIte, reduceCtorEq, List.reduceReplicate, List.flatten_cons, List.flatten_nil, List.append_nil, eq_self, Int.reduceLE, Int.reduceLT, Int.reduceToNat, Nat.min_eq_left, Int.reducePow, Int.reduceNeg, Int.reduceEq]
      obtain ⟨s1, s2⟩ := stay rfl
      exact ⟨va, nilS, s1, s2, rfl⟩
    · cases ub
      · simp (dsimp := false) only [go_sem, Nat.reduceAdd, Nat.reduceEqDiff, Nat.reduceMul, Nat.reduceLeDiff, Nat.reduceSub, Nat.reduceLT, ↓reduceIte, reduceCtorEq, List.reduceReplicate, List.flatten_cons, List.flatten_nil, List.append_nil, eq_self, Int.reduceLE, Int.reduceLT, Int.reduceToNat, Nat.min_eq_left, Int.reducePow, Int.reduceNeg, Int.reduceEq, Bool.not_false]
        exact ⟨⟨by omega, by omega⟩, nilS, _, gone _ _, lnil, rfl⟩
      · simp (dsimp := false) only [go_sem, Nat.reduceAdd, Nat.reduceEqDiff, Nat.reduceMul, Nat.reduceLeDiff, Nat.reduceSub, Nat.reduceLT, ↓reduceIte, reduceCtorEq, List.reduceReplicate, List.flatten_cons, List.flatten_nil, List.append_nil, eq_self, Int.reduceLE, Int.reduceLT, Int.reduceToNat, Nat.min_eq_left, Int.reducePow, Int.reduceNeg, Int.reduceEq, Bool.not_true]
        refine cVn (fun c => ?_) (fun c => ?_)
        · simp (dsimp := false) only [go_sem, Nat.reduceAdd, Nat.reduceEqDiff, Nat.reduceMul, Nat.reduceLeDiff, Nat.reduceSub, Nat.reduceLT, ↓reduceIte, reduceCtorEq, List.reduceReplicate, List.flatten_cons, List.flatten_nil, List.append_nil, eq_self, Int.reduceLE, Int.reduceLT, Int.reduceToNat, Nat.min_eq_left, Int.reducePow, Int.reduceNeg, Int.reduceEq]
          have hq : endB ⟨true, ba, ea, sa, ma, la, ha'⟩ ⟨true, bb, eb, sb', mb, lb, hb'⟩ = true := by simp [endB]; omega
          simp only [nowN, l1S, hq, if_true]
          exact ⟨⟨by omega, by omega⟩, nilS, _, gone _ _, lnil, rfl⟩
        · simp (dsimp := false) only [go_sem, Nat.reduceAdd, Nat.reduceEqDiff, Nat.reduceMul, Nat.reduceLeDiff, Nat.reduceSub, Nat.reduceLT, ↓reduceIte, reduceCtorEq, List.reduceReplicate, List.flatten_cons, List.flatten_nil, List.append_nil, eq_self, Int.reduceLE, Int.reduceLT, Int.reduceToNat, Nat.min_eq_left, Int.reducePow, Int.reduceNeg, Int.reduceEq]
          obtain ⟨s1, s2⟩ := stay (by simp [endB]; omega)
          exact ⟨va, nilS, s1, s2, rfl⟩
  have lA := nowN_ok oa (b := b)
  obtain ⟨a', ha'⟩ : ∃ a', nowN a b = a' := ⟨_, rfl⟩
  have l1 : (l1S id a b).length ≤ 1 := by unfold l1S; split <;> simp
  obtain ⟨E1, hE1⟩ : ∃ E1, l1S id a b = E1 := ⟨_, rfl⟩
  have hT : turnS id a b = E1 ++ if b.up then l2S id a' b ++ (l3S id a' b ++ (bitsS id a'.live b.live 8 ++ hopsS id a'.hops b.hops 8)) else [] := by unfold turnS; rw [ha', hE1]
  rw [hT]
  rw [ha'] at lA ⊢
  rw [hE1] at l1 ⊢
  clear hT hE1 ha' ha oa
  rintro e h2 ⟨va', u, k, la, e0, e4, e5, e7⟩
  refine wpC_cut (fun e h2 => b.up = true ∧ ∃ (u : Value), TS h h2 h.length (h.length + 1) (a'.c va') (b.c vb) u E1 ∧ look e 0 = .int .i64 id ∧ look e 4 = .pointer (some ⟨h.length, 0, none⟩) ∧ look e 5 = .pointer (some ⟨h.length + 1, 0, none⟩) ∧ look e 7 = u) ?_ ?_
  · have r5 : ∀ off n vs, ((b.c vb).drop off).take n = vs → off + n ≤ 7 → rds h2 (h.length + 1) off n = some vs := fun off n vs q1 q2 => k.f5.rd q1 (by simpa using q2)
    simp (dsimp := false) only [go_sem, Nat.reduceAdd, Nat.reduceEqDiff, Nat.reduceMul, Nat.reduceLeDiff, Nat.reduceSub, Nat.reduceLT, ↓reduceIte, reduceCtorEq, List.reduceReplicate, List.flatten_cons, List.flatten_nil, List.append_nil, eq_self, Int.reduceLE, Int.reduceLT, Int.reduceToNat, Nat.min_eq_left, Int.reducePow, Int.reduceNeg, Int.reduceEq, e0, e4, e5, e7, r5 0 1 [.bool b.up] rfl (by omega)]
    cases ub : b.up
    · simp (dsimp := false) only [go_sem, Nat.reduceAdd, Nat.reduceEqDiff, Nat.reduceMul, Nat.reduceLeDiff, Nat.reduceSub, Nat.reduceLT, ↓reduceIte, reduceCtorEq, List.reduceReplicate, List.flatten_cons, List.flatten_nil, List.append_nil, eq_self, Int.reduceLE, Int.reduceLT, Int.reduceToNat, Nat.min_eq_left, Int.reducePow, Int.reduceNeg, Int.reduceEq, Bool.not_false]
      exact ⟨k.pre, by simpa using k.ac⟩
    · simp (dsimp := false) only [go_sem, Nat.reduceAdd, Nat.reduceEqDiff, Nat.reduceMul, Nat.reduceLeDiff, Nat.reduceSub, Nat.reduceLT, ↓reduceIte, reduceCtorEq, List.reduceReplicate, List.flatten_cons, List.flatten_nil, List.append_nil, eq_self, Int.reduceLE, Int.reduceLT, Int.reduceToNat, Nat.min_eq_left, Int.reducePow, Int.reduceNeg, Int.reduceEq, Bool.not_true]
      exact ⟨u, k, rfl⟩
  clear k e0 e4 e5 e7
  rintro e h2 ⟨ub, u, k, e0, e4, e5, e7⟩
  rw [ub, if_pos rfl]
  refine wpC_cut (fun e h2 => ∃ (u : Value), TS h h2 h.length (h.length + 1) (a'.c va') (b.c vb) u (E1 ++ l2S id a' b) ∧ look e 0 = .int .i64 id ∧ look e 4 = .pointer (some ⟨h.length, 0, none⟩) ∧ look e 5 = .pointer (some ⟨h.length + 1, 0, none⟩) ∧ look e 7 = u) ?_ ?_
  · have r4 : ∀ off n vs, ((a'.c va').drop off).take n = vs → off + n ≤ 7 → rds h2 h.length off n = some vs := fun off n vs q1 q2 => k.f4.rd q1 (by simpa using q2)
    have r5 : ∀ off n vs, ((b.c vb).drop off).take n = vs → off + n ≤ 7 → rds h2 (h.length + 1) off n = some vs := fun off n vs q1 q2 => k.f5.rd q1 (by simpa using q2)
    simp (dsimp := false) only [go_sem, Nat.reduceAdd, Nat.reduceEqDiff, Nat.reduceMul, Nat.reduceLeDiff, Nat.reduceSub, Nat.reduceLT, ↓reduceIte, reduceCtorEq, List.reduceReplicate, List.flatten_cons, List.flatten_nil, List.append_nil, eq_self, Int.reduceLE, Int.reduceLT, Int.reduceToNat, Nat.min_eq_left, Int.reducePow, Int.reduceNeg, Int.reduceEq, e0, e4, e5, e7, r4 0 1 [.bool a'.up] rfl (by omega)]
    cases ua : a'.up
    · have q2 : l2S id a' b = [⟨1, id, 0, 0, 0, b.boot, 0, 0, 0, 0⟩] := by unfold l2S; rw [ua]; rfl
      rw [q2]
      simp (dsimp := false) only [go_sem, Nat.reduceAdd, Nat.reduceEqDiff, Nat.reduceMul, Nat.reduceLeDiff, Nat.reduceSub, Nat.reduceLT, ↓reduceIte, reduceCtorEq, List.reduceReplicate, List.flatten_cons, List.flatten_nil, List.append_nil, eq_self, Int.reduceLE, Int.reduceLT, Int.reduceToNat, Nat.min_eq_left, Int.reducePow, Int.reduceNeg, Int.reduceEq, Bool.not_false, e0, e4, e5, e7, r5 1 1 [.int .u64 b.boot] rfl (by omega)]
      refine k.push ⟨1, id, 0, 0, 0, b.boot, 0, 0, 0, 0⟩ (by omega) fun u' h' k' => ?_
      simp (dsimp := false) only [go_sem, Nat.reduceAdd, Nat.reduceEqDiff, Nat.reduceMul, Nat.reduceLeDiff, Nat.reduceSub, Nat.reduceLT, ↓reduceIte, reduceCtorEq, List.reduceReplicate, List.flatten_cons, List.flatten_nil, List.append_nil, eq_self, Int.reduceLE, Int.reduceLT, Int.reduceToNat, Nat.min_eq_left, Int.reducePow, Int.reduceNeg, Int.reduceEq]
      exact ⟨u', k', rfl⟩
    · have q2 : l2S id a' b = [] := by unfold l2S; rw [ua]; rfl
      rw [q2, List.append_nil]
      simp (dsimp := false) only [go_sem, Nat.reduceAdd, Nat.reduceEqDiff, Nat.reduceMul, Nat.reduceLeDiff, Nat.reduceSub, Nat.reduceLT, ↓reduceIte, reduceCtorEq, List.reduceReplicate, List.flatten_cons, List.flatten_nil, List.append_nil, eq_self, Int.reduceLE, Int.reduceLT, Int.reduceToNat, Nat.min_eq_left, Int.reducePow, Int.reduceNeg, Int.reduceEq, Bool.not_true]
      exact ⟨u, k, rfl⟩
  clear k e0 e4 e5 e7
  have l2 : (E1 ++ l2S id a' b).length ≤ 2 := by
    rw [List.length_append]; unfold l2S; split <;> simp <;> omega
  rw [← List.append_assoc]
  obtain ⟨E2, hE2⟩ : ∃ E2, E1 ++ l2S id a' b = E2 := ⟨_, rfl⟩
  rw [hE2] at l2 ⊢
  clear hE2 l1
  rintro e h2 ⟨u, k, e0, e4, e5, e7⟩
  refine wpC_cut (fun e h2 => ∃ (u : Value), TS h h2 h.length (h.length + 1) (a'.c va') (b.c vb) u (E2 ++ l3S id a' b) ∧ look e 0 = .int .i64 id ∧ look e 4 = .pointer (some ⟨h.length, 0, none⟩) ∧ look e 5 = .pointer (some ⟨h.length + 1, 0, none⟩) ∧ look e 7 = u) ?_ ?_
  · have r4 : ∀ off n vs, ((a'.c va').drop off).take n = vs → off + n ≤ 7 → rds h2 h.length off n = some vs := fun off n vs q1 q2 => k.f4.rd q1 (by simpa using q2)
    have r5 : ∀ off n vs, ((b.c vb).drop off).take n = vs → off + n ≤ 7 → rds h2 (h.length + 1) off n = some vs := fun off n vs q1 q2 => k.f5.rd q1 (by simpa using q2)
    simp (dsimp := false) only [go_sem, Nat.reduceAdd, Nat.reduceEqDiff, Nat.reduceMul, Nat.reduceLeDiff, Nat.reduceSub, Nat.reduceLT, ↓reduceIte, reduceCtorEq, List.reduceReplicate, List.flatten_cons, List.flatten_nil, List.append_nil, eq_self, Int.reduceLE, Int.reduceLT, Int.reduceToNat, Nat.min_eq_left, Int.reducePow, Int.reduceNeg, Int.reduceEq, e0, e4, e5, e7, r4 2 3 [.int .u32 a'.e, .int .u32 a'.s, .int .i64 a'.m] rfl (by omega), r5 2 3 [.int .u32 b.e, .int .u32 b.s, .int .i64 b.m] rfl (by omega)]
    refine cV (fun c => ?_) (fun c => ?_)
    · have q2 : l3S id a' b = [⟨3, id, b.e, b.s, b.m, 0, 0, 0, 0, 0⟩] := by
        unfold l3S; exact if_neg (by intro q; unfold ownQ at q; rw [q] at c; cases c)
      rw [q2]
      simp (dsimp := false) only [go_sem, Nat.reduceAdd, Nat.reduceEqDiff, Nat.reduceMul, Nat.reduceLeDiff, Nat.reduceSub, Nat.reduceLT, ↓reduceIte, reduceCtorEq, List.reduceReplicate, List.flatten_cons, List.flatten_nil, List.append_nil, eq_self, Int.reduceLE, Int.reduceLT, Int.reduceToNat, Nat.min_eq_left, Int.reducePow, Int.reduceNeg, Int.reduceEq, r5 2 3 [.int .u32 b.e, .int .u32 b.s, .int .i64 b.m] rfl (by omega)]
      refine k.push ⟨3, id, b.e, b.s, b.m, 0, 0, 0, 0, 0⟩ (by omega) fun u' h' k' => ?_
      simp (dsimp := false) only [go_sem, Nat.reduceAdd, Nat.reduceEqDiff, Nat.reduceMul, Nat.reduceLeDiff, Nat.reduceSub, Nat.reduceLT, ↓reduceIte, reduceCtorEq, List.reduceReplicate, List.flatten_cons, List.flatten_nil, List.append_nil, eq_self, Int.reduceLE, Int.reduceLT, Int.reduceToNat, Nat.min_eq_left, Int.reducePow, Int.reduceNeg, Int.reduceEq]
      exact ⟨u', k', rfl⟩
    · have q2 : l3S id a' b = [] := by
        unfold l3S; exact if_pos (by unfold ownQ; cases q : (b.e : Int) == (a'.e : Int) && ((b.s : Int) == (a'.s : Int) && (b.m == a'.m && true)) with
          | true => rfl
          | false => rw [q] at c; cases c)
      rw [q2, List.append_nil]
      simp (dsimp := false) only [go_sem, Nat.reduceAdd, Nat.reduceEqDiff, Nat.reduceMul, Nat.reduceLeDiff, Nat.reduceSub, Nat.reduceLT, ↓reduceIte, reduceCtorEq, List.reduceReplicate, List.flatten_cons, List.flatten_nil, List.append_nil, eq_self, Int.reduceLE, Int.reduceLT, Int.reduceToNat, Nat.min_eq_left, Int.reducePow, Int.reduceNeg, Int.reduceEq]
      exact ⟨u, k, rfl⟩
  clear k e0 e4 e5 e7
  have l3 : (E2 ++ l3S id a' b).length ≤ 3 := by
    rw [List.length_append]; unfold l3S; split <;> simp <;> omega
  rw [← List.append_assoc]
  obtain ⟨E3, hE3⟩ : ∃ E3, E2 ++ l3S id a' b = E3 := ⟨_, rfl⟩
  rw [hE3] at l3 ⊢
  clear hE3 l2
  rintro e h2 ⟨u, k, e0, e4, e5, e7⟩
  refine wpC_cut (fun e h2 => ∃ (u : Value), TS h h2 h.length (h.length + 1) (a'.c va') (b.c vb) u (E3 ++ bitsS id a'.live b.live 8) ∧ look e 0 = .int .i64 id ∧ look e 4 = .pointer (some ⟨h.length, 0, none⟩) ∧ look e 5 = .pointer (some ⟨h.length + 1, 0, none⟩) ∧ look e 7 = u) ?_ ?_
  · simp (dsimp := false) only [go_sem, Nat.reduceAdd, Nat.reduceEqDiff, Nat.reduceMul, Nat.reduceLeDiff, Nat.reduceSub, Nat.reduceLT, ↓reduceIte, reduceCtorEq, List.reduceReplicate, List.flatten_cons, List.flatten_nil, List.append_nil, eq_self, Int.reduceLE, Int.reduceLT, Int.reduceToNat, Nat.min_eq_left, Int.reducePow, Int.reduceNeg, Int.reduceEq, e0, e4, e5, e7]
    refine loopV_of (fun m e h2 => ∃ (i : Nat) (u : Value), m = 8 - i ∧ i ≤ 8 ∧ TS h h2 h.length (h.length + 1) (a'.c va') (b.c vb) u (E3 ++ bitsS id a'.live b.live i) ∧
      e = [(0, .int .i64 id), (4, .pointer (some ⟨h.length, 0, none⟩)), (5, .pointer (some ⟨h.length + 1, 0, none⟩)), (7, u), (57, .int .i64 i)]) _ ⟨0, u, rfl, Nat.zero_le _, by simpa [bitsS] using k, rfl⟩ ?_
    clear k e0 e4 e5 e7
    rintro m e h2 ⟨i, u, rfl, hi, k, rfl⟩
    have r4 : ∀ off n vs, ((a'.c va').drop off).take n = vs → off + n ≤ 7 → rds h2 h.length off n = some vs := fun off n vs q1 q2 => k.f4.rd q1 (by simpa using q2)
    have r5 : ∀ off n vs, ((b.c vb).drop off).take n = vs → off + n ≤ 7 → rds h2 (h.length + 1) off n = some vs := fun off n vs q1 q2 => k.f5.rd q1 (by simpa using q2)
    rcases Nat.lt_or_ge i 8 with hlt | hge
    · have f0 : (i : Int) < 8 := by omega
      have f1 : IntKind.i64.wrap ((i : Int) + 1) = ((i + 1 : Nat) : Int) := wrap_succ hlt (by unfold maxI; omega)
      have f2 : (0 : Int) ≤ (i : Int) := by omega
      have b1 := bit_at a'.live lA.live i hlt
      have b2 := bit_at b.live ob.live i hlt
      have hbl := bitsS_len id a'.live b.live i
      simp (dsimp := false) only [↓ir.watch_turn.l1.bw, go_sem, Nat.reduceAdd, Nat.reduceEqDiff, Nat.reduceMul, Nat.reduceLeDiff, Nat.reduceSub, Nat.reduceLT, ↓reduceIte, reduceCtorEq, List.reduceReplicate, List.flatten_cons, List.flatten_nil, List.append_nil, eq_self, Int.reduceLE, Int.reduceLT, Int.reduceToNat, Nat.min_eq_left, Int.reducePow, Int.reduceNeg, Int.reduceEq, f0, f2, decide_true, r4 5 1 [.int .u8 a'.live] rfl (by omega), r5 5 1 [.int .u8 b.live] rfl (by omega), b1, b2]
      have more : ∀ (x : EvR) (u' : Value) (h' : AHeap), bitE id i (a'.live / 2 ^ i % 2) (b.live / 2 ^ i % 2) = [x] → TS h h' h.length (h.length + 1) (a'.c va') (b.c vb) u' (E3 ++ bitsS id a'.live b.live i ++ [x]) →
          ∃ m', m' < 8 - i ∧ ∃ (j : Nat) (u'' : Value), m' = 8 - j ∧ j ≤ 8 ∧ TS h h' h.length (h.length + 1) (a'.c va') (b.c vb) u'' (E3 ++ bitsS id a'.live b.live j) ∧
            [(0, Value.int .i64 id), (4, .pointer (some ⟨h.length, 0, none⟩)), (5, .pointer (some ⟨h.length + 1, 0, none⟩)), (7, u'), (57, .int .i64 ((i + 1 : Nat) : Int))] = [(0, .int .i64 id), (4, .pointer (some ⟨h.length, 0, none⟩)), (5, .pointer (some ⟨h.length + 1, 0, none⟩)), (7, u''), (57, .int .i64 (j : Int))] := fun x u' h' q k' =>
        ⟨8 - (i + 1), by omega, i + 1, u', rfl, by omega, by rw [bitsS_succ, q, ← List.append_assoc]; exact k', rfl⟩
      refine cVd (fun c => ?_) (fun c => ?_)
      · simp (dsimp := false) only [go_sem, Nat.reduceAdd, Nat.reduceEqDiff, Nat.reduceMul, Nat.reduceLeDiff, Nat.reduceSub, Nat.reduceLT, ↓reduceIte, reduceCtorEq, List.reduceReplicate, List.flatten_cons, List.flatten_nil, List.append_nil, eq_self, Int.reduceLE, Int.reduceLT, Int.reduceToNat, Nat.min_eq_left, Int.reducePow, Int.reduceNeg, Int.reduceEq, f1]
        refine k.push ⟨4, id, 0, 0, 0, 0, i, 0, 0, 0⟩ (by rw [List.length_append]; omega) fun u' h' k' => ?_
        simp (dsimp := false) only [go_sem, Nat.reduceAdd, Nat.reduceEqDiff, Nat.reduceMul, Nat.reduceLeDiff, Nat.reduceSub, Nat.reduceLT, ↓reduceIte, reduceCtorEq, List.reduceReplicate, List.flatten_cons, List.flatten_nil, List.append_nil, eq_self, Int.reduceLE, Int.reduceLT, Int.reduceToNat, Nat.min_eq_left, Int.reducePow, Int.reduceNeg, Int.reduceEq, f1]
        exact more _ u' h' (by unfold bitE; exact if_pos (by omega)) k'
      · simp (dsimp := false) only [go_sem, Nat.reduceAdd, Nat.reduceEqDiff, Nat.reduceMul, Nat.reduceLeDiff, Nat.reduceSub, Nat.reduceLT, ↓reduceIte, reduceCtorEq, List.reduceReplicate, List.flatten_cons, List.flatten_nil, List.append_nil, eq_self, Int.reduceLE, Int.reduceLT, Int.reduceToNat, Nat.min_eq_left, Int.reducePow, Int.reduceNeg, Int.reduceEq, f1]
        refine cVd (fun c2 => ?_) (fun c2 => ?_)
        · simp (dsimp := false) only [go_sem, Nat.reduceAdd, Nat.reduceEqDiff, Nat.reduceMul, Nat.reduceLeDiff, Nat.reduceSub, Nat.reduceLT, ↓reduceIte, reduceCtorEq, List.reduceReplicate, List.flatten_cons, List.flatten_nil, List.append_nil, eq_self, Int.reduceLE, Int.reduceLT, Int.reduceToNat, Nat.min_eq_left, Int.reducePow, Int.reduceNeg, Int.reduceEq, f1]
          refine k.push ⟨5, id, 0, 0, 0, 0, i, 0, 0, 0⟩ (by rw [List.length_append]; omega) fun u' h' k' => ?_
          simp (dsimp := false) only [go_sem, Nat.reduceAdd, Nat.reduceEqDiff, Nat.reduceMul, Nat.reduceLeDiff, Nat.reduceSub, Nat.reduceLT, ↓reduceIte, reduceCtorEq, List.reduceReplicate, List.flatten_cons, List.flatten_nil, List.append_nil, eq_self, Int.reduceLE, Int.reduceLT, Int.reduceToNat, Nat.min_eq_left, Int.reducePow, Int.reduceNeg, Int.reduceEq, f1]
          exact more _ u' h' (by unfold bitE; rw [if_neg (by omega), if_pos (by omega)]) k'
        · simp (dsimp := false) only [go_sem, Nat.reduceAdd, Nat.reduceEqDiff, Nat.reduceMul, Nat.reduceLeDiff, Nat.reduceSub, Nat.reduceLT, ↓reduceIte, reduceCtorEq, List.reduceReplicate, List.flatten_cons, List.flatten_nil, List.append_nil, eq_self, Int.reduceLE, Int.reduceLT, Int.reduceToNat, Nat.min_eq_left, Int.reducePow, Int.reduceNeg, Int.reduceEq, f1]
          have q : bitE id i (a'.live / 2 ^ i % 2) (b.live / 2 ^ i % 2) = [] := by unfold bitE; rw [if_neg (by omega), if_neg (by omega)]
          exact ⟨8 - (i + 1), by omega, i + 1, u, rfl, by omega, by rw [bitsS_succ, q, List.append_nil]; exact k, rfl⟩
    · have f0 : ¬ (i : Int) < 8 := by omega
      obtain rfl : i = 8 := by omega
      simp (dsimp := false) only [↓ir.watch_turn.l1.bw, go_sem, Nat.reduceAdd, Nat.reduceEqDiff, Nat.reduceMul, Nat.reduceLeDiff, Nat.reduceSub, Nat.reduceLT, ↓reduceIte, reduceCtorEq, List.reduceReplicate, List.flatten_cons, List.flatten_nil, List.append_nil, eq_self, Int.reduceLE, Int.reduceLT, Int.reduceToNat, Nat.min_eq_left, Int.reducePow, Int.reduceNeg, Int.reduceEq, f0, decide_false]
      exact ⟨u, k, rfl⟩
  clear k e0 e4 e5 e7
  rintro e h2 ⟨u, k, e0, e4, e5, e7⟩
  have r4 : ∀ off n vs, ((a'.c va').drop off).take n = vs → off + n ≤ 7 → rds h2 h.length off n = some vs := fun off n vs q1 q2 => k.f4.rd q1 (by simpa using q2)
  have r5 : ∀ off n vs, ((b.c vb).drop off).take n = vs → off + n ≤ 7 → rds h2 (h.length + 1) off n = some vs := fun off n vs q1 q2 => k.f5.rd q1 (by simpa using q2)
  have hbl := bitsS_len id a'.live b.live 8
  have hhl := hopsS_len id a'.hops b.hops 8
  simp (dsimp := false) only [go_sem, Nat.reduceAdd, Nat.reduceEqDiff, Nat.reduceMul, Nat.reduceLeDiff, Nat.reduceSub, Nat.reduceLT, ↓reduceIte, reduceCtorEq, List.reduceReplicate, List.flatten_cons, List.flatten_nil, List.append_nil, eq_self, Int.reduceLE, Int.reduceLT, Int.reduceToNat, Nat.min_eq_left, Int.reducePow, Int.reduceNeg, Int.reduceEq, e0, e4, e5, e7, r4 6 1 [va'] rfl (by omega), r5 6 1 [vb] rfl (by omega)]
  refine callV_x (hops_spec (la.pre k.pre) (hb.pre k.pre) id) ?_
  rintro w h3 ⟨hp3, k3⟩
  simp (dsimp := false) only [go_sem, Nat.reduceAdd, Nat.reduceEqDiff, Nat.reduceMul, Nat.reduceLeDiff, Nat.reduceSub, Nat.reduceLT, ↓reduceIte, reduceCtorEq, List.reduceReplicate, List.flatten_cons, List.flatten_nil, List.append_nil, eq_self, Int.reduceLE, Int.reduceLT, Int.reduceToNat, Nat.min_eq_left, Int.reducePow, Int.reduceNeg, Int.reduceEq, k3.src]
  refine (k.ac.pre hp3).app (evs_len _) (evs_oneA _) ⟨by rw [List.length_append]; omega, by rw [List.length_append]; omega⟩ (fun u' h' ho' hc _ _ => ?_) (k.pre.trans hp3)
  simp (dsimp := false) only [go_sem, Nat.reduceAdd, Nat.reduceEqDiff, Nat.reduceMul, Nat.reduceLeDiff, Nat.reduceSub, Nat.reduceLT, ↓reduceIte, reduceCtorEq, List.reduceReplicate, List.flatten_cons, List.flatten_nil, List.append_nil, eq_self, Int.reduceLE, Int.reduceLT, Int.reduceToNat, Nat.min_eq_left, Int.reducePow, Int.reduceNeg, Int.reduceEq]
  rw [← List.append_assoc]
  refine ⟨hc.pre (k.pre.trans hp3), ?_⟩
  unfold Ac
  rw [List.length_append, List.flatMap_append]
  exact ho'
end Go.Proofs.YtoiihalnbdehkaaDoor.B
