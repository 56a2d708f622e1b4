/-
  Layer 34: views that aren't too great; what happened between two views, in the program.
-/
import Derived.Test.YtoiihalnbdehkaaDoorV7
namespace Go.Proofs.YtoiihalnbdehkaaDoor.B
open Go
set_option linter.unusedVariables false
set_option linter.unusedSimpArgs false
theorem Ls.hopP {h : AHeap} {v : Value} {l : List HopR} (hv : Ls h 3 isHR v l) {h2 : AHeap} (p : Pre h h2) {i : Nat} (hi : i < l.length) :
    rds h2 (sb v) (so v + i * 3) 1 = some [.int .i64 l[i].d] ∧ rds h2 (sb v) (so v + i * 3 + 1) 1 = some [.int .i64 l[i].n] ∧ rds h2 (sb v) (so v + i * 3 + 2) 1 = some [.int .i64 l[i].t] := by
  have q := (hv.hopAt p hi).1
  exact ⟨rds_sub (i := 0) (m := 1) q (by omega), rds_sub (i := 1) (m := 1) q (by omega), rds_sub (i := 2) (m := 1) q (by omega)⟩
/-- A table's test: some answer. -/
theorem table_some {h : AHeap} {v : Value} {l : List HopR} (hv : Ls h 3 isHR v l) : ∃ b : Bool, Spec Tryd.prog nG fn.ref22_Table [v] h (.bool b) h := by
  suffices H : SpecX Tryd.prog nG fn.ref22_Table [v] h fun v' h' => h' = h ∧ ∃ b : Bool, v' = .bool b by
    obtain ⟨v', h', hs, rfl, b, rfl⟩ := H
    exact ⟨b, hs⟩
  refine SpecX.of_body (ir.ref22_Table.spec (Nat.le_of_ble_eq_true rfl)) ?_
  simp (dsimp := false) only [↓ir.ref22_Table.bw, ir.ref22_Table.rs, go_sem, Nat.reduceAdd, Nat.reduceEqDiff, Nat.reduceMul, Nat.reduceLeDiff, Nat.reduceSub, Nat.reduceLT, ↓reduceIte, reduceCtorEq, List.reduceReplicate, List.flatten_cons, List.flatten_nil, List.append_nil, eq_self, Int.reduceLE, Int.reduceLT, Int.reduceToNat, Nat.min_eq_left, Int.reducePow, Int.reduceNeg, Int.reduceEq]
  refine loopV_of (fun m e h2 => ∃ i : Nat, m = l.length - i ∧ i ≤ l.length ∧ h2 = h ∧ e = [(0, v), (3, .int .i64 i)]) _ ⟨0, rfl, Nat.zero_le _, rfl, rfl⟩ ?_
  rintro m e h2 ⟨i, rfl, hi, rfl, rfl⟩
  rcases Nat.lt_or_ge i l.length with hlt | hge
  · obtain ⟨r0, r1, r2⟩ := hv.hopP (.refl _) hlt
    have w := wrap_succ hlt hv.le
    have fin : ∃ m', m' < l.length - i ∧ ∃ j, m' = l.length - j ∧ j ≤ l.length ∧ [(0, v), (3, Value.int .i64 ((i + 1 : Nat) : Int))] = [(0, v), (3, .int .i64 (j : Int))] := ⟨l.length - (i + 1), by omega, i + 1, rfl, hlt, rfl⟩
    by_cases hi0 : i = 0
    · have e0 : ¬ ((0 : Int) < (i : Int)) := by omega
      simp (dsimp := false) only [↓ir.ref22_Table.l1.bw, go_sem, Nat.reduceAdd, Nat.reduceEqDiff, Nat.reduceMul, Nat.reduceLeDiff, Nat.reduceSub, Nat.reduceLT, ↓reduceIte, reduceCtorEq, List.reduceReplicate, List.flatten_cons, List.flatten_nil, List.append_nil, eq_self, Int.reduceLE, Int.reduceLT, Int.reduceToNat, Nat.min_eq_left, Int.reducePow, Int.reduceNeg, Int.reduceEq, hv.lenV, hv.ixsN hlt, r0, r1, Int.ofNat_lt, hlt, decide_true]
      repeat' (first | ((first | refine cVd (fun hc => ?_) (fun hc => ?_) | refine gTd (fun hc => ?_) (fun hc => ?_) | refine gFd (fun hc => ?_) (fun hc => ?_) | refine cVe (fun hc => ?_) (fun hc => ?_) | refine gTe (fun hc => ?_) (fun hc => ?_) | refine gFe (fun hc => ?_) (fun hc => ?_) | refine cVn (fun hc => ?_) (fun hc => ?_) | refine gTn (fun hc => ?_) (fun hc => ?_) | refine gFn (fun hc => ?_) (fun hc => ?_) | refine cV (fun hc => ?_) (fun hc => ?_) | refine gT (fun hc => ?_) (fun hc => ?_) | refine gF (fun hc => ?_) (fun hc => ?_)) <;> try simp (dsimp := false) only [go_sem, Nat.reduceAdd, Nat.reduceEqDiff, Nat.reduceMul, Nat.reduceLeDiff, Nat.reduceSub, Nat.reduceLT, ↓reduceIte, reduceCtorEq, List.reduceReplicate, List.flatten_cons, List.flatten_nil, List.append_nil, eq_self, Int.reduceLE, Int.reduceLT, Int.reduceToNat, Nat.min_eq_left, Int.reducePow, Int.reduceNeg, Int.reduceEq, hv.lenV, hv.ixsN hlt, r0, r1, e0, decide_false, w]) | (with_reducible refine And.intro (by omega) ?_ <;> try simp (dsimp := false) only [go_sem, Nat.reduceAdd, Nat.reduceEqDiff, Nat.reduceMul, Nat.reduceLeDiff, Nat.reduceSub, Nat.reduceLT, ↓reduceIte, reduceCtorEq, List.reduceReplicate, List.flatten_cons, List.flatten_nil, List.append_nil, eq_self, Int.reduceLE, Int.reduceLT, Int.reduceToNat, Nat.min_eq_left, Int.reducePow, Int.reduceNeg, Int.reduceEq, hv.lenV, hv.ixsN hlt, r0, r1, e0, decide_false, w]))
      all_goals first
        | exact ⟨false, rfl⟩
        | exact fin
    · have hk : i - 1 < l.length := by omega
      obtain ⟨s0, s1, s2⟩ := hv.hopP (.refl _) hk
      have e1 : IntKind.i64.wrap ((i : Int) - 1) = ((i - 1 : Nat) : Int) := by rw [wrap_i64 (by have := hv.le; unfold maxI at this; omega)]; omega
      have e2 : (0 : Int) < (i : Int) := by omega
      simp (dsimp := false) only [↓ir.ref22_Table.l1.bw, go_sem, Nat.reduceAdd, Nat.reduceEqDiff, Nat.reduceMul, Nat.reduceLeDiff, Nat.reduceSub, Nat.reduceLT, ↓reduceIte, reduceCtorEq, List.reduceReplicate, List.flatten_cons, List.flatten_nil, List.append_nil, eq_self, Int.reduceLE, Int.reduceLT, Int.reduceToNat, Nat.min_eq_left, Int.reducePow, Int.reduceNeg, Int.reduceEq, hv.lenV, hv.ixsN hlt, r0, r1, Int.ofNat_lt, hlt, decide_true]
      repeat' (first | ((first | refine cVd (fun hc => ?_) (fun hc => ?_) | refine gTd (fun hc => ?_) (fun hc => ?_) | refine gFd (fun hc => ?_) (fun hc => ?_) | refine cVe (fun hc => ?_) (fun hc => ?_) | refine gTe (fun hc => ?_) (fun hc => ?_) | refine gFe (fun hc => ?_) (fun hc => ?_) | refine cVn (fun hc => ?_) (fun hc => ?_) | refine gTn (fun hc => ?_) (fun hc => ?_) | refine gFn (fun hc => ?_) (fun hc => ?_) | refine cV (fun hc => ?_) (fun hc => ?_) | refine gT (fun hc => ?_) (fun hc => ?_) | refine gF (fun hc => ?_) (fun hc => ?_)) <;> try simp (dsimp := false) only [go_sem, Nat.reduceAdd, Nat.reduceEqDiff, Nat.reduceMul, Nat.reduceLeDiff, Nat.reduceSub, Nat.reduceLT, ↓reduceIte, reduceCtorEq, List.reduceReplicate, List.flatten_cons, List.flatten_nil, List.append_nil, eq_self, Int.reduceLE, Int.reduceLT, Int.reduceToNat, Nat.min_eq_left, Int.reducePow, Int.reduceNeg, Int.reduceEq, hv.lenV, hv.ixsN hlt, hv.ixsN hk, r0, r1, s0, e1, e2, decide_true, w]) | (with_reducible refine And.intro (by omega) ?_ <;> try simp (dsimp := false) only [go_sem, Nat.reduceAdd, Nat.reduceEqDiff, Nat.reduceMul, Nat.reduceLeDiff, Nat.reduceSub, Nat.reduceLT, ↓reduceIte, reduceCtorEq, List.reduceReplicate, List.flatten_cons, List.flatten_nil, List.append_nil, eq_self, Int.reduceLE, Int.reduceLT, Int.reduceToNat, Nat.min_eq_left, Int.reducePow, Int.reduceNeg, Int.reduceEq, hv.lenV, hv.ixsN hlt, hv.ixsN hk, r0, r1, s0, e1, e2, decide_true, w]))
      all_goals first
        | exact ⟨false, rfl⟩
        | exact fin
  · simp (dsimp := false) only [↓ir.ref22_Table.l1.bw, go_sem, Nat.reduceAdd, Nat.reduceEqDiff, Nat.reduceMul, Nat.reduceLeDiff, Nat.reduceSub, Nat.reduceLT, ↓reduceIte, reduceCtorEq, List.reduceReplicate, List.flatten_cons, List.flatten_nil, List.append_nil, eq_self, Int.reduceLE, Int.reduceLT, Int.reduceToNat, Nat.min_eq_left, Int.reducePow, Int.reduceNeg, Int.reduceEq, hv.lenV, Int.ofNat_lt, show ¬ i < l.length by omega, decide_false]
    exact ⟨true, rfl⟩
theorem Ls.nodeAt {h : AHeap} {v : Value} {l : List NodeR} (hv : Ls h 7 (isNR h) v l) {h2 : AHeap} (p : Pre h h2) {i : Nat} (hi : i < l.length) : ∃ tv, (∀ g, rds (h2 ++ g) (sb v) (so v + i * 7) 7 = some (l[i].c tv)) ∧ rds h2 (sb v) (so v + i * 7) 7 = some (l[i].c tv) ∧ Ls h 3 isHR tv l[i].hops := by
  obtain ⟨c, _, ⟨tv, t0, t1⟩, r0, r1⟩ := hv.rd2 p hi
  subst t0
  exact ⟨tv, r1, r0, t1⟩
/-- Whether views may be: some answer. -/
theorem may_some {h : AHeap} {v : Value} {l : List NodeR} (hv : Ls h 7 (isNR h) v l) (t : Int) : ∃ b : Bool, Spec Tryd.prog nG fn.ref34_May [.agg #[.int .i64 t, v]] h (.bool b) h ∧ True := by
  refine SpecX.bool (SpecX.of_body (ir.ref34_May.spec (Nat.le_of_ble_eq_true rfl)) ?_)
  simp (dsimp := false) only [↓ir.ref34_May.bw, ir.ref34_May.rs, go_sem, Nat.reduceAdd, Nat.reduceEqDiff, Nat.reduceMul, Nat.reduceLeDiff, Nat.reduceSub, Nat.reduceLT, ↓reduceIte, reduceCtorEq, List.reduceReplicate, List.flatten_cons, List.flatten_nil, List.append_nil, eq_self, Int.reduceLE, Int.reduceLT, Int.reduceToNat, Nat.min_eq_left, Int.reducePow, Int.reduceNeg, Int.reduceEq, hv.cellsA]
  obtain ⟨hb, ehb⟩ : ∃ hb, h ++ [AObj.row Mode.fix [.int .i64 t, v]] = hb := ⟨_, rfl⟩
  have hpb : Pre h hb := ehb ▸ .app _ _
  have fv : Fx hb h.length [.int .i64 t, v] := ehb ▸ Fx.here _ _ _
  rw [ehb]
  clear ehb
  refine loopV_of (fun m e h2 => ∃ i : Nat, m = l.length - i ∧ i ≤ l.length ∧ Pre hb h2 ∧ e = [(1, .pointer (some ⟨h.length, 0, none⟩)), (3, .int .i64 i)]) _ ⟨0, rfl, Nat.zero_le _, .refl _, rfl⟩ ?_
  rintro m e h2 ⟨i, rfl, hi, hp, rfl⟩
  have rv := (fv.pre hp).rdA (off := 1) (n := 1) (vs := [v]) rfl (by simp)
  have rv0 := (fv.pre hp).rd (off := 1) (n := 1) (vs := [v]) rfl (by simp)
  have hp2 := hpb.trans hp
  rcases Nat.lt_or_ge i l.length with hlt | hge
  · obtain ⟨tv, r1, r0, lt⟩ := hv.nodeAt hp2 hlt
    have w := wrap_succ hlt hv.le
    obtain ⟨b, sb_⟩ := table_some (lt.pre (hp2.app' [AObj.row Mode.fix (l[i].c tv)]))
    have lt2 := lt
    obtain ⟨⟨up, boot, e, s, m, live, hops⟩, hx⟩ : ∃ x, l[i] = x := ⟨_, rfl⟩
    rw [hx] at r0 r1 sb_ lt2
    simp (dsimp := false) only [↓ir.ref34_May.l1.bw, go_sem, Nat.reduceAdd, Nat.reduceEqDiff, Nat.reduceMul, Nat.reduceLeDiff, Nat.reduceSub, Nat.reduceLT, ↓reduceIte, reduceCtorEq, List.reduceReplicate, List.flatten_cons, List.flatten_nil, List.append_nil, eq_self, Int.reduceLE, Int.reduceLT, Int.reduceToNat, Nat.min_eq_left, Int.reducePow, Int.reduceNeg, Int.reduceEq, rv, rv0, hv.lenV, Int.ofNat_lt, hlt, decide_true, hv.ixsN hlt, r0, r1, lt2.oneA, Bool.and_true]
    refine callV_of sb_ ?_
    have fin : ∀ g, ∃ m', m' < l.length - i ∧ ∃ j, m' = l.length - j ∧ j ≤ l.length ∧ Pre hb (h2 ++ g) ∧ [(1, Value.pointer (some ⟨h.length, 0, none⟩)), (3, .int .i64 ((i + 1 : Nat) : Int))] = [(1, .pointer (some ⟨h.length, 0, none⟩)), (3, .int .i64 (j : Int))] := fun g =>
      ⟨l.length - (i + 1), by omega, i + 1, rfl, hlt, hp.app' g, rfl⟩
    cases b
    · simp (dsimp := false) only [go_sem, Nat.reduceAdd, Nat.reduceEqDiff, Nat.reduceMul, Nat.reduceLeDiff, Nat.reduceSub, Nat.reduceLT, ↓reduceIte, reduceCtorEq, List.reduceReplicate, List.flatten_cons, List.flatten_nil, List.append_nil, eq_self, Int.reduceLE, Int.reduceLT, Int.reduceToNat, Nat.min_eq_left, Int.reducePow, Int.reduceNeg, Int.reduceEq, Bool.not_false]
      exact ⟨hp2.app' _, false, rfl⟩
    · simp (dsimp := false) only [go_sem, Nat.reduceAdd, Nat.reduceEqDiff, Nat.reduceMul, Nat.reduceLeDiff, Nat.reduceSub, Nat.reduceLT, ↓reduceIte, reduceCtorEq, List.reduceReplicate, List.flatten_cons, List.flatten_nil, List.append_nil, eq_self, Int.reduceLE, Int.reduceLT, Int.reduceToNat, Nat.min_eq_left, Int.reducePow, Int.reduceNeg, Int.reduceEq, Bool.not_true]
      repeat' ((first | refine cVd (fun hc => ?_) (fun hc => ?_) | refine gTd (fun hc => ?_) (fun hc => ?_) | refine gFd (fun hc => ?_) (fun hc => ?_) | refine cVe (fun hc => ?_) (fun hc => ?_) | refine gTe (fun hc => ?_) (fun hc => ?_) | refine gFe (fun hc => ?_) (fun hc => ?_) | refine cVn (fun hc => ?_) (fun hc => ?_) | refine gTn (fun hc => ?_) (fun hc => ?_) | refine gFn (fun hc => ?_) (fun hc => ?_) | refine cV (fun hc => ?_) (fun hc => ?_) | refine gT (fun hc => ?_) (fun hc => ?_) | refine gF (fun hc => ?_) (fun hc => ?_)) <;> try simp (dsimp := false) only [go_sem, Nat.reduceAdd, Nat.reduceEqDiff, Nat.reduceMul, Nat.reduceLeDiff, Nat.reduceSub, Nat.reduceLT, ↓reduceIte, reduceCtorEq, List.reduceReplicate, List.flatten_cons, List.flatten_nil, List.append_nil, eq_self, Int.reduceLE, Int.reduceLT, Int.reduceToNat, Nat.min_eq_left, Int.reducePow, Int.reduceNeg, Int.reduceEq, lt2.lenV, Bool.not_true, Bool.not_false, w])
      all_goals first
        | exact ⟨hp2.app' _, false, rfl⟩
        | exact fin _
  · simp (dsimp := false) only [↓ir.ref34_May.l1.bw, go_sem, Nat.reduceAdd, Nat.reduceEqDiff, Nat.reduceMul, Nat.reduceLeDiff, Nat.reduceSub, Nat.reduceLT, ↓reduceIte, reduceCtorEq, List.reduceReplicate, List.flatten_cons, List.flatten_nil, List.append_nil, eq_self, Int.reduceLE, Int.reduceLT, Int.reduceToNat, Nat.min_eq_left, Int.reducePow, Int.reduceNeg, Int.reduceEq, rv, rv0, hv.lenV, Int.ofNat_lt, show ¬ i < l.length by omega, decide_false]
    exact ⟨hp2, true, rfl⟩
theorem light_some {h : AHeap} {v : Value} {l : List NodeR} (hv : Ls h 7 (isNR h) v l) (t : Int) : ∃ b : Bool, Spec Tryd.prog nG fn.law34_light [.agg #[.int .i64 t, v]] h (.bool b) h ∧ (b = true → l.length ≤ 12) := by
  refine SpecX.bool (SpecX.of_body (ir.law34_light.spec (Nat.le_of_ble_eq_true rfl)) ?_)
  obtain ⟨b, sm, _⟩ := may_some ((hv.pre (.app h [AObj.row .fix [.int .i64 t, v]])).mono fun c x ⟨tv, e, k⟩ => ⟨tv, e, k.pre (.app _ _)⟩) t
  simp (dsimp := false) only [↓ir.law34_light.bw, ir.law34_light.rs, go_sem, Nat.reduceAdd, Nat.reduceEqDiff, Nat.reduceMul, Nat.reduceLeDiff, Nat.reduceSub, Nat.reduceLT, ↓reduceIte, reduceCtorEq, List.reduceReplicate, List.flatten_cons, List.flatten_nil, List.append_nil, eq_self, Int.reduceLE, Int.reduceLT, Int.reduceToNat, Nat.min_eq_left, Int.reducePow, Int.reduceNeg, Int.reduceEq, hv.cellsA, hv.lenV]
  refine gTd (fun c => ?_) (fun c => ?_)
  · simp (dsimp := false) only [go_sem, Nat.reduceAdd, Nat.reduceEqDiff, Nat.reduceMul, Nat.reduceLeDiff, Nat.reduceSub, Nat.reduceLT, ↓reduceIte, reduceCtorEq, List.reduceReplicate, List.flatten_cons, List.flatten_nil, List.append_nil, eq_self, Int.reduceLE, Int.reduceLT, Int.reduceToNat, Nat.min_eq_left, Int.reducePow, Int.reduceNeg, Int.reduceEq]
    refine callV_of sm ?_
    simp (dsimp := false) only [go_sem, Nat.reduceAdd, Nat.reduceEqDiff, Nat.reduceMul, Nat.reduceLeDiff, Nat.reduceSub, Nat.reduceLT, ↓reduceIte, reduceCtorEq, List.reduceReplicate, List.flatten_cons, List.flatten_nil, List.append_nil, eq_self, Int.reduceLE, Int.reduceLT, Int.reduceToNat, Nat.min_eq_left, Int.reducePow, Int.reduceNeg, Int.reduceEq]
    exact ⟨b, rfl, fun _ => by omega⟩
  · simp (dsimp := false) only [go_sem, Nat.reduceAdd, Nat.reduceEqDiff, Nat.reduceMul, Nat.reduceLeDiff, Nat.reduceSub, Nat.reduceLT, ↓reduceIte, reduceCtorEq, List.reduceReplicate, List.flatten_cons, List.flatten_nil, List.append_nil, eq_self, Int.reduceLE, Int.reduceLT, Int.reduceToNat, Nat.min_eq_left, Int.reducePow, Int.reduceNeg, Int.reduceEq]
    exact ⟨false, rfl, fun q => by cases q⟩
abbrev FitsR (l : List HopR) : Prop := l.length * 24 ≤ 140737488351232
theorem to22_spec {h : AHeap} {v : Value} {l : List HopR} (hv : Ls h 3 isHR v l) (hf : FitsR l) : SpecX Tryd.prog nG fn.law22_To [v] h fun v' h' => Pre h h' ∧ Ow h h' 3 v' l.length (l.flatMap HopR.c) := by
  refine SpecX.of_body (ir.law22_To.spec (Nat.le_of_ble_eq_true rfl)) ?_
  simp (dsimp := false) only [↓ir.law22_To.bw, ir.law22_To.rs, go_sem, Nat.reduceAdd, Nat.reduceEqDiff, Nat.reduceMul, Nat.reduceLeDiff, Nat.reduceSub, Nat.reduceLT, ↓reduceIte, reduceCtorEq, List.reduceReplicate, List.flatten_cons, List.flatten_nil, List.append_nil, eq_self, Int.reduceLE, Int.reduceLT, Int.reduceToNat, Nat.min_eq_left, Int.reducePow, Int.reduceNeg, Int.reduceEq, hv.lenV]
  refine loopV_of (fun m e h2 => ∃ (i : Nat) (a : Value), m = l.length - i ∧ i ≤ l.length ∧ Pre h h2 ∧ Ow h h2 3 a i ((l.take i).flatMap HopR.c) ∧ e = [(3, a), (6, v), (7, .int .i64 l.length), (8, .int .i64 i)]) _
    ⟨0, _, rfl, Nat.zero_le _, .refl _, .nil, rfl⟩ ?_
  rintro m e h2 ⟨i, a, rfl, hi, hp, ho, rfl⟩
  rcases Nat.lt_or_ge i l.length with hlt | hge
  · obtain ⟨c, hc, hc2, r0, r1⟩ := hv.rd2 hp hlt
    subst hc2
    simp (dsimp := false) only [↓ir.law22_To.l1.bw, go_sem, Nat.reduceAdd, Nat.reduceEqDiff, Nat.reduceMul, Nat.reduceLeDiff, Nat.reduceSub, Nat.reduceLT, ↓reduceIte, reduceCtorEq, List.reduceReplicate, List.flatten_cons, List.flatten_nil, List.append_nil, eq_self, Int.reduceLE, Int.reduceLT, Int.reduceToNat, Nat.min_eq_left, Int.reducePow, Int.reduceNeg, Int.reduceEq, hv.lenV, hv.ixsN hlt, r0, r1, Int.ofNat_lt, hlt, decide_true, wrap_succ hlt hv.le]
    refine (ho.pre (.app _ _)).app rfl rfl ⟨by unfold FitsR at hf; omega, by unfold FitsR at hf; omega⟩ (fun a' h' ho' hb _ _ => ?_) (hp.app' _)
    simp (dsimp := false) only [go_sem, Nat.reduceAdd, Nat.reduceEqDiff, Nat.reduceMul, Nat.reduceLeDiff, Nat.reduceSub, Nat.reduceLT, ↓reduceIte, reduceCtorEq, List.reduceReplicate, List.flatten_cons, List.flatten_nil, List.append_nil, eq_self, Int.reduceLE, Int.reduceLT, Int.reduceToNat, Nat.min_eq_left, Int.reducePow, Int.reduceNeg, Int.reduceEq, wrap_succ hlt hv.le]
    refine ⟨l.length - (i + 1), by omega, i + 1, a', rfl, hlt, hb.pre (hp.app' _), ?_, rfl⟩
    rw [List.take_succ_eq_append_getElem hlt, List.flatMap_append]
    simpa using ho'
  · simp (dsimp := false) only [↓ir.law22_To.l1.bw, go_sem, Nat.reduceAdd, Nat.reduceEqDiff, Nat.reduceMul, Nat.reduceLeDiff, Nat.reduceSub, Nat.reduceLT, ↓reduceIte, reduceCtorEq, List.reduceReplicate, List.flatten_cons, List.flatten_nil, List.append_nil, eq_self, Int.reduceLE, Int.reduceLT, Int.reduceToNat, Nat.min_eq_left, Int.reducePow, Int.reduceNeg, Int.reduceEq, hv.lenV, Int.ofNat_lt, show ¬ i < l.length by omega, decide_false]
    obtain rfl : i = l.length := by omega
    rw [List.take_of_length_le (Nat.le_refl _)] at ho
    exact ⟨hp, ho⟩
theorem Ow.hopsR {h0 h : AHeap} {v : Value} {l : List HopR} (k : Ow h0 h 3 v l.length (l.flatMap HopR.c)) : Ls h 3 isHR v l := k.sl.ls (fun _ => rfl) rfl
abbrev OwNd (h0 h : AHeap) (u : Value) (T : List NodeR) : Prop := OwE h0 h 7 3 NodeR.c NodeR.hops isHR u T
/-- A view as the program's. -/
theorem to34_spec {h : AHeap} {v : Value} {l : List NodeR} (hv : Ls h 7 (isNR h) v l) (hl : l.length ≤ 12) (hf : ∀ x ∈ l, FitsR x.hops) (t : Int) : SpecX Tryd.prog nG fn.law34_to [.agg #[.int .i64 t, v]] h fun v' h' => Pre h h' ∧ ∃ u, v' = .agg #[.int .i64 t, u] ∧ Ls h' 7 (isNR h') u l := by
  refine SpecX.of_body (ir.law34_to.spec (Nat.le_of_ble_eq_true rfl)) ?_
  simp (dsimp := false) only [↓ir.law34_to.bw, ir.law34_to.rs, go_sem, Nat.reduceAdd, Nat.reduceEqDiff, Nat.reduceMul, Nat.reduceLeDiff, Nat.reduceSub, Nat.reduceLT, ↓reduceIte, reduceCtorEq, List.reduceReplicate, List.flatten_cons, List.flatten_nil, List.append_nil, eq_self, Int.reduceLE, Int.reduceLT, Int.reduceToNat, Nat.min_eq_left, Int.reducePow, Int.reduceNeg, Int.reduceEq, hv.cellsA, hv.lenV]
  obtain ⟨hb, ehb⟩ : ∃ hb, h ++ [AObj.row Mode.fix [.int .i64 t, v]] = hb := ⟨_, rfl⟩
  have hpb : Pre h hb := ehb ▸ .app _ _
  have hbl : hb.length = h.length + 1 := by rw [← ehb]; simp
  obtain ⟨h1, eh1⟩ : ∃ h1, h ++ [AObj.row Mode.fix [.int .i64 t, v], AObj.row Mode.fix [.int .i64 0, nilS], AObj.row Mode.fix [.int .i64 t, nilS]] = h1 := ⟨_, rfl⟩
  have hp1 : Pre hb h1 := ⟨[AObj.row Mode.fix [.int .i64 0, nilS], AObj.row Mode.fix [.int .i64 t, nilS]], by rw [← ehb, ← eh1]; simp⟩
  have f2 : Fx h1 (h.length + 1) [.int .i64 0, nilS] := by rw [← eh1]; simp [Fx]
  have f3 : Fx h1 (h.length + 2) [.int .i64 t, nilS] := by rw [← eh1]; simp [Fx]
  rw [eh1]
  clear eh1 ehb
  refine loopV_of (fun m e h2 => ∃ (i : Nat) (u : Value), m = l.length - i ∧ i ≤ l.length ∧ Pre hb h2 ∧ Fx h2 (h.length + 1) [.int .i64 0, nilS] ∧ Fx h2 (h.length + 2) [.int .i64 t, u] ∧ OwNd hb h2 u (l.take i) ∧
    e = [(2, .pointer (some ⟨h.length + 1, 0, none⟩)), (3, .pointer (some ⟨h.length + 2, 0, none⟩)), (10, v), (11, .int .i64 l.length), (12, .int .i64 i)]) _ ⟨0, nilS, rfl, Nat.zero_le _, hp1, f2, f3, .nil, rfl⟩ ?_
  clear hp1 f2 f3
  rintro m e h2 ⟨i, u, rfl, hi, hp, f2, f3, ho, rfl⟩
  rcases Nat.lt_or_ge i l.length with hlt | hge
  · obtain ⟨tv, r1, r0, lt⟩ := hv.nodeAt (hpb.trans hp) hlt
    have w := wrap_succ hlt hv.le
    have hfi := hf l[i] (List.getElem_mem hlt)
    have hlen : (l.take i ++ [l[i]]).length ≤ 12 := by simp; omega
    obtain ⟨⟨up, boot, e, s, m, live, hops⟩, hx⟩ : ∃ x, l[i] = x := ⟨_, rfl⟩
    have ht : l.take (i + 1) = l.take i ++ [⟨up, boot, e, s, m, live, hops⟩] := by rw [List.take_succ_eq_append_getElem hlt, hx]
    rw [hx] at r0 r1 lt hfi hlen
    have r3 := f3.rdA (off := 1) (n := 1) (vs := [u]) rfl (by simp)
    simp (dsimp := false) only [↓ir.law34_to.l1.bw, go_sem, Nat.reduceAdd, Nat.reduceEqDiff, Nat.reduceMul, Nat.reduceLeDiff, Nat.reduceSub, Nat.reduceLT, ↓reduceIte, reduceCtorEq, List.reduceReplicate, List.flatten_cons, List.flatten_nil, List.append_nil, eq_self, Int.reduceLE, Int.reduceLT, Int.reduceToNat, Nat.min_eq_left, Int.reducePow, Int.reduceNeg, Int.reduceEq, Int.ofNat_lt, hlt, decide_true, hv.ixsN hlt, r0, r1, r3, lt.oneA, Bool.and_true]
    refine callV_of (to01_spec _ _ _ _) ?_
    simp (dsimp := false) only [go_sem, Nat.reduceAdd, Nat.reduceEqDiff, Nat.reduceMul, Nat.reduceLeDiff, Nat.reduceSub, Nat.reduceLT, ↓reduceIte, reduceCtorEq, List.reduceReplicate, List.flatten_cons, List.flatten_nil, List.append_nil, eq_self, Int.reduceLE, Int.reduceLT, Int.reduceToNat, Nat.min_eq_left, Int.reducePow, Int.reduceNeg, Int.reduceEq]
    refine callV_x (to22_spec (lt.pre ((hpb.trans hp).app' _)) hfi) ?_
    rintro tv2 h3 ⟨hp3, o3⟩
    have r3' := (f3.app _).pre hp3 |>.rdA (off := 1) (n := 1) (vs := [u]) rfl (by simp)
    simp (dsimp := false) only [go_sem, Nat.reduceAdd, Nat.reduceEqDiff, Nat.reduceMul, Nat.reduceLeDiff, Nat.reduceSub, Nat.reduceLT, ↓reduceIte, reduceCtorEq, List.reduceReplicate, List.flatten_cons, List.flatten_nil, List.append_nil, eq_self, Int.reduceLE, Int.reduceLT, Int.reduceToNat, Nat.min_eq_left, Int.reducePow, Int.reduceNeg, Int.reduceEq, o3.hopsR.cellsA, o3.hopsR.oneA, Bool.and_true]
    refine ⟨hp3, ?_⟩
    have hp4 : Pre h2 (h3 ++ [AObj.row (Mode.grow 7) (NodeR.c ⟨up, boot, e, s, m, live, hops⟩ tv2)]) := ((Pre.app _ _).trans hp3).app' _
    refine OwE.snoc (t := ⟨up, boot, e, s, m, live, hops⟩) ho hp hp4 (fun _ _ => rfl) (o3.pre (.app _ _)) (by simp) (o3.hopsR.pre (.app _ _)) (by simp only [NodeR.c, List.all_cons, List.all_nil, o3.hopsR.oneA, Bool.and_true]; rfl) ⟨by simp; omega, by simp; omega⟩ fun u' h' ho' hp' hc => ?_
    have g2 := (f2.pre hp4).chg hc (ho.nfix f2)
    have g3 := (f3.pre hp4).chg hc (ho.nfix f3)
    have wr : wrs h' (h.length + 2) 1 [u'] = some (h'.set (h.length + 2) (.row .fix [.int .i64 t, u'])) := by rw [g3.wr (by simp)]; rfl
    have l' := ho'.ls
    simp (dsimp := false) only [go_sem, Nat.reduceAdd, Nat.reduceEqDiff, Nat.reduceMul, Nat.reduceLeDiff, Nat.reduceSub, Nat.reduceLT, ↓reduceIte, reduceCtorEq, List.reduceReplicate, List.flatten_cons, List.flatten_nil, List.append_nil, eq_self, Int.reduceLE, Int.reduceLT, Int.reduceToNat, Nat.min_eq_left, Int.reducePow, Int.reduceNeg, Int.reduceEq, l'.cellsA, l'.oneA, Bool.and_true, wr, w]
    refine ⟨l.length - (i + 1), by omega, i + 1, u', rfl, hlt, hp'.put (by omega) _, g2.other (by omega) _, g3.set _, ?_, rfl⟩
    rw [ht]
    exact ho'.put g3 _
  · obtain rfl : i = l.length := by omega
    rw [List.take_of_length_le (Nat.le_refl _)] at ho
    have r3 := f3.rd (off := 0) (n := 2) (vs := [.int .i64 t, u]) rfl (by simp)
    have wr : wrs h2 (h.length + 1) 0 [.int .i64 t, u] = some (h2.set (h.length + 1) (.row .fix [.int .i64 t, u])) := by rw [f2.wr (by simp)]; rfl
    have rr := (f2.set [.int .i64 t, u]).rd (off := 0) (n := 2) (vs := [.int .i64 t, u]) rfl (by simp)
    simp (dsimp := false) only [↓ir.law34_to.l1.bw, go_sem, Nat.reduceAdd, Nat.reduceEqDiff, Nat.reduceMul, Nat.reduceLeDiff, Nat.reduceSub, Nat.reduceLT, ↓reduceIte, reduceCtorEq, List.reduceReplicate, List.flatten_cons, List.flatten_nil, List.append_nil, eq_self, Int.reduceLE, Int.reduceLT, Int.reduceToNat, Nat.min_eq_left, Int.reducePow, Int.reduceNeg, Int.reduceEq, Int.ofNat_lt, show ¬ l.length < l.length by omega, decide_false, r3, wr, ho.ls.oneA, Bool.and_true, rr]
    refine ⟨(hpb.trans hp).put (by omega) _, u, rfl, ?_⟩
    exact (ho.put f2 _).ls
end Go.Proofs.YtoiihalnbdehkaaDoor.B
