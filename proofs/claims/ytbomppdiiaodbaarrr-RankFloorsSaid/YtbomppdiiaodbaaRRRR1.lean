/-
  Layer 1 (rank) over the abstract heap: floors.
-/
import Derived.Test.YtbomppdiiaodbaaRRRRk
import Derived.Test.YtbomppdiiaodbaaRRRArF
import Derived.Test.YtbomppdiiaodbaaRRRArK
namespace Go.Proofs.YtbomppdiiaodbaaRRR.B
open Go
set_option linter.unusedVariables false
set_option linter.unusedSimpArgs false

abbrev isKV (v : Value) : Prop := ∃ e s m, v = keyV e s m
theorem cellsA_map (r : Option Nat) : cellsA (.map r) = some [.map r] := rfl
/-- Floors: a struct that holds a map. -/
structure FloorsV (h : AHeap) (fp mb : Nat) (kc : List (Int × Value)) : Prop where
  f : Fx h fp [.map (some mb)]
  m : h[mb]? = some (.map true (encM kc))
  k : AllM isKV kc
theorem FloorsV.pre {h h' : AHeap} {fp mb : Nat} {kc : List (Int × Value)} (p : Pre h h') (k : FloorsV h fp mb kc) : FloorsV h' fp mb kc := ⟨k.f.pre p, by rw [p.get (List.getElem?_eq_some_iff.1 k.m).1]; exact k.m, k.k⟩
def gotV (o : Option Value) : Value := .tuple #[o.getD (keyV 0 0 0), .bool o.isSome]

theorem get_spec {h : AHeap} {fp mb : Nat} {kc : List (Int × Value)} (F : FloorsV h fp mb kc) (d : Int) : SpecX Try.prog nG fn.rank_Floors_Get [.pointer (some ⟨fp, 0, none⟩), .int .i64 d] h fun v' h' => Pre h h' ∧ v' = gotV (getM d kc) := by
  refine SpecX.of_body (ir.rank_Floors_Get.spec (Nat.le_of_ble_eq_true rfl)) ?_
  have r0 := F.f.rdA (off := 0) (n := 1) (vs := [.map (some mb)]) rfl (Nat.le_of_ble_eq_true rfl)
  have e0 : ∀ g, mapEs (h ++ g) (.map (some mb)) = some (encM kc) := fun g => mapEs_at (F.pre (.app h g)).m
  cases hg : getM d kc with
  | none =>
    simp (dsimp := false) only [↓ir.rank_Floors_Get.bw, ir.rank_Floors_Get.rs, go_sem, Nat.reduceAdd, Nat.reduceEqDiff, Nat.reduceMul, Nat.reduceLeDiff, Nat.reduceSub, Nat.reduceLT, ↓reduceIte, reduceCtorEq, List.reduceReplicate, List.flatten_cons, List.flatten_nil, List.append_nil, eq_self, Int.reduceLE, Int.reduceLT, Int.reduceToNat, Nat.min_eq_left, Int.reducePow, Int.reduceNeg, Int.reduceEq, r0, e0, lookupV, findV_enc, hg, lookV, Option.getD_none, Option.isSome_none]
    rfl
  | some v =>
    obtain ⟨e, s, m, rfl⟩ := F.k.get hg
    simp (dsimp := false) only [↓ir.rank_Floors_Get.bw, ir.rank_Floors_Get.rs, go_sem, Nat.reduceAdd, Nat.reduceEqDiff, Nat.reduceMul, Nat.reduceLeDiff, Nat.reduceSub, Nat.reduceLT, ↓reduceIte, reduceCtorEq, List.reduceReplicate, List.flatten_cons, List.flatten_nil, List.append_nil, eq_self, Int.reduceLE, Int.reduceLT, Int.reduceToNat, Nat.min_eq_left, Int.reducePow, Int.reduceNeg, Int.reduceEq, r0, e0, lookupV, findV_enc, hg, lookV, Option.getD_some, Option.isSome_some]
    rfl

theorem getnil_spec {h : AHeap} (d : Int) : SpecX Try.prog nG fn.rank_Floors_Get [.pointer none, .int .i64 d] h fun v' h' => Pre h h' ∧ v' = gotV none := by
  refine SpecX.of_body (ir.rank_Floors_Get.spec (Nat.le_of_ble_eq_true rfl)) ?_
  simp (dsimp := false) only [↓ir.rank_Floors_Get.bw, ir.rank_Floors_Get.rs, go_sem, Nat.reduceAdd, Nat.reduceEqDiff, Nat.reduceMul, Nat.reduceLeDiff, Nat.reduceSub, Nat.reduceLT, ↓reduceIte, reduceCtorEq, List.reduceReplicate, List.flatten_cons, List.flatten_nil, List.append_nil, eq_self, Int.reduceLE, Int.reduceLT, Int.reduceToNat, Nat.min_eq_left, Int.reducePow, Int.reduceNeg, Int.reduceEq]
  rfl

/-- May a key stand? -/
def mayB (e s m : Int) : Option Value → Bool
  | some (.agg ⟨[.int .u32 e', .int .u32 s', .int .i64 m']⟩) => decide (0 ≤ cmpK e s m e' s' m')
  | _ => true
theorem may_spec {h : AHeap} {fp mb : Nat} {kc : List (Int × Value)} (F : FloorsV h fp mb kc) (d e s m : Int) : SpecX Try.prog nG fn.rank_Floors_May [.pointer (some ⟨fp, 0, none⟩), .int .i64 d, keyV e s m] h fun v' h' => Pre h h' ∧ v' = .bool (mayB e s m (getM d kc)) := by
  refine SpecX.of_body (ir.rank_Floors_May.spec (Nat.le_of_ble_eq_true rfl)) ?_
  simp (dsimp := false) only [↓ir.rank_Floors_May.bw, ir.rank_Floors_May.rs, go_sem, Nat.reduceAdd, Nat.reduceEqDiff, Nat.reduceMul, Nat.reduceLeDiff, Nat.reduceSub, Nat.reduceLT, ↓reduceIte, reduceCtorEq, List.reduceReplicate, List.flatten_cons, List.flatten_nil, List.append_nil, eq_self, Int.reduceLE, Int.reduceLT, Int.reduceToNat, Nat.min_eq_left, Int.reducePow, Int.reduceNeg, Int.reduceEq]
  refine callV_x (get_spec (F.pre (.app _ _)) d) ?_
  rintro _ h1 ⟨hp1, rfl⟩
  have y := (Fx.here h [.int .u32 e, .int .u32 s, .int .i64 m] []).pre hp1
  have p1 := (Pre.app h [.row .fix [.int .u32 e, .int .u32 s, .int .i64 m]]).trans hp1
  cases hg : getM d kc with
  | none =>
    simp (dsimp := false) only [go_sem, Nat.reduceAdd, Nat.reduceEqDiff, Nat.reduceMul, Nat.reduceLeDiff, Nat.reduceSub, Nat.reduceLT, ↓reduceIte, reduceCtorEq, List.reduceReplicate, List.flatten_cons, List.flatten_nil, List.append_nil, eq_self, Int.reduceLE, Int.reduceLT, Int.reduceToNat, Nat.min_eq_left, Int.reducePow, Int.reduceNeg, Int.reduceEq, gotV, Option.getD_none, Option.isSome_none, Bool.not_false]
    exact ⟨p1.app' _, rfl⟩
  | some v =>
    obtain ⟨e', s', m', rfl⟩ := F.k.get hg
    simp (dsimp := false) only [go_sem, Nat.reduceAdd, Nat.reduceEqDiff, Nat.reduceMul, Nat.reduceLeDiff, Nat.reduceSub, Nat.reduceLT, ↓reduceIte, reduceCtorEq, List.reduceReplicate, List.flatten_cons, List.flatten_nil, List.append_nil, eq_self, Int.reduceLE, Int.reduceLT, Int.reduceToNat, Nat.min_eq_left, Int.reducePow, Int.reduceNeg, Int.reduceEq, gotV, Option.getD_some, Option.isSome_some, Bool.not_true, y.rdA (off := 0) (n := 3) (vs := [.int .u32 e, .int .u32 s, .int .i64 m]) rfl (Nat.le_of_ble_eq_true rfl)]
    refine callV_of (compare_spec _ e s m e' s' m') ?_
    simp (dsimp := false) only [go_sem, Nat.reduceAdd, Nat.reduceEqDiff, Nat.reduceMul, Nat.reduceLeDiff, Nat.reduceSub, Nat.reduceLT, ↓reduceIte, reduceCtorEq, List.reduceReplicate, List.flatten_cons, List.flatten_nil, List.append_nil, eq_self, Int.reduceLE, Int.reduceLT, Int.reduceToNat, Nat.min_eq_left, Int.reducePow, Int.reduceNeg, Int.reduceEq]
    exact ⟨p1.app' _, rfl⟩
theorem maynil_spec {h : AHeap} (d e s m : Int) : SpecX Try.prog nG fn.rank_Floors_May [.pointer none, .int .i64 d, keyV e s m] h fun v' h' => Pre h h' ∧ v' = .bool true := by
  refine SpecX.of_body (ir.rank_Floors_May.spec (Nat.le_of_ble_eq_true rfl)) ?_
  simp (dsimp := false) only [↓ir.rank_Floors_May.bw, ir.rank_Floors_May.rs, go_sem, Nat.reduceAdd, Nat.reduceEqDiff, Nat.reduceMul, Nat.reduceLeDiff, Nat.reduceSub, Nat.reduceLT, ↓reduceIte, reduceCtorEq, List.reduceReplicate, List.flatten_cons, List.flatten_nil, List.append_nil, eq_self, Int.reduceLE, Int.reduceLT, Int.reduceToNat, Nat.min_eq_left, Int.reducePow, Int.reduceNeg, Int.reduceEq]
  refine callV_x (getnil_spec d) ?_
  rintro _ h1 ⟨hp1, rfl⟩
  have p1 := (Pre.app h [.row .fix [.int .u32 e, .int .u32 s, .int .i64 m]]).trans hp1
  simp (dsimp := false) only [go_sem, Nat.reduceAdd, Nat.reduceEqDiff, Nat.reduceMul, Nat.reduceLeDiff, Nat.reduceSub, Nat.reduceLT, ↓reduceIte, reduceCtorEq, List.reduceReplicate, List.flatten_cons, List.flatten_nil, List.append_nil, eq_self, Int.reduceLE, Int.reduceLT, Int.reduceToNat, Nat.min_eq_left, Int.reducePow, Int.reduceNeg, Int.reduceEq, gotV, Option.getD_none, Option.isSome_none, Bool.not_false]
  exact p1.app' _
theorem new_spec {h : AHeap} : SpecX Try.prog nG fn.rank_New [] h fun v' h' => Pre h h' ∧ ∃ fp mb, v' = .pointer (some ⟨fp, 0, none⟩) ∧ FloorsV h' fp mb [] ∧ h.length ≤ fp ∧ h.length ≤ mb ∧ mb < h'.length ∧ fp < h'.length := by
  refine SpecX.of_body (ir.rank_New.spec (Nat.le_of_ble_eq_true rfl)) ?_
  simp (dsimp := false) only [↓ir.rank_New.bw, ir.rank_New.rs, go_sem, Nat.reduceAdd, Nat.reduceEqDiff, Nat.reduceMul, Nat.reduceLeDiff, Nat.reduceSub, Nat.reduceLT, ↓reduceIte, reduceCtorEq, List.reduceReplicate, List.flatten_cons, List.flatten_nil, List.append_nil, eq_self, Int.reduceLE, Int.reduceLT, Int.reduceToNat, Nat.min_eq_left, Int.reducePow, Int.reduceNeg, Int.reduceEq, cellsA_map]
  exact ⟨h.length + 1, h.length, rfl, ⟨by simp [Fx], by simp [encM], fun p hp => by cases hp⟩, by omega, by omega, by omega, by omega⟩

/-- What a raise answers, and what is there then. -/
def raiseF (e s m d : Int) (kc : List (Int × Value)) : Bool × Int × List (Int × Value) :=
  if d < 0 ∨ 8 ≤ d ∨ rightB e s m = false then (false, 1, kc) else
    match getM d kc with
    | some (.agg ⟨[.int .u32 e', .int .u32 s', .int .i64 m']⟩) => if cmpK e s m e' s' m' ≤ 0 then (false, 0, kc) else (true, 0, putM d (keyV e s m) kc)
    | _ => (true, 0, putM d (keyV e s m) kc)
theorem raisenil_spec {h : AHeap} (d e s m : Int) : SpecX Try.prog nG fn.rank_Floors_Raise [.pointer none, .int .i64 d, keyV e s m] h fun v' h' => Pre h h' ∧ v' = .tuple #[.bool false, .int .i64 2] := by
  refine SpecX.of_body (ir.rank_Floors_Raise.spec (Nat.le_of_ble_eq_true rfl)) ?_
  simp (dsimp := false) only [↓ir.rank_Floors_Raise.bw, ir.rank_Floors_Raise.rs, go_sem, Nat.reduceAdd, Nat.reduceEqDiff, Nat.reduceMul, Nat.reduceLeDiff, Nat.reduceSub, Nat.reduceLT, ↓reduceIte, reduceCtorEq, List.reduceReplicate, List.flatten_cons, List.flatten_nil, List.append_nil, eq_self, Int.reduceLE, Int.reduceLT, Int.reduceToNat, Nat.min_eq_left, Int.reducePow, Int.reduceNeg, Int.reduceEq]
theorem raise_spec {h : AHeap} {fp mb : Nat} {kc : List (Int × Value)} (F : FloorsV h fp mb kc) (d e s m : Int) : SpecX Try.prog nG fn.rank_Floors_Raise [.pointer (some ⟨fp, 0, none⟩), .int .i64 d, keyV e s m] h fun v' h' =>
    ∃ up er kc', (up, er, kc') = raiseF e s m d kc ∧ v' = .tuple #[.bool up, .int .i64 er] ∧ Pre (h.set mb (.map true (encM kc'))) h' := by
  refine SpecX.of_body (ir.rank_Floors_Raise.spec (Nat.le_of_ble_eq_true rfl)) ?_
  have same : h.set mb (.map true (encM kc)) = h := by
    apply List.ext_getElem?
    intro i
    rw [List.getElem?_set]
    split
    · rename_i q; subst q
      rw [if_pos (List.getElem?_eq_some_iff.1 F.m).1, F.m]
    · rfl
  have bad : (d < 0 ∨ 8 ≤ d ∨ rightB e s m = false) → ∀ h', Pre h h' → ∃ up er kc', (up, er, kc') = raiseF e s m d kc ∧ (Value.tuple #[.bool false, .int .i64 1]) = .tuple #[.bool up, .int .i64 er] ∧ Pre (h.set mb (.map true (encM kc'))) h' := fun q h' p =>
    ⟨false, 1, kc, by rw [raiseF, if_pos q], rfl, by rw [same]; exact p⟩
  simp (dsimp := false) only [↓ir.rank_Floors_Raise.bw, ir.rank_Floors_Raise.rs, go_sem, Nat.reduceAdd, Nat.reduceEqDiff, Nat.reduceMul, Nat.reduceLeDiff, Nat.reduceSub, Nat.reduceLT, ↓reduceIte, reduceCtorEq, List.reduceReplicate, List.flatten_cons, List.flatten_nil, List.append_nil, eq_self, Int.reduceLE, Int.reduceLT, Int.reduceToNat, Nat.min_eq_left, Int.reducePow, Int.reduceNeg, Int.reduceEq]
  refine gFd (fun c1 => ?_) (fun c1 => ?_)
  · simp (dsimp := false) only [go_sem, Nat.reduceAdd, Nat.reduceEqDiff, Nat.reduceMul, Nat.reduceLeDiff, Nat.reduceSub, Nat.reduceLT, ↓reduceIte, reduceCtorEq, List.reduceReplicate, List.flatten_cons, List.flatten_nil, List.append_nil, eq_self, Int.reduceLE, Int.reduceLT, Int.reduceToNat, Nat.min_eq_left, Int.reducePow, Int.reduceNeg, Int.reduceEq]
    exact bad (.inl c1) _ (.app _ _)
  simp (dsimp := false) only [go_sem, Nat.reduceAdd, Nat.reduceEqDiff, Nat.reduceMul, Nat.reduceLeDiff, Nat.reduceSub, Nat.reduceLT, ↓reduceIte, reduceCtorEq, List.reduceReplicate, List.flatten_cons, List.flatten_nil, List.append_nil, eq_self, Int.reduceLE, Int.reduceLT, Int.reduceToNat, Nat.min_eq_left, Int.reducePow, Int.reduceNeg, Int.reduceEq]
  refine gFd (fun c2 => ?_) (fun c2 => ?_)
  · simp (dsimp := false) only [go_sem, Nat.reduceAdd, Nat.reduceEqDiff, Nat.reduceMul, Nat.reduceLeDiff, Nat.reduceSub, Nat.reduceLT, ↓reduceIte, reduceCtorEq, List.reduceReplicate, List.flatten_cons, List.flatten_nil, List.append_nil, eq_self, Int.reduceLE, Int.reduceLT, Int.reduceToNat, Nat.min_eq_left, Int.reducePow, Int.reduceNeg, Int.reduceEq]
    exact bad (.inr (.inl c2)) _ (.app _ _)
  simp (dsimp := false) only [go_sem, Nat.reduceAdd, Nat.reduceEqDiff, Nat.reduceMul, Nat.reduceLeDiff, Nat.reduceSub, Nat.reduceLT, ↓reduceIte, reduceCtorEq, List.reduceReplicate, List.flatten_cons, List.flatten_nil, List.append_nil, eq_self, Int.reduceLE, Int.reduceLT, Int.reduceToNat, Nat.min_eq_left, Int.reducePow, Int.reduceNeg, Int.reduceEq]
  refine callV_of (right_spec _ e s m) ?_
  simp (dsimp := false) only [go_sem, Nat.reduceAdd, Nat.reduceEqDiff, Nat.reduceMul, Nat.reduceLeDiff, Nat.reduceSub, Nat.reduceLT, ↓reduceIte, reduceCtorEq, List.reduceReplicate, List.flatten_cons, List.flatten_nil, List.append_nil, eq_self, Int.reduceLE, Int.reduceLT, Int.reduceToNat, Nat.min_eq_left, Int.reducePow, Int.reduceNeg, Int.reduceEq]
  cases c3 : rightB e s m
  · simp (dsimp := false) only [go_sem, Nat.reduceAdd, Nat.reduceEqDiff, Nat.reduceMul, Nat.reduceLeDiff, Nat.reduceSub, Nat.reduceLT, ↓reduceIte, reduceCtorEq, List.reduceReplicate, List.flatten_cons, List.flatten_nil, List.append_nil, eq_self, Int.reduceLE, Int.reduceLT, Int.reduceToNat, Nat.min_eq_left, Int.reducePow, Int.reduceNeg, Int.reduceEq, Bool.not_false]
    exact bad (.inr (.inr c3)) _ (.app _ _)
  clear bad
  have r0 := F.f.rdA (off := 0) (n := 1) (vs := [.map (some mb)]) rfl (Nat.le_of_ble_eq_true rfl)
  have e0 : ∀ g, mapEs (h ++ g) (.map (some mb)) = some (encM kc) := fun g => mapEs_at (F.pre (.app h g)).m
  have e1 : ∀ g, (h ++ g)[mb]? = some (.map true (encM kc)) := fun g => (F.pre (.app h g)).m
  have hF : raiseF e s m d kc = (match getM d kc with
    | some (.agg ⟨[.int .u32 e', .int .u32 s', .int .i64 m']⟩) => if cmpK e s m e' s' m' ≤ 0 then (false, 0, kc) else (true, 0, putM d (keyV e s m) kc)
    | _ => (true, 0, putM d (keyV e s m) kc)) := by rw [raiseF, if_neg (by simp [c3]; omega)]
  rw [hF]
  have hml := (List.getElem?_eq_some_iff.1 F.m).1
  cases hg : getM d kc with
  | none =>
    simp (dsimp := false) only [go_sem, Nat.reduceAdd, Nat.reduceEqDiff, Nat.reduceMul, Nat.reduceLeDiff, Nat.reduceSub, Nat.reduceLT, ↓reduceIte, reduceCtorEq, List.reduceReplicate, List.flatten_cons, List.flatten_nil, List.append_nil, eq_self, Int.reduceLE, Int.reduceLT, Int.reduceToNat, Nat.min_eq_left, Int.reducePow, Int.reduceNeg, Int.reduceEq, Bool.not_true, r0, e0, lookupV, findV_enc, hg, lookV, Option.getD_none, Option.isSome_none, mapAt_at (e1 _), setEs_enc]
    exact ⟨true, 0, _, rfl, rfl, by rw [List.set_append, if_pos hml]; exact .app _ _⟩
  | some v =>
    obtain ⟨e', s', m', rfl⟩ := F.k.get hg
    simp (dsimp := false) only [go_sem, Nat.reduceAdd, Nat.reduceEqDiff, Nat.reduceMul, Nat.reduceLeDiff, Nat.reduceSub, Nat.reduceLT, ↓reduceIte, reduceCtorEq, List.reduceReplicate, List.flatten_cons, List.flatten_nil, List.append_nil, eq_self, Int.reduceLE, Int.reduceLT, Int.reduceToNat, Nat.min_eq_left, Int.reducePow, Int.reduceNeg, Int.reduceEq, Bool.not_true, r0, e0, lookupV, findV_enc, hg, lookV, Option.getD_some, Option.isSome_some]
    refine callV_of (compare_spec _ e s m e' s' m') ?_
    simp (dsimp := false) only [go_sem, Nat.reduceAdd, Nat.reduceEqDiff, Nat.reduceMul, Nat.reduceLeDiff, Nat.reduceSub, Nat.reduceLT, ↓reduceIte, reduceCtorEq, List.reduceReplicate, List.flatten_cons, List.flatten_nil, List.append_nil, eq_self, Int.reduceLE, Int.reduceLT, Int.reduceToNat, Nat.min_eq_left, Int.reducePow, Int.reduceNeg, Int.reduceEq]
    refine cVd (fun c4 => ?_) (fun c4 => ?_)
    · simp (dsimp := false) only [go_sem, Nat.reduceAdd, Nat.reduceEqDiff, Nat.reduceMul, Nat.reduceLeDiff, Nat.reduceSub, Nat.reduceLT, ↓reduceIte, reduceCtorEq, List.reduceReplicate, List.flatten_cons, List.flatten_nil, List.append_nil, eq_self, Int.reduceLE, Int.reduceLT, Int.reduceToNat, Nat.min_eq_left, Int.reducePow, Int.reduceNeg, Int.reduceEq]
      exact ⟨false, 0, kc, by rw [if_pos c4], rfl, by rw [same]; exact .app _ _⟩
    · simp (dsimp := false) only [go_sem, Nat.reduceAdd, Nat.reduceEqDiff, Nat.reduceMul, Nat.reduceLeDiff, Nat.reduceSub, Nat.reduceLT, ↓reduceIte, reduceCtorEq, List.reduceReplicate, List.flatten_cons, List.flatten_nil, List.append_nil, eq_self, Int.reduceLE, Int.reduceLT, Int.reduceToNat, Nat.min_eq_left, Int.reducePow, Int.reduceNeg, Int.reduceEq, r0, mapAt_at (e1 _), setEs_enc]
      exact ⟨true, 0, _, by rw [if_neg c4], rfl, by rw [List.set_append, if_pos hml]; exact .app _ _⟩
end Go.Proofs.YtbomppdiiaodbaaRRR.B
