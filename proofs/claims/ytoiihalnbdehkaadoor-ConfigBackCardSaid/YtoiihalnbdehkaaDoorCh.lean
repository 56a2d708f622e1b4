/-
  Layer 23: the document's names, and what is wrong with rules.
-/
import Derived.Test.YtoiihalnbdehkaaDoorCf
import Derived.Test.YtoiihalnbdehkaaDoorIr25
import Derived.Test.YtoiihalnbdehkaaDoorCd
namespace Go.Proofs.YtoiihalnbdehkaaDoor.B
open Go
set_option linter.unusedVariables false
set_option linter.unusedSimpArgs false
set_option maxRecDepth 100000
theorem names_spec (h : AHeap) : SpecX Tryd.prog nG fn.ref23_Names [] h fun v' h' => Pre h h' ∧ Ow h h' 1 v' 15 (idx15.map fun i => .string (slotN i)) := by
  refine SpecX.of_body (ir.ref23_Names.spec (Nat.le_of_ble_eq_true rfl)) ?_
  simp (dsimp := false) only [↓ir.ref23_Names.bw, ir.ref23_Names.rs, go_sem, Nat.reduceAdd, Nat.reduceEqDiff, Nat.reduceMul, Nat.reduceLeDiff, Nat.reduceSub, Nat.reduceLT, ↓reduceIte, reduceCtorEq, List.reduceReplicate, List.flatten_cons, List.flatten_nil, List.append_nil, eq_self, Int.reduceLE, Int.reduceLT, Int.reduceToNat, Nat.min_eq_left, Int.reducePow, Int.reduceNeg, Int.reduceEq]
  have := Ow.row (h0 := h) (h := h ++ [.row (.grow 1) (idx15.map fun i => .string (slotN i))]) (sz := 1) (b := h.length) (off := 0) (n := 15) (cap := 15) (cells := idx15.map fun i => .string (slotN i)) (Nat.le_refl _) (by simp) (by decide) (Nat.le_refl _) (by unfold maxI; omega)
  exact this
theorem rdefault_spec (h : AHeap) : Spec Tryd.prog nG fn.ref23_Default [] h (.agg ⟨rulC rulD⟩) h := by
  apply ir.ref23_Default.spec (Nat.le_of_ble_eq_true rfl)
  simp (dsimp := false) only [↓ir.ref23_Default.bw, ir.ref23_Default.rs, go_sem, Nat.reduceAdd, Nat.reduceEqDiff, Nat.reduceMul, Nat.reduceLeDiff, Nat.reduceSub, Nat.reduceLT, ↓reduceIte, reduceCtorEq, List.reduceReplicate, List.flatten_cons, List.flatten_nil, List.append_nil, eq_self, Int.reduceLE, Int.reduceLT, Int.reduceToNat, Nat.min_eq_left, Int.reducePow, Int.reduceNeg, Int.reduceEq]
  exact Fin.agg rfl rfl
def loL : List Int := [1, 1, 0, 1, 1, 1, 0, 1, 0, 0, 1, 1, 0, 64, 1]
def hiL : List Int := [8, 15, 6, 1048576, 64, 1073741824, 1073741824, 1073741824, 1073741824, 1048576, 1048576, 1048576, 1048576, 4096, 1048576]
theorem rleast_spec (h : AHeap) : Spec Tryd.prog nG fn.ref23_Least [] h (.agg ⟨rulC loL⟩) h := by
  apply ir.ref23_Least.spec (Nat.le_of_ble_eq_true rfl)
  simp (dsimp := false) only [↓ir.ref23_Least.bw, ir.ref23_Least.rs, go_sem, Nat.reduceAdd, Nat.reduceEqDiff, Nat.reduceMul, Nat.reduceLeDiff, Nat.reduceSub, Nat.reduceLT, ↓reduceIte, reduceCtorEq, List.reduceReplicate, List.flatten_cons, List.flatten_nil, List.append_nil, eq_self, Int.reduceLE, Int.reduceLT, Int.reduceToNat, Nat.min_eq_left, Int.reducePow, Int.reduceNeg, Int.reduceEq]
  exact Fin.agg rfl rfl
theorem rmost_spec (h : AHeap) : Spec Tryd.prog nG fn.ref23_Most [] h (.agg ⟨rulC hiL⟩) h := by
  apply ir.ref23_Most.spec (Nat.le_of_ble_eq_true rfl)
  simp (dsimp := false) only [↓ir.ref23_Most.bw, ir.ref23_Most.rs, go_sem, Nat.reduceAdd, Nat.reduceEqDiff, Nat.reduceMul, Nat.reduceLeDiff, Nat.reduceSub, Nat.reduceLT, ↓reduceIte, reduceCtorEq, List.reduceReplicate, List.flatten_cons, List.flatten_nil, List.append_nil, eq_self, Int.reduceLE, Int.reduceLT, Int.reduceToNat, Nat.min_eq_left, Int.reducePow, Int.reduceNeg, Int.reduceEq]
  exact Fin.agg rfl rfl
theorem rcheck_spec {h : AHeap} {L : List Int} (hL : L.length = 15) : ∃ r : Int, Spec Tryd.prog nG fn.ref23_Check [.agg ⟨rulC L⟩] h (.int .i64 r) h ∧ ((r = -1 ∧ ∀ j, j < 15 → goodI j (L.getD j 0)) ∨ ∃ i : Nat, i < 15 ∧ r = i ∧ ¬ goodI i (L.getD i 0) ∧ ∀ j, j < i → goodI j (L.getD j 0)) := by
  refine SpecX.int (SpecX.of_body (ir.ref23_Check.spec (Nat.le_of_ble_eq_true rfl)) ?_)
  have e1 : (rulC loL).length = 15 := rfl
  have e2 := rulC_one loL
  have e3 : setC [Value.int .i64 0, .int .i64 0, .int .i64 0, .int .i64 0, .int .i64 0, .int .i64 0, .int .i64 0, .int .i64 0, .int .i64 0, .int .i64 0, .int .i64 0, .int .i64 0, .int .i64 0, .int .i64 0, .int .i64 0] 0 (rulC loL) = rulC loL := rfl
  have e4 : (rulC hiL).length = 15 := rfl
  have e5 := rulC_one hiL
  have e6 : setC [Value.int .i64 0, .int .i64 0, .int .i64 0, .int .i64 0, .int .i64 0, .int .i64 0, .int .i64 0, .int .i64 0, .int .i64 0, .int .i64 0, .int .i64 0, .int .i64 0, .int .i64 0, .int .i64 0, .int .i64 0] 0 (rulC hiL) = rulC hiL := rfl
  simp (dsimp := false) only [↓ir.ref23_Check.bw, ir.ref23_Check.rs, go_sem, Nat.reduceAdd, Nat.reduceEqDiff, Nat.reduceMul, Nat.reduceLeDiff, Nat.reduceSub, Nat.reduceLT, ↓reduceIte, reduceCtorEq, List.reduceReplicate, List.flatten_cons, List.flatten_nil, List.append_nil, eq_self, Int.reduceLE, Int.reduceLT, Int.reduceToNat, Nat.min_eq_left, Int.reducePow, Int.reduceNeg, Int.reduceEq]
  refine callV_of (rleast_spec _) ?_
  simp (dsimp := false) only [go_sem, Nat.reduceAdd, Nat.reduceEqDiff, Nat.reduceMul, Nat.reduceLeDiff, Nat.reduceSub, Nat.reduceLT, ↓reduceIte, reduceCtorEq, List.reduceReplicate, List.flatten_cons, List.flatten_nil, List.append_nil, eq_self, Int.reduceLE, Int.reduceLT, Int.reduceToNat, Nat.min_eq_left, Int.reducePow, Int.reduceNeg, Int.reduceEq]
  refine callV_of (rmost_spec _) ?_
  simp (dsimp := false) only [go_sem, Nat.reduceAdd, Nat.reduceEqDiff, Nat.reduceMul, Nat.reduceLeDiff, Nat.reduceSub, Nat.reduceLT, ↓reduceIte, reduceCtorEq, List.reduceReplicate, List.flatten_cons, List.flatten_nil, List.append_nil, eq_self, Int.reduceLE, Int.reduceLT, Int.reduceToNat, Nat.min_eq_left, Int.reducePow, Int.reduceNeg, Int.reduceEq, e1, e2, e3, e4, e5, e6, Option.map_some, Nat.le_refl]
  obtain ⟨h1, eh1⟩ : ∃ h1, h ++ [AObj.row .fix (rulC L), .row .fix (rulC loL), .row .fix (rulC hiL)] = h1 := ⟨_, rfl⟩
  have hp1 : Pre h h1 := eh1 ▸ .app _ _
  have f1 : Fx h1 h.length (rulC L) := eh1 ▸ Fx.here _ _ _
  have f2 : Fx h1 (h.length + 1) (rulC loL) := by rw [← eh1]; simp [Fx]
  have f3 : Fx h1 (h.length + 2) (rulC hiL) := by rw [← eh1]; simp [Fx]
  rw [eh1]
  clear eh1 e1 e2 e3 e4 e5 e6
  refine loopV_of (fun m e h2 => ∃ i : Nat, m = 15 - i ∧ i ≤ 15 ∧ h2 = h1 ∧ (∀ j, j < i → goodI j (L.getD j 0)) ∧ e = [(1, .pointer (some ⟨h.length, 0, none⟩)), (3, .pointer (some ⟨h.length + 1, 0, none⟩)), (4, .pointer (some ⟨h.length + 2, 0, none⟩)), (5, .int .i64 i)]) _ ⟨0, rfl, Nat.zero_le _, rfl, fun j hj => absurd hj (Nat.not_lt_zero _), rfl⟩ ?_
  rintro m e h2 ⟨i, rfl, hi, rfl, hg, rfl⟩
  rcases Nat.lt_or_ge i 15 with hlt | hge
  · have e0 : (i : Int) < 15 := by omega
    have e0' : (i : Int) < ((15 : Nat) : Int) := by omega
    have c0 : (0 : Int) ≤ (i : Int) := by omega
    have wi : IntKind.i64.wrap ((i : Int) + 1) = ((i + 1 : Nat) : Int) := wrap_succ hlt (by unfold maxI; omega)
    have r1 : rds h2 h.length i 1 = some [.int .i64 (L.getD i 0)] := f1.rd (rulC_rd (by omega)) (by rw [rulC_len, hL]; omega)
    have r2 : rds h2 (h.length + 1) i 1 = some [.int .i64 (slotLo i)] := f2.rd (rulC_rd (by show i < 15; omega)) (by rw [rulC_len]; show i + 1 ≤ 15; omega)
    have r3 : rds h2 (h.length + 2) i 1 = some [.int .i64 (slotHi i)] := f3.rd (rulC_rd (by show i < 15; omega)) (by rw [rulC_len]; show i + 1 ≤ 15; omega)
    have done : goodI i (L.getD i 0) → ∃ m', m' < 15 - i ∧ ∃ j : Nat, m' = 15 - j ∧ j ≤ 15 ∧ (∀ k, k < j → goodI k (L.getD k 0)) ∧ [(1, Value.pointer (some ⟨h.length, 0, none⟩)), (3, .pointer (some ⟨h.length + 1, 0, none⟩)), (4, .pointer (some ⟨h.length + 2, 0, none⟩)), (5, .int .i64 ((i + 1 : Nat) : Int))] = [(1, Value.pointer (some ⟨h.length, 0, none⟩)), (3, .pointer (some ⟨h.length + 1, 0, none⟩)), (4, .pointer (some ⟨h.length + 2, 0, none⟩)), (5, .int .i64 (j : Int))] := fun q =>
      ⟨15 - (i + 1), by omega, i + 1, rfl, hlt, fun k hk => by
        rcases Nat.lt_or_ge k i with z | z
        · exact hg k z
        · obtain rfl : k = i := by omega
          exact q, rfl⟩
    have bad : ¬ goodI i (L.getD i 0) → Pre h h2 ∧ ∃ n : Int, Value.int .i64 (i : Int) = .int .i64 n ∧ ((n = -1 ∧ ∀ j, j < 15 → goodI j (L.getD j 0)) ∨ ∃ i : Nat, i < 15 ∧ n = i ∧ ¬ goodI i (L.getD i 0) ∧ ∀ j, j < i → goodI j (L.getD j 0)) := fun q =>
      ⟨hp1, _, rfl, .inr ⟨i, hlt, rfl, q, hg⟩⟩
    obtain ⟨N, hN⟩ : ∃ N, L.getD i 0 = N := ⟨_, rfl⟩
    rw [hN] at r1 done bad
    simp (dsimp := false) only [↓ir.ref23_Check.l1.bw, go_sem, Nat.reduceAdd, Nat.reduceEqDiff, Nat.reduceMul, Nat.reduceLeDiff, Nat.reduceSub, Nat.reduceLT, ↓reduceIte, reduceCtorEq, List.reduceReplicate, List.flatten_cons, List.flatten_nil, List.append_nil, eq_self, Int.reduceLE, Int.reduceLT, Int.reduceToNat, Nat.min_eq_left, Int.reducePow, Int.reduceNeg, Int.reduceEq, e0, e0', c0, decide_true, true_and, and_true, Int.toNat_natCast, Nat.mul_one, Nat.zero_add, r1, r2, r3]
    repeat' (first | ((first | refine cVd (fun hc => ?_) (fun hc => ?_) | refine gTd (fun hc => ?_) (fun hc => ?_) | refine gFd (fun hc => ?_) (fun hc => ?_) | refine cVe (fun hc => ?_) (fun hc => ?_) | refine gTe (fun hc => ?_) (fun hc => ?_) | refine gFe (fun hc => ?_) (fun hc => ?_) | refine cVn (fun hc => ?_) (fun hc => ?_) | refine gTn (fun hc => ?_) (fun hc => ?_) | refine gFn (fun hc => ?_) (fun hc => ?_) | refine cV (fun hc => ?_) (fun hc => ?_) | refine gT (fun hc => ?_) (fun hc => ?_) | refine gF (fun hc => ?_) (fun hc => ?_)) <;> try simp (dsimp := false) only [go_sem, Nat.reduceAdd, Nat.reduceEqDiff, Nat.reduceMul, Nat.reduceLeDiff, Nat.reduceSub, Nat.reduceLT, ↓reduceIte, reduceCtorEq, List.reduceReplicate, List.flatten_cons, List.flatten_nil, List.append_nil, eq_self, Int.reduceLE, Int.reduceLT, Int.reduceToNat, Nat.min_eq_left, Int.reducePow, Int.reduceNeg, Int.reduceEq, e0, e0', c0, decide_true, true_and, and_true, Int.toNat_natCast, Nat.mul_one, Nat.zero_add, r1, r2, r3, gt_iff_lt, wi]) | (with_reducible refine And.intro (by omega) ?_ <;> try simp (dsimp := false) only [go_sem, Nat.reduceAdd, Nat.reduceEqDiff, Nat.reduceMul, Nat.reduceLeDiff, Nat.reduceSub, Nat.reduceLT, ↓reduceIte, reduceCtorEq, List.reduceReplicate, List.flatten_cons, List.flatten_nil, List.append_nil, eq_self, Int.reduceLE, Int.reduceLT, Int.reduceToNat, Nat.min_eq_left, Int.reducePow, Int.reduceNeg, Int.reduceEq, e0, e0', c0, decide_true, true_and, and_true, Int.toNat_natCast, Nat.mul_one, Nat.zero_add, r1, r2, r3, gt_iff_lt, wi]))
    all_goals first
      | exact (bad (fun q => by have := q.1; have := q.2.1; omega)).2
      | exact (bad (fun q => by have := q.2.2 (by omega); omega)).2
      | exact done ⟨by omega, by omega, fun q => by omega⟩
  · obtain rfl : i = 15 := by omega
    simp (dsimp := false) only [↓ir.ref23_Check.l1.bw, go_sem, Nat.reduceAdd, Nat.reduceEqDiff, Nat.reduceMul, Nat.reduceLeDiff, Nat.reduceSub, Nat.reduceLT, ↓reduceIte, reduceCtorEq, List.reduceReplicate, List.flatten_cons, List.flatten_nil, List.append_nil, eq_self, Int.reduceLE, Int.reduceLT, Int.reduceToNat, Nat.min_eq_left, Int.reducePow, Int.reduceNeg, Int.reduceEq, show ¬ ((15 : Nat) : Int) < 15 by omega, decide_false]
    exact ⟨hp1, _, rfl, .inl ⟨rfl, hg⟩⟩
theorem cFrom_spec (h : AHeap) {L : List Int} (hL : L.length = 15) : Spec Tryd.prog nG fn.law23_From [.agg ⟨rulC L⟩] h (.agg ⟨rulC L⟩) h := by
  obtain ⟨a0, a1, a2, a3, a4, a5, a6, a7, a8, a9, a10, a11, a12, a13, a14, rfl⟩ := list15 hL
  apply ir.law23_From.spec (Nat.le_of_ble_eq_true rfl)
  simp only [rulC, List.map_cons, List.map_nil]
  simp (dsimp := false) only [↓ir.law23_From.bw, ir.law23_From.rs, go_sem, Nat.reduceAdd, Nat.reduceEqDiff, Nat.reduceMul, Nat.reduceLeDiff, Nat.reduceSub, Nat.reduceLT, ↓reduceIte, reduceCtorEq, List.reduceReplicate, List.flatten_cons, List.flatten_nil, List.append_nil, eq_self, Int.reduceLE, Int.reduceLT, Int.reduceToNat, Nat.min_eq_left, Int.reducePow, Int.reduceNeg, Int.reduceEq]
  (repeat (with_reducible refine And.intro (by omega) ?_))
  exact Fin.agg rfl rfl
theorem linesF_len : ∀ (ls : List (List UInt8)) (i : Nat) (R A : List Int), R.length = 15 → ∀ R' A', linesF i ls R A = .fin R' A' → R'.length = 15
  | [], i, R, A, h, R', A', e => by
    rw [linesF] at e
    cases e
    exact h
  | ln :: r, i, R, A, h, R', A', e => by
    rw [linesF] at e
    cases q : lineF A ln with
    | skip => rw [q] at e; exact linesF_len r _ _ _ h _ _ e
    | bad a b => rw [q] at e; cases e
    | put w n => rw [q] at e; exact linesF_len r _ _ _ (by simpa using h) _ _ e
theorem parseF_len (t : List UInt8) : (parseF t).R.length = 15 := by
  unfold parseF
  split
  · rfl
  · split
    · rfl
    · rename_i R A q
      unfold endF
      split
      · rfl
      · exact linesF_len _ _ _ _ rfl _ _ q
theorem eqs15 {L : List Int} (hL : L.length = 15) : eqCells [0, 0, 0, 0, 0, 0, 0, 0, 0, 0, 0, 0, 0, 0, 0] (rulC L) (rulC L) = some true := by
  obtain ⟨a0, a1, a2, a3, a4, a5, a6, a7, a8, a9, a10, a11, a12, a13, a14, rfl⟩ := list15 hL
  simp only [rulC, List.map_cons, List.map_nil, eqCells_cons, eqCells_nil, keyEqI, beq_self_eq_true, Bool.and_true, Option.bind_some, Option.map_some]
end Go.Proofs.YtoiihalnbdehkaaDoor.B
