/-
  Layer 23: rules that may be, in springs, neighbours, routes and plans; P23.1 as the law says it.
-/
import Derived.Test.YtoiihalnbdehkaaDoorCc
namespace Go.Proofs.YtoiihalnbdehkaaDoor.B
open Go
set_option linter.unusedVariables false
set_option linter.unusedSimpArgs false
theorem list15 {L : List Int} (h : L.length = 15) : ∃ a0 a1 a2 a3 a4 a5 a6 a7 a8 a9 a10 a11 a12 a13 a14, L = [a0, a1, a2, a3, a4, a5, a6, a7, a8, a9, a10, a11, a12, a13, a14] := by
  match L, h with
  | [a0, a1, a2, a3, a4, a5, a6, a7, a8, a9, a10, a11, a12, a13, a14], _ => exact ⟨_, _, _, _, _, _, _, _, _, _, _, _, _, _, _, rfl⟩
theorem cTo_spec (h : AHeap) {L : List Int} (hL : L.length = 15) : Spec Tryd.prog nG fn.law23_To [.agg ⟨rulC L⟩] h (.agg ⟨rulC L⟩) h := by
  obtain ⟨a0, a1, a2, a3, a4, a5, a6, a7, a8, a9, a10, a11, a12, a13, a14, rfl⟩ := list15 hL
  apply ir.law23_To.spec (Nat.le_of_ble_eq_true rfl)
  simp only [rulC, List.map_cons, List.map_nil]
  simp (dsimp := false) only [↓ir.law23_To.bw, ir.law23_To.rs, go_sem, Nat.reduceAdd, Nat.reduceEqDiff, Nat.reduceMul, Nat.reduceLeDiff, Nat.reduceSub, Nat.reduceLT, ↓reduceIte, reduceCtorEq, List.reduceReplicate, List.flatten_cons, List.flatten_nil, List.append_nil, eq_self, Int.reduceLE, Int.reduceLT, Int.reduceToNat, Nat.min_eq_left, Int.reducePow, Int.reduceNeg, Int.reduceEq]
  (repeat (with_reducible refine And.intro (by omega) ?_))
  exact Fin.agg rfl rfl
theorem levels_spec (h : AHeap) {w : Int} (hw : w = 1 ∨ w = 2 ∨ w = 4 ∨ w = 8) : ∃ n : Int, Spec Tryd.prog nG fn.ladder_Levels [.int .i64 w] h (.int .i64 n) h ∧ 0 ≤ n := by
  refine SpecX.int (SpecX.of_body (ir.ladder_Levels.spec (Nat.le_of_ble_eq_true rfl)) ?_)
  simp (dsimp := false) only [↓ir.ladder_Levels.bw, ir.ladder_Levels.rs, go_sem, Nat.reduceAdd, Nat.reduceEqDiff, Nat.reduceMul, Nat.reduceLeDiff, Nat.reduceSub, Nat.reduceLT, ↓reduceIte, reduceCtorEq, List.reduceReplicate, List.flatten_cons, List.flatten_nil, List.append_nil, eq_self, Int.reduceLE, Int.reduceLT, Int.reduceToNat, Nat.min_eq_left, Int.reducePow, Int.reduceNeg, Int.reduceEq]
  refine loopV_of (fun m e h2 => ∃ i : Nat, m = 4 - i ∧ i ≤ 4 ∧ h2 = h ∧ (∀ j : Nat, j < i → w ≠ 2 ^ j) ∧ e = [(0, .int .i64 w), (4, .int .i64 i)]) _ ⟨0, rfl, Nat.zero_le _, rfl, fun j hj => absurd hj (Nat.not_lt_zero _), rfl⟩ ?_
  rintro m e h2 ⟨i, rfl, hi, rfl, hn, rfl⟩
  rcases Nat.lt_or_ge i 4 with hlt | hge
  · have e0 : (i : Int) < 4 := by omega
    have wi : IntKind.i64.wrap ((i : Int) + 1) = ((i + 1 : Nat) : Int) := wrap_succ hlt (by unfold maxI; omega)
    have sh : ∀ i : Nat, i < 4 → IntKind.i64.wrap (1 * 2 ^ min (i : Int).toNat 64) = 2 ^ i := by decide +kernel
    have c0 : (0 : Int) ≤ (i : Int) := by omega
    simp (dsimp := false) only [↓ir.ladder_Levels.l1.bw, go_sem, Nat.reduceAdd, Nat.reduceEqDiff, Nat.reduceMul, Nat.reduceLeDiff, Nat.reduceSub, Nat.reduceLT, ↓reduceIte, reduceCtorEq, List.reduceReplicate, List.flatten_cons, List.flatten_nil, List.append_nil, eq_self, Int.reduceLE, Int.reduceLT, Int.reduceToNat, Nat.min_eq_left, Int.reducePow, Int.reduceNeg, Int.reduceEq, e0, decide_true, c0, true_and, sh i hlt]
    first
      | refine cVe (fun c => ?_) (fun c => ?_)
      | (refine ⟨by omega, ?_⟩; refine cVe (fun c => ?_) (fun c => ?_))
    · simp (dsimp := false) only [go_sem, Nat.reduceAdd, Nat.reduceEqDiff, Nat.reduceMul, Nat.reduceLeDiff, Nat.reduceSub, Nat.reduceLT, ↓reduceIte, reduceCtorEq, List.reduceReplicate, List.flatten_cons, List.flatten_nil, List.append_nil, eq_self, Int.reduceLE, Int.reduceLT, Int.reduceToNat, Nat.min_eq_left, Int.reducePow, Int.reduceNeg, Int.reduceEq]
      exact ⟨_, rfl, by omega⟩
    · simp (dsimp := false) only [go_sem, Nat.reduceAdd, Nat.reduceEqDiff, Nat.reduceMul, Nat.reduceLeDiff, Nat.reduceSub, Nat.reduceLT, ↓reduceIte, reduceCtorEq, List.reduceReplicate, List.flatten_cons, List.flatten_nil, List.append_nil, eq_self, Int.reduceLE, Int.reduceLT, Int.reduceToNat, Nat.min_eq_left, Int.reducePow, Int.reduceNeg, Int.reduceEq, wi]
      refine ⟨4 - (i + 1), by omega, i + 1, rfl, hlt, fun j hj => ?_, rfl⟩
      rcases Nat.lt_or_ge j i with z | z
      · exact hn j z
      · obtain rfl : j = i := by omega
        exact c
  · exfalso
    have h0 := hn 0 (by omega)
    have h1 := hn 1 (by omega)
    have h2 := hn 2 (by omega)
    have h3 := hn 3 (by omega)
    omega
theorem spring_spec (h : AHeap) {w s t : Int} (hw : w = 1 ∨ w = 2 ∨ w = 4 ∨ w = 8) (hs : 1 ≤ s ∧ s ≤ 15) (ht : 0 ≤ t ∧ t ≤ 6) : Spec Tryd.prog nG fn.spring_Right [.agg #[.int .i64 w, .int .i64 s, .int .i64 t]] h (.bool true) h := by
  apply ir.spring_Right.spec (Nat.le_of_ble_eq_true rfl)
  obtain ⟨n, ls, hn⟩ := levels_spec (h ++ [.row .fix [.int .i64 w, .int .i64 s, .int .i64 t]]) hw
  have d0 : decide (0 ≤ n) = true := decide_eq_true hn
  have d1 : decide (1 ≤ s) = true := decide_eq_true hs.1
  have d2 : decide (s ≤ 16) = true := decide_eq_true (by omega)
  have d3 : decide (0 ≤ t) = true := decide_eq_true ht.1
  have d4 : decide (t ≤ 6) = true := decide_eq_true ht.2
  simp (dsimp := false) only [↓ir.spring_Right.bw, ir.spring_Right.rs, go_sem, Nat.reduceAdd, Nat.reduceEqDiff, Nat.reduceMul, Nat.reduceLeDiff, Nat.reduceSub, Nat.reduceLT, ↓reduceIte, reduceCtorEq, List.reduceReplicate, List.flatten_cons, List.flatten_nil, List.append_nil, eq_self, Int.reduceLE, Int.reduceLT, Int.reduceToNat, Nat.min_eq_left, Int.reducePow, Int.reduceNeg, Int.reduceEq]
  refine callV_of ls ?_
  simp (dsimp := false) only [go_sem, Nat.reduceAdd, Nat.reduceEqDiff, Nat.reduceMul, Nat.reduceLeDiff, Nat.reduceSub, Nat.reduceLT, ↓reduceIte, reduceCtorEq, List.reduceReplicate, List.flatten_cons, List.flatten_nil, List.append_nil, eq_self, Int.reduceLE, Int.reduceLT, Int.reduceToNat, Nat.min_eq_left, Int.reducePow, Int.reduceNeg, Int.reduceEq, ge_iff_le, d0, d1, d2, d3, d4]
  exact Fin.sc rfl rfl
theorem toll_spec (h : AHeap) {a b c d : Int} (ha : 1 ≤ a ∧ a ≤ 1073741824) (hb : 0 ≤ b ∧ b ≤ 1073741824) (hc : 1 ≤ c ∧ c ≤ 1073741824) (hd : 0 ≤ d ∧ d ≤ 1073741824) : Spec Tryd.prog nG fn.toll_Right [.agg #[.int .i64 a, .int .i64 b, .int .i64 c, .int .i64 d]] h (.bool true) h := by
  suffices H : ∃ x : Bool, Spec Tryd.prog nG fn.toll_Right [.agg #[.int .i64 a, .int .i64 b, .int .i64 c, .int .i64 d]] h (.bool x) h ∧ x = true by
    obtain ⟨_, hs, rfl⟩ := H
    exact hs
  refine SpecX.bool (SpecX.of_body (ir.toll_Right.spec (Nat.le_of_ble_eq_true rfl)) ?_)
  simp (dsimp := false) only [↓ir.toll_Right.bw, ir.toll_Right.rs, go_sem, Nat.reduceAdd, Nat.reduceEqDiff, Nat.reduceMul, Nat.reduceLeDiff, Nat.reduceSub, Nat.reduceLT, ↓reduceIte, reduceCtorEq, List.reduceReplicate, List.flatten_cons, List.flatten_nil, List.append_nil, eq_self, Int.reduceLE, Int.reduceLT, Int.reduceToNat, Nat.min_eq_left, Int.reducePow, Int.reduceNeg, Int.reduceEq]
  refine loopV_of (fun m e h2 => ∃ i : Nat, m = 4 - i ∧ i ≤ 4 ∧ h2 = h ++ [.row .fix [.int .i64 a, .int .i64 b, .int .i64 c, .int .i64 d]] ∧ e = [(1, .pointer (some ⟨h.length, 0, none⟩)), (13, .agg #[.int .i64 a, .int .i64 b, .int .i64 c, .int .i64 d]), (14, .int .i64 i)]) _ ⟨0, rfl, Nat.zero_le _, rfl, rfl⟩ ?_
  rintro m e h2 ⟨i, rfl, hi, rfl, rfl⟩
  rcases Nat.lt_or_ge i 4 with hlt | hge
  · have e0 : (i : Int) < 4 := by omega
    have c0 : (0 : Int) ≤ (i : Int) := by omega
    have wi : IntKind.i64.wrap ((i : Int) + 1) = ((i + 1 : Nat) : Int) := wrap_succ hlt (by unfold maxI; omega)
    obtain ⟨x, hx, hx0, hx1⟩ : ∃ x : Int, (([.int .i64 a, .int .i64 b, .int .i64 c, .int .i64 d] : List Value).drop i).take 1 = [.int .i64 x] ∧ 0 ≤ x ∧ x ≤ 1073741824 := by
      match i, hlt with
      | 0, _ => exact ⟨a, rfl, by omega, by omega⟩
      | 1, _ => exact ⟨b, rfl, by omega, by omega⟩
      | 2, _ => exact ⟨c, rfl, by omega, by omega⟩
      | 3, _ => exact ⟨d, rfl, by omega, by omega⟩
    have x0 : decide (x < 0) = false := decide_eq_false (by omega)
    have x1 : decide (1073741824 < x) = false := decide_eq_false (by omega)
    have sz : i * 1 + 1 ≤ (#[Value.int .i64 a, .int .i64 b, .int .i64 c, .int .i64 d] : Array Value).size := by simp; omega
    simp (dsimp := false) only [↓ir.toll_Right.l1.bw, go_sem, Nat.reduceAdd, Nat.reduceEqDiff, Nat.reduceMul, Nat.reduceLeDiff, Nat.reduceSub, Nat.reduceLT, ↓reduceIte, reduceCtorEq, List.reduceReplicate, List.flatten_cons, List.flatten_nil, List.append_nil, eq_self, Int.reduceLE, Int.reduceLT, Int.reduceToNat, Nat.min_eq_left, Int.reducePow, Int.reduceNeg, Int.reduceEq, e0, decide_true, c0, true_and, Int.toNat_natCast, Nat.mul_one, hx, x0, x1, gt_iff_lt, wi]
    refine ⟨by omega, by simp; omega, ?_⟩
    exact ⟨4 - (i + 1), by omega, i + 1, rfl, hlt, rfl⟩
  · obtain rfl : i = 4 := by omega
    have d0 : decide (1 ≤ a) = true := decide_eq_true ha.1
    have d1 : decide (1 ≤ c) = true := decide_eq_true hc.1
    simp (dsimp := false) only [↓ir.toll_Right.l1.bw, go_sem, Nat.reduceAdd, Nat.reduceEqDiff, Nat.reduceMul, Nat.reduceLeDiff, Nat.reduceSub, Nat.reduceLT, ↓reduceIte, reduceCtorEq, List.reduceReplicate, List.flatten_cons, List.flatten_nil, List.append_nil, eq_self, Int.reduceLE, Int.reduceLT, Int.reduceToNat, Nat.min_eq_left, Int.reducePow, Int.reduceNeg, Int.reduceEq, show ¬ ((4 : Nat) : Int) < 4 by omega, decide_false, ge_iff_le, d0, d1]
    exact ⟨_, rfl, rfl⟩
theorem peer_spec (h : AHeap) {x y a b c d : Int} (hx : 1 ≤ x ∧ x ≤ 1048576) (hy : 1 ≤ y ∧ y ≤ 64) (ha : 1 ≤ a ∧ a ≤ 1073741824) (hb : 0 ≤ b ∧ b ≤ 1073741824) (hc : 1 ≤ c ∧ c ≤ 1073741824) (hd : 0 ≤ d ∧ d ≤ 1073741824) :
    Spec Tryd.prog nG fn.peer_Right [.agg #[.int .i64 x, .int .i64 y, .int .i64 a, .int .i64 b, .int .i64 c, .int .i64 d]] h (.bool true) h := by
  apply ir.peer_Right.spec (Nat.le_of_ble_eq_true rfl)
  have d0 : decide (1 ≤ x) = true := decide_eq_true hx.1
  have d1 : decide (x ≤ 1048576) = true := decide_eq_true hx.2
  have d2 : decide (1 ≤ y) = true := decide_eq_true hy.1
  have d3 : decide (y ≤ 64) = true := decide_eq_true hy.2
  simp (dsimp := false) only [↓ir.peer_Right.bw, ir.peer_Right.rs, go_sem, Nat.reduceAdd, Nat.reduceEqDiff, Nat.reduceMul, Nat.reduceLeDiff, Nat.reduceSub, Nat.reduceLT, ↓reduceIte, reduceCtorEq, List.reduceReplicate, List.flatten_cons, List.flatten_nil, List.append_nil, eq_self, Int.reduceLE, Int.reduceLT, Int.reduceToNat, Nat.min_eq_left, Int.reducePow, Int.reduceNeg, Int.reduceEq, ge_iff_le, d0, d1, d2, d3]
  refine callV_of (toll_spec _ ha hb hc hd) ?_
  simp (dsimp := false) only [go_sem, Nat.reduceAdd, Nat.reduceEqDiff, Nat.reduceMul, Nat.reduceLeDiff, Nat.reduceSub, Nat.reduceLT, ↓reduceIte, reduceCtorEq, List.reduceReplicate, List.flatten_cons, List.flatten_nil, List.append_nil, eq_self, Int.reduceLE, Int.reduceLT, Int.reduceToNat, Nat.min_eq_left, Int.reducePow, Int.reduceNeg, Int.reduceEq]
  exact Fin.sc rfl rfl
theorem rib_spec (h : AHeap) {x y : Int} (hx : 0 ≤ x ∧ x ≤ 1048576) (hy : 1 ≤ y ∧ y ≤ 1048576) : Spec Tryd.prog nG fn.rib_Right [.agg #[.int .i64 x, .int .i64 y]] h (.bool true) h := by
  apply ir.rib_Right.spec (Nat.le_of_ble_eq_true rfl)
  have d0 : decide (0 ≤ x) = true := decide_eq_true hx.1
  have d1 : decide (x ≤ 1048576) = true := decide_eq_true hx.2
  have d2 : decide (1 ≤ y) = true := decide_eq_true hy.1
  have d3 : decide (y ≤ 1048576) = true := decide_eq_true hy.2
  simp (dsimp := false) only [↓ir.rib_Right.bw, ir.rib_Right.rs, go_sem, Nat.reduceAdd, Nat.reduceEqDiff, Nat.reduceMul, Nat.reduceLeDiff, Nat.reduceSub, Nat.reduceLT, ↓reduceIte, reduceCtorEq, List.reduceReplicate, List.flatten_cons, List.flatten_nil, List.append_nil, eq_self, Int.reduceLE, Int.reduceLT, Int.reduceToNat, Nat.min_eq_left, Int.reducePow, Int.reduceNeg, Int.reduceEq, ge_iff_le, d0, d1, d2, d3]
  exact Fin.sc rfl rfl
theorem settle_spec (h : AHeap) {x y : Int} (hx : 1 ≤ x ∧ x ≤ 1048576) (hy : 0 ≤ y ∧ y ≤ 1048576) : Spec Tryd.prog nG fn.settle_Right [.agg #[.int .i64 x, .int .i64 y]] h (.bool true) h := by
  apply ir.settle_Right.spec (Nat.le_of_ble_eq_true rfl)
  have d0 : decide (1 ≤ x) = true := decide_eq_true hx.1
  have d1 : decide (x ≤ 1048576) = true := decide_eq_true hx.2
  have d2 : decide (0 ≤ y) = true := decide_eq_true hy.1
  have d3 : decide (y ≤ 1048576) = true := decide_eq_true hy.2
  simp (dsimp := false) only [↓ir.settle_Right.bw, ir.settle_Right.rs, go_sem, Nat.reduceAdd, Nat.reduceEqDiff, Nat.reduceMul, Nat.reduceLeDiff, Nat.reduceSub, Nat.reduceLT, ↓reduceIte, reduceCtorEq, List.reduceReplicate, List.flatten_cons, List.flatten_nil, List.append_nil, eq_self, Int.reduceLE, Int.reduceLT, Int.reduceToNat, Nat.min_eq_left, Int.reducePow, Int.reduceNeg, Int.reduceEq, ge_iff_le, d0, d1, d2, d3]
  exact Fin.sc rfl rfl
theorem configFits_spec {h : AHeap} (k : PowG h) {L : List Int} (hL : L.length = 15) : SpecX Tryd.prog nG fn.law23_ConfigFits [.agg ⟨rulC L⟩] h fun v' _ => v' = .bool true := by
  refine SpecX.of_body (ir.law23_ConfigFits.spec (Nat.le_of_ble_eq_true rfl)) ?_
  obtain ⟨n, e, hs, hq⟩ := check_spec (h := h ++ [.row .fix (rulC L), .row .fix (rulC L)]) hL
  have hto := cTo_spec (h ++ [.row .fix (rulC L)]) hL
  obtain ⟨a0, a1, a2, a3, a4, a5, a6, a7, a8, a9, a10, a11, a12, a13, a14, rfl⟩ := list15 hL
  simp only [rulC, List.map_cons, List.map_nil] at hs hto ⊢
  simp (dsimp := false) only [↓ir.law23_ConfigFits.bw, ir.law23_ConfigFits.rs, go_sem, Nat.reduceAdd, Nat.reduceEqDiff, Nat.reduceMul, Nat.reduceLeDiff, Nat.reduceSub, Nat.reduceLT, ↓reduceIte, reduceCtorEq, List.reduceReplicate, List.flatten_cons, List.flatten_nil, List.append_nil, eq_self, Int.reduceLE, Int.reduceLT, Int.reduceToNat, Nat.min_eq_left, Int.reducePow, Int.reduceNeg, Int.reduceEq]
  refine callV_of hto ?_
  simp (dsimp := false) only [go_sem, Nat.reduceAdd, Nat.reduceEqDiff, Nat.reduceMul, Nat.reduceLeDiff, Nat.reduceSub, Nat.reduceLT, ↓reduceIte, reduceCtorEq, List.reduceReplicate, List.flatten_cons, List.flatten_nil, List.append_nil, eq_self, Int.reduceLE, Int.reduceLT, Int.reduceToNat, Nat.min_eq_left, Int.reducePow, Int.reduceNeg, Int.reduceEq]
  refine callV_of hs ?_
  rcases hq with ⟨rfl, rfl, hg⟩ | ⟨rfl, _⟩
  · simp (dsimp := false) only [go_sem, Nat.reduceAdd, Nat.reduceEqDiff, Nat.reduceMul, Nat.reduceLeDiff, Nat.reduceSub, Nat.reduceLT, ↓reduceIte, reduceCtorEq, List.reduceReplicate, List.flatten_cons, List.flatten_nil, List.append_nil, eq_self, Int.reduceLE, Int.reduceLT, Int.reduceToNat, Nat.min_eq_left, Int.reducePow, Int.reduceNeg, Int.reduceEq, (show ((0 : Int) != 0) = false from rfl)]
    refine callV_of (cawake_spec (k.pre (.app _ _))) ?_
    have g0 := (hg 0 (by omega)).2.2 rfl
    have g1 := hg 1 (by omega)
    have g2 := hg 2 (by omega)
    have g3 := hg 3 (by omega)
    have g4 := hg 4 (by omega)
    have g5 := hg 5 (by omega)
    have g6 := hg 6 (by omega)
    have g7 := hg 7 (by omega)
    have g8 := hg 8 (by omega)
    have g9 := hg 9 (by omega)
    have g10 := hg 10 (by omega)
    have g11 := hg 11 (by omega)
    have g12 := hg 12 (by omega)
    simp (dsimp := false) only [go_sem, Nat.reduceAdd, Nat.reduceEqDiff, Nat.reduceMul, Nat.reduceLeDiff, Nat.reduceSub, Nat.reduceLT, ↓reduceIte, reduceCtorEq, List.reduceReplicate, List.flatten_cons, List.flatten_nil, List.append_nil, eq_self, Int.reduceLE, Int.reduceLT, Int.reduceToNat, Nat.min_eq_left, Int.reducePow, Int.reduceNeg, Int.reduceEq]
    refine callV_of (spring_spec _ g0 ⟨g1.1, g1.2.1⟩ ⟨g2.1, g2.2.1⟩) ?_
    simp (dsimp := false) only [go_sem, Nat.reduceAdd, Nat.reduceEqDiff, Nat.reduceMul, Nat.reduceLeDiff, Nat.reduceSub, Nat.reduceLT, ↓reduceIte, reduceCtorEq, List.reduceReplicate, List.flatten_cons, List.flatten_nil, List.append_nil, eq_self, Int.reduceLE, Int.reduceLT, Int.reduceToNat, Nat.min_eq_left, Int.reducePow, Int.reduceNeg, Int.reduceEq]
    refine callV_of (peer_spec _ ⟨g3.1, g3.2.1⟩ ⟨g4.1, g4.2.1⟩ ⟨g5.1, g5.2.1⟩ ⟨g6.1, g6.2.1⟩ ⟨g7.1, g7.2.1⟩ ⟨g8.1, g8.2.1⟩) ?_
    simp (dsimp := false) only [go_sem, Nat.reduceAdd, Nat.reduceEqDiff, Nat.reduceMul, Nat.reduceLeDiff, Nat.reduceSub, Nat.reduceLT, ↓reduceIte, reduceCtorEq, List.reduceReplicate, List.flatten_cons, List.flatten_nil, List.append_nil, eq_self, Int.reduceLE, Int.reduceLT, Int.reduceToNat, Nat.min_eq_left, Int.reducePow, Int.reduceNeg, Int.reduceEq]
    refine callV_of (rib_spec _ ⟨g9.1, g9.2.1⟩ ⟨g10.1, g10.2.1⟩) ?_
    simp (dsimp := false) only [go_sem, Nat.reduceAdd, Nat.reduceEqDiff, Nat.reduceMul, Nat.reduceLeDiff, Nat.reduceSub, Nat.reduceLT, ↓reduceIte, reduceCtorEq, List.reduceReplicate, List.flatten_cons, List.flatten_nil, List.append_nil, eq_self, Int.reduceLE, Int.reduceLT, Int.reduceToNat, Nat.min_eq_left, Int.reducePow, Int.reduceNeg, Int.reduceEq]
    refine callV_of (settle_spec _ ⟨g11.1, g11.2.1⟩ ⟨g12.1, g12.2.1⟩) ?_
    simp (dsimp := false) only [go_sem, Nat.reduceAdd, Nat.reduceEqDiff, Nat.reduceMul, Nat.reduceLeDiff, Nat.reduceSub, Nat.reduceLT, ↓reduceIte, reduceCtorEq, List.reduceReplicate, List.flatten_cons, List.flatten_nil, List.append_nil, eq_self, Int.reduceLE, Int.reduceLT, Int.reduceToNat, Nat.min_eq_left, Int.reducePow, Int.reduceNeg, Int.reduceEq]
  · simp (dsimp := false) only [go_sem, Nat.reduceAdd, Nat.reduceEqDiff, Nat.reduceMul, Nat.reduceLeDiff, Nat.reduceSub, Nat.reduceLT, ↓reduceIte, reduceCtorEq, List.reduceReplicate, List.flatten_cons, List.flatten_nil, List.append_nil, eq_self, Int.reduceLE, Int.reduceLT, Int.reduceToNat, Nat.min_eq_left, Int.reducePow, Int.reduceNeg, Int.reduceEq, (show ((30 : Int) != 0) = true from rfl)]
    refine callV_of (cawake_spec (k.pre (.app _ _))) ?_
    simp (dsimp := false) only [go_sem, Nat.reduceAdd, Nat.reduceEqDiff, Nat.reduceMul, Nat.reduceLeDiff, Nat.reduceSub, Nat.reduceLT, ↓reduceIte, reduceCtorEq, List.reduceReplicate, List.flatten_cons, List.flatten_nil, List.append_nil, eq_self, Int.reduceLE, Int.reduceLT, Int.reduceToNat, Nat.min_eq_left, Int.reducePow, Int.reduceNeg, Int.reduceEq]
end Go.Proofs.YtoiihalnbdehkaaDoor.B
