/-
  Layer 34: what happened between two views: nodes, and what is found in a table.
-/
import Derived.Test.YtoiihalnbdehkaaDoorVe
import Derived.Test.YtoiihalnbdehkaaDoorArE
namespace Go.Proofs.YtoiihalnbdehkaaDoor.B
open Go
set_option linter.unusedVariables false
set_option linter.unusedSimpArgs false
structure HopR where
  d : Int
  n : Int
  t : Int
abbrev HopR.c (x : HopR) : List Value := [.int .i64 x.d, .int .i64 x.n, .int .i64 x.t]
abbrev isHR (c : List Value) (x : HopR) : Prop := c = x.c
/-- A node as it is seen. -/
structure NodeR where
  up : Bool
  boot : Nat
  e : Nat
  s : Nat
  m : Int
  live : Nat
  hops : List HopR
abbrev NodeR.c (x : NodeR) (tv : Value) : List Value := [.bool x.up, .int .u64 x.boot, .int .u32 x.e, .int .u32 x.s, .int .i64 x.m, .int .u8 x.live, tv]
abbrev isNR (h : AHeap) (c : List Value) (x : NodeR) : Prop := ∃ tv, c = x.c tv ∧ Ls h 3 isHR tv x.hops
def zeroN : NodeR := ⟨false, 0, 0, 0, 0, 0, []⟩
structure NodeR.ok (x : NodeR) : Prop where
  boot : x.boot < 18446744073709551616
  e : x.e < 4294967296
  s : x.s < 4294967296
  live : x.live < 256
/-- What is found first. -/
def findH (l : List HopR) (d : Int) : Option HopR := l.find? fun x => x.d == d
theorem findH_some {l : List HopR} {d : Int} {i : Nat} (hi : i < l.length) (h : l[i].d = d) (h2 : ∀ j (hj : j < i), l[j].d ≠ d) : findH l d = some l[i] := by
  unfold findH
  rw [List.find?_eq_some_iff_getElem]
  refine ⟨by simpa using h, i, hi, rfl, fun j hj => ?_⟩
  have := h2 j hj
  simpa using this
theorem findH_none {l : List HopR} {d : Int} (h2 : ∀ j (hj : j < l.length), l[j].d ≠ d) : findH l d = none := by
  unfold findH
  rw [List.find?_eq_none]
  intro x hx
  obtain ⟨j, hj, rfl⟩ := List.getElem_of_mem hx
  simpa using h2 j hj
theorem find1_spec {h : AHeap} {b : Nat} {d : Int} (r : rds h b 0 1 = some [.int .i64 d]) (x : HopR) : Spec Tryd.prog nG fn.watch_find_1 [.agg ⟨x.c⟩, .pointer (some ⟨b, 0, none⟩)] h (.bool (x.d == d)) h := by
  apply ir.watch_find_1.spec (Nat.le_of_ble_eq_true rfl)
  have r2 := fun g => rds_old r g
  simp (dsimp := false) only [↓ir.watch_find_1.bw, ir.watch_find_1.rs, go_sem, Nat.reduceAdd, Nat.reduceEqDiff, Nat.reduceMul, Nat.reduceLeDiff, Nat.reduceSub, Nat.reduceLT, ↓reduceIte, reduceCtorEq, List.reduceReplicate, List.flatten_cons, List.flatten_nil, List.append_nil, eq_self, Int.reduceLE, Int.reduceLT, Int.reduceToNat, Nat.min_eq_left, Int.reducePow, Int.reduceNeg, Int.reduceEq, r2]
  exact Fin.sc rfl rfl
theorem good_find1 : goodFn Tryd.prog fn.watch_find_1 = true := by kernel_rfl
theorem indexH_spec {h : AHeap} {v : Value} {l : List HopR} (hv : Ls h 3 isHR v l) {b : Nat} {d : Int} (r : rds h b 0 1 = some [.int .i64 d]) :
    SpecX Tryd.prog nG fn.slices_IndexFunc_fib_Hop_fib_Hop [v, .func (.func fn.watch_find_1) #[] #[.pointer (some ⟨b, 0, none⟩)]] h fun v' h' => h' = h ∧ ∃ i : Int, v' = .int .i64 i ∧ ((i = -1 ∧ findH l d = none) ∨ ∃ (j : Nat) (hj : j < l.length), i = j ∧ findH l d = some l[j]) := by
  refine SpecX.of_body (ir.slices_IndexFunc_fib_Hop_fib_Hop.spec (Nat.le_of_ble_eq_true rfl)) ?_
  simp (dsimp := false) only [↓ir.slices_IndexFunc_fib_Hop_fib_Hop.bw, ir.slices_IndexFunc_fib_Hop_fib_Hop.rs, go_sem, Nat.reduceAdd, Nat.reduceEqDiff, Nat.reduceMul, Nat.reduceLeDiff, Nat.reduceSub, Nat.reduceLT, ↓reduceIte, reduceCtorEq, List.reduceReplicate, List.flatten_cons, List.flatten_nil, List.append_nil, eq_self, Int.reduceLE, Int.reduceLT, Int.reduceToNat, Nat.min_eq_left, Int.reducePow, Int.reduceNeg, Int.reduceEq, hv.lenV]
  refine loopV_of (fun m e h2 => ∃ i : Nat, m = l.length - i ∧ i ≤ l.length ∧ h2 = h ∧ (∀ j (hj : j < i) (hl : j < l.length), l[j].d ≠ d) ∧
    e = [(0, v), (1, .func (.func fn.watch_find_1) #[] #[.pointer (some ⟨b, 0, none⟩)]), (7, .int .i64 l.length), (8, .int .i64 i)]) _ ⟨0, rfl, Nat.zero_le _, rfl, fun j hj => absurd hj (Nat.not_lt_zero _), rfl⟩ ?_
  rintro m e h2 ⟨i, rfl, hi, rfl, hno, rfl⟩
  rcases Nat.lt_or_ge i l.length with hlt | hge
  · obtain ⟨_, _, t0, r0, r1⟩ := hv.rd2 (.refl _) hlt
    subst t0
    simp (dsimp := false) only [↓ir.slices_IndexFunc_fib_Hop_fib_Hop.l1.bw, go_sem, Nat.reduceAdd, Nat.reduceEqDiff, Nat.reduceMul, Nat.reduceLeDiff, Nat.reduceSub, Nat.reduceLT, ↓reduceIte, reduceCtorEq, List.reduceReplicate, List.flatten_cons, List.flatten_nil, List.append_nil, eq_self, Int.reduceLE, Int.reduceLT, Int.reduceToNat, Nat.min_eq_left, Int.reducePow, Int.reduceNeg, Int.reduceEq, Int.ofNat_lt, hlt, decide_true, hv.ixsN hlt, r0]
    refine ⟨good_find1, ?_⟩
    refine callV_of (find1_spec r _) ?_
    simp (dsimp := false) only [go_sem, Nat.reduceAdd, Nat.reduceEqDiff, Nat.reduceMul, Nat.reduceLeDiff, Nat.reduceSub, Nat.reduceLT, ↓reduceIte, reduceCtorEq, List.reduceReplicate, List.flatten_cons, List.flatten_nil, List.append_nil, eq_self, Int.reduceLE, Int.reduceLT, Int.reduceToNat, Nat.min_eq_left, Int.reducePow, Int.reduceNeg, Int.reduceEq]
    refine cVe (fun c => ?_) (fun c => ?_)
    · simp (dsimp := false) only [go_sem, Nat.reduceAdd, Nat.reduceEqDiff, Nat.reduceMul, Nat.reduceLeDiff, Nat.reduceSub, Nat.reduceLT, ↓reduceIte, reduceCtorEq, List.reduceReplicate, List.flatten_cons, List.flatten_nil, List.append_nil, eq_self, Int.reduceLE, Int.reduceLT, Int.reduceToNat, Nat.min_eq_left, Int.reducePow, Int.reduceNeg, Int.reduceEq]
      exact ⟨_, rfl, .inr ⟨i, hlt, rfl, findH_some hlt c fun j hj => hno j hj (by omega)⟩⟩
    · simp (dsimp := false) only [go_sem, Nat.reduceAdd, Nat.reduceEqDiff, Nat.reduceMul, Nat.reduceLeDiff, Nat.reduceSub, Nat.reduceLT, ↓reduceIte, reduceCtorEq, List.reduceReplicate, List.flatten_cons, List.flatten_nil, List.append_nil, eq_self, Int.reduceLE, Int.reduceLT, Int.reduceToNat, Nat.min_eq_left, Int.reducePow, Int.reduceNeg, Int.reduceEq, wrap_succ hlt hv.le]
      refine ⟨_, by omega, i + 1, rfl, by omega, fun j hj hl => ?_, rfl⟩
      rcases Nat.lt_or_ge j i with q | q
      · exact hno j q hl
      · obtain rfl : j = i := by omega
        exact c
  · simp (dsimp := false) only [↓ir.slices_IndexFunc_fib_Hop_fib_Hop.l1.bw, go_sem, Nat.reduceAdd, Nat.reduceEqDiff, Nat.reduceMul, Nat.reduceLeDiff, Nat.reduceSub, Nat.reduceLT, ↓reduceIte, reduceCtorEq, List.reduceReplicate, List.flatten_cons, List.flatten_nil, List.append_nil, eq_self, Int.reduceLE, Int.reduceLT, Int.reduceToNat, Nat.min_eq_left, Int.reducePow, Int.reduceNeg, Int.reduceEq, Int.ofNat_lt, show ¬ i < l.length by omega, decide_false]
    exact ⟨_, rfl, .inl ⟨rfl, findH_none fun j hj => hno j (by omega) hj⟩⟩
theorem find_spec {h : AHeap} {v : Value} {l : List HopR} (hv : Ls h 3 isHR v l) (d : Int) :
    ∃ i : Int, Spec Tryd.prog nG fn.watch_find [v, .int .i64 d] h (.int .i64 i) h ∧ ((i = -1 ∧ findH l d = none) ∨ ∃ (j : Nat) (hj : j < l.length), i = j ∧ findH l d = some l[j]) := by
  have hv2 := hv.pre (.app h [.row .fix [.int .i64 d]])
  obtain ⟨v', h', hs, rfl, i, rfl, hi⟩ := indexH_spec hv2 (b := h.length) (d := d) (by simp [rds])
  refine ⟨i, ?_, hi⟩
  apply ir.watch_find.spec (Nat.le_of_ble_eq_true rfl)
  simp (dsimp := false) only [↓ir.watch_find.bw, ir.watch_find.rs, go_sem, Nat.reduceAdd, Nat.reduceEqDiff, Nat.reduceMul, Nat.reduceLeDiff, Nat.reduceSub, Nat.reduceLT, ↓reduceIte, reduceCtorEq, List.reduceReplicate, List.flatten_cons, List.flatten_nil, List.append_nil, eq_self, Int.reduceLE, Int.reduceLT, Int.reduceToNat, Nat.min_eq_left, Int.reducePow, Int.reduceNeg, Int.reduceEq]
  refine callV_of hs ?_
  simp (dsimp := false) only [go_sem, Nat.reduceAdd, Nat.reduceEqDiff, Nat.reduceMul, Nat.reduceLeDiff, Nat.reduceSub, Nat.reduceLT, ↓reduceIte, reduceCtorEq, List.reduceReplicate, List.flatten_cons, List.flatten_nil, List.append_nil, eq_self, Int.reduceLE, Int.reduceLT, Int.reduceToNat, Nat.min_eq_left, Int.reducePow, Int.reduceNeg, Int.reduceEq]
  exact Fin.sc rfl rfl
end Go.Proofs.YtoiihalnbdehkaaDoor.B
