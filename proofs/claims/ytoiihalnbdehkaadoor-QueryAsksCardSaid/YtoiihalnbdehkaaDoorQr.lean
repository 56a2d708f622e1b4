/-
  Layer 26: the words, and what is answered.
-/
import Derived.Test.YtoiihalnbdehkaaDoorQg
namespace Go.Proofs.YtoiihalnbdehkaaDoor.B
open Go
set_option linter.unusedVariables false
set_option linter.unusedSimpArgs false
set_option maxRecDepth 100000
/-- The words, and what is answered. -/
def words7 : List ByteArray := [⟨#[102, 105, 98]⟩, ⟨#[111, 119, 110]⟩, ⟨#[108, 105, 118, 101]⟩, ⟨#[99, 111, 117, 110, 116, 101, 114, 115]⟩, ⟨#[110, 111, 119]⟩, ⟨#[98, 111, 111, 116]⟩, ⟨#[100, 101, 97, 100]⟩]
def ansW (T : TD) : Nat → List ByteArray
  | 0 => T.fib.map hopS
  | 1 => [if T.any then keyS T.oe T.os T.om else noneS]
  | 2 => [orN (joinS (wS T.live) spS)]
  | 3 => [orN (rtS T.ctr 19)]
  | 4 => [wholeS T.now]
  | 5 => [decS T.boot]
  | _ => [wholeS T.dead]
theorem strR_at {h : AHeap} {v : Value} {L : List ByteArray} (k : Ls h 1 strR v L) {h2 : AHeap} (p : Pre h h2) {i : Nat} (hi : i < L.length) : rds h2 (sb v) (so v + i * 1) 1 = some [.string L[i]] := by
  obtain ⟨c, hc, hc2, r0, r1⟩ := k.rd2 p hi
  have : c = [.string L[i]] := hc2
  subst this
  exact r0
/-- The same lines are found to be the same. -/
theorem same26_spec {h : AHeap} {v w : Value} {l : List ByteArray} (hv : Ls h 1 strR v l) (hw : Ls h 1 strR w l) : SpecX Tryd.prog nG fn.law26_same [v, w] h fun v' h' => Pre h h' ∧ v' = .bool true := by
  refine SpecX.of_body (ir.law26_same.spec (Nat.le_of_ble_eq_true rfl)) ?_
  have e0 : (((l.length : Nat) : Int) != ((l.length : Nat) : Int)) = false := by simp
  simp (dsimp := false) only [↓ir.law26_same.bw, ir.law26_same.rs, go_sem, Nat.reduceAdd, Nat.reduceEqDiff, Nat.reduceMul, Nat.reduceLeDiff, Nat.reduceSub, Nat.reduceLT, ↓reduceIte, reduceCtorEq, List.reduceReplicate, List.flatten_cons, List.flatten_nil, List.append_nil, eq_self, Int.reduceLE, Int.reduceLT, Int.reduceToNat, Nat.min_eq_left, Int.reducePow, Int.reduceNeg, Int.reduceEq, hv.lenV, hw.lenV, e0]
  refine loopV_of (fun m e h2 => ∃ i : Nat, m = l.length - i ∧ i ≤ l.length ∧ h2 = h ∧ e = [(0, v), (1, w), (12, .int .i64 l.length), (13, .int .i64 i)]) _ ⟨0, rfl, Nat.zero_le _, rfl, rfl⟩ ?_
  rintro m e h2 ⟨i, rfl, hi, rfl, rfl⟩
  rcases Nat.lt_or_ge i l.length with hlt | hge
  · have r0 := strR_at hv (.refl _) hlt
    have r1 := strR_at hw (.refl _) hlt
    have e1 : (l[i].toList == l[i].toList) = true := by simp
    simp (dsimp := false) only [↓ir.law26_same.l1.bw, go_sem, Nat.reduceAdd, Nat.reduceEqDiff, Nat.reduceMul, Nat.reduceLeDiff, Nat.reduceSub, Nat.reduceLT, ↓reduceIte, reduceCtorEq, List.reduceReplicate, List.flatten_cons, List.flatten_nil, List.append_nil, eq_self, Int.reduceLE, Int.reduceLT, Int.reduceToNat, Nat.min_eq_left, Int.reducePow, Int.reduceNeg, Int.reduceEq, hv.ixsN hlt, hw.ixsN hlt, r0, r1, Int.ofNat_lt, hlt, decide_true, e1, Bool.not_true, wrap_succ hlt hv.le]
    exact ⟨l.length - (i + 1), by omega, i + 1, rfl, hlt, rfl⟩
  · simp (dsimp := false) only [↓ir.law26_same.l1.bw, go_sem, Nat.reduceAdd, Nat.reduceEqDiff, Nat.reduceMul, Nat.reduceLeDiff, Nat.reduceSub, Nat.reduceLT, ↓reduceIte, reduceCtorEq, List.reduceReplicate, List.flatten_cons, List.flatten_nil, List.append_nil, eq_self, Int.reduceLE, Int.reduceLT, Int.reduceToNat, Nat.min_eq_left, Int.reducePow, Int.reduceNeg, Int.reduceEq, Int.ofNat_lt, show ¬ i < l.length by omega, decide_false]
theorem setC_whole {cs vs : List Value} (hl : cs.length = vs.length) : setC cs 0 vs = vs := by
  rw [setC_eq (by omega)]
  simp [hl]
section
variable {h : AHeap} {C : List Value} {T : TD} (k : SrcT h C T)
include k
theorem askW (hg : CountV h) (hn : T.live.length ≤ 30) {j : Nat} (hj : j < 7) : SpecX Tryd.prog nG fn.query_Ask [.iface 105 (.agg ⟨C⟩), .string (words7.getD j ⟨#[]⟩)] h fun v' h' => Ans h h' (ansW T j) v' := by
  match j, hj with
  | 0, _ => exact aq_fib k hg
  | 1, _ => exact aq_own k hg
  | 2, _ => exact aq_live k hg hn
  | 3, _ => exact aq_counters k hg
  | 4, _ => exact aq_now k hg
  | 5, _ => exact aq_boot k hg
  | 6, _ => exact aq_dead k hg
theorem raskW (hn : T.live.length ≤ 30) {j : Nat} (hj : j < 7) : SpecX Tryd.prog nG fn.ref26_Ask [.agg ⟨C⟩, .string (words7.getD j ⟨#[]⟩)] h fun v' h' => Ans h h' (ansW T j) v' := by
  match j, hj with
  | 0, _ => exact raq_fib k
  | 1, _ => exact raq_own k
  | 2, _ => exact raq_live k hn
  | 3, _ => exact raq_counters k
  | 4, _ => exact raq_now k
  | 5, _ => exact raq_boot k
  | 6, _ => exact raq_dead k
end
end Go.Proofs.YtoiihalnbdehkaaDoor.B
