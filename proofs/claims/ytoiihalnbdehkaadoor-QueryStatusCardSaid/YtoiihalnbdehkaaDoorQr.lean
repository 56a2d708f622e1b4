/-
  Layer 26: the whole status.
-/
import Derived.Test.YtoiihalnbdehkaaDoorQg
import Derived.Test.YtoiihalnbdehkaaDoorQe
namespace Go.Proofs.YtoiihalnbdehkaaDoor.B
open Go
set_option linter.unusedVariables false
set_option linter.unusedSimpArgs false
set_option maxRecDepth 100000
/-- The words, and what is answered. -/
def words7 : List ByteArray := [⟨#[102, 105, 98]⟩, ⟨#[111, 119, 110]⟩, ⟨#[108, 105, 118, 101]⟩, ⟨#[99, 111, 117, 110, 116, 101, 114, 115]⟩, ⟨#[110, 111, 119]⟩, ⟨#[98, 111, 111, 116]⟩, ⟨#[100, 101, 97, 100]⟩]
def ansW (T : TD) : Nat → List ByteArray
  | 0 => T.fib.map hopS
  | 1 => [if T.any then keyS T.oe T.os T.om else noneS]
  | 2 => [orN (joinS (wS T.live) spS)]
  | 3 => [orN (rtS T.ctr 19)]
  | 4 => [wholeS T.now]
  | 5 => [decS T.boot]
  | _ => [wholeS T.dead]
def preW (w x : ByteArray) : ByteArray := w ++ ⟨#[58, 32]⟩ ++ x
def linesW (T : TD) (j : Nat) : List ByteArray := (ansW T j).map (preW (words7.getD j ⟨#[]⟩))
def allW (T : TD) : Nat → List ByteArray
  | 0 => []
  | j + 1 => allW T j ++ linesW T j
theorem words7_len : words7.length = 7 := rfl
theorem words7_get {j : Nat} (hj : j < words7.length) : words7[j] = words7.getD j ⟨#[]⟩ := by rw [List.getD_eq_getElem?_getD, List.getElem?_eq_getElem hj]; rfl
theorem allW_len (T : TD) {j : Nat} (hj : j < 7) : (allW T j).length + (ansW T j).length ≤ T.fib.length + 6 := by
  match j, hj with
  | 0, _ | 1, _ | 2, _ | 3, _ | 4, _ | 5, _ | 6, _ => simp [allW, linesW, ansW] <;> omega
theorem ls_all {h : AHeap} : Ls (h ++ [.row (.grow 1) [.string ⟨#[102, 105, 98]⟩, .string ⟨#[111, 119, 110]⟩, .string ⟨#[108, 105, 118, 101]⟩, .string ⟨#[99, 111, 117, 110, 116, 101, 114, 115]⟩, .string ⟨#[110, 111, 119]⟩, .string ⟨#[98, 111, 111, 116]⟩, .string ⟨#[100, 101, 97, 100]⟩]]) 1 strR (.slice (some ⟨h.length, 0, none⟩) 7 7) words7 :=
  Sl.ls (enc := fun s => [.string s]) (fun _ => rfl) (litS (b := h.length) (cells := words7.flatMap fun s => [.string s]) (List.getElem?_concat_length) rfl (by unfold maxI; omega)) rfl
theorem qall_spec (h : AHeap) : SpecX Tryd.prog nG fn.query_All [] h fun v' h' => Pre h h' ∧ Ls h' 1 strR v' words7 := by
  refine SpecX.of_body (ir.query_All.spec (Nat.le_of_ble_eq_true rfl)) ?_
  simp (dsimp := false) only [↓ir.query_All.bw, ir.query_All.rs, go_sem, Nat.reduceAdd, Nat.reduceEqDiff, Nat.reduceMul, Nat.reduceLeDiff, Nat.reduceSub, Nat.reduceLT, ↓reduceIte, reduceCtorEq, List.reduceReplicate, List.flatten_cons, List.flatten_nil, List.append_nil, eq_self, Int.reduceLE, Int.reduceLT, Int.reduceToNat, Nat.min_eq_left, Int.reducePow, Int.reduceNeg, Int.reduceEq]
  exact ls_all
theorem orN_size {s : ByteArray} {n : Nat} (h : s.size ≤ n) (h4 : 4 ≤ n) : (orN s).size ≤ n := by
  unfold orN; split
  · exact h4
  · exact h
theorem strR_at {h : AHeap} {v : Value} {L : List ByteArray} (k : Ls h 1 strR v L) {h2 : AHeap} (p : Pre h h2) {i : Nat} (hi : i < L.length) : rds h2 (sb v) (so v + i * 1) 1 = some [.string L[i]] := by
  obtain ⟨c, hc, hc2, r0, r1⟩ := k.rd2 p hi
  have : c = [.string L[i]] := hc2
  subst this
  exact r0
/-- The same lines are found to be the same. -/
theorem same26_spec {h : AHeap} {v w : Value} {l : List ByteArray} (hv : Ls h 1 strR v l) (hw : Ls h 1 strR w l) : SpecX Tryd.prog nG fn.law26_same [v, w] h fun v' h' => Pre h h' ∧ v' = .bool true := by
  refine SpecX.of_body (ir.law26_same.spec (Nat.le_of_ble_eq_true rfl)) ?_
  have e0 : (((l.length : Nat) : Int) != ((l.length : Nat) : Int)) = false := by simp
  simp (dsimp := false) only [↓ir.law26_same.bw, ir.law26_same.rs, go_sem, Nat.reduceAdd, Nat.reduceEqDiff, Nat.reduceMul, Nat.reduceLeDiff, Nat.reduceSub, Nat.reduceLT, ↓reduceIte, reduceCtorEq, List.reduceReplicate, List.flatten_cons, List.flatten_nil, List.append_nil, eq_self, Int.reduceLE, Int.reduceLT, Int.reduceToNat, Nat.min_eq_left, Int.reducePow, Int.reduceNeg, Int.reduceEq, hv.lenV, hw.lenV, e0]
  refine loopV_of (fun m e h2 => ∃ i : Nat, m = l.length - i ∧ i ≤ l.length ∧ h2 = h ∧ e = [(0, v), (1, w), (12, .int .i64 l.length), (13, .int .i64 i)]) _ ⟨0, rfl, Nat.zero_le _, rfl, rfl⟩ ?_
  rintro m e h2 ⟨i, rfl, hi, rfl, rfl⟩
  rcases Nat.lt_or_ge i l.length with hlt | hge
  · have r0 := strR_at hv (.refl _) hlt
    have r1 := strR_at hw (.refl _) hlt
    have e1 : (l[i].toList == l[i].toList) = true := by simp
    simp (dsimp := false) only [↓ir.law26_same.l1.bw, go_sem, Nat.reduceAdd, Nat.reduceEqDiff, Nat.reduceMul, Nat.reduceLeDiff, Nat.reduceSub, Nat.reduceLT, ↓reduceIte, reduceCtorEq, List.reduceReplicate, List.flatten_cons, List.flatten_nil, List.append_nil, eq_self, Int.reduceLE, Int.reduceLT, Int.reduceToNat, Nat.min_eq_left, Int.reducePow, Int.reduceNeg, Int.reduceEq, hv.ixsN hlt, hw.ixsN hlt, r0, r1, Int.ofNat_lt, hlt, decide_true, e1, Bool.not_true, wrap_succ hlt hv.le]
    exact ⟨l.length - (i + 1), by omega, i + 1, rfl, hlt, rfl⟩
  · simp (dsimp := false) only [↓ir.law26_same.l1.bw, go_sem, Nat.reduceAdd, Nat.reduceEqDiff, Nat.reduceMul, Nat.reduceLeDiff, Nat.reduceSub, Nat.reduceLT, ↓reduceIte, reduceCtorEq, List.reduceReplicate, List.flatten_cons, List.flatten_nil, List.append_nil, eq_self, Int.reduceLE, Int.reduceLT, Int.reduceToNat, Nat.min_eq_left, Int.reducePow, Int.reduceNeg, Int.reduceEq, Int.ofNat_lt, show ¬ i < l.length by omega, decide_false]
section
variable {h : AHeap} {C : List Value} {T : TD} (k : SrcT h C T)
include k
theorem ansW_size (hn : T.live.length ≤ 30) {j : Nat} (hj : j < 7) : ∀ x ∈ ansW T j, x.size ≤ 3000 := by
  obtain ⟨_, _, _, _, ho⟩ := k.fib
  obtain ⟨_, _, _, _, hl⟩ := k.live
  match j, hj with
  | 0, _ =>
    intro x hx
    obtain ⟨a, ha, rfl⟩ := List.mem_map.1 hx
    obtain ⟨o1, o2, o3⟩ := ho a ha
    have s1 := wholeS_size o1
    have s2 := wholeS_size o2
    have s3 := wholeS_size o3
    simp only [hopS, ByteArray.size_append, size_mk, List.size_toArray, List.length_cons, List.length_nil]
    omega
  | 1, _ =>
    intro x hx
    rw [List.mem_singleton.1 hx]
    split
    · have := keyS_size k.own.2.1 k.own.2.2.1 k.own.2.2.2
      omega
    · decide
  | 2, _ =>
    intro x hx
    rw [List.mem_singleton.1 hx]
    have := joinS_size (wS_size hl)
    have h7 : (wS T.live).length ≤ 30 := by simp; omega
    exact orN_size (by omega) (by omega)
  | 3, _ =>
    intro x hx
    rw [List.mem_singleton.1 hx]
    have := rtS_size k.ctr.2.2 19 (Nat.le_refl _)
    exact orN_size (by omega) (by omega)
  | 4, _ =>
    intro x hx
    rw [List.mem_singleton.1 hx]
    have := wholeS_size k.now.2
    omega
  | 5, _ =>
    intro x hx
    rw [List.mem_singleton.1 hx]
    have := decS_size k.boot.2
    omega
  | 6, _ =>
    intro x hx
    rw [List.mem_singleton.1 hx]
    have := wholeS_size k.dead.2
    omega
theorem askW (hg : CountV h) (hn : T.live.length ≤ 30) {j : Nat} (hj : j < 7) : SpecX Tryd.prog nG fn.query_Ask [.iface 105 (.agg ⟨C⟩), .string (words7.getD j ⟨#[]⟩)] h fun v' h' => Ans h h' (ansW T j) v' := by
  match j, hj with
  | 0, _ => exact aq_fib k hg
  | 1, _ => exact aq_own k hg
  | 2, _ => exact aq_live k hg hn
  | 3, _ => exact aq_counters k hg
  | 4, _ => exact aq_now k hg
  | 5, _ => exact aq_boot k hg
  | 6, _ => exact aq_dead k hg
theorem raskW (hn : T.live.length ≤ 30) {j : Nat} (hj : j < 7) : SpecX Tryd.prog nG fn.ref26_Ask [.agg ⟨C⟩, .string (words7.getD j ⟨#[]⟩)] h fun v' h' => Ans h h' (ansW T j) v' := by
  match j, hj with
  | 0, _ => exact raq_fib k
  | 1, _ => exact raq_own k
  | 2, _ => exact raq_live k hn
  | 3, _ => exact raq_counters k
  | 4, _ => exact raq_now k
  | 5, _ => exact raq_boot k
  | 6, _ => exact raq_dead k
theorem status_spec (hg : CountV h) (hn : T.live.length ≤ 30) : SpecX Tryd.prog nG fn.query_Status [.iface 105 (.agg ⟨C⟩)] h fun v' h' => Ans h h' (allW T 7) v' := by
  refine SpecX.of_body (ir.query_Status.spec (Nat.le_of_ble_eq_true rfl)) ?_
  obtain ⟨_, _, _, hf, _⟩ := k.fib
  have hfi : T.fib.length * 24 ≤ 140737488351232 := hf
  simp (dsimp := false) only [↓ir.query_Status.bw, ir.query_Status.rs, go_sem, Nat.reduceAdd, Nat.reduceEqDiff, Nat.reduceMul, Nat.reduceLeDiff, Nat.reduceSub, Nat.reduceLT, ↓reduceIte, reduceCtorEq, List.reduceReplicate, List.flatten_cons, List.flatten_nil, List.append_nil, eq_self, Int.reduceLE, Int.reduceLT, Int.reduceToNat, Nat.min_eq_left, Int.reducePow, Int.reduceNeg, Int.reduceEq]
  refine callV_x (qall_spec _) ?_
  rintro v h1 ⟨hp1, ls⟩
  have l7 : words7.length = 7 := rfl
  simp (dsimp := false) only [go_sem, Nat.reduceAdd, Nat.reduceEqDiff, Nat.reduceMul, Nat.reduceLeDiff, Nat.reduceSub, Nat.reduceLT, ↓reduceIte, reduceCtorEq, List.reduceReplicate, List.flatten_cons, List.flatten_nil, List.append_nil, eq_self, Int.reduceLE, Int.reduceLT, Int.reduceToNat, Nat.min_eq_left, Int.reducePow, Int.reduceNeg, Int.reduceEq, ls.lenV, l7]
  refine loopV_of (fun m e h2 => ∃ (j : Nat) (u : Value), m = 7 - j ∧ j ≤ 7 ∧ Pre h1 h2 ∧ Ow h1 h2 1 u (allW T j).length ((allW T j).map Value.string) ∧ e = [(0, .iface 105 (.agg ⟨C⟩)), (4, u), (13, v), (14, .int .i64 7), (15, .int .i64 j)]) _
    ⟨0, _, rfl, Nat.zero_le _, .refl _, .nil, rfl⟩ ?_
  rintro m e h2 ⟨j, u, rfl, hj, hp, hw, rfl⟩
  rcases Nat.lt_or_ge j 7 with jlt | jge
  · have hd : decide ((j : Int) < 7) = true := by simpa using (by omega : (j : Int) < 7)
    have e1 : IntKind.i64.wrap ((j : Int) + 1) = ((j + 1 : Nat) : Int) := wrap_succ jlt (by unfold maxI; omega)
    have r0 := strR_at ls hp (i := j) (by omega)
    rw [words7_get (by omega)] at r0
    have hal := allW_len T jlt
    have hsz := ansW_size k hn jlt
    have hws : (words7.getD j ⟨#[]⟩).size ≤ 8 := by
      match j, jlt with
      | 0, _ | 1, _ | 2, _ | 3, _ | 4, _ | 5, _ | 6, _ => decide
    simp (dsimp := false) only [↓ir.query_Status.l2.bw, go_sem, Nat.reduceAdd, Nat.reduceEqDiff, Nat.reduceMul, Nat.reduceLeDiff, Nat.reduceSub, Nat.reduceLT, ↓reduceIte, reduceCtorEq, List.reduceReplicate, List.flatten_cons, List.flatten_nil, List.append_nil, eq_self, Int.reduceLE, Int.reduceLT, Int.reduceToNat, Nat.min_eq_left, Int.reducePow, Int.reduceNeg, Int.reduceEq, hd, ls.ixsN (show j < words7.length from jlt), r0]
    refine callV_x (askW (k.pre (hp1.trans hp)) (hg.pre (hp1.trans hp)) hn jlt) ?_
    rintro _ h3 ⟨hp3, a, rfl, la, hpl⟩
    have hup := hw.place
    generalize hL : ansW T j = A at la hal hsz
    have hwj : allW T (j + 1) = allW T j ++ A.map (preW (words7.getD j ⟨#[]⟩)) := by rw [allW, linesW, hL]
    generalize words7.getD j ⟨#[]⟩ = wd at hws hwj ⊢
    generalize hP : allW T j = P at hw hal hwj
    simp (dsimp := false) only [go_sem, Nat.reduceAdd, Nat.reduceEqDiff, Nat.reduceMul, Nat.reduceLeDiff, Nat.reduceSub, Nat.reduceLT, ↓reduceIte, reduceCtorEq, List.reduceReplicate, List.flatten_cons, List.flatten_nil, List.append_nil, eq_self, Int.reduceLE, Int.reduceLT, Int.reduceToNat, Nat.min_eq_left, Int.reducePow, Int.reduceNeg, Int.reduceEq, (show ((0 : Int) != 0) = false from rfl), la.lenV]
    have hne0 : a = nilS ∨ u = nilS ∨ sb a ≠ sb u := by
      rcases hpl with q | q
      · exact .inl q
      · rcases hup with q2 | q2
        · exact .inr (.inl q2)
        · exact .inr (.inr (by omega))
    refine loopV_of (fun m e h4 => ∃ (i : Nat) (u : Value), m = A.length - i ∧ i ≤ A.length ∧ h3.length ≤ h4.length ∧ Pre h1 h4 ∧ Ls h4 1 strR a A ∧ (a = nilS ∨ u = nilS ∨ sb a ≠ sb u) ∧ Ow h1 h4 1 u (P.length + i) ((P ++ (A.take i).map (preW wd)).map Value.string) ∧ e = [(0, .iface 105 (.agg ⟨C⟩)), (4, u), (6, .string wd), (13, v), (14, .int .i64 7), (15, .int .i64 j), (28, a), (29, .int .i64 A.length), (30, .int .i64 i)]) _
      ⟨0, u, rfl, Nat.zero_le _, Nat.le_refl _, hp.trans hp3, la, hne0, by simpa using hw.pre hp3, rfl⟩ ?_
    rintro m e h4 ⟨i, u4, rfl, hi, hl34, hp14, la4, hne, hw4, rfl⟩
    rcases Nat.lt_or_ge i A.length with ilt | ige
    · have r1 := strR_at la4 (.refl _) ilt
      have z := hsz A[i] (List.getElem_mem ilt)
      simp (dsimp := false) only [↓ir.query_Status.l1.bw, go_sem, Nat.reduceAdd, Nat.reduceEqDiff, Nat.reduceMul, Nat.reduceLeDiff, Nat.reduceSub, Nat.reduceLT, ↓reduceIte, reduceCtorEq, List.reduceReplicate, List.flatten_cons, List.flatten_nil, List.append_nil, eq_self, Int.reduceLE, Int.reduceLT, Int.reduceToNat, Nat.min_eq_left, Int.reducePow, Int.reduceNeg, Int.reduceEq, la4.ixsN ilt, r1, Int.ofNat_lt, ilt, decide_true]
      refine ⟨by simp only [ByteArray.size_append, size_mk, List.size_toArray, List.length_cons, List.length_nil]; omega, ?_⟩
      refine ⟨by simp only [ByteArray.size_append, size_mk, List.size_toArray, List.length_cons, List.length_nil]; omega, ?_⟩
      refine (hw4.pre (.app _ _)).app (m := 1) rfl rfl ⟨by omega, by omega⟩ (fun u' h' ho' hc hnew _ => ?_) (hp14.app' _)
      simp (dsimp := false) only [go_sem, Nat.reduceAdd, Nat.reduceEqDiff, Nat.reduceMul, Nat.reduceLeDiff, Nat.reduceSub, Nat.reduceLT, ↓reduceIte, reduceCtorEq, List.reduceReplicate, List.flatten_cons, List.flatten_nil, List.append_nil, eq_self, Int.reduceLE, Int.reduceLT, Int.reduceToNat, Nat.min_eq_left, Int.reducePow, Int.reduceNeg, Int.reduceEq, wrap_succ ilt la4.le]
      have hlx : h4.length ≤ h'.length := Nat.le_trans (by simp) hc.1.1
      refine ⟨A.length - (i + 1), by omega, i + 1, u', rfl, ilt, Nat.le_trans hl34 hlx, hc.pre (hp14.app' _), (la4.pre (.app _ _)).chg hc hne, ?_, ?_, rfl⟩
      · rcases hpl with q | q
        · exact .inl q
        · rcases hnew (by omega) with q2 | ⟨q2, q3⟩
          · simp at q2; exact .inr (.inr (by omega))
          · rw [q2]
            rcases hne with q4 | q4 | q4
            · exact .inl q4
            · exact absurd q4 q3
            · exact .inr (.inr q4)
      · rw [List.take_succ_eq_append_getElem ilt]
        simp only [List.map_append, List.map_cons, List.map_nil, List.append_assoc] at ho' ⊢
        exact ho'
    · obtain rfl : i = A.length := by omega
      simp (dsimp := false) only [↓ir.query_Status.l1.bw, go_sem, Nat.reduceAdd, Nat.reduceEqDiff, Nat.reduceMul, Nat.reduceLeDiff, Nat.reduceSub, Nat.reduceLT, ↓reduceIte, reduceCtorEq, List.reduceReplicate, List.flatten_cons, List.flatten_nil, List.append_nil, eq_self, Int.reduceLE, Int.reduceLT, Int.reduceToNat, Nat.min_eq_left, Int.reducePow, Int.reduceNeg, Int.reduceEq, Int.ofNat_lt, show ¬ A.length < A.length by omega, decide_false, e1]
      rw [List.take_of_length_le (Nat.le_refl _)] at hw4
      refine ⟨7 - (j + 1), by omega, j + 1, u4, rfl, by omega, hp14, ?_, rfl⟩
      rw [hwj]
      simpa using hw4
  · have hd : decide ((j : Int) < 7) = false := by simpa using (by omega : ¬ (j : Int) < 7)
    obtain rfl : j = 7 := by omega
    simp (dsimp := false) only [↓ir.query_Status.l2.bw, go_sem, Nat.reduceAdd, Nat.reduceEqDiff, Nat.reduceMul, Nat.reduceLeDiff, Nat.reduceSub, Nat.reduceLT, ↓reduceIte, reduceCtorEq, List.reduceReplicate, List.flatten_cons, List.flatten_nil, List.append_nil, eq_self, Int.reduceLE, Int.reduceLT, Int.reduceToNat, Nat.min_eq_left, Int.reducePow, Int.reduceNeg, Int.reduceEq, hd]
    have hs := hw.sl
    rw [show (allW T 7).map Value.string = (allW T 7).flatMap (fun x => [Value.string x]) from List.map_eq_flatMap] at hs
    exact ⟨hp1.trans hp, _, rfl, Sl.ls (enc := fun x : ByteArray => [Value.string x]) (fun _ => rfl) hs rfl, hw.place.imp id fun q => ⟨Nat.le_trans hp1.len q.1, q.2⟩⟩
end
end Go.Proofs.YtoiihalnbdehkaaDoor.B
/-
  Layer 26: the whole status is the document's (P26.2).
-/
namespace Go.Proofs.YtoiihalnbdehkaaDoor.B
open Go
set_option linter.unusedVariables false
set_option linter.unusedSimpArgs false
set_option maxRecDepth 100000
theorem setC_whole {cs vs : List Value} (hl : cs.length = vs.length) : setC cs 0 vs = vs := by
  rw [setC_eq (by omega)]
  simp [hl]
theorem ask_nil (h : AHeap) (s : ByteArray) : Spec Tryd.prog nG fn.query_Ask [.nilIface, .string s] h (.tuple #[.slice none 0 0, .int .i64 2]) h := by
  apply ir.query_Ask.spec (Nat.le_of_ble_eq_true rfl)
  simp (dsimp := false) only [↓ir.query_Ask.bw, ir.query_Ask.rs, go_sem, Nat.reduceAdd, Nat.reduceEqDiff, Nat.reduceMul, Nat.reduceLeDiff, Nat.reduceSub, Nat.reduceLT, ↓reduceIte, reduceCtorEq, List.reduceReplicate, List.flatten_cons, List.flatten_nil, List.append_nil, eq_self, Int.reduceLE, Int.reduceLT, Int.reduceToNat, Nat.min_eq_left, Int.reducePow, Int.reduceNeg, Int.reduceEq]
  exact .inl ⟨rfl, rfl⟩
theorem status_nil (h : AHeap) : Spec Tryd.prog nG fn.query_Status [.nilIface] h (.tuple #[.slice none 0 0, .int .i64 2]) h := by
  apply ir.query_Status.spec (Nat.le_of_ble_eq_true rfl)
  simp (dsimp := false) only [↓ir.query_Status.bw, ir.query_Status.rs, go_sem, Nat.reduceAdd, Nat.reduceEqDiff, Nat.reduceMul, Nat.reduceLeDiff, Nat.reduceSub, Nat.reduceLT, ↓reduceIte, reduceCtorEq, List.reduceReplicate, List.flatten_cons, List.flatten_nil, List.append_nil, eq_self, Int.reduceLE, Int.reduceLT, Int.reduceToNat, Nat.min_eq_left, Int.reducePow, Int.reduceNeg, Int.reduceEq]
  exact .inl ⟨rfl, rfl⟩
theorem queryStatus_spec {h : AHeap} {C : List Value} {T : TD} (hg : CountV h) (k : SrcT h C T) : SpecX Tryd.prog nG fn.law26_QueryStatus [.agg ⟨C⟩] h fun v' _ => v' = .bool true := by
  refine SpecX.of_body (ir.law26_QueryStatus.spec (Nat.le_of_ble_eq_true rfl)) ?_
  obtain ⟨v, ev, ls, hf, _⟩ := k.fib
  obtain ⟨u, eu, lsu, _, _⟩ := k.live
  have hfi : T.fib.length * 24 ≤ 140737488351232 := hf
  have fx : Fx (h ++ [.row .fix C]) h.length C := Fx.here h C []
  have hp0 : Pre h (h ++ [.row .fix C]) := .app _ _
  have r0 : rds (h ++ [.row .fix C]) h.length 0 1 = some [v] := fx.rd ev (by rw [k.len]; omega)
  simp (dsimp := false) only [↓ir.law26_QueryStatus.bw, ir.law26_QueryStatus.rs, go_sem, Nat.reduceAdd, Nat.reduceEqDiff, Nat.reduceMul, Nat.reduceLeDiff, Nat.reduceSub, Nat.reduceLT, ↓reduceIte, reduceCtorEq, List.reduceReplicate, List.flatten_cons, List.flatten_nil, List.append_nil, eq_self, Int.reduceLE, Int.reduceLT, Int.reduceToNat, Nat.min_eq_left, Int.reducePow, Int.reduceNeg, Int.reduceEq, r0]
  refine callV_x (table_spec (ls.pre hp0)) ?_
  rintro _ h1 ⟨hp1, t, rfl, ht⟩
  have r37 : rds h1 h.length 37 1 = some [u] := (fx.pre hp1).rd eu (by rw [k.len]; omega)
  cases t with
  | false =>
    simp (dsimp := false) only [go_sem, Nat.reduceAdd, Nat.reduceEqDiff, Nat.reduceMul, Nat.reduceLeDiff, Nat.reduceSub, Nat.reduceLT, ↓reduceIte, reduceCtorEq, List.reduceReplicate, List.flatten_cons, List.flatten_nil, List.append_nil, eq_self, Int.reduceLE, Int.reduceLT, Int.reduceToNat, Nat.min_eq_left, Int.reducePow, Int.reduceNeg, Int.reduceEq, Bool.not_false, Bool.not_true]
    refine callV_of (qawake_spec _) ?_
    simp (dsimp := false) only [go_sem, Nat.reduceAdd, Nat.reduceEqDiff, Nat.reduceMul, Nat.reduceLeDiff, Nat.reduceSub, Nat.reduceLT, ↓reduceIte, reduceCtorEq, List.reduceReplicate, List.flatten_cons, List.flatten_nil, List.append_nil, eq_self, Int.reduceLE, Int.reduceLT, Int.reduceToNat, Nat.min_eq_left, Int.reducePow, Int.reduceNeg, Int.reduceEq]
  | true =>
    simp (dsimp := false) only [go_sem, Nat.reduceAdd, Nat.reduceEqDiff, Nat.reduceMul, Nat.reduceLeDiff, Nat.reduceSub, Nat.reduceLT, ↓reduceIte, reduceCtorEq, List.reduceReplicate, List.flatten_cons, List.flatten_nil, List.append_nil, eq_self, Int.reduceLE, Int.reduceLT, Int.reduceToNat, Nat.min_eq_left, Int.reducePow, Int.reduceNeg, Int.reduceEq, Bool.not_false, Bool.not_true, r37, lsu.lenV]
    refine cVd (fun _ => ?_) (fun hn => ?_)
    · simp (dsimp := false) only [go_sem, Nat.reduceAdd, Nat.reduceEqDiff, Nat.reduceMul, Nat.reduceLeDiff, Nat.reduceSub, Nat.reduceLT, ↓reduceIte, reduceCtorEq, List.reduceReplicate, List.flatten_cons, List.flatten_nil, List.append_nil, eq_self, Int.reduceLE, Int.reduceLT, Int.reduceToNat, Nat.min_eq_left, Int.reducePow, Int.reduceNeg, Int.reduceEq]
      refine callV_of (qawake_spec _) ?_
      simp (dsimp := false) only [go_sem, Nat.reduceAdd, Nat.reduceEqDiff, Nat.reduceMul, Nat.reduceLeDiff, Nat.reduceSub, Nat.reduceLT, ↓reduceIte, reduceCtorEq, List.reduceReplicate, List.flatten_cons, List.flatten_nil, List.append_nil, eq_self, Int.reduceLE, Int.reduceLT, Int.reduceToNat, Nat.min_eq_left, Int.reducePow, Int.reduceNeg, Int.reduceEq]
    · have hn : T.live.length ≤ 30 := by omega
      have hp01 : Pre h h1 := hp0.trans hp1
      have fx1 := fx.pre hp1
      generalize hb : h.length = b at fx1 ⊢
      have rC : ∀ {h2}, Pre h1 h2 → rds h2 b 0 68 = some C := fun p => (fx1.pre p).rd (by rw [List.drop_zero, List.take_of_length_le (by rw [k.len]; omega)]) (by rw [k.len]; omega)
      have rC1 := rC (.refl _)
      simp (dsimp := false) only [go_sem, Nat.reduceAdd, Nat.reduceEqDiff, Nat.reduceMul, Nat.reduceLeDiff, Nat.reduceSub, Nat.reduceLT, ↓reduceIte, reduceCtorEq, List.reduceReplicate, List.flatten_cons, List.flatten_nil, List.append_nil, eq_self, Int.reduceLE, Int.reduceLT, Int.reduceToNat, Nat.min_eq_left, Int.reducePow, Int.reduceNeg, Int.reduceEq, rC1]
      rw [if_pos ⟨k.len, by simp [zrep]⟩, setC_whole (by rw [k.len]; rfl)]
      simp (dsimp := false) only [go_sem, Nat.reduceAdd, Nat.reduceEqDiff, Nat.reduceMul, Nat.reduceLeDiff, Nat.reduceSub, Nat.reduceLT, ↓reduceIte, reduceCtorEq, List.reduceReplicate, List.flatten_cons, List.flatten_nil, List.append_nil, eq_self, Int.reduceLE, Int.reduceLT, Int.reduceToNat, Nat.min_eq_left, Int.reducePow, Int.reduceNeg, Int.reduceEq, wpI_mkiface, ifaceV]
      refine callV_x (status_spec (k.pre hp01) (hg.pre hp01) hn) ?_
      rintro _ h2 ⟨hp2, a0, rfl, la0, _⟩
      simp (dsimp := false) only [go_sem, Nat.reduceAdd, Nat.reduceEqDiff, Nat.reduceMul, Nat.reduceLeDiff, Nat.reduceSub, Nat.reduceLT, ↓reduceIte, reduceCtorEq, List.reduceReplicate, List.flatten_cons, List.flatten_nil, List.append_nil, eq_self, Int.reduceLE, Int.reduceLT, Int.reduceToNat, Nat.min_eq_left, Int.reducePow, Int.reduceNeg, Int.reduceEq]
      have vls := ls_all (h := h2)
      have hps : Pre h2 (h2 ++ [.row (.grow 1) [.string ⟨#[102, 105, 98]⟩, .string ⟨#[111, 119, 110]⟩, .string ⟨#[108, 105, 118, 101]⟩, .string ⟨#[99, 111, 117, 110, 116, 101, 114, 115]⟩, .string ⟨#[110, 111, 119]⟩, .string ⟨#[98, 111, 111, 116]⟩, .string ⟨#[100, 101, 97, 100]⟩]]) := .app _ _
      have la := la0.pre hps
      have rC := fun {h3} (p : Pre (h2 ++ [.row (.grow 1) [.string ⟨#[102, 105, 98]⟩, .string ⟨#[111, 119, 110]⟩, .string ⟨#[108, 105, 118, 101]⟩, .string ⟨#[99, 111, 117, 110, 116, 101, 114, 115]⟩, .string ⟨#[110, 111, 119]⟩, .string ⟨#[98, 111, 111, 116]⟩, .string ⟨#[100, 101, 97, 100]⟩]]) h3) => rC ((hp2.trans hps).trans p)
      have hp0s : Pre h (h2 ++ [.row (.grow 1) [.string ⟨#[102, 105, 98]⟩, .string ⟨#[111, 119, 110]⟩, .string ⟨#[108, 105, 118, 101]⟩, .string ⟨#[99, 111, 117, 110, 116, 101, 114, 115]⟩, .string ⟨#[110, 111, 119]⟩, .string ⟨#[98, 111, 111, 116]⟩, .string ⟨#[100, 101, 97, 100]⟩]]) := (hp01.trans hp2).trans hps
      generalize (h2 ++ [AObj.row (.grow 1) [.string ⟨#[102, 105, 98]⟩, .string ⟨#[111, 119, 110]⟩, .string ⟨#[108, 105, 118, 101]⟩, .string ⟨#[99, 111, 117, 110, 116, 101, 114, 115]⟩, .string ⟨#[110, 111, 119]⟩, .string ⟨#[98, 111, 111, 116]⟩, .string ⟨#[100, 101, 97, 100]⟩]]) = hs at vls hps la rC hp0s ⊢
      generalize (Value.slice (some ⟨h2.length, 0, none⟩) 7 7) = vv at vls ⊢
      refine loopV_of (fun m e h3 => ∃ (j : Nat) (u : Value), m = 7 - j ∧ j ≤ 7 ∧ Pre hs h3 ∧ Ow hs h3 1 u (allW T j).length ((allW T j).map Value.string) ∧ e = [(1, .pointer (some ⟨b, 0, none⟩)), (3, a0), (4, .int .i64 0), (5, u), (34, vv), (35, .int .i64 7), (36, .int .i64 j)]) _
        ⟨0, _, rfl, Nat.zero_le _, .refl _, .nil, rfl⟩ ?_
      rintro m e h3 ⟨j, u, rfl, hj, hp, hw, rfl⟩
      rcases Nat.lt_or_ge j 7 with jlt | jge
      · have hd : decide ((j : Int) < 7) = true := by simpa using (by omega : (j : Int) < 7)
        have e1 : IntKind.i64.wrap ((j : Int) + 1) = ((j + 1 : Nat) : Int) := wrap_succ jlt (by unfold maxI; omega)
        have q0 := strR_at vls hp (i := j) (show j < words7.length from jlt)
        rw [words7_get (show j < words7.length from jlt)] at q0
        have hal := allW_len T jlt
        have hsz := ansW_size k hn jlt
        have hws : (words7.getD j ⟨#[]⟩).size ≤ 8 := by
          match j, jlt with
          | 0, _ | 1, _ | 2, _ | 3, _ | 4, _ | 5, _ | 6, _ => decide
        have rc := rC hp
        have agt : aggOf true C = some (.agg ⟨C⟩) := rfl
        simp (dsimp := false) only [↓ir.law26_QueryStatus.l2.bw, go_sem, Nat.reduceAdd, Nat.reduceEqDiff, Nat.reduceMul, Nat.reduceLeDiff, Nat.reduceSub, Nat.reduceLT, ↓reduceIte, reduceCtorEq, List.reduceReplicate, List.flatten_cons, List.flatten_nil, List.append_nil, eq_self, Int.reduceLE, Int.reduceLT, Int.reduceToNat, Nat.min_eq_left, Int.reducePow, Int.reduceNeg, Int.reduceEq, hd, vls.ixsN (show j < words7.length from jlt), q0, rc]
        refine callV_x (raskW (k.pre (hp0s.trans hp)) hn jlt) ?_
        rintro _ h4 ⟨hp4, a, rfl, la1, hpl⟩
        have hup := hw.place
        generalize hL : ansW T j = A at la1 hal hsz
        have hwj : allW T (j + 1) = allW T j ++ A.map (preW (words7.getD j ⟨#[]⟩)) := by rw [allW, linesW, hL]
        generalize words7.getD j ⟨#[]⟩ = wd at hws hwj ⊢
        generalize hP : allW T j = P at hw hal hwj
        simp (dsimp := false) only [go_sem, Nat.reduceAdd, Nat.reduceEqDiff, Nat.reduceMul, Nat.reduceLeDiff, Nat.reduceSub, Nat.reduceLT, ↓reduceIte, reduceCtorEq, List.reduceReplicate, List.flatten_cons, List.flatten_nil, List.append_nil, eq_self, Int.reduceLE, Int.reduceLT, Int.reduceToNat, Nat.min_eq_left, Int.reducePow, Int.reduceNeg, Int.reduceEq, la1.lenV]
        have hne0 : a = nilS ∨ u = nilS ∨ sb a ≠ sb u := by
          rcases hpl with q | q
          · exact .inl q
          · rcases hup with q2 | q2
            · exact .inr (.inl q2)
            · exact .inr (.inr (by omega))
        refine loopV_of (fun m e h5 => ∃ (i : Nat) (u : Value), m = A.length - i ∧ i ≤ A.length ∧ h4.length ≤ h5.length ∧ Pre hs h5 ∧ Ls h5 1 strR a A ∧ (a = nilS ∨ u = nilS ∨ sb a ≠ sb u) ∧ Ow hs h5 1 u (P.length + i) ((P ++ (A.take i).map (preW wd)).map Value.string) ∧ e = [(1, .pointer (some ⟨b, 0, none⟩)), (3, a0), (4, .int .i64 0), (5, u), (7, .string wd), (34, vv), (35, .int .i64 7), (36, .int .i64 j), (46, a), (47, .int .i64 A.length), (48, .int .i64 i)]) _
          ⟨0, u, rfl, Nat.zero_le _, Nat.le_refl _, hp.trans hp4, la1, hne0, by simpa using hw.pre hp4, rfl⟩ ?_
        rintro m e h5 ⟨i, u4, rfl, hi, hl34, hp14, la4, hne, hw4, rfl⟩
        rcases Nat.lt_or_ge i A.length with ilt | ige
        · have r1 := strR_at la4 (.refl _) ilt
          have z := hsz A[i] (List.getElem_mem ilt)
          simp (dsimp := false) only [↓ir.law26_QueryStatus.l1.bw, go_sem, Nat.reduceAdd, Nat.reduceEqDiff, Nat.reduceMul, Nat.reduceLeDiff, Nat.reduceSub, Nat.reduceLT, ↓reduceIte, reduceCtorEq, List.reduceReplicate, List.flatten_cons, List.flatten_nil, List.append_nil, eq_self, Int.reduceLE, Int.reduceLT, Int.reduceToNat, Nat.min_eq_left, Int.reducePow, Int.reduceNeg, Int.reduceEq, la4.ixsN ilt, r1, Int.ofNat_lt, ilt, decide_true]
          refine ⟨by simp only [ByteArray.size_append, size_mk, List.size_toArray, List.length_cons, List.length_nil]; omega, ?_⟩
          refine ⟨by simp only [ByteArray.size_append, size_mk, List.size_toArray, List.length_cons, List.length_nil]; omega, ?_⟩
          refine (hw4.pre (.app _ _)).app (m := 1) rfl rfl ⟨by omega, by omega⟩ (fun u' h' ho' hc hnew _ => ?_) (hp14.app' _)
          simp (dsimp := false) only [go_sem, Nat.reduceAdd, Nat.reduceEqDiff, Nat.reduceMul, Nat.reduceLeDiff, Nat.reduceSub, Nat.reduceLT, ↓reduceIte, reduceCtorEq, List.reduceReplicate, List.flatten_cons, List.flatten_nil, List.append_nil, eq_self, Int.reduceLE, Int.reduceLT, Int.reduceToNat, Nat.min_eq_left, Int.reducePow, Int.reduceNeg, Int.reduceEq, wrap_succ ilt la4.le]
          have hlx : h5.length ≤ h'.length := Nat.le_trans (by simp) hc.1.1
          refine ⟨A.length - (i + 1), by omega, i + 1, u', rfl, ilt, Nat.le_trans hl34 hlx, hc.pre (hp14.app' _), (la4.pre (.app _ _)).chg hc hne, ?_, ?_, rfl⟩
          · rcases hpl with q | q
            · exact .inl q
            · rcases hnew (by omega) with q2 | ⟨q2, q3⟩
              · simp at q2; exact .inr (.inr (by omega))
              · rw [q2]
                rcases hne with q4 | q4 | q4
                · exact .inl q4
                · exact absurd q4 q3
                · exact .inr (.inr q4)
          · rw [List.take_succ_eq_append_getElem ilt]
            simp only [List.map_append, List.map_cons, List.map_nil, List.append_assoc] at ho' ⊢
            exact ho'
        · obtain rfl : i = A.length := by omega
          simp (dsimp := false) only [↓ir.law26_QueryStatus.l1.bw, go_sem, Nat.reduceAdd, Nat.reduceEqDiff, Nat.reduceMul, Nat.reduceLeDiff, Nat.reduceSub, Nat.reduceLT, ↓reduceIte, reduceCtorEq, List.reduceReplicate, List.flatten_cons, List.flatten_nil, List.append_nil, eq_self, Int.reduceLE, Int.reduceLT, Int.reduceToNat, Nat.min_eq_left, Int.reducePow, Int.reduceNeg, Int.reduceEq, Int.ofNat_lt, show ¬ A.length < A.length by omega, decide_false, e1]
          rw [List.take_of_length_le (Nat.le_refl _)] at hw4
          refine ⟨7 - (j + 1), by omega, j + 1, u4, rfl, by omega, hp14, ?_, rfl⟩
          rw [hwj]
          simpa using hw4
      · have hd : decide ((j : Int) < 7) = false := by simpa using (by omega : ¬ (j : Int) < 7)
        obtain rfl : j = 7 := by omega
        have hs7 := hw.sl
        rw [show (allW T 7).map Value.string = (allW T 7).flatMap (fun x => [Value.string x]) from List.map_eq_flatMap] at hs7
        have lu := Sl.ls (enc := fun x : ByteArray => [Value.string x]) (fun _ => rfl) hs7 rfl
        have la3 := la.pre hp
        simp (dsimp := false) only [↓ir.law26_QueryStatus.l2.bw, go_sem, Nat.reduceAdd, Nat.reduceEqDiff, Nat.reduceMul, Nat.reduceLeDiff, Nat.reduceSub, Nat.reduceLT, ↓reduceIte, reduceCtorEq, List.reduceReplicate, List.flatten_cons, List.flatten_nil, List.append_nil, eq_self, Int.reduceLE, Int.reduceLT, Int.reduceToNat, Nat.min_eq_left, Int.reducePow, Int.reduceNeg, Int.reduceEq, hd]
        refine callV_of (ask_nil _ _) ?_
        simp (dsimp := false) only [go_sem, Nat.reduceAdd, Nat.reduceEqDiff, Nat.reduceMul, Nat.reduceLeDiff, Nat.reduceSub, Nat.reduceLT, ↓reduceIte, reduceCtorEq, List.reduceReplicate, List.flatten_cons, List.flatten_nil, List.append_nil, eq_self, Int.reduceLE, Int.reduceLT, Int.reduceToNat, Nat.min_eq_left, Int.reducePow, Int.reduceNeg, Int.reduceEq]
        refine callV_of (status_nil _) ?_
        simp (dsimp := false) only [go_sem, Nat.reduceAdd, Nat.reduceEqDiff, Nat.reduceMul, Nat.reduceLeDiff, Nat.reduceSub, Nat.reduceLT, ↓reduceIte, reduceCtorEq, List.reduceReplicate, List.flatten_cons, List.flatten_nil, List.append_nil, eq_self, Int.reduceLE, Int.reduceLT, Int.reduceToNat, Nat.min_eq_left, Int.reducePow, Int.reduceNeg, Int.reduceEq]
        refine callV_of (qawake_spec _) ?_
        simp (dsimp := false) only [go_sem, Nat.reduceAdd, Nat.reduceEqDiff, Nat.reduceMul, Nat.reduceLeDiff, Nat.reduceSub, Nat.reduceLT, ↓reduceIte, reduceCtorEq, List.reduceReplicate, List.flatten_cons, List.flatten_nil, List.append_nil, eq_self, Int.reduceLE, Int.reduceLT, Int.reduceToNat, Nat.min_eq_left, Int.reducePow, Int.reduceNeg, Int.reduceEq, (show ((0 : Int) == 0) = true from rfl)]
        refine callV_x (same26_spec la3 lu) ?_
        rintro _ h6 ⟨hp6, rfl⟩
        simp (dsimp := false) only [go_sem, Nat.reduceAdd, Nat.reduceEqDiff, Nat.reduceMul, Nat.reduceLeDiff, Nat.reduceSub, Nat.reduceLT, ↓reduceIte, reduceCtorEq, List.reduceReplicate, List.flatten_cons, List.flatten_nil, List.append_nil, eq_self, Int.reduceLE, Int.reduceLT, Int.reduceToNat, Nat.min_eq_left, Int.reducePow, Int.reduceNeg, Int.reduceEq, (show ((2 : Int) == 2) = true from rfl)]
        refine callV_x (qall_spec _) ?_
        rintro v7 h7 ⟨hp7, l7⟩
        simp (dsimp := false) only [go_sem, Nat.reduceAdd, Nat.reduceEqDiff, Nat.reduceMul, Nat.reduceLeDiff, Nat.reduceSub, Nat.reduceLT, ↓reduceIte, reduceCtorEq, List.reduceReplicate, List.flatten_cons, List.flatten_nil, List.append_nil, eq_self, Int.reduceLE, Int.reduceLT, Int.reduceToNat, Nat.min_eq_left, Int.reducePow, Int.reduceNeg, Int.reduceEq, l7.lenV, words7_len]
        rfl
end Go.Proofs.YtoiihalnbdehkaaDoor.B
