/-
  Layer 26: the answer to any question.
-/
import Derived.Test.YtoiihalnbdehkaaDoorQr
import Derived.Test.YtoiihalnbdehkaaDoorQe
import Derived.Test.YtoiihalnbdehkaaDoorIr27
namespace Go.Proofs.YtoiihalnbdehkaaDoor.B
open Go
set_option linter.unusedVariables false
set_option linter.unusedSimpArgs false
set_option linter.unusedSectionVars false
set_option maxRecDepth 100000
/-- A question of two words: its verb, its rest; a number as a word. -/
def digS (d : Nat) : ByteArray := ⟨#[(48 + d).toUInt8]⟩
def vK (k : Nat) : ByteArray := if k < 8 then ⟨#[110, 101, 120, 116]⟩ else if k < 16 then ⟨#[102, 108, 111, 111, 114]⟩ else if k < 24 then ⟨#[114, 111, 111, 116, 115]⟩ else ⟨#[99, 111, 117, 110, 116, 101, 114]⟩
def rK (k : Nat) : ByteArray := if k < 24 then digS (k % 8) else countB.getD (k - 24) ⟨#[]⟩
def qK (k : Nat) : ByteArray := ⟨((vK k).data.toList ++ 32 :: (rK k).data.toList).toArray⟩
theorem qK_cut : ∀ k, k < 43 → cutL 32 (qK k).data.toList = some ((vK k).data.toList, (rK k).data.toList) := by decide +kernel
theorem qK_inj : ∀ k, k < 43 → ∀ j, j < 43 → qK k = qK j → k = j := by
  have H : (List.range 43).all (fun k => (List.range 43).all fun j => (qK k).data.toList != (qK j).data.toList || k == j) = true := by kernel_rfl
  intro k hk j hj e
  have := List.all_eq_true.1 (List.all_eq_true.1 H k (List.mem_range.2 hk)) j (List.mem_range.2 hj)
  rw [e] at this
  simpa using this
def ansK (T : TD) (k : Nat) : List ByteArray :=
  if k < 8 then [if 0 ≤ lookL T.fib k then wholeS (lookL T.fib k) else noneS]
  else if k < 16 then [if T.has (k - 8) then keyS (T.fe (k - 8)) (T.fs (k - 8)) (T.fm (k - 8)) else noneS]
  else if k < 24 then [wholeS (T.roots (k - 16))] else [wholeS (T.ctr.getD (k - 24) 0)]
/-- An answer, or the error of a wrong word. -/
def Out (T : TD) (q : ByteArray) (h h' : AHeap) (v : Value) : Prop :=
  (∃ k, k < 43 ∧ q = qK k ∧ Ans h h' (ansK T k) v) ∨ ((∀ k, k < 43 → q ≠ qK k) ∧ Pre h h' ∧ v = .tuple #[.slice none 0 0, .int .i64 40])
abbrev errV : Value := .tuple #[.slice none 0 0, .int .i64 40]
theorem ba_ext {a b : ByteArray} (h : a.data.toList = b.data.toList) : a = b := by
  apply ByteArray.ext
  exact Array.toList_inj.1 h
theorem ba_mk (a : ByteArray) : (⟨a.data.toList.toArray⟩ : ByteArray) = a := ba_ext (by simp)
/-- What a cut says of a text. -/
theorem cut_inv {c : UInt8} {l a r : List UInt8} (h : cutL c l = some (a, r)) : l = a ++ c :: r := by
  unfold cutL at h
  split at h
  · rename_i p hp
    rw [List.findIdx?_eq_some_iff_getElem] at hp
    obtain ⟨h1, h2, _⟩ := hp
    obtain ⟨rfl, rfl⟩ := Prod.mk.inj (Option.some.inj h)
    have e : l[p] = c := by simpa using h2
    rw [← e, ← List.drop_eq_getElem_cons h1, List.take_append_drop]
  · cases h
theorem q_of {q v r : ByteArray} (h : cutL 32 q.data.toList = some (v.data.toList, r.data.toList)) {k : Nat} (hv : v = vK k) (hr : r = rK k) : q = qK k := by
  subst hv hr
  exact ba_ext (cut_inv h)
theorem not_q {q v r : ByteArray} (h : cutL 32 q.data.toList = some (v.data.toList, r.data.toList)) {k : Nat} (hk : k < 43) (e : q = qK k) : v = vK k ∧ r = rK k := by
  subst e
  rw [qK_cut k hk] at h
  obtain ⟨h1, h2⟩ := Prod.mk.inj (Option.some.inj h)
  exact ⟨(ba_ext h1).symm, (ba_ext h2).symm⟩
theorem not_q0 {q : ByteArray} (h : cutL 32 q.data.toList = none) : ∀ k, k < 43 → q ≠ qK k := fun k hk e => by
  subst e
  rw [qK_cut k hk] at h
  cases h
theorem toL_iff (s t : ByteArray) : (s.toList == t.toList) = true ↔ s = t := by
  constructor
  · intro e
    have e2 : s.toList = t.toList := by simpa using e
    rw [ByteArray.toList_eq, ByteArray.toList_eq] at e2
    exact ba_ext e2
  · rintro rfl; simp
theorem toL_ne {s t : ByteArray} (h : s ≠ t) : (s.toList == t.toList) = false := by
  cases q : (s.toList == t.toList) with
  | false => rfl
  | true => exact absurd ((toL_iff s t).1 q) h
theorem qnot_spec (h : AHeap) {w : ByteArray} (hw : ∀ d, d < 8 → w ≠ digS d) : Spec Tryd.prog nG fn.query_number [.string w] h (.tuple #[.int .i64 0, .bool false]) h := by
  apply ir.query_number.spec (Nat.le_of_ble_eq_true rfl)
  by_cases h1 : w.size = 1
  · obtain ⟨c, rfl⟩ : ∃ c, w = ⟨#[c]⟩ := by
      obtain ⟨a⟩ := w
      obtain ⟨l⟩ := a
      match l, h1 with
      | [c], _ => exact ⟨c, rfl⟩
    have hc : c.toNat < 48 ∨ 55 < c.toNat := by
      rcases Nat.lt_or_ge c.toNat 48 with q | q
      · exact .inl q
      · rcases Nat.lt_or_ge 55 c.toNat with q2 | q2
        · exact .inr q2
        · exact absurd (show (⟨#[c]⟩ : ByteArray) = digS (c.toNat - 48) by
            unfold digS
            rw [show 48 + (c.toNat - 48) = c.toNat by omega]
            simp) (hw (c.toNat - 48) (by omega))
    have hs : (((#[c] : Array UInt8).size : Nat) : Int) = 1 := rfl
    have g0 : (⟨#[c]⟩ : ByteArray)[0]? = some c := rfl
    have b0 : ((1 : Int) != 1) = false := rfl
    rcases hc with q | q
    · have d1 : decide ((c.toNat : Int) < 48) = true := decide_eq_true (by omega)
      simp (dsimp := false) only [↓ir.query_number.bw, ir.query_number.rs, go_sem, Nat.reduceAdd, Nat.reduceEqDiff, Nat.reduceMul, Nat.reduceLeDiff, Nat.reduceSub, Nat.reduceLT, ↓reduceIte, reduceCtorEq, List.reduceReplicate, List.flatten_cons, List.flatten_nil, List.append_nil, eq_self, Int.reduceLE, Int.reduceLT, Int.reduceToNat, Nat.min_eq_left, Int.reducePow, Int.reduceNeg, Int.reduceEq, hs, b0, ixstrV_str, Int.toNat_zero, g0, d1]
      exact .inl ⟨rfl, rfl⟩
    · have d1 : decide ((c.toNat : Int) < 48) = false := decide_eq_false (by omega)
      have d2 : decide ((c.toNat : Int) > 55) = true := decide_eq_true (by omega)
      have d3 : decide (55 < (c.toNat : Int)) = true := d2
      simp (dsimp := false) only [↓ir.query_number.bw, ir.query_number.rs, go_sem, Nat.reduceAdd, Nat.reduceEqDiff, Nat.reduceMul, Nat.reduceLeDiff, Nat.reduceSub, Nat.reduceLT, ↓reduceIte, reduceCtorEq, List.reduceReplicate, List.flatten_cons, List.flatten_nil, List.append_nil, eq_self, Int.reduceLE, Int.reduceLT, Int.reduceToNat, Nat.min_eq_left, Int.reducePow, Int.reduceNeg, Int.reduceEq, hs, b0, ixstrV_str, Int.toNat_zero, g0, d1, d2, d3]
      exact .inl ⟨rfl, rfl⟩
  · have b0 : (((w.size : Nat) : Int) != 1) = true := by simpa using (by omega : ¬ ((w.size : Nat) : Int) = 1)
    simp (dsimp := false) only [↓ir.query_number.bw, ir.query_number.rs, go_sem, Nat.reduceAdd, Nat.reduceEqDiff, Nat.reduceMul, Nat.reduceLeDiff, Nat.reduceSub, Nat.reduceLT, ↓reduceIte, reduceCtorEq, List.reduceReplicate, List.flatten_cons, List.flatten_nil, List.append_nil, eq_self, Int.reduceLE, Int.reduceLT, Int.reduceToNat, Nat.min_eq_left, Int.reducePow, Int.reduceNeg, Int.reduceEq, b0]
    exact .inl ⟨rfl, rfl⟩
theorem qdig_spec (h : AHeap) {d : Nat} (hd : d < 8) : Spec Tryd.prog nG fn.query_number [.string (digS d)] h (.tuple #[.int .i64 (d : Int), .bool true]) h :=
  qnumber_spec h hd (by
    match d, hd with
    | 0, _ | 1, _ | 2, _ | 3, _ | 4, _ | 5, _ | 6, _ | 7, _ => rfl)
theorem lookL_bd {x : Int} : ∀ {l : List Hop}, (∀ a ∈ l, 0 ≤ a.n ∧ a.n < 8) → lookL l x = -1 ∨ (0 ≤ lookL l x ∧ lookL l x < 8)
  | [], _ => .inl rfl
  | a :: l, hl => by
    rw [lookL]
    split
    · exact .inr (hl a (by simp))
    · exact lookL_bd fun b hb => hl b (by simp [hb])
theorem wh_names : (List.range 19).all (fun k => decide (whF (countB.getD k ⟨#[]⟩) = k)) = true := by kernel_rfl
theorem wh_at {i : Nat} (hi : i < 19) : whF (countB.getD i ⟨#[]⟩) = i := by
  have h := List.all_eq_true.1 wh_names i (List.mem_range.2 hi)
  simpa using h
theorem wh_cases (r : ByteArray) : whF r = -1 ∨ ∃ i : Nat, i < 19 ∧ whF r = (i : Int) ∧ r = countB.getD i ⟨#[]⟩ := by
  unfold whF
  cases q : countB.findIdx? (fun x => x.toList == r.toList) with
  | none => exact .inl rfl
  | some i =>
    rw [List.findIdx?_eq_some_iff_getElem] at q
    obtain ⟨h1, h2, _⟩ := q
    refine .inr ⟨i, h1, rfl, ?_⟩
    rw [List.getD_eq_getElem?_getD, List.getElem?_eq_getElem h1]
    exact ((toL_iff _ _).1 h2).symm
theorem wh_empty : whF ⟨#[]⟩ = -1 := by kernel_rfl
section
variable {h : AHeap} {C : List Value} {T : TD} (k : SrcT h C T) (hg : CountV h) {q : ByteArray} (hq : q.size ≤ 140737488351232)
include k hg hq
theorem ask_w0 (hcut : cutL 32 q.data.toList = none) (h7 : ∀ j, j < 7 → q ≠ words7.getD j ⟨#[]⟩) : SpecX Tryd.prog nG fn.query_Ask [.iface 105 (.agg ⟨C⟩), .string q] h fun v' h' => Pre h h' ∧ v' = errV := by
  have f_fib : (q.toList == (⟨#[102, 105, 98]⟩ : ByteArray).toList) = false := toL_ne (h7 0 (by omega))
  have f_own : (q.toList == (⟨#[111, 119, 110]⟩ : ByteArray).toList) = false := toL_ne (h7 1 (by omega))
  have f_live : (q.toList == (⟨#[108, 105, 118, 101]⟩ : ByteArray).toList) = false := toL_ne (h7 2 (by omega))
  have f_counters : (q.toList == (⟨#[99, 111, 117, 110, 116, 101, 114, 115]⟩ : ByteArray).toList) = false := toL_ne (h7 3 (by omega))
  have f_now : (q.toList == (⟨#[110, 111, 119]⟩ : ByteArray).toList) = false := toL_ne (h7 4 (by omega))
  have f_boot : (q.toList == (⟨#[98, 111, 111, 116]⟩ : ByteArray).toList) = false := toL_ne (h7 5 (by omega))
  have f_dead : (q.toList == (⟨#[100, 101, 97, 100]⟩ : ByteArray).toList) = false := toL_ne (h7 6 (by omega))
  refine SpecX.of_body (ir.query_Ask.spec (Nat.le_of_ble_eq_true rfl)) ?_
  simp (dsimp := false) only [↓ir.query_Ask.bw, ir.query_Ask.rs, go_sem, Nat.reduceAdd, Nat.reduceEqDiff, Nat.reduceMul, Nat.reduceLeDiff, Nat.reduceSub, Nat.reduceLT, ↓reduceIte, reduceCtorEq, List.reduceReplicate, List.flatten_cons, List.flatten_nil, List.append_nil, eq_self, Int.reduceLE, Int.reduceLT, Int.reduceToNat, Nat.min_eq_left, Int.reducePow, Int.reduceNeg, Int.reduceEq]
  refine callV_of (cut_spec hq 32) ?_
  rw [show cutV q 32 = .tuple #[.string q, .string ⟨#[]⟩, .bool false] by unfold cutV; rw [hcut]]
  simp (dsimp := false) only [go_sem, Nat.reduceAdd, Nat.reduceEqDiff, Nat.reduceMul, Nat.reduceLeDiff, Nat.reduceSub, Nat.reduceLT, ↓reduceIte, reduceCtorEq, List.reduceReplicate, List.flatten_cons, List.flatten_nil, List.append_nil, eq_self, Int.reduceLE, Int.reduceLT, Int.reduceToNat, Nat.min_eq_left, Int.reducePow, Int.reduceNeg, Int.reduceEq]
  refine callV_of (qnot_spec _ (fun d hd e => by have := congrArg ByteArray.size e; exact absurd this (by show (0 : Nat) ≠ 1; omega))) ?_
  have w0 : decide (whF ⟨#[]⟩ ≥ 0) = false := by rw [wh_empty]; rfl
  have w1 : decide (0 ≤ whF ⟨#[]⟩) = false := w0
  by_cases e1 : q = ⟨#[110, 101, 120, 116]⟩
  · subst e1
    simp (dsimp := false) only [go_sem, Nat.reduceAdd, Nat.reduceEqDiff, Nat.reduceMul, Nat.reduceLeDiff, Nat.reduceSub, Nat.reduceLT, ↓reduceIte, reduceCtorEq, List.reduceReplicate, List.flatten_cons, List.flatten_nil, List.append_nil, eq_self, Int.reduceLE, Int.reduceLT, Int.reduceToNat, Nat.min_eq_left, Int.reducePow, Int.reduceNeg, Int.reduceEq, q_next_fib, q_next_next, q_next_floor, q_next_roots, q_next_own, q_next_live, q_next_counter, q_next_counters, q_next_now, q_next_boot, q_next_dead]
  by_cases e2 : q = ⟨#[102, 108, 111, 111, 114]⟩
  · subst e2
    simp (dsimp := false) only [go_sem, Nat.reduceAdd, Nat.reduceEqDiff, Nat.reduceMul, Nat.reduceLeDiff, Nat.reduceSub, Nat.reduceLT, ↓reduceIte, reduceCtorEq, List.reduceReplicate, List.flatten_cons, List.flatten_nil, List.append_nil, eq_self, Int.reduceLE, Int.reduceLT, Int.reduceToNat, Nat.min_eq_left, Int.reducePow, Int.reduceNeg, Int.reduceEq, q_floor_fib, q_floor_next, q_floor_floor, q_floor_roots, q_floor_own, q_floor_live, q_floor_counter, q_floor_counters, q_floor_now, q_floor_boot, q_floor_dead]
  by_cases e3 : q = ⟨#[114, 111, 111, 116, 115]⟩
  · subst e3
    simp (dsimp := false) only [go_sem, Nat.reduceAdd, Nat.reduceEqDiff, Nat.reduceMul, Nat.reduceLeDiff, Nat.reduceSub, Nat.reduceLT, ↓reduceIte, reduceCtorEq, List.reduceReplicate, List.flatten_cons, List.flatten_nil, List.append_nil, eq_self, Int.reduceLE, Int.reduceLT, Int.reduceToNat, Nat.min_eq_left, Int.reducePow, Int.reduceNeg, Int.reduceEq, q_roots_fib, q_roots_next, q_roots_floor, q_roots_roots, q_roots_own, q_roots_live, q_roots_counter, q_roots_counters, q_roots_now, q_roots_boot, q_roots_dead]
  have f_next := toL_ne e1
  have f_floor := toL_ne e2
  have f_roots := toL_ne e3
  by_cases e4 : q = ⟨#[99, 111, 117, 110, 116, 101, 114]⟩
  · subst e4
    simp (dsimp := false) only [go_sem, Nat.reduceAdd, Nat.reduceEqDiff, Nat.reduceMul, Nat.reduceLeDiff, Nat.reduceSub, Nat.reduceLT, ↓reduceIte, reduceCtorEq, List.reduceReplicate, List.flatten_cons, List.flatten_nil, List.append_nil, eq_self, Int.reduceLE, Int.reduceLT, Int.reduceToNat, Nat.min_eq_left, Int.reducePow, Int.reduceNeg, Int.reduceEq, q_counter_fib, q_counter_next, q_counter_floor, q_counter_roots, q_counter_own, q_counter_live, q_counter_counter, q_counter_counters, q_counter_now, q_counter_boot, q_counter_dead]
    refine callV_of (cwhich_spec hg _) ?_
    simp (dsimp := false) only [go_sem, Nat.reduceAdd, Nat.reduceEqDiff, Nat.reduceMul, Nat.reduceLeDiff, Nat.reduceSub, Nat.reduceLT, ↓reduceIte, reduceCtorEq, List.reduceReplicate, List.flatten_cons, List.flatten_nil, List.append_nil, eq_self, Int.reduceLE, Int.reduceLT, Int.reduceToNat, Nat.min_eq_left, Int.reducePow, Int.reduceNeg, Int.reduceEq, w0, w1, q_counter_fib, q_counter_next, q_counter_floor, q_counter_roots, q_counter_own, q_counter_live, q_counter_counter, q_counter_counters, q_counter_now, q_counter_boot, q_counter_dead]
  have f_counter := toL_ne e4
  simp (dsimp := false) only [go_sem, Nat.reduceAdd, Nat.reduceEqDiff, Nat.reduceMul, Nat.reduceLeDiff, Nat.reduceSub, Nat.reduceLT, ↓reduceIte, reduceCtorEq, List.reduceReplicate, List.flatten_cons, List.flatten_nil, List.append_nil, eq_self, Int.reduceLE, Int.reduceLT, Int.reduceToNat, Nat.min_eq_left, Int.reducePow, Int.reduceNeg, Int.reduceEq, f_fib, f_next, f_floor, f_roots, f_own, f_live, f_counter, f_counters, f_now, f_boot, f_dead]
theorem ask_wx {v r : ByteArray} (hcut : cutL 32 q.data.toList = some (v.data.toList, r.data.toList)) (h1 : v ≠ ⟨#[110, 101, 120, 116]⟩) (h2 : v ≠ ⟨#[102, 108, 111, 111, 114]⟩) (h3 : v ≠ ⟨#[114, 111, 111, 116, 115]⟩) (h4 : v ≠ ⟨#[99, 111, 117, 110, 116, 101, 114]⟩) : SpecX Tryd.prog nG fn.query_Ask [.iface 105 (.agg ⟨C⟩), .string q] h fun v' h' => Pre h h' ∧ v' = errV := by
  have f_next := toL_ne h1
  have f_floor := toL_ne h2
  have f_roots := toL_ne h3
  have f_counter := toL_ne h4
  refine SpecX.of_body (ir.query_Ask.spec (Nat.le_of_ble_eq_true rfl)) ?_
  simp (dsimp := false) only [↓ir.query_Ask.bw, ir.query_Ask.rs, go_sem, Nat.reduceAdd, Nat.reduceEqDiff, Nat.reduceMul, Nat.reduceLeDiff, Nat.reduceSub, Nat.reduceLT, ↓reduceIte, reduceCtorEq, List.reduceReplicate, List.flatten_cons, List.flatten_nil, List.append_nil, eq_self, Int.reduceLE, Int.reduceLT, Int.reduceToNat, Nat.min_eq_left, Int.reducePow, Int.reduceNeg, Int.reduceEq]
  refine callV_of (cut_spec hq 32) ?_
  rw [show cutV q 32 = .tuple #[.string v, .string r, .bool true] by unfold cutV; rw [hcut]]
  simp (dsimp := false) only [go_sem, Nat.reduceAdd, Nat.reduceEqDiff, Nat.reduceMul, Nat.reduceLeDiff, Nat.reduceSub, Nat.reduceLT, ↓reduceIte, reduceCtorEq, List.reduceReplicate, List.flatten_cons, List.flatten_nil, List.append_nil, eq_self, Int.reduceLE, Int.reduceLT, Int.reduceToNat, Nat.min_eq_left, Int.reducePow, Int.reduceNeg, Int.reduceEq]
  have fin : ∀ {n : Value}, (∃ a b, n = .tuple #[.int .i64 a, .bool b]) → True := fun _ => trivial
  by_cases hr : ∃ d, d < 8 ∧ r = digS d
  · obtain ⟨d, hd, rfl⟩ := hr
    refine callV_of (qdig_spec _ hd) ?_
    simp (dsimp := false) only [go_sem, Nat.reduceAdd, Nat.reduceEqDiff, Nat.reduceMul, Nat.reduceLeDiff, Nat.reduceSub, Nat.reduceLT, ↓reduceIte, reduceCtorEq, List.reduceReplicate, List.flatten_cons, List.flatten_nil, List.append_nil, eq_self, Int.reduceLE, Int.reduceLT, Int.reduceToNat, Nat.min_eq_left, Int.reducePow, Int.reduceNeg, Int.reduceEq, f_next, f_floor, f_roots, f_counter, Bool.not_false, Bool.not_true]
  · refine callV_of (qnot_spec _ fun d hd e => hr ⟨d, hd, e⟩) ?_
    simp (dsimp := false) only [go_sem, Nat.reduceAdd, Nat.reduceEqDiff, Nat.reduceMul, Nat.reduceLeDiff, Nat.reduceSub, Nat.reduceLT, ↓reduceIte, reduceCtorEq, List.reduceReplicate, List.flatten_cons, List.flatten_nil, List.append_nil, eq_self, Int.reduceLE, Int.reduceLT, Int.reduceToNat, Nat.min_eq_left, Int.reducePow, Int.reduceNeg, Int.reduceEq, f_next, f_floor, f_roots, f_counter, Bool.not_false, Bool.not_true]
theorem ask_bad_next {r : ByteArray} (hcut : cutL 32 q.data.toList = some ((⟨#[110, 101, 120, 116]⟩ : ByteArray).data.toList, r.data.toList)) (hr : ∀ d, d < 8 → r ≠ digS d) : SpecX Tryd.prog nG fn.query_Ask [.iface 105 (.agg ⟨C⟩), .string q] h fun v' h' => Pre h h' ∧ v' = errV := by
  refine SpecX.of_body (ir.query_Ask.spec (Nat.le_of_ble_eq_true rfl)) ?_
  simp (dsimp := false) only [↓ir.query_Ask.bw, ir.query_Ask.rs, go_sem, Nat.reduceAdd, Nat.reduceEqDiff, Nat.reduceMul, Nat.reduceLeDiff, Nat.reduceSub, Nat.reduceLT, ↓reduceIte, reduceCtorEq, List.reduceReplicate, List.flatten_cons, List.flatten_nil, List.append_nil, eq_self, Int.reduceLE, Int.reduceLT, Int.reduceToNat, Nat.min_eq_left, Int.reducePow, Int.reduceNeg, Int.reduceEq]
  refine callV_of (cut_spec hq 32) ?_
  rw [show cutV q 32 = .tuple #[.string ⟨#[110, 101, 120, 116]⟩, .string r, .bool true] by unfold cutV; rw [hcut]]
  simp (dsimp := false) only [go_sem, Nat.reduceAdd, Nat.reduceEqDiff, Nat.reduceMul, Nat.reduceLeDiff, Nat.reduceSub, Nat.reduceLT, ↓reduceIte, reduceCtorEq, List.reduceReplicate, List.flatten_cons, List.flatten_nil, List.append_nil, eq_self, Int.reduceLE, Int.reduceLT, Int.reduceToNat, Nat.min_eq_left, Int.reducePow, Int.reduceNeg, Int.reduceEq]
  refine callV_of (qnot_spec _ hr) ?_
  simp (dsimp := false) only [go_sem, Nat.reduceAdd, Nat.reduceEqDiff, Nat.reduceMul, Nat.reduceLeDiff, Nat.reduceSub, Nat.reduceLT, ↓reduceIte, reduceCtorEq, List.reduceReplicate, List.flatten_cons, List.flatten_nil, List.append_nil, eq_self, Int.reduceLE, Int.reduceLT, Int.reduceToNat, Nat.min_eq_left, Int.reducePow, Int.reduceNeg, Int.reduceEq, q_next_fib, q_next_next, q_next_floor, q_next_roots, q_next_own, q_next_live, q_next_counter, q_next_counters, q_next_now, q_next_boot, q_next_dead, Bool.not_false, Bool.not_true]
theorem ask_bad_floor {r : ByteArray} (hcut : cutL 32 q.data.toList = some ((⟨#[102, 108, 111, 111, 114]⟩ : ByteArray).data.toList, r.data.toList)) (hr : ∀ d, d < 8 → r ≠ digS d) : SpecX Tryd.prog nG fn.query_Ask [.iface 105 (.agg ⟨C⟩), .string q] h fun v' h' => Pre h h' ∧ v' = errV := by
  refine SpecX.of_body (ir.query_Ask.spec (Nat.le_of_ble_eq_true rfl)) ?_
  simp (dsimp := false) only [↓ir.query_Ask.bw, ir.query_Ask.rs, go_sem, Nat.reduceAdd, Nat.reduceEqDiff, Nat.reduceMul, Nat.reduceLeDiff, Nat.reduceSub, Nat.reduceLT, ↓reduceIte, reduceCtorEq, List.reduceReplicate, List.flatten_cons, List.flatten_nil, List.append_nil, eq_self, Int.reduceLE, Int.reduceLT, Int.reduceToNat, Nat.min_eq_left, Int.reducePow, Int.reduceNeg, Int.reduceEq]
  refine callV_of (cut_spec hq 32) ?_
  rw [show cutV q 32 = .tuple #[.string ⟨#[102, 108, 111, 111, 114]⟩, .string r, .bool true] by unfold cutV; rw [hcut]]
  simp (dsimp := false) only [go_sem, Nat.reduceAdd, Nat.reduceEqDiff, Nat.reduceMul, Nat.reduceLeDiff, Nat.reduceSub, Nat.reduceLT, ↓reduceIte, reduceCtorEq, List.reduceReplicate, List.flatten_cons, List.flatten_nil, List.append_nil, eq_self, Int.reduceLE, Int.reduceLT, Int.reduceToNat, Nat.min_eq_left, Int.reducePow, Int.reduceNeg, Int.reduceEq]
  refine callV_of (qnot_spec _ hr) ?_
  simp (dsimp := false) only [go_sem, Nat.reduceAdd, Nat.reduceEqDiff, Nat.reduceMul, Nat.reduceLeDiff, Nat.reduceSub, Nat.reduceLT, ↓reduceIte, reduceCtorEq, List.reduceReplicate, List.flatten_cons, List.flatten_nil, List.append_nil, eq_self, Int.reduceLE, Int.reduceLT, Int.reduceToNat, Nat.min_eq_left, Int.reducePow, Int.reduceNeg, Int.reduceEq, q_floor_fib, q_floor_next, q_floor_floor, q_floor_roots, q_floor_own, q_floor_live, q_floor_counter, q_floor_counters, q_floor_now, q_floor_boot, q_floor_dead, Bool.not_false, Bool.not_true]
theorem ask_bad_roots {r : ByteArray} (hcut : cutL 32 q.data.toList = some ((⟨#[114, 111, 111, 116, 115]⟩ : ByteArray).data.toList, r.data.toList)) (hr : ∀ d, d < 8 → r ≠ digS d) : SpecX Tryd.prog nG fn.query_Ask [.iface 105 (.agg ⟨C⟩), .string q] h fun v' h' => Pre h h' ∧ v' = errV := by
  refine SpecX.of_body (ir.query_Ask.spec (Nat.le_of_ble_eq_true rfl)) ?_
  simp (dsimp := false) only [↓ir.query_Ask.bw, ir.query_Ask.rs, go_sem, Nat.reduceAdd, Nat.reduceEqDiff, Nat.reduceMul, Nat.reduceLeDiff, Nat.reduceSub, Nat.reduceLT, ↓reduceIte, reduceCtorEq, List.reduceReplicate, List.flatten_cons, List.flatten_nil, List.append_nil, eq_self, Int.reduceLE, Int.reduceLT, Int.reduceToNat, Nat.min_eq_left, Int.reducePow, Int.reduceNeg, Int.reduceEq]
  refine callV_of (cut_spec hq 32) ?_
  rw [show cutV q 32 = .tuple #[.string ⟨#[114, 111, 111, 116, 115]⟩, .string r, .bool true] by unfold cutV; rw [hcut]]
  simp (dsimp := false) only [go_sem, Nat.reduceAdd, Nat.reduceEqDiff, Nat.reduceMul, Nat.reduceLeDiff, Nat.reduceSub, Nat.reduceLT, ↓reduceIte, reduceCtorEq, List.reduceReplicate, List.flatten_cons, List.flatten_nil, List.append_nil, eq_self, Int.reduceLE, Int.reduceLT, Int.reduceToNat, Nat.min_eq_left, Int.reducePow, Int.reduceNeg, Int.reduceEq]
  refine callV_of (qnot_spec _ hr) ?_
  simp (dsimp := false) only [go_sem, Nat.reduceAdd, Nat.reduceEqDiff, Nat.reduceMul, Nat.reduceLeDiff, Nat.reduceSub, Nat.reduceLT, ↓reduceIte, reduceCtorEq, List.reduceReplicate, List.flatten_cons, List.flatten_nil, List.append_nil, eq_self, Int.reduceLE, Int.reduceLT, Int.reduceToNat, Nat.min_eq_left, Int.reducePow, Int.reduceNeg, Int.reduceEq, q_roots_fib, q_roots_next, q_roots_floor, q_roots_roots, q_roots_own, q_roots_live, q_roots_counter, q_roots_counters, q_roots_now, q_roots_boot, q_roots_dead, Bool.not_false, Bool.not_true]
theorem ask_ok_next {d : Nat} (hd : d < 8) (ht : IsTable T.fib) (hcut : cutL 32 q.data.toList = some ((⟨#[110, 101, 120, 116]⟩ : ByteArray).data.toList, (digS d).data.toList)) : SpecX Tryd.prog nG fn.query_Ask [.iface 105 (.agg ⟨C⟩), .string q] h fun v' h' => Ans h h' [if 0 ≤ lookL T.fib d then wholeS (lookL T.fib d) else noneS] v' := by
  refine SpecX.of_body (ir.query_Ask.spec (Nat.le_of_ble_eq_true rfl)) ?_
  simp (dsimp := false) only [↓ir.query_Ask.bw, ir.query_Ask.rs, go_sem, Nat.reduceAdd, Nat.reduceEqDiff, Nat.reduceMul, Nat.reduceLeDiff, Nat.reduceSub, Nat.reduceLT, ↓reduceIte, reduceCtorEq, List.reduceReplicate, List.flatten_cons, List.flatten_nil, List.append_nil, eq_self, Int.reduceLE, Int.reduceLT, Int.reduceToNat, Nat.min_eq_left, Int.reducePow, Int.reduceNeg, Int.reduceEq]
  refine callV_of (cut_spec hq 32) ?_
  rw [show cutV q 32 = .tuple #[.string ⟨#[110, 101, 120, 116]⟩, .string (digS d), .bool true] by unfold cutV; rw [hcut]]
  simp (dsimp := false) only [go_sem, Nat.reduceAdd, Nat.reduceEqDiff, Nat.reduceMul, Nat.reduceLeDiff, Nat.reduceSub, Nat.reduceLT, ↓reduceIte, reduceCtorEq, List.reduceReplicate, List.flatten_cons, List.flatten_nil, List.append_nil, eq_self, Int.reduceLE, Int.reduceLT, Int.reduceToNat, Nat.min_eq_left, Int.reducePow, Int.reduceNeg, Int.reduceEq]
  refine callV_of (qdig_spec _ hd) ?_
  simp (dsimp := false) only [go_sem, Nat.reduceAdd, Nat.reduceEqDiff, Nat.reduceMul, Nat.reduceLeDiff, Nat.reduceSub, Nat.reduceLT, ↓reduceIte, reduceCtorEq, List.reduceReplicate, List.flatten_cons, List.flatten_nil, List.append_nil, eq_self, Int.reduceLE, Int.reduceLT, Int.reduceToNat, Nat.min_eq_left, Int.reducePow, Int.reduceNeg, Int.reduceEq, q_next_fib, q_next_next, q_next_floor, q_next_roots, q_next_own, q_next_live, q_next_counter, q_next_counters, q_next_now, q_next_boot, q_next_dead, Bool.not_false, Bool.not_true]
  obtain ⟨v, h1, hx, hp, ls⟩ := xm (name := "Fib") (by kernel_rfl) (by kernel_rfl) (mFib k)
  refine ⟨v, h1, hx, ?_⟩
  simp (dsimp := false) only [go_sem, Nat.reduceAdd, Nat.reduceEqDiff, Nat.reduceMul, Nat.reduceLeDiff, Nat.reduceSub, Nat.reduceLT, ↓reduceIte, reduceCtorEq, List.reduceReplicate, List.flatten_cons, List.flatten_nil, List.append_nil, eq_self, Int.reduceLE, Int.reduceLT, Int.reduceToNat, Nat.min_eq_left, Int.reducePow, Int.reduceNeg, Int.reduceEq]
  refine callV_x (lookup_spec ls (d : Int)) ?_
  rintro _ h2 ⟨hp2, r, rfl, hr⟩
  have hr := hr ht.rises
  subst hr
  have hb := lookL_bd (x := (d : Int)) (l := T.fib) (fun a ha => (ht.1 a ha).2.2)
  have ri : i64ok (lookL T.fib d) := by constructor <;> omega
  simp (dsimp := false) only [go_sem, Nat.reduceAdd, Nat.reduceEqDiff, Nat.reduceMul, Nat.reduceLeDiff, Nat.reduceSub, Nat.reduceLT, ↓reduceIte, reduceCtorEq, List.reduceReplicate, List.flatten_cons, List.flatten_nil, List.append_nil, eq_self, Int.reduceLE, Int.reduceLT, Int.reduceToNat, Nat.min_eq_left, Int.reducePow, Int.reduceNeg, Int.reduceEq]
  refine cVd (fun hc => ?_) (fun hc => ?_)
  · simp (dsimp := false) only [go_sem, Nat.reduceAdd, Nat.reduceEqDiff, Nat.reduceMul, Nat.reduceLeDiff, Nat.reduceSub, Nat.reduceLT, ↓reduceIte, reduceCtorEq, List.reduceReplicate, List.flatten_cons, List.flatten_nil, List.append_nil, eq_self, Int.reduceLE, Int.reduceLT, Int.reduceToNat, Nat.min_eq_left, Int.reducePow, Int.reduceNeg, Int.reduceEq]
    refine callV_of (itoa_spec (hg.powV.pre (hp.trans hp2)) ri) ?_
    simp (dsimp := false) only [go_sem, Nat.reduceAdd, Nat.reduceEqDiff, Nat.reduceMul, Nat.reduceLeDiff, Nat.reduceSub, Nat.reduceLT, ↓reduceIte, reduceCtorEq, List.reduceReplicate, List.flatten_cons, List.flatten_nil, List.append_nil, eq_self, Int.reduceLE, Int.reduceLT, Int.reduceToNat, Nat.min_eq_left, Int.reducePow, Int.reduceNeg, Int.reduceEq]
    rw [if_pos (by omega)]
    exact ans_one (hp.trans hp2) _
  · simp (dsimp := false) only [go_sem, Nat.reduceAdd, Nat.reduceEqDiff, Nat.reduceMul, Nat.reduceLeDiff, Nat.reduceSub, Nat.reduceLT, ↓reduceIte, reduceCtorEq, List.reduceReplicate, List.flatten_cons, List.flatten_nil, List.append_nil, eq_self, Int.reduceLE, Int.reduceLT, Int.reduceToNat, Nat.min_eq_left, Int.reducePow, Int.reduceNeg, Int.reduceEq]
    rw [if_neg (by omega)]
    exact ans_one (hp.trans hp2) _
theorem ask_ok_floor {d : Nat} (hd : d < 8) (hcut : cutL 32 q.data.toList = some ((⟨#[102, 108, 111, 111, 114]⟩ : ByteArray).data.toList, (digS d).data.toList)) : SpecX Tryd.prog nG fn.query_Ask [.iface 105 (.agg ⟨C⟩), .string q] h fun v' h' => Ans h h' [if T.has d then keyS (T.fe d) (T.fs d) (T.fm d) else noneS] v' := by
  refine SpecX.of_body (ir.query_Ask.spec (Nat.le_of_ble_eq_true rfl)) ?_
  simp (dsimp := false) only [↓ir.query_Ask.bw, ir.query_Ask.rs, go_sem, Nat.reduceAdd, Nat.reduceEqDiff, Nat.reduceMul, Nat.reduceLeDiff, Nat.reduceSub, Nat.reduceLT, ↓reduceIte, reduceCtorEq, List.reduceReplicate, List.flatten_cons, List.flatten_nil, List.append_nil, eq_self, Int.reduceLE, Int.reduceLT, Int.reduceToNat, Nat.min_eq_left, Int.reducePow, Int.reduceNeg, Int.reduceEq]
  refine callV_of (cut_spec hq 32) ?_
  rw [show cutV q 32 = .tuple #[.string ⟨#[102, 108, 111, 111, 114]⟩, .string (digS d), .bool true] by unfold cutV; rw [hcut]]
  simp (dsimp := false) only [go_sem, Nat.reduceAdd, Nat.reduceEqDiff, Nat.reduceMul, Nat.reduceLeDiff, Nat.reduceSub, Nat.reduceLT, ↓reduceIte, reduceCtorEq, List.reduceReplicate, List.flatten_cons, List.flatten_nil, List.append_nil, eq_self, Int.reduceLE, Int.reduceLT, Int.reduceToNat, Nat.min_eq_left, Int.reducePow, Int.reduceNeg, Int.reduceEq]
  refine callV_of (qdig_spec _ hd) ?_
  simp (dsimp := false) only [go_sem, Nat.reduceAdd, Nat.reduceEqDiff, Nat.reduceMul, Nat.reduceLeDiff, Nat.reduceSub, Nat.reduceLT, ↓reduceIte, reduceCtorEq, List.reduceReplicate, List.flatten_cons, List.flatten_nil, List.append_nil, eq_self, Int.reduceLE, Int.reduceLT, Int.reduceToNat, Nat.min_eq_left, Int.reducePow, Int.reduceNeg, Int.reduceEq, q_floor_fib, q_floor_next, q_floor_floor, q_floor_roots, q_floor_own, q_floor_live, q_floor_counter, q_floor_counters, q_floor_now, q_floor_boot, q_floor_dead, Bool.not_false, Bool.not_true]
  obtain ⟨_, h1, hx, hp, rfl⟩ := xm (name := "Floor") (by kernel_rfl) (by kernel_rfl) (mFloor k hd)
  refine ⟨_, h1, hx, ?_⟩
  obtain ⟨_, w1, w2, w3⟩ := k.flo d hd
  cases hh : T.has d with
  | true =>
    simp (dsimp := false) only [go_sem, Nat.reduceAdd, Nat.reduceEqDiff, Nat.reduceMul, Nat.reduceLeDiff, Nat.reduceSub, Nat.reduceLT, ↓reduceIte, reduceCtorEq, List.reduceReplicate, List.flatten_cons, List.flatten_nil, List.append_nil, eq_self, Int.reduceLE, Int.reduceLT, Int.reduceToNat, Nat.min_eq_left, Int.reducePow, Int.reduceNeg, Int.reduceEq]
    refine callV_x (qkeyX_spec (hg.powV.pre hp) w1 w2 w3 true) ?_
    rintro _ h2 ⟨hp2, rfl⟩
    simp (dsimp := false) only [go_sem, Nat.reduceAdd, Nat.reduceEqDiff, Nat.reduceMul, Nat.reduceLeDiff, Nat.reduceSub, Nat.reduceLT, ↓reduceIte, reduceCtorEq, List.reduceReplicate, List.flatten_cons, List.flatten_nil, List.append_nil, eq_self, Int.reduceLE, Int.reduceLT, Int.reduceToNat, Nat.min_eq_left, Int.reducePow, Int.reduceNeg, Int.reduceEq]
    exact ans_one (hp.trans hp2) _
  | false =>
    simp (dsimp := false) only [go_sem, Nat.reduceAdd, Nat.reduceEqDiff, Nat.reduceMul, Nat.reduceLeDiff, Nat.reduceSub, Nat.reduceLT, ↓reduceIte, reduceCtorEq, List.reduceReplicate, List.flatten_cons, List.flatten_nil, List.append_nil, eq_self, Int.reduceLE, Int.reduceLT, Int.reduceToNat, Nat.min_eq_left, Int.reducePow, Int.reduceNeg, Int.reduceEq]
    refine callV_x (qkeyX_spec (hg.powV.pre hp) (e := 0) (s := 0) (m := 0) (by omega) (by omega) (by constructor <;> omega) false) ?_
    rintro _ h2 ⟨hp2, rfl⟩
    simp (dsimp := false) only [go_sem, Nat.reduceAdd, Nat.reduceEqDiff, Nat.reduceMul, Nat.reduceLeDiff, Nat.reduceSub, Nat.reduceLT, ↓reduceIte, reduceCtorEq, List.reduceReplicate, List.flatten_cons, List.flatten_nil, List.append_nil, eq_self, Int.reduceLE, Int.reduceLT, Int.reduceToNat, Nat.min_eq_left, Int.reducePow, Int.reduceNeg, Int.reduceEq]
    exact ans_one (hp.trans hp2) _
theorem ask_ok_roots {d : Nat} (hd : d < 8) (hcut : cutL 32 q.data.toList = some ((⟨#[114, 111, 111, 116, 115]⟩ : ByteArray).data.toList, (digS d).data.toList)) : SpecX Tryd.prog nG fn.query_Ask [.iface 105 (.agg ⟨C⟩), .string q] h fun v' h' => Ans h h' [wholeS (T.roots d)] v' := by
  refine SpecX.of_body (ir.query_Ask.spec (Nat.le_of_ble_eq_true rfl)) ?_
  simp (dsimp := false) only [↓ir.query_Ask.bw, ir.query_Ask.rs, go_sem, Nat.reduceAdd, Nat.reduceEqDiff, Nat.reduceMul, Nat.reduceLeDiff, Nat.reduceSub, Nat.reduceLT, ↓reduceIte, reduceCtorEq, List.reduceReplicate, List.flatten_cons, List.flatten_nil, List.append_nil, eq_self, Int.reduceLE, Int.reduceLT, Int.reduceToNat, Nat.min_eq_left, Int.reducePow, Int.reduceNeg, Int.reduceEq]
  refine callV_of (cut_spec hq 32) ?_
  rw [show cutV q 32 = .tuple #[.string ⟨#[114, 111, 111, 116, 115]⟩, .string (digS d), .bool true] by unfold cutV; rw [hcut]]
  simp (dsimp := false) only [go_sem, Nat.reduceAdd, Nat.reduceEqDiff, Nat.reduceMul, Nat.reduceLeDiff, Nat.reduceSub, Nat.reduceLT, ↓reduceIte, reduceCtorEq, List.reduceReplicate, List.flatten_cons, List.flatten_nil, List.append_nil, eq_self, Int.reduceLE, Int.reduceLT, Int.reduceToNat, Nat.min_eq_left, Int.reducePow, Int.reduceNeg, Int.reduceEq]
  refine callV_of (qdig_spec _ hd) ?_
  simp (dsimp := false) only [go_sem, Nat.reduceAdd, Nat.reduceEqDiff, Nat.reduceMul, Nat.reduceLeDiff, Nat.reduceSub, Nat.reduceLT, ↓reduceIte, reduceCtorEq, List.reduceReplicate, List.flatten_cons, List.flatten_nil, List.append_nil, eq_self, Int.reduceLE, Int.reduceLT, Int.reduceToNat, Nat.min_eq_left, Int.reducePow, Int.reduceNeg, Int.reduceEq, q_roots_fib, q_roots_next, q_roots_floor, q_roots_roots, q_roots_own, q_roots_live, q_roots_counter, q_roots_counters, q_roots_now, q_roots_boot, q_roots_dead, Bool.not_false, Bool.not_true]
  obtain ⟨_, h1, hx, hp, rfl⟩ := xm (name := "Roots") (by kernel_rfl) (by kernel_rfl) (mRoots k hd)
  refine ⟨_, h1, hx, ?_⟩
  simp (dsimp := false) only [go_sem, Nat.reduceAdd, Nat.reduceEqDiff, Nat.reduceMul, Nat.reduceLeDiff, Nat.reduceSub, Nat.reduceLT, ↓reduceIte, reduceCtorEq, List.reduceReplicate, List.flatten_cons, List.flatten_nil, List.append_nil, eq_self, Int.reduceLE, Int.reduceLT, Int.reduceToNat, Nat.min_eq_left, Int.reducePow, Int.reduceNeg, Int.reduceEq]
  refine callV_of (itoa_spec (hg.powV.pre hp) (k.roots d hd).2) ?_
  simp (dsimp := false) only [go_sem, Nat.reduceAdd, Nat.reduceEqDiff, Nat.reduceMul, Nat.reduceLeDiff, Nat.reduceSub, Nat.reduceLT, ↓reduceIte, reduceCtorEq, List.reduceReplicate, List.flatten_cons, List.flatten_nil, List.append_nil, eq_self, Int.reduceLE, Int.reduceLT, Int.reduceToNat, Nat.min_eq_left, Int.reducePow, Int.reduceNeg, Int.reduceEq]
  exact ans_one hp _
theorem ask_counter {r : ByteArray} (hcut : cutL 32 q.data.toList = some ((⟨#[99, 111, 117, 110, 116, 101, 114]⟩ : ByteArray).data.toList, r.data.toList)) : SpecX Tryd.prog nG fn.query_Ask [.iface 105 (.agg ⟨C⟩), .string q] h fun v' h' => (∃ i : Nat, i < 19 ∧ r = countB.getD i ⟨#[]⟩ ∧ Ans h h' [wholeS (T.ctr.getD i 0)] v') ∨ (whF r = -1 ∧ Pre h h' ∧ v' = errV) := by
  refine SpecX.of_body (ir.query_Ask.spec (Nat.le_of_ble_eq_true rfl)) ?_
  simp (dsimp := false) only [↓ir.query_Ask.bw, ir.query_Ask.rs, go_sem, Nat.reduceAdd, Nat.reduceEqDiff, Nat.reduceMul, Nat.reduceLeDiff, Nat.reduceSub, Nat.reduceLT, ↓reduceIte, reduceCtorEq, List.reduceReplicate, List.flatten_cons, List.flatten_nil, List.append_nil, eq_self, Int.reduceLE, Int.reduceLT, Int.reduceToNat, Nat.min_eq_left, Int.reducePow, Int.reduceNeg, Int.reduceEq]
  refine callV_of (cut_spec hq 32) ?_
  rw [show cutV q 32 = .tuple #[.string ⟨#[99, 111, 117, 110, 116, 101, 114]⟩, .string r, .bool true] by unfold cutV; rw [hcut]]
  simp (dsimp := false) only [go_sem, Nat.reduceAdd, Nat.reduceEqDiff, Nat.reduceMul, Nat.reduceLeDiff, Nat.reduceSub, Nat.reduceLT, ↓reduceIte, reduceCtorEq, List.reduceReplicate, List.flatten_cons, List.flatten_nil, List.append_nil, eq_self, Int.reduceLE, Int.reduceLT, Int.reduceToNat, Nat.min_eq_left, Int.reducePow, Int.reduceNeg, Int.reduceEq]
  obtain ⟨a, bb, hnum⟩ : ∃ (a : Int) (bb : Bool), Spec Tryd.prog nG fn.query_number [.string r] h (.tuple #[.int .i64 a, .bool bb]) h := by
    by_cases hr : ∃ d, d < 8 ∧ r = digS d
    · obtain ⟨d, hd, rfl⟩ := hr
      exact ⟨_, _, qdig_spec _ hd⟩
    · exact ⟨_, _, qnot_spec _ fun d hd e => hr ⟨d, hd, e⟩⟩
  refine callV_of hnum ?_
  simp (dsimp := false) only [go_sem, Nat.reduceAdd, Nat.reduceEqDiff, Nat.reduceMul, Nat.reduceLeDiff, Nat.reduceSub, Nat.reduceLT, ↓reduceIte, reduceCtorEq, List.reduceReplicate, List.flatten_cons, List.flatten_nil, List.append_nil, eq_self, Int.reduceLE, Int.reduceLT, Int.reduceToNat, Nat.min_eq_left, Int.reducePow, Int.reduceNeg, Int.reduceEq, q_counter_fib, q_counter_next, q_counter_floor, q_counter_roots, q_counter_own, q_counter_live, q_counter_counter, q_counter_counters, q_counter_now, q_counter_boot, q_counter_dead, Bool.not_false, Bool.not_true]
  refine callV_of (cwhich_spec hg _) ?_
  rcases wh_cases r with e | ⟨i, hi, e, rfl⟩
  · rw [e]
    have d0 : decide ((-1 : Int) ≥ 0) = false := rfl
    have d1 : decide ((0 : Int) ≤ -1) = false := rfl
    simp (dsimp := false) only [go_sem, Nat.reduceAdd, Nat.reduceEqDiff, Nat.reduceMul, Nat.reduceLeDiff, Nat.reduceSub, Nat.reduceLT, ↓reduceIte, reduceCtorEq, List.reduceReplicate, List.flatten_cons, List.flatten_nil, List.append_nil, eq_self, Int.reduceLE, Int.reduceLT, Int.reduceToNat, Nat.min_eq_left, Int.reducePow, Int.reduceNeg, Int.reduceEq, d0, d1, decide_false, decide_true, q_counter_fib, q_counter_next, q_counter_floor, q_counter_roots, q_counter_own, q_counter_live, q_counter_counter, q_counter_counters, q_counter_now, q_counter_boot, q_counter_dead]
    first | exact .inr rfl | exact .inr trivial | exact .inr ⟨rfl, .refl _, rfl⟩ | exact .inr (by simp)
  · have hc := wh_at hi
    rw [e]
    have d0 : decide ((i : Int) ≥ 0) = true := decide_eq_true (by omega)
    have d1 : decide (0 ≤ (i : Int)) = true := d0
    simp (dsimp := false) only [go_sem, Nat.reduceAdd, Nat.reduceEqDiff, Nat.reduceMul, Nat.reduceLeDiff, Nat.reduceSub, Nat.reduceLT, ↓reduceIte, reduceCtorEq, List.reduceReplicate, List.flatten_cons, List.flatten_nil, List.append_nil, eq_self, Int.reduceLE, Int.reduceLT, Int.reduceToNat, Nat.min_eq_left, Int.reducePow, Int.reduceNeg, Int.reduceEq, d0, d1, decide_false, decide_true, q_counter_fib, q_counter_next, q_counter_floor, q_counter_roots, q_counter_own, q_counter_live, q_counter_counter, q_counter_counters, q_counter_now, q_counter_boot, q_counter_dead]
    obtain ⟨v, h1, hx, hp1, ls⟩ := xm (name := "Counters") (by kernel_rfl) (by kernel_rfl) (mCounters k)
    refine ⟨v, h1, hx, ?_⟩
    obtain ⟨_, hl, ho⟩ := k.ctr
    have hil : i < T.ctr.length := by omega
    have r0 := isI_at ls (.refl _) hil
    have eL := getD_at hil
    have hok := ho i
    rw [eL] at hok
    simp (dsimp := false) only [go_sem, Nat.reduceAdd, Nat.reduceEqDiff, Nat.reduceMul, Nat.reduceLeDiff, Nat.reduceSub, Nat.reduceLT, ↓reduceIte, reduceCtorEq, List.reduceReplicate, List.flatten_cons, List.flatten_nil, List.append_nil, eq_self, Int.reduceLE, Int.reduceLT, Int.reduceToNat, Nat.min_eq_left, Int.reducePow, Int.reduceNeg, Int.reduceEq]
    refine callV_of (cwhich_spec (hg.pre hp1) _) ?_
    rw [hc]
    simp (dsimp := false) only [go_sem, Nat.reduceAdd, Nat.reduceEqDiff, Nat.reduceMul, Nat.reduceLeDiff, Nat.reduceSub, Nat.reduceLT, ↓reduceIte, reduceCtorEq, List.reduceReplicate, List.flatten_cons, List.flatten_nil, List.append_nil, eq_self, Int.reduceLE, Int.reduceLT, Int.reduceToNat, Nat.min_eq_left, Int.reducePow, Int.reduceNeg, Int.reduceEq, ls.ixsN hil, r0]
    refine callV_of (formatInt_spec (hg.powV.pre hp1) hok) ?_
    simp (dsimp := false) only [go_sem, Nat.reduceAdd, Nat.reduceEqDiff, Nat.reduceMul, Nat.reduceLeDiff, Nat.reduceSub, Nat.reduceLT, ↓reduceIte, reduceCtorEq, List.reduceReplicate, List.flatten_cons, List.flatten_nil, List.append_nil, eq_self, Int.reduceLE, Int.reduceLT, Int.reduceToNat, Nat.min_eq_left, Int.reducePow, Int.reduceNeg, Int.reduceEq]
    refine .inl ⟨i, hi, rfl, ?_⟩
    rw [eL]
    exact ans_one hp1 _
end
/-- The answer to any question but the seven words. -/
theorem ask_rest {h : AHeap} {C : List Value} {T : TD} (k : SrcT h C T) (hg : CountV h) {q : ByteArray} (hq : q.size ≤ 140737488351232) (ht : IsTable T.fib) (h7 : ∀ j, j < 7 → q ≠ words7.getD j ⟨#[]⟩) : SpecX Tryd.prog nG fn.query_Ask [.iface 105 (.agg ⟨C⟩), .string q] h fun v' h' => Out T q h h' v' := by
  have bad : ∀ {v' : Value} {h' : AHeap}, (∀ j, j < 43 → q ≠ qK j) → Pre h h' ∧ v' = errV → Out T q h h' v' := fun n p => .inr ⟨n, p⟩
  cases hc : cutL 32 q.data.toList with
  | none => exact (ask_w0 k hg hq hc h7).mono fun v' h' p => bad (not_q0 hc) p
  | some x =>
    obtain ⟨v, r⟩ := x
    obtain ⟨v, rfl⟩ : ∃ v' : ByteArray, v = v'.data.toList := ⟨⟨v.toArray⟩, by simp⟩
    obtain ⟨r, rfl⟩ : ∃ r' : ByteArray, r = r'.data.toList := ⟨⟨r.toArray⟩, by simp⟩
    have vk1 : ∀ j, j < 8 → vK j = ⟨#[110, 101, 120, 116]⟩ := fun j hj => by unfold vK; rw [if_pos hj]
    have vk2 : ∀ j, ¬ j < 8 → j < 16 → vK j = ⟨#[102, 108, 111, 111, 114]⟩ := fun j hj hj2 => by unfold vK; rw [if_neg hj, if_pos hj2]
    have vk3 : ∀ j, ¬ j < 16 → j < 24 → vK j = ⟨#[114, 111, 111, 116, 115]⟩ := fun j hj hj2 => by unfold vK; rw [if_neg (by omega), if_neg hj, if_pos hj2]
    have vk4 : ∀ j, ¬ j < 24 → vK j = ⟨#[99, 111, 117, 110, 116, 101, 114]⟩ := fun j hj => by unfold vK; rw [if_neg (by omega), if_neg (by omega), if_neg hj]
    have rk1 : ∀ j, j < 24 → rK j = digS (j % 8) := fun j hj => by unfold rK; rw [if_pos hj]
    have rk2 : ∀ j, ¬ j < 24 → rK j = countB.getD (j - 24) ⟨#[]⟩ := fun j hj => by unfold rK; rw [if_neg hj]
    have n12 : (⟨#[110, 101, 120, 116]⟩ : ByteArray) ≠ ⟨#[102, 108, 111, 111, 114]⟩ := by decide +kernel
    have n13 : (⟨#[110, 101, 120, 116]⟩ : ByteArray) ≠ ⟨#[114, 111, 111, 116, 115]⟩ := by decide +kernel
    have n14 : (⟨#[110, 101, 120, 116]⟩ : ByteArray) ≠ ⟨#[99, 111, 117, 110, 116, 101, 114]⟩ := by decide +kernel
    have n23 : (⟨#[102, 108, 111, 111, 114]⟩ : ByteArray) ≠ ⟨#[114, 111, 111, 116, 115]⟩ := by decide +kernel
    have n24 : (⟨#[102, 108, 111, 111, 114]⟩ : ByteArray) ≠ ⟨#[99, 111, 117, 110, 116, 101, 114]⟩ := by decide +kernel
    have n34 : (⟨#[114, 111, 111, 116, 115]⟩ : ByteArray) ≠ ⟨#[99, 111, 117, 110, 116, 101, 114]⟩ := by decide +kernel
    by_cases e1 : v = ⟨#[110, 101, 120, 116]⟩
    · subst e1
      by_cases hr : ∃ d, d < 8 ∧ r = digS d
      · obtain ⟨d, hd, rfl⟩ := hr
        refine (ask_ok_next k hg hq hd ht hc).mono fun v' h' p => .inl ⟨d, by omega, q_of hc (vk1 d hd).symm (by rw [rk1 d (by omega), Nat.mod_eq_of_lt hd]), ?_⟩
        unfold ansK; rw [if_pos hd]; exact p
      · have hr : ∀ d, d < 8 → r ≠ digS d := fun d hd e => hr ⟨d, hd, e⟩
        refine (ask_bad_next k hg hq hc hr).mono fun v' h' p => bad (fun j hj e => ?_) p
        obtain ⟨a1, a2⟩ := not_q hc hj e
        by_cases c1 : j < 24
        · exact hr (j % 8) (by omega) (by rw [a2, rk1 j c1])
        · exact n14 (by rw [a1, vk4 j c1])
    by_cases e2 : v = ⟨#[102, 108, 111, 111, 114]⟩
    · subst e2
      by_cases hr : ∃ d, d < 8 ∧ r = digS d
      · obtain ⟨d, hd, rfl⟩ := hr
        refine (ask_ok_floor k hg hq hd hc).mono fun v' h' p => .inl ⟨8 + d, by omega, q_of hc (vk2 _ (by omega) (by omega)).symm (by rw [rk1 _ (by omega), show (8 + d) % 8 = d by omega]), ?_⟩
        unfold ansK; rw [if_neg (by omega), if_pos (by omega), show 8 + d - 8 = d by omega]; exact p
      · have hr : ∀ d, d < 8 → r ≠ digS d := fun d hd e => hr ⟨d, hd, e⟩
        refine (ask_bad_floor k hg hq hc hr).mono fun v' h' p => bad (fun j hj e => ?_) p
        obtain ⟨a1, a2⟩ := not_q hc hj e
        by_cases c1 : j < 24
        · exact hr (j % 8) (by omega) (by rw [a2, rk1 j c1])
        · exact n24 (by rw [a1, vk4 j c1])
    by_cases e3 : v = ⟨#[114, 111, 111, 116, 115]⟩
    · subst e3
      by_cases hr : ∃ d, d < 8 ∧ r = digS d
      · obtain ⟨d, hd, rfl⟩ := hr
        refine (ask_ok_roots k hg hq hd hc).mono fun v' h' p => .inl ⟨16 + d, by omega, q_of hc (vk3 _ (by omega) (by omega)).symm (by rw [rk1 _ (by omega), show (16 + d) % 8 = d by omega]), ?_⟩
        unfold ansK; rw [if_neg (by omega), if_neg (by omega), if_pos (by omega), show 16 + d - 16 = d by omega]; exact p
      · have hr : ∀ d, d < 8 → r ≠ digS d := fun d hd e => hr ⟨d, hd, e⟩
        refine (ask_bad_roots k hg hq hc hr).mono fun v' h' p => bad (fun j hj e => ?_) p
        obtain ⟨a1, a2⟩ := not_q hc hj e
        by_cases c1 : j < 24
        · exact hr (j % 8) (by omega) (by rw [a2, rk1 j c1])
        · exact n34 (by rw [a1, vk4 j c1])
    by_cases e4 : v = ⟨#[99, 111, 117, 110, 116, 101, 114]⟩
    · subst e4
      refine (ask_counter k hg hq hc).mono fun v' h' p => ?_
      rcases p with ⟨i, hi, rfl, p⟩ | ⟨hw, p⟩
      · refine .inl ⟨24 + i, by omega, q_of hc (vk4 _ (by omega)).symm (by rw [rk2 _ (by omega), show 24 + i - 24 = i by omega]), ?_⟩
        unfold ansK; rw [if_neg (by omega), if_neg (by omega), if_neg (by omega), show 24 + i - 24 = i by omega]; exact p
      · refine bad (fun j hj e => ?_) p
        obtain ⟨a1, a2⟩ := not_q hc hj e
        by_cases c1 : j < 24
        · by_cases c2 : j < 8
          · exact n14 (by rw [a1, vk1 j c2])
          · by_cases c3 : j < 16
            · exact n24 (by rw [a1, vk2 j c2 c3])
            · exact n34 (by rw [a1, vk3 j c3 c1])
        · rw [a2, rk2 j c1, wh_at (by omega)] at hw
          omega
    refine (ask_wx k hg hq hc e1 e2 e3 e4).mono fun v' h' p => bad (fun j hj e => ?_) p
    obtain ⟨a1, a2⟩ := not_q hc hj e
    by_cases c1 : j < 8
    · exact e1 (by rw [a1, vk1 j c1])
    · by_cases c2 : j < 16
      · exact e2 (by rw [a1, vk2 j c1 c2])
      · by_cases c3 : j < 24
        · exact e3 (by rw [a1, vk3 j c2 c3])
        · exact e4 (by rw [a1, vk4 j c3])
end Go.Proofs.YtoiihalnbdehkaaDoor.B
/-
  Layer 26: the document's answer to any question; the two are the same (P26.1).
-/
namespace Go.Proofs.YtoiihalnbdehkaaDoor.B
open Go
set_option linter.unusedVariables false
set_option linter.unusedSimpArgs false
set_option linter.unusedSectionVars false
set_option maxRecDepth 100000
theorem rlookup_spec {h : AHeap} {v : Value} {l : List Hop} (hv : Ls h 3 isH v l) (x : Int) : SpecX Tryd.prog nG fn.ref22_Lookup [v, .int .i64 x] h fun v' h' => Pre h h' ∧ v' = .int .i64 (lookL l x) := by
  refine SpecX.of_body (ir.ref22_Lookup.spec (Nat.le_of_ble_eq_true rfl)) ?_
  simp (dsimp := false) only [↓ir.ref22_Lookup.bw, ir.ref22_Lookup.rs, go_sem, Nat.reduceAdd, Nat.reduceEqDiff, Nat.reduceMul, Nat.reduceLeDiff, Nat.reduceSub, Nat.reduceLT, ↓reduceIte, reduceCtorEq, List.reduceReplicate, List.flatten_cons, List.flatten_nil, List.append_nil, eq_self, Int.reduceLE, Int.reduceLT, Int.reduceToNat, Nat.min_eq_left, Int.reducePow, Int.reduceNeg, Int.reduceEq, hv.lenV]
  refine loopV_of (fun m e h2 => ∃ (i : Nat), m = l.length - i ∧ i ≤ l.length ∧ h2 = h ∧ (∀ j (hj : j < l.length), j < i → l[j].d ≠ x) ∧ e = [(0, v), (1, .int .i64 x), (5, .int .i64 i)]) _ ⟨0, rfl, Nat.zero_le _, rfl, fun j _ hj => by omega, rfl⟩ ?_
  rintro m e h2 ⟨i, rfl, hi, rfl, hn, rfl⟩
  rcases Nat.lt_or_ge i l.length with hlt | hge
  · obtain ⟨r0, r1, r2, r3⟩ := hv.hop (.refl _) hlt
    simp (dsimp := false) only [↓ir.ref22_Lookup.l1.bw, go_sem, Nat.reduceAdd, Nat.reduceEqDiff, Nat.reduceMul, Nat.reduceLeDiff, Nat.reduceSub, Nat.reduceLT, ↓reduceIte, reduceCtorEq, List.reduceReplicate, List.flatten_cons, List.flatten_nil, List.append_nil, eq_self, Int.reduceLE, Int.reduceLT, Int.reduceToNat, Nat.min_eq_left, Int.reducePow, Int.reduceNeg, Int.reduceEq, hv.lenV, hv.ixsN hlt, r1, Int.ofNat_lt, hlt, decide_true]
    refine cVe (fun hc => ?_) (fun hc => ?_)
    · simp (dsimp := false) only [go_sem, Nat.reduceAdd, Nat.reduceEqDiff, Nat.reduceMul, Nat.reduceLeDiff, Nat.reduceSub, Nat.reduceLT, ↓reduceIte, reduceCtorEq, List.reduceReplicate, List.flatten_cons, List.flatten_nil, List.append_nil, eq_self, Int.reduceLE, Int.reduceLT, Int.reduceToNat, Nat.min_eq_left, Int.reducePow, Int.reduceNeg, Int.reduceEq, hv.ixsN hlt, r2]
      exact congrArg (Value.int .i64) (lookL_at hlt hc fun j hj => hn j (by omega) hj).symm
    · simp (dsimp := false) only [go_sem, Nat.reduceAdd, Nat.reduceEqDiff, Nat.reduceMul, Nat.reduceLeDiff, Nat.reduceSub, Nat.reduceLT, ↓reduceIte, reduceCtorEq, List.reduceReplicate, List.flatten_cons, List.flatten_nil, List.append_nil, eq_self, Int.reduceLE, Int.reduceLT, Int.reduceToNat, Nat.min_eq_left, Int.reducePow, Int.reduceNeg, Int.reduceEq, wrap_succ hlt hv.le]
      refine ⟨l.length - (i + 1), by omega, i + 1, rfl, hlt, fun j hj hji => ?_, rfl⟩
      by_cases e : j < i
      · exact hn j hj e
      · obtain rfl : j = i := by omega
        exact hc
  · simp (dsimp := false) only [↓ir.ref22_Lookup.l1.bw, go_sem, Nat.reduceAdd, Nat.reduceEqDiff, Nat.reduceMul, Nat.reduceLeDiff, Nat.reduceSub, Nat.reduceLT, ↓reduceIte, reduceCtorEq, List.reduceReplicate, List.flatten_cons, List.flatten_nil, List.append_nil, eq_self, Int.reduceLE, Int.reduceLT, Int.reduceToNat, Nat.min_eq_left, Int.reducePow, Int.reduceNeg, Int.reduceEq, hv.lenV, Int.ofNat_lt, show ¬ i < l.length by omega, decide_false]
    refine congrArg (Value.int .i64) (lookL_none fun a ha => ?_).symm
    obtain ⟨j, hj, rfl⟩ := List.getElem_of_mem ha
    exact hn j hj (by omega)
theorem nx1 : ∀ d : Nat, d < 8 → (⟨#[110, 101, 120, 116, 32]⟩ : ByteArray) ++ wholeS (d : Int) = qK d := by decide +kernel
theorem nx2 : ∀ d : Nat, d < 8 → (⟨#[102, 108, 111, 111, 114, 32]⟩ : ByteArray) ++ wholeS (d : Int) = qK (8 + d) := by decide +kernel
theorem nx3 : ∀ d : Nat, d < 8 → (⟨#[114, 111, 111, 116, 115, 32]⟩ : ByteArray) ++ wholeS (d : Int) = qK (16 + d) := by decide +kernel
theorem nx4 : ∀ i : Nat, i < 19 → (⟨#[99, 111, 117, 110, 116, 101, 114, 32]⟩ : ByteArray) ++ nmS countB (i : Int) = qK (24 + i) := by decide +kernel
theorem rask_rest {h : AHeap} {C : List Value} {T : TD} (k : SrcT h C T) {q : ByteArray} (ht : IsTable T.fib) (h7 : ∀ j, j < 7 → q ≠ words7.getD j ⟨#[]⟩) : SpecX Tryd.prog nG fn.ref26_Ask [.agg ⟨C⟩, .string q] h fun v' h' => Out T q h h' v' := by
  refine SpecX.of_body (ir.ref26_Ask.spec (Nat.le_of_ble_eq_true rfl)) ?_
  have hp0 : Pre h (h ++ [.row .fix C]) := .app _ _
  have fx : Fx (h ++ [.row .fix C]) h.length C := Fx.here h C []
  have f_fib : (q.toList == (⟨#[102, 105, 98]⟩ : ByteArray).toList) = false := toL_ne (h7 0 (by omega))
  have f_own : (q.toList == (⟨#[111, 119, 110]⟩ : ByteArray).toList) = false := toL_ne (h7 1 (by omega))
  have f_live : (q.toList == (⟨#[108, 105, 118, 101]⟩ : ByteArray).toList) = false := toL_ne (h7 2 (by omega))
  have f_counters : (q.toList == (⟨#[99, 111, 117, 110, 116, 101, 114, 115]⟩ : ByteArray).toList) = false := toL_ne (h7 3 (by omega))
  have f_now : (q.toList == (⟨#[110, 111, 119]⟩ : ByteArray).toList) = false := toL_ne (h7 4 (by omega))
  have f_boot : (q.toList == (⟨#[98, 111, 111, 116]⟩ : ByteArray).toList) = false := toL_ne (h7 5 (by omega))
  have f_dead : (q.toList == (⟨#[100, 101, 97, 100]⟩ : ByteArray).toList) = false := toL_ne (h7 6 (by omega))
  obtain ⟨fv, ev, ls0, hf, ho⟩ := k.fib
  have ls := ls0.pre hp0
  have rv : rds (h ++ [.row .fix C]) h.length 0 1 = some [fv] := fx.rd ev (by rw [k.len]; omega)
  have rH : ∀ d, d < 8 → rds (h ++ [.row .fix C]) h.length (1 + d) 1 = some [.bool (T.has d)] := fun d hd => fx.rd (k.has d hd) (by rw [k.len]; omega)
  have rK : ∀ d, d < 8 → rds (h ++ [.row .fix C]) h.length (9 + d * 3) 3 = some (keyC (T.fe d) (T.fs d) (T.fm d)) := fun d hd => fx.rd (k.flo d hd).1 (by rw [k.len]; omega)
  have rR : ∀ d, d < 8 → rds (h ++ [.row .fix C]) h.length (38 + d) 1 = some [.int .i64 (T.roots d)] := fun d hd => fx.rd (k.roots d hd).1 (by rw [k.len]; omega)
  obtain ⟨c19, hl, hok⟩ := k.ctr
  have rC : ∀ i, i < 19 → rds (h ++ [.row .fix C]) h.length (46 + i) 1 = some [.int .i64 (T.ctr.getD i 0)] := fun i hi => by
    have r : rds (h ++ [.row .fix C]) h.length 46 19 = some (ints T.ctr) := fx.rd c19 (by rw [k.len]; omega)
    have := rds_sub r (i := i) (m := 1) (by omega)
    rwa [ints_rd (by omega)] at this
  simp (dsimp := false) only [↓ir.ref26_Ask.bw, ir.ref26_Ask.rs, go_sem, Nat.reduceAdd, Nat.reduceEqDiff, Nat.reduceMul, Nat.reduceLeDiff, Nat.reduceSub, Nat.reduceLT, ↓reduceIte, reduceCtorEq, List.reduceReplicate, List.flatten_cons, List.flatten_nil, List.append_nil, eq_self, Int.reduceLE, Int.reduceLT, Int.reduceToNat, Nat.min_eq_left, Int.reducePow, Int.reduceNeg, Int.reduceEq, f_fib, f_own, f_live, f_counters, f_now, f_boot, f_dead]
  generalize (h ++ [AObj.row .fix C]) = h1 at hp0 ls rv rH rK rR rC ⊢
  generalize h.length = b at rv rH rK rR rC ⊢
  refine loopV_of (fun m e h2 => ∃ i : Nat, m = 8 - i ∧ i ≤ 8 ∧ h2 = h1 ∧ (∀ d, d < i → q ≠ qK d ∧ q ≠ qK (8 + d) ∧ q ≠ qK (16 + d)) ∧ e = [(1, .string q), (2, .pointer (some ⟨b, 0, none⟩)), (12, .int .i64 i)]) _
    ⟨0, rfl, Nat.zero_le _, rfl, fun d hd => absurd hd (Nat.not_lt_zero _), rfl⟩ ?_
  rintro m e h2 ⟨i, rfl, hi, rfl, hno, rfl⟩
  rcases Nat.lt_or_ge i 8 with hlt | hge
  · have hd : decide ((i : Int) < 8) = true := by simpa using (by omega : (i : Int) < 8)
    have e1 : IntKind.i64.wrap ((i : Int) + 1) = ((i + 1 : Nat) : Int) := wrap_succ hlt (by unfold maxI; omega)
    have io : i64ok (i : Int) := by constructor <;> omega
    have s1 := wholeS_size io
    have hr8 : ((0 : Int) ≤ (i : Int) ∧ (i : Int) < ((8 : Nat) : Int)) := by omega
    simp (dsimp := false) only [↓ir.ref26_Ask.l3.bw, go_sem, Nat.reduceAdd, Nat.reduceEqDiff, Nat.reduceMul, Nat.reduceLeDiff, Nat.reduceSub, Nat.reduceLT, ↓reduceIte, reduceCtorEq, List.reduceReplicate, List.flatten_cons, List.flatten_nil, List.append_nil, eq_self, Int.reduceLE, Int.reduceLT, Int.reduceToNat, Nat.min_eq_left, Int.reducePow, Int.reduceNeg, Int.reduceEq, hd]
    refine callV_of (rwhole_spec _ io) ?_
    simp (dsimp := false) only [go_sem, Nat.reduceAdd, Nat.reduceEqDiff, Nat.reduceMul, Nat.reduceLeDiff, Nat.reduceSub, Nat.reduceLT, ↓reduceIte, reduceCtorEq, List.reduceReplicate, List.flatten_cons, List.flatten_nil, List.append_nil, eq_self, Int.reduceLE, Int.reduceLT, Int.reduceToNat, Nat.min_eq_left, Int.reducePow, Int.reduceNeg, Int.reduceEq]
    refine ⟨by simp only [ByteArray.size_append, size_mk, List.size_toArray, List.length_cons, List.length_nil]; omega, ?_⟩
    rw [nx1 i hlt]
    refine cV (fun c => ?_) (fun c => ?_)
    · have c := (toL_iff _ _).1 c
      simp (dsimp := false) only [go_sem, Nat.reduceAdd, Nat.reduceEqDiff, Nat.reduceMul, Nat.reduceLeDiff, Nat.reduceSub, Nat.reduceLT, ↓reduceIte, reduceCtorEq, List.reduceReplicate, List.flatten_cons, List.flatten_nil, List.append_nil, eq_self, Int.reduceLE, Int.reduceLT, Int.reduceToNat, Nat.min_eq_left, Int.reducePow, Int.reduceNeg, Int.reduceEq, rv]
      refine callV_x (rlookup_spec ls _) ?_
      rintro _ h3 ⟨hp3, rfl⟩
      have hb := lookL_bd (x := (i : Int)) (l := T.fib) (fun a ha => (ht.1 a ha).2.2)
      have ri : i64ok (lookL T.fib i) := by constructor <;> omega
      simp (dsimp := false) only [go_sem, Nat.reduceAdd, Nat.reduceEqDiff, Nat.reduceMul, Nat.reduceLeDiff, Nat.reduceSub, Nat.reduceLT, ↓reduceIte, reduceCtorEq, List.reduceReplicate, List.flatten_cons, List.flatten_nil, List.append_nil, eq_self, Int.reduceLE, Int.reduceLT, Int.reduceToNat, Nat.min_eq_left, Int.reducePow, Int.reduceNeg, Int.reduceEq]
      refine cVd (fun c2 => ?_) (fun c2 => ?_)
      · simp (dsimp := false) only [go_sem, Nat.reduceAdd, Nat.reduceEqDiff, Nat.reduceMul, Nat.reduceLeDiff, Nat.reduceSub, Nat.reduceLT, ↓reduceIte, reduceCtorEq, List.reduceReplicate, List.flatten_cons, List.flatten_nil, List.append_nil, eq_self, Int.reduceLE, Int.reduceLT, Int.reduceToNat, Nat.min_eq_left, Int.reducePow, Int.reduceNeg, Int.reduceEq]
        refine .inl ⟨i, by omega, c, ?_⟩
        unfold ansK; rw [if_pos hlt, if_neg (by omega)]
        exact ans_one (hp0.trans hp3) _
      · simp (dsimp := false) only [go_sem, Nat.reduceAdd, Nat.reduceEqDiff, Nat.reduceMul, Nat.reduceLeDiff, Nat.reduceSub, Nat.reduceLT, ↓reduceIte, reduceCtorEq, List.reduceReplicate, List.flatten_cons, List.flatten_nil, List.append_nil, eq_self, Int.reduceLE, Int.reduceLT, Int.reduceToNat, Nat.min_eq_left, Int.reducePow, Int.reduceNeg, Int.reduceEq]
        refine callV_of (rwhole_spec _ ri) ?_
        simp (dsimp := false) only [go_sem, Nat.reduceAdd, Nat.reduceEqDiff, Nat.reduceMul, Nat.reduceLeDiff, Nat.reduceSub, Nat.reduceLT, ↓reduceIte, reduceCtorEq, List.reduceReplicate, List.flatten_cons, List.flatten_nil, List.append_nil, eq_self, Int.reduceLE, Int.reduceLT, Int.reduceToNat, Nat.min_eq_left, Int.reducePow, Int.reduceNeg, Int.reduceEq]
        refine .inl ⟨i, by omega, c, ?_⟩
        unfold ansK; rw [if_pos hlt, if_pos (by omega)]
        exact ans_one (hp0.trans hp3) _
    · have c1 : q ≠ qK i := fun e => by rw [(toL_iff _ _).2 e] at c; cases c
      simp (dsimp := false) only [go_sem, Nat.reduceAdd, Nat.reduceEqDiff, Nat.reduceMul, Nat.reduceLeDiff, Nat.reduceSub, Nat.reduceLT, ↓reduceIte, reduceCtorEq, List.reduceReplicate, List.flatten_cons, List.flatten_nil, List.append_nil, eq_self, Int.reduceLE, Int.reduceLT, Int.reduceToNat, Nat.min_eq_left, Int.reducePow, Int.reduceNeg, Int.reduceEq]
      refine ⟨by simp only [ByteArray.size_append, size_mk, List.size_toArray, List.length_cons, List.length_nil]; omega, ?_⟩
      rw [nx2 i hlt]
      refine cV (fun c => ?_) (fun c => ?_)
      · have c := (toL_iff _ _).1 c
        obtain ⟨_, w1, w2, w3⟩ := k.flo i hlt
        have r1 := rK i hlt
        have r2 := rH i hlt
        simp (dsimp := false) only [go_sem, Nat.reduceAdd, Nat.reduceEqDiff, Nat.reduceMul, Nat.reduceLeDiff, Nat.reduceSub, Nat.reduceLT, ↓reduceIte, reduceCtorEq, List.reduceReplicate, List.flatten_cons, List.flatten_nil, List.append_nil, eq_self, Int.reduceLE, Int.reduceLT, Int.reduceToNat, Nat.min_eq_left, Int.reducePow, Int.reduceNeg, Int.reduceEq, ixaV_ptr, Int.toNat_natCast, Nat.mul_one, hr8, r1, r2]
        refine callV_x (rkey_spec _ w1 w2 w3 (T.has i)) ?_
        rintro _ h3 ⟨hp3, rfl⟩
        refine ⟨hp3, ?_⟩
        simp (dsimp := false) only [go_sem, Nat.reduceAdd, Nat.reduceEqDiff, Nat.reduceMul, Nat.reduceLeDiff, Nat.reduceSub, Nat.reduceLT, ↓reduceIte, reduceCtorEq, List.reduceReplicate, List.flatten_cons, List.flatten_nil, List.append_nil, eq_self, Int.reduceLE, Int.reduceLT, Int.reduceToNat, Nat.min_eq_left, Int.reducePow, Int.reduceNeg, Int.reduceEq]
        have ak : ansK T (8 + i) = [if T.has i then keyS (T.fe i) (T.fs i) (T.fm i) else noneS] := by
          unfold ansK; rw [if_neg (by omega), if_pos (by omega), show 8 + i - 8 = i by omega]
        refine .inl ⟨8 + i, by omega, c, ?_⟩
        rw [ak]
        exact ans_one (hp0.trans hp3) _
      · have c2 : q ≠ qK (8 + i) := fun e => by rw [(toL_iff _ _).2 e] at c; cases c
        simp (dsimp := false) only [go_sem, Nat.reduceAdd, Nat.reduceEqDiff, Nat.reduceMul, Nat.reduceLeDiff, Nat.reduceSub, Nat.reduceLT, ↓reduceIte, reduceCtorEq, List.reduceReplicate, List.flatten_cons, List.flatten_nil, List.append_nil, eq_self, Int.reduceLE, Int.reduceLT, Int.reduceToNat, Nat.min_eq_left, Int.reducePow, Int.reduceNeg, Int.reduceEq]
        refine ⟨by simp only [ByteArray.size_append, size_mk, List.size_toArray, List.length_cons, List.length_nil]; omega, ?_⟩
        rw [nx3 i hlt]
        refine cV (fun c => ?_) (fun c => ?_)
        · have c := (toL_iff _ _).1 c
          obtain ⟨_, w1⟩ := k.roots i hlt
          have r1 := rR i hlt
          simp (dsimp := false) only [go_sem, Nat.reduceAdd, Nat.reduceEqDiff, Nat.reduceMul, Nat.reduceLeDiff, Nat.reduceSub, Nat.reduceLT, ↓reduceIte, reduceCtorEq, List.reduceReplicate, List.flatten_cons, List.flatten_nil, List.append_nil, eq_self, Int.reduceLE, Int.reduceLT, Int.reduceToNat, Nat.min_eq_left, Int.reducePow, Int.reduceNeg, Int.reduceEq, ixaV_ptr, Int.toNat_natCast, Nat.mul_one, hr8, r1]
          refine callV_of (rwhole_spec _ w1) ?_
          simp (dsimp := false) only [go_sem, Nat.reduceAdd, Nat.reduceEqDiff, Nat.reduceMul, Nat.reduceLeDiff, Nat.reduceSub, Nat.reduceLT, ↓reduceIte, reduceCtorEq, List.reduceReplicate, List.flatten_cons, List.flatten_nil, List.append_nil, eq_self, Int.reduceLE, Int.reduceLT, Int.reduceToNat, Nat.min_eq_left, Int.reducePow, Int.reduceNeg, Int.reduceEq]
          refine .inl ⟨16 + i, by omega, c, ?_⟩
          unfold ansK; rw [if_neg (by omega), if_neg (by omega), if_pos (by omega), show 16 + i - 16 = i by omega]
          exact ans_one hp0 _
        · have c3 : q ≠ qK (16 + i) := fun e => by rw [(toL_iff _ _).2 e] at c; cases c
          simp (dsimp := false) only [go_sem, Nat.reduceAdd, Nat.reduceEqDiff, Nat.reduceMul, Nat.reduceLeDiff, Nat.reduceSub, Nat.reduceLT, ↓reduceIte, reduceCtorEq, List.reduceReplicate, List.flatten_cons, List.flatten_nil, List.append_nil, eq_self, Int.reduceLE, Int.reduceLT, Int.reduceToNat, Nat.min_eq_left, Int.reducePow, Int.reduceNeg, Int.reduceEq, e1]
          refine ⟨8 - (i + 1), by omega, i + 1, rfl, hlt, fun d hd => ?_, rfl⟩
          rcases Nat.lt_or_ge d i with z | z
          · exact hno d z
          · obtain rfl : d = i := by omega
            exact ⟨c1, c2, c3⟩
  · have hd : decide ((i : Int) < 8) = false := by simpa using (by omega : ¬ (i : Int) < 8)
    obtain rfl : i = 8 := by omega
    simp (dsimp := false) only [↓ir.ref26_Ask.l3.bw, go_sem, Nat.reduceAdd, Nat.reduceEqDiff, Nat.reduceMul, Nat.reduceLeDiff, Nat.reduceSub, Nat.reduceLT, ↓reduceIte, reduceCtorEq, List.reduceReplicate, List.flatten_cons, List.flatten_nil, List.append_nil, eq_self, Int.reduceLE, Int.reduceLT, Int.reduceToNat, Nat.min_eq_left, Int.reducePow, Int.reduceNeg, Int.reduceEq, hd]
    refine loopV_of (fun m e h3 => ∃ i : Nat, m = 19 - i ∧ i ≤ 19 ∧ h3 = h2 ∧ (∀ d, d < i → q ≠ qK (24 + d)) ∧ e = [(1, .string q), (2, .pointer (some ⟨b, 0, none⟩)), (15, .int .i64 i)]) _
      ⟨0, rfl, Nat.zero_le _, rfl, fun d hd => absurd hd (Nat.not_lt_zero _), rfl⟩ ?_
    rintro m e h3 ⟨i, rfl, hi, rfl, hno2, rfl⟩
    rcases Nat.lt_or_ge i 19 with ilt | ige
    · have hd : decide ((i : Int) < 19) = true := by simpa using (by omega : (i : Int) < 19)
      have e1 : IntKind.i64.wrap ((i : Int) + 1) = ((i + 1 : Nat) : Int) := wrap_succ ilt (by unfold maxI; omega)
      have z1 := nmS_size (L := countB) (c := 9) (by decide) i
      have hr19 : ((0 : Int) ≤ (i : Int) ∧ (i : Int) < ((19 : Nat) : Int)) := by omega
      simp (dsimp := false) only [↓ir.ref26_Ask.l4.bw, go_sem, Nat.reduceAdd, Nat.reduceEqDiff, Nat.reduceMul, Nat.reduceLeDiff, Nat.reduceSub, Nat.reduceLT, ↓reduceIte, reduceCtorEq, List.reduceReplicate, List.flatten_cons, List.flatten_nil, List.append_nil, eq_self, Int.reduceLE, Int.reduceLT, Int.reduceToNat, Nat.min_eq_left, Int.reducePow, Int.reduceNeg, Int.reduceEq, hd]
      refine callV_of (rname24_spec _ _) ?_
      simp (dsimp := false) only [go_sem, Nat.reduceAdd, Nat.reduceEqDiff, Nat.reduceMul, Nat.reduceLeDiff, Nat.reduceSub, Nat.reduceLT, ↓reduceIte, reduceCtorEq, List.reduceReplicate, List.flatten_cons, List.flatten_nil, List.append_nil, eq_self, Int.reduceLE, Int.reduceLT, Int.reduceToNat, Nat.min_eq_left, Int.reducePow, Int.reduceNeg, Int.reduceEq]
      refine ⟨by simp only [ByteArray.size_append, size_mk, List.size_toArray, List.length_cons, List.length_nil]; omega, ?_⟩
      rw [nx4 i ilt]
      refine cV (fun c => ?_) (fun c => ?_)
      · have c := (toL_iff _ _).1 c
        have r1 := rC i ilt
        simp (dsimp := false) only [go_sem, Nat.reduceAdd, Nat.reduceEqDiff, Nat.reduceMul, Nat.reduceLeDiff, Nat.reduceSub, Nat.reduceLT, ↓reduceIte, reduceCtorEq, List.reduceReplicate, List.flatten_cons, List.flatten_nil, List.append_nil, eq_self, Int.reduceLE, Int.reduceLT, Int.reduceToNat, Nat.min_eq_left, Int.reducePow, Int.reduceNeg, Int.reduceEq, ixaV_ptr, Int.toNat_natCast, Nat.mul_one, hr19, r1]
        refine callV_of (rwhole_spec _ (hok i)) ?_
        simp (dsimp := false) only [go_sem, Nat.reduceAdd, Nat.reduceEqDiff, Nat.reduceMul, Nat.reduceLeDiff, Nat.reduceSub, Nat.reduceLT, ↓reduceIte, reduceCtorEq, List.reduceReplicate, List.flatten_cons, List.flatten_nil, List.append_nil, eq_self, Int.reduceLE, Int.reduceLT, Int.reduceToNat, Nat.min_eq_left, Int.reducePow, Int.reduceNeg, Int.reduceEq]
        refine .inl ⟨24 + i, by omega, c, ?_⟩
        unfold ansK; rw [if_neg (by omega), if_neg (by omega), if_neg (by omega), show 24 + i - 24 = i by omega]
        exact ans_one hp0 _
      · have c2 : q ≠ qK (24 + i) := fun e => by rw [(toL_iff _ _).2 e] at c; cases c
        simp (dsimp := false) only [go_sem, Nat.reduceAdd, Nat.reduceEqDiff, Nat.reduceMul, Nat.reduceLeDiff, Nat.reduceSub, Nat.reduceLT, ↓reduceIte, reduceCtorEq, List.reduceReplicate, List.flatten_cons, List.flatten_nil, List.append_nil, eq_self, Int.reduceLE, Int.reduceLT, Int.reduceToNat, Nat.min_eq_left, Int.reducePow, Int.reduceNeg, Int.reduceEq, e1]
        refine ⟨19 - (i + 1), by omega, i + 1, rfl, ilt, fun d hd => ?_, rfl⟩
        rcases Nat.lt_or_ge d i with z | z
        · exact hno2 d z
        · obtain rfl : d = i := by omega
          exact c2
    · have hd : decide ((i : Int) < 19) = false := by simpa using (by omega : ¬ (i : Int) < 19)
      obtain rfl : i = 19 := by omega
      simp (dsimp := false) only [↓ir.ref26_Ask.l4.bw, go_sem, Nat.reduceAdd, Nat.reduceEqDiff, Nat.reduceMul, Nat.reduceLeDiff, Nat.reduceSub, Nat.reduceLT, ↓reduceIte, reduceCtorEq, List.reduceReplicate, List.flatten_cons, List.flatten_nil, List.append_nil, eq_self, Int.reduceLE, Int.reduceLT, Int.reduceToNat, Nat.min_eq_left, Int.reducePow, Int.reduceNeg, Int.reduceEq, hd]
      refine .inr ⟨fun j hj e => ?_, hp0, rfl⟩
      by_cases c1 : j < 8
      · exact (hno j c1).1 e
      · by_cases c2 : j < 16
        · exact (hno (j - 8) (by omega)).2.1 (by rw [show 8 + (j - 8) = j by omega]; exact e)
        · by_cases c3 : j < 24
          · exact (hno (j - 16) (by omega)).2.2 (by rw [show 16 + (j - 16) = j by omega]; exact e)
          · exact hno2 (j - 24) (by omega) (by rw [show 24 + (j - 24) = j by omega]; exact e)
/-- So many lines, and an error's number. -/
def AnsE (h h' : AHeap) (l : List ByteArray) (e : Int) (v : Value) : Prop := Pre h h' ∧ ∃ u, v = .tuple #[u, .int .i64 e] ∧ Ls h' 1 strR u l
theorem nil_ls (h : AHeap) : Ls h 1 strR (.slice none 0 0) [] := Sl.ls (enc := fun s : ByteArray => [.string s]) (fun _ => rfl) .nil rfl
theorem Ans.e {h h' : AHeap} {l : List ByteArray} {v : Value} (p : Ans h h' l v) : AnsE h h' l 0 v := let ⟨a, u, b, c, _⟩ := p; ⟨a, u, b, c⟩
theorem out_k {T : TD} {q : ByteArray} {h h' : AHeap} {v : Value} (p : Out T q h h' v) {k : Nat} (hk : k < 43) (e : q = qK k) : AnsE h h' (ansK T k) 0 v := by
  rcases p with ⟨j, hj, e2, p⟩ | ⟨n, _⟩
  · have : j = k := qK_inj j hj k hk (e2.symm.trans e)
    subst this
    exact p.e
  · exact absurd e (n k hk)
theorem out_n {T : TD} {q : ByteArray} {h h' : AHeap} {v : Value} (p : Out T q h h' v) (hn : ¬ ∃ k, k < 43 ∧ q = qK k) : AnsE h h' [] 40 v := by
  rcases p with ⟨j, hj, e2, _⟩ | ⟨_, p, rfl⟩
  · exact absurd ⟨j, hj, e2⟩ hn
  · exact ⟨p, _, rfl, nil_ls _⟩
theorem both_spec {C : List Value} {T : TD} (ht : IsTable T.fib) (hn : T.live.length ≤ 30) {q : ByteArray} (hq : q.size ≤ 140737488351232) : ∃ l e, (∀ h, SrcT h C T → CountV h → SpecX Tryd.prog nG fn.query_Ask [.iface 105 (.agg ⟨C⟩), .string q] h fun v' h' => AnsE h h' l e v') ∧ (∀ h, SrcT h C T → SpecX Tryd.prog nG fn.ref26_Ask [.agg ⟨C⟩, .string q] h fun v' h' => AnsE h h' l e v') := by
  by_cases hw : ∃ j, j < 7 ∧ q = words7.getD j ⟨#[]⟩
  · obtain ⟨j, hj, rfl⟩ := hw
    exact ⟨ansW T j, 0, fun h k hg => (askW k hg hn hj).mono fun _ _ p => p.e, fun h k => (raskW k hn hj).mono fun _ _ p => p.e⟩
  · have h7 : ∀ j, j < 7 → q ≠ words7.getD j ⟨#[]⟩ := fun j hj e => hw ⟨j, hj, e⟩
    by_cases hk : ∃ k, k < 43 ∧ q = qK k
    · obtain ⟨i, hi, e⟩ := hk
      exact ⟨ansK T i, 0, fun h k hg => (ask_rest k hg hq ht h7).mono fun _ _ p => out_k p hi e, fun h k => (rask_rest k ht h7).mono fun _ _ p => out_k p hi e⟩
    · exact ⟨[], 40, fun h k hg => (ask_rest k hg hq ht h7).mono fun _ _ p => out_n p hk, fun h k => (rask_rest k ht h7).mono fun _ _ p => out_n p hk⟩
theorem queryAsks_spec {h : AHeap} {C : List Value} {T : TD} (hg : CountV h) (k : SrcT h C T) {q : ByteArray} (hq : q.size ≤ 140737488351232) : SpecX Tryd.prog nG fn.law26_QueryAsks [.agg ⟨C⟩, .string q] h fun v' _ => v' = .bool true := by
  refine SpecX.of_body (ir.law26_QueryAsks.spec (Nat.le_of_ble_eq_true rfl)) ?_
  obtain ⟨v, ev, ls, hf, _⟩ := k.fib
  obtain ⟨u, eu, lsu, _, _⟩ := k.live
  have fx : Fx (h ++ [.row .fix C]) h.length C := Fx.here h C []
  have hp0 : Pre h (h ++ [.row .fix C]) := .app _ _
  have r0 : rds (h ++ [.row .fix C]) h.length 0 1 = some [v] := fx.rd ev (by rw [k.len]; omega)
  simp (dsimp := false) only [↓ir.law26_QueryAsks.bw, ir.law26_QueryAsks.rs, go_sem, Nat.reduceAdd, Nat.reduceEqDiff, Nat.reduceMul, Nat.reduceLeDiff, Nat.reduceSub, Nat.reduceLT, ↓reduceIte, reduceCtorEq, List.reduceReplicate, List.flatten_cons, List.flatten_nil, List.append_nil, eq_self, Int.reduceLE, Int.reduceLT, Int.reduceToNat, Nat.min_eq_left, Int.reducePow, Int.reduceNeg, Int.reduceEq, r0]
  refine callV_x (table_spec (ls.pre hp0)) ?_
  rintro _ h1 ⟨hp1, t, rfl, ht⟩
  have r37 : rds h1 h.length 37 1 = some [u] := (fx.pre hp1).rd eu (by rw [k.len]; omega)
  cases t with
  | false =>
    simp (dsimp := false) only [go_sem, Nat.reduceAdd, Nat.reduceEqDiff, Nat.reduceMul, Nat.reduceLeDiff, Nat.reduceSub, Nat.reduceLT, ↓reduceIte, reduceCtorEq, List.reduceReplicate, List.flatten_cons, List.flatten_nil, List.append_nil, eq_self, Int.reduceLE, Int.reduceLT, Int.reduceToNat, Nat.min_eq_left, Int.reducePow, Int.reduceNeg, Int.reduceEq, Bool.not_false, Bool.not_true]
    refine callV_of (qawake_spec _) ?_
    simp (dsimp := false) only [go_sem, Nat.reduceAdd, Nat.reduceEqDiff, Nat.reduceMul, Nat.reduceLeDiff, Nat.reduceSub, Nat.reduceLT, ↓reduceIte, reduceCtorEq, List.reduceReplicate, List.flatten_cons, List.flatten_nil, List.append_nil, eq_self, Int.reduceLE, Int.reduceLT, Int.reduceToNat, Nat.min_eq_left, Int.reducePow, Int.reduceNeg, Int.reduceEq]
  | true =>
    have ht := ht.1 rfl
    simp (dsimp := false) only [go_sem, Nat.reduceAdd, Nat.reduceEqDiff, Nat.reduceMul, Nat.reduceLeDiff, Nat.reduceSub, Nat.reduceLT, ↓reduceIte, reduceCtorEq, List.reduceReplicate, List.flatten_cons, List.flatten_nil, List.append_nil, eq_self, Int.reduceLE, Int.reduceLT, Int.reduceToNat, Nat.min_eq_left, Int.reducePow, Int.reduceNeg, Int.reduceEq, Bool.not_false, Bool.not_true, r37, lsu.lenV]
    refine cVd (fun _ => ?_) (fun hn => ?_)
    · simp (dsimp := false) only [go_sem, Nat.reduceAdd, Nat.reduceEqDiff, Nat.reduceMul, Nat.reduceLeDiff, Nat.reduceSub, Nat.reduceLT, ↓reduceIte, reduceCtorEq, List.reduceReplicate, List.flatten_cons, List.flatten_nil, List.append_nil, eq_self, Int.reduceLE, Int.reduceLT, Int.reduceToNat, Nat.min_eq_left, Int.reducePow, Int.reduceNeg, Int.reduceEq]
      refine callV_of (qawake_spec _) ?_
      simp (dsimp := false) only [go_sem, Nat.reduceAdd, Nat.reduceEqDiff, Nat.reduceMul, Nat.reduceLeDiff, Nat.reduceSub, Nat.reduceLT, ↓reduceIte, reduceCtorEq, List.reduceReplicate, List.flatten_cons, List.flatten_nil, List.append_nil, eq_self, Int.reduceLE, Int.reduceLT, Int.reduceToNat, Nat.min_eq_left, Int.reducePow, Int.reduceNeg, Int.reduceEq]
    · have hn : T.live.length ≤ 30 := by omega
      have hp01 : Pre h h1 := hp0.trans hp1
      have fx1 := fx.pre hp1
      generalize hb : h.length = b at fx1 ⊢
      have rC : ∀ {h2}, Pre h1 h2 → rds h2 b 0 68 = some C := fun p => (fx1.pre p).rd (by rw [List.drop_zero, List.take_of_length_le (by rw [k.len]; omega)]) (by rw [k.len]; omega)
      have rC1 := rC (.refl _)
      obtain ⟨l, e, hA, hR⟩ := both_spec (C := C) ht hn hq
      have agt : aggOf true C = some (.agg ⟨C⟩) := rfl
      simp (dsimp := false) only [go_sem, Nat.reduceAdd, Nat.reduceEqDiff, Nat.reduceMul, Nat.reduceLeDiff, Nat.reduceSub, Nat.reduceLT, ↓reduceIte, reduceCtorEq, List.reduceReplicate, List.flatten_cons, List.flatten_nil, List.append_nil, eq_self, Int.reduceLE, Int.reduceLT, Int.reduceToNat, Nat.min_eq_left, Int.reducePow, Int.reduceNeg, Int.reduceEq, rC1]
      rw [if_pos ⟨k.len, by simp [zrep]⟩, setC_whole (by rw [k.len]; rfl)]
      simp (dsimp := false) only [go_sem, Nat.reduceAdd, Nat.reduceEqDiff, Nat.reduceMul, Nat.reduceLeDiff, Nat.reduceSub, Nat.reduceLT, ↓reduceIte, reduceCtorEq, List.reduceReplicate, List.flatten_cons, List.flatten_nil, List.append_nil, eq_self, Int.reduceLE, Int.reduceLT, Int.reduceToNat, Nat.min_eq_left, Int.reducePow, Int.reduceNeg, Int.reduceEq, wpI_mkiface, ifaceV]
      refine callV_x (hA _ (k.pre hp01) (hg.pre hp01)) ?_
      rintro _ h2 ⟨hp2, a, rfl, la⟩
      have rC2 := rC hp2
      simp (dsimp := false) only [go_sem, Nat.reduceAdd, Nat.reduceEqDiff, Nat.reduceMul, Nat.reduceLeDiff, Nat.reduceSub, Nat.reduceLT, ↓reduceIte, reduceCtorEq, List.reduceReplicate, List.flatten_cons, List.flatten_nil, List.append_nil, eq_self, Int.reduceLE, Int.reduceLT, Int.reduceToNat, Nat.min_eq_left, Int.reducePow, Int.reduceNeg, Int.reduceEq, rC2]
      refine callV_x (hR _ (k.pre (hp01.trans hp2))) ?_
      rintro _ h3 ⟨hp3, a2, rfl, la2⟩
      simp (dsimp := false) only [go_sem, Nat.reduceAdd, Nat.reduceEqDiff, Nat.reduceMul, Nat.reduceLeDiff, Nat.reduceSub, Nat.reduceLT, ↓reduceIte, reduceCtorEq, List.reduceReplicate, List.flatten_cons, List.flatten_nil, List.append_nil, eq_self, Int.reduceLE, Int.reduceLT, Int.reduceToNat, Nat.min_eq_left, Int.reducePow, Int.reduceNeg, Int.reduceEq]
      refine callV_of (qawake_spec _) ?_
      have ee : (e == e) = true := by simp
      simp (dsimp := false) only [go_sem, Nat.reduceAdd, Nat.reduceEqDiff, Nat.reduceMul, Nat.reduceLeDiff, Nat.reduceSub, Nat.reduceLT, ↓reduceIte, reduceCtorEq, List.reduceReplicate, List.flatten_cons, List.flatten_nil, List.append_nil, eq_self, Int.reduceLE, Int.reduceLT, Int.reduceToNat, Nat.min_eq_left, Int.reducePow, Int.reduceNeg, Int.reduceEq, ee]
      refine callV_x (same26_spec (la.pre hp3) la2) ?_
      rintro _ h4 ⟨hp4, rfl⟩
      simp (dsimp := false) only [go_sem, Nat.reduceAdd, Nat.reduceEqDiff, Nat.reduceMul, Nat.reduceLeDiff, Nat.reduceSub, Nat.reduceLT, ↓reduceIte, reduceCtorEq, List.reduceReplicate, List.flatten_cons, List.flatten_nil, List.append_nil, eq_self, Int.reduceLE, Int.reduceLT, Int.reduceToNat, Nat.min_eq_left, Int.reducePow, Int.reduceNeg, Int.reduceEq]
end Go.Proofs.YtoiihalnbdehkaaDoor.B
