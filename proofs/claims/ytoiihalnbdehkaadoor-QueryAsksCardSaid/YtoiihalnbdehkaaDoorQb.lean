/-
  Layer 22 for layer 26: hops, tables, the hop to a destination; hops turned. (Lines of F1 and F2, for this seat.)
-/
import Derived.Test.YtoiihalnbdehkaaDoorIr25
import Derived.Test.YtoiihalnbdehkaaDoorIr26
import Derived.Test.YtoiihalnbdehkaaDoorArL
namespace Go.Proofs.YtoiihalnbdehkaaDoor.B
open Go Go.IntWalk
set_option linter.unusedVariables false
set_option linter.unusedSimpArgs false
abbrev isI (c : List Value) (n : Int) : Prop := c = [.int .i64 n]

/-! ### Hops -/
structure Hop where
  d : Int
  n : Int
  m : Int
abbrev Hop.c (k : Hop) : List Value := [.int .i64 k.d, .int .i64 k.n, .int .i64 k.m]
abbrev isH (c : List Value) (k : Hop) : Prop := c = k.c

theorem Ls.hop {h : AHeap} {v : Value} {l : List Hop} (k : Ls h 3 isH v l) {h2 : AHeap} (p : Pre h h2) {i : Nat} (hi : i < l.length) :
    (rds h2 (sb v) (so v + i * 3) 3 = some l[i].c ∧ rds h2 (sb v) (so v + i * 3) 1 = some [.int .i64 l[i].d] ∧ rds h2 (sb v) (so v + i * 3 + 1) 1 = some [.int .i64 l[i].n] ∧ rds h2 (sb v) (so v + i * 3 + 2) 1 = some [.int .i64 l[i].m]) := by
  obtain ⟨c, h1, h2, r0, r1⟩ := k.rd2 p hi
  subst h2
  refine ⟨r0, ?_, ?_, ?_⟩
  · simpa using rds_sub r0 (i := 0) (m := 1) (by omega)
  · simpa using rds_sub r0 (i := 1) (m := 1) (by omega)
  · simpa using rds_sub r0 (i := 2) (m := 1) (by omega)

def lookL : List Hop → Int → Int
  | [], _ => -1
  | a :: l, d => if a.d = d then a.n else lookL l d

theorem lookL_none {d : Int} : ∀ {l : List Hop}, (∀ a ∈ l, a.d ≠ d) → lookL l d = -1
  | [], _ => rfl
  | a :: l, h => by rw [lookL, if_neg (h a (by simp))]; exact lookL_none fun b hb => h b (by simp [hb])
theorem lookL_at {d : Int} : ∀ {l : List Hop} {i : Nat} (hi : i < l.length), l[i].d = d → (∀ j (hj : j < i), (l[j]).d ≠ d) → lookL l d = l[i].n
  | a :: l, 0, hi, hd, hn => by rw [lookL, if_pos (by simpa using hd)]; rfl
  | a :: l, i + 1, hi, hd, hn => by
    rw [lookL, if_neg (by simpa using hn 0 (by omega))]
    simpa using lookL_at (l := l) (i := i) (by simpa using hi) (by simpa using hd) fun j hj => by simpa using hn (j + 1) (by omega)

/-- A table: within its bounds, and rising. -/
def IsTable (l : List Hop) : Prop := (∀ a ∈ l, 0 ≤ a.d ∧ a.d < 8 ∧ 0 ≤ a.n ∧ a.n < 8) ∧ ∀ i (hi : i + 1 < l.length), l[i].d < l[i + 1].d
def Rises (l : List Hop) : Prop := ∀ i j (hi : i < j) (hj : j < l.length), l[i].d < l[j].d
theorem IsTable.rises {l : List Hop} (h : IsTable l) : Rises l := by
  have key : ∀ d i (hj : i + 1 + d < l.length), l[i].d < l[i + 1 + d].d := by
    intro d
    induction d with
    | zero => intro i hj; exact h.2 i hj
    | succ d ih => intro i hj; exact Int.lt_trans (ih i (by omega)) (h.2 (i + 1 + d) (by omega))
  intro i j hi hj
  have := key (j - (i + 1)) i (by omega)
  simpa only [show i + 1 + (j - (i + 1)) = j by omega] using this

theorem table_spec {h : AHeap} {v : Value} {l : List Hop} (hv : Ls h 3 isH v l) : SpecX Tryd.prog nG fn.ref22_Table [v] h fun v' h' => Pre h h' ∧ ∃ b, v' = .bool b ∧ (b = true ↔ IsTable l) := by
  refine SpecX.of_body (ir.ref22_Table.spec (Nat.le_of_ble_eq_true rfl)) ?_
  simp (dsimp := false) only [↓ir.ref22_Table.bw, ir.ref22_Table.rs, go_sem, Nat.reduceAdd, Nat.reduceEqDiff, Nat.reduceMul, Nat.reduceLeDiff, Nat.reduceSub, Nat.reduceLT, ↓reduceIte, reduceCtorEq, List.reduceReplicate, List.flatten_cons, List.flatten_nil, List.append_nil, eq_self, Int.reduceLE, Int.reduceLT, Int.reduceToNat, Nat.min_eq_left, Int.reducePow, Int.reduceNeg, Int.reduceEq, hv.lenV]
  refine loopV_of (fun m e h2 => ∃ (i : Nat), m = l.length - i ∧ i ≤ l.length ∧ h2 = h ∧ IsTable (l.take i) ∧ e = [(0, v), (3, .int .i64 i)]) _ ⟨0, rfl, Nat.zero_le _, rfl, ⟨by simp, fun i hi => by simp at hi⟩, rfl⟩ ?_
  rintro m e h2 ⟨i, rfl, hi, rfl, hn, rfl⟩
  rcases Nat.lt_or_ge i l.length with hlt | hge
  · obtain ⟨r0, r1, r2, r3⟩ := hv.hop (.refl _) hlt
    have bad : ¬ (0 ≤ l[i].d ∧ l[i].d < 8 ∧ 0 ≤ l[i].n ∧ l[i].n < 8) → ¬ IsTable l := fun q k => q (k.1 _ (List.getElem_mem hlt))
    have good : (0 ≤ l[i].d ∧ l[i].d < 8 ∧ 0 ≤ l[i].n ∧ l[i].n < 8) → (∀ j (hj : j + 1 = i), (l[j]'(by omega)).d < l[i].d) → IsTable (l.take (i + 1)) := by
      intro q1 q2
      refine ⟨fun a ha => ?_, fun j hj => ?_⟩
      · rw [List.take_succ_eq_append_getElem hlt, List.mem_append, List.mem_singleton] at ha
        rcases ha with ha | rfl
        · exact hn.1 a ha
        · exact q1
      · simp only [List.length_take] at hj
        simp only [List.getElem_take]
        by_cases e : j + 1 = i
        · subst e; exact q2 j rfl
        · have := hn.2 j (by simp; omega)
          simpa only [List.getElem_take] using this
    have bad' : ¬ IsTable l → ∃ b, Value.bool false = .bool b ∧ (b = true ↔ IsTable l) := fun q => ⟨false, rfl, by simp [q]⟩
    by_cases hi0 : i = 0
    · have e0 : ¬ ((0 : Int) < (i : Int)) := by omega
      simp (dsimp := false) only [↓ir.ref22_Table.l1.bw, go_sem, Nat.reduceAdd, Nat.reduceEqDiff, Nat.reduceMul, Nat.reduceLeDiff, Nat.reduceSub, Nat.reduceLT, ↓reduceIte, reduceCtorEq, List.reduceReplicate, List.flatten_cons, List.flatten_nil, List.append_nil, eq_self, Int.reduceLE, Int.reduceLT, Int.reduceToNat, Nat.min_eq_left, Int.reducePow, Int.reduceNeg, Int.reduceEq, hv.lenV, hv.ixsN hlt, r1, r2, Int.ofNat_lt, hlt, decide_true]
      repeat' (first | ((first | refine cVd (fun hc => ?_) (fun hc => ?_) | refine gTd (fun hc => ?_) (fun hc => ?_) | refine gFd (fun hc => ?_) (fun hc => ?_) | refine cVe (fun hc => ?_) (fun hc => ?_) | refine gTe (fun hc => ?_) (fun hc => ?_) | refine gFe (fun hc => ?_) (fun hc => ?_) | refine cVn (fun hc => ?_) (fun hc => ?_) | refine gTn (fun hc => ?_) (fun hc => ?_) | refine gFn (fun hc => ?_) (fun hc => ?_) | refine cV (fun hc => ?_) (fun hc => ?_) | refine gT (fun hc => ?_) (fun hc => ?_) | refine gF (fun hc => ?_) (fun hc => ?_)) <;> try simp (dsimp := false) only [go_sem, Nat.reduceAdd, Nat.reduceEqDiff, Nat.reduceMul, Nat.reduceLeDiff, Nat.reduceSub, Nat.reduceLT, ↓reduceIte, reduceCtorEq, List.reduceReplicate, List.flatten_cons, List.flatten_nil, List.append_nil, eq_self, Int.reduceLE, Int.reduceLT, Int.reduceToNat, Nat.min_eq_left, Int.reducePow, Int.reduceNeg, Int.reduceEq, hv.lenV, hv.ixsN hlt, r1, r2, e0, decide_false, wrap_succ hlt hv.le]) | (with_reducible refine And.intro (by omega) ?_ <;> try simp (dsimp := false) only [go_sem, Nat.reduceAdd, Nat.reduceEqDiff, Nat.reduceMul, Nat.reduceLeDiff, Nat.reduceSub, Nat.reduceLT, ↓reduceIte, reduceCtorEq, List.reduceReplicate, List.flatten_cons, List.flatten_nil, List.append_nil, eq_self, Int.reduceLE, Int.reduceLT, Int.reduceToNat, Nat.min_eq_left, Int.reducePow, Int.reduceNeg, Int.reduceEq, hv.lenV, hv.ixsN hlt, r1, r2, e0, decide_false, wrap_succ hlt hv.le]))
      all_goals first
        | exact bad' (bad (by omega))
        | exact ⟨l.length - (i + 1), by omega, i + 1, rfl, hlt, good (by omega) (fun j hj => by omega), rfl⟩
    · have hk : i - 1 < l.length := by omega
      obtain ⟨s0, s1, s2, s3⟩ := hv.hop (.refl _) hk
      have e1 : IntKind.i64.wrap ((i : Int) - 1) = ((i - 1 : Nat) : Int) := by rw [wrap_i64 (by have := hv.le; unfold maxI at this; omega)]; omega
      have e2 : (0 : Int) < (i : Int) := by omega
      have up : ¬ l[i - 1].d < l[i].d → ¬ IsTable l := fun q w => q (by have := w.2 (i - 1) (by omega); simpa only [show i - 1 + 1 = i by omega] using this)
      simp (dsimp := false) only [↓ir.ref22_Table.l1.bw, go_sem, Nat.reduceAdd, Nat.reduceEqDiff, Nat.reduceMul, Nat.reduceLeDiff, Nat.reduceSub, Nat.reduceLT, ↓reduceIte, reduceCtorEq, List.reduceReplicate, List.flatten_cons, List.flatten_nil, List.append_nil, eq_self, Int.reduceLE, Int.reduceLT, Int.reduceToNat, Nat.min_eq_left, Int.reducePow, Int.reduceNeg, Int.reduceEq, hv.lenV, hv.ixsN hlt, r1, r2, Int.ofNat_lt, hlt, decide_true]
      repeat' (first | ((first | refine cVd (fun hc => ?_) (fun hc => ?_) | refine gTd (fun hc => ?_) (fun hc => ?_) | refine gFd (fun hc => ?_) (fun hc => ?_) | refine cVe (fun hc => ?_) (fun hc => ?_) | refine gTe (fun hc => ?_) (fun hc => ?_) | refine gFe (fun hc => ?_) (fun hc => ?_) | refine cVn (fun hc => ?_) (fun hc => ?_) | refine gTn (fun hc => ?_) (fun hc => ?_) | refine gFn (fun hc => ?_) (fun hc => ?_) | refine cV (fun hc => ?_) (fun hc => ?_) | refine gT (fun hc => ?_) (fun hc => ?_) | refine gF (fun hc => ?_) (fun hc => ?_)) <;> try simp (dsimp := false) only [go_sem, Nat.reduceAdd, Nat.reduceEqDiff, Nat.reduceMul, Nat.reduceLeDiff, Nat.reduceSub, Nat.reduceLT, ↓reduceIte, reduceCtorEq, List.reduceReplicate, List.flatten_cons, List.flatten_nil, List.append_nil, eq_self, Int.reduceLE, Int.reduceLT, Int.reduceToNat, Nat.min_eq_left, Int.reducePow, Int.reduceNeg, Int.reduceEq, hv.lenV, hv.ixsN hlt, hv.ixsN hk, r1, r2, s1, e1, e2, decide_true, wrap_succ hlt hv.le]) | (with_reducible refine And.intro (by omega) ?_ <;> try simp (dsimp := false) only [go_sem, Nat.reduceAdd, Nat.reduceEqDiff, Nat.reduceMul, Nat.reduceLeDiff, Nat.reduceSub, Nat.reduceLT, ↓reduceIte, reduceCtorEq, List.reduceReplicate, List.flatten_cons, List.flatten_nil, List.append_nil, eq_self, Int.reduceLE, Int.reduceLT, Int.reduceToNat, Nat.min_eq_left, Int.reducePow, Int.reduceNeg, Int.reduceEq, hv.lenV, hv.ixsN hlt, hv.ixsN hk, r1, r2, s1, e1, e2, decide_true, wrap_succ hlt hv.le]))
      all_goals first
        | exact bad' (bad (by omega))
        | exact bad' (up (by omega))
        | exact ⟨l.length - (i + 1), by omega, i + 1, rfl, hlt, good (by omega) (fun j hj => by have q : j = i - 1 := (by omega); subst q; omega), rfl⟩
  · simp (dsimp := false) only [↓ir.ref22_Table.l1.bw, go_sem, Nat.reduceAdd, Nat.reduceEqDiff, Nat.reduceMul, Nat.reduceLeDiff, Nat.reduceSub, Nat.reduceLT, ↓reduceIte, reduceCtorEq, List.reduceReplicate, List.flatten_cons, List.flatten_nil, List.append_nil, eq_self, Int.reduceLE, Int.reduceLT, Int.reduceToNat, Nat.min_eq_left, Int.reducePow, Int.reduceNeg, Int.reduceEq, hv.lenV, Int.ofNat_lt, show ¬ i < l.length by omega, decide_false]
    rw [List.take_of_length_le hge] at hn
    exact ⟨true, rfl, by simp [hn]⟩

/-! ### The search -/
theorem isNaN_spec (h : AHeap) (a : Int) : Spec Tryd.prog nG fn.cmp_isNaN_int [.int .i64 a] h (.bool false) h := by
  apply ir.cmp_isNaN_int.spec (Nat.le_of_ble_eq_true rfl)
  simp (dsimp := false) only [↓ir.cmp_isNaN_int.bw, ir.cmp_isNaN_int.rs, go_sem, Nat.reduceAdd, Nat.reduceEqDiff, Nat.reduceMul, Nat.reduceLeDiff, Nat.reduceSub, Nat.reduceLT, ↓reduceIte, reduceCtorEq, List.reduceReplicate, List.flatten_cons, List.flatten_nil, List.append_nil, eq_self, Int.reduceLE, Int.reduceLT, Int.reduceToNat, Nat.min_eq_left, Int.reducePow, Int.reduceNeg, Int.reduceEq, bne_self_eq_false]
  exact Fin.sc0 rfl
theorem cmpI_spec (h : AHeap) (a b : Int) : Spec Tryd.prog nG fn.cmp_Compare_int [.int .i64 a, .int .i64 b] h (.int .i64 (if a < b then -1 else if b < a then 1 else 0)) h := by
  apply ir.cmp_Compare_int.spec (Nat.le_of_ble_eq_true rfl)
  simp (dsimp := false) only [↓ir.cmp_Compare_int.bw, ir.cmp_Compare_int.rs, go_sem, Nat.reduceAdd, Nat.reduceEqDiff, Nat.reduceMul, Nat.reduceLeDiff, Nat.reduceSub, Nat.reduceLT, ↓reduceIte, reduceCtorEq, List.reduceReplicate, List.flatten_cons, List.flatten_nil, List.append_nil, eq_self, Int.reduceLE, Int.reduceLT, Int.reduceToNat, Nat.min_eq_left, Int.reducePow, Int.reduceNeg, Int.reduceEq]
  repeat (refine callV_of (isNaN_spec _ _) ?_; simp (dsimp := false) only [go_sem, Nat.reduceAdd, Nat.reduceEqDiff, Nat.reduceMul, Nat.reduceLeDiff, Nat.reduceSub, Nat.reduceLT, ↓reduceIte, reduceCtorEq, List.reduceReplicate, List.flatten_cons, List.flatten_nil, List.append_nil, eq_self, Int.reduceLE, Int.reduceLT, Int.reduceToNat, Nat.min_eq_left, Int.reducePow, Int.reduceNeg, Int.reduceEq])
  repeat' (first | ((first | refine cVd (fun hc => ?_) (fun hc => ?_) | refine gTd (fun hc => ?_) (fun hc => ?_) | refine gFd (fun hc => ?_) (fun hc => ?_) | refine cVe (fun hc => ?_) (fun hc => ?_) | refine gTe (fun hc => ?_) (fun hc => ?_) | refine gFe (fun hc => ?_) (fun hc => ?_) | refine cVn (fun hc => ?_) (fun hc => ?_) | refine gTn (fun hc => ?_) (fun hc => ?_) | refine gFn (fun hc => ?_) (fun hc => ?_) | refine cV (fun hc => ?_) (fun hc => ?_) | refine gT (fun hc => ?_) (fun hc => ?_) | refine gF (fun hc => ?_) (fun hc => ?_)) <;> try simp (dsimp := false) only [go_sem, Nat.reduceAdd, Nat.reduceEqDiff, Nat.reduceMul, Nat.reduceLeDiff, Nat.reduceSub, Nat.reduceLT, ↓reduceIte, reduceCtorEq, List.reduceReplicate, List.flatten_cons, List.flatten_nil, List.append_nil, eq_self, Int.reduceLE, Int.reduceLT, Int.reduceToNat, Nat.min_eq_left, Int.reducePow, Int.reduceNeg, Int.reduceEq]) | (with_reducible refine And.intro (by omega) ?_ <;> try simp (dsimp := false) only [go_sem, Nat.reduceAdd, Nat.reduceEqDiff, Nat.reduceMul, Nat.reduceLeDiff, Nat.reduceSub, Nat.reduceLT, ↓reduceIte, reduceCtorEq, List.reduceReplicate, List.flatten_cons, List.flatten_nil, List.append_nil, eq_self, Int.reduceLE, Int.reduceLT, Int.reduceToNat, Nat.min_eq_left, Int.reducePow, Int.reduceNeg, Int.reduceEq]))
  all_goals (refine Fin.sc0 ?_; congr 1; repeat' split)
  all_goals omega
theorem cmpHop_spec (h : AHeap) (a : Hop) (b : Int) : SpecX Tryd.prog nG fn.fib_Lookup_1 [.agg ⟨a.c⟩, .int .i64 b] h fun v h' => Pre h h' ∧ v = .int .i64 (if a.d < b then -1 else if b < a.d then 1 else 0) := by
  refine SpecX.of_body (ir.fib_Lookup_1.spec (Nat.le_of_ble_eq_true rfl)) ?_
  simp (dsimp := false) only [↓ir.fib_Lookup_1.bw, ir.fib_Lookup_1.rs, go_sem, Nat.reduceAdd, Nat.reduceEqDiff, Nat.reduceMul, Nat.reduceLeDiff, Nat.reduceSub, Nat.reduceLT, ↓reduceIte, reduceCtorEq, List.reduceReplicate, List.flatten_cons, List.flatten_nil, List.append_nil, eq_self, Int.reduceLE, Int.reduceLT, Int.reduceToNat, Nat.min_eq_left, Int.reducePow, Int.reduceNeg, Int.reduceEq]
  refine callV_of (cmpI_spec _ _ _) ?_
  simp (dsimp := false) only [go_sem, Nat.reduceAdd, Nat.reduceEqDiff, Nat.reduceMul, Nat.reduceLeDiff, Nat.reduceSub, Nat.reduceLT, ↓reduceIte, reduceCtorEq, List.reduceReplicate, List.flatten_cons, List.flatten_nil, List.append_nil, eq_self, Int.reduceLE, Int.reduceLT, Int.reduceToNat, Nat.min_eq_left, Int.reducePow, Int.reduceNeg, Int.reduceEq]

theorem half {i j : Nat} (h : i + j ≤ 18446744073709551614) : IntKind.i64.wrap ((IntKind.u64.wrap (IntKind.i64.wrap ((i : Int) + (j : Int)))).fdiv 2) = ((i + j) / 2 : Nat) := by
  rw [Int.fdiv_eq_ediv_of_nonneg _ (by omega), IntKind.wrap_i64, IntKind.wrap_u64, IntKind.wrap_i64]
  omega

theorem good50 : goodFn Tryd.prog fn.fib_Lookup_1 = true := by kernel_rfl

def SearchR (l : List Hop) (x : Int) (i : Nat) (b : Bool) : Prop := i ≤ l.length ∧ (b = true → ∃ hi : i < l.length, l[i].d = x) ∧ (Rises l → b = false → ∀ k (hk : k < l.length), l[k].d ≠ x)
theorem search_spec {h : AHeap} {v : Value} {l : List Hop} (hv : Ls h 3 isH v l) (x : Int) : SpecX Tryd.prog nG fn.slices_BinarySearchFunc_fib_Hop_fib_Hop_int [v, .int .i64 x, .func (.func fn.fib_Lookup_1) #[] #[]] h fun v' h' => Pre h h' ∧ ∃ i b, v' = .tuple #[.int .i64 ((i : Nat) : Int), .bool b] ∧ SearchR l x i b := by
  refine SpecX.of_body (ir.slices_BinarySearchFunc_fib_Hop_fib_Hop_int.spec (Nat.le_of_ble_eq_true rfl)) ?_
  simp (dsimp := false) only [↓ir.slices_BinarySearchFunc_fib_Hop_fib_Hop_int.bw, ir.slices_BinarySearchFunc_fib_Hop_fib_Hop_int.rs, go_sem, Nat.reduceAdd, Nat.reduceEqDiff, Nat.reduceMul, Nat.reduceLeDiff, Nat.reduceSub, Nat.reduceLT, ↓reduceIte, reduceCtorEq, List.reduceReplicate, List.flatten_cons, List.flatten_nil, List.append_nil, eq_self, Int.reduceLE, Int.reduceLT, Int.reduceToNat, Nat.min_eq_left, Int.reducePow, Int.reduceNeg, Int.reduceEq, hv.lenV]
  have hle := hv.le
  refine loopV_of (fun m e h2 => ∃ (i j : Nat), m = j - i ∧ i ≤ j ∧ j ≤ l.length ∧ Pre h h2 ∧ (Rises l → (∀ k (hk : k < l.length), k < i → l[k].d < x) ∧ (∀ k (hk : k < l.length), j ≤ k → x ≤ l[k].d)) ∧
    e = [(0, v), (1, .int .i64 x), (2, .func (.func fn.fib_Lookup_1) #[] #[]), (8, .int .i64 l.length), (9, .int .i64 i), (10, .int .i64 j)]) _ ⟨0, l.length, rfl, by omega, by omega, .refl _, fun _ => ⟨fun k _ hk => by omega, fun k _ hk => by omega⟩, rfl⟩ ?_
  rintro m e h2 ⟨i, j, rfl, hij, hj, hp, hr, rfl⟩
  rcases Nat.lt_or_ge i j with hlt | hge
  · have hm : (i + j) / 2 < l.length := by omega
    obtain ⟨r0, r1, r2, r3⟩ := hv.hop hp hm
    simp (dsimp := false) only [↓ir.slices_BinarySearchFunc_fib_Hop_fib_Hop_int.l1.bw, go_sem, Nat.reduceAdd, Nat.reduceEqDiff, Nat.reduceMul, Nat.reduceLeDiff, Nat.reduceSub, Nat.reduceLT, ↓reduceIte, reduceCtorEq, List.reduceReplicate, List.flatten_cons, List.flatten_nil, List.append_nil, eq_self, Int.reduceLE, Int.reduceLT, Int.reduceToNat, Nat.min_eq_left, Int.reducePow, Int.reduceNeg, Int.reduceEq, hv.lenV, hv.ixsN hm, r0, Int.ofNat_lt, hlt, decide_true, half (show i + j ≤ 18446744073709551614 by unfold maxI at hle; omega), good50]
    refine callV_x (cmpHop_spec _ l[(i + j) / 2] _) ?_
    rintro _ h3 ⟨hp3, rfl⟩
    simp (dsimp := false) only [go_sem, Nat.reduceAdd, Nat.reduceEqDiff, Nat.reduceMul, Nat.reduceLeDiff, Nat.reduceSub, Nat.reduceLT, ↓reduceIte, reduceCtorEq, List.reduceReplicate, List.flatten_cons, List.flatten_nil, List.append_nil, eq_self, Int.reduceLE, Int.reduceLT, Int.reduceToNat, Nat.min_eq_left, Int.reducePow, Int.reduceNeg, Int.reduceEq]
    refine cVd (fun hc => ?_) (fun hc => ?_)
    · simp (dsimp := false) only [go_sem, Nat.reduceAdd, Nat.reduceEqDiff, Nat.reduceMul, Nat.reduceLeDiff, Nat.reduceSub, Nat.reduceLT, ↓reduceIte, reduceCtorEq, List.reduceReplicate, List.flatten_cons, List.flatten_nil, List.append_nil, eq_self, Int.reduceLE, Int.reduceLT, Int.reduceToNat, Nat.min_eq_left, Int.reducePow, Int.reduceNeg, Int.reduceEq, wrap_succ hm hv.le]
      refine ⟨j - ((i + j) / 2 + 1), by omega, (i + j) / 2 + 1, j, rfl, by omega, hj, hp.trans hp3, fun hs => ⟨fun k hk hki => ?_, (hr hs).2⟩, rfl⟩
      have hlt2 : l[(i + j) / 2].d < x := by
        split at hc
        · assumption
        · split at hc <;> omega
      by_cases e : k < (i + j) / 2
      · exact Int.lt_trans (hs k _ e hm) hlt2
      · obtain rfl : k = (i + j) / 2 := by omega
        exact hlt2
    · simp (dsimp := false) only [go_sem, Nat.reduceAdd, Nat.reduceEqDiff, Nat.reduceMul, Nat.reduceLeDiff, Nat.reduceSub, Nat.reduceLT, ↓reduceIte, reduceCtorEq, List.reduceReplicate, List.flatten_cons, List.flatten_nil, List.append_nil, eq_self, Int.reduceLE, Int.reduceLT, Int.reduceToNat, Nat.min_eq_left, Int.reducePow, Int.reduceNeg, Int.reduceEq]
      refine ⟨(i + j) / 2 - i, by omega, i, (i + j) / 2, rfl, by omega, by omega, hp.trans hp3, fun hs => ⟨(hr hs).1, fun k hk hki => ?_⟩, rfl⟩
      have hge2 : x ≤ l[(i + j) / 2].d := by
        split at hc
        · omega
        · omega
      by_cases e : (i + j) / 2 < k
      · have := hs _ k e hk; omega
      · obtain rfl : k = (i + j) / 2 := by omega
        exact hge2
  · obtain rfl : i = j := by omega
    simp (dsimp := false) only [↓ir.slices_BinarySearchFunc_fib_Hop_fib_Hop_int.l1.bw, go_sem, Nat.reduceAdd, Nat.reduceEqDiff, Nat.reduceMul, Nat.reduceLeDiff, Nat.reduceSub, Nat.reduceLT, ↓reduceIte, reduceCtorEq, List.reduceReplicate, List.flatten_cons, List.flatten_nil, List.append_nil, eq_self, Int.reduceLE, Int.reduceLT, Int.reduceToNat, Nat.min_eq_left, Int.reducePow, Int.reduceNeg, Int.reduceEq, hv.lenV, Int.ofNat_lt, Nat.lt_irrefl, decide_false]
    refine gTd (fun hc => ?_) (fun hc => ?_)
    · obtain ⟨r0, r1, r2, r3⟩ := hv.hop hp hc
      simp (dsimp := false) only [go_sem, Nat.reduceAdd, Nat.reduceEqDiff, Nat.reduceMul, Nat.reduceLeDiff, Nat.reduceSub, Nat.reduceLT, ↓reduceIte, reduceCtorEq, List.reduceReplicate, List.flatten_cons, List.flatten_nil, List.append_nil, eq_self, Int.reduceLE, Int.reduceLT, Int.reduceToNat, Nat.min_eq_left, Int.reducePow, Int.reduceNeg, Int.reduceEq, hv.ixsN hc, r0, good50]
      refine callV_x (cmpHop_spec _ l[i] _) ?_
      rintro _ h3 ⟨hp3, rfl⟩
      simp (dsimp := false) only [go_sem, Nat.reduceAdd, Nat.reduceEqDiff, Nat.reduceMul, Nat.reduceLeDiff, Nat.reduceSub, Nat.reduceLT, ↓reduceIte, reduceCtorEq, List.reduceReplicate, List.flatten_cons, List.flatten_nil, List.append_nil, eq_self, Int.reduceLE, Int.reduceLT, Int.reduceToNat, Nat.min_eq_left, Int.reducePow, Int.reduceNeg, Int.reduceEq]
      refine ⟨hp.trans hp3, i, _, rfl, hj, fun hb => ⟨hc, ?_⟩, fun hs hb k hk => ?_⟩
      · simp only [beq_iff_eq] at hb
        split at hb
        · omega
        · split at hb <;> omega
      · have hne : l[i].d ≠ x := by
          intro q
          simp [q] at hb
        have h1 := (hr hs).1 k hk
        have h2 := (hr hs).2 i hc (Nat.le_refl _)
        rcases Nat.lt_trichotomy k i with q | rfl | q
        · have := h1 q; omega
        · exact hne
        · have := hs i k q hk; omega
    · simp (dsimp := false) only [go_sem, Nat.reduceAdd, Nat.reduceEqDiff, Nat.reduceMul, Nat.reduceLeDiff, Nat.reduceSub, Nat.reduceLT, ↓reduceIte, reduceCtorEq, List.reduceReplicate, List.flatten_cons, List.flatten_nil, List.append_nil, eq_self, Int.reduceLE, Int.reduceLT, Int.reduceToNat, Nat.min_eq_left, Int.reducePow, Int.reduceNeg, Int.reduceEq]
      exact ⟨hp, i, false, rfl, hj, fun hb => (by cases hb), fun hs _ k hk => by have := (hr hs).1 k hk (by omega); omega⟩

theorem lookup_spec {h : AHeap} {v : Value} {l : List Hop} (hv : Ls h 3 isH v l) (x : Int) : SpecX Tryd.prog nG fn.fib_Lookup [v, .int .i64 x] h fun v' h' => Pre h h' ∧ ∃ r, v' = .int .i64 r ∧ (Rises l → r = lookL l x) := by
  refine SpecX.of_body (ir.fib_Lookup.spec (Nat.le_of_ble_eq_true rfl)) ?_
  simp (dsimp := false) only [↓ir.fib_Lookup.bw, ir.fib_Lookup.rs, go_sem, Nat.reduceAdd, Nat.reduceEqDiff, Nat.reduceMul, Nat.reduceLeDiff, Nat.reduceSub, Nat.reduceLT, ↓reduceIte, reduceCtorEq, List.reduceReplicate, List.flatten_cons, List.flatten_nil, List.append_nil, eq_self, Int.reduceLE, Int.reduceLT, Int.reduceToNat, Nat.min_eq_left, Int.reducePow, Int.reduceNeg, Int.reduceEq]
  refine callV_x (search_spec hv x) ?_
  rintro _ h1 ⟨hp, i, b, rfl, h2, h3, h4⟩
  cases b with
  | false =>
    simp (dsimp := false) only [go_sem, Nat.reduceAdd, Nat.reduceEqDiff, Nat.reduceMul, Nat.reduceLeDiff, Nat.reduceSub, Nat.reduceLT, ↓reduceIte, reduceCtorEq, List.reduceReplicate, List.flatten_cons, List.flatten_nil, List.append_nil, eq_self, Int.reduceLE, Int.reduceLT, Int.reduceToNat, Nat.min_eq_left, Int.reducePow, Int.reduceNeg, Int.reduceEq, Bool.not_false]
    refine ⟨hp, -1, rfl, fun hs => (lookL_none fun a ha => ?_).symm⟩
    obtain ⟨j, hj, rfl⟩ := List.getElem_of_mem ha
    exact h4 hs rfl j hj
  | true =>
    obtain ⟨hi, hd⟩ := h3 rfl
    obtain ⟨r0, r1, r2, r3⟩ := hv.hop hp hi
    simp (dsimp := false) only [go_sem, Nat.reduceAdd, Nat.reduceEqDiff, Nat.reduceMul, Nat.reduceLeDiff, Nat.reduceSub, Nat.reduceLT, ↓reduceIte, reduceCtorEq, List.reduceReplicate, List.flatten_cons, List.flatten_nil, List.append_nil, eq_self, Int.reduceLE, Int.reduceLT, Int.reduceToNat, Nat.min_eq_left, Int.reducePow, Int.reduceNeg, Int.reduceEq, Bool.not_true, hv.ixsN hi, r2]
    refine ⟨hp, l[i].n, rfl, fun hs => (lookL_at hi hd fun j hj => ?_).symm⟩
    have := hs j i hj hi
    omega
/-- A table may be built anew. -/
abbrev Fits (l : List Hop) : Prop := l.length * 24 ≤ 140737488351232
theorem Fits.room {l : List Hop} (h : Fits l) {i : Nat} (hi : i < l.length) : room (i + 1) 24 := by unfold Fits at h; exact ⟨by omega, by omega⟩

theorem tohops_spec {h : AHeap} {v : Value} {l : List Hop} (hv : Ls h 3 isH v l) (hf : Fits l) : SpecX Tryd.prog nG fn.law22_To [v] h fun v' h' => Pre h h' ∧ Ow h h' 3 v' l.length (l.flatMap Hop.c) := by
  refine SpecX.of_body (ir.law22_To.spec (Nat.le_of_ble_eq_true rfl)) ?_
  simp (dsimp := false) only [↓ir.law22_To.bw, ir.law22_To.rs, go_sem, Nat.reduceAdd, Nat.reduceEqDiff, Nat.reduceMul, Nat.reduceLeDiff, Nat.reduceSub, Nat.reduceLT, ↓reduceIte, reduceCtorEq, List.reduceReplicate, List.flatten_cons, List.flatten_nil, List.append_nil, eq_self, Int.reduceLE, Int.reduceLT, Int.reduceToNat, Nat.min_eq_left, Int.reducePow, Int.reduceNeg, Int.reduceEq, hv.lenV]
  refine loopV_of (fun m e h2 => ∃ (i : Nat) (a : Value), m = l.length - i ∧ i ≤ l.length ∧ Pre h h2 ∧ Ow h h2 3 a i ((l.take i).flatMap Hop.c) ∧ e = [(3, a), (6, v), (7, .int .i64 l.length), (8, .int .i64 i)]) _
    ⟨0, _, rfl, Nat.zero_le _, .refl _, .nil, rfl⟩ ?_
  rintro m e h2 ⟨i, a, rfl, hi, hp, ho, rfl⟩
  rcases Nat.lt_or_ge i l.length with hlt | hge
  · obtain ⟨c, hc, hc2, r0, r1⟩ := hv.rd2 hp hlt
    subst hc2
    simp (dsimp := false) only [↓ir.law22_To.l1.bw, go_sem, Nat.reduceAdd, Nat.reduceEqDiff, Nat.reduceMul, Nat.reduceLeDiff, Nat.reduceSub, Nat.reduceLT, ↓reduceIte, reduceCtorEq, List.reduceReplicate, List.flatten_cons, List.flatten_nil, List.append_nil, eq_self, Int.reduceLE, Int.reduceLT, Int.reduceToNat, Nat.min_eq_left, Int.reducePow, Int.reduceNeg, Int.reduceEq, hv.lenV, hv.ixsN hlt, r0, r1, Int.ofNat_lt, hlt, decide_true, wrap_succ hlt hv.le]
    refine (ho.pre (.app _ _)).app rfl rfl (hf.room hlt) (fun a' h' ho' hb _ _ => ?_) (hp.app' _)
    simp (dsimp := false) only [go_sem, Nat.reduceAdd, Nat.reduceEqDiff, Nat.reduceMul, Nat.reduceLeDiff, Nat.reduceSub, Nat.reduceLT, ↓reduceIte, reduceCtorEq, List.reduceReplicate, List.flatten_cons, List.flatten_nil, List.append_nil, eq_self, Int.reduceLE, Int.reduceLT, Int.reduceToNat, Nat.min_eq_left, Int.reducePow, Int.reduceNeg, Int.reduceEq, wrap_succ hlt hv.le]
    refine ⟨l.length - (i + 1), by omega, i + 1, a', rfl, hlt, hb.pre (hp.app' _), ?_, rfl⟩
    rw [List.take_succ_eq_append_getElem hlt, List.flatMap_append]
    simpa using ho'
  · simp (dsimp := false) only [↓ir.law22_To.l1.bw, go_sem, Nat.reduceAdd, Nat.reduceEqDiff, Nat.reduceMul, Nat.reduceLeDiff, Nat.reduceSub, Nat.reduceLT, ↓reduceIte, reduceCtorEq, List.reduceReplicate, List.flatten_cons, List.flatten_nil, List.append_nil, eq_self, Int.reduceLE, Int.reduceLT, Int.reduceToNat, Nat.min_eq_left, Int.reducePow, Int.reduceNeg, Int.reduceEq, hv.lenV, Int.ofNat_lt, show ¬ i < l.length by omega, decide_false]
    obtain rfl : i = l.length := by omega
    rw [List.take_of_length_le (Nat.le_refl _)] at ho
    exact ⟨hp, ho⟩

theorem Ow.hops {h0 h : AHeap} {v : Value} {l : List Hop} (k : Ow h0 h 3 v l.length (l.flatMap Hop.c)) : Ls h 3 isH v l := k.sl.ls (fun _ => rfl) rfl

end Go.Proofs.YtoiihalnbdehkaaDoor.B
