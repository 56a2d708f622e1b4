/-
  Layer 34: what turned between two tables, and what happened to one node.
-/
import Derived.Test.YtoiihalnbdehkaaDoorV5
namespace Go.Proofs.YtoiihalnbdehkaaDoor.B
open Go
set_option linter.unusedVariables false
set_option linter.unusedSimpArgs false
def evHop (w id : Int) (x : HopR) : EvR := ⟨w, id, 0, 0, 0, 0, 0, x.d, x.n, x.t⟩
def hopQ (x y : HopR) : Bool := x.d == y.d && (x.n == y.n && (x.t == y.t && true))
def hopE (id : Int) : Option HopR → Option HopR → List EvR
  | none, none => []
  | none, some y => [evHop 6 id y]
  | some x, none => [evHop 8 id x]
  | some x, some y => if hopQ x y then [] else [evHop 7 id y]
def hopsS (id : Int) (a b : List HopR) (n : Nat) : List EvR := (List.range n).flatMap fun (d : Nat) => hopE id (findH a (d : Int)) (findH b (d : Int))
theorem hopsS_succ (id : Int) (a b : List HopR) (n : Nat) : hopsS id a b (n + 1) = hopsS id a b n ++ hopE id (findH a (n : Int)) (findH b (n : Int)) := by
  unfold hopsS; rw [List.range_succ, List.flatMap_append]; simp
theorem hopE_len (id : Int) (x y : Option HopR) : (hopE id x y).length ≤ 1 := by
  cases x <;> cases y <;> simp only [hopE] <;> first | simp | (split <;> simp)
theorem hopsS_len (id : Int) (a b : List HopR) : ∀ n, (hopsS id a b n).length ≤ n
  | 0 => Nat.le_refl _
  | n + 1 => by
    rw [hopsS_succ, List.length_append]
    have := hopsS_len id a b n
    have := hopE_len id (findH a (n : Int)) (findH b (n : Int))
    omega
abbrev Ac (h0 h : AHeap) (u : Value) (l : List EvR) : Prop := Ow h0 h 10 u l.length (l.flatMap EvR.c)
theorem Ac.push {h0 h : AHeap} {u : Value} {l : List EvR} {x : EvR} (k : Ow h0 h 10 u (l.length + 1) (l.flatMap EvR.c ++ x.c)) : Ac h0 h u (l ++ [x]) := by
  unfold Ac
  rw [List.flatMap_append, List.length_append]
  simpa using k
theorem evs_oneA (l : List EvR) : (l.flatMap EvR.c).all oneA = true := by
  induction l with
  | nil => rfl
  | cons x l ih => rw [List.flatMap_cons, List.all_append, ih]; rfl
theorem evs_len (l : List EvR) : (l.flatMap EvR.c).length = l.length * 10 := flatMap_len (enc := EvR.c) (fun _ => rfl) l
theorem Ls.hopAt {h : AHeap} {v : Value} {l : List HopR} (hv : Ls h 3 isHR v l) {h2 : AHeap} (p : Pre h h2) {i : Nat} (hi : i < l.length) : rds h2 (sb v) (so v + i * 3) 3 = some (l[i].c) ∧ ∀ g, rds (h2 ++ g) (sb v) (so v + i * 3) 3 = some (l[i].c) := by
  obtain ⟨c, _, t0, r0, r1⟩ := hv.rd2 p hi
  subst t0
  exact ⟨r0, r1⟩
theorem hops_spec {h : AHeap} {va vb : Value} {a b : List HopR} (ha : Ls h 3 isHR va a) (hb : Ls h 3 isHR vb b) (id : Int) : SpecX Tryd.prog nG fn.watch_hops [.int .i64 id, va, vb] h fun v' h' => Pre h h' ∧ Ac h h' v' (hopsS id a b 8) := by
  refine SpecX.of_body (ir.watch_hops.spec (Nat.le_of_ble_eq_true rfl)) ?_
  simp (dsimp := false) only [↓ir.watch_hops.bw, ir.watch_hops.rs, go_sem, Nat.reduceAdd, Nat.reduceEqDiff, Nat.reduceMul, Nat.reduceLeDiff, Nat.reduceSub, Nat.reduceLT, ↓reduceIte, reduceCtorEq, List.reduceReplicate, List.flatten_cons, List.flatten_nil, List.append_nil, eq_self, Int.reduceLE, Int.reduceLT, Int.reduceToNat, Nat.min_eq_left, Int.reducePow, Int.reduceNeg, Int.reduceEq]
  refine loopV_of (fun m e h2 => ∃ (i : Nat) (u : Value), m = 8 - i ∧ i ≤ 8 ∧ Pre h h2 ∧ Ac h h2 u (hopsS id a b i) ∧ e = [(0, .int .i64 id), (1, va), (2, vb), (7, u), (11, .int .i64 i)]) _
    ⟨0, _, rfl, Nat.zero_le _, .refl _, .nil, rfl⟩ ?_
  rintro m e h2 ⟨i, u, rfl, hi, hp, ho, rfl⟩
  rcases Nat.lt_or_ge i 8 with hlt | hge
  · have e0 : (i : Int) < 8 := by omega
    have e1 : IntKind.i64.wrap ((i : Int) + 1) = ((i + 1 : Nat) : Int) := wrap_succ hlt (by unfold maxI; omega)
    obtain ⟨ia, sa, qa⟩ := find_spec (ha.pre hp) (i : Int)
    obtain ⟨ib, sb_, qb⟩ := find_spec (hb.pre hp) (i : Int)
    have hlen := hopsS_len id a b i
    have same : hopE id (findH a (i : Int)) (findH b (i : Int)) = [] → ∃ m', m' < 8 - i ∧ ∃ (j : Nat) (u' : Value), m' = 8 - j ∧ j ≤ 8 ∧ Pre h h2 ∧ Ac h h2 u' (hopsS id a b j) ∧
        [(0, Value.int .i64 id), (1, va), (2, vb), (7, u), (11, .int .i64 ((i + 1 : Nat) : Int))] = [(0, .int .i64 id), (1, va), (2, vb), (7, u'), (11, .int .i64 (j : Int))] := fun q =>
      ⟨8 - (i + 1), by omega, i + 1, u, rfl, by omega, hp, by rw [hopsS_succ, q, List.append_nil]; exact ho, rfl⟩
    have more : ∀ (x : EvR) (u' : Value) (h' : AHeap), hopE id (findH a (i : Int)) (findH b (i : Int)) = [x] → Ow h h' 10 u' ((hopsS id a b i).length + 1) ((hopsS id a b i).flatMap EvR.c ++ x.c) → Pre h h' → ∃ m', m' < 8 - i ∧ ∃ (j : Nat) (u'' : Value), m' = 8 - j ∧ j ≤ 8 ∧ Pre h h' ∧ Ac h h' u'' (hopsS id a b j) ∧
        [(0, Value.int .i64 id), (1, va), (2, vb), (7, u'), (11, .int .i64 ((i + 1 : Nat) : Int))] = [(0, .int .i64 id), (1, va), (2, vb), (7, u''), (11, .int .i64 (j : Int))] := fun x u' h' q k p =>
      ⟨8 - (i + 1), by omega, i + 1, u', rfl, by omega, p, by rw [hopsS_succ, q]; exact Ac.push k, rfl⟩
    simp (dsimp := false) only [↓ir.watch_hops.l1.bw, go_sem, Nat.reduceAdd, Nat.reduceEqDiff, Nat.reduceMul, Nat.reduceLeDiff, Nat.reduceSub, Nat.reduceLT, ↓reduceIte, reduceCtorEq, List.reduceReplicate, List.flatten_cons, List.flatten_nil, List.append_nil, eq_self, Int.reduceLE, Int.reduceLT, Int.reduceToNat, Nat.min_eq_left, Int.reducePow, Int.reduceNeg, Int.reduceEq, e0, decide_true]
    refine callV_of sa ?_
    simp (dsimp := false) only [go_sem, Nat.reduceAdd, Nat.reduceEqDiff, Nat.reduceMul, Nat.reduceLeDiff, Nat.reduceSub, Nat.reduceLT, ↓reduceIte, reduceCtorEq, List.reduceReplicate, List.flatten_cons, List.flatten_nil, List.append_nil, eq_self, Int.reduceLE, Int.reduceLT, Int.reduceToNat, Nat.min_eq_left, Int.reducePow, Int.reduceNeg, Int.reduceEq]
    refine callV_of sb_ ?_
    rcases qa with ⟨rfl, qa⟩ | ⟨ja, hja, rfl, qa⟩
    · rcases qb with ⟨rfl, qb⟩ | ⟨jb, hjb, rfl, qb⟩
      · simp (dsimp := false) only [go_sem, Nat.reduceAdd, Nat.reduceEqDiff, Nat.reduceMul, Nat.reduceLeDiff, Nat.reduceSub, Nat.reduceLT, ↓reduceIte, reduceCtorEq, List.reduceReplicate, List.flatten_cons, List.flatten_nil, List.append_nil, eq_self, Int.reduceLE, Int.reduceLT, Int.reduceToNat, Nat.min_eq_left, Int.reducePow, Int.reduceNeg, Int.reduceEq, decide_true, e1]
        exact same (by rw [qa, qb]; rfl)
      · have f1 : decide ((jb : Int) < 0) = false := decide_eq_false (by omega)
        obtain ⟨r0, r1⟩ := (hb.pre hp).hopAt (.refl _) hjb
        simp (dsimp := false) only [go_sem, Nat.reduceAdd, Nat.reduceEqDiff, Nat.reduceMul, Nat.reduceLeDiff, Nat.reduceSub, Nat.reduceLT, ↓reduceIte, reduceCtorEq, List.reduceReplicate, List.flatten_cons, List.flatten_nil, List.append_nil, eq_self, Int.reduceLE, Int.reduceLT, Int.reduceToNat, Nat.min_eq_left, Int.reducePow, Int.reduceNeg, Int.reduceEq, decide_true, decide_false, f1, (hb.pre hp).ixsN hjb, r0, e1]
        refine (ho.pre (.app _ _)).app (m := 1) rfl rfl ⟨by omega, by omega⟩ (fun u' h' ho' hc _ _ => ?_) (hp.app' _)
        simp (dsimp := false) only [go_sem, Nat.reduceAdd, Nat.reduceEqDiff, Nat.reduceMul, Nat.reduceLeDiff, Nat.reduceSub, Nat.reduceLT, ↓reduceIte, reduceCtorEq, List.reduceReplicate, List.flatten_cons, List.flatten_nil, List.append_nil, eq_self, Int.reduceLE, Int.reduceLT, Int.reduceToNat, Nat.min_eq_left, Int.reducePow, Int.reduceNeg, Int.reduceEq, e1]
        exact more (evHop 6 id b[jb]) u' h' (by rw [qa, qb]; rfl) ho' (hc.pre (hp.app' _))
    · have f0 : decide ((ja : Int) < 0) = false := decide_eq_false (by omega)
      have f0' : decide (0 ≤ (ja : Int)) = true := decide_eq_true (by omega)
      obtain ⟨s0, s1⟩ := (ha.pre hp).hopAt (.refl _) hja
      rcases qb with ⟨rfl, qb⟩ | ⟨jb, hjb, rfl, qb⟩
      · simp (dsimp := false) only [go_sem, Nat.reduceAdd, Nat.reduceEqDiff, Nat.reduceMul, Nat.reduceLeDiff, Nat.reduceSub, Nat.reduceLT, ↓reduceIte, reduceCtorEq, List.reduceReplicate, List.flatten_cons, List.flatten_nil, List.append_nil, eq_self, Int.reduceLE, Int.reduceLT, Int.reduceToNat, Nat.min_eq_left, Int.reducePow, Int.reduceNeg, Int.reduceEq, decide_true, decide_false, f0, f0', (ha.pre hp).ixsN hja, s0, e1]
        refine (ho.pre (.app _ _)).app (m := 1) rfl rfl ⟨by omega, by omega⟩ (fun u' h' ho' hc _ _ => ?_) (hp.app' _)
        simp (dsimp := false) only [go_sem, Nat.reduceAdd, Nat.reduceEqDiff, Nat.reduceMul, Nat.reduceLeDiff, Nat.reduceSub, Nat.reduceLT, ↓reduceIte, reduceCtorEq, List.reduceReplicate, List.flatten_cons, List.flatten_nil, List.append_nil, eq_self, Int.reduceLE, Int.reduceLT, Int.reduceToNat, Nat.min_eq_left, Int.reducePow, Int.reduceNeg, Int.reduceEq, e1]
        exact more (evHop 8 id a[ja]) u' h' (by rw [qa, qb]; rfl) ho' (hc.pre (hp.app' _))
      · have f1 : decide ((jb : Int) < 0) = false := decide_eq_false (by omega)
        have f1' : decide (0 ≤ (jb : Int)) = true := decide_eq_true (by omega)
        obtain ⟨r0, r1⟩ := (hb.pre hp).hopAt (.refl _) hjb
        simp (dsimp := false) only [go_sem, Nat.reduceAdd, Nat.reduceEqDiff, Nat.reduceMul, Nat.reduceLeDiff, Nat.reduceSub, Nat.reduceLT, ↓reduceIte, reduceCtorEq, List.reduceReplicate, List.flatten_cons, List.flatten_nil, List.append_nil, eq_self, Int.reduceLE, Int.reduceLT, Int.reduceToNat, Nat.min_eq_left, Int.reducePow, Int.reduceNeg, Int.reduceEq, decide_true, decide_false, f0, f0', f1, f1', (ha.pre hp).ixsN hja, (hb.pre hp).ixsN hjb, s0, r0, e1]
        refine cV (fun c => ?_) (fun c => ?_)
        · simp (dsimp := false) only [go_sem, Nat.reduceAdd, Nat.reduceEqDiff, Nat.reduceMul, Nat.reduceLeDiff, Nat.reduceSub, Nat.reduceLT, ↓reduceIte, reduceCtorEq, List.reduceReplicate, List.flatten_cons, List.flatten_nil, List.append_nil, eq_self, Int.reduceLE, Int.reduceLT, Int.reduceToNat, Nat.min_eq_left, Int.reducePow, Int.reduceNeg, Int.reduceEq, e1]
          exact same (by rw [qa, qb]; simp only [hopE]; exact if_pos c)
        · simp (dsimp := false) only [go_sem, Nat.reduceAdd, Nat.reduceEqDiff, Nat.reduceMul, Nat.reduceLeDiff, Nat.reduceSub, Nat.reduceLT, ↓reduceIte, reduceCtorEq, List.reduceReplicate, List.flatten_cons, List.flatten_nil, List.append_nil, eq_self, Int.reduceLE, Int.reduceLT, Int.reduceToNat, Nat.min_eq_left, Int.reducePow, Int.reduceNeg, Int.reduceEq, decide_true, decide_false, f0, f0', f1, f1', (ha.pre hp).ixsN hja, (hb.pre hp).ixsN hjb, s0, r0, e1]
          refine (ho.pre (.app _ _)).app (m := 1) rfl rfl ⟨by omega, by omega⟩ (fun u' h' ho' hc _ _ => ?_) (hp.app' _)
          simp (dsimp := false) only [go_sem, Nat.reduceAdd, Nat.reduceEqDiff, Nat.reduceMul, Nat.reduceLeDiff, Nat.reduceSub, Nat.reduceLT, ↓reduceIte, reduceCtorEq, List.reduceReplicate, List.flatten_cons, List.flatten_nil, List.append_nil, eq_self, Int.reduceLE, Int.reduceLT, Int.reduceToNat, Nat.min_eq_left, Int.reducePow, Int.reduceNeg, Int.reduceEq, e1]
          exact more (evHop 7 id b[jb]) u' h' (by rw [qa, qb]; simp only [hopE]; exact if_neg (by simpa [hopQ] using c)) ho' (hc.pre (hp.app' _))
  · have e0 : ¬ (i : Int) < 8 := by omega
    simp (dsimp := false) only [↓ir.watch_hops.l1.bw, go_sem, Nat.reduceAdd, Nat.reduceEqDiff, Nat.reduceMul, Nat.reduceLeDiff, Nat.reduceSub, Nat.reduceLT, ↓reduceIte, reduceCtorEq, List.reduceReplicate, List.flatten_cons, List.flatten_nil, List.append_nil, eq_self, Int.reduceLE, Int.reduceLT, Int.reduceToNat, Nat.min_eq_left, Int.reducePow, Int.reduceNeg, Int.reduceEq, e0, decide_false]
    obtain rfl : i = 8 := by omega
    exact ⟨hp, ho⟩
end Go.Proofs.YtoiihalnbdehkaaDoor.B
