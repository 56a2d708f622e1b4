/-
  Layer 34: events applied to nodes, as plain functions; what happened between two nodes, applied to the first one, makes the second one.
-/
import Derived.Test.YtoiihalnbdehkaaDoorV9
namespace Go.Proofs.YtoiihalnbdehkaaDoor.B
open Go
set_option linter.unusedVariables false
set_option linter.unusedSimpArgs false
/-- A table: the destinations rise, and are nodes. -/
structure Tab (l : List HopR) : Prop where
  up : l.Pairwise fun a b => a.d < b.d
  lo : ∀ x ∈ l, 0 ≤ x.d
  hi : ∀ x ∈ l, x.d < 8
def tabOf (f : Nat → Option HopR) (n : Nat) : List HopR := (List.range n).filterMap f
theorem tabOf_succ (f : Nat → Option HopR) (n : Nat) : tabOf f (n + 1) = tabOf f n ++ (f n).toList := by
  unfold tabOf
  rw [List.range_succ, List.filterMap_append]
  congr 1
theorem findH_mem {l : List HopR} {d : Int} {x : HopR} (h : findH l d = some x) : x ∈ l ∧ x.d = d := by
  unfold findH at h
  exact ⟨List.mem_of_find?_eq_some h, by simpa using List.find?_some h⟩
theorem findH_nil_of {l : List HopR} {d : Int} (h : ∀ x ∈ l, x.d ≠ d) : findH l d = none := by
  unfold findH
  rw [List.find?_eq_none]
  intro x hx
  simpa using h x hx
theorem findH_of {l : List HopR} (hu : l.Pairwise fun a b => a.d ≠ b.d) {x : HopR} (hx : x ∈ l) : findH l x.d = some x := by
  induction l with
  | nil => cases hx
  | cons y l ih =>
    rw [List.pairwise_cons] at hu
    unfold findH
    rw [List.find?_cons]
    rcases List.mem_cons.1 hx with rfl | h
    · simp
    · have := hu.1 x h
      rw [show (y.d == x.d) = false by simpa using this]
      exact ih hu.2 h
theorem Tab.ne {l : List HopR} (k : Tab l) : l.Pairwise fun a b => a.d ≠ b.d := k.up.imp fun h => by omega
/-- A table is known by what is found in it. -/
theorem Tab.eq {l : List HopR} (k : Tab l) : l = tabOf (fun d => findH l (d : Int)) 8 := by
  have main : ∀ n : Nat, n ≤ 8 → l.filter (fun x => x.d < (n : Int)) = tabOf (fun d => findH l (d : Int)) n := by
    intro n
    induction n with
    | zero =>
      intro _
      rw [List.filter_eq_nil_iff.2 fun x hx => by have := k.lo x hx; simp; omega]
      rfl
    | succ n ih =>
      intro hn
      rw [tabOf_succ, ← ih (by omega)]
      clear ih
      obtain ⟨hu, hlo, hhi⟩ := k
      clear hhi
      induction l with
      | nil => rfl
      | cons y l ih =>
        rw [List.pairwise_cons] at hu
        have ih := ih hu.2 fun x hx => hlo x (List.mem_cons_of_mem _ hx)
        unfold findH at *
        rw [List.find?_cons, List.filter_cons, List.filter_cons]
        rcases Int.lt_trichotomy y.d n with q | q | q
        · rw [if_pos (by simpa using by omega), if_pos (by simpa using q), show (y.d == (n : Int)) = false by simpa using by omega]
          rw [ih]; rfl
        · rw [if_pos (by simpa using by omega), if_neg (by simpa using by omega), show (y.d == (n : Int)) = true by simpa using q]
          rw [List.filter_eq_nil_iff.2 fun x hx => by have := hu.1 x hx; simp; omega, List.filter_eq_nil_iff.2 fun x hx => by have := hu.1 x hx; simp; omega]
          rfl
        · rw [if_neg (by simpa using by omega), if_neg (by simpa using by omega), show (y.d == (n : Int)) = false by simpa using by omega]
          rw [ih]
  rw [← main 8 (Nat.le_refl _)]
  exact (List.filter_eq_self.2 fun x hx => by have := k.hi x hx; simpa using this).symm
theorem Tab.ext {l m : List HopR} (k : Tab l) (j : Tab m) (h : ∀ d : Nat, d < 8 → findH l (d : Int) = findH m (d : Int)) : l = m := by
  rw [k.eq, j.eq]
  unfold tabOf
  have : ∀ n : Nat, n ≤ 8 → (List.range n).filterMap (fun (d : Nat) => findH l (d : Int)) = (List.range n).filterMap fun (d : Nat) => findH m (d : Int) := by
    intro n
    induction n with
    | zero => intro _; rfl
    | succ n ih =>
      intro hn
      have := ih (by omega)
      rw [List.range_succ, List.filterMap_append, List.filterMap_append, this]
      congr 1
      simp only [List.filterMap_cons, List.filterMap_nil, h n (by omega)]
  exact this 8 (Nat.le_refl _)
theorem Tab.nil : Tab [] := ⟨.nil, fun x hx => (by cases hx), fun x hx => (by cases hx)⟩
theorem Tab.len {l : List HopR} (k : Tab l) : l.length ≤ 8 := by
  have h1 : ∀ (f : Nat → Option HopR) n, (tabOf f n).length ≤ n := fun f n => Nat.le_trans (List.length_filterMap_le ..) (by simp)
  rw [k.eq]
  exact h1 _ 8
/-- Without a destination; with a hop put in. -/
def delH (l : List HopR) (d : Int) : List HopR := l.filter fun x => !(x.d == d)
def putH (l : List HopR) (y : HopR) : List HopR := l.filter (fun x => x.d < y.d) ++ y :: l.filter fun x => y.d < x.d
theorem Tab.del {l : List HopR} (k : Tab l) (d : Int) : Tab (delH l d) := ⟨k.up.filter _, fun x hx => k.lo x (List.mem_filter.1 hx).1, fun x hx => k.hi x (List.mem_filter.1 hx).1⟩
theorem Tab.put {l : List HopR} (k : Tab l) {y : HopR} (h0 : 0 ≤ y.d) (h1 : y.d < 8) : Tab (putH l y) := by
  refine ⟨?_, ?_, ?_⟩
  · unfold putH
    rw [List.pairwise_append, List.pairwise_cons]
    refine ⟨k.up.filter _, ⟨fun x hx => by simpa using (List.mem_filter.1 hx).2, k.up.filter _⟩, ?_⟩
    intro a ha b hb
    have q : a.d < y.d := by simpa using (List.mem_filter.1 ha).2
    rcases List.mem_cons.1 hb with rfl | hb
    · exact q
    · have q2 : y.d < b.d := by simpa using (List.mem_filter.1 hb).2
      omega
  all_goals
    intro x hx
    unfold putH at hx
    rcases List.mem_append.1 hx with hx | hx
    · first | exact k.lo x (List.mem_filter.1 hx).1 | exact k.hi x (List.mem_filter.1 hx).1
    · rcases List.mem_cons.1 hx with rfl | hx
      · assumption
      · first | exact k.lo x (List.mem_filter.1 hx).1 | exact k.hi x (List.mem_filter.1 hx).1
theorem findH_del {l : List HopR} (k : Tab l) (d e : Int) : findH (delH l d) e = if e = d then none else findH l e := by
  split
  · rename_i h
    subst h
    refine findH_nil_of fun x hx => ?_
    simpa using (List.mem_filter.1 hx).2
  · rename_i h
    cases q : findH l e with
    | none =>
      refine findH_nil_of fun x hx => ?_
      unfold findH at q
      rw [List.find?_eq_none] at q
      simpa using q x (List.mem_filter.1 hx).1
    | some x =>
      obtain ⟨h1, rfl⟩ := findH_mem q
      refine findH_of (k.del d).ne ?_
      exact List.mem_filter.2 ⟨h1, by simpa using h⟩
theorem mem_putH {l : List HopR} (k : Tab l) {y x : HopR} : x ∈ putH l y ↔ x = y ∨ (x ∈ l ∧ x.d ≠ y.d) := by
  unfold putH
  simp only [List.mem_append, List.mem_cons, List.mem_filter, decide_eq_true_eq]
  constructor
  · rintro (⟨h1, h2⟩ | h | ⟨h1, h2⟩)
    · exact .inr ⟨h1, by omega⟩
    · exact .inl h
    · exact .inr ⟨h1, by omega⟩
  · rintro (h | ⟨h1, h2⟩)
    · exact .inr (.inl h)
    · rcases Int.lt_or_lt_of_ne h2 with q | q
      · exact .inl ⟨h1, q⟩
      · exact .inr (.inr ⟨h1, q⟩)
theorem findH_put {l : List HopR} (k : Tab l) {y : HopR} (h0 : 0 ≤ y.d) (h1 : y.d < 8) (e : Int) : findH (putH l y) e = if e = y.d then some y else findH l e := by
  have kp := k.put h0 h1
  split
  · rename_i h
    subst h
    exact findH_of kp.ne ((mem_putH k).2 (.inl rfl))
  · rename_i h
    cases q : findH l e with
    | none =>
      refine findH_nil_of fun x hx => ?_
      rcases (mem_putH k).1 hx with rfl | ⟨h2, _⟩
      · exact fun c => h c.symm
      · unfold findH at q
        rw [List.find?_eq_none] at q
        simpa using q x h2
    | some x =>
      obtain ⟨h2, rfl⟩ := findH_mem q
      exact findH_of kp.ne ((mem_putH k).2 (.inr ⟨h2, h⟩))
/-- What is sorted, and has the same hops as a table with one put in, is that. -/
theorem sorted_put {l m : List HopR} (k : Tab l) {y : HopR} (h0 : 0 ≤ y.d) (h1 : y.d < 8) (hp : m.Perm (delH l y.d ++ [y])) (hs : m.Pairwise fun a b => a.d ≤ b.d) : m = putH l y := by
  have hne : (delH l y.d ++ [y]).Pairwise fun a b => a.d ≠ b.d := by
    rw [List.pairwise_append]
    refine ⟨(k.del _).ne, by simp, fun a ha b hb => ?_⟩
    obtain rfl : b = y := by simpa using hb
    simpa using (List.mem_filter.1 ha).2
  have hne2 : m.Pairwise fun a b => a.d ≠ b.d := (hp.pairwise_iff fun h => fun e => h e.symm).2 hne
  have hm : ∀ x, x ∈ m ↔ x = y ∨ (x ∈ l ∧ x.d ≠ y.d) := fun x => by
    rw [hp.mem_iff, List.mem_append]
    unfold delH
    rw [List.mem_filter]
    simp only [List.mem_singleton, Bool.not_eq_true', beq_eq_false_iff_ne, ne_eq]
    exact Or.comm
  have tm : Tab m := by
    refine ⟨(hs.and hne2).imp fun h => by omega, fun x hx => ?_, fun x hx => ?_⟩
    · rcases (hm x).1 hx with rfl | h
      · exact h0
      · exact k.lo x h.1
    · rcases (hm x).1 hx with rfl | h
      · exact h1
      · exact k.hi x h.1
  have kp := k.put h0 h1
  refine tm.ext kp fun d _ => ?_
  cases q : findH (putH l y) (d : Int) with
  | none =>
    refine findH_nil_of fun x hx => ?_
    unfold findH at q
    rw [List.find?_eq_none] at q
    simpa using q x ((mem_putH k).2 ((hm x).1 hx))
  | some x =>
    obtain ⟨h2, h3⟩ := findH_mem q
    rw [← h3]
    exact findH_of tm.ne ((hm x).2 ((mem_putH k).1 h2))
/-- A bit taken out; a bit put in. -/
def clrB (x p : Nat) : Nat := x - x / 2 ^ p % 2 * 2 ^ p
def setB (x p : Nat) : Nat := clrB x p + 2 ^ p
def hopOf (e : EvR) : HopR := ⟨e.d, e.n, e.t⟩
/-- A node behind an event. -/
def applyN (n : NodeR) (e : EvR) : NodeR :=
  if e.w = 1 then ⟨true, e.boot, 0, 0, 0, 0, []⟩
  else if e.w = 2 then zeroN
  else if e.w = 3 then ⟨n.up, n.boot, e.e, e.s, e.m, n.live, n.hops⟩
  else if e.w = 4 then ⟨n.up, n.boot, n.e, n.s, n.m, setB n.live e.peer.toNat, n.hops⟩
  else if e.w = 5 then ⟨n.up, n.boot, n.e, n.s, n.m, clrB n.live e.peer.toNat, n.hops⟩
  else if e.w = 8 then ⟨n.up, n.boot, n.e, n.s, n.m, n.live, delH n.hops e.d⟩
  else ⟨n.up, n.boot, n.e, n.s, n.m, n.live, putH n.hops (hopOf e)⟩
def applyT (T : List NodeR) (e : EvR) : List NodeR := T.set e.node.toNat (applyN (nthN T e.node.toNat) e)
/-- A node that may be: a table; nothing, if it does not run. -/
structure NodeR.may (x : NodeR) : Prop where
  tab : Tab x.hops
  off : x.up = false → x = zeroN
theorem bits_step (p : Nat) (hp : p < 8) (x y z : Nat) (hx : x < 256) (hy : y < 256) (hz : z = y % 2 ^ p + x / 2 ^ p * 2 ^ p) :
    (x / 2 ^ p % 2 < y / 2 ^ p % 2 → setB z p = y % 2 ^ (p + 1) + x / 2 ^ (p + 1) * 2 ^ (p + 1)) ∧
    (y / 2 ^ p % 2 < x / 2 ^ p % 2 → clrB z p = y % 2 ^ (p + 1) + x / 2 ^ (p + 1) * 2 ^ (p + 1)) ∧
    (x / 2 ^ p % 2 = y / 2 ^ p % 2 → z = y % 2 ^ (p + 1) + x / 2 ^ (p + 1) * 2 ^ (p + 1)) := by
  unfold setB clrB
  match p, hp with
  | 0, _ => simp only [Nat.pow_zero, Nat.zero_add, Nat.reducePow] at *; omega
  | 1, _ => simp only [Nat.reduceAdd, Nat.reducePow] at *; omega
  | 2, _ => simp only [Nat.reduceAdd, Nat.reducePow] at *; omega
  | 3, _ => simp only [Nat.reduceAdd, Nat.reducePow] at *; omega
  | 4, _ => simp only [Nat.reduceAdd, Nat.reducePow] at *; omega
  | 5, _ => simp only [Nat.reduceAdd, Nat.reducePow] at *; omega
  | 6, _ => simp only [Nat.reduceAdd, Nat.reducePow] at *; omega
  | 7, _ => simp only [Nat.reduceAdd, Nat.reducePow] at *; omega
theorem fold_bits (id : Int) (n : NodeR) (y : Nat) (hx : n.live < 256) (hy : y < 256) : ∀ p, p ≤ 8 →
    (bitsS id n.live y p).foldl applyN n = ⟨n.up, n.boot, n.e, n.s, n.m, y % 2 ^ p + n.live / 2 ^ p * 2 ^ p, n.hops⟩
  | 0, _ => by simp [bitsS, Nat.mod_one]
  | p + 1, hp => by
    rw [bitsS_succ, List.foldl_append, fold_bits id n y hx hy p (by omega)]
    obtain ⟨h1, h2, h3⟩ := bits_step p (by omega) n.live y _ hx hy rfl
    unfold bitE
    split
    · rename_i q
      simp [applyN, h1 q]
    · split
      · rename_i q
        simp [applyN, h2 q]
      · simp only [List.foldl_nil]
        rw [h3 (by omega)]
theorem hopQ_eq {x y : HopR} (h : hopQ x y = true) : x = y := by
  obtain ⟨a, b, c⟩ := x
  obtain ⟨a', b', c'⟩ := y
  simp [hopQ] at h
  obtain ⟨rfl, rfl, rfl⟩ := h
  rfl
theorem fold_hops (id : Int) (n : NodeR) (b : List HopR) (ka : Tab n.hops) (kb : Tab b) : ∀ p, p ≤ 8 → ∃ l, Tab l ∧
    (hopsS id n.hops b p).foldl applyN n = ⟨n.up, n.boot, n.e, n.s, n.m, n.live, l⟩ ∧ ∀ d : Nat, findH l (d : Int) = if d < p then findH b (d : Int) else findH n.hops (d : Int)
  | 0, _ => ⟨n.hops, ka, by simp [hopsS], fun d => by simp⟩
  | p + 1, hp => by
    obtain ⟨l, kl, hl, hf⟩ := fold_hops id n b ka kb p (by omega)
    rw [hopsS_succ, List.foldl_append, hl]
    have hfp := hf p
    rw [if_neg (by omega)] at hfp
    have same : findH b (p : Int) = findH n.hops (p : Int) → ∀ d : Nat, findH l (d : Int) = if d < p + 1 then findH b (d : Int) else findH n.hops (d : Int) := fun e d => by
      rw [hf d]
      rcases Nat.lt_trichotomy d p with q | q | q
      · rw [if_pos q, if_pos (by omega)]
      · subst q; rw [if_neg (by omega), if_pos (by omega), e]
      · rw [if_neg (by omega), if_neg (by omega)]
    have put : ∀ y, findH b (p : Int) = some y → Tab (putH l y) ∧ ∀ d : Nat, findH (putH l y) (d : Int) = if d < p + 1 then findH b (d : Int) else findH n.hops (d : Int) := fun y e => by
      obtain ⟨hm, hd⟩ := findH_mem e
      refine ⟨kl.put (kb.lo y hm) (kb.hi y hm), fun d => ?_⟩
      rw [findH_put kl (kb.lo y hm) (kb.hi y hm), hd, hf d]
      rcases Nat.lt_trichotomy d p with q | q | q
      · rw [if_neg (by omega), if_pos q, if_pos (by omega)]
      · subst q; rw [if_pos rfl, if_pos (by omega), e]
      · rw [if_neg (by omega), if_neg (by omega), if_neg (by omega)]
    cases qa : findH n.hops (p : Int) with
    | none =>
      cases qb : findH b (p : Int) with
      | none => exact ⟨l, kl, by simp [hopE], same (by rw [qa, qb])⟩
      | some y =>
        obtain ⟨k1, k2⟩ := put y qb
        exact ⟨_, k1, by simp [hopE, evHop, applyN, hopOf], k2⟩
    | some x =>
      cases qb : findH b (p : Int) with
      | none =>
        obtain ⟨hm, hd⟩ := findH_mem qa
        refine ⟨delH l x.d, kl.del _, by simp [hopE, evHop, applyN], fun d => ?_⟩
        rw [findH_del kl, hd, hf d]
        rcases Nat.lt_trichotomy d p with q | q | q
        · rw [if_neg (by omega), if_pos q, if_pos (by omega)]
        · subst q; rw [if_pos rfl, if_pos (by omega), qb]
        · rw [if_neg (by omega), if_neg (by omega), if_neg (by omega)]
      | some y =>
        obtain ⟨k1, k2⟩ := put y qb
        by_cases hq : hopQ x y = true
        · exact ⟨l, kl, by simp [hopE, hq], same (by rw [qa, qb, hopQ_eq hq])⟩
        · exact ⟨_, k1, by simp [hopE, hq, evHop, applyN, hopOf], k2⟩
theorem ownQ_eq {a b : NodeR} (h : ownQ a b = true) : b.e = a.e ∧ b.s = a.s ∧ b.m = a.m := by
  simp [ownQ] at h
  omega
/-- What happened to a node makes it what it is. -/
theorem fold_turn (id : Int) {a b : NodeR} (oa : a.ok) (ob : b.ok) (ma : a.may) (mb : b.may) : (turnS id a b).foldl applyN a = b := by
  unfold turnS
  rw [List.foldl_append]
  have h1 : (l1S id a b).foldl applyN a = nowN a b := by
    unfold l1S nowN
    split
    · simp [applyN]
    · rfl
  rw [h1]
  have on := nowN_ok oa (b := b)
  have mn : (nowN a b).may := by
    unfold nowN
    split
    · exact ⟨.nil, fun _ => rfl⟩
    · exact ma
  have hbt : (nowN a b).up = true → b.up = true → (nowN a b).boot = b.boot := by
    unfold nowN endB
    split
    · intro h; exact absurd h (by decide)
    · rename_i q
      intro h1 h2
      rw [h1, h2] at q
      simpa using q
  have hoff : b.up = false → nowN a b = zeroN := by
    intro h
    unfold nowN
    cases q : endB a b with
    | true => rfl
    | false =>
      simp [endB, h] at q
      exact ma.off q
  obtain ⟨c, hc⟩ : ∃ c, nowN a b = c := ⟨_, rfl⟩
  rw [hc] at on mn hbt hoff ⊢
  clear h1 hc
  cases ub : b.up with
  | false =>
    rw [hoff ub, mb.off ub]
    rfl
  | true =>
    simp only [if_true]
    rw [List.foldl_append, List.foldl_append, List.foldl_append]
    have h2 : (l2S id c b).foldl applyN c = ⟨true, b.boot, c.e, c.s, c.m, c.live, c.hops⟩ := by
      unfold l2S
      cases uc : c.up with
      | true =>
        have := hbt uc ub
        obtain ⟨u, bt, e, s, m, lv, hp⟩ := c
        simp only at uc this ⊢
        subst uc this
        rfl
      | false =>
        rw [mn.off uc]
        simp [applyN, zeroN]
    rw [h2]
    have h3 : (l3S id c b).foldl applyN ⟨true, b.boot, c.e, c.s, c.m, c.live, c.hops⟩ = ⟨true, b.boot, b.e, b.s, b.m, c.live, c.hops⟩ := by
      unfold l3S
      split
      · rename_i q
        obtain ⟨e1, e2, e3⟩ := ownQ_eq q
        rw [e1, e2, e3]; rfl
      · simp [applyN]
    rw [h3]
    have h4 := fold_bits id ⟨true, b.boot, b.e, b.s, b.m, c.live, c.hops⟩ b.live on.live ob.live 8 (Nat.le_refl _)
    have hl8 : b.live % 2 ^ 8 + c.live / 2 ^ 8 * 2 ^ 8 = b.live := by have := on.live; have := ob.live; omega
    simp only [hl8] at h4
    rw [h4]
    obtain ⟨l, kl, h5, h6⟩ := fold_hops id ⟨true, b.boot, b.e, b.s, b.m, b.live, c.hops⟩ b.hops mn.tab mb.tab 8 (Nat.le_refl _)
    simp only at h5
    rw [h5, kl.ext mb.tab fun d hd => by rw [h6 d, if_pos hd]]
    obtain ⟨u, bt, e, s, m, lv, hp⟩ := b
    simp only at ub
    subst ub
    rfl
/-- An event that may be told of one of n nodes. -/
structure EvR.may (x : EvR) (n : Nat) : Prop where
  node : 0 ≤ x.node ∧ x.node < n
  w : 1 ≤ x.w ∧ x.w ≤ 8
  peer : 0 ≤ x.peer ∧ x.peer < 8
  d : 0 ≤ x.d ∧ x.d < 8
theorem mem_hopE {id : Int} {a b : Option HopR} {x : EvR} (h : x ∈ hopE id a b) : ∃ y w, (a = some y ∨ b = some y) ∧ x = evHop w id y ∧ 6 ≤ w ∧ w ≤ 8 := by
  cases a <;> cases b <;> simp only [hopE] at h
  · cases h
  · obtain rfl : x = _ := by simpa using h
    exact ⟨_, 6, .inr rfl, rfl, by omega, by omega⟩
  · obtain rfl : x = _ := by simpa using h
    exact ⟨_, 8, .inl rfl, rfl, by omega, by omega⟩
  · split at h
    · cases h
    · obtain rfl : x = _ := by simpa using h
      exact ⟨_, 7, .inr rfl, rfl, by omega, by omega⟩
theorem mem_hopsS {id : Int} {a b : List HopR} (ka : Tab a) (kb : Tab b) : ∀ {n : Nat} {x : EvR}, x ∈ hopsS id a b n → ∃ y w, x = evHop w id y ∧ 6 ≤ w ∧ w ≤ 8 ∧ 0 ≤ y.d ∧ y.d < 8 := by
  intro n x h
  unfold hopsS at h
  obtain ⟨d, _, h⟩ := List.mem_flatMap.1 h
  obtain ⟨y, w, hy, e, h6, h8⟩ := mem_hopE h
  rcases hy with q | q
  · obtain ⟨hm, _⟩ := findH_mem q
    exact ⟨y, w, e, h6, h8, ka.lo y hm, ka.hi y hm⟩
  · obtain ⟨hm, _⟩ := findH_mem q
    exact ⟨y, w, e, h6, h8, kb.lo y hm, kb.hi y hm⟩
theorem mem_bitsS {id : Int} {a b : Nat} : ∀ {n : Nat} {x : EvR}, n ≤ 8 → x ∈ bitsS id a b n → ∃ w p, x = ⟨w, id, 0, 0, 0, 0, p, 0, 0, 0⟩ ∧ 4 ≤ w ∧ w ≤ 5 ∧ 0 ≤ p ∧ p < 8 := by
  intro n x hn h
  unfold bitsS at h
  obtain ⟨d, hd, h⟩ := List.mem_flatMap.1 h
  rw [List.mem_range] at hd
  unfold bitE at h
  split at h
  · obtain rfl : x = _ := by simpa using h
    exact ⟨4, d, rfl, by omega, by omega, by omega, by omega⟩
  · split at h
    · obtain rfl : x = _ := by simpa using h
      exact ⟨5, d, rfl, by omega, by omega, by omega, by omega⟩
    · cases h
theorem turn_may {i n : Nat} (hi : i < n) {a b : NodeR} (ma : a.may) (mb : b.may) {x : EvR} (h : x ∈ turnS (i : Int) a b) : x.may n ∧ x.node = i := by
  have mn : (nowN a b).may := by
    unfold nowN
    split
    · exact ⟨.nil, fun _ => rfl⟩
    · exact ma
  unfold turnS at h
  rcases List.mem_append.1 h with h | h
  · unfold l1S at h
    split at h
    · obtain rfl : x = _ := by simpa using h
      exact ⟨⟨by simp; omega, by simp, by simp, by simp⟩, rfl⟩
    · cases h
  · split at h
    · rcases List.mem_append.1 h with h | h
      · unfold l2S at h
        split at h
        · cases h
        · obtain rfl : x = _ := by simpa using h
          exact ⟨⟨by simp; omega, by simp, by simp, by simp⟩, rfl⟩
      · rcases List.mem_append.1 h with h | h
        · unfold l3S at h
          split at h
          · cases h
          · obtain rfl : x = _ := by simpa using h
            exact ⟨⟨by simp; omega, by simp, by simp, by simp⟩, rfl⟩
        · rcases List.mem_append.1 h with h | h
          · obtain ⟨w, p, rfl, h1, h2, h3, h4⟩ := mem_bitsS (Nat.le_refl _) h
            exact ⟨⟨by simp; omega, by simp; omega, by simp; omega, by simp⟩, rfl⟩
          · obtain ⟨y, w, rfl, h1, h2, h3, h4⟩ := mem_hopsS mn.tab mb.tab h
            exact ⟨⟨by simp [evHop]; omega, by simp [evHop]; omega, by simp [evHop], by simp [evHop]; omega⟩, rfl⟩
    · cases h
theorem applyT_len (T : List NodeR) (e : EvR) : (applyT T e).length = T.length := by simp [applyT]
theorem fold_node {i : Nat} : ∀ (l : List EvR) (T : List NodeR), i < T.length → (∀ e ∈ l, e.node = i) → l.foldl applyT T = T.set i (l.foldl applyN (nthN T i))
  | [], T, hi, _ => by simp [nthN_lt hi]
  | e :: l, T, hi, h => by
    have he : e.node.toNat = i := by have := h e (by simp); omega
    rw [List.foldl_cons, fold_node l _ (by simpa [applyT] using hi) fun x hx => h x (by simp [hx]), List.foldl_cons]
    unfold applyT
    rw [he, nthN_lt (l := T.set i _) (by simpa using hi), List.getElem_set_self, List.set_set]
theorem diff_may {xs ys : List NodeR} (hl : xs.length = ys.length) (mx : ∀ x ∈ xs, x.may) (my : ∀ x ∈ ys, x.may) : ∀ k, k ≤ xs.length → ∀ x ∈ diffS xs ys k, x.may xs.length
  | 0, _, x, h => by simp [diffS] at h
  | k + 1, hk, x, h => by
    rw [diffS_succ] at h
    rcases List.mem_append.1 h with h | h
    · exact diff_may hl mx my k (by omega) x h
    · rw [nthN_lt (show k < xs.length by omega), nthN_lt (show k < ys.length by omega)] at h
      exact (turn_may (by omega) (mx _ (List.getElem_mem _)) (my _ (List.getElem_mem _)) h).1
/-- What happened between two views makes the second one. -/
theorem fold_diff {xs ys : List NodeR} (hl : xs.length = ys.length) (ox : ∀ x ∈ xs, x.ok) (oy : ∀ x ∈ ys, x.ok) (mx : ∀ x ∈ xs, x.may) (my : ∀ x ∈ ys, x.may) : ∀ k, k ≤ xs.length → (diffS xs ys k).foldl applyT xs = ys.take k ++ xs.drop k
  | 0, _ => by simp [diffS]
  | k + 1, hk => by
    have h1 : k < xs.length := by omega
    have h2 : k < ys.length := by omega
    rw [diffS_succ, List.foldl_append, fold_diff hl ox oy mx my k (by omega), nthN_lt h1, nthN_lt h2]
    have hlen : k < (ys.take k ++ xs.drop k).length := by simp; omega
    have hat : nthN (ys.take k ++ xs.drop k) k = xs[k] := by
      rw [nthN_lt hlen, List.getElem_append_right (by simp; omega)]
      simp [show min k ys.length = k by omega]
    rw [fold_node (i := k) _ _ hlen fun e he => (turn_may (n := xs.length) h1 (mx _ (List.getElem_mem _)) (my _ (List.getElem_mem _)) he).2, hat,
      fold_turn _ (ox _ (List.getElem_mem _)) (oy _ (List.getElem_mem _)) (mx _ (List.getElem_mem _)) (my _ (List.getElem_mem _)),
      List.set_append_right _ _ (by simp; omega), List.take_succ_eq_append_getElem h2, List.append_assoc, List.drop_eq_getElem_cons h1]
    simp only [List.length_take, show min k ys.length = k by omega, Nat.sub_self, List.set_cons_zero, List.cons_append, List.nil_append]
theorem fold_all {xs ys : List NodeR} (hl : xs.length = ys.length) (ox : ∀ x ∈ xs, x.ok) (oy : ∀ x ∈ ys, x.ok) (mx : ∀ x ∈ xs, x.may) (my : ∀ x ∈ ys, x.may) : (diffS xs ys xs.length).foldl applyT xs = ys := by
  rw [fold_diff hl ox oy mx my _ (Nat.le_refl _)]
  simp [hl]
end Go.Proofs.YtoiihalnbdehkaaDoor.B
/-
  A growing slice of structs, each with a growing slice of its own, which is written in place.
-/
namespace Go.Proofs.YtoiihalnbdehkaaDoor.B
open Go
set_option linter.unusedVariables false
set_option linter.unusedSimpArgs false
theorem Chg.trans {h0 h h1 h2 : AHeap} {u : Value} (a : Chg h0 u h h1) (b : Chg h0 u h1 h2) : Chg h0 u h h2 :=
  ⟨⟨Nat.le_trans a.1.1 b.1.1, fun i hi e => by rw [b.1.2 i (Nat.lt_of_lt_of_le hi a.1.1) e, a.1.2 i hi e]⟩, fun e => (a.2 e).trans (b.2 e)⟩
theorem Chg.refl (h0 h : AHeap) (u : Value) : Chg h0 u h h := ⟨⟨Nat.le_refl _, fun _ _ _ => rfl⟩, fun _ => .refl _⟩
theorem Chg.ofPre {h0 h h1 : AHeap} (u : Value) (p : Pre h h1) : Chg h0 u h h1 := ⟨⟨p.len, fun i hi _ => p.get hi⟩, fun _ => p⟩
theorem Chg.set {h0 h : AHeap} {u : Value} (hp : h0.length ≤ sb u) (hn : u ≠ nilS) (o : AObj) : Chg h0 u h (h.set (sb u) o) :=
  ⟨⟨by simp, fun i hi e => List.getElem?_set_ne fun c => by have := e c.symm; omega⟩, fun e => absurd e hn⟩
theorem setC_all0 {cs vs : List Value} (hl : cs.length = vs.length) : setC cs 0 vs = vs := by
  rw [setC_eq (by omega)]
  simp [← hl]
theorem setC_left {a b vs : List Value} {off : Nat} (h : off + vs.length ≤ a.length) : setC (a ++ b) off vs = setC a off vs ++ b := by
  rw [setC_eq (by simp; omega), setC_eq h, List.take_append_of_le_length (by omega), List.drop_append_of_le_length h]
  simp
theorem setC_right {a b vs : List Value} {off : Nat} (h : off + vs.length ≤ b.length) : setC (a ++ b) (a.length + off) vs = a ++ setC b off vs := by
  rw [setC_eq (by simp; omega), setC_eq h, List.take_append, List.drop_append, List.take_of_length_le (by omega), List.drop_of_length_le (by omega)]
  simp only [Nat.add_assoc, Nat.add_sub_cancel_left, List.nil_append, List.append_assoc]
theorem setC_flat {α : Type} {enc : α → List Value} {sz : Nat} (he : ∀ a, (enc a).length = sz) : ∀ (l : List α) (i : Nat) (hi : i < l.length) {off : Nat} {vs : List Value} {x : α},
    off + vs.length ≤ sz → setC (enc l[i]) off vs = enc x → setC (l.flatMap enc) (i * sz + off) vs = (l.set i x).flatMap enc
  | a :: l, 0, _, off, vs, x, h1, h2 => by
    simp only [List.getElem_cons_zero] at h2
    rw [Nat.zero_mul, Nat.zero_add, List.flatMap_cons, setC_left (by rw [he]; exact h1), h2]; rfl
  | a :: l, i + 1, hi, off, vs, x, h1, h2 => by
    have hl : i < l.length := by simpa using hi
    have hm := Nat.mul_le_mul_right sz (show i + 1 ≤ l.length by omega)
    rw [Nat.succ_mul] at hm
    have hfl := flatMap_len he l
    rw [List.flatMap_cons, show (i + 1) * sz + off = (enc a).length + (i * sz + off) by rw [he, Nat.succ_mul]; omega, setC_right (by omega),
      setC_flat he l i hl h1 (by simpa using h2)]
    rfl
theorem Ow.wr {h0 h : AHeap} {sz n : Nat} {v : Value} {cs : List Value} (k : Ow h0 h sz v n cs) {off : Nat} {vs : List Value} (hl : off + vs.length ≤ n * sz) (hv : 0 < vs.length) :
    ∃ o, wrs h (sb v) (so v + off) vs = some (h.set (sb v) o) ∧ Ow h0 (h.set (sb v) o) sz v n (setC cs off vs) ∧ (∃ cells, o = .row (.grow sz) cells) := by
  cases k with
  | nil => rw [Nat.zero_mul] at hl; omega
  | row hb hr hlc hc hm =>
    rename_i b off' cap cells
    have hbl := (List.getElem?_eq_some_iff.1 hr).1
    have hmul := Nat.mul_le_mul_right sz hc
    refine ⟨.row (.grow sz) (setC cells (off' + off) vs), ?_, ?_, _, rfl⟩
    · simp only [wrs, sb, so, hr]; exact if_pos (by omega)
    · have := Ow.row (h0 := h0) (h := h.set b (.row (.grow sz) (setC cells (off' + off) vs))) (sz := sz) (b := b) (off := off') (n := n) (cap := cap) (cells := setC cells (off' + off) vs) hb (by simp [hbl]) (by simp; omega) hc hm
      have e : ((setC cells (off' + off) vs).drop off').take (n * sz) = setC ((cells.drop off').take (n * sz)) off vs := by
        rw [setC_eq (by omega), setC_eq (by simp; omega), List.drop_append_of_le_length (by simp; omega), List.drop_take, Nat.add_sub_cancel_left,
          List.take_append, List.take_append, List.take_take, List.take_take, List.drop_take, List.drop_drop]
        simp only [List.length_take, List.length_drop]
        rw [Nat.min_eq_right (a := n * sz) (by omega), Nat.min_eq_left (a := off) (by omega), Nat.min_eq_left (a := off) (by omega),
          List.take_of_length_le (l := vs) (by omega)]
        simp only [Nat.sub_sub, Nat.add_assoc]
      rw [e] at this
      exact this
theorem Ow.front {h0 h : AHeap} {sz n : Nat} {v : Value} {cs : List Value} (k : Ow h0 h sz v n cs) {m : Nat} (hm : m ≤ n) : Ow h0 h sz (sliceTo m v) m (cs.take (m * sz)) ∧ sb (sliceTo m v) = sb v := by
  cases k with
  | nil =>
    obtain rfl : m = 0 := by omega
    exact ⟨by rw [List.take_nil]; exact .nil, rfl⟩
  | row hb hr hl hc hx =>
    have hmul := Nat.mul_le_mul_right sz hm
    refine ⟨?_, rfl⟩
    rw [List.take_take, Nat.min_eq_left hmul]
    exact .row hb hr hl (by omega) hx
/-- A slice of hops of its own. -/
abbrev OwH (h0 h : AHeap) (v : Value) (l : List HopR) : Prop := Ow h0 h 3 v l.length (l.flatMap HopR.c)
theorem hop_len (x : HopR) : x.c.length = 3 := rfl
theorem OwH.ls {h0 h : AHeap} {v : Value} {l : List HopR} (k : OwH h0 h v l) : Ls h 3 isHR v l := k.sl.ls hop_len rfl
theorem OwH.set {h0 h : AHeap} {v : Value} {l : List HopR} (k : OwH h0 h v l) {i : Nat} (hi : i < l.length) (x : HopR) :
    ∃ o, wrs h (sb v) (so v + i * 3) x.c = some (h.set (sb v) o) ∧ OwH h0 (h.set (sb v) o) v (l.set i x) ∧ Chg h0 v h (h.set (sb v) o) ∧ (∃ cells, o = .row (.grow 3) cells) := by
  obtain ⟨o, h1, h2, h3⟩ := k.wr (off := i * 3) (vs := x.c) (by rw [hop_len]; omega) (by rw [hop_len]; omega)
  have e := setC_flat hop_len l i hi (off := 0) (vs := x.c) (x := x) (by rw [hop_len]; omega) (setC_all0 rfl)
  rw [Nat.add_zero] at e
  rw [e] at h2
  refine ⟨o, h1, by unfold OwH; rw [List.length_set]; exact h2, ?_, h3⟩
  have hp := k.place
  rcases hp with rfl | hp
  · cases hl : l with
    | nil => rw [hl] at hi; simp at hi
    | cons a l' => rw [hl] at k; cases k
  · refine .set hp.1 ?_ o
    rintro rfl
    cases hl : l with
    | nil => rw [hl] at hi; simp at hi
    | cons a l' => rw [hl] at k; cases k
def encP (p : NodeR × Value) : List Value := p.1.c p.2
theorem encP_len (p : NodeR × Value) : (encP p).length = 7 := rfl
/-- Nodes in a slice of their own, each with hops of its own. -/
structure Out (h0 h : AHeap) (u : Value) (L : List (NodeR × Value)) : Prop where
  row : Ow h0 h 7 u L.length (L.flatMap encP)
  own : ∀ i (hi : i < L.length), OwH h0 h L[i].2 L[i].1.hops ∧ (L[i].2 = nilS ∨ sb L[i].2 ≠ sb u)
  dj : ∀ i j (hi : i < L.length) (hj : j < L.length), i ≠ j → L[i].2 = nilS ∨ L[j].2 = nilS ∨ sb L[i].2 ≠ sb L[j].2
section
variable {h0 h : AHeap} {u : Value} {L : List (NodeR × Value)}
theorem Out.nil : Out h0 h nilS [] := ⟨.nil, fun i hi => by simp at hi, fun i j hi => by simp at hi⟩
theorem Out.pre {h' : AHeap} (p : Pre h h') (k : Out h0 h u L) : Out h0 h' u L := ⟨k.row.pre p, fun i hi => ⟨(k.own i hi).1.pre p, (k.own i hi).2⟩, k.dj⟩
theorem Out.ls (k : Out h0 h u L) : Ls h 7 (fun c x => ∃ p, p ∈ L ∧ p.1 = x ∧ c = encP p) u (L.map Prod.fst) := by
  refine ⟨_, by rw [List.length_map]; exact k.row.sl, fun i hi => ?_⟩
  have hi' : i < L.length := by simpa using hi
  exact ⟨L[i], List.getElem_mem hi', by simp, flatMap_get encP_len L i hi'⟩
theorem Out.nodes (k : Out h0 h u L) : Ls h 7 (isNR h) u (L.map Prod.fst) := by
  refine k.ls.mono fun c x ⟨p, hp, e1, e2⟩ => ?_
  obtain ⟨i, hi, rfl⟩ := List.getElem_of_mem hp
  subst e1
  exact ⟨L[i].2, e2, (k.own i hi).1.ls⟩
theorem Out.rd (k : Out h0 h u L) {i : Nat} (hi : i < L.length) {h2 : AHeap} (p : Pre h h2) : rds h2 (sb u) (so u + i * 7) 7 = some (encP L[i]) := by
  have := k.row.sl.rd hi
  rw [flatMap_get encP_len L i hi] at this
  exact rds_pre p this
theorem Out.rdc (k : Out h0 h u L) {i : Nat} (hi : i < L.length) {h2 : AHeap} (p : Pre h h2) {off m : Nat} (hm : off + m ≤ 7) : rds h2 (sb u) (so u + i * 7 + off) m = some (((encP L[i]).drop off).take m) := rds_sub (k.rd hi p) hm
/-- Something else is written. -/
theorem Out.fx {b : Nat} {ds : List Value} (k : Out h0 h u L) (f : Fx h b ds) (o : AObj) : Out h0 (h.set b o) u L :=
  ⟨k.row.put (k.row.nfix f) o, fun i hi => ⟨(k.own i hi).1.put ((k.own i hi).1.nfix f) o, (k.own i hi).2⟩, k.dj⟩
/-- A node's hops turn, and its cells behind them. -/
theorem Out.mut (k : Out h0 h u L) {i : Nat} (hi : i < L.length) {h1 : AHeap} {n' : NodeR} {tv' : Value} (hc : Chg h0 L[i].2 h h1) (ho : OwH h0 h1 tv' n'.hops)
    (hpl : tv' = nilS ∨ (sb tv' = sb L[i].2 ∧ L[i].2 ≠ nilS) ∨ h.length ≤ sb tv') {off : Nat} {vs : List Value} (hl : off + vs.length ≤ 7) (hv : 0 < vs.length) (hs : setC (encP L[i]) off vs = encP (n', tv')) :
    ∃ o, wrs h1 (sb u) (so u + i * 7 + off) vs = some (h1.set (sb u) o) ∧ Out h0 (h1.set (sb u) o) u (L.set i (n', tv')) ∧ (∀ b cs, Fx h1 b cs → Fx (h1.set (sb u) o) b cs) ∧ h0.length ≤ sb u := by
  have hur : u ≠ nilS := by
    rintro rfl
    have := k.row
    cases hL : L with
    | nil => rw [hL] at hi; simp at hi
    | cons a l' => rw [hL] at this; cases this
  have hup := k.row.place.resolve_left hur
  have rowc : Ow h0 h1 7 u L.length (L.flatMap encP) := by
    rcases (k.own i hi).2 with q | q
    · exact k.row.pre (hc.2 q)
    · exact k.row.frame (hc.1.2 _ hup.2 fun e => absurd e.symm q)
  have hm7 : i * 7 + (off + vs.length) ≤ L.length * 7 := by omega
  obtain ⟨o, w1, w2, cells, rfl⟩ := rowc.wr (off := i * 7 + off) (vs := vs) (by omega) hv
  rw [← Nat.add_assoc] at w1
  rw [setC_flat encP_len L i hi hl hs] at w2
  have hne' : tv' = nilS ∨ sb tv' ≠ sb u := by
    rcases hpl with q | q | q
    · exact .inl q
    · rcases (k.own i hi).2 with z | z
      · exact absurd z q.2
      · exact .inr (by rw [q.1]; exact z)
    · exact .inr (by omega)
  have oth : ∀ j (hj : j < L.length), j ≠ i → OwH h0 (h1.set (sb u) (.row (.grow 7) cells)) L[j].2 L[j].1.hops := fun j hj hji => by
    have k1 : OwH h0 h1 L[j].2 L[j].1.hops := by
      have hp := (k.own j hj).1.place
      rcases hp with q | q
      · have q2 := (k.own j hj).1
        rw [q] at q2 ⊢
        generalize hll : L[j].1.hops = ll at q2 ⊢
        cases ll with
        | nil => exact .nil
        | cons a b => cases q2
      · rcases k.dj i j hi hj (Ne.symm hji) with z | z | z
        · exact (k.own j hj).1.pre (hc.2 z)
        · have q2 := (k.own j hj).1
          rw [z] at q2 ⊢
          generalize hll : L[j].1.hops = ll at q2 ⊢
          cases ll with
          | nil => exact .nil
          | cons a b => cases q2
        · exact (k.own j hj).1.frame (hc.1.2 _ q.2 fun e => absurd e.symm z)
    exact k1.put ((k.own j hj).2.imp id Ne.symm) _
  refine ⟨_, w1, ⟨by rw [List.length_set]; exact w2, fun j hj => ?_, fun a b ha hb hab => ?_⟩, fun b cs f => f.other (fun e => ?_) _, hup.1⟩
  · have hj' : j < L.length := by simpa using hj
    by_cases hji : j = i
    · subst hji
      simp only [List.getElem_set_self]
      exact ⟨ho.put (hne'.imp id Ne.symm) _, hne'⟩
    · simp only [List.getElem_set_ne (Ne.symm hji)]
      exact ⟨oth j hj' hji, (k.own j hj').2⟩
  · have ha' : a < L.length := by simpa using ha
    have hb' : b < L.length := by simpa using hb
    have key : ∀ j (hj : j < L.length), j ≠ i → tv' = nilS ∨ L[j].2 = nilS ∨ sb tv' ≠ sb L[j].2 := fun j hj hji => by
      rcases hpl with q | q | q
      · exact .inl q
      · rcases k.dj i j hi hj (Ne.symm hji) with z | z | z
        · exact absurd z q.2
        · exact .inr (.inl z)
        · exact .inr (.inr (by rw [q.1]; exact z))
      · rcases (k.own j hj).1.place with z | z
        · exact .inr (.inl z)
        · exact .inr (.inr (by omega))
    by_cases h1 : a = i
    · subst h1
      simp only [List.getElem_set_self, List.getElem_set_ne hab]
      exact key b hb' (Ne.symm hab)
    · by_cases h2 : b = i
      · subst h2
        simp only [List.getElem_set_self, List.getElem_set_ne (Ne.symm h1)]
        rcases key a ha' h1 with z | z | z
        · exact .inr (.inl z)
        · exact .inl z
        · exact .inr (.inr (Ne.symm z))
      · simp only [List.getElem_set_ne (Ne.symm h1), List.getElem_set_ne (Ne.symm h2)]
        exact k.dj a b ha' hb' hab
  · have g := rowc.gr.resolve_left hur
    exact absurd (e.symm) (g.2.nfix f)
/-- A node's hops turn in place. -/
theorem Out.inplace (k : Out h0 h u L) {i : Nat} (hi : i < L.length) {h1 : AHeap} {l : List HopR} (hc : Chg h0 L[i].2 h h1) (ho : OwH h0 h1 L[i].2 l) :
    Out h0 h1 u (L.set i (⟨L[i].1.up, L[i].1.boot, L[i].1.e, L[i].1.s, L[i].1.m, L[i].1.live, l⟩, L[i].2)) := by
  have hur : u ≠ nilS := by
    rintro rfl
    have := k.row
    cases hL : L with
    | nil => rw [hL] at hi; simp at hi
    | cons a l' => rw [hL] at this; cases this
  have hup := k.row.place.resolve_left hur
  have e7 := setC_flat encP_len L i hi (off := 0) (vs := encP L[i]) (x := (⟨L[i].1.up, L[i].1.boot, L[i].1.e, L[i].1.s, L[i].1.m, L[i].1.live, l⟩, L[i].2)) (by rw [encP_len]; omega) (setC_all0 rfl)
  have e8 := setC_flat encP_len L i hi (off := 0) (vs := encP L[i]) (x := L[i]) (by rw [encP_len]; omega) (setC_all0 rfl)
  have rowc : Ow h0 h1 7 u L.length (L.flatMap encP) := by
    rcases (k.own i hi).2 with q | q
    · exact k.row.pre (hc.2 q)
    · exact k.row.frame (hc.1.2 _ hup.2 fun e => absurd e.symm q)
  refine ⟨?_, fun j hj => ?_, fun a b ha hb hab => ?_⟩
  · rw [List.length_set, ← e7, e8, List.set_getElem_self]
    exact rowc
  · have hj' : j < L.length := by simpa using hj
    by_cases hji : j = i
    · subst hji
      simp only [List.getElem_set_self]
      exact ⟨ho, (k.own j hj').2⟩
    · simp only [List.getElem_set_ne (Ne.symm hji)]
      refine ⟨?_, (k.own j hj').2⟩
      have empt : L[j].2 = nilS → OwH h0 h1 L[j].2 L[j].1.hops := fun z => by
        have q2 := (k.own j hj').1
        rw [z] at q2 ⊢
        generalize hll : L[j].1.hops = ll at q2 ⊢
        cases ll with
        | nil => exact .nil
        | cons a b => cases q2
      rcases (k.own j hj').1.place with q | q
      · exact empt q
      · rcases k.dj i j hi hj' (Ne.symm hji) with z | z | z
        · exact (k.own j hj').1.pre (hc.2 z)
        · exact empt z
        · exact (k.own j hj').1.frame (hc.1.2 _ q.2 fun e => absurd e.symm z)
  · have ha' : a < L.length := by simpa using ha
    have hb' : b < L.length := by simpa using hb
    have hsnd : ∀ j (hj : j < (L.set i (⟨L[i].1.up, L[i].1.boot, L[i].1.e, L[i].1.s, L[i].1.m, L[i].1.live, l⟩, L[i].2)).length) (hj' : j < L.length), ((L.set i (⟨L[i].1.up, L[i].1.boot, L[i].1.e, L[i].1.s, L[i].1.m, L[i].1.live, l⟩, L[i].2))[j]).2 = L[j].2 := fun j hj hj' => by
      rw [List.getElem_set]
      split
      · rename_i e; subst e; rfl
      · rfl
    rw [hsnd a ha ha', hsnd b hb hb']
    exact k.dj a b ha' hb' hab
end
end Go.Proofs.YtoiihalnbdehkaaDoor.B
