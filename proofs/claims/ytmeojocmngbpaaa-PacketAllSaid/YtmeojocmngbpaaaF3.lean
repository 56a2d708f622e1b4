/-
  Layer 22 (fib) over the abstract heap: the way by some tables.
-/
import Derived.Test.YtmeojocmngbpaaaF2
namespace Go.Proofs.Ytmeojocmngbpaaa.B
open Go Go.IntWalk
set_option linter.unusedVariables false
set_option linter.unusedSimpArgs false

abbrev intC (n : Int) : List Value := [.int .i64 n]
abbrev isT (h : AHeap) (c : List Value) (t : List Hop) : Prop := ∃ tv, c = [tv] ∧ Ls h 3 isH tv t

/-- Different numbers below a bound. -/
theorem nodup_len : ∀ (n : Nat) (l : List Int), l.Nodup → (∀ x ∈ l, 0 ≤ x ∧ x < n) → l.length ≤ n
  | 0, l, _, hb => by
    cases l with
    | nil => simp
    | cons a l => have := hb a (by simp); omega
  | n + 1, l, hn, hb => by
    by_cases hm : (n : Int) ∈ l
    · have h1 := nodup_len n (l.erase n) (hn.erase _) fun x hx => by
        rw [hn.mem_erase_iff] at hx
        have := hb x hx.2
        omega
      have h2 := List.length_erase_of_mem hm
      omega
    · have := nodup_len n l hn fun x hx => by
        have := hb x hx
        have : x ≠ n := fun q => hm (q ▸ hx)
        omega
      omega

def walkF (T : List (List Hop)) (dest : Int) : Nat → List Int → Int → List Int × Bool
  | 0, way, _ => (way, false)
  | n + 1, way, at_ => if at_ ∈ way then (way ++ [at_], true) else
    if at_ = dest ∨ at_ < 0 ∨ (T.length : Int) ≤ at_ then (way ++ [at_], false) else
      if lookL (T.getD at_.toNat []) dest < 0 then (way ++ [at_], false) else walkF T dest n (way ++ [at_]) (lookL (T.getD at_.toNat []) dest)

/-- The way so far. -/
def OnWay (T : List (List Hop)) (way : List Int) : Prop := way.Nodup ∧ ∀ x ∈ way, 0 ≤ x ∧ x < T.length
theorem OnWay.len {T : List (List Hop)} {way : List Int} (h : OnWay T way) : way.length ≤ T.length := nodup_len _ _ h.1 h.2
theorem OnWay.snoc {T : List (List Hop)} {way : List Int} {x : Int} (h : OnWay T way) (hx : x ∉ way) (h0 : 0 ≤ x) (h1 : x < T.length) : OnWay T (way ++ [x]) := by
  refine ⟨?_, fun y hy => ?_⟩
  · rw [List.nodup_append]
    exact ⟨h.1, by simp, fun a ha b hb => by simp at hb; subst hb; exact fun q => hx (q ▸ ha)⟩
  · rw [List.mem_append, List.mem_singleton] at hy
    rcases hy with hy | rfl
    · exact h.2 y hy
    · exact ⟨h0, h1⟩

theorem Ow.ints {h0 h : AHeap} {v : Value} {l : List Int} (k : Ow h0 h 1 v l.length (l.flatMap intC)) : Ls h 1 isI v l := k.sl.ls (fun _ => rfl) rfl
theorem Ow.snoc {h0 h : AHeap} {v : Value} {l : List Int} {x : Int} (k : Ow h0 h 1 v (l.length + 1) (l.flatMap intC ++ [.int .i64 x])) : Ow h0 h 1 v (l ++ [x]).length ((l ++ [x]).flatMap intC) := by
  simpa using k

theorem walk_spec {h : AHeap} {v : Value} {T : List (List Hop)} (hv : Ls h 1 (isT h) v T) (hr : ∀ t ∈ T, Rises t) (hn : T.length ≤ 1000) (a dest : Int) : SpecX Try.prog nG fn.fib_Walk [v, .int .i64 a, .int .i64 dest] h fun v' h' =>
    Pre h h' ∧ ∃ u w b, v' = .tuple #[u, .bool b] ∧ Ow h h' 1 u w.length (w.flatMap intC) ∧ (w, b) = walkF T dest (T.length + 1) [] a := by
  refine SpecX.of_body (ir.fib_Walk.spec (Nat.le_of_ble_eq_true rfl)) ?_
  simp (dsimp := false) only [↓ir.fib_Walk.bw, ir.fib_Walk.rs, ↓ir.fib_Walk.r0.w, ↓ir.fib_Walk.r1.w, ↓ir.fib_Walk.r2.w, ↓ir.fib_Walk.r3.w, ↓ir.fib_Walk.r4.w, ↓ir.fib_Walk.r5.w, ↓ir.fib_Walk.r6.w, ↓ir.fib_Walk.r7.w, ↓ir.fib_Walk.r8.w, ↓ir.fib_Walk.r9.w, ↓ir.fib_Walk.r10.w, ↓ir.fib_Walk.l1.w, ir.fib_Walk.rs, go_sem, Nat.reduceAdd, Nat.reduceEqDiff, Nat.reduceMul, Nat.reduceLeDiff, Nat.reduceSub, Nat.reduceLT, ↓reduceIte, reduceCtorEq, List.reduceReplicate, List.flatten_cons, List.flatten_nil, List.append_nil, eq_self, Int.reduceLE, Int.reduceLT, Int.reduceToNat, Nat.min_eq_left, Int.reducePow, Int.reduceNeg, Int.reduceEq]
  refine loopV_of (fun m e h2 => ∃ (u : Value) (w : List Int) (x : Int), m = T.length + 1 - w.length ∧ Pre h h2 ∧ Ow h h2 1 u w.length (w.flatMap intC) ∧ OnWay T w ∧ walkF T dest (T.length + 1 - w.length) w x = walkF T dest (T.length + 1) [] a ∧
    e = [(0, v), (2, .int .i64 dest), (6, u), (8, .int .i64 x)]) _ ⟨_, [], a, rfl, .refl _, .nil, ⟨by simp, by simp⟩, rfl, rfl⟩ ?_
  rintro m e h2 ⟨u, w, x, rfl, hp, ho, hw, hF, rfl⟩
  have hwl := hw.len
  obtain ⟨k, hk⟩ : ∃ k, T.length + 1 - w.length = k + 1 := ⟨T.length - w.length, by omega⟩
  rw [hk] at hF
  have hroom : room (w.length + 1) 8 := ⟨by omega, by omega⟩
  simp (dsimp := false) only [↓ir.fib_Walk.l1.bw, ↓ir.fib_Walk.r0.w, ↓ir.fib_Walk.r1.w, ↓ir.fib_Walk.r2.w, ↓ir.fib_Walk.r3.w, ↓ir.fib_Walk.r4.w, ↓ir.fib_Walk.r5.w, ↓ir.fib_Walk.r6.w, ↓ir.fib_Walk.r7.w, ↓ir.fib_Walk.r8.w, ↓ir.fib_Walk.r9.w, ↓ir.fib_Walk.r10.w, ↓ir.fib_Walk.l1.w, ir.fib_Walk.rs, go_sem, Nat.reduceAdd, Nat.reduceEqDiff, Nat.reduceMul, Nat.reduceLeDiff, Nat.reduceSub, Nat.reduceLT, ↓reduceIte, reduceCtorEq, List.reduceReplicate, List.flatten_cons, List.flatten_nil, List.append_nil, eq_self, Int.reduceLE, Int.reduceLT, Int.reduceToNat, Nat.min_eq_left, Int.reducePow, Int.reduceNeg, Int.reduceEq]
  refine callV_x (contains_spec ho.ints x) ?_
  rintro _ h3 ⟨hp3, rfl⟩
  simp (dsimp := false) only [↓ir.fib_Walk.r0.w, ↓ir.fib_Walk.r1.w, ↓ir.fib_Walk.r2.w, ↓ir.fib_Walk.r3.w, ↓ir.fib_Walk.r4.w, ↓ir.fib_Walk.r5.w, ↓ir.fib_Walk.r6.w, ↓ir.fib_Walk.r7.w, ↓ir.fib_Walk.r8.w, ↓ir.fib_Walk.r9.w, ↓ir.fib_Walk.r10.w, ↓ir.fib_Walk.l1.w, ir.fib_Walk.rs, go_sem, Nat.reduceAdd, Nat.reduceEqDiff, Nat.reduceMul, Nat.reduceLeDiff, Nat.reduceSub, Nat.reduceLT, ↓reduceIte, reduceCtorEq, List.reduceReplicate, List.flatten_cons, List.flatten_nil, List.append_nil, eq_self, Int.reduceLE, Int.reduceLT, Int.reduceToNat, Nat.min_eq_left, Int.reducePow, Int.reduceNeg, Int.reduceEq]
  have hp' := hp.trans hp3
  refine cVd (fun hc => ?_) (fun hc => ?_)
  · simp (dsimp := false) only [↓ir.fib_Walk.r0.w, ↓ir.fib_Walk.r1.w, ↓ir.fib_Walk.r2.w, ↓ir.fib_Walk.r3.w, ↓ir.fib_Walk.r4.w, ↓ir.fib_Walk.r5.w, ↓ir.fib_Walk.r6.w, ↓ir.fib_Walk.r7.w, ↓ir.fib_Walk.r8.w, ↓ir.fib_Walk.r9.w, ↓ir.fib_Walk.r10.w, ↓ir.fib_Walk.l1.w, ir.fib_Walk.rs, go_sem, Nat.reduceAdd, Nat.reduceEqDiff, Nat.reduceMul, Nat.reduceLeDiff, Nat.reduceSub, Nat.reduceLT, ↓reduceIte, reduceCtorEq, List.reduceReplicate, List.flatten_cons, List.flatten_nil, List.append_nil, eq_self, Int.reduceLE, Int.reduceLT, Int.reduceToNat, Nat.min_eq_left, Int.reducePow, Int.reduceNeg, Int.reduceEq]
    refine (ho.pre (hp3.app' _)).app (m := 1) rfl rfl hroom (fun a' h' ho' hb _ _ => ?_) (hp'.app' _)
    simp (dsimp := false) only [↓ir.fib_Walk.r0.w, ↓ir.fib_Walk.r1.w, ↓ir.fib_Walk.r2.w, ↓ir.fib_Walk.r3.w, ↓ir.fib_Walk.r4.w, ↓ir.fib_Walk.r5.w, ↓ir.fib_Walk.r6.w, ↓ir.fib_Walk.r7.w, ↓ir.fib_Walk.r8.w, ↓ir.fib_Walk.r9.w, ↓ir.fib_Walk.r10.w, ↓ir.fib_Walk.l1.w, ir.fib_Walk.rs, go_sem, Nat.reduceAdd, Nat.reduceEqDiff, Nat.reduceMul, Nat.reduceLeDiff, Nat.reduceSub, Nat.reduceLT, ↓reduceIte, reduceCtorEq, List.reduceReplicate, List.flatten_cons, List.flatten_nil, List.append_nil, eq_self, Int.reduceLE, Int.reduceLT, Int.reduceToNat, Nat.min_eq_left, Int.reducePow, Int.reduceNeg, Int.reduceEq]
    refine ⟨hb.pre (hp'.app' _), a', w ++ [x], true, rfl, ho'.snoc, ?_⟩
    rw [← hF, walkF, if_pos hc]
  · simp (dsimp := false) only [↓ir.fib_Walk.r0.w, ↓ir.fib_Walk.r1.w, ↓ir.fib_Walk.r2.w, ↓ir.fib_Walk.r3.w, ↓ir.fib_Walk.r4.w, ↓ir.fib_Walk.r5.w, ↓ir.fib_Walk.r6.w, ↓ir.fib_Walk.r7.w, ↓ir.fib_Walk.r8.w, ↓ir.fib_Walk.r9.w, ↓ir.fib_Walk.r10.w, ↓ir.fib_Walk.l1.w, ir.fib_Walk.rs, go_sem, Nat.reduceAdd, Nat.reduceEqDiff, Nat.reduceMul, Nat.reduceLeDiff, Nat.reduceSub, Nat.reduceLT, ↓reduceIte, reduceCtorEq, List.reduceReplicate, List.flatten_cons, List.flatten_nil, List.append_nil, eq_self, Int.reduceLE, Int.reduceLT, Int.reduceToNat, Nat.min_eq_left, Int.reducePow, Int.reduceNeg, Int.reduceEq]
    refine (ho.pre (hp3.app' _)).app (m := 1) rfl rfl hroom (fun a' h' ho' hb _ _ => ?_) (hp'.app' _)
    have hpp := hb.pre (hp'.app' _)
    simp (dsimp := false) only [↓ir.fib_Walk.r0.w, ↓ir.fib_Walk.r1.w, ↓ir.fib_Walk.r2.w, ↓ir.fib_Walk.r3.w, ↓ir.fib_Walk.r4.w, ↓ir.fib_Walk.r5.w, ↓ir.fib_Walk.r6.w, ↓ir.fib_Walk.r7.w, ↓ir.fib_Walk.r8.w, ↓ir.fib_Walk.r9.w, ↓ir.fib_Walk.r10.w, ↓ir.fib_Walk.l1.w, ir.fib_Walk.rs, go_sem, Nat.reduceAdd, Nat.reduceEqDiff, Nat.reduceMul, Nat.reduceLeDiff, Nat.reduceSub, Nat.reduceLT, ↓reduceIte, reduceCtorEq, List.reduceReplicate, List.flatten_cons, List.flatten_nil, List.append_nil, eq_self, Int.reduceLE, Int.reduceLT, Int.reduceToNat, Nat.min_eq_left, Int.reducePow, Int.reduceNeg, Int.reduceEq, hv.lenV]
    have fin : (x = dest ∨ x < 0 ∨ (T.length : Int) ≤ x) → Pre h h' ∧ ∃ u w b, (Value.tuple #[a', .bool false]) = .tuple #[u, .bool b] ∧ Ow h h' 1 u w.length (w.flatMap intC) ∧ (w, b) = walkF T dest (T.length + 1) [] a := fun q =>
      ⟨hpp, a', w ++ [x], false, rfl, ho'.snoc, by rw [← hF, walkF, if_neg hc, if_pos q]⟩
    repeat' (first | ((first | refine cVd (fun hc => ?_) (fun hc => ?_) | refine gTd (fun hc => ?_) (fun hc => ?_) | refine gFd (fun hc => ?_) (fun hc => ?_) | refine cVe (fun hc => ?_) (fun hc => ?_) | refine gTe (fun hc => ?_) (fun hc => ?_) | refine gFe (fun hc => ?_) (fun hc => ?_) | refine cVn (fun hc => ?_) (fun hc => ?_) | refine gTn (fun hc => ?_) (fun hc => ?_) | refine gFn (fun hc => ?_) (fun hc => ?_) | refine cV (fun hc => ?_) (fun hc => ?_) | refine gT (fun hc => ?_) (fun hc => ?_) | refine gF (fun hc => ?_) (fun hc => ?_)) <;> try simp (dsimp := false) only [↓ir.fib_Walk.r0.w, ↓ir.fib_Walk.r1.w, ↓ir.fib_Walk.r2.w, ↓ir.fib_Walk.r3.w, ↓ir.fib_Walk.r4.w, ↓ir.fib_Walk.r5.w, ↓ir.fib_Walk.r6.w, ↓ir.fib_Walk.r7.w, ↓ir.fib_Walk.r8.w, ↓ir.fib_Walk.r9.w, ↓ir.fib_Walk.r10.w, ↓ir.fib_Walk.l1.w, ir.fib_Walk.rs, go_sem, Nat.reduceAdd, Nat.reduceEqDiff, Nat.reduceMul, Nat.reduceLeDiff, Nat.reduceSub, Nat.reduceLT, ↓reduceIte, reduceCtorEq, List.reduceReplicate, List.flatten_cons, List.flatten_nil, List.append_nil, eq_self, Int.reduceLE, Int.reduceLT, Int.reduceToNat, Nat.min_eq_left, Int.reducePow, Int.reduceNeg, Int.reduceEq, hv.lenV]) | (with_reducible refine And.intro (by omega) ?_ <;> try simp (dsimp := false) only [↓ir.fib_Walk.r0.w, ↓ir.fib_Walk.r1.w, ↓ir.fib_Walk.r2.w, ↓ir.fib_Walk.r3.w, ↓ir.fib_Walk.r4.w, ↓ir.fib_Walk.r5.w, ↓ir.fib_Walk.r6.w, ↓ir.fib_Walk.r7.w, ↓ir.fib_Walk.r8.w, ↓ir.fib_Walk.r9.w, ↓ir.fib_Walk.r10.w, ↓ir.fib_Walk.l1.w, ir.fib_Walk.rs, go_sem, Nat.reduceAdd, Nat.reduceEqDiff, Nat.reduceMul, Nat.reduceLeDiff, Nat.reduceSub, Nat.reduceLT, ↓reduceIte, reduceCtorEq, List.reduceReplicate, List.flatten_cons, List.flatten_nil, List.append_nil, eq_self, Int.reduceLE, Int.reduceLT, Int.reduceToNat, Nat.min_eq_left, Int.reducePow, Int.reduceNeg, Int.reduceEq, hv.lenV]))
    all_goals first
      | exact fin (by omega)
      | exact (fin (by omega)).2
      | skip
    have hx : x.toNat < T.length := by omega
    obtain ⟨c, _, ⟨tv, rfl, ht⟩, r0, r1⟩ := hv.rd2 hpp hx
    have e1 : ∀ {h2 : AHeap} {K : Value → AHeap → Prop}, ixsV 1 v (.int .i64 x) h2 K () = mvV (.pointer (some ⟨sb v, so v + x.toNat * 1, none⟩)) h2 K () := hv.ixs (by omega) (by omega)
    simp (dsimp := false) only [↓ir.fib_Walk.r0.w, ↓ir.fib_Walk.r1.w, ↓ir.fib_Walk.r2.w, ↓ir.fib_Walk.r3.w, ↓ir.fib_Walk.r4.w, ↓ir.fib_Walk.r5.w, ↓ir.fib_Walk.r6.w, ↓ir.fib_Walk.r7.w, ↓ir.fib_Walk.r8.w, ↓ir.fib_Walk.r9.w, ↓ir.fib_Walk.r10.w, ↓ir.fib_Walk.l1.w, ir.fib_Walk.rs, go_sem, Nat.reduceAdd, Nat.reduceEqDiff, Nat.reduceMul, Nat.reduceLeDiff, Nat.reduceSub, Nat.reduceLT, ↓reduceIte, reduceCtorEq, List.reduceReplicate, List.flatten_cons, List.flatten_nil, List.append_nil, eq_self, Int.reduceLE, Int.reduceLT, Int.reduceToNat, Nat.min_eq_left, Int.reducePow, Int.reduceNeg, Int.reduceEq, e1, r0]
    have hgd : T.getD x.toNat [] = T[x.toNat] := by simp [List.getD, hx]
    refine callV_x (lookup_spec (ht.pre hpp) dest) ?_
    rintro _ h4 ⟨hp4, r, rfl, hrr⟩
    obtain rfl := hrr (hr _ (List.getElem_mem hx))
    simp (dsimp := false) only [↓ir.fib_Walk.r0.w, ↓ir.fib_Walk.r1.w, ↓ir.fib_Walk.r2.w, ↓ir.fib_Walk.r3.w, ↓ir.fib_Walk.r4.w, ↓ir.fib_Walk.r5.w, ↓ir.fib_Walk.r6.w, ↓ir.fib_Walk.r7.w, ↓ir.fib_Walk.r8.w, ↓ir.fib_Walk.r9.w, ↓ir.fib_Walk.r10.w, ↓ir.fib_Walk.l1.w, ir.fib_Walk.rs, go_sem, Nat.reduceAdd, Nat.reduceEqDiff, Nat.reduceMul, Nat.reduceLeDiff, Nat.reduceSub, Nat.reduceLT, ↓reduceIte, reduceCtorEq, List.reduceReplicate, List.flatten_cons, List.flatten_nil, List.append_nil, eq_self, Int.reduceLE, Int.reduceLT, Int.reduceToNat, Nat.min_eq_left, Int.reducePow, Int.reduceNeg, Int.reduceEq]
    refine cVd (fun hc' => ?_) (fun hc' => ?_)
    · simp (dsimp := false) only [↓ir.fib_Walk.r0.w, ↓ir.fib_Walk.r1.w, ↓ir.fib_Walk.r2.w, ↓ir.fib_Walk.r3.w, ↓ir.fib_Walk.r4.w, ↓ir.fib_Walk.r5.w, ↓ir.fib_Walk.r6.w, ↓ir.fib_Walk.r7.w, ↓ir.fib_Walk.r8.w, ↓ir.fib_Walk.r9.w, ↓ir.fib_Walk.r10.w, ↓ir.fib_Walk.l1.w, ir.fib_Walk.rs, go_sem, Nat.reduceAdd, Nat.reduceEqDiff, Nat.reduceMul, Nat.reduceLeDiff, Nat.reduceSub, Nat.reduceLT, ↓reduceIte, reduceCtorEq, List.reduceReplicate, List.flatten_cons, List.flatten_nil, List.append_nil, eq_self, Int.reduceLE, Int.reduceLT, Int.reduceToNat, Nat.min_eq_left, Int.reducePow, Int.reduceNeg, Int.reduceEq]
      refine ⟨hpp.trans hp4, a', w ++ [x], false, rfl, (ho'.snoc).pre hp4, ?_⟩
      rw [← hF, walkF, if_neg (by assumption), if_neg (by omega), hgd, if_pos hc']
    · simp (dsimp := false) only [↓ir.fib_Walk.r0.w, ↓ir.fib_Walk.r1.w, ↓ir.fib_Walk.r2.w, ↓ir.fib_Walk.r3.w, ↓ir.fib_Walk.r4.w, ↓ir.fib_Walk.r5.w, ↓ir.fib_Walk.r6.w, ↓ir.fib_Walk.r7.w, ↓ir.fib_Walk.r8.w, ↓ir.fib_Walk.r9.w, ↓ir.fib_Walk.r10.w, ↓ir.fib_Walk.l1.w, ir.fib_Walk.rs, go_sem, Nat.reduceAdd, Nat.reduceEqDiff, Nat.reduceMul, Nat.reduceLeDiff, Nat.reduceSub, Nat.reduceLT, ↓reduceIte, reduceCtorEq, List.reduceReplicate, List.flatten_cons, List.flatten_nil, List.append_nil, eq_self, Int.reduceLE, Int.reduceLT, Int.reduceToNat, Nat.min_eq_left, Int.reducePow, Int.reduceNeg, Int.reduceEq]
      have hs := hw.snoc (x := x) (by assumption) (by omega) (by omega)
      have hsl := hs.len
      refine ⟨T.length + 1 - (w ++ [x]).length, by simp; omega, a', w ++ [x], _, rfl, hpp.trans hp4, (ho'.snoc).pre hp4, hs, ?_, rfl⟩
      rw [← hF, walkF, if_neg (by assumption), if_neg (by omega), hgd, if_neg hc']
      congr 1
      simp at hsl ⊢; omega

theorem rwalk_spec {h : AHeap} {v : Value} {T : List (List Hop)} (hv : Ls h 1 (isT h) v T) (hn : T.length ≤ 90) (a dest : Int) : SpecX Try.prog nG fn.ref22_Walk [v, .int .i64 a, .int .i64 dest] h fun v' h' =>
    Pre h h' ∧ ∃ u w b, v' = .tuple #[u, .bool b] ∧ Ow h h' 1 u w.length (w.flatMap intC) ∧ (w, b) = walkF T dest (T.length + 1) [] a := by
  refine SpecX.of_body (ir.ref22_Walk.spec (Nat.le_of_ble_eq_true rfl)) ?_
  simp (dsimp := false) only [↓ir.ref22_Walk.bw, ir.ref22_Walk.rs, ↓ir.ref22_Walk.r0.w, ↓ir.ref22_Walk.r1.w, ↓ir.ref22_Walk.r2.w, ↓ir.ref22_Walk.r3.w, ↓ir.ref22_Walk.r4.w, ↓ir.ref22_Walk.r5.w, ↓ir.ref22_Walk.r6.w, ↓ir.ref22_Walk.r7.w, ↓ir.ref22_Walk.r8.w, ↓ir.ref22_Walk.r9.w, ↓ir.ref22_Walk.l1.w, ↓ir.ref22_Walk.r10.w, ir.ref22_Walk.rs, go_sem, Nat.reduceAdd, Nat.reduceEqDiff, Nat.reduceMul, Nat.reduceLeDiff, Nat.reduceSub, Nat.reduceLT, ↓reduceIte, reduceCtorEq, List.reduceReplicate, List.flatten_cons, List.flatten_nil, List.append_nil, eq_self, Int.reduceLE, Int.reduceLT, Int.reduceToNat, Nat.min_eq_left, Int.reducePow, Int.reduceNeg, Int.reduceEq]
  refine loopV_of (fun m e h2 => ∃ (u : Value) (w : List Int) (x : Int), m = T.length + 1 - w.length ∧ Pre h h2 ∧ Ow h h2 1 u w.length (w.flatMap intC) ∧ OnWay T w ∧ walkF T dest (T.length + 1 - w.length) w x = walkF T dest (T.length + 1) [] a ∧
    e = [(0, v), (2, .int .i64 dest), (8, u), (9, .int .i64 x)]) _ ⟨_, [], a, rfl, .refl _, .nil, ⟨by simp, by simp⟩, rfl, rfl⟩ ?_
  rintro m e h2 ⟨u, w, x, rfl, hp, ho, hw, hF, rfl⟩
  have hwl := hw.len
  obtain ⟨k, hk⟩ : ∃ k, T.length + 1 - w.length = k + 1 := ⟨T.length - w.length, by omega⟩
  rw [hk] at hF
  have hroom : room (w.length + 1) 8 := ⟨by omega, by omega⟩
  have h100 : (w.length : Int) < 100 := by omega
  simp (dsimp := false) only [↓ir.ref22_Walk.l1.bw, ↓ir.ref22_Walk.r0.w, ↓ir.ref22_Walk.r1.w, ↓ir.ref22_Walk.r2.w, ↓ir.ref22_Walk.r3.w, ↓ir.ref22_Walk.r4.w, ↓ir.ref22_Walk.r5.w, ↓ir.ref22_Walk.r6.w, ↓ir.ref22_Walk.r7.w, ↓ir.ref22_Walk.r8.w, ↓ir.ref22_Walk.r9.w, ↓ir.ref22_Walk.l1.w, ↓ir.ref22_Walk.r10.w, ir.ref22_Walk.rs, go_sem, Nat.reduceAdd, Nat.reduceEqDiff, Nat.reduceMul, Nat.reduceLeDiff, Nat.reduceSub, Nat.reduceLT, ↓reduceIte, reduceCtorEq, List.reduceReplicate, List.flatten_cons, List.flatten_nil, List.append_nil, eq_self, Int.reduceLE, Int.reduceLT, Int.reduceToNat, Nat.min_eq_left, Int.reducePow, Int.reduceNeg, Int.reduceEq, ho.ints.lenV, h100, decide_true]
  refine callV_x (in_spec ho.ints x) ?_
  rintro _ h3 ⟨hp3, rfl⟩
  simp (dsimp := false) only [↓ir.ref22_Walk.r0.w, ↓ir.ref22_Walk.r1.w, ↓ir.ref22_Walk.r2.w, ↓ir.ref22_Walk.r3.w, ↓ir.ref22_Walk.r4.w, ↓ir.ref22_Walk.r5.w, ↓ir.ref22_Walk.r6.w, ↓ir.ref22_Walk.r7.w, ↓ir.ref22_Walk.r8.w, ↓ir.ref22_Walk.r9.w, ↓ir.ref22_Walk.l1.w, ↓ir.ref22_Walk.r10.w, ir.ref22_Walk.rs, go_sem, Nat.reduceAdd, Nat.reduceEqDiff, Nat.reduceMul, Nat.reduceLeDiff, Nat.reduceSub, Nat.reduceLT, ↓reduceIte, reduceCtorEq, List.reduceReplicate, List.flatten_cons, List.flatten_nil, List.append_nil, eq_self, Int.reduceLE, Int.reduceLT, Int.reduceToNat, Nat.min_eq_left, Int.reducePow, Int.reduceNeg, Int.reduceEq]
  have hp' := hp.trans hp3
  refine cVd (fun hc => ?_) (fun hc => ?_)
  · simp (dsimp := false) only [↓ir.ref22_Walk.r0.w, ↓ir.ref22_Walk.r1.w, ↓ir.ref22_Walk.r2.w, ↓ir.ref22_Walk.r3.w, ↓ir.ref22_Walk.r4.w, ↓ir.ref22_Walk.r5.w, ↓ir.ref22_Walk.r6.w, ↓ir.ref22_Walk.r7.w, ↓ir.ref22_Walk.r8.w, ↓ir.ref22_Walk.r9.w, ↓ir.ref22_Walk.l1.w, ↓ir.ref22_Walk.r10.w, ir.ref22_Walk.rs, go_sem, Nat.reduceAdd, Nat.reduceEqDiff, Nat.reduceMul, Nat.reduceLeDiff, Nat.reduceSub, Nat.reduceLT, ↓reduceIte, reduceCtorEq, List.reduceReplicate, List.flatten_cons, List.flatten_nil, List.append_nil, eq_self, Int.reduceLE, Int.reduceLT, Int.reduceToNat, Nat.min_eq_left, Int.reducePow, Int.reduceNeg, Int.reduceEq]
    refine (ho.pre (hp3.app' _)).app (m := 1) rfl rfl hroom (fun a' h' ho' hb _ _ => ?_) (hp'.app' _)
    simp (dsimp := false) only [↓ir.ref22_Walk.r0.w, ↓ir.ref22_Walk.r1.w, ↓ir.ref22_Walk.r2.w, ↓ir.ref22_Walk.r3.w, ↓ir.ref22_Walk.r4.w, ↓ir.ref22_Walk.r5.w, ↓ir.ref22_Walk.r6.w, ↓ir.ref22_Walk.r7.w, ↓ir.ref22_Walk.r8.w, ↓ir.ref22_Walk.r9.w, ↓ir.ref22_Walk.l1.w, ↓ir.ref22_Walk.r10.w, ir.ref22_Walk.rs, go_sem, Nat.reduceAdd, Nat.reduceEqDiff, Nat.reduceMul, Nat.reduceLeDiff, Nat.reduceSub, Nat.reduceLT, ↓reduceIte, reduceCtorEq, List.reduceReplicate, List.flatten_cons, List.flatten_nil, List.append_nil, eq_self, Int.reduceLE, Int.reduceLT, Int.reduceToNat, Nat.min_eq_left, Int.reducePow, Int.reduceNeg, Int.reduceEq]
    refine ⟨hb.pre (hp'.app' _), a', w ++ [x], true, rfl, ho'.snoc, ?_⟩
    rw [← hF, walkF, if_pos hc]
  · simp (dsimp := false) only [↓ir.ref22_Walk.r0.w, ↓ir.ref22_Walk.r1.w, ↓ir.ref22_Walk.r2.w, ↓ir.ref22_Walk.r3.w, ↓ir.ref22_Walk.r4.w, ↓ir.ref22_Walk.r5.w, ↓ir.ref22_Walk.r6.w, ↓ir.ref22_Walk.r7.w, ↓ir.ref22_Walk.r8.w, ↓ir.ref22_Walk.r9.w, ↓ir.ref22_Walk.l1.w, ↓ir.ref22_Walk.r10.w, ir.ref22_Walk.rs, go_sem, Nat.reduceAdd, Nat.reduceEqDiff, Nat.reduceMul, Nat.reduceLeDiff, Nat.reduceSub, Nat.reduceLT, ↓reduceIte, reduceCtorEq, List.reduceReplicate, List.flatten_cons, List.flatten_nil, List.append_nil, eq_self, Int.reduceLE, Int.reduceLT, Int.reduceToNat, Nat.min_eq_left, Int.reducePow, Int.reduceNeg, Int.reduceEq]
    refine (ho.pre (hp3.app' _)).app (m := 1) rfl rfl hroom (fun a' h' ho' hb _ _ => ?_) (hp'.app' _)
    have hpp := hb.pre (hp'.app' _)
    simp (dsimp := false) only [↓ir.ref22_Walk.r0.w, ↓ir.ref22_Walk.r1.w, ↓ir.ref22_Walk.r2.w, ↓ir.ref22_Walk.r3.w, ↓ir.ref22_Walk.r4.w, ↓ir.ref22_Walk.r5.w, ↓ir.ref22_Walk.r6.w, ↓ir.ref22_Walk.r7.w, ↓ir.ref22_Walk.r8.w, ↓ir.ref22_Walk.r9.w, ↓ir.ref22_Walk.l1.w, ↓ir.ref22_Walk.r10.w, ir.ref22_Walk.rs, go_sem, Nat.reduceAdd, Nat.reduceEqDiff, Nat.reduceMul, Nat.reduceLeDiff, Nat.reduceSub, Nat.reduceLT, ↓reduceIte, reduceCtorEq, List.reduceReplicate, List.flatten_cons, List.flatten_nil, List.append_nil, eq_self, Int.reduceLE, Int.reduceLT, Int.reduceToNat, Nat.min_eq_left, Int.reducePow, Int.reduceNeg, Int.reduceEq, hv.lenV]
    have fin : (x = dest ∨ x < 0 ∨ (T.length : Int) ≤ x) → Pre h h' ∧ ∃ u w b, (Value.tuple #[a', .bool false]) = .tuple #[u, .bool b] ∧ Ow h h' 1 u w.length (w.flatMap intC) ∧ (w, b) = walkF T dest (T.length + 1) [] a := fun q =>
      ⟨hpp, a', w ++ [x], false, rfl, ho'.snoc, by rw [← hF, walkF, if_neg hc, if_pos q]⟩
    repeat' (first | ((first | refine cVd (fun hc => ?_) (fun hc => ?_) | refine gTd (fun hc => ?_) (fun hc => ?_) | refine gFd (fun hc => ?_) (fun hc => ?_) | refine cVe (fun hc => ?_) (fun hc => ?_) | refine gTe (fun hc => ?_) (fun hc => ?_) | refine gFe (fun hc => ?_) (fun hc => ?_) | refine cVn (fun hc => ?_) (fun hc => ?_) | refine gTn (fun hc => ?_) (fun hc => ?_) | refine gFn (fun hc => ?_) (fun hc => ?_) | refine cV (fun hc => ?_) (fun hc => ?_) | refine gT (fun hc => ?_) (fun hc => ?_) | refine gF (fun hc => ?_) (fun hc => ?_)) <;> try simp (dsimp := false) only [↓ir.ref22_Walk.r0.w, ↓ir.ref22_Walk.r1.w, ↓ir.ref22_Walk.r2.w, ↓ir.ref22_Walk.r3.w, ↓ir.ref22_Walk.r4.w, ↓ir.ref22_Walk.r5.w, ↓ir.ref22_Walk.r6.w, ↓ir.ref22_Walk.r7.w, ↓ir.ref22_Walk.r8.w, ↓ir.ref22_Walk.r9.w, ↓ir.ref22_Walk.l1.w, ↓ir.ref22_Walk.r10.w, ir.ref22_Walk.rs, go_sem, Nat.reduceAdd, Nat.reduceEqDiff, Nat.reduceMul, Nat.reduceLeDiff, Nat.reduceSub, Nat.reduceLT, ↓reduceIte, reduceCtorEq, List.reduceReplicate, List.flatten_cons, List.flatten_nil, List.append_nil, eq_self, Int.reduceLE, Int.reduceLT, Int.reduceToNat, Nat.min_eq_left, Int.reducePow, Int.reduceNeg, Int.reduceEq, hv.lenV]) | (with_reducible refine And.intro (by omega) ?_ <;> try simp (dsimp := false) only [↓ir.ref22_Walk.r0.w, ↓ir.ref22_Walk.r1.w, ↓ir.ref22_Walk.r2.w, ↓ir.ref22_Walk.r3.w, ↓ir.ref22_Walk.r4.w, ↓ir.ref22_Walk.r5.w, ↓ir.ref22_Walk.r6.w, ↓ir.ref22_Walk.r7.w, ↓ir.ref22_Walk.r8.w, ↓ir.ref22_Walk.r9.w, ↓ir.ref22_Walk.l1.w, ↓ir.ref22_Walk.r10.w, ir.ref22_Walk.rs, go_sem, Nat.reduceAdd, Nat.reduceEqDiff, Nat.reduceMul, Nat.reduceLeDiff, Nat.reduceSub, Nat.reduceLT, ↓reduceIte, reduceCtorEq, List.reduceReplicate, List.flatten_cons, List.flatten_nil, List.append_nil, eq_self, Int.reduceLE, Int.reduceLT, Int.reduceToNat, Nat.min_eq_left, Int.reducePow, Int.reduceNeg, Int.reduceEq, hv.lenV]))
    all_goals first
      | exact fin (by omega)
      | exact (fin (by omega)).2
      | skip
    have hx : x.toNat < T.length := by omega
    obtain ⟨c, _, ⟨tv, rfl, ht⟩, r0, r1⟩ := hv.rd2 hpp hx
    have e1 : ∀ {h2 : AHeap} {K : Value → AHeap → Prop}, ixsV 1 v (.int .i64 x) h2 K () = mvV (.pointer (some ⟨sb v, so v + x.toNat * 1, none⟩)) h2 K () := hv.ixs (by omega) (by omega)
    have hgd : T.getD x.toNat [] = T[x.toNat] := by simp [List.getD, hx]
    simp (dsimp := false) only [↓ir.ref22_Walk.r0.w, ↓ir.ref22_Walk.r1.w, ↓ir.ref22_Walk.r2.w, ↓ir.ref22_Walk.r3.w, ↓ir.ref22_Walk.r4.w, ↓ir.ref22_Walk.r5.w, ↓ir.ref22_Walk.r6.w, ↓ir.ref22_Walk.r7.w, ↓ir.ref22_Walk.r8.w, ↓ir.ref22_Walk.r9.w, ↓ir.ref22_Walk.l1.w, ↓ir.ref22_Walk.r10.w, ir.ref22_Walk.rs, go_sem, Nat.reduceAdd, Nat.reduceEqDiff, Nat.reduceMul, Nat.reduceLeDiff, Nat.reduceSub, Nat.reduceLT, ↓reduceIte, reduceCtorEq, List.reduceReplicate, List.flatten_cons, List.flatten_nil, List.append_nil, eq_self, Int.reduceLE, Int.reduceLT, Int.reduceToNat, Nat.min_eq_left, Int.reducePow, Int.reduceNeg, Int.reduceEq, e1, r0]
    refine callV_x (rlookup_spec (ht.pre hpp) dest) ?_
    rintro _ h4 ⟨hp4, rfl⟩
    simp (dsimp := false) only [↓ir.ref22_Walk.r0.w, ↓ir.ref22_Walk.r1.w, ↓ir.ref22_Walk.r2.w, ↓ir.ref22_Walk.r3.w, ↓ir.ref22_Walk.r4.w, ↓ir.ref22_Walk.r5.w, ↓ir.ref22_Walk.r6.w, ↓ir.ref22_Walk.r7.w, ↓ir.ref22_Walk.r8.w, ↓ir.ref22_Walk.r9.w, ↓ir.ref22_Walk.l1.w, ↓ir.ref22_Walk.r10.w, ir.ref22_Walk.rs, go_sem, Nat.reduceAdd, Nat.reduceEqDiff, Nat.reduceMul, Nat.reduceLeDiff, Nat.reduceSub, Nat.reduceLT, ↓reduceIte, reduceCtorEq, List.reduceReplicate, List.flatten_cons, List.flatten_nil, List.append_nil, eq_self, Int.reduceLE, Int.reduceLT, Int.reduceToNat, Nat.min_eq_left, Int.reducePow, Int.reduceNeg, Int.reduceEq]
    refine cVd (fun hc' => ?_) (fun hc' => ?_)
    · simp (dsimp := false) only [↓ir.ref22_Walk.r0.w, ↓ir.ref22_Walk.r1.w, ↓ir.ref22_Walk.r2.w, ↓ir.ref22_Walk.r3.w, ↓ir.ref22_Walk.r4.w, ↓ir.ref22_Walk.r5.w, ↓ir.ref22_Walk.r6.w, ↓ir.ref22_Walk.r7.w, ↓ir.ref22_Walk.r8.w, ↓ir.ref22_Walk.r9.w, ↓ir.ref22_Walk.l1.w, ↓ir.ref22_Walk.r10.w, ir.ref22_Walk.rs, go_sem, Nat.reduceAdd, Nat.reduceEqDiff, Nat.reduceMul, Nat.reduceLeDiff, Nat.reduceSub, Nat.reduceLT, ↓reduceIte, reduceCtorEq, List.reduceReplicate, List.flatten_cons, List.flatten_nil, List.append_nil, eq_self, Int.reduceLE, Int.reduceLT, Int.reduceToNat, Nat.min_eq_left, Int.reducePow, Int.reduceNeg, Int.reduceEq]
      refine ⟨hpp.trans hp4, a', w ++ [x], false, rfl, (ho'.snoc).pre hp4, ?_⟩
      rw [← hF, walkF, if_neg (by assumption), if_neg (by omega), hgd, if_pos hc']
    · simp (dsimp := false) only [↓ir.ref22_Walk.r0.w, ↓ir.ref22_Walk.r1.w, ↓ir.ref22_Walk.r2.w, ↓ir.ref22_Walk.r3.w, ↓ir.ref22_Walk.r4.w, ↓ir.ref22_Walk.r5.w, ↓ir.ref22_Walk.r6.w, ↓ir.ref22_Walk.r7.w, ↓ir.ref22_Walk.r8.w, ↓ir.ref22_Walk.r9.w, ↓ir.ref22_Walk.l1.w, ↓ir.ref22_Walk.r10.w, ir.ref22_Walk.rs, go_sem, Nat.reduceAdd, Nat.reduceEqDiff, Nat.reduceMul, Nat.reduceLeDiff, Nat.reduceSub, Nat.reduceLT, ↓reduceIte, reduceCtorEq, List.reduceReplicate, List.flatten_cons, List.flatten_nil, List.append_nil, eq_self, Int.reduceLE, Int.reduceLT, Int.reduceToNat, Nat.min_eq_left, Int.reducePow, Int.reduceNeg, Int.reduceEq, (show rds h4 (sb v) (so v + x.toNat * 1) 1 = some [tv] from rds_pre hp4 r0), e1]
      refine callV_x (rlookup_spec (ht.pre (hpp.trans hp4)) dest) ?_
      rintro _ h5 ⟨hp5, rfl⟩
      simp (dsimp := false) only [↓ir.ref22_Walk.r0.w, ↓ir.ref22_Walk.r1.w, ↓ir.ref22_Walk.r2.w, ↓ir.ref22_Walk.r3.w, ↓ir.ref22_Walk.r4.w, ↓ir.ref22_Walk.r5.w, ↓ir.ref22_Walk.r6.w, ↓ir.ref22_Walk.r7.w, ↓ir.ref22_Walk.r8.w, ↓ir.ref22_Walk.r9.w, ↓ir.ref22_Walk.l1.w, ↓ir.ref22_Walk.r10.w, ir.ref22_Walk.rs, go_sem, Nat.reduceAdd, Nat.reduceEqDiff, Nat.reduceMul, Nat.reduceLeDiff, Nat.reduceSub, Nat.reduceLT, ↓reduceIte, reduceCtorEq, List.reduceReplicate, List.flatten_cons, List.flatten_nil, List.append_nil, eq_self, Int.reduceLE, Int.reduceLT, Int.reduceToNat, Nat.min_eq_left, Int.reducePow, Int.reduceNeg, Int.reduceEq]
      have hs := hw.snoc (x := x) (by assumption) (by omega) (by omega)
      have hsl := hs.len
      refine ⟨T.length + 1 - (w ++ [x]).length, by simp; omega, a', w ++ [x], _, rfl, (hpp.trans hp4).trans hp5, (ho'.snoc).pre (hp4.trans hp5), hs, ?_, rfl⟩
      rw [← hF, walkF, if_neg (by assumption), if_neg (by omega), hgd, if_neg hc']
      congr 1
      simp at hsl ⊢; omega
end Go.Proofs.Ytmeojocmngbpaaa.B
