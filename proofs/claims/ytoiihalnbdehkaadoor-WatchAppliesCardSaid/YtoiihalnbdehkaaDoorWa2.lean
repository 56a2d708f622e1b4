/-
  Layer 34: hops copied, without a destination, and sorted.
-/
import Derived.Test.YtoiihalnbdehkaaDoorWa1
import Derived.Test.YtoiihalnbdehkaaDoorIr35
namespace Go.Proofs.YtoiihalnbdehkaaDoor.B
open Go
set_option linter.unusedVariables false
set_option linter.unusedSimpArgs false
theorem OwH.ofNil {h0 h : AHeap} : OwH h0 h nilS [] := .nil
theorem Sl.src {h : AHeap} {sz n : Nat} {v : Value} {cs : List Value} (k : Sl h sz v n cs) : appSrc h sz false v = some (n, cs) := by
  cases k with
  | nil => rfl
  | void => simp [appSrc]
  | row hl hr hc hb ho hm =>
    rename_i b off cap
    cases n with
    | zero =>
      obtain rfl := List.eq_nil_of_length_eq_zero (by simpa using hl)
      simp [appSrc]
    | succ k => rw [appSrc_slice, hr (by omega)]; rfl
theorem clone_spec {h : AHeap} {v : Value} {l : List HopR} (hv : Ls h 3 isHR v l) (hf : FitsR l) :
    SpecX Tryd.prog nG fn.slices_Clone_fib_Hop_fib_Hop [v] h fun v' h' => Pre h h' ∧ OwH h h' v' l := by
  refine SpecX.of_body (ir.slices_Clone_fib_Hop_fib_Hop.spec (Nat.le_of_ble_eq_true rfl)) ?_
  have hf2 : l.length * 24 ≤ 140737488351232 := hf
  obtain ⟨vs, hsl, hat⟩ := hv
  have hfl : vs = l.flatMap HopR.c := by
    have hlen := hsl.len
    have : ∀ (l : List HopR) (vs : List Value), vs.length = l.length * 3 → (∀ (i : Nat) (hi : i < l.length), isHR ((vs.drop (i * 3)).take 3) l[i]) → vs = l.flatMap HopR.c := by
      intro l
      induction l with
      | nil => intro vs h1 _; exact List.eq_nil_of_length_eq_zero (by simpa using h1)
      | cons x l ih =>
        intro vs h1 h2
        have e0 := h2 0 (by simp)
        rw [List.flatMap_cons, ← ih (vs.drop 3) (by simp at h1 ⊢; omega) fun i hi => by
          have := h2 (i + 1) (by simpa using hi)
          rw [List.drop_drop]
          rw [show 3 + i * 3 = (i + 1) * 3 by omega]
          simpa using this]
        have e1 : vs.take 3 = x.c := by simpa using e0
        rw [← e1, List.take_append_drop]
    exact this l vs hlen hat
  subst hfl
  have hsr : ∀ g, appSrc (h ++ g) 3 false v = some (l.length, l.flatMap HopR.c) := fun g => (hsl.pre (.app h g)).src
  have hnn : (v = nilS ∧ l = []) ∨ ∃ a n c, v = .slice (some a) n c := by
    clear hsr hat
    generalize hN : l.length = N at hsl
    generalize l.flatMap HopR.c = cs at hsl
    cases hsl with
    | nil => exact .inl ⟨rfl, List.eq_nil_of_length_eq_zero hN⟩
    | void => exact .inr ⟨_, _, _, rfl⟩
    | row => exact .inr ⟨_, _, _, rfl⟩
  rcases hnn with ⟨rfl, rfl⟩ | ⟨a, n, c, rfl⟩
  · simp (dsimp := false) only [↓ir.slices_Clone_fib_Hop_fib_Hop.bw, ir.slices_Clone_fib_Hop_fib_Hop.rs, go_sem, Nat.reduceAdd, Nat.reduceEqDiff, Nat.reduceMul, Nat.reduceLeDiff, Nat.reduceSub, Nat.reduceLT, ↓reduceIte, reduceCtorEq, List.reduceReplicate, List.flatten_cons, List.flatten_nil, List.append_nil, eq_self, Int.reduceLE, Int.reduceLT, Int.reduceToNat, Nat.min_eq_left, Int.reducePow, Int.reduceNeg, Int.reduceEq]
    exact .nil
  · have hsrc := hsr
    simp (dsimp := false) only [↓ir.slices_Clone_fib_Hop_fib_Hop.bw, ir.slices_Clone_fib_Hop_fib_Hop.rs, go_sem, Nat.reduceAdd, Nat.reduceEqDiff, Nat.reduceMul, Nat.reduceLeDiff, Nat.reduceSub, Nat.reduceLT, ↓reduceIte, reduceCtorEq, List.reduceReplicate, List.flatten_cons, List.flatten_nil, List.append_nil, eq_self, Int.reduceLE, Int.reduceLT, Int.reduceToNat, Nat.min_eq_left, Int.reducePow, Int.reduceNeg, Int.reduceEq, hsrc]
    have k0 : Ow h (h ++ [.row (.grow 3) []]) 3 (.slice (some ⟨h.length, 0, none⟩) 0 0) 0 [] := by
      have := Ow.row (h0 := h) (h := h ++ [.row (.grow 3) []]) (sz := 3) (b := h.length) (off := 0) (n := 0) (cap := 0) (cells := []) (Nat.le_refl _) (by simp) (by simp) (Nat.le_refl _) (by unfold maxI; omega)
      simpa using this
    refine k0.app (m := l.length) (flatMap_len hop_len l) (by
      rw [List.all_eq_true]
      intro x hx
      obtain ⟨y, _, hy⟩ := List.mem_flatMap.1 hx
      rcases List.mem_cons.1 hy with rfl | hy
      · rfl
      rcases List.mem_cons.1 hy with rfl | hy
      · rfl
      rcases List.mem_cons.1 hy with rfl | hy
      · rfl
      cases hy) ⟨by omega, by omega⟩ (fun u' h' ho' hc _ _ => ?_) (.app _ _)
    simp (dsimp := false) only [go_sem, Nat.reduceAdd, Nat.reduceEqDiff, Nat.reduceMul, Nat.reduceLeDiff, Nat.reduceSub, Nat.reduceLT, ↓reduceIte, reduceCtorEq, List.reduceReplicate, List.flatten_cons, List.flatten_nil, List.append_nil, eq_self, Int.reduceLE, Int.reduceLT, Int.reduceToNat, Nat.min_eq_left, Int.reducePow, Int.reduceNeg, Int.reduceEq]
    refine ⟨hc.pre (.app _ _), ?_⟩
    simpa using ho'
theorem apply1_spec {h : AHeap} {b : Nat} {d : Int} (r : rds h b 7 1 = some [.int .i64 d]) (x : HopR) : Spec Tryd.prog nG fn.watch_Apply_1 [.agg ⟨x.c⟩, .pointer (some ⟨b, 0, none⟩)] h (.bool (x.d == d)) h := by
  apply ir.watch_Apply_1.spec (Nat.le_of_ble_eq_true rfl)
  have r2 := fun g => rds_old r g
  simp (dsimp := false) only [↓ir.watch_Apply_1.bw, ir.watch_Apply_1.rs, go_sem, Nat.reduceAdd, Nat.reduceEqDiff, Nat.reduceMul, Nat.reduceLeDiff, Nat.reduceSub, Nat.reduceLT, ↓reduceIte, reduceCtorEq, List.reduceReplicate, List.flatten_cons, List.flatten_nil, List.append_nil, eq_self, Int.reduceLE, Int.reduceLT, Int.reduceToNat, Nat.min_eq_left, Int.reducePow, Int.reduceNeg, Int.reduceEq, r2]
  exact Fin.sc rfl rfl
theorem good_apply1 : goodFn Tryd.prog fn.watch_Apply_1 = true := by kernel_rfl
theorem good_apply2 : goodFn Tryd.prog fn.watch_Apply_2 = true := by kernel_rfl
theorem indexA_spec {h : AHeap} {v : Value} {l : List HopR} (hv : Ls h 3 isHR v l) {b : Nat} {d : Int} (r : rds h b 7 1 = some [.int .i64 d]) :
    SpecX Tryd.prog nG fn.slices_IndexFunc_fib_Hop_fib_Hop [v, .func (.func fn.watch_Apply_1) #[] #[.pointer (some ⟨b, 0, none⟩)]] h fun v' h' => h' = h ∧ ∃ i : Int, v' = .int .i64 i ∧ ((i = -1 ∧ ∀ j (hj : j < l.length), l[j].d ≠ d) ∨ ∃ (j : Nat) (hj : j < l.length), i = j ∧ l[j].d = d ∧ ∀ k (hk : k < j), l[k].d ≠ d) := by
  refine SpecX.of_body (ir.slices_IndexFunc_fib_Hop_fib_Hop.spec (Nat.le_of_ble_eq_true rfl)) ?_
  simp (dsimp := false) only [↓ir.slices_IndexFunc_fib_Hop_fib_Hop.bw, ir.slices_IndexFunc_fib_Hop_fib_Hop.rs, go_sem, Nat.reduceAdd, Nat.reduceEqDiff, Nat.reduceMul, Nat.reduceLeDiff, Nat.reduceSub, Nat.reduceLT, ↓reduceIte, reduceCtorEq, List.reduceReplicate, List.flatten_cons, List.flatten_nil, List.append_nil, eq_self, Int.reduceLE, Int.reduceLT, Int.reduceToNat, Nat.min_eq_left, Int.reducePow, Int.reduceNeg, Int.reduceEq, hv.lenV]
  refine loopV_of (fun m e h2 => ∃ i : Nat, m = l.length - i ∧ i ≤ l.length ∧ h2 = h ∧ (∀ j (hj : j < i) (hl : j < l.length), l[j].d ≠ d) ∧
    e = [(0, v), (1, .func (.func fn.watch_Apply_1) #[] #[.pointer (some ⟨b, 0, none⟩)]), (7, .int .i64 l.length), (8, .int .i64 i)]) _ ⟨0, rfl, Nat.zero_le _, rfl, fun j hj => absurd hj (Nat.not_lt_zero _), rfl⟩ ?_
  rintro m e h2 ⟨i, rfl, hi, rfl, hno, rfl⟩
  rcases Nat.lt_or_ge i l.length with hlt | hge
  · obtain ⟨_, _, t0, r0, r1⟩ := hv.rd2 (.refl _) hlt
    subst t0
    simp (dsimp := false) only [↓ir.slices_IndexFunc_fib_Hop_fib_Hop.l1.bw, go_sem, Nat.reduceAdd, Nat.reduceEqDiff, Nat.reduceMul, Nat.reduceLeDiff, Nat.reduceSub, Nat.reduceLT, ↓reduceIte, reduceCtorEq, List.reduceReplicate, List.flatten_cons, List.flatten_nil, List.append_nil, eq_self, Int.reduceLE, Int.reduceLT, Int.reduceToNat, Nat.min_eq_left, Int.reducePow, Int.reduceNeg, Int.reduceEq, Int.ofNat_lt, hlt, decide_true, hv.ixsN hlt, r0]
    refine ⟨good_apply1, ?_⟩
    refine callV_of (apply1_spec r _) ?_
    simp (dsimp := false) only [go_sem, Nat.reduceAdd, Nat.reduceEqDiff, Nat.reduceMul, Nat.reduceLeDiff, Nat.reduceSub, Nat.reduceLT, ↓reduceIte, reduceCtorEq, List.reduceReplicate, List.flatten_cons, List.flatten_nil, List.append_nil, eq_self, Int.reduceLE, Int.reduceLT, Int.reduceToNat, Nat.min_eq_left, Int.reducePow, Int.reduceNeg, Int.reduceEq]
    refine cVe (fun c => ?_) (fun c => ?_)
    · simp (dsimp := false) only [go_sem, Nat.reduceAdd, Nat.reduceEqDiff, Nat.reduceMul, Nat.reduceLeDiff, Nat.reduceSub, Nat.reduceLT, ↓reduceIte, reduceCtorEq, List.reduceReplicate, List.flatten_cons, List.flatten_nil, List.append_nil, eq_self, Int.reduceLE, Int.reduceLT, Int.reduceToNat, Nat.min_eq_left, Int.reducePow, Int.reduceNeg, Int.reduceEq]
      exact ⟨_, rfl, .inr ⟨i, hlt, rfl, c, fun j hj => hno j hj (by omega)⟩⟩
    · simp (dsimp := false) only [go_sem, Nat.reduceAdd, Nat.reduceEqDiff, Nat.reduceMul, Nat.reduceLeDiff, Nat.reduceSub, Nat.reduceLT, ↓reduceIte, reduceCtorEq, List.reduceReplicate, List.flatten_cons, List.flatten_nil, List.append_nil, eq_self, Int.reduceLE, Int.reduceLT, Int.reduceToNat, Nat.min_eq_left, Int.reducePow, Int.reduceNeg, Int.reduceEq, wrap_succ hlt hv.le]
      refine ⟨_, by omega, i + 1, rfl, by omega, fun j hj hl => ?_, rfl⟩
      rcases Nat.lt_or_ge j i with q | q
      · exact hno j q hl
      · obtain rfl : j = i := by omega
        exact c
  · simp (dsimp := false) only [↓ir.slices_IndexFunc_fib_Hop_fib_Hop.l1.bw, go_sem, Nat.reduceAdd, Nat.reduceEqDiff, Nat.reduceMul, Nat.reduceLeDiff, Nat.reduceSub, Nat.reduceLT, ↓reduceIte, reduceCtorEq, List.reduceReplicate, List.flatten_cons, List.flatten_nil, List.append_nil, eq_self, Int.reduceLE, Int.reduceLT, Int.reduceToNat, Nat.min_eq_left, Int.reducePow, Int.reduceNeg, Int.reduceEq, Int.ofNat_lt, show ¬ i < l.length by omega, decide_false]
    exact ⟨_, rfl, .inl ⟨rfl, fun j hj => hno j (by omega) hj⟩⟩
theorem delH_take_succ {l : List HopR} {j : Nat} (hj : j < l.length) (d : Int) : delH (l.take (j + 1)) d = delH (l.take j) d ++ if l[j].d = d then [] else [l[j]] := by
  unfold delH
  rw [List.take_succ_eq_append_getElem hj, List.filter_append]
  congr 1
  by_cases h : l[j].d = d
  · simp [h]
  · simp [h]
theorem delH_all {l : List HopR} {d : Int} (h : ∀ j (hj : j < l.length), l[j].d ≠ d) : delH l d = l := by
  unfold delH
  rw [List.filter_eq_self]
  intro x hx
  obtain ⟨j, hj, rfl⟩ := List.getElem_of_mem hx
  simpa using h j hj
theorem Ow.any {h0 h : AHeap} {sz n : Nat} {v : Value} {cs : List Value} (k : Ow h0 h sz v n cs) : Ls h sz (fun _ (_ : Unit) => True) v (List.replicate n ()) := ⟨cs, by rw [List.length_replicate]; exact k.sl, fun _ _ => trivial⟩
/-- The end of a row, cleared. -/
theorem Ow.clrTail {h0 h : AHeap} {v : Value} {n : Nat} {cs : List Value} (k : Ow h0 h 3 v n cs) {i : Nat} (hi : i < n) :
    ∃ o cs', (∀ (K : Value → AHeap → Prop) (u : Hold K), clrV 3 [.int .i64 0, .int .i64 0, .int .i64 0] (sliceFrom 3 i v) h K u = K undef (h.set (sb v) o)) ∧ Ow h0 (h.set (sb v) o) 3 v n cs' ∧ cs'.take (i * 3) = cs.take (i * 3) ∧ Chg h0 v h (h.set (sb v) o) := by
  have hlen := k.len
  have hz : ((List.replicate (n - i) [Value.int .i64 0, .int .i64 0, .int .i64 0]).flatten).length = (n - i) * 3 := by simp
  have hm : i * 3 + (n - i) * 3 = n * 3 := by omega
  obtain ⟨o, w1, w2, _⟩ := k.wr (off := i * 3) (vs := (List.replicate (n - i) [Value.int .i64 0, .int .i64 0, .int .i64 0]).flatten) (by omega) (by omega)
  have hp := k.place
  refine ⟨o, _, fun K u => ?_, w2, ?_, ?_⟩
  · cases k with
    | nil => omega
    | row hb hr hl hc hx =>
      rename_i b off cap cells
      simp only [sb, so] at w1
      unfold clrV sliceFrom
      obtain ⟨t, ht⟩ : ∃ t, n - i = t + 1 := ⟨n - i - 1, by omega⟩
      by_cases hcap : i < cap
      · simp only [hcap, if_true, ht] at w1 ⊢
        simp only [clrA]
        rw [if_pos (by decide), w1]; rfl
      · omega
  · rw [setC_eq (by omega), List.take_append_of_le_length (by simp; omega), List.take_take, Nat.min_self]
  · rcases hp with rfl | hp
    · cases k; omega
    · refine .set hp.1 ?_ o
      rintro rfl
      cases k; omega
theorem OwH.ne {h0 h : AHeap} {v : Value} {l : List HopR} (k : OwH h0 h v l) (hl : 0 < l.length) : v ≠ nilS := by
  rintro rfl
  cases l with
  | nil => simp at hl
  | cons a l => cases k
theorem delete_spec {h0 h : AHeap} {v : Value} {l : List HopR} (k : OwH h0 h v l) {b : Nat} {d : Int} {E : List Value} (f : Fx h b E) (he : (E.drop 7).take 1 = [.int .i64 d]) (hel : 8 ≤ E.length) :
    SpecX Tryd.prog nG fn.slices_DeleteFunc_fib_Hop_fib_Hop [v, .func (.func fn.watch_Apply_1) #[] #[.pointer (some ⟨b, 0, none⟩)]] h fun v' h' => Chg h0 v h h' ∧ OwH h0 h' v' (delH l d) ∧ (v' = nilS ∨ (sb v' = sb v ∧ v ≠ nilS)) := by
  refine SpecX.of_body (ir.slices_DeleteFunc_fib_Hop_fib_Hop.spec (Nat.le_of_ble_eq_true rfl)) ?_
  simp (dsimp := false) only [↓ir.slices_DeleteFunc_fib_Hop_fib_Hop.bw, ir.slices_DeleteFunc_fib_Hop_fib_Hop.rs, go_sem, Nat.reduceAdd, Nat.reduceEqDiff, Nat.reduceMul, Nat.reduceLeDiff, Nat.reduceSub, Nat.reduceLT, ↓reduceIte, reduceCtorEq, List.reduceReplicate, List.flatten_cons, List.flatten_nil, List.append_nil, eq_self, Int.reduceLE, Int.reduceLT, Int.reduceToNat, Nat.min_eq_left, Int.reducePow, Int.reduceNeg, Int.reduceEq]
  refine callV_x (indexA_spec k.ls (f.rd he (by omega))) ?_
  rintro _ h' ⟨eh, i, rfl, ⟨rfl, hno⟩ | ⟨j, hj, rfl, hd, hno⟩⟩ <;> subst h'
  · simp (dsimp := false) only [go_sem, Nat.reduceAdd, Nat.reduceEqDiff, Nat.reduceMul, Nat.reduceLeDiff, Nat.reduceSub, Nat.reduceLT, ↓reduceIte, reduceCtorEq, List.reduceReplicate, List.flatten_cons, List.flatten_nil, List.append_nil, eq_self, Int.reduceLE, Int.reduceLT, Int.reduceToNat, Nat.min_eq_left, Int.reducePow, Int.reduceNeg, Int.reduceEq, (show ((-1 : Int) == -1) = true from rfl)]
    refine ⟨.refl _ _ _, by rw [delH_all hno]; exact k, ?_⟩
    by_cases hv : v = nilS
    · exact .inl hv
    · first | exact .inr ⟨rfl, hv⟩ | exact .inr hv
  · have hvn := k.ne (by omega)
    have hp := k.place.resolve_left hvn
    have e0 : ((j : Int) == -1) = false := by first | (simp; done) | (simp; omega)
    have wj : IntKind.i64.wrap ((j : Int) + 1) = ((j + 1 : Nat) : Int) := wrap_succ hj k.ls.le
    simp (dsimp := false) only [go_sem, Nat.reduceAdd, Nat.reduceEqDiff, Nat.reduceMul, Nat.reduceLeDiff, Nat.reduceSub, Nat.reduceLT, ↓reduceIte, reduceCtorEq, List.reduceReplicate, List.flatten_cons, List.flatten_nil, List.append_nil, eq_self, Int.reduceLE, Int.reduceLT, Int.reduceToNat, Nat.min_eq_left, Int.reducePow, Int.reduceNeg, Int.reduceEq, e0, wj]
    refine loopV_of (fun m e h2 => ∃ (I J : Nat) (M : List HopR), m = l.length - J ∧ J ≤ l.length ∧ I < J ∧ M.length = l.length ∧ M.take I = delH (l.take J) d ∧ M.drop J = l.drop J ∧ Chg h0 v h h2 ∧ OwH h0 h2 v M ∧ Fx h2 b E ∧
      e = [(0, v), (1, .func (.func fn.watch_Apply_1) #[] #[.pointer (some ⟨b, 0, none⟩)]), (5, .int .i64 I), (6, .int .i64 J)]) _
      ⟨j, j + 1, l, rfl, hj, by omega, rfl, ?_, rfl, .refl _ _ _, k, f, rfl⟩ ?_
    · rw [delH_take_succ hj, if_pos hd, List.append_nil, delH_all]
      intro a ha
      simp only [List.length_take] at ha
      simp only [List.getElem_take]
      exact hno a (by omega)
    rintro m e h2 ⟨I, J, M, rfl, hJ, hIJ, hM, hMt, hMd, hc, km, fm, rfl⟩
    rcases Nat.lt_or_ge J l.length with hlt | hge
    · have hJM : J < M.length := by omega
      obtain ⟨_, _, t0, r0, r1⟩ := km.ls.rd2 (.refl _) hJM
      subst t0
      have hMJ : M[J] = l[J] := by
        have h1 := congrArg (fun x => x[0]?) hMd
        simp only [List.getElem?_drop, Nat.add_zero] at h1
        rw [List.getElem?_eq_getElem hJM, List.getElem?_eq_getElem hlt] at h1
        exact Option.some.inj h1
      have wJ : IntKind.i64.wrap ((J : Int) + 1) = ((J + 1 : Nat) : Int) := wrap_succ hlt k.ls.le
      have wI : IntKind.i64.wrap ((I : Int) + 1) = ((I + 1 : Nat) : Int) := wrap_succ (m := l.length) (by omega) k.ls.le
      have kb := km.pre (.app h2 [.row .fix M[J].c])
      have fb := fm.app [AObj.row .fix M[J].c]
      obtain ⟨o, w1, k1, c1, cells, ho⟩ := OwH.set kb (i := I) (by omega) M[J]
      have hlJ : (M.length : Int) = l.length := by omega
      have eJ : (J : Int) < (M.length : Int) := by omega
      simp (dsimp := false) only [↓ir.slices_DeleteFunc_fib_Hop_fib_Hop.l1.bw, go_sem, Nat.reduceAdd, Nat.reduceEqDiff, Nat.reduceMul, Nat.reduceLeDiff, Nat.reduceSub, Nat.reduceLT, ↓reduceIte, reduceCtorEq, List.reduceReplicate, List.flatten_cons, List.flatten_nil, List.append_nil, eq_self, Int.reduceLE, Int.reduceLT, Int.reduceToNat, Nat.min_eq_left, Int.reducePow, Int.reduceNeg, Int.reduceEq, km.ls.lenV, eJ, decide_true, km.ls.ixsN hJM, r0]
      refine ⟨good_apply1, ?_⟩
      refine callV_of (apply1_spec (fb.rd he (by omega)) _) ?_
      simp (dsimp := false) only [go_sem, Nat.reduceAdd, Nat.reduceEqDiff, Nat.reduceMul, Nat.reduceLeDiff, Nat.reduceSub, Nat.reduceLT, ↓reduceIte, reduceCtorEq, List.reduceReplicate, List.flatten_cons, List.flatten_nil, List.append_nil, eq_self, Int.reduceLE, Int.reduceLT, Int.reduceToNat, Nat.min_eq_left, Int.reducePow, Int.reduceNeg, Int.reduceEq]
      have tk := delH_take_succ hlt d
      by_cases hq : M[J].d = d
      · have hb : (M[J].d == d) = true := by simpa using hq
        rw [← hMJ, if_pos hq, List.append_nil] at tk
        simp (dsimp := false) only [go_sem, Nat.reduceAdd, Nat.reduceEqDiff, Nat.reduceMul, Nat.reduceLeDiff, Nat.reduceSub, Nat.reduceLT, ↓reduceIte, reduceCtorEq, List.reduceReplicate, List.flatten_cons, List.flatten_nil, List.append_nil, eq_self, Int.reduceLE, Int.reduceLT, Int.reduceToNat, Nat.min_eq_left, Int.reducePow, Int.reduceNeg, Int.reduceEq, hb, Bool.not_true, wJ]
        refine ⟨l.length - (J + 1), by omega, I, J + 1, M, rfl, hlt, by omega, hM, by rw [tk]; exact hMt, ?_, hc.trans (.ofPre _ (.app _ _)), kb, fb, rfl⟩
        rw [← List.drop_drop, ← List.drop_drop, hMd]
      · have hb : (M[J].d == d) = false := by simpa using hq
        rw [← hMJ, if_neg hq] at tk
        have f1 : Fx ((h2 ++ [AObj.row .fix M[J].c]).set (sb v) o) b E := fb.other (fun e => by
          have g := (kb.gr.resolve_left hvn).2.nfix fb
          exact g e.symm) o
        simp (dsimp := false) only [go_sem, Nat.reduceAdd, Nat.reduceEqDiff, Nat.reduceMul, Nat.reduceLeDiff, Nat.reduceSub, Nat.reduceLT, ↓reduceIte, reduceCtorEq, List.reduceReplicate, List.flatten_cons, List.flatten_nil, List.append_nil, eq_self, Int.reduceLE, Int.reduceLT, Int.reduceToNat, Nat.min_eq_left, Int.reducePow, Int.reduceNeg, Int.reduceEq, hb, Bool.not_false, wJ, wI, (OwH.ls kb).ixsN (show I < M.length by omega), w1]
        refine ⟨l.length - (J + 1), by omega, I + 1, J + 1, M.set I M[J], rfl, hlt, by omega, by simpa using hM, ?_, ?_, (hc.trans (.ofPre _ (.app _ _))).trans c1, k1, f1, rfl⟩
        · rw [tk, ← hMt, List.take_succ_eq_append_getElem (by simp; omega), List.take_set_of_le (Nat.le_refl _), List.getElem_set_self]
        · rw [List.drop_set_of_lt (by omega), ← List.drop_drop, ← List.drop_drop, hMd]
    · obtain rfl : J = l.length := by omega
      have eJ : ¬ (l.length : Int) < (M.length : Int) := by omega
      have hI : I < M.length := by omega
      obtain ⟨o, cs', q1, q2, q3, q4⟩ := km.clrTail hI
      have a1 := fun (K : Value → AHeap → Prop) (u : Hold K) => km.ls.slFrom (K := K) (u := u) (m := (I : Int)) (by omega) (by omega) (by omega) (.refl h2)
      have hln : 0 < (List.replicate M.length ()).length := by simp; omega
      have a2 := fun (K : Value → AHeap → Prop) (u : Hold K) => q2.any.slToI (K := K) (u := u) (m := (I : Int)) (by omega) (by simp; omega) hln (.refl (h2.set (sb v) o))
      simp only [Int.toNat_natCast] at a1 a2
      simp (dsimp := false) only [↓ir.slices_DeleteFunc_fib_Hop_fib_Hop.l1.bw, go_sem, Nat.reduceAdd, Nat.reduceEqDiff, Nat.reduceMul, Nat.reduceLeDiff, Nat.reduceSub, Nat.reduceLT, ↓reduceIte, reduceCtorEq, List.reduceReplicate, List.flatten_cons, List.flatten_nil, List.append_nil, eq_self, Int.reduceLE, Int.reduceLT, Int.reduceToNat, Nat.min_eq_left, Int.reducePow, Int.reduceNeg, Int.reduceEq, km.ls.lenV, eJ, decide_false, a1, q1, a2]
      obtain ⟨k3, s3⟩ := q2.front (m := I) (by omega)
      refine ⟨hc.trans q4, ?_, .inr ⟨s3, hvn⟩⟩
      rw [List.take_length] at hMt
      rw [q3] at k3
      have : (M.flatMap HopR.c).take (I * 3) = (M.take I).flatMap HopR.c := by
        have h1 := flatMap_len hop_len (M.take I)
        rw [List.length_take, Nat.min_eq_left (by omega)] at h1
        conv => lhs; rw [← List.take_append_drop I M, List.flatMap_append]
        rw [List.take_left' h1]
      rw [this, hMt] at k3
      have hl3 : (delH l d).length = I := by rw [← hMt]; simp; omega
      unfold OwH
      rw [hl3]
      exact k3
end Go.Proofs.YtoiihalnbdehkaaDoor.B
/-
  Layer 34: hops sorted by insertion.
-/
namespace Go.Proofs.YtoiihalnbdehkaaDoor.B
open Go
set_option linter.unusedVariables false
set_option linter.unusedSimpArgs false
def cmpI (a b : Int) : Int := if a < b then -1 else if b < a then 1 else 0
theorem wcmp_spec (h : AHeap) (a b : Int) : Spec Tryd.prog nG fn.watch_cmp_int [.int .i64 a, .int .i64 b] h (.int .i64 (cmpI a b)) h := by
  apply ir.watch_cmp_int.spec (Nat.le_of_ble_eq_true rfl)
  simp (dsimp := false) only [↓ir.watch_cmp_int.bw, ir.watch_cmp_int.rs, go_sem, Nat.reduceAdd, Nat.reduceEqDiff, Nat.reduceMul, Nat.reduceLeDiff, Nat.reduceSub, Nat.reduceLT, ↓reduceIte, reduceCtorEq, List.reduceReplicate, List.flatten_cons, List.flatten_nil, List.append_nil, eq_self, Int.reduceLE, Int.reduceLT, Int.reduceToNat, Nat.min_eq_left, Int.reducePow, Int.reduceNeg, Int.reduceEq]
  refine cVd (fun c => ?_) (fun c => ?_)
  · simp (dsimp := false) only [go_sem, Nat.reduceAdd, Nat.reduceEqDiff, Nat.reduceMul, Nat.reduceLeDiff, Nat.reduceSub, Nat.reduceLT, ↓reduceIte, reduceCtorEq, List.reduceReplicate, List.flatten_cons, List.flatten_nil, List.append_nil, eq_self, Int.reduceLE, Int.reduceLT, Int.reduceToNat, Nat.min_eq_left, Int.reducePow, Int.reduceNeg, Int.reduceEq]
    rw [show cmpI a b = -1 from if_pos c]
    first | exact Fin.sc rfl rfl | exact .inl ⟨rfl, rfl⟩
  · simp (dsimp := false) only [go_sem, Nat.reduceAdd, Nat.reduceEqDiff, Nat.reduceMul, Nat.reduceLeDiff, Nat.reduceSub, Nat.reduceLT, ↓reduceIte, reduceCtorEq, List.reduceReplicate, List.flatten_cons, List.flatten_nil, List.append_nil, eq_self, Int.reduceLE, Int.reduceLT, Int.reduceToNat, Nat.min_eq_left, Int.reducePow, Int.reduceNeg, Int.reduceEq, gt_iff_lt]
    refine cVd (fun c2 => ?_) (fun c2 => ?_)
    · simp (dsimp := false) only [go_sem, Nat.reduceAdd, Nat.reduceEqDiff, Nat.reduceMul, Nat.reduceLeDiff, Nat.reduceSub, Nat.reduceLT, ↓reduceIte, reduceCtorEq, List.reduceReplicate, List.flatten_cons, List.flatten_nil, List.append_nil, eq_self, Int.reduceLE, Int.reduceLT, Int.reduceToNat, Nat.min_eq_left, Int.reducePow, Int.reduceNeg, Int.reduceEq]
      rw [show cmpI a b = 1 by unfold cmpI; rw [if_neg c, if_pos c2]]
      first | exact Fin.sc rfl rfl | exact .inl ⟨rfl, rfl⟩
    · simp (dsimp := false) only [go_sem, Nat.reduceAdd, Nat.reduceEqDiff, Nat.reduceMul, Nat.reduceLeDiff, Nat.reduceSub, Nat.reduceLT, ↓reduceIte, reduceCtorEq, List.reduceReplicate, List.flatten_cons, List.flatten_nil, List.append_nil, eq_self, Int.reduceLE, Int.reduceLT, Int.reduceToNat, Nat.min_eq_left, Int.reducePow, Int.reduceNeg, Int.reduceEq]
      rw [show cmpI a b = 0 by unfold cmpI; rw [if_neg c, if_neg c2]]
      first | exact Fin.sc rfl rfl | exact .inl ⟨rfl, rfl⟩
theorem apply2_spec (h : AHeap) (x y : HopR) : Spec Tryd.prog nG fn.watch_Apply_2 [.agg ⟨x.c⟩, .agg ⟨y.c⟩] h (.int .i64 (cmpI x.d y.d)) h := by
  apply ir.watch_Apply_2.spec (Nat.le_of_ble_eq_true rfl)
  simp (dsimp := false) only [↓ir.watch_Apply_2.bw, ir.watch_Apply_2.rs, go_sem, Nat.reduceAdd, Nat.reduceEqDiff, Nat.reduceMul, Nat.reduceLeDiff, Nat.reduceSub, Nat.reduceLT, ↓reduceIte, reduceCtorEq, List.reduceReplicate, List.flatten_cons, List.flatten_nil, List.append_nil, eq_self, Int.reduceLE, Int.reduceLT, Int.reduceToNat, Nat.min_eq_left, Int.reducePow, Int.reduceNeg, Int.reduceEq]
  refine callV_of (wcmp_spec _ _ _) ?_
  simp (dsimp := false) only [go_sem, Nat.reduceAdd, Nat.reduceEqDiff, Nat.reduceMul, Nat.reduceLeDiff, Nat.reduceSub, Nat.reduceLT, ↓reduceIte, reduceCtorEq, List.reduceReplicate, List.flatten_cons, List.flatten_nil, List.append_nil, eq_self, Int.reduceLE, Int.reduceLT, Int.reduceToNat, Nat.min_eq_left, Int.reducePow, Int.reduceNeg, Int.reduceEq]
  exact Fin.sc rfl rfl
theorem cmp_lt (a b : Int) : decide (cmpI a b < 0) = decide (a < b) := by
  unfold cmpI
  split
  · rename_i h; simp [h]
  · rename_i h
    rw [decide_eq_false h]
    split <;> decide
/-- The destination at a place. -/
def dAt (l : List HopR) (i : Nat) : Int := (l.getD i ⟨0, 0, 0⟩).d
theorem dAt_lt {l : List HopR} {i : Nat} (hi : i < l.length) : dAt l i = l[i].d := by
  unfold dAt; rw [List.getD_eq_getElem?_getD, List.getElem?_eq_getElem hi]; rfl
def swapH (l : List HopR) (j : Nat) (hj : j < l.length) (hk : j - 1 < l.length) : List HopR := (l.set j l[j - 1]).set (j - 1) l[j]
theorem swap_perm {l : List HopR} {j : Nat} (hj : j < l.length) (hk : j - 1 < l.length) : (swapH l j hj hk).Perm l := List.set_set_perm hj hk
theorem dAt_swap {l : List HopR} {j : Nat} (hj : j < l.length) (hk : j - 1 < l.length) (h0 : 0 < j) (p : Nat) : dAt (swapH l j hj hk) p = if p = j then dAt l (j - 1) else if p = j - 1 then dAt l j else dAt l p := by
  unfold dAt swapH
  simp only [List.getD_eq_getElem?_getD, List.getElem?_set, List.length_set]
  by_cases h1 : p = j
  · subst h1
    rw [if_pos rfl, if_neg (by omega), if_pos rfl, if_pos hj, List.getElem?_eq_getElem hk]
  · rw [if_neg h1]
    by_cases h2 : p = j - 1
    · subst h2
      rw [if_pos rfl, if_pos rfl, if_pos hk, List.getElem?_eq_getElem hj]
    · rw [if_neg h2, if_neg (fun e => h2 e.symm), if_neg (fun e => h1 e.symm)]
/-- Sorted up to a place; but for one place. -/
def SortTo (l : List HopR) (n : Nat) : Prop := ∀ p q, p < q → q < n → dAt l p ≤ dAt l q
def SortBut (l : List HopR) (j n : Nat) : Prop := (∀ p q, p < q → q < n → p ≠ j → q ≠ j → dAt l p ≤ dAt l q) ∧ ∀ q, j < q → q < n → dAt l j ≤ dAt l q
theorem SortTo.start {l : List HopR} {i : Nat} (k : SortTo l i) : SortBut l i (i + 1) := ⟨fun p q h1 h2 h3 h4 => k p q h1 (by omega), fun q h1 h2 => by omega⟩
theorem SortBut.fin {l : List HopR} {j n : Nat} (k : SortBut l j n) (h : j = 0 ∨ dAt l (j - 1) ≤ dAt l j) : SortTo l n := by
  intro p q h1 h2
  by_cases e1 : p = j
  · subst e1; exact k.2 q h1 h2
  · by_cases e2 : q = j
    · subst e2
      rcases h with h | h
      · omega
      · rcases Nat.lt_or_ge p (q - 1) with z | z
        · have := k.1 p (q - 1) z (by omega) e1 (by omega)
          omega
        · obtain rfl : p = q - 1 := by omega
          exact h
    · exact k.1 p q h1 h2 e1 e2
theorem SortBut.step {l : List HopR} {j n : Nat} (hj : j < l.length) (hk : j - 1 < l.length) (h0 : 0 < j) (hn : j < n) (k : SortBut l j n) (h : dAt l j < dAt l (j - 1)) : SortBut (swapH l j hj hk) (j - 1) n := by
  refine ⟨fun p q h1 h2 h3 h4 => ?_, fun q h1 h2 => ?_⟩
  · rw [dAt_swap hj hk h0, dAt_swap hj hk h0, if_neg h3, if_neg h4]
    by_cases e1 : p = j
    · subst e1
      rw [if_pos rfl, if_neg (by omega)]
      exact k.1 (p - 1) q (by omega) h2 (by omega) (by omega)
    · rw [if_neg e1]
      by_cases e2 : q = j
      · subst e2
        rw [if_pos rfl]
        exact k.1 p (q - 1) (by omega) (by omega) e1 (by omega)
      · rw [if_neg e2]
        exact k.1 p q h1 h2 e1 e2
  · rw [dAt_swap hj hk h0, dAt_swap hj hk h0, if_neg (by omega), if_pos rfl, if_neg (show ¬ q = j - 1 by omega)]
    by_cases e2 : q = j
    · rw [if_pos e2]; omega
    · rw [if_neg e2]
      exact k.2 q (by omega) h2
theorem SortTo.pw {l : List HopR} (k : SortTo l l.length) : l.Pairwise fun a b => a.d ≤ b.d := by
  rw [List.pairwise_iff_getElem]
  intro i j hi hj hij
  have := k i j hij hj
  rwa [dAt_lt hi, dAt_lt hj] at this
theorem isort_spec {h0 h : AHeap} {v : Value} {l : List HopR} (k : OwH h0 h v l) :
    SpecX Tryd.prog nG fn.slices_insertionSortCmpFunc_fib_Hop [v, .int .i64 0, .int .i64 l.length, .func (.func fn.watch_Apply_2) #[] #[]] h fun _ h' => Chg h0 v h h' ∧ ∃ m, OwH h0 h' v m ∧ m.Perm l ∧ m.Pairwise fun a b => a.d ≤ b.d := by
  refine SpecX.of_body (ir.slices_insertionSortCmpFunc_fib_Hop.spec (Nat.le_of_ble_eq_true rfl)) ?_
  have hle := k.ls.le
  simp (dsimp := false) only [↓ir.slices_insertionSortCmpFunc_fib_Hop.bw, ir.slices_insertionSortCmpFunc_fib_Hop.rs, go_sem, Nat.reduceAdd, Nat.reduceEqDiff, Nat.reduceMul, Nat.reduceLeDiff, Nat.reduceSub, Nat.reduceLT, ↓reduceIte, reduceCtorEq, List.reduceReplicate, List.flatten_cons, List.flatten_nil, List.append_nil, eq_self, Int.reduceLE, Int.reduceLT, Int.reduceToNat, Nat.min_eq_left, Int.reducePow, Int.reduceNeg, Int.reduceEq, (show IntKind.i64.wrap (0 + 1) = ((1 : Nat) : Int) from rfl)]
  refine loopV_of (fun m e h2 => ∃ (i : Nat) (M : List HopR), m = l.length + 1 - i ∧ 1 ≤ i ∧ M.Perm l ∧ SortTo M (min i M.length) ∧ Chg h0 v h h2 ∧ OwH h0 h2 v M ∧
    e = [(0, v), (1, .int .i64 0), (2, .int .i64 l.length), (3, .func (.func fn.watch_Apply_2) #[] #[]), (8, .int .i64 i)]) _
    ⟨1, l, rfl, Nat.le_refl _, .refl _, fun p q h1 h2 => by omega, .refl _ _ _, k, rfl⟩ ?_
  rintro m e h2 ⟨i, M, rfl, hi, hp, hs, hc, km, rfl⟩
  have hM : M.length = l.length := hp.length_eq
  rcases Nat.lt_or_ge i l.length with hlt | hge
  · have wi : IntKind.i64.wrap ((i : Int) + 1) = ((i + 1 : Nat) : Int) := wrap_succ hlt hle
    simp (dsimp := false) only [↓ir.slices_insertionSortCmpFunc_fib_Hop.l2.bw, go_sem, Nat.reduceAdd, Nat.reduceEqDiff, Nat.reduceMul, Nat.reduceLeDiff, Nat.reduceSub, Nat.reduceLT, ↓reduceIte, reduceCtorEq, List.reduceReplicate, List.flatten_cons, List.flatten_nil, List.append_nil, eq_self, Int.reduceLE, Int.reduceLT, Int.reduceToNat, Nat.min_eq_left, Int.reducePow, Int.reduceNeg, Int.reduceEq, Int.ofNat_lt, hlt, decide_true]
    rw [Nat.min_eq_left (by omega)] at hs
    refine loopV_of (fun m e h3 => ∃ (j : Nat) (M : List HopR), m = j ∧ j ≤ i ∧ M.Perm l ∧ SortBut M j (i + 1) ∧ Chg h0 v h h3 ∧ OwH h0 h3 v M ∧
      e = [(0, v), (1, .int .i64 0), (2, .int .i64 l.length), (3, .func (.func fn.watch_Apply_2) #[] #[]), (8, .int .i64 i), (9, .int .i64 j)]) _
      ⟨i, M, rfl, Nat.le_refl _, hp, hs.start, hc, km, rfl⟩ ?_
    clear hs hp hM km hc
    clear M
    rintro m e h3 ⟨j, M, rfl, hji, hp, hs, hc, km, rfl⟩
    have hM : M.length = l.length := hp.length_eq
    have done : SortTo M (i + 1) → ∃ m', m' < l.length + 1 - i ∧ ∃ (i' : Nat) (M' : List HopR), m' = l.length + 1 - i' ∧ 1 ≤ i' ∧ M'.Perm l ∧ SortTo M' (min i' M'.length) ∧ Chg h0 v h h3 ∧ OwH h0 h3 v M' ∧
        [(0, v), (1, Value.int .i64 0), (2, .int .i64 l.length), (3, .func (.func fn.watch_Apply_2) #[] #[]), (8, .int .i64 ((i + 1 : Nat) : Int))] = [(0, v), (1, .int .i64 0), (2, .int .i64 l.length), (3, .func (.func fn.watch_Apply_2) #[] #[]), (8, .int .i64 (i' : Int))] := fun q =>
      ⟨l.length + 1 - (i + 1), by omega, i + 1, M, rfl, by omega, hp, by rw [Nat.min_eq_left (by omega)]; exact q, hc, km, rfl⟩
    rcases Nat.eq_zero_or_pos m with rfl | hpos
    · have e0 : ¬ (0 : Int) < ((0 : Nat) : Int) := by omega
      simp (dsimp := false) only [↓ir.slices_insertionSortCmpFunc_fib_Hop.l1.bw, go_sem, Nat.reduceAdd, Nat.reduceEqDiff, Nat.reduceMul, Nat.reduceLeDiff, Nat.reduceSub, Nat.reduceLT, ↓reduceIte, reduceCtorEq, List.reduceReplicate, List.flatten_cons, List.flatten_nil, List.append_nil, eq_self, Int.reduceLE, Int.reduceLT, Int.reduceToNat, Nat.min_eq_left, Int.reducePow, Int.reduceNeg, Int.reduceEq, gt_iff_lt, e0, decide_false, wi]
      exact done (hs.fin (.inl rfl))
    · have e0 : (0 : Int) < (m : Int) := by omega
      have hj : m < M.length := by omega
      have hk : m - 1 < M.length := by omega
      have wj : IntKind.i64.wrap ((m : Int) - 1) = ((m - 1 : Nat) : Int) := by rw [wrap_i64 (by unfold maxI at hle; omega)]; omega
      obtain ⟨_, _, t0, r0, r1⟩ := km.ls.rd2 (.refl _) hj
      subst t0
      obtain ⟨_, _, t0, s0, s1⟩ := km.ls.rd2 (.refl _) hk
      subst t0
      simp (dsimp := false) only [↓ir.slices_insertionSortCmpFunc_fib_Hop.l1.bw, go_sem, Nat.reduceAdd, Nat.reduceEqDiff, Nat.reduceMul, Nat.reduceLeDiff, Nat.reduceSub, Nat.reduceLT, ↓reduceIte, reduceCtorEq, List.reduceReplicate, List.flatten_cons, List.flatten_nil, List.append_nil, eq_self, Int.reduceLE, Int.reduceLT, Int.reduceToNat, Nat.min_eq_left, Int.reducePow, Int.reduceNeg, Int.reduceEq, gt_iff_lt, e0, decide_true, wj, km.ls.ixsN hj, km.ls.ixsN hk, r0, s0, r1, s1]
      refine ⟨good_apply2, ?_⟩
      refine callV_of (apply2_spec h3 M[m] M[m - 1]) ⟨.refl _, ?_⟩
      simp (dsimp := false) only [go_sem, Nat.reduceAdd, Nat.reduceEqDiff, Nat.reduceMul, Nat.reduceLeDiff, Nat.reduceSub, Nat.reduceLT, ↓reduceIte, reduceCtorEq, List.reduceReplicate, List.flatten_cons, List.flatten_nil, List.append_nil, eq_self, Int.reduceLE, Int.reduceLT, Int.reduceToNat, Nat.min_eq_left, Int.reducePow, Int.reduceNeg, Int.reduceEq, cmp_lt]
      refine cVd (fun c => ?_) (fun c => ?_)
      · obtain ⟨o1, w1, k1, c1, _⟩ := OwH.set km hj M[m - 1]
        have hk2 : m - 1 < (M.set m M[m - 1]).length := by simp; omega
        obtain ⟨o2, w2, k2, c2, _⟩ := OwH.set k1 hk2 M[m]
        simp (dsimp := false) only [go_sem, Nat.reduceAdd, Nat.reduceEqDiff, Nat.reduceMul, Nat.reduceLeDiff, Nat.reduceSub, Nat.reduceLT, ↓reduceIte, reduceCtorEq, List.reduceReplicate, List.flatten_cons, List.flatten_nil, List.append_nil, eq_self, Int.reduceLE, Int.reduceLT, Int.reduceToNat, Nat.min_eq_left, Int.reducePow, Int.reduceNeg, Int.reduceEq, wj, km.ls.ixsN hj, km.ls.ixsN hk, r0, s0, r1, s1, w1, w2]
        exact ⟨m - 1, by omega, m - 1, swapH M m hj hk, rfl, by omega, (swap_perm hj hk).trans hp, hs.step hj hk hpos (by omega) (by rw [dAt_lt hj, dAt_lt hk]; exact c), (hc.trans c1).trans c2, k2, rfl⟩
      · simp (dsimp := false) only [go_sem, Nat.reduceAdd, Nat.reduceEqDiff, Nat.reduceMul, Nat.reduceLeDiff, Nat.reduceSub, Nat.reduceLT, ↓reduceIte, reduceCtorEq, List.reduceReplicate, List.flatten_cons, List.flatten_nil, List.append_nil, eq_self, Int.reduceLE, Int.reduceLT, Int.reduceToNat, Nat.min_eq_left, Int.reducePow, Int.reduceNeg, Int.reduceEq, wi]
        exact done (hs.fin (.inr (by rw [dAt_lt hj, dAt_lt hk]; omega)))
  · simp (dsimp := false) only [↓ir.slices_insertionSortCmpFunc_fib_Hop.l2.bw, go_sem, Nat.reduceAdd, Nat.reduceEqDiff, Nat.reduceMul, Nat.reduceLeDiff, Nat.reduceSub, Nat.reduceLT, ↓reduceIte, reduceCtorEq, List.reduceReplicate, List.flatten_cons, List.flatten_nil, List.append_nil, eq_self, Int.reduceLE, Int.reduceLT, Int.reduceToNat, Nat.min_eq_left, Int.reducePow, Int.reduceNeg, Int.reduceEq, Int.ofNat_lt, show ¬ i < l.length by omega, decide_false]
    rw [Nat.min_eq_right (by omega)] at hs
    exact ⟨hc, M, km, hp, hs.pw⟩
theorem sort_spec {h0 h : AHeap} {v : Value} {l : List HopR} (k : OwH h0 h v l) (hl : l.length ≤ 19) :
    SpecX Tryd.prog nG fn.slices_SortStableFunc_fib_Hop_fib_Hop [v, .func (.func fn.watch_Apply_2) #[] #[]] h fun _ h' => Chg h0 v h h' ∧ ∃ m, OwH h0 h' v m ∧ m.Perm l ∧ m.Pairwise fun a b => a.d ≤ b.d := by
  refine SpecX.of_body (ir.slices_SortStableFunc_fib_Hop_fib_Hop.spec (Nat.le_of_ble_eq_true rfl)) ?_
  simp (dsimp := false) only [↓ir.slices_SortStableFunc_fib_Hop_fib_Hop.bw, ir.slices_SortStableFunc_fib_Hop_fib_Hop.rs, go_sem, Nat.reduceAdd, Nat.reduceEqDiff, Nat.reduceMul, Nat.reduceLeDiff, Nat.reduceSub, Nat.reduceLT, ↓reduceIte, reduceCtorEq, List.reduceReplicate, List.flatten_cons, List.flatten_nil, List.append_nil, eq_self, Int.reduceLE, Int.reduceLT, Int.reduceToNat, Nat.min_eq_left, Int.reducePow, Int.reduceNeg, Int.reduceEq, k.ls.lenV]
  suffices H : SpecX Tryd.prog nG fn.slices_stableCmpFunc_fib_Hop [v, .int .i64 l.length, .func (.func fn.watch_Apply_2) #[] #[]] h fun _ h' => Chg h0 v h h' ∧ ∃ m, OwH h0 h' v m ∧ m.Perm l ∧ m.Pairwise fun a b => a.d ≤ b.d by
    refine callV_x H ?_
    rintro w h' hq
    simp (dsimp := false) only [go_sem, Nat.reduceAdd, Nat.reduceEqDiff, Nat.reduceMul, Nat.reduceLeDiff, Nat.reduceSub, Nat.reduceLT, ↓reduceIte, reduceCtorEq, List.reduceReplicate, List.flatten_cons, List.flatten_nil, List.append_nil, eq_self, Int.reduceLE, Int.reduceLT, Int.reduceToNat, Nat.min_eq_left, Int.reducePow, Int.reduceNeg, Int.reduceEq]
    exact hq
  refine SpecX.of_body (ir.slices_stableCmpFunc_fib_Hop.spec (Nat.le_of_ble_eq_true rfl)) ?_
  simp (dsimp := false) only [↓ir.slices_stableCmpFunc_fib_Hop.bw, ir.slices_stableCmpFunc_fib_Hop.rs, go_sem, Nat.reduceAdd, Nat.reduceEqDiff, Nat.reduceMul, Nat.reduceLeDiff, Nat.reduceSub, Nat.reduceLT, ↓reduceIte, reduceCtorEq, List.reduceReplicate, List.flatten_cons, List.flatten_nil, List.append_nil, eq_self, Int.reduceLE, Int.reduceLT, Int.reduceToNat, Nat.min_eq_left, Int.reducePow, Int.reduceNeg, Int.reduceEq]
  refine loopV_of (fun m e h2 => m = 0 ∧ h2 = h ∧ e = [(0, v), (1, .int .i64 l.length), (2, .func (.func fn.watch_Apply_2) #[] #[]), (6, .int .i64 20), (7, .int .i64 0), (8, .int .i64 20)]) _ ⟨rfl, rfl, rfl⟩ ?_
  rintro m e h2 ⟨rfl, rfl, rfl⟩
  have e0 : ¬ (20 : Int) ≤ (l.length : Int) := by omega
  simp (dsimp := false) only [↓ir.slices_stableCmpFunc_fib_Hop.l1.bw, go_sem, Nat.reduceAdd, Nat.reduceEqDiff, Nat.reduceMul, Nat.reduceLeDiff, Nat.reduceSub, Nat.reduceLT, ↓reduceIte, reduceCtorEq, List.reduceReplicate, List.flatten_cons, List.flatten_nil, List.append_nil, eq_self, Int.reduceLE, Int.reduceLT, Int.reduceToNat, Nat.min_eq_left, Int.reducePow, Int.reduceNeg, Int.reduceEq, e0, decide_false]
  refine callV_x (isort_spec k) ?_
  rintro w h' hq
  simp (dsimp := false) only [go_sem, Nat.reduceAdd, Nat.reduceEqDiff, Nat.reduceMul, Nat.reduceLeDiff, Nat.reduceSub, Nat.reduceLT, ↓reduceIte, reduceCtorEq, List.reduceReplicate, List.flatten_cons, List.flatten_nil, List.append_nil, eq_self, Int.reduceLE, Int.reduceLT, Int.reduceToNat, Nat.min_eq_left, Int.reducePow, Int.reduceNeg, Int.reduceEq]
  refine loopV_of (fun m e h2 => m = 0 ∧ h2 = h' ∧ e = [(0, v), (1, .int .i64 l.length), (2, .func (.func fn.watch_Apply_2) #[] #[]), (6, .int .i64 20)]) _ ⟨rfl, rfl, rfl⟩ ?_
  rintro m e h2 ⟨rfl, rfl, rfl⟩
  have e1 : ¬ (20 : Int) < (l.length : Int) := by omega
  simp (dsimp := false) only [↓ir.slices_stableCmpFunc_fib_Hop.l3.bw, go_sem, Nat.reduceAdd, Nat.reduceEqDiff, Nat.reduceMul, Nat.reduceLeDiff, Nat.reduceSub, Nat.reduceLT, ↓reduceIte, reduceCtorEq, List.reduceReplicate, List.flatten_cons, List.flatten_nil, List.append_nil, eq_self, Int.reduceLE, Int.reduceLT, Int.reduceToNat, Nat.min_eq_left, Int.reducePow, Int.reduceNeg, Int.reduceEq, e1, decide_false]
  exact hq
end Go.Proofs.YtoiihalnbdehkaaDoor.B
/-
  Layer 34: a view behind what happened: the first loop, and the state of the second.
-/
namespace Go.Proofs.YtoiihalnbdehkaaDoor.B
open Go
set_option linter.unusedVariables false
set_option linter.unusedSimpArgs false
theorem Ow.chg {h0 h h' : AHeap} {u v : Value} {sz n : Nat} {cs : List Value} (k : Ow h0 h sz v n cs) (hc : Chg h0 u h h') (hne : v = nilS ∨ u = nilS ∨ sb v ≠ sb u) : Ow h0 h' sz v n cs := by
  rcases k.place with q | q
  · subst q
    cases k
    exact .nil
  · rcases hne with z | z | z
    · subst z
      cases k
      exact .nil
    · exact k.pre (hc.2 z)
    · exact k.frame (hc.1.2 _ q.2 fun e => absurd e z)
theorem Out.snoc {h0 h : AHeap} {u : Value} {L : List (NodeR × Value)} (k : Out h0 h u L) (hp : Pre h0 h) {hx hb : AHeap} (px : Pre h hx) {x : NodeR} {tv : Value} (ho : OwH hb hx tv x.hops) (hbl : h.length ≤ hb.length) {bytes : Nat} (hroom : room (L.length + 1) bytes)
    {K : Value → AHeap → Prop} {uu : Hold K} (hk : ∀ u' h', Out h0 h' u' (L ++ [(x, tv)]) → Pre h0 h' → Chg h0 u hx h' → K u' h') : appV 7 bytes u (some (1, encP (x, tv))) hx K uu := by
  have hul := k.row.place
  have hpl := ho.place
  have h1 : (encP (x, tv)).all B.oneA = true := by
    simp only [encP, NodeR.c, List.all_cons, List.all_nil, ho.sl.oneA, Bool.and_true]; rfl
  refine (k.row.pre px).app (m := 1) rfl h1 hroom (fun u' h' a' hbut hsb _ => ?_) (hp.trans px)
  have hcase := hsb (by omega)
  have hpxl := px.len
  have ho' : OwH h0 hx tv x.hops := Ow.old (by have := hp.len; omega) ho
  refine hk u' h' ⟨by rw [List.flatMap_append, List.length_append]; simpa using a', fun i hi => ?_, fun i j hi hj hij => ?_⟩ (hbut.pre (hp.trans px)) hbut
  · by_cases hiT : i < L.length
    · rw [List.getElem_append_left hiT]
      obtain ⟨q1, q2⟩ := k.own i hiT
      have hpi := q1.place
      refine ⟨(q1.pre px).chg hbut (q2.imp id fun z => .inr z), ?_⟩
      rcases q2 with z | z
      · exact .inl z
      · rcases hpi with y | y
        · exact .inl y
        · refine .inr ?_
          rcases hcase with e | ⟨e, _⟩
          · rw [e]; omega
          · rw [e]; exact z
    · obtain rfl : i = L.length := by simp at hi; omega
      rw [List.getElem_append_right (Nat.le_refl _)]
      simp only [Nat.sub_self, List.getElem_cons_zero]
      have hne : tv = nilS ∨ u = nilS ∨ sb tv ≠ sb u := by
        rcases hpl with z | z
        · exact .inl z
        · rcases hul with y | y
          · exact .inr (.inl y)
          · exact .inr (.inr (by omega))
      refine ⟨ho'.chg hbut hne, ?_⟩
      rcases hpl with z | z
      · exact .inl z
      · refine .inr ?_
        rcases hcase with e | ⟨e, hn⟩
        · rw [e]; omega
        · rw [e]
          have := hul.resolve_left hn
          omega
  · have new : ∀ j (hj : j < L.length), tv = nilS ∨ L[j].2 = nilS ∨ sb tv ≠ sb L[j].2 := fun j hj => by
      rcases hpl with z | z
      · exact .inl z
      · rcases (k.own j hj).1.place with y | y
        · exact .inr (.inl y)
        · exact .inr (.inr (by omega))
    by_cases h1 : i < L.length
    · rw [List.getElem_append_left h1]
      by_cases h2 : j < L.length
      · rw [List.getElem_append_left h2]
        exact k.dj i j h1 h2 hij
      · obtain rfl : j = L.length := by simp at hj; omega
        rw [List.getElem_append_right (Nat.le_refl _)]
        simp only [Nat.sub_self, List.getElem_cons_zero]
        rcases new i h1 with z | z | z
        · exact .inr (.inl z)
        · exact .inl z
        · exact .inr (.inr (Ne.symm z))
    · obtain rfl : i = L.length := by simp at hi; omega
      have h2 : j < L.length := by simp at hj; omega
      rw [List.getElem_append_left h2, List.getElem_append_right (Nat.le_refl _)]
      simp only [Nat.sub_self, List.getElem_cons_zero]
      exact new j h2
/-- The second loop's state: the nodes, the result's block, the view's, the event's. -/
structure EvS (h h2 : AHeap) (u : Value) (L : List (NodeR × Value)) (b6 b7 b11 : Nat) (tb : Int) (E : List Value) : Prop where
  pre : Pre h h2
  out : Out h h2 u L
  f6 : Fx h2 b6 [.int .i64 0, nilS]
  f7 : Fx h2 b7 [.int .i64 tb, u]
  f11 : Fx h2 b11 E
section
variable {h h2 h3 : AHeap} {u : Value} {L : List (NodeR × Value)} {b6 b7 b11 : Nat} {tb : Int} {E : List Value}
theorem EvS.app (k : EvS h h2 u L b6 b7 b11 tb E) (g : AHeap) : EvS h (h2 ++ g) u L b6 b7 b11 tb E := ⟨k.pre.app' _, k.out.pre (.app _ _), k.f6.app _, k.f7.app _, k.f11.app _⟩
theorem EvS.mut (k : EvS h h2 u L b6 b7 b11 tb E) {i : Nat} (hi : i < L.length) {n' : NodeR} {tv' : Value} (hc : Chg h L[i].2 h2 h3) (ho : OwH h h3 tv' n'.hops)
    (hpl : tv' = nilS ∨ (sb tv' = sb L[i].2 ∧ L[i].2 ≠ nilS) ∨ h2.length ≤ sb tv') {off : Nat} {vs : List Value} (hl : off + vs.length ≤ 7) (hv : 0 < vs.length) (hs : setC (encP L[i]) off vs = encP (n', tv')) :
    ∃ o, wrs h3 (sb u) (so u + i * 7 + off) vs = some (h3.set (sb u) o) ∧ EvS h (h3.set (sb u) o) u (L.set i (n', tv')) b6 b7 b11 tb E := by
  obtain ⟨o, w, ko, hf, hsu⟩ := k.out.mut hi hc ho hpl hl hv hs
  have nf : ∀ {b cs}, Fx h2 b cs → Fx h3 b cs := fun f => f.chg hc ((k.out.own i hi).1.nfix f)
  exact ⟨o, w, (hc.pre k.pre).put hsu _, ko, hf _ _ (nf k.f6), hf _ _ (nf k.f7), hf _ _ (nf k.f11)⟩
theorem EvS.set (k : EvS h h2 u L b6 b7 b11 tb E) {i : Nat} (hi : i < L.length) {n' : NodeR} (he : n'.hops = L[i].1.hops) {off : Nat} {vs : List Value} (hl : off + vs.length ≤ 7) (hv : 0 < vs.length) (hs : setC (encP L[i]) off vs = encP (n', L[i].2)) :
    ∃ o, wrs h2 (sb u) (so u + i * 7 + off) vs = some (h2.set (sb u) o) ∧ EvS h (h2.set (sb u) o) u (L.set i (n', L[i].2)) b6 b7 b11 tb E := by
  refine k.mut hi (.refl _ _ _) (by rw [he]; exact (k.out.own i hi).1) ?_ hl hv hs
  by_cases q : L[i].2 = nilS
  · exact .inl q
  · exact .inr (.inl ⟨rfl, q⟩)
theorem EvS.inplace (k : EvS h h2 u L b6 b7 b11 tb E) {i : Nat} (hi : i < L.length) {l : List HopR} (hc : Chg h L[i].2 h2 h3) (ho : OwH h h3 L[i].2 l) :
    EvS h h3 u (L.set i (⟨L[i].1.up, L[i].1.boot, L[i].1.e, L[i].1.s, L[i].1.m, L[i].1.live, l⟩, L[i].2)) b6 b7 b11 tb E := by
  have nf : ∀ {b cs}, Fx h2 b cs → Fx h3 b cs := fun f => f.chg hc ((k.out.own i hi).1.nfix f)
  exact ⟨hc.pre k.pre, k.out.inplace hi hc ho, nf k.f6, nf k.f7, nf k.f11⟩
end
theorem binV_andNot (k : IntKind) (a b : Int) {h : AHeap} {K : Value → AHeap → Prop} {u : Hold K} : binV .andNot (.int k a) (.int k b) h K u = mvV (.int k (k.wrap (BitVec.ofInt k.bits a &&& ~~~BitVec.ofInt k.bits b).toNat)) h K u := by simp [binV, binA, mvV]
/-- One bit's place, as the program has it; a byte without it, and with it. -/
def shB (p : Int) : Int := IntKind.u8.wrap (1 * 2 ^ min (IntKind.u64.wrap (IntKind.i64.wrap ((BitVec.ofInt IntKind.i64.bits p &&& BitVec.ofInt IntKind.i64.bits 7).toNat : Int))).toNat 8)
def andNotB (x s : Int) : Int := IntKind.u8.wrap ((BitVec.ofInt IntKind.u8.bits x &&& ~~~BitVec.ofInt IntKind.u8.bits s).toNat : Int)
def orB (x s : Int) : Int := IntKind.u8.wrap ((BitVec.ofInt IntKind.u8.bits x ||| BitVec.ofInt IntKind.u8.bits s).toNat : Int)
theorem clrB_at : ∀ x : Nat, x < 256 → ∀ p : Nat, p < 8 → andNotB x (shB p) = (clrB x p : Int) ∧ orB (clrB x p) (shB p) = (setB x p : Int) := by decide +kernel
theorem Ls.evAt {h : AHeap} {v : Value} {l : List EvR} (hv : Ls h 10 (fun c x => c = EvR.c x) v l) {h2 : AHeap} (p : Pre h h2) {i : Nat} (hi : i < l.length) : rds h2 (sb v) (so v + i * 10) 10 = some l[i].c ∧ ∀ g, rds (h2 ++ g) (sb v) (so v + i * 10) 10 = some l[i].c := by
  obtain ⟨c, _, t0, r0, r1⟩ := hv.rd2 p hi
  subst t0
  exact ⟨r0, r1⟩
end Go.Proofs.YtoiihalnbdehkaaDoor.B
