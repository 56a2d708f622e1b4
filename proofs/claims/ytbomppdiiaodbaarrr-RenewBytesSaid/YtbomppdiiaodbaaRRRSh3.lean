/-
  The program's sum (layer 4): a sum that is written to.
-/
import Derived.Test.YtbomppdiiaodbaaRRRSh2
namespace Go.Proofs.YtbomppdiiaodbaaRRR.B
open Go
set_option linter.unusedVariables false
set_option linter.unusedSimpArgs false
set_option maxRecDepth 100000
theorem Ls.src {k : IntKind} {h h2 : AHeap} {v : Value} {l : List Int} (hv : Ls h 1 (isK k) v l) (p : Pre h h2) : appSrc h2 1 false v = some (l.length, ik k l) := by
  obtain ⟨cs, a, b⟩ := hv.pre p
  have hcs : cs = ik k l := by
    apply List.ext_getElem?
    intro i
    by_cases hi : i < l.length
    · have q : (cs.drop (i * 1)).take 1 = [.int k l[i]] := b i hi
      rw [Nat.mul_one] at q
      have hl : i < cs.length := by rw [a.len]; omega
      have q2 : ((cs.drop i).take 1)[0]? = some (Value.int k l[i]) := by rw [q]; rfl
      rw [List.getElem?_take_of_lt (by omega), List.getElem?_drop] at q2
      rw [show i = i + 0 from rfl, q2]
      simp [hi]
    · rw [List.getElem?_eq_none (by rw [a.len]; omega), List.getElem?_eq_none (by simp; omega)]
  rw [← hcs]
  clear b hcs
  generalize l.length = n at a
  cases a with
  | nil => rfl
  | void => rfl
  | row hl hr hc hb ho hm =>
    cases n with
    | zero =>
      obtain rfl : cs = [] := List.eq_nil_of_length_eq_zero (by simpa using hl)
      rfl
    | succ n => simp only [appSrc]; rw [hr (by omega)]; rfl
/-- A block of fixed cells turns: a slice of something else stands. -/
theorem Ls.put {α : Type} {R : List Value → α → Prop} {h : AHeap} {sz : Nat} {v : Value} {l : List α} (hv : Ls h sz R v l) {b : Nat} (hne : l.length ≠ 0 → sb v ≠ b) (cs : List Value) : Ls (h.set b (.row .fix cs)) sz R v l := by
  obtain ⟨c, a, q⟩ := hv
  refine ⟨c, ?_, q⟩
  clear q
  generalize l.length = n at a hne
  cases a with
  | nil => exact .nil
  | void => exact .void
  | row hl hr hc hb ho hm =>
    rename_i b' off cap
    refine .row hl (fun hn => ?_) hc (by simpa using hb) ?_ hm
    · have := hr hn
      unfold rds at *
      rw [List.getElem?_set_ne (show b ≠ b' from fun e => hne hn e.symm)]; exact this
    · unfold slOK at *
      by_cases e : b = b'
      · subst e
        rw [List.getElem?_set_self hb]; trivial
      · rw [List.getElem?_set_ne e]; exact ho
/-- A slice that was just written out, empty. -/
theorem Ow.empty {h0 h : AHeap} {sz : Nat} (hl : h0.length ≤ h.length) : Ow h0 (h ++ [.row (.grow sz) []]) sz (.slice (some ⟨h.length, 0, none⟩) 0 0) 0 [] := by
  have := Ow.row (h0 := h0) (h := h ++ [.row (.grow sz) []]) (sz := sz) (b := h.length) (off := 0) (n := 0) (cap := 0) (cells := []) hl (by simp) (by simp) (Nat.le_refl _) (Nat.zero_le _)
  simpa using this
theorem Ow.lsK {h0 h : AHeap} {k : IntKind} {v : Value} {l : List Int} (o : Ow h0 h 1 v l.length (ik k l)) : Ls h 1 (isK k) v l :=
  ⟨_, o.sl, fun i hi => by rw [Nat.mul_one, ik_rd hi]; simp [List.getD, hi]⟩
/-- A running sum, to which m was written. -/
structure HashV (h0 h : AHeap) (b : Nat) (m : List Int) : Prop where
  new : h0.length ≤ b
  isb : IsB m
  is : ∃ v, Fx h b ((hashF mixF st0 m).c' ++ [v, .int .u64 (m.length : Int), .int .i64 ((m.length / 64 : Nat) : Int)]) ∧ Ow h0 h 1 v (restF m).length (ik .u8 (restF m))
theorem new_spec {h : AHeap} : SpecX Try.prog nG fn.sha_New [] h fun v' h' => ∃ b, v' = .pointer (some ⟨b, 0, none⟩) ∧ Pre h h' ∧ HashV h h' b [] := by
  refine SpecX.of_body (ir.sha_New.spec (Nat.le_of_ble_eq_true rfl)) ?_
  simp (dsimp := false) only [↓ir.sha_New.bw, ir.sha_New.rs, go_sem, Nat.reduceAdd, Nat.reduceEqDiff, Nat.reduceMul, Nat.reduceLeDiff, Nat.reduceSub, Nat.reduceLT, ↓reduceIte, reduceCtorEq, List.reduceReplicate, List.flatten_cons, List.flatten_nil, List.append_nil, eq_self, Int.reduceLE, Int.reduceLT, Int.reduceToNat, Nat.min_eq_left, Int.reducePow, Int.reduceNeg, Int.reduceEq]
  refine ⟨h.length, rfl, ⟨Nat.le_refl _, IsB.nil, nilS, ?_, ?_⟩⟩
  · rw [hashF_lt _ _ (by simp)]
    simp [Fx, St.c', st0]
  · exact .nil
theorem restF_isB {m : List Int} (h : IsB m) : IsB (restF m) := h.drop _
theorem mixF_take (S : St) (m : List Int) : mixF S (m.take 64) = mixF S m := by
  have key : ∀ n, n ≤ 16 → wordsF (m.take 64) n = wordsF m n := fun n => by
    induction n with
    | zero => intro _; rfl
    | succ n ih =>
      intro hn
      have g : ∀ k, k < 64 → (m.take 64).getD k 0 = m.getD k 0 := fun k hk => by
        simp [List.getD_eq_getElem?_getD, List.getElem?_take_of_lt hk]
      rw [wordsF, wordsF, ih (by omega), g _ (by omega), g _ (by omega), g _ (by omega), g _ (by omega)]
  unfold mixF
  rw [key 16 (Nat.le_refl _)]
theorem write_spec {h0 h : AHeap} {b : Nat} {m p : List Int} {pv : Value} (H : HashV h0 h b m) (hp : Pre h0 h) (hv : Ls h 1 by8 pv p) (hB : IsB p) (hne : p.length ≠ 0 → sb pv ≠ b) (hm : m.length + p.length ≤ 70368744177664) :
    SpecX Try.prog nG fn.sha_Hash_Write [.pointer (some ⟨b, 0, none⟩), pv] h fun _ h' => HashV h0 h' b (m ++ p) ∧ Pre h0 h' := by
  refine SpecX.of_body (ir.sha_Hash_Write.spec (Nat.le_of_ble_eq_true rfl)) ?_
  obtain ⟨v, f, o⟩ := H.is
  obtain ⟨S, hS⟩ : ∃ S, hashF mixF st0 m = S := ⟨_, rfl⟩
  rw [hS] at f
  have hbl := H.new
  have rn := f.rd (off := 9) (n := 1) (vs := [.int .u64 (m.length : Int)]) rfl (by simp [St.c'])
  have hw1 := f.wr (off := 9) (vs := [.int .u64 ((m.length + p.length : Nat) : Int)]) (by simp [St.c'])
  have e1 : setC (S.c' ++ [v, .int .u64 (m.length : Int), .int .i64 ((m.length / 64 : Nat) : Int)]) 9 [.int .u64 ((m.length + p.length : Nat) : Int)] = S.c' ++ [v, .int .u64 ((m.length + p.length : Nat) : Int), .int .i64 ((m.length / 64 : Nat) : Int)] := rfl
  rw [e1] at hw1
  have f1 := f.set (S.c' ++ [v, .int .u64 ((m.length + p.length : Nat) : Int), .int .i64 ((m.length / 64 : Nat) : Int)])
  have hnf := o.nfix f
  have o1 := o.put hnf (.row .fix (S.c' ++ [v, .int .u64 ((m.length + p.length : Nat) : Int), .int .i64 ((m.length / 64 : Nat) : Int)]))
  have rv := f1.rd (off := 8) (n := 1) (vs := [v]) rfl (by simp [St.c'])
  have w1 : IntKind.u64.wrap ((m.length : Int) + IntKind.u64.wrap (p.length : Int)) = ((m.length + p.length : Nat) : Int) := by
    rw [IntKind.wrap_u64, IntKind.wrap_u64]; omega
  simp (dsimp := false) only [↓ir.sha_Hash_Write.bw, ir.sha_Hash_Write.rs, go_sem, Nat.reduceAdd, Nat.reduceEqDiff, Nat.reduceMul, Nat.reduceLeDiff, Nat.reduceSub, Nat.reduceLT, ↓reduceIte, reduceCtorEq, List.reduceReplicate, List.flatten_cons, List.flatten_nil, List.append_nil, eq_self, Int.reduceLE, Int.reduceLT, Int.reduceToNat, Nat.min_eq_left, Int.reducePow, Int.reduceNeg, Int.reduceEq, rn, hv.lenV, w1, hw1, rv]
  have hv1 := hv.put hne (S.c' ++ [v, .int .u64 ((m.length + p.length : Nat) : Int), .int .i64 ((m.length / 64 : Nat) : Int)])
  have hp1 : Pre h0 (h.set b (.row .fix (S.c' ++ [v, .int .u64 ((m.length + p.length : Nat) : Int), .int .i64 ((m.length / 64 : Nat) : Int)]))) := hp.put hbl _
  generalize h.set b (AObj.row .fix (S.c' ++ [v, .int .u64 ((m.length + p.length : Nat) : Int), .int .i64 ((m.length / 64 : Nat) : Int)])) = h1 at f1 o1 hv1 hp1 ⊢
  clear hw1 rv f o rn hv hp hne e1
  rw [hv1.src (.refl _)]
  have hrl := restF_len m
  refine o1.app (by simp) (ik_one _ _) ⟨by omega, by omega⟩ (fun v2 h2 o2 hc hsb _ => ?_) hp1
  rw [← List.map_append, ← List.length_append] at o2
  have f2 := f1.chg hc (o1.nfix f1)
  have hp2 := hc.pre hp1
  have hnf2 := o2.nfix f2
  have hw2 := f2.wr (off := 8) (vs := [v2]) (by simp [St.c'])
  have e2 : setC (S.c' ++ [v, .int .u64 ((m.length + p.length : Nat) : Int), .int .i64 ((m.length / 64 : Nat) : Int)]) 8 [v2] = S.c' ++ [v2, .int .u64 ((m.length + p.length : Nat) : Int), .int .i64 ((m.length / 64 : Nat) : Int)] := rfl
  rw [e2] at hw2
  have f3 := f2.set (S.c' ++ [v2, .int .u64 ((m.length + p.length : Nat) : Int), .int .i64 ((m.length / 64 : Nat) : Int)])
  have o3 := o2.put hnf2 (.row .fix (S.c' ++ [v2, .int .u64 ((m.length + p.length : Nat) : Int), .int .i64 ((m.length / 64 : Nat) : Int)]))
  have hp3 : Pre h0 (h2.set b (.row .fix (S.c' ++ [v2, .int .u64 ((m.length + p.length : Nat) : Int), .int .i64 ((m.length / 64 : Nat) : Int)]))) := hp2.put hbl _
  have c2 := o2.lsK.cellsA
  have one2 := o2.lsK.oneA
  simp (dsimp := false) only [go_sem, Nat.reduceAdd, Nat.reduceEqDiff, Nat.reduceMul, Nat.reduceLeDiff, Nat.reduceSub, Nat.reduceLT, ↓reduceIte, reduceCtorEq, List.reduceReplicate, List.flatten_cons, List.flatten_nil, List.append_nil, eq_self, Int.reduceLE, Int.reduceLT, Int.reduceToNat, Nat.min_eq_left, Int.reducePow, Int.reduceNeg, Int.reduceEq, c2, one2, hw2]
  refine loopV_of (fun m' e h4 => ∃ (S : St) (v : Value) (r : List Int), m' = r.length ∧ hashF mixF S r = hashF mixF st0 (m ++ p) ∧ restF r = restF (m ++ p) ∧ r.length ≤ 70368744177664 + 64 ∧ IsB r ∧ Pre h0 h4 ∧ (∃ B : Nat, B + r.length / 64 = (m ++ p).length / 64 ∧ Fx h4 b (S.c' ++ [v, .int .u64 ((m.length + p.length : Nat) : Int), .int .i64 (B : Int)])) ∧ Ow h0 h4 1 v r.length (ik .u8 r) ∧
    e = [(0, .pointer (some ⟨b, 0, none⟩))]) _ ⟨S, v2, restF m ++ p, rfl, ?_, ?_, ?_, (restF_isB H.isb).append hB, hp3, ⟨m.length / 64, ?_, f3⟩, o3, rfl⟩ ?_
  · rw [hashF_append mixF p _ st0 m rfl, hS]
  · rw [restF_append p _ m rfl]
  · simp only [List.length_append]; omega
  · simp only [List.length_append]; omega
  clear f1 f2 f3 o1 o2 o3 hp1 hp2 hp3 hw2 hv1 hc hsb hnf hnf2 c2 one2 hS e2 S
  rintro m' e h1 ⟨S, v, r, rfl, hH, hR, hrl2, hrB, hp1, ⟨B, hB2, f1⟩, o1, rfl⟩
  have rv := f1.rd (off := 8) (n := 1) (vs := [v]) rfl (by simp [St.c'])
  by_cases hge : 64 ≤ r.length
  · have d0 : decide (((r.length : Nat) : Int) ≥ 64) = true := decide_eq_true (by omega)
    simp (dsimp := false) only [↓ir.sha_Hash_Write.l1.bw, go_sem, Nat.reduceAdd, Nat.reduceEqDiff, Nat.reduceMul, Nat.reduceLeDiff, Nat.reduceSub, Nat.reduceLT, ↓reduceIte, reduceCtorEq, List.reduceReplicate, List.flatten_cons, List.flatten_nil, List.append_nil, eq_self, Int.reduceLE, Int.reduceLT, Int.reduceToNat, Nat.min_eq_left, Int.reducePow, Int.reduceNeg, Int.reduceEq, rv, o1.lsK.lenV, d0]
    have rs := f1.rd (off := 0) (n := 8) (vs := S.c') rfl (by simp [St.c'])
    have ag : aggOf true S.c' = some (.agg ⟨S.c'⟩) := rfl
    have ca : cellsA (.agg ⟨(mixF S r).c'⟩) = some (mixF S r).c' := rfl
    have N : Int := ((m.length + p.length : Nat) : Int)
    have hw1 := f1.wr (off := 0) (vs := (mixF S r).c') (by simp [St.c'])
    have e1 : setC (S.c' ++ [v, .int .u64 ((m.length + p.length : Nat) : Int), .int .i64 (B : Int)]) 0 (mixF S r).c' = (mixF S r).c' ++ [v, .int .u64 ((m.length + p.length : Nat) : Int), .int .i64 (B : Int)] := rfl
    rw [e1] at hw1
    simp (dsimp := false) only [go_sem, Nat.reduceAdd, Nat.reduceEqDiff, Nat.reduceMul, Nat.reduceLeDiff, Nat.reduceSub, Nat.reduceLT, ↓reduceIte, reduceCtorEq, List.reduceReplicate, List.flatten_cons, List.flatten_nil, List.append_nil, eq_self, Int.reduceLE, Int.reduceLT, Int.reduceToNat, Nat.min_eq_left, Int.reducePow, Int.reduceNeg, Int.reduceEq, rs, ag, rv]
    refine callV_of (mix_spec o1.lsK hge hrB S) ?_
    have hnf1 := o1.nfix f1
    have f2 := f1.set ((mixF S r).c' ++ [v, .int .u64 ((m.length + p.length : Nat) : Int), .int .i64 (B : Int)])
    have o2 := o1.put hnf1 (.row .fix ((mixF S r).c' ++ [v, .int .u64 ((m.length + p.length : Nat) : Int), .int .i64 (B : Int)]))
    have hp2 : Pre h0 (h1.set b (.row .fix ((mixF S r).c' ++ [v, .int .u64 ((m.length + p.length : Nat) : Int), .int .i64 (B : Int)]))) := hp1.put hbl _
    simp (dsimp := false) only [go_sem, Nat.reduceAdd, Nat.reduceEqDiff, Nat.reduceMul, Nat.reduceLeDiff, Nat.reduceSub, Nat.reduceLT, ↓reduceIte, reduceCtorEq, List.reduceReplicate, List.flatten_cons, List.flatten_nil, List.append_nil, eq_self, Int.reduceLE, Int.reduceLT, Int.reduceToNat, Nat.min_eq_left, Int.reducePow, Int.reduceNeg, Int.reduceEq, ca, hw1]
    refine ⟨rfl, rfl, ?_⟩
    generalize h1.set b (AObj.row .fix ((mixF S r).c' ++ [v, .int .u64 ((m.length + p.length : Nat) : Int), .int .i64 (B : Int)])) = h2 at f2 o2 hp2 ⊢
    have rv2 := f2.rdA (off := 8) (n := 1) (vs := [v]) rfl (by simp [St.c'])
    have hsl : ∀ {h3 : AHeap} (q : Pre h2 h3) {K : Value → AHeap → Prop} {u : Hold K}, slV 1 v (some (some 64)) (some none) h3 K u = K (sliceFrom 1 64 v) h3 := fun q => o2.lsK.slFrom (m := 64) (by omega) (by omega) (by omega) q
    have hbk := o2.lsK.back (m := 64) hge (by omega)
    have hsrc := hbk.src (.app h2 [.row (.grow 1) []])
    simp (dsimp := false) only [go_sem, Nat.reduceAdd, Nat.reduceEqDiff, Nat.reduceMul, Nat.reduceLeDiff, Nat.reduceSub, Nat.reduceLT, ↓reduceIte, reduceCtorEq, List.reduceReplicate, List.flatten_cons, List.flatten_nil, List.append_nil, eq_self, Int.reduceLE, Int.reduceLT, Int.reduceToNat, Nat.min_eq_left, Int.reducePow, Int.reduceNeg, Int.reduceEq, rv2, hsl (.app h2 [.row (.grow 1) []]), hsrc]
    have oe := Ow.empty (sz := 1) hp2.len
    have f3 := f2.app [.row (.grow 1) []]
    refine oe.app (by simp) (ik_one _ _) ⟨by simp; omega, by simp; omega⟩ (fun v3 h3 o3 hc _ _ => ?_) (hp2.app' _)
    simp only [Nat.zero_add, List.nil_append] at o3
    have f4 := f3.chg hc (oe.nfix f3)
    have hp3 := hc.pre (hp2.app' _)
    have c3 := o3.lsK.cellsA
    have one3 := o3.lsK.oneA
    have hw3 := f4.wr (off := 8) (vs := [v3]) (by simp [St.c'])
    have e3 : setC ((mixF S r).c' ++ [v, .int .u64 ((m.length + p.length : Nat) : Int), .int .i64 (B : Int)]) 8 [v3] = (mixF S r).c' ++ [v3, .int .u64 ((m.length + p.length : Nat) : Int), .int .i64 (B : Int)] := rfl
    rw [e3] at hw3
    have f5 := f4.set ((mixF S r).c' ++ [v3, .int .u64 ((m.length + p.length : Nat) : Int), .int .i64 (B : Int)])
    have r5 := f5.rd (off := 10) (n := 1) (vs := [.int .i64 (B : Int)]) rfl (by simp [St.c'])
    have hw5 := f5.wr (off := 10) (vs := [.int .i64 ((B + 1 : Nat) : Int)]) (by simp [St.c'])
    have e5 : setC ((mixF S r).c' ++ [v3, .int .u64 ((m.length + p.length : Nat) : Int), .int .i64 (B : Int)]) 10 [.int .i64 ((B + 1 : Nat) : Int)] = (mixF S r).c' ++ [v3, .int .u64 ((m.length + p.length : Nat) : Int), .int .i64 ((B + 1 : Nat) : Int)] := rfl
    rw [e5] at hw5
    have wb : IntKind.i64.wrap ((B : Int) + 1) = ((B + 1 : Nat) : Int) := by rw [wrap_i64 (by simp only [List.length_append] at hB2; omega)]; rfl
    simp (dsimp := false) only [go_sem, Nat.reduceAdd, Nat.reduceEqDiff, Nat.reduceMul, Nat.reduceLeDiff, Nat.reduceSub, Nat.reduceLT, ↓reduceIte, reduceCtorEq, List.reduceReplicate, List.flatten_cons, List.flatten_nil, List.append_nil, eq_self, Int.reduceLE, Int.reduceLT, Int.reduceToNat, Nat.min_eq_left, Int.reducePow, Int.reduceNeg, Int.reduceEq, c3, one3, hw3, r5, wb, hw5]
    have hnf3 := o3.nfix f4
    refine ⟨(r.drop 64).length, by simp; omega, mixF S r, v3, r.drop 64, rfl, ?_, ?_, by simp; omega, hrB.drop _, (hp3.put hbl _).put hbl _, ⟨B + 1, by simp only [List.length_drop] at *; omega, f5.set _⟩, (o3.put hnf3 _).put hnf3 _⟩
    · rw [← hH, hashF_ge mixF S hge, mixF_take]
    · rw [← hR, restF_ge hge]
  have d0 : decide (((r.length : Nat) : Int) ≥ 64) = false := decide_eq_false (by omega)
  simp (dsimp := false) only [↓ir.sha_Hash_Write.l1.bw, go_sem, Nat.reduceAdd, Nat.reduceEqDiff, Nat.reduceMul, Nat.reduceLeDiff, Nat.reduceSub, Nat.reduceLT, ↓reduceIte, reduceCtorEq, List.reduceReplicate, List.flatten_cons, List.flatten_nil, List.append_nil, eq_self, Int.reduceLE, Int.reduceLT, Int.reduceToNat, Nat.min_eq_left, Int.reducePow, Int.reduceNeg, Int.reduceEq, rv, o1.lsK.lenV, d0]
  rw [hashF_lt _ _ (by omega)] at hH
  rw [restF_lt (by omega)] at hR
  refine ⟨⟨hbl, H.isb.append hB, v, ?_, by rw [← hR]; exact o1⟩, hp1⟩
  rw [← hH, List.length_append]
  have : B = (m.length + p.length) / 64 := by rw [List.length_append] at hB2; omega
  rw [← this]
  exact f1
end Go.Proofs.YtbomppdiiaodbaaRRR.B
