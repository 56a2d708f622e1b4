/-
  Fields (layer 3): what is read, by the program.
-/
import Derived.Test.YtbomppdiiaodbaaRRRFd1
namespace Go.Proofs.YtbomppdiiaodbaaRRR.B
open Go
set_option linter.unusedVariables false
set_option linter.unusedSimpArgs false
set_option maxRecDepth 100000
/-- One block may have turned; all else stands. -/
def Only (b : Nat) (h h' : AHeap) : Prop := h.length ≤ h'.length ∧ ∀ i, i < h.length → i ≠ b → h'[i]? = h[i]?
theorem Only.refl (b : Nat) (h : AHeap) : Only b h h := ⟨Nat.le_refl _, fun _ _ _ => rfl⟩
theorem Only.trans {b : Nat} {h1 h2 h3 : AHeap} (p : Only b h1 h2) (q : Only b h2 h3) : Only b h1 h3 :=
  ⟨Nat.le_trans p.1 q.1, fun i hi ne => (q.2 i (Nat.lt_of_lt_of_le hi p.1) ne).trans (p.2 i hi ne)⟩
theorem Only.of_pre {b : Nat} {h h' : AHeap} (p : Pre h h') : Only b h h' := ⟨p.len, fun i hi _ => p.get hi⟩
theorem Only.set (b : Nat) (h : AHeap) (o : AObj) : Only b h (h.set b o) := ⟨by simp, fun i hi ne => List.getElem?_set_ne fun e => ne e.symm⟩
theorem Fx.only {b c : Nat} {h h' : AHeap} {cs : List Value} (f : Fx h c cs) (p : Only b h h') (ne : c ≠ b) : Fx h' c cs := f.same (p.2 c f.lt ne)
theorem Ls.only {α : Type} {R : List Value → α → Prop} {h h' : AHeap} {sz b : Nat} {v : Value} {l : List α} (k : Ls h sz R v l) (p : Only b h h') (ne : v = nilS ∨ sb v ≠ b) : Ls h' sz R v l := by
  obtain ⟨c, a, q⟩ := k
  refine ⟨c, ?_, q⟩
  clear q
  generalize l.length = n at a
  cases a with
  | nil => exact .nil
  | void => exact .void
  | row hl hr hc hb ho hm =>
    rename_i b' off cap
    have e : h'[b']? = h[b']? := p.2 b' hb (ne.resolve_left (by rintro ⟨⟩))
    refine .row hl (fun hn => ?_) hc (Nat.lt_of_lt_of_le hb p.1) (by unfold slOK at *; rw [e]; exact ho) hm
    have := hr hn
    unfold rds at *
    rw [e]; exact this
/-- What is left to read, and an error. -/
structure InV (h : AHeap) (b : Nat) (r : List Int) (e : Int) : Prop where
  isb : IsB r
  no : e ≠ 0 → r = []
  is : ∃ v, Fx h b [v, .int .i64 e] ∧ Ls h 1 by8 v r ∧ (v = nilS ∨ sb v < b)
def nextF (r : List Int) (e : Int) (n : Nat) : List Int × List Int × Int := if e ≠ 0 then ([], r, e) else if r.length < n then ([], [], 9) else (r.take n, r.drop n, 0)
theorem sliceTo_sb (m : Nat) (v : Value) : sb (sliceTo m v) = sb v := by
  cases v <;> try rfl
  rename_i a l c
  cases a <;> rfl
theorem sliceFrom_sb (sz m : Nat) (v : Value) : sb (sliceFrom sz m v) = sb v := by
  cases v <;> try rfl
  rename_i a l c
  cases a with
  | none => rfl
  | some a => obtain ⟨x, y, z⟩ := a; rfl
theorem Ls.nnil {α : Type} {R : List Value → α → Prop} {h : AHeap} {sz : Nat} {v : Value} {l : List α} (k : Ls h sz R v l) (hn : 0 < l.length) : v ≠ nilS := by
  rintro rfl
  obtain ⟨c, a, _⟩ := k
  generalize l.length = n at a hn
  cases a
  omega
theorem take_spec {h : AHeap} {pv : Value} {l : List Int} (hv : Ls h 1 by8 pv l) (hB : IsB l) (hl : l.length ≤ 140737488351232) : SpecX Try.prog nG fn.field_Take [pv] h fun v' h' => ∃ b, v' = .pointer (some ⟨b, 0, none⟩) ∧ Pre h h' ∧ h.length ≤ b ∧ InV h' b l 0 := by
  refine SpecX.of_body (ir.field_Take.spec (Nat.le_of_ble_eq_true rfl)) ?_
  have src := hv.src (.app h [.row (.grow 1) []])
  simp (dsimp := false) only [↓ir.field_Take.bw, ir.field_Take.rs, go_sem, Nat.reduceAdd, Nat.reduceEqDiff, Nat.reduceMul, Nat.reduceLeDiff, Nat.reduceSub, Nat.reduceLT, ↓reduceIte, reduceCtorEq, List.reduceReplicate, List.flatten_cons, List.flatten_nil, List.append_nil, eq_self, Int.reduceLE, Int.reduceLT, Int.reduceToNat, Nat.min_eq_left, Int.reducePow, Int.reduceNeg, Int.reduceEq, src]
  refine (Ow.empty (h0 := h) (h := h) (sz := 1) (Nat.le_refl _)).app (by simp) (ik_one _ _) (show room (0 + l.length) 1 from ⟨by omega, by omega⟩) (fun v3 h3 o3 hc _ _ => ?_) (.app _ _)
  have hp3 := hc.pre (.app h [.row (.grow 1) []])
  simp only [Nat.zero_add, List.nil_append] at o3
  have c3 := o3.sl.cellsA
  simp (dsimp := false) only [go_sem, Nat.reduceAdd, Nat.reduceEqDiff, Nat.reduceMul, Nat.reduceLeDiff, Nat.reduceSub, Nat.reduceLT, ↓reduceIte, reduceCtorEq, List.reduceReplicate, List.flatten_cons, List.flatten_nil, List.append_nil, eq_self, Int.reduceLE, Int.reduceLT, Int.reduceToNat, Nat.min_eq_left, Int.reducePow, Int.reduceNeg, Int.reduceEq, c3]
  refine ⟨h3.length, rfl, hp3.app' _, hp3.len, hB, fun q => absurd rfl q, v3, Fx.here _ _ _, o3.lsK.pre (.app _ _), ?_⟩
  rcases o3.place with q | q
  · exact .inl q
  · exact .inr q.2
theorem fail_spec {h : AHeap} {b : Nat} {r : List Int} {x : Int} (H : InV h b r 0) (hx : x ≠ 0) : SpecX Try.prog nG fn.field_In_Fail [.pointer (some ⟨b, 0, none⟩), .int .i64 x] h fun _ h' => InV h' b [] x ∧ Only b h h' := by
  refine SpecX.of_body (ir.field_In_Fail.spec (Nat.le_of_ble_eq_true rfl)) ?_
  obtain ⟨v, f, ls, ne⟩ := H.is
  have re := f.rd (off := 1) (n := 1) (vs := [.int .i64 0]) rfl (by simp)
  have b0 : ((0 : Int) == 0) = true := rfl
  have b1 : (x != 0) = true := by simpa using hx
  have w1 := f.wr (off := 1) (vs := [.int .i64 x]) (by simp)
  have f1 := f.set [v, .int .i64 x]
  have e1 : setC [v, .int .i64 0] 1 [.int .i64 x] = [v, .int .i64 x] := rfl
  rw [e1] at w1
  have w2 := f1.wr (off := 0) (vs := [nilS]) (by simp)
  have e2 : setC [v, .int .i64 x] 0 [nilS] = [nilS, .int .i64 x] := rfl
  rw [e2] at w2
  simp (dsimp := false) only [↓ir.field_In_Fail.bw, ir.field_In_Fail.rs, go_sem, Nat.reduceAdd, Nat.reduceEqDiff, Nat.reduceMul, Nat.reduceLeDiff, Nat.reduceSub, Nat.reduceLT, ↓reduceIte, reduceCtorEq, List.reduceReplicate, List.flatten_cons, List.flatten_nil, List.append_nil, eq_self, Int.reduceLE, Int.reduceLT, Int.reduceToNat, Nat.min_eq_left, Int.reducePow, Int.reduceNeg, Int.reduceEq, re, b0, b1, w1, w2]
  exact ⟨⟨IsB.nil, fun _ => rfl, nilS, f1.set _, ⟨[], .nil, fun i hi => by simp at hi⟩, .inl rfl⟩, (Only.set b h _).trans (Only.set b _ _)⟩
theorem next_spec {h : AHeap} {b : Nat} {r : List Int} {e : Int} {n : Nat} (H : InV h b r e) (hn : 0 < n) : SpecX Try.prog nG fn.field_In_next [.pointer (some ⟨b, 0, none⟩), .int .i64 (n : Int)] h fun v' h' =>
    Ls h' 1 by8 v' (nextF r e n).1 ∧ InV h' b (nextF r e n).2.1 (nextF r e n).2.2 ∧ Only b h h' := by
  refine SpecX.of_body (ir.field_In_next.spec (Nat.le_of_ble_eq_true rfl)) ?_
  obtain ⟨v, f, ls, ne⟩ := H.is
  have re := f.rd (off := 1) (n := 1) (vs := [.int .i64 e]) rfl (by simp)
  have rv := f.rd (off := 0) (n := 1) (vs := [v]) rfl (by simp)
  by_cases he : e = 0
  case neg =>
    have b1 : (e != 0) = true := by simpa using he
    have hF : nextF r e n = ([], r, e) := by unfold nextF; rw [if_pos he]
    simp (dsimp := false) only [↓ir.field_In_next.bw, ir.field_In_next.rs, go_sem, Nat.reduceAdd, Nat.reduceEqDiff, Nat.reduceMul, Nat.reduceLeDiff, Nat.reduceSub, Nat.reduceLT, ↓reduceIte, reduceCtorEq, List.reduceReplicate, List.flatten_cons, List.flatten_nil, List.append_nil, eq_self, Int.reduceLE, Int.reduceLT, Int.reduceToNat, Nat.min_eq_left, Int.reducePow, Int.reduceNeg, Int.reduceEq, re, b1]
    rw [hF]
    exact ⟨⟨[], .nil, fun i hi => by simp at hi⟩, H, Only.refl _ _⟩
  subst he
  have b1 : ((0 : Int) != 0) = false := rfl
  by_cases hlt : r.length < n
  · have hF : nextF r 0 n = ([], [], 9) := by unfold nextF; rw [if_neg (by simp), if_pos hlt]
    have d0 : decide ((r.length : Int) < (n : Int)) = true := decide_eq_true (by omega)
    simp (dsimp := false) only [↓ir.field_In_next.bw, ir.field_In_next.rs, go_sem, Nat.reduceAdd, Nat.reduceEqDiff, Nat.reduceMul, Nat.reduceLeDiff, Nat.reduceSub, Nat.reduceLT, ↓reduceIte, reduceCtorEq, List.reduceReplicate, List.flatten_cons, List.flatten_nil, List.append_nil, eq_self, Int.reduceLE, Int.reduceLT, Int.reduceToNat, Nat.min_eq_left, Int.reducePow, Int.reduceNeg, Int.reduceEq, re, b1, rv, ls.lenV, d0]
    refine callV_x (fail_spec H (by decide)) ?_
    rintro _ h2 ⟨H2, o2⟩
    simp (dsimp := false) only [go_sem, Nat.reduceAdd, Nat.reduceEqDiff, Nat.reduceMul, Nat.reduceLeDiff, Nat.reduceSub, Nat.reduceLT, ↓reduceIte, reduceCtorEq, List.reduceReplicate, List.flatten_cons, List.flatten_nil, List.append_nil, eq_self, Int.reduceLE, Int.reduceLT, Int.reduceToNat, Nat.min_eq_left, Int.reducePow, Int.reduceNeg, Int.reduceEq]
    rw [hF]
    exact ⟨⟨[], .nil, fun i hi => by simp at hi⟩, H2, o2⟩
  · have hF : nextF r 0 n = (r.take n, r.drop n, 0) := by unfold nextF; rw [if_neg (by simp), if_neg hlt]
    have d0 : decide ((r.length : Int) < (n : Int)) = false := decide_eq_false (by omega)
    have s1 := fun {K : Value → AHeap → Prop} {u : Hold K} => ls.slTo (m := n) (by omega) (by omega) (.refl _) (K := K) (u := u)
    have s2 := fun {K : Value → AHeap → Prop} {u : Hold K} => ls.slFrom (m := (n : Int)) (by omega) (by omega) (by omega) (.refl _) (K := K) (u := u)
    rw [Int.toNat_natCast] at s2
    have lf := ls.front (m := n) (by omega)
    have lb := ls.back (m := n) (by omega) (by omega)
    have nn := ls.nnil (by omega)
    have ne3 : sb v < b := ne.resolve_left nn
    have ne2 : sb v ≠ b := Nat.ne_of_lt ne3
    have hw := f.wr (off := 0) (vs := [sliceFrom 1 n v]) (by simp)
    have e1 : setC [v, .int .i64 0] 0 [sliceFrom 1 n v] = [sliceFrom 1 n v, .int .i64 0] := rfl
    rw [e1] at hw
    have cb := lb.cellsA
    have ob := lb.oneA
    simp (dsimp := false) only [↓ir.field_In_next.bw, ir.field_In_next.rs, go_sem, Nat.reduceAdd, Nat.reduceEqDiff, Nat.reduceMul, Nat.reduceLeDiff, Nat.reduceSub, Nat.reduceLT, ↓reduceIte, reduceCtorEq, List.reduceReplicate, List.flatten_cons, List.flatten_nil, List.append_nil, eq_self, Int.reduceLE, Int.reduceLT, Int.reduceToNat, Nat.min_eq_left, Int.reducePow, Int.reduceNeg, Int.reduceEq, re, b1, rv, ls.lenV, d0, s1, s2, cb, ob, hw]
    rw [hF]
    have oo := Only.set b h (.row .fix [sliceFrom 1 n v, .int .i64 0])
    exact ⟨lf.only oo (.inr (by rw [sliceTo_sb]; exact ne2)), ⟨H.isb.drop _, fun q => absurd rfl q, _, f.set _, lb.only oo (.inr (by rw [sliceFrom_sb]; exact ne2)), .inr (by rw [sliceFrom_sb]; exact ne3)⟩, oo⟩
end Go.Proofs.YtbomppdiiaodbaaRRR.B
