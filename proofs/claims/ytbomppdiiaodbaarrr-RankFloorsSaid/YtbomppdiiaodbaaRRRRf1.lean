/-
  Floors (layer 1): the document's.
-/
import Derived.Test.YtbomppdiiaodbaaRRRR1
import Derived.Test.YtbomppdiiaodbaaRRRArA
import Derived.Test.YtbomppdiiaodbaaRRRSi
namespace Go.Proofs.YtbomppdiiaodbaaRRR.B
open Go
set_option linter.unusedVariables false
set_option linter.unusedSimpArgs false
theorem Fx.wholeF {h : AHeap} {b n : Nat} {cs : List Value} (f : Fx h b cs) (hn : cs.length = n) : rds h b 0 n = some cs := f.rd (by rw [List.drop_zero, List.take_of_length_le (by omega)]) (by omega)
theorem Fx.overF {h : AHeap} {b : Nat} {cs vs : List Value} (f : Fx h b cs) (hl : cs.length = vs.length) : wrs h b 0 vs = some (h.set b (.row .fix vs)) := by
  rw [f.wr (by omega), setC_all hl]
abbrev T3 := Int × Int × Int
def kT : Option Value → T3
  | some (.agg ⟨[.int .u32 e, .int .u32 s, .int .i64 m]⟩) => (e, s, m)
  | _ => (0, 0, 0)
def tC (t : T3) : List Value := [.int .u32 t.1, .int .u32 t.2.1, .int .i64 t.2.2]
def flC (hs : Nat → Bool) (ks : Nat → T3) : List Value :=
  [.bool (hs 0), .bool (hs 1), .bool (hs 2), .bool (hs 3), .bool (hs 4), .bool (hs 5), .bool (hs 6), .bool (hs 7),
   .int .u32 (ks 0).1, .int .u32 (ks 0).2.1, .int .i64 (ks 0).2.2, .int .u32 (ks 1).1, .int .u32 (ks 1).2.1, .int .i64 (ks 1).2.2,
   .int .u32 (ks 2).1, .int .u32 (ks 2).2.1, .int .i64 (ks 2).2.2, .int .u32 (ks 3).1, .int .u32 (ks 3).2.1, .int .i64 (ks 3).2.2,
   .int .u32 (ks 4).1, .int .u32 (ks 4).2.1, .int .i64 (ks 4).2.2, .int .u32 (ks 5).1, .int .u32 (ks 5).2.1, .int .i64 (ks 5).2.2,
   .int .u32 (ks 6).1, .int .u32 (ks 6).2.1, .int .i64 (ks 6).2.2, .int .u32 (ks 7).1, .int .u32 (ks 7).2.1, .int .i64 (ks 7).2.2]
def upF {α : Type} (f : Nat → α) (d : Nat) (x : α) (i : Nat) : α := if i = d then x else f i
theorem flC_len (hs : Nat → Bool) (ks : Nat → T3) : (flC hs ks).length = 32 := rfl
theorem flC_has (hs : Nat → Bool) (ks : Nat → T3) {d : Nat} (h : d < 8) : ((flC hs ks).drop d).take 1 = [.bool (hs d)] := by
  rcases (show d = 0 ∨ d = 1 ∨ d = 2 ∨ d = 3 ∨ d = 4 ∨ d = 5 ∨ d = 6 ∨ d = 7 by omega) with rfl | rfl | rfl | rfl | rfl | rfl | rfl | rfl <;> rfl
theorem flC_key (hs : Nat → Bool) (ks : Nat → T3) {d : Nat} (h : d < 8) : ((flC hs ks).drop (8 + d * 3)).take 3 = tC (ks d) := by
  rcases (show d = 0 ∨ d = 1 ∨ d = 2 ∨ d = 3 ∨ d = 4 ∨ d = 5 ∨ d = 6 ∨ d = 7 by omega) with rfl | rfl | rfl | rfl | rfl | rfl | rfl | rfl <;> rfl
theorem flC_setH (hs : Nat → Bool) (ks : Nat → T3) {d : Nat} (h : d < 8) (b : Bool) : setC (flC hs ks) d [.bool b] = flC (upF hs d b) ks := by
  rcases (show d = 0 ∨ d = 1 ∨ d = 2 ∨ d = 3 ∨ d = 4 ∨ d = 5 ∨ d = 6 ∨ d = 7 by omega) with rfl | rfl | rfl | rfl | rfl | rfl | rfl | rfl <;> rfl
theorem flC_setK (hs : Nat → Bool) (ks : Nat → T3) {d : Nat} (h : d < 8) (t : T3) : setC (flC hs ks) (8 + d * 3) (tC t) = flC hs (upF ks d t) := by
  rcases (show d = 0 ∨ d = 1 ∨ d = 2 ∨ d = 3 ∨ d = 4 ∨ d = 5 ∨ d = 6 ∨ d = 7 by omega) with rfl | rfl | rfl | rfl | rfl | rfl | rfl | rfl <;> rfl
abbrev hsK (kc : List (Int × Value)) (i : Nat) : Bool := (getM (i : Int) kc).isSome
abbrev ksK (kc : List (Int × Value)) (i : Nat) : T3 := kT (getM (i : Int) kc)
def flK (kc : List (Int × Value)) : List Value := flC (hsK kc) (ksK kc)
theorem flK_len (kc : List (Int × Value)) : (flK kc).length = 32 := rfl
theorem flK_one (kc : List (Int × Value)) : (flK kc).all oneA = true := rfl
theorem flK_scalar (kc : List (Int × Value)) : (flK kc).all scalarB = true := rfl
theorem got_kT {kc : List (Int × Value)} (k : AllM isKV kc) (d : Int) : gotV (getM d kc) = .tuple #[.agg ⟨tC (kT (getM d kc))⟩, .bool (getM d kc).isSome] := by
  cases hg : getM d kc with
  | none => rfl
  | some v =>
    obtain ⟨e, s, m, rfl⟩ := k.get hg
    rfl
/-- All keys are destinations. -/
def InM (kc : List (Int × Value)) : Prop := ∀ p ∈ kc, 0 ≤ p.1 ∧ p.1 < 8
theorem InM.out {d : Int} (hd : d < 0 ∨ 8 ≤ d) : ∀ {kc : List (Int × Value)}, InM kc → getM d kc = none
  | [], _ => rfl
  | p :: r, k => by
    rw [getM_cons, if_neg (fun q => by have := k p (by simp); omega)]
    exact InM.out hd (fun q hq => k q (by simp [hq]))
theorem rget_spec {h : AHeap} {kc : List (Int × Value)} (k : AllM isKV kc) (ki : InM kc) (d : Int) : SpecX Try.prog nG fn.ref01_Floors_Get [.agg ⟨flK kc⟩, .int .i64 d] h fun v' h' => Pre h h' ∧ v' = gotV (getM d kc) := by
  refine SpecX.of_body (ir.ref01_Floors_Get.spec (Nat.le_of_ble_eq_true rfl)) ?_
  have ca : cellsA (.agg ⟨flK kc⟩) = some (flK kc) := rfl
  simp (dsimp := false) only [↓ir.ref01_Floors_Get.bw, ir.ref01_Floors_Get.rs, go_sem, Nat.reduceAdd, Nat.reduceEqDiff, Nat.reduceMul, Nat.reduceLeDiff, Nat.reduceSub, Nat.reduceLT, ↓reduceIte, reduceCtorEq, List.reduceReplicate, List.flatten_cons, List.flatten_nil, List.append_nil, eq_self, Int.reduceLE, Int.reduceLT, Int.reduceToNat, Nat.min_eq_left, Int.reducePow, Int.reduceNeg, Int.reduceEq, ca]
  by_cases c0 : d < 0
  · have d0 : decide (d < 0) = true := decide_eq_true c0
    simp (dsimp := false) only [go_sem, Nat.reduceAdd, Nat.reduceEqDiff, Nat.reduceMul, Nat.reduceLeDiff, Nat.reduceSub, Nat.reduceLT, ↓reduceIte, reduceCtorEq, List.reduceReplicate, List.flatten_cons, List.flatten_nil, List.append_nil, eq_self, Int.reduceLE, Int.reduceLT, Int.reduceToNat, Nat.min_eq_left, Int.reducePow, Int.reduceNeg, Int.reduceEq, d0]
    rw [ki.out (.inl c0)]
    rfl
  have d0 : decide (d < 0) = false := decide_eq_false c0
  by_cases c1 : d ≥ 8
  · have d1 : decide (d ≥ 8) = true := decide_eq_true c1
    have d1' : decide (8 ≤ d) = true := d1
    simp (dsimp := false) only [go_sem, Nat.reduceAdd, Nat.reduceEqDiff, Nat.reduceMul, Nat.reduceLeDiff, Nat.reduceSub, Nat.reduceLT, ↓reduceIte, reduceCtorEq, List.reduceReplicate, List.flatten_cons, List.flatten_nil, List.append_nil, eq_self, Int.reduceLE, Int.reduceLT, Int.reduceToNat, Nat.min_eq_left, Int.reducePow, Int.reduceNeg, Int.reduceEq, d0, d1, d1']
    rw [ki.out (.inr c1)]
    rfl
  have d1 : decide (d ≥ 8) = false := decide_eq_false c1
  have d1' : decide (8 ≤ d) = false := d1
  simp (dsimp := false) only [go_sem, Nat.reduceAdd, Nat.reduceEqDiff, Nat.reduceMul, Nat.reduceLeDiff, Nat.reduceSub, Nat.reduceLT, ↓reduceIte, reduceCtorEq, List.reduceReplicate, List.flatten_cons, List.flatten_nil, List.append_nil, eq_self, Int.reduceLE, Int.reduceLT, Int.reduceToNat, Nat.min_eq_left, Int.reducePow, Int.reduceNeg, Int.reduceEq, d0, d1, d1']
  obtain ⟨n, rfl, hn⟩ : ∃ n : Nat, d = n ∧ n < 8 := ⟨d.toNat, by omega, by omega⟩
  have f1 : ∀ cs, Fx (h ++ [AObj.row .fix (flK kc), AObj.row .fix cs]) h.length (flK kc) := fun cs => Fx.here _ _ _
  have rH : ∀ cs, rds (h ++ [AObj.row .fix (flK kc), AObj.row .fix cs]) h.length n 1 = some [.bool (hsK kc n)] := fun cs => (f1 cs).rd (flC_has _ _ hn) (by rw [flK_len]; simp; omega)
  have rK : ∀ cs, rds (h ++ [AObj.row .fix (flK kc), AObj.row .fix cs]) h.length (8 + n * 3) 3 = some (tC (ksK kc n)) := fun cs => (f1 cs).rd (flC_key _ _ hn) (by rw [flK_len]; simp [tC]; omega)
  have agt : ∀ t : T3, aggOf true (tC t) = some (.agg ⟨tC t⟩) := fun t => rfl
  have cat : ∀ t : T3, cellsA (.agg ⟨tC t⟩) = some (tC t) := fun t => rfl
  refine anyV_of [(4, .pointer (some ⟨h.length + 1, 0, none⟩)), (5, .bool (hsK kc n))] (h ++ [AObj.row .fix (flK kc), AObj.row .fix (tC (ksK kc n))]) ?_ ?_
  · refine wpA_calm _ _ (h ++ [AObj.row .fix (flK kc), AObj.row .fix (tC (ksK kc n))]) 8 [.int .i64 n, .pointer (some ⟨h.length, 8, none⟩), .pointer (some ⟨h.length, 8 + n * 3, none⟩), .agg ⟨tC (ksK kc n)⟩, .int .i64 n, .pointer (some ⟨h.length, 0, none⟩), .pointer (some ⟨h.length, 0 + n, none⟩), .bool (hsK kc n), undef, .bool (hsK kc n)] ?_ ?_ (by decide) ?_ ?_
    · decide
    · exact dst_inj (by decide)
    · intro i hi
      have fo : ∀ hh : AHeap, (hh = h ++ [AObj.row .fix (flK kc), AObj.row .fix [.int .u32 0, .int .u32 0, .int .i64 0]] ∨ hh = h ++ [AObj.row .fix (flK kc), AObj.row .fix (tC (ksK kc n))]) → rds hh h.length n 1 = some [.bool (hsK kc n)] ∧ rds hh h.length (8 + n * 3) 3 = some (tC (ksK kc n)) := fun hh c => by
        rcases c with rfl | rfl
        · exact ⟨rH _, rK _⟩
        · exact ⟨rH _, rK _⟩
      unfold calmOK
      match i, hi with
      | 0, _ =>
        intro e hh p q c
        have b1 := q 1 (dst_not (by decide))
        simp (dsimp := false) only [go_sem, Nat.reduceAdd, Nat.reduceEqDiff, Nat.reduceMul, Nat.reduceLeDiff, Nat.reduceSub, Nat.reduceLT, ↓reduceIte, reduceCtorEq, List.reduceReplicate, List.flatten_cons, List.flatten_nil, List.append_nil, eq_self, Int.reduceLE, Int.reduceLT, Int.reduceToNat, Nat.min_eq_left, Int.reducePow, Int.reduceNeg, Int.reduceEq, b1]
        exact rfl
      | 1, _ =>
        intro e hh p q c
        have b1 := q 2 (dst_not (by decide))
        simp (dsimp := false) only [go_sem, Nat.reduceAdd, Nat.reduceEqDiff, Nat.reduceMul, Nat.reduceLeDiff, Nat.reduceSub, Nat.reduceLT, ↓reduceIte, reduceCtorEq, List.reduceReplicate, List.flatten_cons, List.flatten_nil, List.append_nil, eq_self, Int.reduceLE, Int.reduceLT, Int.reduceToNat, Nat.min_eq_left, Int.reducePow, Int.reduceNeg, Int.reduceEq, b1]
        exact rfl
      | 2, _ =>
        intro e hh p q c
        have b1 := p 1 (by simp) _ _ rfl rfl
        have b2 := p 0 (by simp) _ _ rfl rfl
        simp only [List.getD, List.getElem?_cons_zero, List.getElem?_cons_succ, Option.getD_some] at b1 b2
        simp (dsimp := false) only [go_sem, Nat.reduceAdd, Nat.reduceEqDiff, Nat.reduceMul, Nat.reduceLeDiff, Nat.reduceSub, Nat.reduceLT, ↓reduceIte, reduceCtorEq, List.reduceReplicate, List.flatten_cons, List.flatten_nil, List.append_nil, eq_self, Int.reduceLE, Int.reduceLT, Int.reduceToNat, Nat.min_eq_left, Int.reducePow, Int.reduceNeg, Int.reduceEq, b1, b2, Int.toNat_natCast]
        exact ⟨by omega, rfl⟩
      | 3, _ =>
        intro e hh p q c
        have b1 := p 2 (by simp) _ _ rfl rfl
        simp only [List.getD, List.getElem?_cons_zero, List.getElem?_cons_succ, Option.getD_some] at b1
        rw [if_neg (by decide)] at c
        simp (dsimp := false) only [go_sem, Nat.reduceAdd, Nat.reduceEqDiff, Nat.reduceMul, Nat.reduceLeDiff, Nat.reduceSub, Nat.reduceLT, ↓reduceIte, reduceCtorEq, List.reduceReplicate, List.flatten_cons, List.flatten_nil, List.append_nil, eq_self, Int.reduceLE, Int.reduceLT, Int.reduceToNat, Nat.min_eq_left, Int.reducePow, Int.reduceNeg, Int.reduceEq, b1, (fo hh c).2, agt]
        exact rfl
      | 4, _ =>
        intro e hh p q c
        have b1 := q 1 (dst_not (by decide))
        simp (dsimp := false) only [go_sem, Nat.reduceAdd, Nat.reduceEqDiff, Nat.reduceMul, Nat.reduceLeDiff, Nat.reduceSub, Nat.reduceLT, ↓reduceIte, reduceCtorEq, List.reduceReplicate, List.flatten_cons, List.flatten_nil, List.append_nil, eq_self, Int.reduceLE, Int.reduceLT, Int.reduceToNat, Nat.min_eq_left, Int.reducePow, Int.reduceNeg, Int.reduceEq, b1]
        exact rfl
      | 5, _ =>
        intro e hh p q c
        have b1 := q 2 (dst_not (by decide))
        simp (dsimp := false) only [go_sem, Nat.reduceAdd, Nat.reduceEqDiff, Nat.reduceMul, Nat.reduceLeDiff, Nat.reduceSub, Nat.reduceLT, ↓reduceIte, reduceCtorEq, List.reduceReplicate, List.flatten_cons, List.flatten_nil, List.append_nil, eq_self, Int.reduceLE, Int.reduceLT, Int.reduceToNat, Nat.min_eq_left, Int.reducePow, Int.reduceNeg, Int.reduceEq, b1]
        exact rfl
      | 6, _ =>
        intro e hh p q c
        have b1 := p 5 (by simp) _ _ rfl rfl
        have b2 := p 4 (by simp) _ _ rfl rfl
        simp only [List.getD, List.getElem?_cons_zero, List.getElem?_cons_succ, Option.getD_some] at b1 b2
        simp (dsimp := false) only [go_sem, Nat.reduceAdd, Nat.reduceEqDiff, Nat.reduceMul, Nat.reduceLeDiff, Nat.reduceSub, Nat.reduceLT, ↓reduceIte, reduceCtorEq, List.reduceReplicate, List.flatten_cons, List.flatten_nil, List.append_nil, eq_self, Int.reduceLE, Int.reduceLT, Int.reduceToNat, Nat.min_eq_left, Int.reducePow, Int.reduceNeg, Int.reduceEq, b1, b2, Int.toNat_natCast]
        exact ⟨by omega, by simp⟩
      | 7, _ =>
        intro e hh p q c
        have b1 := p 6 (by simp) _ _ rfl rfl
        simp only [List.getD, List.getElem?_cons_zero, List.getElem?_cons_succ, Option.getD_some] at b1
        rw [if_neg (by decide)] at c
        have r1 := (fo hh c).1
        simp (dsimp := false) only [go_sem, Nat.reduceAdd, Nat.reduceEqDiff, Nat.reduceMul, Nat.reduceLeDiff, Nat.reduceSub, Nat.reduceLT, ↓reduceIte, reduceCtorEq, List.reduceReplicate, List.flatten_cons, List.flatten_nil, List.append_nil, eq_self, Int.reduceLE, Int.reduceLT, Int.reduceToNat, Nat.min_eq_left, Int.reducePow, Int.reduceNeg, Int.reduceEq, b1, Nat.zero_add, r1]
        exact rfl
      | 8, _ =>
        intro e hh p q c
        have b1 := q 4 (dst_not (by decide))
        have b2 := p 3 (by simp) _ _ rfl rfl
        simp only [List.getD, List.getElem?_cons_zero, List.getElem?_cons_succ, Option.getD_some] at b2
        rw [if_pos rfl] at c
        subst c
        simp (dsimp := false) only [go_sem, Nat.reduceAdd, Nat.reduceEqDiff, Nat.reduceMul, Nat.reduceLeDiff, Nat.reduceSub, Nat.reduceLT, ↓reduceIte, reduceCtorEq, List.reduceReplicate, List.flatten_cons, List.flatten_nil, List.append_nil, eq_self, Int.reduceLE, Int.reduceLT, Int.reduceToNat, Nat.min_eq_left, Int.reducePow, Int.reduceNeg, Int.reduceEq, b1, b2, cat]
        exact ⟨rfl, rfl, rfl, rfl⟩
      | 9, _ =>
        intro e hh p q c
        have b1 := p 7 (by simp) _ _ rfl rfl
        simp only [List.getD, List.getElem?_cons_zero, List.getElem?_cons_succ, Option.getD_some] at b1
        simp (dsimp := false) only [go_sem, Nat.reduceAdd, Nat.reduceEqDiff, Nat.reduceMul, Nat.reduceLeDiff, Nat.reduceSub, Nat.reduceLT, ↓reduceIte, reduceCtorEq, List.reduceReplicate, List.flatten_cons, List.flatten_nil, List.append_nil, eq_self, Int.reduceLE, Int.reduceLT, Int.reduceToNat, Nat.min_eq_left, Int.reducePow, Int.reduceNeg, Int.reduceEq, b1]
        exact rfl
    · intro e hd ho
      have b5 := hd 9 _ _ rfl rfl
      have b4 := ho 4 (dst_not (by decide))
      refine ⟨?_, rfl⟩
      show [(4, look e 4), (5, look e 5)] = _
      rw [b5, b4]
      rfl
  simp (dsimp := false) only [go_sem, Nat.reduceAdd, Nat.reduceEqDiff, Nat.reduceMul, Nat.reduceLeDiff, Nat.reduceSub, Nat.reduceLT, ↓reduceIte, reduceCtorEq, List.reduceReplicate, List.flatten_cons, List.flatten_nil, List.append_nil, eq_self, Int.reduceLE, Int.reduceLT, Int.reduceToNat, Nat.min_eq_left, Int.reducePow, Int.reduceNeg, Int.reduceEq]
  refine ⟨.app _ _, ?_⟩
  rw [got_kT k]
  rfl
end Go.Proofs.YtbomppdiiaodbaaRRR.B
