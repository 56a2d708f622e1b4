/-
  Layer 26: each kind of question is answered, for each destination.
-/
import Derived.Test.YtoiihalnbdehkaaDoorQd
import Derived.Test.YtoiihalnbdehkaaDoorQe
namespace Go.Proofs.YtoiihalnbdehkaaDoor.B
open Go
set_option linter.unusedVariables false
set_option linter.unusedSimpArgs false
set_option maxRecDepth 100000
/-- A source as it comes: its table may be none. -/
structure SrcL (h : AHeap) (C : List Value) (l : List Hop) : Prop where
  len : C.length = 68
  fib : ∃ v, (C.drop 0).take 1 = [v] ∧ Ls h 3 isH v l ∧ Fits l
  has : ∀ d, d < 8 → ∃ b, (C.drop (1 + d)).take 1 = [.bool b]
  flo : ∀ d, d < 8 → ∃ (e s : Nat) (m : Int), (C.drop (9 + d * 3)).take 3 = keyC e s m ∧ e < 4294967296 ∧ s < 4294967296 ∧ i64ok m
  live : ∃ v l, (C.drop 37).take 1 = [v] ∧ Ls h 1 isI v l
  roots : ∀ d, d < 8 → ∃ n, (C.drop (38 + d)).take 1 = [.int .i64 n] ∧ i64ok n
theorem SrcL.src {h : AHeap} {C : List Value} {l : List Hop} (k : SrcL h C l) (ht : IsTable l) : Src h C := ⟨k.len, let ⟨v, a, b, c⟩ := k.fib; ⟨v, l, a, b, c, ht⟩, k.has, k.flo, k.live, k.roots⟩
theorem setC_whole {cs vs : List Value} (hl : cs.length = vs.length) : setC cs 0 vs = vs := by
  rw [setC_eq (by omega)]
  simp [hl]
theorem digit_u8 {i : Nat} (hi : i < 8) : IntKind.u8.wrap (IntKind.i64.wrap (48 + (i : Int))) = ((48 + i : Nat) : Int) := by
  match i, hi with
  | 0, _ | 1, _ | 2, _ | 3, _ | 4, _ | 5, _ | 6, _ | 7, _ => rfl
theorem digit_st {i : Nat} (hi : i < 8) : ∃ c : UInt8, bytesS [((48 + i : Nat) : Int)] = ⟨#[c]⟩ ∧ c.toNat = 48 + i := by
  match i, hi with
  | 0, _ | 1, _ | 2, _ | 3, _ | 4, _ | 5, _ | 6, _ | 7, _ => exact ⟨_, rfl, rfl⟩
def verbs3 : List ByteArray := [⟨#[110, 101, 120, 116, 32]⟩, ⟨#[102, 108, 111, 111, 114, 32]⟩, ⟨#[114, 111, 111, 116, 115, 32]⟩]
abbrev isSt (c : List Value) (s : ByteArray) : Prop := c = [.string s]
theorem verbs_ls (h : AHeap) : Ls (h ++ [.row (.grow 1) [.string ⟨#[110, 101, 120, 116, 32]⟩, .string ⟨#[102, 108, 111, 111, 114, 32]⟩, .string ⟨#[114, 111, 111, 116, 115, 32]⟩]]) 1 isSt (.slice (some ⟨h.length, 0, none⟩) 3 3) verbs3 := by
  refine Sl.ls (enc := fun s => [.string s]) (fun _ => rfl) ?_ rfl
  exact litS (b := h.length) (cells := verbs3.flatMap fun s => [.string s]) (List.getElem?_concat_length) rfl (by unfold maxI; omega)
theorem queryEach_spec {h : AHeap} {C : List Value} {l : List Hop} (hg : PowV h) (k : SrcL h C l) : SpecX Tryd.prog nG fn.law26_QueryEach [.agg ⟨C⟩] h fun v' _ => v' = .bool true := by
  refine SpecX.of_body (ir.law26_QueryEach.spec (Nat.le_of_ble_eq_true rfl)) ?_
  obtain ⟨v, ev, ls, hf⟩ := k.fib
  obtain ⟨u, lu, eu, lsu⟩ := k.live
  have fx : Fx (h ++ [.row .fix C]) h.length C := Fx.here h C []
  have hp0 : Pre h (h ++ [.row .fix C]) := .app _ _
  have r0 : rds (h ++ [.row .fix C]) h.length 0 1 = some [v] := fx.rd ev (by rw [k.len]; omega)
  simp (dsimp := false) only [↓ir.law26_QueryEach.bw, ir.law26_QueryEach.rs, go_sem, Nat.reduceAdd, Nat.reduceEqDiff, Nat.reduceMul, Nat.reduceLeDiff, Nat.reduceSub, Nat.reduceLT, ↓reduceIte, reduceCtorEq, List.reduceReplicate, List.flatten_cons, List.flatten_nil, List.append_nil, eq_self, Int.reduceLE, Int.reduceLT, Int.reduceToNat, Nat.min_eq_left, Int.reducePow, Int.reduceNeg, Int.reduceEq, r0]
  refine callV_x (table_spec (ls.pre hp0)) ?_
  rintro _ h1 ⟨hp1, t, rfl, ht⟩
  have r37 : rds h1 h.length 37 1 = some [u] := (fx.pre hp1).rd eu (by rw [k.len]; omega)
  cases t with
  | false =>
    simp (dsimp := false) only [go_sem, Nat.reduceAdd, Nat.reduceEqDiff, Nat.reduceMul, Nat.reduceLeDiff, Nat.reduceSub, Nat.reduceLT, ↓reduceIte, reduceCtorEq, List.reduceReplicate, List.flatten_cons, List.flatten_nil, List.append_nil, eq_self, Int.reduceLE, Int.reduceLT, Int.reduceToNat, Nat.min_eq_left, Int.reducePow, Int.reduceNeg, Int.reduceEq, Bool.not_false, Bool.not_true]
    refine callV_of (qawake_spec _) ?_
    simp (dsimp := false) only [go_sem, Nat.reduceAdd, Nat.reduceEqDiff, Nat.reduceMul, Nat.reduceLeDiff, Nat.reduceSub, Nat.reduceLT, ↓reduceIte, reduceCtorEq, List.reduceReplicate, List.flatten_cons, List.flatten_nil, List.append_nil, eq_self, Int.reduceLE, Int.reduceLT, Int.reduceToNat, Nat.min_eq_left, Int.reducePow, Int.reduceNeg, Int.reduceEq]
  | true =>
    have src := k.src (ht.1 rfl)
    simp (dsimp := false) only [go_sem, Nat.reduceAdd, Nat.reduceEqDiff, Nat.reduceMul, Nat.reduceLeDiff, Nat.reduceSub, Nat.reduceLT, ↓reduceIte, reduceCtorEq, List.reduceReplicate, List.flatten_cons, List.flatten_nil, List.append_nil, eq_self, Int.reduceLE, Int.reduceLT, Int.reduceToNat, Nat.min_eq_left, Int.reducePow, Int.reduceNeg, Int.reduceEq, Bool.not_false, Bool.not_true, r37, lsu.lenV]
    refine cVd (fun _ => ?_) (fun _ => ?_)
    · simp (dsimp := false) only [go_sem, Nat.reduceAdd, Nat.reduceEqDiff, Nat.reduceMul, Nat.reduceLeDiff, Nat.reduceSub, Nat.reduceLT, ↓reduceIte, reduceCtorEq, List.reduceReplicate, List.flatten_cons, List.flatten_nil, List.append_nil, eq_self, Int.reduceLE, Int.reduceLT, Int.reduceToNat, Nat.min_eq_left, Int.reducePow, Int.reduceNeg, Int.reduceEq]
      refine callV_of (qawake_spec _) ?_
      simp (dsimp := false) only [go_sem, Nat.reduceAdd, Nat.reduceEqDiff, Nat.reduceMul, Nat.reduceLeDiff, Nat.reduceSub, Nat.reduceLT, ↓reduceIte, reduceCtorEq, List.reduceReplicate, List.flatten_cons, List.flatten_nil, List.append_nil, eq_self, Int.reduceLE, Int.reduceLT, Int.reduceToNat, Nat.min_eq_left, Int.reducePow, Int.reduceNeg, Int.reduceEq]
    · have hp01 : Pre h h1 := hp0.trans hp1
      have fx1 := fx.pre hp1
      generalize hb : h.length = b at fx1 ⊢
      simp (dsimp := false) only [go_sem, Nat.reduceAdd, Nat.reduceEqDiff, Nat.reduceMul, Nat.reduceLeDiff, Nat.reduceSub, Nat.reduceLT, ↓reduceIte, reduceCtorEq, List.reduceReplicate, List.flatten_cons, List.flatten_nil, List.append_nil, eq_self, Int.reduceLE, Int.reduceLT, Int.reduceToNat, Nat.min_eq_left, Int.reducePow, Int.reduceNeg, Int.reduceEq]
      refine loopV_of (fun m e h2 => ∃ i : Nat, m = 8 - i ∧ i ≤ 8 ∧ Pre h1 h2 ∧ e = [(1, .pointer (some ⟨b, 0, none⟩)), (19, .int .i64 i)]) _ ⟨0, rfl, Nat.zero_le _, .refl _, rfl⟩ ?_
      rintro m e h2 ⟨i, rfl, hi, hp, rfl⟩
      rcases Nat.lt_or_ge i 8 with hlt | hge
      · have e0 : decide ((i : Int) < 8) = true := decide_eq_true (by omega)
        simp (dsimp := false) only [↓ir.law26_QueryEach.l2.bw, go_sem, Nat.reduceAdd, Nat.reduceEqDiff, Nat.reduceMul, Nat.reduceLeDiff, Nat.reduceSub, Nat.reduceLT, ↓reduceIte, reduceCtorEq, List.reduceReplicate, List.flatten_cons, List.flatten_nil, List.append_nil, eq_self, Int.reduceLE, Int.reduceLT, Int.reduceToNat, Nat.min_eq_left, Int.reducePow, Int.reduceNeg, Int.reduceEq, e0]
        have vls := verbs_ls h2
        have hpi : Pre h2 (h2 ++ [.row (.grow 1) [.string ⟨#[110, 101, 120, 116, 32]⟩, .string ⟨#[102, 108, 111, 111, 114, 32]⟩, .string ⟨#[114, 111, 111, 116, 115, 32]⟩]]) := .app _ _
        generalize (h2 ++ [AObj.row (.grow 1) [.string ⟨#[110, 101, 120, 116, 32]⟩, .string ⟨#[102, 108, 111, 111, 114, 32]⟩, .string ⟨#[114, 111, 111, 116, 115, 32]⟩]]) = h3 at vls hpi ⊢
        generalize (Value.slice (some ⟨h2.length, 0, none⟩) 3 3) = vv at vls ⊢
        refine loopV_of (fun m e h4 => ∃ j : Nat, m = 3 - j ∧ j ≤ 3 ∧ Pre h3 h4 ∧ e = [(1, .pointer (some ⟨b, 0, none⟩)), (3, .int .i64 i), (19, .int .i64 i), (22, vv), (23, .int .i64 3), (24, .int .i64 j)]) _ ⟨0, rfl, Nat.zero_le _, .refl _, rfl⟩ ?_
        rintro m e h4 ⟨j, rfl, hj, hp4, rfl⟩
        rcases Nat.lt_or_ge j 3 with jlt | jge
        · have e1 : decide ((j : Int) < 3) = true := decide_eq_true (by omega)
          have hp14 : Pre h1 h4 := (hp.trans hpi).trans hp4
          have rC : rds h4 b 0 68 = some C := (fx1.pre hp14).rd (by rw [List.drop_zero, List.take_of_length_le (by rw [k.len]; omega)]) (by rw [k.len]; omega)
          obtain ⟨c, hc, hc2, q0, q1⟩ := vls.rd2 hp4 (i := j) (by exact jlt)
          subst hc2
          simp (dsimp := false) only [↓ir.law26_QueryEach.l1.bw, go_sem, Nat.reduceAdd, Nat.reduceEqDiff, Nat.reduceMul, Nat.reduceLeDiff, Nat.reduceSub, Nat.reduceLT, ↓reduceIte, reduceCtorEq, List.reduceReplicate, List.flatten_cons, List.flatten_nil, List.append_nil, eq_self, Int.reduceLE, Int.reduceLT, Int.reduceToNat, Nat.min_eq_left, Int.reducePow, Int.reduceNeg, Int.reduceEq, e1, vls.ixsN (show j < verbs3.length from jlt), q0, q1, rC]
          rw [if_pos ⟨k.len, by simp [zrep]⟩, setC_whole (by rw [k.len]; rfl)]
          simp (dsimp := false) only [go_sem, Nat.reduceAdd, Nat.reduceEqDiff, Nat.reduceMul, Nat.reduceLeDiff, Nat.reduceSub, Nat.reduceLT, ↓reduceIte, reduceCtorEq, List.reduceReplicate, List.flatten_cons, List.flatten_nil, List.append_nil, eq_self, Int.reduceLE, Int.reduceLT, Int.reduceToNat, Nat.min_eq_left, Int.reducePow, Int.reduceNeg, Int.reduceEq, wpI_mkiface, ifaceV]
          rw [digit_u8 hlt]
          obtain ⟨c, hc, hcn⟩ := digit_st hlt
          have hbt : ∀ {K : Value → AHeap → Prop} {w : Hold K}, btsV (.slice (some ⟨h4.length, 0, none⟩) 1 1) (h4 ++ [.row (.grow 1) [.int .u8 ((48 + i : Nat) : Int)]]) K w = K (.string ⟨#[c]⟩) (h4 ++ [.row (.grow 1) [.int .u8 ((48 + i : Nat) : Int)]]) := by
            intro K w
            simp only [btsV, rds_app0, rds_zero, List.length_cons, List.length_nil, List.drop_zero, List.take_succ_cons, List.take_zero, Nat.zero_add, Nat.le_refl, if_true, Option.bind_some, bytesA, Option.map_some, hc]
          rw [hbt]
          simp (dsimp := false) only [go_sem, Nat.reduceAdd, Nat.reduceEqDiff, Nat.reduceMul, Nat.reduceLeDiff, Nat.reduceSub, Nat.reduceLT, ↓reduceIte, reduceCtorEq, List.reduceReplicate, List.flatten_cons, List.flatten_nil, List.append_nil, eq_self, Int.reduceLE, Int.reduceLT, Int.reduceToNat, Nat.min_eq_left, Int.reducePow, Int.reduceNeg, Int.reduceEq]
          have hps : Pre h (h4 ++ [.row (.grow 1) [.int .u8 ((48 + i : Nat) : Int)]]) := (hp01.trans hp14).app' _
          have hp15 : Pre h1 (h4 ++ [.row (.grow 1) [.int .u8 ((48 + i : Nat) : Int)]]) := hp14.app' _
          have hp35 : Pre h3 (h4 ++ [.row (.grow 1) [.int .u8 ((48 + i : Nat) : Int)]]) := hp4.app' _
          have ask : SpecX Tryd.prog nG fn.query_Ask [.iface 105 (.agg C.toArray), .string (verbs3[j] ++ ⟨#[c]⟩)] (h4 ++ [.row (.grow 1) [.int .u8 ((48 + i : Nat) : Int)]]) fun v' h' => Pre (h4 ++ [.row (.grow 1) [.int .u8 ((48 + i : Nat) : Int)]]) h' ∧ One v' := by
            match j, jlt with
            | 0, _ => exact ask_next (src.pre hps) (hg.pre hps) hlt hcn
            | 1, _ => exact ask_floor (src.pre hps) (hg.pre hps) hlt hcn
            | 2, _ => exact ask_roots (src.pre hps) (hg.pre hps) hlt hcn
          refine ⟨by match j, jlt with | 0, _ | 1, _ | 2, _ => exact Nat.le_of_ble_eq_true rfl, callV_x ask ?_⟩
          generalize (h4 ++ [AObj.row (.grow 1) [.int .u8 ((48 + i : Nat) : Int)]]) = h5 at hp35 ⊢
          rintro _ h6 ⟨hp6, p, rfl⟩
          have wj : IntKind.i64.wrap ((j : Int) + 1) = ((j + 1 : Nat) : Int) := wrap_succ jlt (by unfold maxI; omega)
          simp (dsimp := false) only [go_sem, Nat.reduceAdd, Nat.reduceEqDiff, Nat.reduceMul, Nat.reduceLeDiff, Nat.reduceSub, Nat.reduceLT, ↓reduceIte, reduceCtorEq, List.reduceReplicate, List.flatten_cons, List.flatten_nil, List.append_nil, eq_self, Int.reduceLE, Int.reduceLT, Int.reduceToNat, Nat.min_eq_left, Int.reducePow, Int.reduceNeg, Int.reduceEq, wj, (show ((0 : Int) != 0) = false from rfl), (show ((1 : Int) != 1) = false from rfl), (show (((1 : Nat) : Int) != 1) = false from rfl)]
          exact ⟨3 - (j + 1), by omega, j + 1, rfl, jlt, hp35.trans hp6, rfl⟩
        · have e1 : decide ((j : Int) < 3) = false := decide_eq_false (by omega)
          simp (dsimp := false) only [↓ir.law26_QueryEach.l1.bw, go_sem, Nat.reduceAdd, Nat.reduceEqDiff, Nat.reduceMul, Nat.reduceLeDiff, Nat.reduceSub, Nat.reduceLT, ↓reduceIte, reduceCtorEq, List.reduceReplicate, List.flatten_cons, List.flatten_nil, List.append_nil, eq_self, Int.reduceLE, Int.reduceLT, Int.reduceToNat, Nat.min_eq_left, Int.reducePow, Int.reduceNeg, Int.reduceEq, e1]
          have wi : IntKind.i64.wrap ((i : Int) + 1) = ((i + 1 : Nat) : Int) := wrap_succ hlt (by unfold maxI; omega)
          rw [wi]
          exact ⟨8 - (i + 1), by omega, i + 1, rfl, hlt, (hp.trans hpi).trans hp4, rfl⟩
      · have e0 : decide ((i : Int) < 8) = false := decide_eq_false (by omega)
        simp (dsimp := false) only [↓ir.law26_QueryEach.l2.bw, go_sem, Nat.reduceAdd, Nat.reduceEqDiff, Nat.reduceMul, Nat.reduceLeDiff, Nat.reduceSub, Nat.reduceLT, ↓reduceIte, reduceCtorEq, List.reduceReplicate, List.flatten_cons, List.flatten_nil, List.append_nil, eq_self, Int.reduceLE, Int.reduceLT, Int.reduceToNat, Nat.min_eq_left, Int.reducePow, Int.reduceNeg, Int.reduceEq, e0]
        refine callV_of (qawake_spec _) ?_
        simp (dsimp := false) only [go_sem, Nat.reduceAdd, Nat.reduceEqDiff, Nat.reduceMul, Nat.reduceLeDiff, Nat.reduceSub, Nat.reduceLT, ↓reduceIte, reduceCtorEq, List.reduceReplicate, List.flatten_cons, List.flatten_nil, List.append_nil, eq_self, Int.reduceLE, Int.reduceLT, Int.reduceToNat, Nat.min_eq_left, Int.reducePow, Int.reduceNeg, Int.reduceEq]
end Go.Proofs.YtoiihalnbdehkaaDoor.B
