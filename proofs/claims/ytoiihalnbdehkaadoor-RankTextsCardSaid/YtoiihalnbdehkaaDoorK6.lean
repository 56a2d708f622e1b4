/-
  Layer 1: a key's text, and back (P1.3).
-/
import Derived.Test.YtoiihalnbdehkaaDoorK5
namespace Go.Proofs.YtoiihalnbdehkaaDoor.B
open Go
set_option linter.unusedVariables false
set_option linter.unusedSimpArgs false
set_option maxRecDepth 100000
abbrev i64ok (n : Int) : Prop := -9223372036854775808 ≤ n ∧ n ≤ 9223372036854775807
/-- A key's text. -/
def keyS (e s : Nat) (m : Int) : ByteArray := decS e ++ ⟨#[46]⟩ ++ decS s ++ ⟨#[47]⟩ ++ wholeS m
theorem keyS_size {e s : Nat} {m : Int} (he : e < 4294967296) (hs : s < 4294967296) (hm : i64ok m) : (keyS e s m).size ≤ 63 := by
  have h1 := decS_size (u := e) (by omega)
  have h2 := decS_size (u := s) (by omega)
  have h3 := wholeS_size hm
  unfold keyS
  simp only [ByteArray.size_append, size_mk, List.size_toArray, List.length_cons, List.length_nil]
  omega
theorem rankText_spec {h : AHeap} (hg : PowV h) {e s : Nat} {m : Int} (he : e < 4294967296) (hs : s < 4294967296) (hm : i64ok m) : Spec Tryd.prog nG fn.rank_Text [.agg #[.int .u32 e, .int .u32 s, .int .i64 m]] h (.string (keyS e s m)) h := by
  apply ir.rank_Text.spec (Nat.le_of_ble_eq_true rfl)
  have h1 := decS_size (u := e) (by omega)
  have h2 := decS_size (u := s) (by omega)
  have h3 := wholeS_size hm
  have w1 := wrapU64 (show e < 18446744073709551616 by omega)
  have w2 := wrapU64 (show s < 18446744073709551616 by omega)
  have hg2 : ∀ g, PowV (h ++ g) := fun g => hg.pre (.app _ _)
  simp (dsimp := false) only [↓ir.rank_Text.bw, ir.rank_Text.rs, go_sem, Nat.reduceAdd, Nat.reduceEqDiff, Nat.reduceMul, Nat.reduceLeDiff, Nat.reduceSub, Nat.reduceLT, ↓reduceIte, reduceCtorEq, List.reduceReplicate, List.flatten_cons, List.flatten_nil, List.append_nil, eq_self, Int.reduceLE, Int.reduceLT, Int.reduceToNat, Nat.min_eq_left, Int.reducePow, Int.reduceNeg, Int.reduceEq, w1]
  refine callV_of (formatUint_spec (hg2 _) (by omega)) ?_
  simp (dsimp := false) only [go_sem, Nat.reduceAdd, Nat.reduceEqDiff, Nat.reduceMul, Nat.reduceLeDiff, Nat.reduceSub, Nat.reduceLT, ↓reduceIte, reduceCtorEq, List.reduceReplicate, List.flatten_cons, List.flatten_nil, List.append_nil, eq_self, Int.reduceLE, Int.reduceLT, Int.reduceToNat, Nat.min_eq_left, Int.reducePow, Int.reduceNeg, Int.reduceEq, w2]
  refine ⟨by simp only [ByteArray.size_append, size_mk, List.size_toArray, List.length_cons, List.length_nil]; omega, ?_⟩
  refine callV_of (formatUint_spec (hg2 _) (by omega)) ?_
  simp (dsimp := false) only [go_sem, Nat.reduceAdd, Nat.reduceEqDiff, Nat.reduceMul, Nat.reduceLeDiff, Nat.reduceSub, Nat.reduceLT, ↓reduceIte, reduceCtorEq, List.reduceReplicate, List.flatten_cons, List.flatten_nil, List.append_nil, eq_self, Int.reduceLE, Int.reduceLT, Int.reduceToNat, Nat.min_eq_left, Int.reducePow, Int.reduceNeg, Int.reduceEq]
  refine ⟨by simp only [ByteArray.size_append, size_mk, List.size_toArray, List.length_cons, List.length_nil]; omega, ?_⟩
  refine ⟨by simp only [ByteArray.size_append, size_mk, List.size_toArray, List.length_cons, List.length_nil]; omega, ?_⟩
  refine callV_of (itoa_spec (hg2 _) hm) ?_
  simp (dsimp := false) only [go_sem, Nat.reduceAdd, Nat.reduceEqDiff, Nat.reduceMul, Nat.reduceLeDiff, Nat.reduceSub, Nat.reduceLT, ↓reduceIte, reduceCtorEq, List.reduceReplicate, List.flatten_cons, List.flatten_nil, List.append_nil, eq_self, Int.reduceLE, Int.reduceLT, Int.reduceToNat, Nat.min_eq_left, Int.reducePow, Int.reduceNeg, Int.reduceEq]
  refine ⟨by simp only [ByteArray.size_append, size_mk, List.size_toArray, List.length_cons, List.length_nil]; omega, ?_⟩
  exact Fin.sc rfl rfl
theorem rtext_spec (h : AHeap) {e s : Nat} {m : Int} (he : e < 4294967296) (hs : s < 4294967296) (hm : i64ok m) : Spec Tryd.prog nG fn.ref01_Text [.agg #[.int .u32 e, .int .u32 s, .int .i64 m]] h (.string (keyS e s m)) h := by
  apply ir.ref01_Text.spec (Nat.le_of_ble_eq_true rfl)
  have h1 := decS_size (u := e) (by omega)
  have h2 := decS_size (u := s) (by omega)
  have h3 := wholeS_size hm
  have w1 := wrapU64 (show e < 18446744073709551616 by omega)
  have w2 := wrapU64 (show s < 18446744073709551616 by omega)
  simp (dsimp := false) only [↓ir.ref01_Text.bw, ir.ref01_Text.rs, go_sem, Nat.reduceAdd, Nat.reduceEqDiff, Nat.reduceMul, Nat.reduceLeDiff, Nat.reduceSub, Nat.reduceLT, ↓reduceIte, reduceCtorEq, List.reduceReplicate, List.flatten_cons, List.flatten_nil, List.append_nil, eq_self, Int.reduceLE, Int.reduceLT, Int.reduceToNat, Nat.min_eq_left, Int.reducePow, Int.reduceNeg, Int.reduceEq, w1]
  refine callV_of (decimal_spec _ (by omega)) ?_
  simp (dsimp := false) only [go_sem, Nat.reduceAdd, Nat.reduceEqDiff, Nat.reduceMul, Nat.reduceLeDiff, Nat.reduceSub, Nat.reduceLT, ↓reduceIte, reduceCtorEq, List.reduceReplicate, List.flatten_cons, List.flatten_nil, List.append_nil, eq_self, Int.reduceLE, Int.reduceLT, Int.reduceToNat, Nat.min_eq_left, Int.reducePow, Int.reduceNeg, Int.reduceEq, w2]
  refine ⟨by simp only [ByteArray.size_append, size_mk, List.size_toArray, List.length_cons, List.length_nil]; omega, ?_⟩
  refine callV_of (decimal_spec _ (by omega)) ?_
  simp (dsimp := false) only [go_sem, Nat.reduceAdd, Nat.reduceEqDiff, Nat.reduceMul, Nat.reduceLeDiff, Nat.reduceSub, Nat.reduceLT, ↓reduceIte, reduceCtorEq, List.reduceReplicate, List.flatten_cons, List.flatten_nil, List.append_nil, eq_self, Int.reduceLE, Int.reduceLT, Int.reduceToNat, Nat.min_eq_left, Int.reducePow, Int.reduceNeg, Int.reduceEq]
  refine ⟨by simp only [ByteArray.size_append, size_mk, List.size_toArray, List.length_cons, List.length_nil]; omega, ?_⟩
  refine ⟨by simp only [ByteArray.size_append, size_mk, List.size_toArray, List.length_cons, List.length_nil]; omega, ?_⟩
  refine callV_of (rwhole_spec _ hm) ?_
  simp (dsimp := false) only [go_sem, Nat.reduceAdd, Nat.reduceEqDiff, Nat.reduceMul, Nat.reduceLeDiff, Nat.reduceSub, Nat.reduceLT, ↓reduceIte, reduceCtorEq, List.reduceReplicate, List.flatten_cons, List.flatten_nil, List.append_nil, eq_self, Int.reduceLE, Int.reduceLT, Int.reduceToNat, Nat.min_eq_left, Int.reducePow, Int.reduceNeg, Int.reduceEq]
  refine ⟨by simp only [ByteArray.size_append, size_mk, List.size_toArray, List.length_cons, List.length_nil]; omega, ?_⟩
  exact Fin.sc rfl rfl
theorem to01_spec (h : AHeap) (e s m : Int) : Spec Tryd.prog nG fn.law01_To [.agg #[.int .u32 e, .int .u32 s, .int .i64 m]] h (.agg #[.int .u32 e, .int .u32 s, .int .i64 m]) h := by
  apply ir.law01_To.spec (Nat.le_of_ble_eq_true rfl)
  simp (dsimp := false) only [↓ir.law01_To.bw, ir.law01_To.rs, go_sem, Nat.reduceAdd, Nat.reduceEqDiff, Nat.reduceMul, Nat.reduceLeDiff, Nat.reduceSub, Nat.reduceLT, ↓reduceIte, reduceCtorEq, List.reduceReplicate, List.flatten_cons, List.flatten_nil, List.append_nil, eq_self, Int.reduceLE, Int.reduceLT, Int.reduceToNat, Nat.min_eq_left, Int.reducePow, Int.reduceNeg, Int.reduceEq]
  exact Fin.agg rfl rfl
theorem from01_spec (h : AHeap) (e s m : Int) : Spec Tryd.prog nG fn.law01_From [.agg #[.int .u32 e, .int .u32 s, .int .i64 m]] h (.agg #[.int .u32 e, .int .u32 s, .int .i64 m]) h := by
  apply ir.law01_From.spec (Nat.le_of_ble_eq_true rfl)
  simp (dsimp := false) only [↓ir.law01_From.bw, ir.law01_From.rs, go_sem, Nat.reduceAdd, Nat.reduceEqDiff, Nat.reduceMul, Nat.reduceLeDiff, Nat.reduceSub, Nat.reduceLT, ↓reduceIte, reduceCtorEq, List.reduceReplicate, List.flatten_cons, List.flatten_nil, List.append_nil, eq_self, Int.reduceLE, Int.reduceLT, Int.reduceToNat, Nat.min_eq_left, Int.reducePow, Int.reduceNeg, Int.reduceEq]
  exact Fin.agg rfl rfl
theorem keyS_list (e s : Nat) (m : Int) : (keyS e s m).data.toList = decL e ++ 46 :: (decL s ++ 47 :: (wholeS m).data.toList) := by
  simp [keyS, ByteArray.data_append]
theorem numL_whole {m : Int} : numL 15 (wholeS m).data.toList = if 0 ≤ m ∧ m ≤ 15 then some m.toNat else none := by
  unfold wholeS
  by_cases c : m < 0
  · rw [if_pos c, if_neg (by omega)]
    apply numL_bad
    simp [ByteArray.data_append, bytesS, ByteArray.push, digs]
  · rw [if_neg c]
    by_cases c2 : m.toNat ≤ 15
    · rw [numL_dec c2, if_pos (by omega)]
    · rw [numL_big c2, if_neg (by omega)]
theorem prs_key (e s : Nat) (m : Int) : prs 65536 63 15 (keyS e s m).data.toList = if e ≤ 65536 ∧ s < 64 ∧ 0 ≤ m ∧ m ≤ 15 then some (e, s, m.toNat) else none := by
  rw [keyS_list]
  by_cases c : e ≤ 65536 ∧ s ≤ 63
  · rw [prs_text _ c.1 c.2, numL_whole]
    by_cases c2 : 0 ≤ m ∧ m ≤ 15
    · rw [if_pos c2, if_pos ⟨c.1, by omega, c2⟩]; rfl
    · rw [if_neg c2, if_neg (fun q => c2 q.2.2)]; rfl
  · rw [prs_textN _ c, if_neg (fun q => c ⟨q.1, by omega⟩)]
def powRow : List Value := (List.range 20).map fun i => .int .u64 ((10 ^ i : Nat) : Int)
structure TextV (h : AHeap) : Prop where
  pow : h[gv.internal_strconv_uint64pow10]? = some (.row .ro powRow)
  syn : ∃ te, h[gv.strconv_ErrSyntax]? = some (.row .ro [.iface te undef])
  rng : ∃ te, h[gv.strconv_ErrRange]? = some (.row .ro [.iface te undef])
theorem TextV.powV {h : AHeap} (k : TextV h) : PowV h := by
  have := k.pow
  unfold PowV rds
  rw [this]; rfl
theorem TextV.errV {h : AHeap} (k : TextV h) : ErrV h := ⟨let ⟨te, q⟩ := k.syn; ⟨_, te, q⟩, let ⟨te, q⟩ := k.rng; ⟨_, te, q⟩⟩
theorem rankTexts_spec {h : AHeap} (k : ErrV h) (hg : PowV h) {e s : Nat} {m : Int} (he : e < 4294967296) (hs : s < 4294967296) (hm : i64ok m) {t : ByteArray} (ht : t.size ≤ 140737488351232) :
    SpecX Tryd.prog nG fn.law01_RankTexts [.agg #[.int .u32 (e : Int), .int .u32 (s : Int), .int .i64 m], .string t] h fun v' _ => v' = .bool true := by
  refine SpecX.of_body (ir.law01_RankTexts.spec (Nat.le_of_ble_eq_true rfl)) ?_
  have k2 : ∀ g, ErrV (h ++ g) := fun g => k.pre (.app _ _)
  have g2 : ∀ g, PowV (h ++ g) := fun g => hg.pre (.app _ _)
  have kz := keyS_size he hs hm
  simp (dsimp := false) only [↓ir.law01_RankTexts.bw, ir.law01_RankTexts.rs, go_sem, Nat.reduceAdd, Nat.reduceEqDiff, Nat.reduceMul, Nat.reduceLeDiff, Nat.reduceSub, Nat.reduceLT, ↓reduceIte, reduceCtorEq, List.reduceReplicate, List.flatten_cons, List.flatten_nil, List.append_nil, eq_self, Int.reduceLE, Int.reduceLT, Int.reduceToNat, Nat.min_eq_left, Int.reducePow, Int.reduceNeg, Int.reduceEq]
  refine callV_of (parse_spec (k2 _) (g2 _) ht) ?_
  obtain ⟨X, hX⟩ : ∃ X, prs 65536 63 15 t.data.toList = X := ⟨_, rfl⟩
  rw [hX]
  obtain ⟨xe, xs, xm, xf, ex⟩ : ∃ (xe xs xm : Nat) (xf : Int), parV X = .tuple #[keyV xe xs xm, .int .i64 xf] := by
    cases X with
    | none => exact ⟨0, 0, 0, 10, rfl⟩
    | some y => exact ⟨y.1, y.2.1, y.2.2, 0, rfl⟩
  rw [ex]
  simp (dsimp := false) only [go_sem, Nat.reduceAdd, Nat.reduceEqDiff, Nat.reduceMul, Nat.reduceLeDiff, Nat.reduceSub, Nat.reduceLT, ↓reduceIte, reduceCtorEq, List.reduceReplicate, List.flatten_cons, List.flatten_nil, List.append_nil, eq_self, Int.reduceLE, Int.reduceLT, Int.reduceToNat, Nat.min_eq_left, Int.reducePow, Int.reduceNeg, Int.reduceEq]
  refine callV_of (rparse_spec _ ht) ?_
  rw [hX, ex]
  simp (dsimp := false) only [go_sem, Nat.reduceAdd, Nat.reduceEqDiff, Nat.reduceMul, Nat.reduceLeDiff, Nat.reduceSub, Nat.reduceLT, ↓reduceIte, reduceCtorEq, List.reduceReplicate, List.flatten_cons, List.flatten_nil, List.append_nil, eq_self, Int.reduceLE, Int.reduceLT, Int.reduceToNat, Nat.min_eq_left, Int.reducePow, Int.reduceNeg, Int.reduceEq]
  refine callV_of (to01_spec _ _ _ _) ?_
  simp (dsimp := false) only [go_sem, Nat.reduceAdd, Nat.reduceEqDiff, Nat.reduceMul, Nat.reduceLeDiff, Nat.reduceSub, Nat.reduceLT, ↓reduceIte, reduceCtorEq, List.reduceReplicate, List.flatten_cons, List.flatten_nil, List.append_nil, eq_self, Int.reduceLE, Int.reduceLT, Int.reduceToNat, Nat.min_eq_left, Int.reducePow, Int.reduceNeg, Int.reduceEq]
  refine callV_of (rankText_spec (g2 _) he hs hm) ?_
  simp (dsimp := false) only [go_sem, Nat.reduceAdd, Nat.reduceEqDiff, Nat.reduceMul, Nat.reduceLeDiff, Nat.reduceSub, Nat.reduceLT, ↓reduceIte, reduceCtorEq, List.reduceReplicate, List.flatten_cons, List.flatten_nil, List.append_nil, eq_self, Int.reduceLE, Int.reduceLT, Int.reduceToNat, Nat.min_eq_left, Int.reducePow, Int.reduceNeg, Int.reduceEq]
  refine callV_of (parse_spec (k2 _) (g2 _) (by omega)) ?_
  rw [prs_key]
  have r0 : ∀ h, Spec Tryd.prog nG fn.rank_Right [.agg #[.int .u32 0, .int .u32 0, .int .i64 0]] h (.bool true) h := fun h => right_spec h 0 0 0
  by_cases c : e ≤ 65536 ∧ s < 64 ∧ 0 ≤ m ∧ m ≤ 15
  · have mm : (m.toNat : Int) = m := by omega
    rw [if_pos c, show parV (some (e, s, m.toNat)) = .tuple #[.agg #[.int .u32 (e : Int), .int .u32 (s : Int), .int .i64 m], .int .i64 0] by simp only [parV, mm]]
    simp (dsimp := false) only [go_sem, Nat.reduceAdd, Nat.reduceEqDiff, Nat.reduceMul, Nat.reduceLeDiff, Nat.reduceSub, Nat.reduceLT, ↓reduceIte, reduceCtorEq, List.reduceReplicate, List.flatten_cons, List.flatten_nil, List.append_nil, eq_self, Int.reduceLE, Int.reduceLT, Int.reduceToNat, Nat.min_eq_left, Int.reducePow, Int.reduceNeg, Int.reduceEq]
    refine callV_of (r0 _) ?_
    simp (dsimp := false) only [go_sem, Nat.reduceAdd, Nat.reduceEqDiff, Nat.reduceMul, Nat.reduceLeDiff, Nat.reduceSub, Nat.reduceLT, ↓reduceIte, reduceCtorEq, List.reduceReplicate, List.flatten_cons, List.flatten_nil, List.append_nil, eq_self, Int.reduceLE, Int.reduceLT, Int.reduceToNat, Nat.min_eq_left, Int.reducePow, Int.reduceNeg, Int.reduceEq]
    refine callV_of (to01_spec _ _ _ _) ?_
    simp (dsimp := false) only [go_sem, Nat.reduceAdd, Nat.reduceEqDiff, Nat.reduceMul, Nat.reduceLeDiff, Nat.reduceSub, Nat.reduceLT, ↓reduceIte, reduceCtorEq, List.reduceReplicate, List.flatten_cons, List.flatten_nil, List.append_nil, eq_self, Int.reduceLE, Int.reduceLT, Int.reduceToNat, Nat.min_eq_left, Int.reducePow, Int.reduceNeg, Int.reduceEq]
    refine callV_of (rankText_spec (g2 _) he hs hm) ?_
    simp (dsimp := false) only [go_sem, Nat.reduceAdd, Nat.reduceEqDiff, Nat.reduceMul, Nat.reduceLeDiff, Nat.reduceSub, Nat.reduceLT, ↓reduceIte, reduceCtorEq, List.reduceReplicate, List.flatten_cons, List.flatten_nil, List.append_nil, eq_self, Int.reduceLE, Int.reduceLT, Int.reduceToNat, Nat.min_eq_left, Int.reducePow, Int.reduceNeg, Int.reduceEq]
    refine callV_of (rtext_spec _ he hs hm) ?_
    simp (dsimp := false) only [go_sem, Nat.reduceAdd, Nat.reduceEqDiff, Nat.reduceMul, Nat.reduceLeDiff, Nat.reduceSub, Nat.reduceLT, ↓reduceIte, reduceCtorEq, List.reduceReplicate, List.flatten_cons, List.flatten_nil, List.append_nil, eq_self, Int.reduceLE, Int.reduceLT, Int.reduceToNat, Nat.min_eq_left, Int.reducePow, Int.reduceNeg, Int.reduceEq, beq_self_eq_true]
    refine callV_of (from01_spec _ _ _ _) ?_
    simp (dsimp := false) only [go_sem, Nat.reduceAdd, Nat.reduceEqDiff, Nat.reduceMul, Nat.reduceLeDiff, Nat.reduceSub, Nat.reduceLT, ↓reduceIte, reduceCtorEq, List.reduceReplicate, List.flatten_cons, List.flatten_nil, List.append_nil, eq_self, Int.reduceLE, Int.reduceLT, Int.reduceToNat, Nat.min_eq_left, Int.reducePow, Int.reduceNeg, Int.reduceEq, eqCells_cons, eqCells_nil, keyEqI, beq_self_eq_true]
    refine callV_of (rright_spec _ e s m) ?_
    rw [decide_eq_true c]
    simp (dsimp := false) only [go_sem, Nat.reduceAdd, Nat.reduceEqDiff, Nat.reduceMul, Nat.reduceLeDiff, Nat.reduceSub, Nat.reduceLT, ↓reduceIte, reduceCtorEq, List.reduceReplicate, List.flatten_cons, List.flatten_nil, List.append_nil, eq_self, Int.reduceLE, Int.reduceLT, Int.reduceToNat, Nat.min_eq_left, Int.reducePow, Int.reduceNeg, Int.reduceEq, bne_self_eq_false, beq_self_eq_true]
    refine callV_of (from01_spec _ _ _ _) ?_
    simp (dsimp := false) only [go_sem, Nat.reduceAdd, Nat.reduceEqDiff, Nat.reduceMul, Nat.reduceLeDiff, Nat.reduceSub, Nat.reduceLT, ↓reduceIte, reduceCtorEq, List.reduceReplicate, List.flatten_cons, List.flatten_nil, List.append_nil, eq_self, Int.reduceLE, Int.reduceLT, Int.reduceToNat, Nat.min_eq_left, Int.reducePow, Int.reduceNeg, Int.reduceEq, eqCells_cons, eqCells_nil, keyEqI, beq_self_eq_true]
  · rw [if_neg c, show parV none = .tuple #[.agg #[.int .u32 0, .int .u32 0, .int .i64 0], .int .i64 10] from rfl]
    have n0 : ((10 : Int) == 0) = false := rfl
    have n1 : ((10 : Int) != 0) = true := rfl
    simp (dsimp := false) only [go_sem, Nat.reduceAdd, Nat.reduceEqDiff, Nat.reduceMul, Nat.reduceLeDiff, Nat.reduceSub, Nat.reduceLT, ↓reduceIte, reduceCtorEq, List.reduceReplicate, List.flatten_cons, List.flatten_nil, List.append_nil, eq_self, Int.reduceLE, Int.reduceLT, Int.reduceToNat, Nat.min_eq_left, Int.reducePow, Int.reduceNeg, Int.reduceEq]
    refine callV_of (r0 _) ?_
    simp (dsimp := false) only [go_sem, Nat.reduceAdd, Nat.reduceEqDiff, Nat.reduceMul, Nat.reduceLeDiff, Nat.reduceSub, Nat.reduceLT, ↓reduceIte, reduceCtorEq, List.reduceReplicate, List.flatten_cons, List.flatten_nil, List.append_nil, eq_self, Int.reduceLE, Int.reduceLT, Int.reduceToNat, Nat.min_eq_left, Int.reducePow, Int.reduceNeg, Int.reduceEq]
    refine callV_of (to01_spec _ _ _ _) ?_
    simp (dsimp := false) only [go_sem, Nat.reduceAdd, Nat.reduceEqDiff, Nat.reduceMul, Nat.reduceLeDiff, Nat.reduceSub, Nat.reduceLT, ↓reduceIte, reduceCtorEq, List.reduceReplicate, List.flatten_cons, List.flatten_nil, List.append_nil, eq_self, Int.reduceLE, Int.reduceLT, Int.reduceToNat, Nat.min_eq_left, Int.reducePow, Int.reduceNeg, Int.reduceEq]
    refine callV_of (rankText_spec (g2 _) he hs hm) ?_
    simp (dsimp := false) only [go_sem, Nat.reduceAdd, Nat.reduceEqDiff, Nat.reduceMul, Nat.reduceLeDiff, Nat.reduceSub, Nat.reduceLT, ↓reduceIte, reduceCtorEq, List.reduceReplicate, List.flatten_cons, List.flatten_nil, List.append_nil, eq_self, Int.reduceLE, Int.reduceLT, Int.reduceToNat, Nat.min_eq_left, Int.reducePow, Int.reduceNeg, Int.reduceEq]
    refine callV_of (rtext_spec _ he hs hm) ?_
    simp (dsimp := false) only [go_sem, Nat.reduceAdd, Nat.reduceEqDiff, Nat.reduceMul, Nat.reduceLeDiff, Nat.reduceSub, Nat.reduceLT, ↓reduceIte, reduceCtorEq, List.reduceReplicate, List.flatten_cons, List.flatten_nil, List.append_nil, eq_self, Int.reduceLE, Int.reduceLT, Int.reduceToNat, Nat.min_eq_left, Int.reducePow, Int.reduceNeg, Int.reduceEq, beq_self_eq_true]
    refine callV_of (from01_spec _ _ _ _) ?_
    simp (dsimp := false) only [go_sem, Nat.reduceAdd, Nat.reduceEqDiff, Nat.reduceMul, Nat.reduceLeDiff, Nat.reduceSub, Nat.reduceLT, ↓reduceIte, reduceCtorEq, List.reduceReplicate, List.flatten_cons, List.flatten_nil, List.append_nil, eq_self, Int.reduceLE, Int.reduceLT, Int.reduceToNat, Nat.min_eq_left, Int.reducePow, Int.reduceNeg, Int.reduceEq, eqCells_cons, eqCells_nil, keyEqI, beq_self_eq_true, n0]
    refine callV_of (rright_spec _ e s m) ?_
    rw [decide_eq_false c]
    simp (dsimp := false) only [go_sem, Nat.reduceAdd, Nat.reduceEqDiff, Nat.reduceMul, Nat.reduceLeDiff, Nat.reduceSub, Nat.reduceLT, ↓reduceIte, reduceCtorEq, List.reduceReplicate, List.flatten_cons, List.flatten_nil, List.append_nil, eq_self, Int.reduceLE, Int.reduceLT, Int.reduceToNat, Nat.min_eq_left, Int.reducePow, Int.reduceNeg, Int.reduceEq, n0, n1, beq_self_eq_true]
end Go.Proofs.YtoiihalnbdehkaaDoor.B
