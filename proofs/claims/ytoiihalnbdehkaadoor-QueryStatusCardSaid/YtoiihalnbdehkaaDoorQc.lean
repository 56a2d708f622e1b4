/-
  Layer 26: what a source tells, asked behind an interface value.
-/
import Derived.Test.YtoiihalnbdehkaaDoorQa
import Derived.Test.YtoiihalnbdehkaaDoorQb
import Derived.Test.YtoiihalnbdehkaaDoorQk
namespace Go.Proofs.YtoiihalnbdehkaaDoor.B
open Go
set_option linter.unusedVariables false
set_option linter.unusedSimpArgs false
set_option maxRecDepth 100000
abbrev i64ok (n : Int) : Prop := -9223372036854775808 ≤ n ∧ n ≤ 9223372036854775807
/-- A key's text. -/
def keyS (e s : Nat) (m : Int) : ByteArray := decS e ++ ⟨#[46]⟩ ++ decS s ++ ⟨#[47]⟩ ++ wholeS m
theorem keyS_size {e s : Nat} {m : Int} (he : e < 4294967296) (hs : s < 4294967296) (hm : i64ok m) : (keyS e s m).size ≤ 63 := by
  have h1 := decS_size (u := e) (by omega)
  have h2 := decS_size (u := s) (by omega)
  have h3 := wholeS_size hm
  unfold keyS
  simp only [ByteArray.size_append, size_mk, List.size_toArray, List.length_cons, List.length_nil]
  omega
theorem rankText_spec {h : AHeap} (hg : PowV h) {e s : Nat} {m : Int} (he : e < 4294967296) (hs : s < 4294967296) (hm : i64ok m) : Spec Tryd.prog nG fn.rank_Text [.agg #[.int .u32 e, .int .u32 s, .int .i64 m]] h (.string (keyS e s m)) h := by
  apply ir.rank_Text.spec (Nat.le_of_ble_eq_true rfl)
  have h1 := decS_size (u := e) (by omega)
  have h2 := decS_size (u := s) (by omega)
  have h3 := wholeS_size hm
  have w1 := wrapU64 (show e < 18446744073709551616 by omega)
  have w2 := wrapU64 (show s < 18446744073709551616 by omega)
  have hg2 : ∀ g, PowV (h ++ g) := fun g => hg.pre (.app _ _)
  simp (dsimp := false) only [↓ir.rank_Text.bw, ir.rank_Text.rs, go_sem, Nat.reduceAdd, Nat.reduceEqDiff, Nat.reduceMul, Nat.reduceLeDiff, Nat.reduceSub, Nat.reduceLT, ↓reduceIte, reduceCtorEq, List.reduceReplicate, List.flatten_cons, List.flatten_nil, List.append_nil, eq_self, Int.reduceLE, Int.reduceLT, Int.reduceToNat, Nat.min_eq_left, Int.reducePow, Int.reduceNeg, Int.reduceEq, w1]
  refine callV_of (formatUint_spec (hg2 _) (by omega)) ?_
  simp (dsimp := false) only [go_sem, Nat.reduceAdd, Nat.reduceEqDiff, Nat.reduceMul, Nat.reduceLeDiff, Nat.reduceSub, Nat.reduceLT, ↓reduceIte, reduceCtorEq, List.reduceReplicate, List.flatten_cons, List.flatten_nil, List.append_nil, eq_self, Int.reduceLE, Int.reduceLT, Int.reduceToNat, Nat.min_eq_left, Int.reducePow, Int.reduceNeg, Int.reduceEq, w2]
  refine ⟨by simp only [ByteArray.size_append, size_mk, List.size_toArray, List.length_cons, List.length_nil]; omega, ?_⟩
  refine callV_of (formatUint_spec (hg2 _) (by omega)) ?_
  simp (dsimp := false) only [go_sem, Nat.reduceAdd, Nat.reduceEqDiff, Nat.reduceMul, Nat.reduceLeDiff, Nat.reduceSub, Nat.reduceLT, ↓reduceIte, reduceCtorEq, List.reduceReplicate, List.flatten_cons, List.flatten_nil, List.append_nil, eq_self, Int.reduceLE, Int.reduceLT, Int.reduceToNat, Nat.min_eq_left, Int.reducePow, Int.reduceNeg, Int.reduceEq]
  refine ⟨by simp only [ByteArray.size_append, size_mk, List.size_toArray, List.length_cons, List.length_nil]; omega, ?_⟩
  refine ⟨by simp only [ByteArray.size_append, size_mk, List.size_toArray, List.length_cons, List.length_nil]; omega, ?_⟩
  refine callV_of (itoa_spec (hg2 _) hm) ?_
  simp (dsimp := false) only [go_sem, Nat.reduceAdd, Nat.reduceEqDiff, Nat.reduceMul, Nat.reduceLeDiff, Nat.reduceSub, Nat.reduceLT, ↓reduceIte, reduceCtorEq, List.reduceReplicate, List.flatten_cons, List.flatten_nil, List.append_nil, eq_self, Int.reduceLE, Int.reduceLT, Int.reduceToNat, Nat.min_eq_left, Int.reducePow, Int.reduceNeg, Int.reduceEq]
  refine ⟨by simp only [ByteArray.size_append, size_mk, List.size_toArray, List.length_cons, List.length_nil]; omega, ?_⟩
  exact Fin.sc rfl rfl
theorem to01_spec (h : AHeap) (e s m : Int) : Spec Tryd.prog nG fn.law01_To [.agg #[.int .u32 e, .int .u32 s, .int .i64 m]] h (.agg #[.int .u32 e, .int .u32 s, .int .i64 m]) h := by
  apply ir.law01_To.spec (Nat.le_of_ble_eq_true rfl)
  simp (dsimp := false) only [↓ir.law01_To.bw, ir.law01_To.rs, go_sem, Nat.reduceAdd, Nat.reduceEqDiff, Nat.reduceMul, Nat.reduceLeDiff, Nat.reduceSub, Nat.reduceLT, ↓reduceIte, reduceCtorEq, List.reduceReplicate, List.flatten_cons, List.flatten_nil, List.append_nil, eq_self, Int.reduceLE, Int.reduceLT, Int.reduceToNat, Nat.min_eq_left, Int.reducePow, Int.reduceNeg, Int.reduceEq]
  exact Fin.agg rfl rfl
abbrev keyC (e s : Nat) (m : Int) : List Value := [.int .u32 (e : Int), .int .u32 (s : Int), .int .i64 m]
/-- What a source of layer 26 holds. -/
structure Src (h : AHeap) (C : List Value) : Prop where
  len : C.length = 68
  fib : ∃ v l, (C.drop 0).take 1 = [v] ∧ Ls h 3 isH v l ∧ Fits l ∧ IsTable l
  has : ∀ d, d < 8 → ∃ b, (C.drop (1 + d)).take 1 = [.bool b]
  flo : ∀ d, d < 8 → ∃ (e s : Nat) (m : Int), (C.drop (9 + d * 3)).take 3 = keyC e s m ∧ e < 4294967296 ∧ s < 4294967296 ∧ i64ok m
  live : ∃ v l, (C.drop 37).take 1 = [v] ∧ Ls h 1 isI v l
  roots : ∀ d, d < 8 → ∃ n, (C.drop (38 + d)).take 1 = [.int .i64 n] ∧ i64ok n
theorem Src.pre {h h' : AHeap} {C : List Value} (k : Src h C) (p : Pre h h') : Src h' C :=
  ⟨k.len, let ⟨v, l, a, b, c⟩ := k.fib; ⟨v, l, a, b.pre p, c⟩, k.has, k.flo, let ⟨v, l, a, b⟩ := k.live; ⟨v, l, a, b.pre p⟩, k.roots⟩
section
variable {h : AHeap} {C : List Value} (k : Src h C)
include k
theorem sFib_spec : SpecX Tryd.prog nG fn.law26_source_Fib [.agg ⟨C⟩] h fun v' h' => Pre h h' ∧ ∃ l, Ls h' 3 isH v' l ∧ IsTable l := by
  obtain ⟨v, l, e, ls, hf, ht⟩ := k.fib
  refine SpecX.of_body (ir.law26_source_Fib.spec (Nat.le_of_ble_eq_true rfl)) ?_
  have r : ∀ g, rds (h ++ [.row .fix C] ++ g) h.length 0 1 = some [v] := fun g => (Fx.here h C []).rdA e (by rw [k.len]; omega) g
  have r0 : rds (h ++ [.row .fix C]) h.length 0 1 = some [v] := (Fx.here h C []).rd e (by rw [k.len]; omega)
  simp (dsimp := false) only [↓ir.law26_source_Fib.bw, ir.law26_source_Fib.rs, go_sem, Nat.reduceAdd, Nat.reduceEqDiff, Nat.reduceMul, Nat.reduceLeDiff, Nat.reduceSub, Nat.reduceLT, ↓reduceIte, reduceCtorEq, List.reduceReplicate, List.flatten_cons, List.flatten_nil, List.append_nil, eq_self, Int.reduceLE, Int.reduceLT, Int.reduceToNat, Nat.min_eq_left, Int.reducePow, Int.reduceNeg, Int.reduceEq, r0]
  refine callV_x (tohops_spec (ls.pre (.app _ _)) hf) ?_
  rintro _ h1 ⟨hp, ow⟩
  simp (dsimp := false) only [go_sem, Nat.reduceAdd, Nat.reduceEqDiff, Nat.reduceMul, Nat.reduceLeDiff, Nat.reduceSub, Nat.reduceLT, ↓reduceIte, reduceCtorEq, List.reduceReplicate, List.flatten_cons, List.flatten_nil, List.append_nil, eq_self, Int.reduceLE, Int.reduceLT, Int.reduceToNat, Nat.min_eq_left, Int.reducePow, Int.reduceNeg, Int.reduceEq]
  exact ⟨(Pre.app _ _).trans hp, l, ow.hops, ht⟩
theorem sFloor_spec {d : Nat} (hd : d < 8) : SpecX Tryd.prog nG fn.law26_source_Floor [.agg ⟨C⟩, .int .i64 (d : Int)] h fun v' h' => Pre h h' ∧ ∃ (e s : Nat) (m : Int) (b : Bool), v' = .tuple #[.agg ⟨keyC e s m⟩, .bool b] ∧ e < 4294967296 ∧ s < 4294967296 ∧ i64ok m := by
  obtain ⟨b, hb⟩ := k.has d hd
  obtain ⟨e, s, m, hk, w1, w2, w3⟩ := k.flo d hd
  have fx := Fx.here h C []
  refine SpecX.of_body (ir.law26_source_Floor.spec (Nat.le_of_ble_eq_true rfl)) ?_
  have d1 : decide ((d : Int) < 0) = false := decide_eq_false (by omega)
  have d2 : decide ((d : Int) > 7) = false := decide_eq_false (by omega)
  have q1 : 1 + d + 1 ≤ 68 := by omega
  have q2 : 9 + d * 3 + 3 ≤ 68 := by omega
  have hr : ((0 : Int) ≤ (d : Int) ∧ (d : Int) < ((8 : Nat) : Int)) := by omega
  simp (dsimp := false) only [↓ir.law26_source_Floor.bw, ir.law26_source_Floor.rs, go_sem, Nat.reduceAdd, Nat.reduceEqDiff, Nat.reduceMul, Nat.reduceLeDiff, Nat.reduceSub, Nat.reduceLT, ↓reduceIte, reduceCtorEq, List.reduceReplicate, List.flatten_cons, List.flatten_nil, List.append_nil, eq_self, Int.reduceLE, Int.reduceLT, Int.reduceToNat, Nat.min_eq_left, Int.reducePow, Int.reduceNeg, Int.reduceEq, d1, d2]
  refine ⟨hr, ?_⟩
  simp (dsimp := false) only [go_sem, Nat.reduceAdd, Nat.reduceEqDiff, Nat.reduceMul, Nat.reduceLeDiff, Nat.reduceSub, Nat.reduceLT, ↓reduceIte, reduceCtorEq, List.reduceReplicate, List.flatten_cons, List.flatten_nil, List.append_nil, eq_self, Int.reduceLE, Int.reduceLT, Int.reduceToNat, Nat.min_eq_left, Int.reducePow, Int.reduceNeg, Int.reduceEq, Int.toNat_natCast, Nat.mul_one, k.len, q1, hb]
  cases b with
  | false =>
    simp (dsimp := false) only [go_sem, Nat.reduceAdd, Nat.reduceEqDiff, Nat.reduceMul, Nat.reduceLeDiff, Nat.reduceSub, Nat.reduceLT, ↓reduceIte, reduceCtorEq, List.reduceReplicate, List.flatten_cons, List.flatten_nil, List.append_nil, eq_self, Int.reduceLE, Int.reduceLT, Int.reduceToNat, Nat.min_eq_left, Int.reducePow, Int.reduceNeg, Int.reduceEq]
    exact ⟨0, 0, 0, false, rfl, by omega, by omega, by omega, by omega⟩
  | true =>
    simp (dsimp := false) only [go_sem, Nat.reduceAdd, Nat.reduceEqDiff, Nat.reduceMul, Nat.reduceLeDiff, Nat.reduceSub, Nat.reduceLT, ↓reduceIte, reduceCtorEq, List.reduceReplicate, List.flatten_cons, List.flatten_nil, List.append_nil, eq_self, Int.reduceLE, Int.reduceLT, Int.reduceToNat, Nat.min_eq_left, Int.reducePow, Int.reduceNeg, Int.reduceEq]
    refine ⟨hr, ?_⟩
    simp (dsimp := false) only [go_sem, Nat.reduceAdd, Nat.reduceEqDiff, Nat.reduceMul, Nat.reduceLeDiff, Nat.reduceSub, Nat.reduceLT, ↓reduceIte, reduceCtorEq, List.reduceReplicate, List.flatten_cons, List.flatten_nil, List.append_nil, eq_self, Int.reduceLE, Int.reduceLT, Int.reduceToNat, Nat.min_eq_left, Int.reducePow, Int.reduceNeg, Int.reduceEq, Int.toNat_natCast, k.len, q2, hk]
    refine callV_of (to01_spec _ _ _ _) ?_
    simp (dsimp := false) only [go_sem, Nat.reduceAdd, Nat.reduceEqDiff, Nat.reduceMul, Nat.reduceLeDiff, Nat.reduceSub, Nat.reduceLT, ↓reduceIte, reduceCtorEq, List.reduceReplicate, List.flatten_cons, List.flatten_nil, List.append_nil, eq_self, Int.reduceLE, Int.reduceLT, Int.reduceToNat, Nat.min_eq_left, Int.reducePow, Int.reduceNeg, Int.reduceEq]
    exact ⟨e, s, m, true, rfl, w1, w2, w3⟩
theorem sRoots_spec {d : Nat} (hd : d < 8) : SpecX Tryd.prog nG fn.law26_source_Roots [.agg ⟨C⟩, .int .i64 (d : Int)] h fun v' h' => Pre h h' ∧ ∃ n, v' = .int .i64 n ∧ i64ok n := by
  obtain ⟨n, hk, w⟩ := k.roots d hd
  refine SpecX.of_body (ir.law26_source_Roots.spec (Nat.le_of_ble_eq_true rfl)) ?_
  have d1 : decide ((d : Int) < 0) = false := decide_eq_false (by omega)
  have d2 : decide ((d : Int) > 7) = false := decide_eq_false (by omega)
  have q2 : 38 + d + 1 ≤ 68 := by omega
  have hr : ((0 : Int) ≤ (d : Int) ∧ (d : Int) < ((8 : Nat) : Int)) := by omega
  simp (dsimp := false) only [↓ir.law26_source_Roots.bw, ir.law26_source_Roots.rs, go_sem, Nat.reduceAdd, Nat.reduceEqDiff, Nat.reduceMul, Nat.reduceLeDiff, Nat.reduceSub, Nat.reduceLT, ↓reduceIte, reduceCtorEq, List.reduceReplicate, List.flatten_cons, List.flatten_nil, List.append_nil, eq_self, Int.reduceLE, Int.reduceLT, Int.reduceToNat, Nat.min_eq_left, Int.reducePow, Int.reduceNeg, Int.reduceEq, d1, d2]
  refine ⟨hr, ?_⟩
  simp (dsimp := false) only [go_sem, Nat.reduceAdd, Nat.reduceEqDiff, Nat.reduceMul, Nat.reduceLeDiff, Nat.reduceSub, Nat.reduceLT, ↓reduceIte, reduceCtorEq, List.reduceReplicate, List.flatten_cons, List.flatten_nil, List.append_nil, eq_self, Int.reduceLE, Int.reduceLT, Int.reduceToNat, Nat.min_eq_left, Int.reducePow, Int.reduceNeg, Int.reduceEq, Int.toNat_natCast, Nat.mul_one, k.len, q2, hk]
  exact ⟨n, rfl, w⟩
/-! ### Behind an interface value -/
theorem xFib : ∃ v h', XSpec Tryd.prog nG (some "Fib") 0 [.iface 105 (.agg ⟨C⟩)] h v h' ∧ Pre h h' ∧ ∃ l, Ls h' 3 isH v l ∧ IsTable l := by
  obtain ⟨v, h', s, q⟩ := sFib_spec k
  exact ⟨v, h', XSpec.methB (j := Tryd.t105) Tryd.type105 (by kernel_rfl) Tryd.underlying105 rfl (by kernel_rfl) s, q⟩
theorem xFloor {d : Nat} (hd : d < 8) : ∃ v h', XSpec Tryd.prog nG (some "Floor") 0 [.iface 105 (.agg ⟨C⟩), .int .i64 (d : Int)] h v h' ∧ Pre h h' ∧ ∃ (e s : Nat) (m : Int) (b : Bool), v = .tuple #[.agg ⟨keyC e s m⟩, .bool b] ∧ e < 4294967296 ∧ s < 4294967296 ∧ i64ok m := by
  obtain ⟨v, h', s, q⟩ := sFloor_spec k hd
  exact ⟨v, h', XSpec.methB (j := Tryd.t105) Tryd.type105 (by kernel_rfl) Tryd.underlying105 rfl (by kernel_rfl) s, q⟩
theorem xRoots {d : Nat} (hd : d < 8) : ∃ v h', XSpec Tryd.prog nG (some "Roots") 0 [.iface 105 (.agg ⟨C⟩), .int .i64 (d : Int)] h v h' ∧ Pre h h' ∧ ∃ n, v = .int .i64 n ∧ i64ok n := by
  obtain ⟨v, h', s, q⟩ := sRoots_spec k hd
  exact ⟨v, h', XSpec.methB (j := Tryd.t105) Tryd.type105 (by kernel_rfl) Tryd.underlying105 rfl (by kernel_rfl) s, q⟩
end
theorem qkey_spec {h : AHeap} (hg : PowV h) {e s : Nat} {m : Int} (he : e < 4294967296) (hs : s < 4294967296) (hm : i64ok m) (b : Bool) : SpecX Tryd.prog nG fn.query_key [.agg ⟨keyC e s m⟩, .bool b] h fun v' h' => Pre h h' ∧ ∃ t, v' = .string t := by
  refine SpecX.of_body (ir.query_key.spec (Nat.le_of_ble_eq_true rfl)) ?_
  simp (dsimp := false) only [↓ir.query_key.bw, ir.query_key.rs, go_sem, Nat.reduceAdd, Nat.reduceEqDiff, Nat.reduceMul, Nat.reduceLeDiff, Nat.reduceSub, Nat.reduceLT, ↓reduceIte, reduceCtorEq, List.reduceReplicate, List.flatten_cons, List.flatten_nil, List.append_nil, eq_self, Int.reduceLE, Int.reduceLT, Int.reduceToNat, Nat.min_eq_left, Int.reducePow, Int.reduceNeg, Int.reduceEq]
  cases b with
  | false =>
    simp (dsimp := false) only [go_sem, Nat.reduceAdd, Nat.reduceEqDiff, Nat.reduceMul, Nat.reduceLeDiff, Nat.reduceSub, Nat.reduceLT, ↓reduceIte, reduceCtorEq, List.reduceReplicate, List.flatten_cons, List.flatten_nil, List.append_nil, eq_self, Int.reduceLE, Int.reduceLT, Int.reduceToNat, Nat.min_eq_left, Int.reducePow, Int.reduceNeg, Int.reduceEq]
    exact ⟨_, rfl⟩
  | true =>
    simp (dsimp := false) only [go_sem, Nat.reduceAdd, Nat.reduceEqDiff, Nat.reduceMul, Nat.reduceLeDiff, Nat.reduceSub, Nat.reduceLT, ↓reduceIte, reduceCtorEq, List.reduceReplicate, List.flatten_cons, List.flatten_nil, List.append_nil, eq_self, Int.reduceLE, Int.reduceLT, Int.reduceToNat, Nat.min_eq_left, Int.reducePow, Int.reduceNeg, Int.reduceEq]
    refine callV_of (rankText_spec (hg.pre (.app _ _)) he hs hm) ?_
    simp (dsimp := false) only [go_sem, Nat.reduceAdd, Nat.reduceEqDiff, Nat.reduceMul, Nat.reduceLeDiff, Nat.reduceSub, Nat.reduceLT, ↓reduceIte, reduceCtorEq, List.reduceReplicate, List.flatten_cons, List.flatten_nil, List.append_nil, eq_self, Int.reduceLE, Int.reduceLT, Int.reduceToNat, Nat.min_eq_left, Int.reducePow, Int.reduceNeg, Int.reduceEq]
    exact ⟨_, rfl⟩
theorem qnumber_spec (h : AHeap) {d : Nat} {c : UInt8} (hd : d < 8) (hc : c.toNat = 48 + d) : Spec Tryd.prog nG fn.query_number [.string ⟨#[c]⟩] h (.tuple #[.int .i64 (d : Int), .bool true]) h := by
  apply ir.query_number.spec (Nat.le_of_ble_eq_true rfl)
  have hs : (((#[c] : Array UInt8).size : Nat) : Int) = 1 := rfl
  have g0 : (⟨#[c]⟩ : ByteArray)[0]? = some c := rfl
  have b0 : ((1 : Int) != 1) = false := rfl
  have d1 : decide ((c.toNat : Int) < 48) = false := decide_eq_false (by omega)
  have d2 : decide ((c.toNat : Int) > 55) = false := decide_eq_false (by omega)
  simp (dsimp := false) only [↓ir.query_number.bw, ir.query_number.rs, go_sem, Nat.reduceAdd, Nat.reduceEqDiff, Nat.reduceMul, Nat.reduceLeDiff, Nat.reduceSub, Nat.reduceLT, ↓reduceIte, reduceCtorEq, List.reduceReplicate, List.flatten_cons, List.flatten_nil, List.append_nil, eq_self, Int.reduceLE, Int.reduceLT, Int.reduceToNat, Nat.min_eq_left, Int.reducePow, Int.reduceNeg, Int.reduceEq, hs, b0, ixstrV_str, Int.toNat_zero, g0, d1, d2]
  have w : IntKind.i64.wrap (IntKind.u8.wrap ((c.toNat : Int) - 48)) = (d : Int) := by
    rw [hc]
    match d, hd with
    | 0, _ | 1, _ | 2, _ | 3, _ | 4, _ | 5, _ | 6, _ | 7, _ => rfl
  rw [w]
  exact .inl ⟨rfl, rfl⟩
end Go.Proofs.YtoiihalnbdehkaaDoor.B
