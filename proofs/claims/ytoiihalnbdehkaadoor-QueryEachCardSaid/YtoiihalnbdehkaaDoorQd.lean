/-
  Layer 26: the answers to "next d", "floor d", "roots d".
-/
import Derived.Test.YtoiihalnbdehkaaDoorQc
namespace Go.Proofs.YtoiihalnbdehkaaDoor.B
open Go
set_option linter.unusedVariables false
set_option linter.unusedSimpArgs false
set_option maxRecDepth 100000
theorem lookL_bd {x : Int} : ∀ {l : List Hop}, (∀ a ∈ l, 0 ≤ a.n ∧ a.n < 8) → lookL l x = -1 ∨ (0 ≤ lookL l x ∧ lookL l x < 8)
  | [], _ => .inl rfl
  | a :: l, hl => by
    rw [lookL]
    split
    · exact .inr (hl a (by simp))
    · exact lookL_bd fun b hb => hl b (by simp [hb])
abbrev One (v : Value) : Prop := ∃ p, v = .tuple #[.slice p 1 1, .int .i64 0]
theorem e_next_floor : ((⟨#[110, 101, 120, 116]⟩ : ByteArray).toList == (⟨#[102, 108, 111, 111, 114]⟩ : ByteArray).toList) = false := by decide +kernel
theorem e_next_roots : ((⟨#[110, 101, 120, 116]⟩ : ByteArray).toList == (⟨#[114, 111, 111, 116, 115]⟩ : ByteArray).toList) = false := by decide +kernel
theorem e_next_counter : ((⟨#[110, 101, 120, 116]⟩ : ByteArray).toList == (⟨#[99, 111, 117, 110, 116, 101, 114]⟩ : ByteArray).toList) = false := by decide +kernel
theorem e_next_next : ((⟨#[110, 101, 120, 116]⟩ : ByteArray).toList == (⟨#[110, 101, 120, 116]⟩ : ByteArray).toList) = true := by decide +kernel
theorem e_next_fib : ((⟨#[110, 101, 120, 116]⟩ : ByteArray).toList == (⟨#[102, 105, 98]⟩ : ByteArray).toList) = false := by decide +kernel
theorem e_floor_floor : ((⟨#[102, 108, 111, 111, 114]⟩ : ByteArray).toList == (⟨#[102, 108, 111, 111, 114]⟩ : ByteArray).toList) = true := by decide +kernel
theorem e_floor_fib : ((⟨#[102, 108, 111, 111, 114]⟩ : ByteArray).toList == (⟨#[102, 105, 98]⟩ : ByteArray).toList) = false := by decide +kernel
theorem e_floor_next : ((⟨#[102, 108, 111, 111, 114]⟩ : ByteArray).toList == (⟨#[110, 101, 120, 116]⟩ : ByteArray).toList) = false := by decide +kernel
theorem e_roots_floor : ((⟨#[114, 111, 111, 116, 115]⟩ : ByteArray).toList == (⟨#[102, 108, 111, 111, 114]⟩ : ByteArray).toList) = false := by decide +kernel
theorem e_roots_roots : ((⟨#[114, 111, 111, 116, 115]⟩ : ByteArray).toList == (⟨#[114, 111, 111, 116, 115]⟩ : ByteArray).toList) = true := by decide +kernel
theorem e_roots_fib : ((⟨#[114, 111, 111, 116, 115]⟩ : ByteArray).toList == (⟨#[102, 105, 98]⟩ : ByteArray).toList) = false := by decide +kernel
theorem e_roots_next : ((⟨#[114, 111, 111, 116, 115]⟩ : ByteArray).toList == (⟨#[110, 101, 120, 116]⟩ : ByteArray).toList) = false := by decide +kernel
section
variable {h : AHeap} {C : List Value} (k : Src h C) (hg : PowV h) {d : Nat} {c : UInt8} (hd : d < 8) (hc : c.toNat = 48 + d)
include k hg hd hc
theorem ask_next : SpecX Tryd.prog nG fn.query_Ask [.iface 105 (.agg ⟨C⟩), .string ⟨#[110, 101, 120, 116, 32, c]⟩] h fun v' h' => Pre h h' ∧ One v' := by
  refine SpecX.of_body (ir.query_Ask.spec (Nat.le_of_ble_eq_true rfl)) ?_
  simp (dsimp := false) only [↓ir.query_Ask.bw, ir.query_Ask.rs, go_sem, Nat.reduceAdd, Nat.reduceEqDiff, Nat.reduceMul, Nat.reduceLeDiff, Nat.reduceSub, Nat.reduceLT, ↓reduceIte, reduceCtorEq, List.reduceReplicate, List.flatten_cons, List.flatten_nil, List.append_nil, eq_self, Int.reduceLE, Int.reduceLT, Int.reduceToNat, Nat.min_eq_left, Int.reducePow, Int.reduceNeg, Int.reduceEq]
  refine callV_of (cut_spec (s := ⟨#[110, 101, 120, 116, 32, c]⟩) (Nat.le_of_ble_eq_true rfl) 32) ?_
  have hcut : cutV ⟨#[110, 101, 120, 116, 32, c]⟩ 32 = .tuple #[.string ⟨#[110, 101, 120, 116]⟩, .string ⟨#[c]⟩, .bool true] := rfl
  rw [hcut]
  simp (dsimp := false) only [go_sem, Nat.reduceAdd, Nat.reduceEqDiff, Nat.reduceMul, Nat.reduceLeDiff, Nat.reduceSub, Nat.reduceLT, ↓reduceIte, reduceCtorEq, List.reduceReplicate, List.flatten_cons, List.flatten_nil, List.append_nil, eq_self, Int.reduceLE, Int.reduceLT, Int.reduceToNat, Nat.min_eq_left, Int.reducePow, Int.reduceNeg, Int.reduceEq]
  refine callV_of (qnumber_spec _ hd hc) ?_
  simp (dsimp := false) only [go_sem, Nat.reduceAdd, Nat.reduceEqDiff, Nat.reduceMul, Nat.reduceLeDiff, Nat.reduceSub, Nat.reduceLT, ↓reduceIte, reduceCtorEq, List.reduceReplicate, List.flatten_cons, List.flatten_nil, List.append_nil, eq_self, Int.reduceLE, Int.reduceLT, Int.reduceToNat, Nat.min_eq_left, Int.reducePow, Int.reduceNeg, Int.reduceEq, e_next_floor, e_next_roots, e_next_counter, e_next_next, e_next_fib, Bool.not_false, Bool.not_true]
  obtain ⟨v, h1, hx, hp, l, ls, ht⟩ := xFib k
  refine ⟨v, h1, hx, ?_⟩
  simp (dsimp := false) only [go_sem, Nat.reduceAdd, Nat.reduceEqDiff, Nat.reduceMul, Nat.reduceLeDiff, Nat.reduceSub, Nat.reduceLT, ↓reduceIte, reduceCtorEq, List.reduceReplicate, List.flatten_cons, List.flatten_nil, List.append_nil, eq_self, Int.reduceLE, Int.reduceLT, Int.reduceToNat, Nat.min_eq_left, Int.reducePow, Int.reduceNeg, Int.reduceEq]
  refine callV_x (lookup_spec ls (d : Int)) ?_
  rintro _ h2 ⟨hp2, r, rfl, hr⟩
  have hb := lookL_bd (x := (d : Int)) (l := l) (fun a ha => (ht.1 a ha).2.2)
  rw [← hr ht.rises] at hb
  have ri : i64ok r := by constructor <;> omega
  simp (dsimp := false) only [go_sem, Nat.reduceAdd, Nat.reduceEqDiff, Nat.reduceMul, Nat.reduceLeDiff, Nat.reduceSub, Nat.reduceLT, ↓reduceIte, reduceCtorEq, List.reduceReplicate, List.flatten_cons, List.flatten_nil, List.append_nil, eq_self, Int.reduceLE, Int.reduceLT, Int.reduceToNat, Nat.min_eq_left, Int.reducePow, Int.reduceNeg, Int.reduceEq]
  refine cVd (fun hc => ?_) (fun hc => ?_)
  · simp (dsimp := false) only [go_sem, Nat.reduceAdd, Nat.reduceEqDiff, Nat.reduceMul, Nat.reduceLeDiff, Nat.reduceSub, Nat.reduceLT, ↓reduceIte, reduceCtorEq, List.reduceReplicate, List.flatten_cons, List.flatten_nil, List.append_nil, eq_self, Int.reduceLE, Int.reduceLT, Int.reduceToNat, Nat.min_eq_left, Int.reducePow, Int.reduceNeg, Int.reduceEq]
    refine callV_of (itoa_spec (hg.pre (hp.trans hp2)) ri) ?_
    simp (dsimp := false) only [go_sem, Nat.reduceAdd, Nat.reduceEqDiff, Nat.reduceMul, Nat.reduceLeDiff, Nat.reduceSub, Nat.reduceLT, ↓reduceIte, reduceCtorEq, List.reduceReplicate, List.flatten_cons, List.flatten_nil, List.append_nil, eq_self, Int.reduceLE, Int.reduceLT, Int.reduceToNat, Nat.min_eq_left, Int.reducePow, Int.reduceNeg, Int.reduceEq]
    exact ⟨(hp.trans hp2).app' _, _, rfl⟩
  · simp (dsimp := false) only [go_sem, Nat.reduceAdd, Nat.reduceEqDiff, Nat.reduceMul, Nat.reduceLeDiff, Nat.reduceSub, Nat.reduceLT, ↓reduceIte, reduceCtorEq, List.reduceReplicate, List.flatten_cons, List.flatten_nil, List.append_nil, eq_self, Int.reduceLE, Int.reduceLT, Int.reduceToNat, Nat.min_eq_left, Int.reducePow, Int.reduceNeg, Int.reduceEq]
    exact ⟨(hp.trans hp2).app' _, _, rfl⟩
theorem ask_floor : SpecX Tryd.prog nG fn.query_Ask [.iface 105 (.agg ⟨C⟩), .string ⟨#[102, 108, 111, 111, 114, 32, c]⟩] h fun v' h' => Pre h h' ∧ One v' := by
  refine SpecX.of_body (ir.query_Ask.spec (Nat.le_of_ble_eq_true rfl)) ?_
  simp (dsimp := false) only [↓ir.query_Ask.bw, ir.query_Ask.rs, go_sem, Nat.reduceAdd, Nat.reduceEqDiff, Nat.reduceMul, Nat.reduceLeDiff, Nat.reduceSub, Nat.reduceLT, ↓reduceIte, reduceCtorEq, List.reduceReplicate, List.flatten_cons, List.flatten_nil, List.append_nil, eq_self, Int.reduceLE, Int.reduceLT, Int.reduceToNat, Nat.min_eq_left, Int.reducePow, Int.reduceNeg, Int.reduceEq]
  refine callV_of (cut_spec (s := ⟨#[102, 108, 111, 111, 114, 32, c]⟩) (Nat.le_of_ble_eq_true rfl) 32) ?_
  have hcut : cutV ⟨#[102, 108, 111, 111, 114, 32, c]⟩ 32 = .tuple #[.string ⟨#[102, 108, 111, 111, 114]⟩, .string ⟨#[c]⟩, .bool true] := rfl
  rw [hcut]
  simp (dsimp := false) only [go_sem, Nat.reduceAdd, Nat.reduceEqDiff, Nat.reduceMul, Nat.reduceLeDiff, Nat.reduceSub, Nat.reduceLT, ↓reduceIte, reduceCtorEq, List.reduceReplicate, List.flatten_cons, List.flatten_nil, List.append_nil, eq_self, Int.reduceLE, Int.reduceLT, Int.reduceToNat, Nat.min_eq_left, Int.reducePow, Int.reduceNeg, Int.reduceEq]
  refine callV_of (qnumber_spec _ hd hc) ?_
  simp (dsimp := false) only [go_sem, Nat.reduceAdd, Nat.reduceEqDiff, Nat.reduceMul, Nat.reduceLeDiff, Nat.reduceSub, Nat.reduceLT, ↓reduceIte, reduceCtorEq, List.reduceReplicate, List.flatten_cons, List.flatten_nil, List.append_nil, eq_self, Int.reduceLE, Int.reduceLT, Int.reduceToNat, Nat.min_eq_left, Int.reducePow, Int.reduceNeg, Int.reduceEq, e_floor_floor, e_floor_fib, e_floor_next, Bool.not_false, Bool.not_true]
  obtain ⟨_, h1, hx, hp, e, s, m, b, rfl, w1, w2, w3⟩ := xFloor k hd
  refine ⟨_, h1, hx, ?_⟩
  simp (dsimp := false) only [go_sem, Nat.reduceAdd, Nat.reduceEqDiff, Nat.reduceMul, Nat.reduceLeDiff, Nat.reduceSub, Nat.reduceLT, ↓reduceIte, reduceCtorEq, List.reduceReplicate, List.flatten_cons, List.flatten_nil, List.append_nil, eq_self, Int.reduceLE, Int.reduceLT, Int.reduceToNat, Nat.min_eq_left, Int.reducePow, Int.reduceNeg, Int.reduceEq]
  refine callV_x (qkey_spec (hg.pre hp) w1 w2 w3 b) ?_
  rintro _ h2 ⟨hp2, t, rfl⟩
  simp (dsimp := false) only [go_sem, Nat.reduceAdd, Nat.reduceEqDiff, Nat.reduceMul, Nat.reduceLeDiff, Nat.reduceSub, Nat.reduceLT, ↓reduceIte, reduceCtorEq, List.reduceReplicate, List.flatten_cons, List.flatten_nil, List.append_nil, eq_self, Int.reduceLE, Int.reduceLT, Int.reduceToNat, Nat.min_eq_left, Int.reducePow, Int.reduceNeg, Int.reduceEq]
  exact ⟨(hp.trans hp2).app' _, _, rfl⟩
theorem ask_roots : SpecX Tryd.prog nG fn.query_Ask [.iface 105 (.agg ⟨C⟩), .string ⟨#[114, 111, 111, 116, 115, 32, c]⟩] h fun v' h' => Pre h h' ∧ One v' := by
  refine SpecX.of_body (ir.query_Ask.spec (Nat.le_of_ble_eq_true rfl)) ?_
  simp (dsimp := false) only [↓ir.query_Ask.bw, ir.query_Ask.rs, go_sem, Nat.reduceAdd, Nat.reduceEqDiff, Nat.reduceMul, Nat.reduceLeDiff, Nat.reduceSub, Nat.reduceLT, ↓reduceIte, reduceCtorEq, List.reduceReplicate, List.flatten_cons, List.flatten_nil, List.append_nil, eq_self, Int.reduceLE, Int.reduceLT, Int.reduceToNat, Nat.min_eq_left, Int.reducePow, Int.reduceNeg, Int.reduceEq]
  refine callV_of (cut_spec (s := ⟨#[114, 111, 111, 116, 115, 32, c]⟩) (Nat.le_of_ble_eq_true rfl) 32) ?_
  have hcut : cutV ⟨#[114, 111, 111, 116, 115, 32, c]⟩ 32 = .tuple #[.string ⟨#[114, 111, 111, 116, 115]⟩, .string ⟨#[c]⟩, .bool true] := rfl
  rw [hcut]
  simp (dsimp := false) only [go_sem, Nat.reduceAdd, Nat.reduceEqDiff, Nat.reduceMul, Nat.reduceLeDiff, Nat.reduceSub, Nat.reduceLT, ↓reduceIte, reduceCtorEq, List.reduceReplicate, List.flatten_cons, List.flatten_nil, List.append_nil, eq_self, Int.reduceLE, Int.reduceLT, Int.reduceToNat, Nat.min_eq_left, Int.reducePow, Int.reduceNeg, Int.reduceEq]
  refine callV_of (qnumber_spec _ hd hc) ?_
  simp (dsimp := false) only [go_sem, Nat.reduceAdd, Nat.reduceEqDiff, Nat.reduceMul, Nat.reduceLeDiff, Nat.reduceSub, Nat.reduceLT, ↓reduceIte, reduceCtorEq, List.reduceReplicate, List.flatten_cons, List.flatten_nil, List.append_nil, eq_self, Int.reduceLE, Int.reduceLT, Int.reduceToNat, Nat.min_eq_left, Int.reducePow, Int.reduceNeg, Int.reduceEq, e_roots_floor, e_roots_roots, e_roots_fib, e_roots_next, Bool.not_false, Bool.not_true]
  obtain ⟨_, h1, hx, hp, n, rfl, w⟩ := xRoots k hd
  refine ⟨_, h1, hx, ?_⟩
  simp (dsimp := false) only [go_sem, Nat.reduceAdd, Nat.reduceEqDiff, Nat.reduceMul, Nat.reduceLeDiff, Nat.reduceSub, Nat.reduceLT, ↓reduceIte, reduceCtorEq, List.reduceReplicate, List.flatten_cons, List.flatten_nil, List.append_nil, eq_self, Int.reduceLE, Int.reduceLT, Int.reduceToNat, Nat.min_eq_left, Int.reducePow, Int.reduceNeg, Int.reduceEq]
  refine callV_of (itoa_spec (hg.pre hp) w) ?_
  simp (dsimp := false) only [go_sem, Nat.reduceAdd, Nat.reduceEqDiff, Nat.reduceMul, Nat.reduceLeDiff, Nat.reduceSub, Nat.reduceLT, ↓reduceIte, reduceCtorEq, List.reduceReplicate, List.flatten_cons, List.flatten_nil, List.append_nil, eq_self, Int.reduceLE, Int.reduceLT, Int.reduceToNat, Nat.min_eq_left, Int.reducePow, Int.reduceNeg, Int.reduceEq]
  exact ⟨hp.app' _, _, rfl⟩
end
end Go.Proofs.YtoiihalnbdehkaaDoor.B
