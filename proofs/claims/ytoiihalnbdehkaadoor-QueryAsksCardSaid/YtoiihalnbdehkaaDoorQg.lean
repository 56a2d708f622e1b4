/-
  Layer 26: hops, rows of numbers, keys as texts; what a source tells of the rest.
-/
import Derived.Test.YtoiihalnbdehkaaDoorQc
import Derived.Test.YtoiihalnbdehkaaDoorQn
import Derived.Test.YtoiihalnbdehkaaDoorArA
namespace Go.Proofs.YtoiihalnbdehkaaDoor.B
open Go
set_option linter.unusedVariables false
set_option linter.unusedSimpArgs false
set_option maxRecDepth 100000
abbrev noneS : ByteArray := ⟨#[110, 111, 110, 101]⟩
/-- A hop's text. -/
def hopS (k : Hop) : ByteArray := wholeS k.d ++ ⟨#[32, 98, 121, 32]⟩ ++ wholeS k.n ++ ⟨#[32, 109, 101, 116, 114, 105, 99, 32]⟩ ++ wholeS k.m
abbrev hopok (k : Hop) : Prop := i64ok k.d ∧ i64ok k.n ∧ i64ok k.m
theorem qhop_spec {h : AHeap} (hg : PowV h) {k : Hop} (ho : hopok k) : Spec Tryd.prog nG fn.query_hop [.agg ⟨k.c⟩] h (.string (hopS k)) h := by
  obtain ⟨a, b, c⟩ := k
  obtain ⟨o1, o2, o3⟩ := ho
  apply ir.query_hop.spec (Nat.le_of_ble_eq_true rfl)
  have h1 := wholeS_size o1
  have h2 := wholeS_size o2
  have h3 := wholeS_size o3
  simp only at h1 h2 h3 o1 o2 o3
  have hg2 : ∀ g, PowV (h ++ g) := fun g => hg.pre (.app _ _)
  simp (dsimp := false) only [↓ir.query_hop.bw, ir.query_hop.rs, go_sem, Nat.reduceAdd, Nat.reduceEqDiff, Nat.reduceMul, Nat.reduceLeDiff, Nat.reduceSub, Nat.reduceLT, ↓reduceIte, reduceCtorEq, List.reduceReplicate, List.flatten_cons, List.flatten_nil, List.append_nil, eq_self, Int.reduceLE, Int.reduceLT, Int.reduceToNat, Nat.min_eq_left, Int.reducePow, Int.reduceNeg, Int.reduceEq, Hop.c]
  refine callV_of (itoa_spec (hg2 _) o1) ?_
  simp (dsimp := false) only [go_sem, Nat.reduceAdd, Nat.reduceEqDiff, Nat.reduceMul, Nat.reduceLeDiff, Nat.reduceSub, Nat.reduceLT, ↓reduceIte, reduceCtorEq, List.reduceReplicate, List.flatten_cons, List.flatten_nil, List.append_nil, eq_self, Int.reduceLE, Int.reduceLT, Int.reduceToNat, Nat.min_eq_left, Int.reducePow, Int.reduceNeg, Int.reduceEq]
  refine ⟨by simp only [ByteArray.size_append, size_mk, List.size_toArray, List.length_cons, List.length_nil]; omega, ?_⟩
  refine callV_of (itoa_spec (hg2 _) o2) ?_
  simp (dsimp := false) only [go_sem, Nat.reduceAdd, Nat.reduceEqDiff, Nat.reduceMul, Nat.reduceLeDiff, Nat.reduceSub, Nat.reduceLT, ↓reduceIte, reduceCtorEq, List.reduceReplicate, List.flatten_cons, List.flatten_nil, List.append_nil, eq_self, Int.reduceLE, Int.reduceLT, Int.reduceToNat, Nat.min_eq_left, Int.reducePow, Int.reduceNeg, Int.reduceEq]
  refine ⟨by simp only [ByteArray.size_append, size_mk, List.size_toArray, List.length_cons, List.length_nil]; omega, ?_⟩
  refine ⟨by simp only [ByteArray.size_append, size_mk, List.size_toArray, List.length_cons, List.length_nil]; omega, ?_⟩
  refine callV_of (itoa_spec (hg2 _) o3) ?_
  simp (dsimp := false) only [go_sem, Nat.reduceAdd, Nat.reduceEqDiff, Nat.reduceMul, Nat.reduceLeDiff, Nat.reduceSub, Nat.reduceLT, ↓reduceIte, reduceCtorEq, List.reduceReplicate, List.flatten_cons, List.flatten_nil, List.append_nil, eq_self, Int.reduceLE, Int.reduceLT, Int.reduceToNat, Nat.min_eq_left, Int.reducePow, Int.reduceNeg, Int.reduceEq]
  refine ⟨by simp only [ByteArray.size_append, size_mk, List.size_toArray, List.length_cons, List.length_nil]; omega, ?_⟩
  exact Fin.sc rfl rfl
/-- A text, or a sign that there is none. -/
def orN (s : ByteArray) : ByteArray := if s = ⟨#[]⟩ then noneS else s
theorem qnone_spec (h : AHeap) (s : ByteArray) : Spec Tryd.prog nG fn.query_none [.string s] h (.string (orN s)) h := by
  apply ir.query_none.spec (Nat.le_of_ble_eq_true rfl)
  simp (dsimp := false) only [↓ir.query_none.bw, ir.query_none.rs, go_sem, Nat.reduceAdd, Nat.reduceEqDiff, Nat.reduceMul, Nat.reduceLeDiff, Nat.reduceSub, Nat.reduceLT, ↓reduceIte, reduceCtorEq, List.reduceReplicate, List.flatten_cons, List.flatten_nil, List.append_nil, eq_self, Int.reduceLE, Int.reduceLT, Int.reduceToNat, Nat.min_eq_left, Int.reducePow, Int.reduceNeg, Int.reduceEq]
  refine cV (fun c => ?_) (fun c => ?_)
  · simp (dsimp := false) only [go_sem, Nat.reduceAdd, Nat.reduceEqDiff, Nat.reduceMul, Nat.reduceLeDiff, Nat.reduceSub, Nat.reduceLT, ↓reduceIte, reduceCtorEq, List.reduceReplicate, List.flatten_cons, List.flatten_nil, List.append_nil, eq_self, Int.reduceLE, Int.reduceLT, Int.reduceToNat, Nat.min_eq_left, Int.reducePow, Int.reduceNeg, Int.reduceEq]
    exact .inl ⟨by rw [orN, if_pos ((empty_iff s).1 c)], rfl⟩
  · simp (dsimp := false) only [go_sem, Nat.reduceAdd, Nat.reduceEqDiff, Nat.reduceMul, Nat.reduceLeDiff, Nat.reduceSub, Nat.reduceLT, ↓reduceIte, reduceCtorEq, List.reduceReplicate, List.flatten_cons, List.flatten_nil, List.append_nil, eq_self, Int.reduceLE, Int.reduceLT, Int.reduceToNat, Nat.min_eq_left, Int.reducePow, Int.reduceNeg, Int.reduceEq]
    exact .inl ⟨by rw [orN, if_neg (fun e => by rw [(empty_iff s).2 e] at c; cases c)], rfl⟩
/-! ### What a source holds, by name -/
structure TD where
  fib : List Hop
  has : Nat → Bool
  fe : Nat → Nat
  fs : Nat → Nat
  fm : Nat → Int
  any : Bool
  oe : Nat
  os : Nat
  om : Int
  live : List Int
  roots : Nat → Int
  ctr : List Int
  now : Int
  boot : Nat
  dead : Int
structure SrcT (h : AHeap) (C : List Value) (T : TD) : Prop where
  len : C.length = 68
  fib : ∃ v, (C.drop 0).take 1 = [v] ∧ Ls h 3 isH v T.fib ∧ Fits T.fib ∧ ∀ a ∈ T.fib, hopok a
  has : ∀ d, d < 8 → (C.drop (1 + d)).take 1 = [.bool (T.has d)]
  flo : ∀ d, d < 8 → (C.drop (9 + d * 3)).take 3 = keyC (T.fe d) (T.fs d) (T.fm d) ∧ T.fe d < 4294967296 ∧ T.fs d < 4294967296 ∧ i64ok (T.fm d)
  any : (C.drop 33).take 1 = [.bool T.any]
  own : (C.drop 34).take 3 = keyC T.oe T.os T.om ∧ T.oe < 4294967296 ∧ T.os < 4294967296 ∧ i64ok T.om
  live : ∃ v, (C.drop 37).take 1 = [v] ∧ Ls h 1 isI v T.live ∧ T.live.length * 8 ≤ 140737488351232 ∧ ∀ a ∈ T.live, i64ok a
  roots : ∀ d, d < 8 → (C.drop (38 + d)).take 1 = [.int .i64 (T.roots d)] ∧ i64ok (T.roots d)
  ctr : (C.drop 46).take 19 = ints T.ctr ∧ T.ctr.length = 19 ∧ lok T.ctr
  now : (C.drop 65).take 1 = [.int .i64 T.now] ∧ i64ok T.now
  boot : (C.drop 66).take 1 = [.int .u64 (T.boot : Int)] ∧ T.boot < 18446744073709551616
  dead : (C.drop 67).take 1 = [.int .i64 T.dead] ∧ i64ok T.dead
theorem SrcT.pre {h h' : AHeap} {C : List Value} {T : TD} (k : SrcT h C T) (p : Pre h h') : SrcT h' C T :=
  { k with fib := let ⟨v, a, b, c⟩ := k.fib; ⟨v, a, b.pre p, c⟩, live := let ⟨v, a, b, c⟩ := k.live; ⟨v, a, b.pre p, c⟩ }
theorem ints_one (L : List Int) : (ints L).all B.oneA = true := by
  rw [List.all_eq_true]
  intro x hx
  obtain ⟨n, _, rfl⟩ := List.mem_map.1 hx
  rfl
theorem lsI_cells {h : AHeap} {v : Value} {L : List Int} (k : Ls h 1 isI v L) : Sl h 1 v L.length (ints L) := by
  obtain ⟨cs, a, b⟩ := k
  have : cs = ints L := by
    have hl := a.len
    apply List.ext_getElem
    · simp; omega
    · intro i h1 h2
      have := b i (by simpa using h2)
      rw [Nat.mul_one, List.drop_eq_getElem_cons h1, List.take_succ_cons, List.take_zero] at this
      have t := (List.cons.inj this).1
      rw [t]; simp
  subst this
  exact a
theorem lsI_src {h : AHeap} {v : Value} {L : List Int} (k : Ls h 1 isI v L) : appSrc h 1 false v = some (L.length, ints L) := by
  have a := lsI_cells k
  generalize L.length = n at a ⊢
  generalize ints L = cs at a ⊢
  cases a with
  | nil => rfl
  | void => rfl
  | row hl hr hc hb ho hm =>
    rename_i b off cap
    cases n with
    | zero =>
      have : cs = [] := List.eq_nil_of_length_eq_zero (by omega)
      subst this; rfl
    | succ n => rw [appSrc_slice, hr (by omega)]; rfl
theorem Ow.lsInt {h0 h : AHeap} {v : Value} {L : List Int} {n : Nat} (k : Ow h0 h 1 v n (ints L)) (hl : L.length = n) : Ls h 1 isI v L := by
  subst hl
  refine Sl.ls (enc := fun x => [.int .i64 x]) (fun _ => rfl) ?_ rfl
  rw [← List.map_eq_flatMap]
  exact k.sl
section
variable {h : AHeap} {C : List Value} {T : TD} (k : SrcT h C T)
include k
theorem mFib : SpecX Tryd.prog nG fn.law26_source_Fib [.agg ⟨C⟩] h fun v' h' => Pre h h' ∧ Ls h' 3 isH v' T.fib := by
  obtain ⟨v, e, ls, hf, _⟩ := k.fib
  refine SpecX.of_body (ir.law26_source_Fib.spec (Nat.le_of_ble_eq_true rfl)) ?_
  have r0 : rds (h ++ [.row .fix C]) h.length 0 1 = some [v] := (Fx.here h C []).rd e (by rw [k.len]; omega)
  simp (dsimp := false) only [↓ir.law26_source_Fib.bw, ir.law26_source_Fib.rs, go_sem, Nat.reduceAdd, Nat.reduceEqDiff, Nat.reduceMul, Nat.reduceLeDiff, Nat.reduceSub, Nat.reduceLT, ↓reduceIte, reduceCtorEq, List.reduceReplicate, List.flatten_cons, List.flatten_nil, List.append_nil, eq_self, Int.reduceLE, Int.reduceLT, Int.reduceToNat, Nat.min_eq_left, Int.reducePow, Int.reduceNeg, Int.reduceEq, r0]
  refine callV_x (tohops_spec (ls.pre (.app _ _)) hf) ?_
  rintro _ h1 ⟨hp, ow⟩
  simp (dsimp := false) only [go_sem, Nat.reduceAdd, Nat.reduceEqDiff, Nat.reduceMul, Nat.reduceLeDiff, Nat.reduceSub, Nat.reduceLT, ↓reduceIte, reduceCtorEq, List.reduceReplicate, List.flatten_cons, List.flatten_nil, List.append_nil, eq_self, Int.reduceLE, Int.reduceLT, Int.reduceToNat, Nat.min_eq_left, Int.reducePow, Int.reduceNeg, Int.reduceEq]
  exact ⟨(Pre.app _ _).trans hp, ow.hops⟩
theorem mFloor {d : Nat} (hd : d < 8) : SpecX Tryd.prog nG fn.law26_source_Floor [.agg ⟨C⟩, .int .i64 (d : Int)] h fun v' h' => Pre h h' ∧ v' = .tuple #[.agg ⟨if T.has d then keyC (T.fe d) (T.fs d) (T.fm d) else keyC 0 0 0⟩, .bool (T.has d)] := by
  have hb := k.has d hd
  obtain ⟨hk, w1, w2, w3⟩ := k.flo d hd
  refine SpecX.of_body (ir.law26_source_Floor.spec (Nat.le_of_ble_eq_true rfl)) ?_
  have d1 : decide ((d : Int) < 0) = false := decide_eq_false (by omega)
  have d2 : decide ((d : Int) > 7) = false := decide_eq_false (by omega)
  have q1 : 1 + d + 1 ≤ 68 := by omega
  have q2 : 9 + d * 3 + 3 ≤ 68 := by omega
  have hr : ((0 : Int) ≤ (d : Int) ∧ (d : Int) < ((8 : Nat) : Int)) := by omega
  simp (dsimp := false) only [↓ir.law26_source_Floor.bw, ir.law26_source_Floor.rs, go_sem, Nat.reduceAdd, Nat.reduceEqDiff, Nat.reduceMul, Nat.reduceLeDiff, Nat.reduceSub, Nat.reduceLT, ↓reduceIte, reduceCtorEq, List.reduceReplicate, List.flatten_cons, List.flatten_nil, List.append_nil, eq_self, Int.reduceLE, Int.reduceLT, Int.reduceToNat, Nat.min_eq_left, Int.reducePow, Int.reduceNeg, Int.reduceEq, d1, d2]
  refine ⟨hr, ?_⟩
  simp (dsimp := false) only [go_sem, Nat.reduceAdd, Nat.reduceEqDiff, Nat.reduceMul, Nat.reduceLeDiff, Nat.reduceSub, Nat.reduceLT, ↓reduceIte, reduceCtorEq, List.reduceReplicate, List.flatten_cons, List.flatten_nil, List.append_nil, eq_self, Int.reduceLE, Int.reduceLT, Int.reduceToNat, Nat.min_eq_left, Int.reducePow, Int.reduceNeg, Int.reduceEq, Int.toNat_natCast, Nat.mul_one, k.len, q1, hb]
  cases hh : T.has d with
  | false =>
    simp (dsimp := false) only [go_sem, Nat.reduceAdd, Nat.reduceEqDiff, Nat.reduceMul, Nat.reduceLeDiff, Nat.reduceSub, Nat.reduceLT, ↓reduceIte, reduceCtorEq, List.reduceReplicate, List.flatten_cons, List.flatten_nil, List.append_nil, eq_self, Int.reduceLE, Int.reduceLT, Int.reduceToNat, Nat.min_eq_left, Int.reducePow, Int.reduceNeg, Int.reduceEq]
    rfl
  | true =>
    simp (dsimp := false) only [go_sem, Nat.reduceAdd, Nat.reduceEqDiff, Nat.reduceMul, Nat.reduceLeDiff, Nat.reduceSub, Nat.reduceLT, ↓reduceIte, reduceCtorEq, List.reduceReplicate, List.flatten_cons, List.flatten_nil, List.append_nil, eq_self, Int.reduceLE, Int.reduceLT, Int.reduceToNat, Nat.min_eq_left, Int.reducePow, Int.reduceNeg, Int.reduceEq]
    refine ⟨hr, ?_⟩
    simp (dsimp := false) only [go_sem, Nat.reduceAdd, Nat.reduceEqDiff, Nat.reduceMul, Nat.reduceLeDiff, Nat.reduceSub, Nat.reduceLT, ↓reduceIte, reduceCtorEq, List.reduceReplicate, List.flatten_cons, List.flatten_nil, List.append_nil, eq_self, Int.reduceLE, Int.reduceLT, Int.reduceToNat, Nat.min_eq_left, Int.reducePow, Int.reduceNeg, Int.reduceEq, Int.toNat_natCast, k.len, q2, hk]
    refine callV_of (to01_spec _ _ _ _) ?_
    simp (dsimp := false) only [go_sem, Nat.reduceAdd, Nat.reduceEqDiff, Nat.reduceMul, Nat.reduceLeDiff, Nat.reduceSub, Nat.reduceLT, ↓reduceIte, reduceCtorEq, List.reduceReplicate, List.flatten_cons, List.flatten_nil, List.append_nil, eq_self, Int.reduceLE, Int.reduceLT, Int.reduceToNat, Nat.min_eq_left, Int.reducePow, Int.reduceNeg, Int.reduceEq]
theorem mRoots {d : Nat} (hd : d < 8) : SpecX Tryd.prog nG fn.law26_source_Roots [.agg ⟨C⟩, .int .i64 (d : Int)] h fun v' h' => Pre h h' ∧ v' = .int .i64 (T.roots d) := by
  obtain ⟨hk, w⟩ := k.roots d hd
  refine SpecX.of_body (ir.law26_source_Roots.spec (Nat.le_of_ble_eq_true rfl)) ?_
  have d1 : decide ((d : Int) < 0) = false := decide_eq_false (by omega)
  have d2 : decide ((d : Int) > 7) = false := decide_eq_false (by omega)
  have q2 : 38 + d + 1 ≤ 68 := by omega
  have hr : ((0 : Int) ≤ (d : Int) ∧ (d : Int) < ((8 : Nat) : Int)) := by omega
  simp (dsimp := false) only [↓ir.law26_source_Roots.bw, ir.law26_source_Roots.rs, go_sem, Nat.reduceAdd, Nat.reduceEqDiff, Nat.reduceMul, Nat.reduceLeDiff, Nat.reduceSub, Nat.reduceLT, ↓reduceIte, reduceCtorEq, List.reduceReplicate, List.flatten_cons, List.flatten_nil, List.append_nil, eq_self, Int.reduceLE, Int.reduceLT, Int.reduceToNat, Nat.min_eq_left, Int.reducePow, Int.reduceNeg, Int.reduceEq, d1, d2]
  refine ⟨hr, ?_⟩
  simp (dsimp := false) only [go_sem, Nat.reduceAdd, Nat.reduceEqDiff, Nat.reduceMul, Nat.reduceLeDiff, Nat.reduceSub, Nat.reduceLT, ↓reduceIte, reduceCtorEq, List.reduceReplicate, List.flatten_cons, List.flatten_nil, List.append_nil, eq_self, Int.reduceLE, Int.reduceLT, Int.reduceToNat, Nat.min_eq_left, Int.reducePow, Int.reduceNeg, Int.reduceEq, Int.toNat_natCast, Nat.mul_one, k.len, q2, hk]
theorem mNow : SpecX Tryd.prog nG fn.law26_source_Now [.agg ⟨C⟩] h fun v' h' => Pre h h' ∧ v' = .int .i64 T.now := by
  refine SpecX.of_body (ir.law26_source_Now.spec (Nat.le_of_ble_eq_true rfl)) ?_
  simp (dsimp := false) only [↓ir.law26_source_Now.bw, ir.law26_source_Now.rs, go_sem, Nat.reduceAdd, Nat.reduceEqDiff, Nat.reduceMul, Nat.reduceLeDiff, Nat.reduceSub, Nat.reduceLT, ↓reduceIte, reduceCtorEq, List.reduceReplicate, List.flatten_cons, List.flatten_nil, List.append_nil, eq_self, Int.reduceLE, Int.reduceLT, Int.reduceToNat, Nat.min_eq_left, Int.reducePow, Int.reduceNeg, Int.reduceEq, k.len, k.now.1]
theorem mBoot : SpecX Tryd.prog nG fn.law26_source_Boot [.agg ⟨C⟩] h fun v' h' => Pre h h' ∧ v' = .int .u64 T.boot := by
  refine SpecX.of_body (ir.law26_source_Boot.spec (Nat.le_of_ble_eq_true rfl)) ?_
  simp (dsimp := false) only [↓ir.law26_source_Boot.bw, ir.law26_source_Boot.rs, go_sem, Nat.reduceAdd, Nat.reduceEqDiff, Nat.reduceMul, Nat.reduceLeDiff, Nat.reduceSub, Nat.reduceLT, ↓reduceIte, reduceCtorEq, List.reduceReplicate, List.flatten_cons, List.flatten_nil, List.append_nil, eq_self, Int.reduceLE, Int.reduceLT, Int.reduceToNat, Nat.min_eq_left, Int.reducePow, Int.reduceNeg, Int.reduceEq, k.len, k.boot.1]
theorem mDead : SpecX Tryd.prog nG fn.law26_source_Dead [.agg ⟨C⟩] h fun v' h' => Pre h h' ∧ v' = .int .i64 T.dead := by
  refine SpecX.of_body (ir.law26_source_Dead.spec (Nat.le_of_ble_eq_true rfl)) ?_
  simp (dsimp := false) only [↓ir.law26_source_Dead.bw, ir.law26_source_Dead.rs, go_sem, Nat.reduceAdd, Nat.reduceEqDiff, Nat.reduceMul, Nat.reduceLeDiff, Nat.reduceSub, Nat.reduceLT, ↓reduceIte, reduceCtorEq, List.reduceReplicate, List.flatten_cons, List.flatten_nil, List.append_nil, eq_self, Int.reduceLE, Int.reduceLT, Int.reduceToNat, Nat.min_eq_left, Int.reducePow, Int.reduceNeg, Int.reduceEq, k.len, k.dead.1]
theorem mLive : SpecX Tryd.prog nG fn.law26_source_Live [.agg ⟨C⟩] h fun v' h' => Pre h h' ∧ Ls h' 1 isI v' T.live := by
  obtain ⟨v, e, ls, hf, _⟩ := k.live
  refine SpecX.of_body (ir.law26_source_Live.spec (Nat.le_of_ble_eq_true rfl)) ?_
  have hp : Pre h (h ++ [.row .fix C, .row (.grow 1) []]) := .app _ _
  have ls1 := ls.pre hp
  have ow : Ow h (h ++ [.row .fix C, .row (.grow 1) []]) 1 (.slice (some ⟨h.length + 1, 0, none⟩) 0 0) 0 [] := by
    have := Ow.row (h0 := h) (h := h ++ [.row .fix C, .row (.grow 1) []]) (sz := 1) (b := h.length + 1) (off := 0) (n := 0) (cap := 0) (cells := []) (by omega) (by simp) (by simp) (by omega) (by unfold maxI; omega)
    simpa using this
  simp (dsimp := false) only [↓ir.law26_source_Live.bw, ir.law26_source_Live.rs, go_sem, Nat.reduceAdd, Nat.reduceEqDiff, Nat.reduceMul, Nat.reduceLeDiff, Nat.reduceSub, Nat.reduceLT, ↓reduceIte, reduceCtorEq, List.reduceReplicate, List.flatten_cons, List.flatten_nil, List.append_nil, eq_self, Int.reduceLE, Int.reduceLT, Int.reduceToNat, Nat.min_eq_left, Int.reducePow, Int.reduceNeg, Int.reduceEq, k.len, e]
  rw [lsI_src ls1]
  refine ow.app (m := T.live.length) (by simp) (ints_one _) ⟨by omega, by omega⟩ (fun u' h' ho hc _ _ => ?_) hp
  simp (dsimp := false) only [go_sem, Nat.reduceAdd, Nat.reduceEqDiff, Nat.reduceMul, Nat.reduceLeDiff, Nat.reduceSub, Nat.reduceLT, ↓reduceIte, reduceCtorEq, List.reduceReplicate, List.flatten_cons, List.flatten_nil, List.append_nil, eq_self, Int.reduceLE, Int.reduceLT, Int.reduceToNat, Nat.min_eq_left, Int.reducePow, Int.reduceNeg, Int.reduceEq]
  refine ⟨hc.pre hp, ?_⟩
  rw [List.nil_append, Nat.zero_add] at ho
  exact ho.lsInt rfl
theorem mCounters : SpecX Tryd.prog nG fn.law26_source_Counters [.agg ⟨C⟩] h fun v' h' => Pre h h' ∧ Ls h' 1 isI v' T.ctr := by
  obtain ⟨hc19, hl, _⟩ := k.ctr
  refine SpecX.of_body (ir.law26_source_Counters.spec (Nat.le_of_ble_eq_true rfl)) ?_
  have hp : Pre h (h ++ [.row .fix C, .row (.grow 1) []]) := .app _ _
  have fx : Fx (h ++ [.row .fix C, .row (.grow 1) []]) h.length C := Fx.here h C _
  have ow : Ow h (h ++ [.row .fix C, .row (.grow 1) []]) 1 (.slice (some ⟨h.length + 1, 0, none⟩) 0 0) 0 [] := by
    have := Ow.row (h0 := h) (h := h ++ [.row .fix C, .row (.grow 1) []]) (sz := 1) (b := h.length + 1) (off := 0) (n := 0) (cap := 0) (cells := []) (by omega) (by simp) (by simp) (by omega) (by unfold maxI; omega)
    simpa using this
  have r19 : rds (h ++ [.row .fix C, .row (.grow 1) []]) h.length 46 19 = some (ints T.ctr) := fx.rd hc19 (by rw [k.len]; omega)
  simp (dsimp := false) only [↓ir.law26_source_Counters.bw, ir.law26_source_Counters.rs, go_sem, Nat.reduceAdd, Nat.reduceEqDiff, Nat.reduceMul, Nat.reduceLeDiff, Nat.reduceSub, Nat.reduceLT, ↓reduceIte, reduceCtorEq, List.reduceReplicate, List.flatten_cons, List.flatten_nil, List.append_nil, eq_self, Int.reduceLE, Int.reduceLT, Int.reduceToNat, Nat.min_eq_left, Int.reducePow, Int.reduceNeg, Int.reduceEq, k.len]
  refine ⟨by decide, fx.slaOK, ?_⟩
  have hs : appSrc (h ++ [AObj.row .fix C, .row (.grow 1) []]) 1 false (.slice (some ⟨h.length, if ((none : Option Int).getD 0).toNat = 19 then 46 else 46 + ((none : Option Int).getD 0).toNat * 1, none⟩) (((none : Option Int).getD ((19 : Nat) : Int)).toNat - ((none : Option Int).getD 0).toNat) (19 - ((none : Option Int).getD 0).toNat)) = some (19, ints T.ctr) := by
    show (rds (h ++ [AObj.row .fix C, .row (.grow 1) []]) h.length 46 19).map _ = _
    rw [r19]; rfl
  rw [hs]
  refine ow.app (m := 19) (by simp [hl]) (ints_one _) ⟨by omega, by omega⟩ (fun u' h' ho hc _ _ => ?_) hp
  simp (dsimp := false) only [go_sem, Nat.reduceAdd, Nat.reduceEqDiff, Nat.reduceMul, Nat.reduceLeDiff, Nat.reduceSub, Nat.reduceLT, ↓reduceIte, reduceCtorEq, List.reduceReplicate, List.flatten_cons, List.flatten_nil, List.append_nil, eq_self, Int.reduceLE, Int.reduceLT, Int.reduceToNat, Nat.min_eq_left, Int.reducePow, Int.reduceNeg, Int.reduceEq]
  refine ⟨hc.pre hp, ?_⟩
  rw [List.nil_append, Nat.zero_add] at ho
  exact ho.lsInt hl
theorem mOwn : SpecX Tryd.prog nG fn.law26_source_Own [.agg ⟨C⟩] h fun v' h' => Pre h h' ∧ v' = .tuple #[.agg ⟨keyC T.oe T.os T.om⟩, .bool T.any] := by
  obtain ⟨hk, w1, w2, w3⟩ := k.own
  have ha := k.any
  refine SpecX.of_body (ir.law26_source_Own.spec (Nat.le_of_ble_eq_true rfl)) ?_
  simp (dsimp := false) only [↓ir.law26_source_Own.bw, ir.law26_source_Own.rs, go_sem, Nat.reduceAdd, Nat.reduceEqDiff, Nat.reduceMul, Nat.reduceLeDiff, Nat.reduceSub, Nat.reduceLT, ↓reduceIte, reduceCtorEq, List.reduceReplicate, List.flatten_cons, List.flatten_nil, List.append_nil, eq_self, Int.reduceLE, Int.reduceLT, Int.reduceToNat, Nat.min_eq_left, Int.reducePow, Int.reduceNeg, Int.reduceEq]
  have f1 : ∀ cs, Fx (h ++ [AObj.row .fix C, AObj.row .fix cs]) h.length C := fun cs => Fx.here _ _ _
  have rA : ∀ cs, rds (h ++ [AObj.row .fix C, AObj.row .fix cs]) h.length 33 1 = some [.bool T.any] := fun cs => (f1 cs).rd ha (by rw [k.len]; omega)
  have rK : ∀ cs, rds (h ++ [AObj.row .fix C, AObj.row .fix cs]) h.length 34 3 = some (keyC T.oe T.os T.om) := fun cs => (f1 cs).rd hk (by rw [k.len]; omega)
  have agt : aggOf true (keyC T.oe T.os T.om) = some (.agg ⟨keyC T.oe T.os T.om⟩) := rfl
  refine anyV_of [(2, .pointer (some ⟨h.length + 1, 0, none⟩)), (3, .bool T.any)] (h ++ [AObj.row .fix C, AObj.row .fix (keyC T.oe T.os T.om)]) ?_ ?_
  · refine wpA_calm _ _ (h ++ [AObj.row .fix C, AObj.row .fix (keyC T.oe T.os T.om)]) 7 [.pointer (some ⟨h.length, 0, none⟩), .pointer (some ⟨h.length, 34, none⟩), .agg ⟨keyC T.oe T.os T.om⟩, .agg ⟨keyC T.oe T.os T.om⟩, .pointer (some ⟨h.length, 0, none⟩), .pointer (some ⟨h.length, 33, none⟩), .bool T.any, undef, .bool T.any] ?_ ?_ (by decide) ?_ ?_
    · decide
    · exact dst_inj (by decide)
    · intro i hi
      have fo : ∀ hh : AHeap, (hh = h ++ [AObj.row .fix C, AObj.row .fix [.int .u32 0, .int .u32 0, .int .i64 0]] ∨ hh = h ++ [AObj.row .fix C, AObj.row .fix (keyC T.oe T.os T.om)]) → rds hh h.length 33 1 = some [.bool T.any] ∧ rds hh h.length 34 3 = some (keyC T.oe T.os T.om) := fun hh c => by
        rcases c with rfl | rfl
        · exact ⟨rA _, rK _⟩
        · exact ⟨rA _, rK _⟩
      unfold calmOK
      match i, hi with
      | 0, _ =>
        intro e hh p q c
        have b1 := q 1 (dst_not (by decide))
        simp (dsimp := false) only [go_sem, Nat.reduceAdd, Nat.reduceEqDiff, Nat.reduceMul, Nat.reduceLeDiff, Nat.reduceSub, Nat.reduceLT, ↓reduceIte, reduceCtorEq, List.reduceReplicate, List.flatten_cons, List.flatten_nil, List.append_nil, eq_self, Int.reduceLE, Int.reduceLT, Int.reduceToNat, Nat.min_eq_left, Int.reducePow, Int.reduceNeg, Int.reduceEq, b1]
        exact rfl
      | 1, _ =>
        intro e hh p q c
        have b1 := p 0 (by simp) _ _ rfl rfl
        simp only [List.getD, List.getElem?_cons_zero, List.getElem?_cons_succ, Option.getD_some] at b1
        simp (dsimp := false) only [go_sem, Nat.reduceAdd, Nat.reduceEqDiff, Nat.reduceMul, Nat.reduceLeDiff, Nat.reduceSub, Nat.reduceLT, ↓reduceIte, reduceCtorEq, List.reduceReplicate, List.flatten_cons, List.flatten_nil, List.append_nil, eq_self, Int.reduceLE, Int.reduceLT, Int.reduceToNat, Nat.min_eq_left, Int.reducePow, Int.reduceNeg, Int.reduceEq, b1]
        exact rfl
      | 2, _ =>
        intro e hh p q c
        have b1 := p 1 (by simp) _ _ rfl rfl
        simp only [List.getD, List.getElem?_cons_zero, List.getElem?_cons_succ, Option.getD_some] at b1
        rw [if_neg (by decide)] at c
        simp (dsimp := false) only [go_sem, Nat.reduceAdd, Nat.reduceEqDiff, Nat.reduceMul, Nat.reduceLeDiff, Nat.reduceSub, Nat.reduceLT, ↓reduceIte, reduceCtorEq, List.reduceReplicate, List.flatten_cons, List.flatten_nil, List.append_nil, eq_self, Int.reduceLE, Int.reduceLT, Int.reduceToNat, Nat.min_eq_left, Int.reducePow, Int.reduceNeg, Int.reduceEq, b1, (fo hh c).2, agt]
        exact rfl
      | 3, _ =>
        intro e hh p q c
        have b1 := p 2 (by simp) _ _ rfl rfl
        simp only [List.getD, List.getElem?_cons_zero, List.getElem?_cons_succ, Option.getD_some] at b1
        rw [if_neg (by decide)] at c
        simp (dsimp := false) only [go_sem, Nat.reduceAdd, Nat.reduceEqDiff, Nat.reduceMul, Nat.reduceLeDiff, Nat.reduceSub, Nat.reduceLT, ↓reduceIte, reduceCtorEq, List.reduceReplicate, List.flatten_cons, List.flatten_nil, List.append_nil, eq_self, Int.reduceLE, Int.reduceLT, Int.reduceToNat, Nat.min_eq_left, Int.reducePow, Int.reduceNeg, Int.reduceEq, b1]
        refine callV_of (to01_spec _ _ _ _) ?_
        exact ⟨rfl, rfl⟩
      | 4, _ =>
        intro e hh p q c
        have b1 := q 1 (dst_not (by decide))
        simp (dsimp := false) only [go_sem, Nat.reduceAdd, Nat.reduceEqDiff, Nat.reduceMul, Nat.reduceLeDiff, Nat.reduceSub, Nat.reduceLT, ↓reduceIte, reduceCtorEq, List.reduceReplicate, List.flatten_cons, List.flatten_nil, List.append_nil, eq_self, Int.reduceLE, Int.reduceLT, Int.reduceToNat, Nat.min_eq_left, Int.reducePow, Int.reduceNeg, Int.reduceEq, b1]
        exact rfl
      | 5, _ =>
        intro e hh p q c
        have b1 := p 4 (by simp) _ _ rfl rfl
        simp only [List.getD, List.getElem?_cons_zero, List.getElem?_cons_succ, Option.getD_some] at b1
        simp (dsimp := false) only [go_sem, Nat.reduceAdd, Nat.reduceEqDiff, Nat.reduceMul, Nat.reduceLeDiff, Nat.reduceSub, Nat.reduceLT, ↓reduceIte, reduceCtorEq, List.reduceReplicate, List.flatten_cons, List.flatten_nil, List.append_nil, eq_self, Int.reduceLE, Int.reduceLT, Int.reduceToNat, Nat.min_eq_left, Int.reducePow, Int.reduceNeg, Int.reduceEq, b1]
        exact rfl
      | 6, _ =>
        intro e hh p q c
        have b1 := p 5 (by simp) _ _ rfl rfl
        simp only [List.getD, List.getElem?_cons_zero, List.getElem?_cons_succ, Option.getD_some] at b1
        rw [if_neg (by decide)] at c
        simp (dsimp := false) only [go_sem, Nat.reduceAdd, Nat.reduceEqDiff, Nat.reduceMul, Nat.reduceLeDiff, Nat.reduceSub, Nat.reduceLT, ↓reduceIte, reduceCtorEq, List.reduceReplicate, List.flatten_cons, List.flatten_nil, List.append_nil, eq_self, Int.reduceLE, Int.reduceLT, Int.reduceToNat, Nat.min_eq_left, Int.reducePow, Int.reduceNeg, Int.reduceEq, b1, (fo hh c).1]
        exact rfl
      | 7, _ =>
        intro e hh p q c
        have b1 := q 2 (dst_not (by decide))
        have b2 := p 3 (by simp) _ _ rfl rfl
        simp only [List.getD, List.getElem?_cons_zero, List.getElem?_cons_succ, Option.getD_some] at b2
        rw [if_pos rfl] at c
        subst c
        simp (dsimp := false) only [go_sem, Nat.reduceAdd, Nat.reduceEqDiff, Nat.reduceMul, Nat.reduceLeDiff, Nat.reduceSub, Nat.reduceLT, ↓reduceIte, reduceCtorEq, List.reduceReplicate, List.flatten_cons, List.flatten_nil, List.append_nil, eq_self, Int.reduceLE, Int.reduceLT, Int.reduceToNat, Nat.min_eq_left, Int.reducePow, Int.reduceNeg, Int.reduceEq, b1, b2]
        exact rfl
      | 8, _ =>
        intro e hh p q c
        have b1 := p 6 (by simp) _ _ rfl rfl
        simp only [List.getD, List.getElem?_cons_zero, List.getElem?_cons_succ, Option.getD_some] at b1
        simp (dsimp := false) only [go_sem, Nat.reduceAdd, Nat.reduceEqDiff, Nat.reduceMul, Nat.reduceLeDiff, Nat.reduceSub, Nat.reduceLT, ↓reduceIte, reduceCtorEq, List.reduceReplicate, List.flatten_cons, List.flatten_nil, List.append_nil, eq_self, Int.reduceLE, Int.reduceLT, Int.reduceToNat, Nat.min_eq_left, Int.reducePow, Int.reduceNeg, Int.reduceEq, b1]
        exact rfl
    · intro e hd ho
      have b5 := hd 8 _ _ rfl rfl
      have b4 := ho 2 (dst_not (by decide))
      refine ⟨?_, rfl⟩
      show [(2, look e 2), (3, look e 3)] = _
      rw [b5, b4]
      rfl
  simp (dsimp := false) only [go_sem, Nat.reduceAdd, Nat.reduceEqDiff, Nat.reduceMul, Nat.reduceLeDiff, Nat.reduceSub, Nat.reduceLT, ↓reduceIte, reduceCtorEq, List.reduceReplicate, List.flatten_cons, List.flatten_nil, List.append_nil, eq_self, Int.reduceLE, Int.reduceLT, Int.reduceToNat, Nat.min_eq_left, Int.reducePow, Int.reduceNeg, Int.reduceEq]
end
/-! ### Texts -/
theorem qkeyX_spec {h : AHeap} (hg : PowV h) {e s : Nat} {m : Int} (he : e < 4294967296) (hs : s < 4294967296) (hm : i64ok m) (b : Bool) : SpecX Tryd.prog nG fn.query_key [.agg ⟨keyC e s m⟩, .bool b] h fun v' h' => Pre h h' ∧ v' = .string (if b then keyS e s m else noneS) := by
  refine SpecX.of_body (ir.query_key.spec (Nat.le_of_ble_eq_true rfl)) ?_
  simp (dsimp := false) only [↓ir.query_key.bw, ir.query_key.rs, go_sem, Nat.reduceAdd, Nat.reduceEqDiff, Nat.reduceMul, Nat.reduceLeDiff, Nat.reduceSub, Nat.reduceLT, ↓reduceIte, reduceCtorEq, List.reduceReplicate, List.flatten_cons, List.flatten_nil, List.append_nil, eq_self, Int.reduceLE, Int.reduceLT, Int.reduceToNat, Nat.min_eq_left, Int.reducePow, Int.reduceNeg, Int.reduceEq]
  cases b with
  | false =>
    simp (dsimp := false) only [go_sem, Nat.reduceAdd, Nat.reduceEqDiff, Nat.reduceMul, Nat.reduceLeDiff, Nat.reduceSub, Nat.reduceLT, ↓reduceIte, reduceCtorEq, List.reduceReplicate, List.flatten_cons, List.flatten_nil, List.append_nil, eq_self, Int.reduceLE, Int.reduceLT, Int.reduceToNat, Nat.min_eq_left, Int.reducePow, Int.reduceNeg, Int.reduceEq]
  | true =>
    simp (dsimp := false) only [go_sem, Nat.reduceAdd, Nat.reduceEqDiff, Nat.reduceMul, Nat.reduceLeDiff, Nat.reduceSub, Nat.reduceLT, ↓reduceIte, reduceCtorEq, List.reduceReplicate, List.flatten_cons, List.flatten_nil, List.append_nil, eq_self, Int.reduceLE, Int.reduceLT, Int.reduceToNat, Nat.min_eq_left, Int.reducePow, Int.reduceNeg, Int.reduceEq]
    refine callV_of (rankText_spec (hg.pre (.app _ _)) he hs hm) ?_
    simp (dsimp := false) only [go_sem, Nat.reduceAdd, Nat.reduceEqDiff, Nat.reduceMul, Nat.reduceLeDiff, Nat.reduceSub, Nat.reduceLT, ↓reduceIte, reduceCtorEq, List.reduceReplicate, List.flatten_cons, List.flatten_nil, List.append_nil, eq_self, Int.reduceLE, Int.reduceLT, Int.reduceToNat, Nat.min_eq_left, Int.reducePow, Int.reduceNeg, Int.reduceEq]
abbrev wS (L : List Int) : List ByteArray := L.map wholeS
theorem wS_size {L : List Int} (ho : ∀ a ∈ L, i64ok a) : ∀ x ∈ wS L, x.size ≤ 40 := fun x hx => by
  obtain ⟨a, ha, rfl⟩ := List.mem_map.1 hx
  have := wholeS_size (ho a ha)
  omega
theorem isI_at {h : AHeap} {v : Value} {L : List Int} (k : Ls h 1 isI v L) {h2 : AHeap} (p : Pre h h2) {i : Nat} (hi : i < L.length) : rds h2 (sb v) (so v + i * 1) 1 = some [.int .i64 L[i]] := by
  obtain ⟨c, hc, hc2, r0, r1⟩ := k.rd2 p hi
  subst hc2
  exact r0
theorem qlist_spec {h : AHeap} (hg : PowV h) {v : Value} {L : List Int} (k : Ls h 1 isI v L) (hn : L.length ≤ 30) (ho : ∀ a ∈ L, i64ok a) : SpecX Tryd.prog nG fn.query_list [v] h fun v' h' => Pre h h' ∧ v' = .string (joinS (wS L) spS) := by
  refine SpecX.of_body (ir.query_list.spec (Nat.le_of_ble_eq_true rfl)) ?_
  simp (dsimp := false) only [↓ir.query_list.bw, ir.query_list.rs, go_sem, Nat.reduceAdd, Nat.reduceEqDiff, Nat.reduceMul, Nat.reduceLeDiff, Nat.reduceSub, Nat.reduceLT, ↓reduceIte, reduceCtorEq, List.reduceReplicate, List.flatten_cons, List.flatten_nil, List.append_nil, eq_self, Int.reduceLE, Int.reduceLT, Int.reduceToNat, Nat.min_eq_left, Int.reducePow, Int.reduceNeg, Int.reduceEq, k.lenV]
  refine loopV_of (fun m e h2 => ∃ (i : Nat) (u : Value), m = L.length - i ∧ i ≤ L.length ∧ Pre h h2 ∧ Ow h h2 1 u i ((wS (L.take i)).map Value.string) ∧ e = [(3, u), (6, v), (7, .int .i64 L.length), (8, .int .i64 i)]) _
    ⟨0, _, rfl, Nat.zero_le _, .refl _, .nil, rfl⟩ ?_
  rintro m e h2 ⟨i, u, rfl, hi, hp, hw, rfl⟩
  rcases Nat.lt_or_ge i L.length with hlt | hge
  · have r0 := isI_at k hp hlt
    have oi := ho L[i] (List.getElem_mem hlt)
    simp (dsimp := false) only [↓ir.query_list.l1.bw, go_sem, Nat.reduceAdd, Nat.reduceEqDiff, Nat.reduceMul, Nat.reduceLeDiff, Nat.reduceSub, Nat.reduceLT, ↓reduceIte, reduceCtorEq, List.reduceReplicate, List.flatten_cons, List.flatten_nil, List.append_nil, eq_self, Int.reduceLE, Int.reduceLT, Int.reduceToNat, Nat.min_eq_left, Int.reducePow, Int.reduceNeg, Int.reduceEq, k.ixsN hlt, r0, Int.ofNat_lt, hlt, decide_true]
    refine callV_of (itoa_spec (hg.pre hp) oi) ?_
    simp (dsimp := false) only [go_sem, Nat.reduceAdd, Nat.reduceEqDiff, Nat.reduceMul, Nat.reduceLeDiff, Nat.reduceSub, Nat.reduceLT, ↓reduceIte, reduceCtorEq, List.reduceReplicate, List.flatten_cons, List.flatten_nil, List.append_nil, eq_self, Int.reduceLE, Int.reduceLT, Int.reduceToNat, Nat.min_eq_left, Int.reducePow, Int.reduceNeg, Int.reduceEq]
    refine (hw.pre (.app _ _)).app (m := 1) rfl rfl ⟨by omega, by omega⟩ (fun u' h' ho' hc _ _ => ?_) (hp.app' _)
    simp (dsimp := false) only [go_sem, Nat.reduceAdd, Nat.reduceEqDiff, Nat.reduceMul, Nat.reduceLeDiff, Nat.reduceSub, Nat.reduceLT, ↓reduceIte, reduceCtorEq, List.reduceReplicate, List.flatten_cons, List.flatten_nil, List.append_nil, eq_self, Int.reduceLE, Int.reduceLT, Int.reduceToNat, Nat.min_eq_left, Int.reducePow, Int.reduceNeg, Int.reduceEq, wrap_succ hlt k.le]
    refine ⟨L.length - (i + 1), by omega, i + 1, u', rfl, hlt, hc.pre (hp.app' _), ?_, rfl⟩
    rw [List.take_succ_eq_append_getElem hlt, wS, List.map_append, List.map_append]
    exact ho'
  · obtain rfl : i = L.length := by omega
    simp (dsimp := false) only [↓ir.query_list.l1.bw, go_sem, Nat.reduceAdd, Nat.reduceEqDiff, Nat.reduceMul, Nat.reduceLeDiff, Nat.reduceSub, Nat.reduceLT, ↓reduceIte, reduceCtorEq, List.reduceReplicate, List.flatten_cons, List.flatten_nil, List.append_nil, eq_self, Int.reduceLE, Int.reduceLT, Int.reduceToNat, Nat.min_eq_left, Int.reducePow, Int.reduceNeg, Int.reduceEq, Int.ofNat_lt, show ¬ L.length < L.length by omega, decide_false]
    rw [List.take_of_length_le (Nat.le_refl _)] at hw
    have hs := hw.sl
    rw [show (wS L).map Value.string = (wS L).flatMap (fun x => [Value.string x]) from List.map_eq_flatMap] at hs
    have hj := Sl.ls (enc := fun x : ByteArray => [Value.string x]) (fun _ => rfl) hs (by simp)
    have h6 := joinS_size (wS_size ho)
    have h7 : (wS L).length = L.length := by simp
    refine callV_of (join_spec (sep := spS) hj (by omega) (by omega)) ?_
    simp (dsimp := false) only [go_sem, Nat.reduceAdd, Nat.reduceEqDiff, Nat.reduceMul, Nat.reduceLeDiff, Nat.reduceSub, Nat.reduceLT, ↓reduceIte, reduceCtorEq, List.reduceReplicate, List.flatten_cons, List.flatten_nil, List.append_nil, eq_self, Int.reduceLE, Int.reduceLT, Int.reduceToNat, Nat.min_eq_left, Int.reducePow, Int.reduceNeg, Int.reduceEq]
    exact hp
end Go.Proofs.YtoiihalnbdehkaaDoor.B
/-
  Layer 26: the answers to the questions that need nothing more.
-/
namespace Go.Proofs.YtoiihalnbdehkaaDoor.B
open Go
set_option linter.unusedVariables false
set_option linter.unusedSimpArgs false
set_option maxRecDepth 100000
theorem q_fib_fib : ((⟨#[102, 105, 98]⟩ : ByteArray).toList == (⟨#[102, 105, 98]⟩ : ByteArray).toList) = true := by decide +kernel
theorem q_fib_next : ((⟨#[102, 105, 98]⟩ : ByteArray).toList == (⟨#[110, 101, 120, 116]⟩ : ByteArray).toList) = false := by decide +kernel
theorem q_fib_floor : ((⟨#[102, 105, 98]⟩ : ByteArray).toList == (⟨#[102, 108, 111, 111, 114]⟩ : ByteArray).toList) = false := by decide +kernel
theorem q_fib_roots : ((⟨#[102, 105, 98]⟩ : ByteArray).toList == (⟨#[114, 111, 111, 116, 115]⟩ : ByteArray).toList) = false := by decide +kernel
theorem q_fib_own : ((⟨#[102, 105, 98]⟩ : ByteArray).toList == (⟨#[111, 119, 110]⟩ : ByteArray).toList) = false := by decide +kernel
theorem q_fib_live : ((⟨#[102, 105, 98]⟩ : ByteArray).toList == (⟨#[108, 105, 118, 101]⟩ : ByteArray).toList) = false := by decide +kernel
theorem q_fib_counter : ((⟨#[102, 105, 98]⟩ : ByteArray).toList == (⟨#[99, 111, 117, 110, 116, 101, 114]⟩ : ByteArray).toList) = false := by decide +kernel
theorem q_fib_counters : ((⟨#[102, 105, 98]⟩ : ByteArray).toList == (⟨#[99, 111, 117, 110, 116, 101, 114, 115]⟩ : ByteArray).toList) = false := by decide +kernel
theorem q_fib_now : ((⟨#[102, 105, 98]⟩ : ByteArray).toList == (⟨#[110, 111, 119]⟩ : ByteArray).toList) = false := by decide +kernel
theorem q_fib_boot : ((⟨#[102, 105, 98]⟩ : ByteArray).toList == (⟨#[98, 111, 111, 116]⟩ : ByteArray).toList) = false := by decide +kernel
theorem q_fib_dead : ((⟨#[102, 105, 98]⟩ : ByteArray).toList == (⟨#[100, 101, 97, 100]⟩ : ByteArray).toList) = false := by decide +kernel
theorem q_next_fib : ((⟨#[110, 101, 120, 116]⟩ : ByteArray).toList == (⟨#[102, 105, 98]⟩ : ByteArray).toList) = false := by decide +kernel
theorem q_next_next : ((⟨#[110, 101, 120, 116]⟩ : ByteArray).toList == (⟨#[110, 101, 120, 116]⟩ : ByteArray).toList) = true := by decide +kernel
theorem q_next_floor : ((⟨#[110, 101, 120, 116]⟩ : ByteArray).toList == (⟨#[102, 108, 111, 111, 114]⟩ : ByteArray).toList) = false := by decide +kernel
theorem q_next_roots : ((⟨#[110, 101, 120, 116]⟩ : ByteArray).toList == (⟨#[114, 111, 111, 116, 115]⟩ : ByteArray).toList) = false := by decide +kernel
theorem q_next_own : ((⟨#[110, 101, 120, 116]⟩ : ByteArray).toList == (⟨#[111, 119, 110]⟩ : ByteArray).toList) = false := by decide +kernel
theorem q_next_live : ((⟨#[110, 101, 120, 116]⟩ : ByteArray).toList == (⟨#[108, 105, 118, 101]⟩ : ByteArray).toList) = false := by decide +kernel
theorem q_next_counter : ((⟨#[110, 101, 120, 116]⟩ : ByteArray).toList == (⟨#[99, 111, 117, 110, 116, 101, 114]⟩ : ByteArray).toList) = false := by decide +kernel
theorem q_next_counters : ((⟨#[110, 101, 120, 116]⟩ : ByteArray).toList == (⟨#[99, 111, 117, 110, 116, 101, 114, 115]⟩ : ByteArray).toList) = false := by decide +kernel
theorem q_next_now : ((⟨#[110, 101, 120, 116]⟩ : ByteArray).toList == (⟨#[110, 111, 119]⟩ : ByteArray).toList) = false := by decide +kernel
theorem q_next_boot : ((⟨#[110, 101, 120, 116]⟩ : ByteArray).toList == (⟨#[98, 111, 111, 116]⟩ : ByteArray).toList) = false := by decide +kernel
theorem q_next_dead : ((⟨#[110, 101, 120, 116]⟩ : ByteArray).toList == (⟨#[100, 101, 97, 100]⟩ : ByteArray).toList) = false := by decide +kernel
theorem q_floor_fib : ((⟨#[102, 108, 111, 111, 114]⟩ : ByteArray).toList == (⟨#[102, 105, 98]⟩ : ByteArray).toList) = false := by decide +kernel
theorem q_floor_next : ((⟨#[102, 108, 111, 111, 114]⟩ : ByteArray).toList == (⟨#[110, 101, 120, 116]⟩ : ByteArray).toList) = false := by decide +kernel
theorem q_floor_floor : ((⟨#[102, 108, 111, 111, 114]⟩ : ByteArray).toList == (⟨#[102, 108, 111, 111, 114]⟩ : ByteArray).toList) = true := by decide +kernel
theorem q_floor_roots : ((⟨#[102, 108, 111, 111, 114]⟩ : ByteArray).toList == (⟨#[114, 111, 111, 116, 115]⟩ : ByteArray).toList) = false := by decide +kernel
theorem q_floor_own : ((⟨#[102, 108, 111, 111, 114]⟩ : ByteArray).toList == (⟨#[111, 119, 110]⟩ : ByteArray).toList) = false := by decide +kernel
theorem q_floor_live : ((⟨#[102, 108, 111, 111, 114]⟩ : ByteArray).toList == (⟨#[108, 105, 118, 101]⟩ : ByteArray).toList) = false := by decide +kernel
theorem q_floor_counter : ((⟨#[102, 108, 111, 111, 114]⟩ : ByteArray).toList == (⟨#[99, 111, 117, 110, 116, 101, 114]⟩ : ByteArray).toList) = false := by decide +kernel
theorem q_floor_counters : ((⟨#[102, 108, 111, 111, 114]⟩ : ByteArray).toList == (⟨#[99, 111, 117, 110, 116, 101, 114, 115]⟩ : ByteArray).toList) = false := by decide +kernel
theorem q_floor_now : ((⟨#[102, 108, 111, 111, 114]⟩ : ByteArray).toList == (⟨#[110, 111, 119]⟩ : ByteArray).toList) = false := by decide +kernel
theorem q_floor_boot : ((⟨#[102, 108, 111, 111, 114]⟩ : ByteArray).toList == (⟨#[98, 111, 111, 116]⟩ : ByteArray).toList) = false := by decide +kernel
theorem q_floor_dead : ((⟨#[102, 108, 111, 111, 114]⟩ : ByteArray).toList == (⟨#[100, 101, 97, 100]⟩ : ByteArray).toList) = false := by decide +kernel
theorem q_roots_fib : ((⟨#[114, 111, 111, 116, 115]⟩ : ByteArray).toList == (⟨#[102, 105, 98]⟩ : ByteArray).toList) = false := by decide +kernel
theorem q_roots_next : ((⟨#[114, 111, 111, 116, 115]⟩ : ByteArray).toList == (⟨#[110, 101, 120, 116]⟩ : ByteArray).toList) = false := by decide +kernel
theorem q_roots_floor : ((⟨#[114, 111, 111, 116, 115]⟩ : ByteArray).toList == (⟨#[102, 108, 111, 111, 114]⟩ : ByteArray).toList) = false := by decide +kernel
theorem q_roots_roots : ((⟨#[114, 111, 111, 116, 115]⟩ : ByteArray).toList == (⟨#[114, 111, 111, 116, 115]⟩ : ByteArray).toList) = true := by decide +kernel
theorem q_roots_own : ((⟨#[114, 111, 111, 116, 115]⟩ : ByteArray).toList == (⟨#[111, 119, 110]⟩ : ByteArray).toList) = false := by decide +kernel
theorem q_roots_live : ((⟨#[114, 111, 111, 116, 115]⟩ : ByteArray).toList == (⟨#[108, 105, 118, 101]⟩ : ByteArray).toList) = false := by decide +kernel
theorem q_roots_counter : ((⟨#[114, 111, 111, 116, 115]⟩ : ByteArray).toList == (⟨#[99, 111, 117, 110, 116, 101, 114]⟩ : ByteArray).toList) = false := by decide +kernel
theorem q_roots_counters : ((⟨#[114, 111, 111, 116, 115]⟩ : ByteArray).toList == (⟨#[99, 111, 117, 110, 116, 101, 114, 115]⟩ : ByteArray).toList) = false := by decide +kernel
theorem q_roots_now : ((⟨#[114, 111, 111, 116, 115]⟩ : ByteArray).toList == (⟨#[110, 111, 119]⟩ : ByteArray).toList) = false := by decide +kernel
theorem q_roots_boot : ((⟨#[114, 111, 111, 116, 115]⟩ : ByteArray).toList == (⟨#[98, 111, 111, 116]⟩ : ByteArray).toList) = false := by decide +kernel
theorem q_roots_dead : ((⟨#[114, 111, 111, 116, 115]⟩ : ByteArray).toList == (⟨#[100, 101, 97, 100]⟩ : ByteArray).toList) = false := by decide +kernel
theorem q_own_fib : ((⟨#[111, 119, 110]⟩ : ByteArray).toList == (⟨#[102, 105, 98]⟩ : ByteArray).toList) = false := by decide +kernel
theorem q_own_next : ((⟨#[111, 119, 110]⟩ : ByteArray).toList == (⟨#[110, 101, 120, 116]⟩ : ByteArray).toList) = false := by decide +kernel
theorem q_own_floor : ((⟨#[111, 119, 110]⟩ : ByteArray).toList == (⟨#[102, 108, 111, 111, 114]⟩ : ByteArray).toList) = false := by decide +kernel
theorem q_own_roots : ((⟨#[111, 119, 110]⟩ : ByteArray).toList == (⟨#[114, 111, 111, 116, 115]⟩ : ByteArray).toList) = false := by decide +kernel
theorem q_own_own : ((⟨#[111, 119, 110]⟩ : ByteArray).toList == (⟨#[111, 119, 110]⟩ : ByteArray).toList) = true := by decide +kernel
theorem q_own_live : ((⟨#[111, 119, 110]⟩ : ByteArray).toList == (⟨#[108, 105, 118, 101]⟩ : ByteArray).toList) = false := by decide +kernel
theorem q_own_counter : ((⟨#[111, 119, 110]⟩ : ByteArray).toList == (⟨#[99, 111, 117, 110, 116, 101, 114]⟩ : ByteArray).toList) = false := by decide +kernel
theorem q_own_counters : ((⟨#[111, 119, 110]⟩ : ByteArray).toList == (⟨#[99, 111, 117, 110, 116, 101, 114, 115]⟩ : ByteArray).toList) = false := by decide +kernel
theorem q_own_now : ((⟨#[111, 119, 110]⟩ : ByteArray).toList == (⟨#[110, 111, 119]⟩ : ByteArray).toList) = false := by decide +kernel
theorem q_own_boot : ((⟨#[111, 119, 110]⟩ : ByteArray).toList == (⟨#[98, 111, 111, 116]⟩ : ByteArray).toList) = false := by decide +kernel
theorem q_own_dead : ((⟨#[111, 119, 110]⟩ : ByteArray).toList == (⟨#[100, 101, 97, 100]⟩ : ByteArray).toList) = false := by decide +kernel
theorem q_live_fib : ((⟨#[108, 105, 118, 101]⟩ : ByteArray).toList == (⟨#[102, 105, 98]⟩ : ByteArray).toList) = false := by decide +kernel
theorem q_live_next : ((⟨#[108, 105, 118, 101]⟩ : ByteArray).toList == (⟨#[110, 101, 120, 116]⟩ : ByteArray).toList) = false := by decide +kernel
theorem q_live_floor : ((⟨#[108, 105, 118, 101]⟩ : ByteArray).toList == (⟨#[102, 108, 111, 111, 114]⟩ : ByteArray).toList) = false := by decide +kernel
theorem q_live_roots : ((⟨#[108, 105, 118, 101]⟩ : ByteArray).toList == (⟨#[114, 111, 111, 116, 115]⟩ : ByteArray).toList) = false := by decide +kernel
theorem q_live_own : ((⟨#[108, 105, 118, 101]⟩ : ByteArray).toList == (⟨#[111, 119, 110]⟩ : ByteArray).toList) = false := by decide +kernel
theorem q_live_live : ((⟨#[108, 105, 118, 101]⟩ : ByteArray).toList == (⟨#[108, 105, 118, 101]⟩ : ByteArray).toList) = true := by decide +kernel
theorem q_live_counter : ((⟨#[108, 105, 118, 101]⟩ : ByteArray).toList == (⟨#[99, 111, 117, 110, 116, 101, 114]⟩ : ByteArray).toList) = false := by decide +kernel
theorem q_live_counters : ((⟨#[108, 105, 118, 101]⟩ : ByteArray).toList == (⟨#[99, 111, 117, 110, 116, 101, 114, 115]⟩ : ByteArray).toList) = false := by decide +kernel
theorem q_live_now : ((⟨#[108, 105, 118, 101]⟩ : ByteArray).toList == (⟨#[110, 111, 119]⟩ : ByteArray).toList) = false := by decide +kernel
theorem q_live_boot : ((⟨#[108, 105, 118, 101]⟩ : ByteArray).toList == (⟨#[98, 111, 111, 116]⟩ : ByteArray).toList) = false := by decide +kernel
theorem q_live_dead : ((⟨#[108, 105, 118, 101]⟩ : ByteArray).toList == (⟨#[100, 101, 97, 100]⟩ : ByteArray).toList) = false := by decide +kernel
theorem q_counter_fib : ((⟨#[99, 111, 117, 110, 116, 101, 114]⟩ : ByteArray).toList == (⟨#[102, 105, 98]⟩ : ByteArray).toList) = false := by decide +kernel
theorem q_counter_next : ((⟨#[99, 111, 117, 110, 116, 101, 114]⟩ : ByteArray).toList == (⟨#[110, 101, 120, 116]⟩ : ByteArray).toList) = false := by decide +kernel
theorem q_counter_floor : ((⟨#[99, 111, 117, 110, 116, 101, 114]⟩ : ByteArray).toList == (⟨#[102, 108, 111, 111, 114]⟩ : ByteArray).toList) = false := by decide +kernel
theorem q_counter_roots : ((⟨#[99, 111, 117, 110, 116, 101, 114]⟩ : ByteArray).toList == (⟨#[114, 111, 111, 116, 115]⟩ : ByteArray).toList) = false := by decide +kernel
theorem q_counter_own : ((⟨#[99, 111, 117, 110, 116, 101, 114]⟩ : ByteArray).toList == (⟨#[111, 119, 110]⟩ : ByteArray).toList) = false := by decide +kernel
theorem q_counter_live : ((⟨#[99, 111, 117, 110, 116, 101, 114]⟩ : ByteArray).toList == (⟨#[108, 105, 118, 101]⟩ : ByteArray).toList) = false := by decide +kernel
theorem q_counter_counter : ((⟨#[99, 111, 117, 110, 116, 101, 114]⟩ : ByteArray).toList == (⟨#[99, 111, 117, 110, 116, 101, 114]⟩ : ByteArray).toList) = true := by decide +kernel
theorem q_counter_counters : ((⟨#[99, 111, 117, 110, 116, 101, 114]⟩ : ByteArray).toList == (⟨#[99, 111, 117, 110, 116, 101, 114, 115]⟩ : ByteArray).toList) = false := by decide +kernel
theorem q_counter_now : ((⟨#[99, 111, 117, 110, 116, 101, 114]⟩ : ByteArray).toList == (⟨#[110, 111, 119]⟩ : ByteArray).toList) = false := by decide +kernel
theorem q_counter_boot : ((⟨#[99, 111, 117, 110, 116, 101, 114]⟩ : ByteArray).toList == (⟨#[98, 111, 111, 116]⟩ : ByteArray).toList) = false := by decide +kernel
theorem q_counter_dead : ((⟨#[99, 111, 117, 110, 116, 101, 114]⟩ : ByteArray).toList == (⟨#[100, 101, 97, 100]⟩ : ByteArray).toList) = false := by decide +kernel
theorem q_counters_fib : ((⟨#[99, 111, 117, 110, 116, 101, 114, 115]⟩ : ByteArray).toList == (⟨#[102, 105, 98]⟩ : ByteArray).toList) = false := by decide +kernel
theorem q_counters_next : ((⟨#[99, 111, 117, 110, 116, 101, 114, 115]⟩ : ByteArray).toList == (⟨#[110, 101, 120, 116]⟩ : ByteArray).toList) = false := by decide +kernel
theorem q_counters_floor : ((⟨#[99, 111, 117, 110, 116, 101, 114, 115]⟩ : ByteArray).toList == (⟨#[102, 108, 111, 111, 114]⟩ : ByteArray).toList) = false := by decide +kernel
theorem q_counters_roots : ((⟨#[99, 111, 117, 110, 116, 101, 114, 115]⟩ : ByteArray).toList == (⟨#[114, 111, 111, 116, 115]⟩ : ByteArray).toList) = false := by decide +kernel
theorem q_counters_own : ((⟨#[99, 111, 117, 110, 116, 101, 114, 115]⟩ : ByteArray).toList == (⟨#[111, 119, 110]⟩ : ByteArray).toList) = false := by decide +kernel
theorem q_counters_live : ((⟨#[99, 111, 117, 110, 116, 101, 114, 115]⟩ : ByteArray).toList == (⟨#[108, 105, 118, 101]⟩ : ByteArray).toList) = false := by decide +kernel
theorem q_counters_counter : ((⟨#[99, 111, 117, 110, 116, 101, 114, 115]⟩ : ByteArray).toList == (⟨#[99, 111, 117, 110, 116, 101, 114]⟩ : ByteArray).toList) = false := by decide +kernel
theorem q_counters_counters : ((⟨#[99, 111, 117, 110, 116, 101, 114, 115]⟩ : ByteArray).toList == (⟨#[99, 111, 117, 110, 116, 101, 114, 115]⟩ : ByteArray).toList) = true := by decide +kernel
theorem q_counters_now : ((⟨#[99, 111, 117, 110, 116, 101, 114, 115]⟩ : ByteArray).toList == (⟨#[110, 111, 119]⟩ : ByteArray).toList) = false := by decide +kernel
theorem q_counters_boot : ((⟨#[99, 111, 117, 110, 116, 101, 114, 115]⟩ : ByteArray).toList == (⟨#[98, 111, 111, 116]⟩ : ByteArray).toList) = false := by decide +kernel
theorem q_counters_dead : ((⟨#[99, 111, 117, 110, 116, 101, 114, 115]⟩ : ByteArray).toList == (⟨#[100, 101, 97, 100]⟩ : ByteArray).toList) = false := by decide +kernel
theorem q_now_fib : ((⟨#[110, 111, 119]⟩ : ByteArray).toList == (⟨#[102, 105, 98]⟩ : ByteArray).toList) = false := by decide +kernel
theorem q_now_next : ((⟨#[110, 111, 119]⟩ : ByteArray).toList == (⟨#[110, 101, 120, 116]⟩ : ByteArray).toList) = false := by decide +kernel
theorem q_now_floor : ((⟨#[110, 111, 119]⟩ : ByteArray).toList == (⟨#[102, 108, 111, 111, 114]⟩ : ByteArray).toList) = false := by decide +kernel
theorem q_now_roots : ((⟨#[110, 111, 119]⟩ : ByteArray).toList == (⟨#[114, 111, 111, 116, 115]⟩ : ByteArray).toList) = false := by decide +kernel
theorem q_now_own : ((⟨#[110, 111, 119]⟩ : ByteArray).toList == (⟨#[111, 119, 110]⟩ : ByteArray).toList) = false := by decide +kernel
theorem q_now_live : ((⟨#[110, 111, 119]⟩ : ByteArray).toList == (⟨#[108, 105, 118, 101]⟩ : ByteArray).toList) = false := by decide +kernel
theorem q_now_counter : ((⟨#[110, 111, 119]⟩ : ByteArray).toList == (⟨#[99, 111, 117, 110, 116, 101, 114]⟩ : ByteArray).toList) = false := by decide +kernel
theorem q_now_counters : ((⟨#[110, 111, 119]⟩ : ByteArray).toList == (⟨#[99, 111, 117, 110, 116, 101, 114, 115]⟩ : ByteArray).toList) = false := by decide +kernel
theorem q_now_now : ((⟨#[110, 111, 119]⟩ : ByteArray).toList == (⟨#[110, 111, 119]⟩ : ByteArray).toList) = true := by decide +kernel
theorem q_now_boot : ((⟨#[110, 111, 119]⟩ : ByteArray).toList == (⟨#[98, 111, 111, 116]⟩ : ByteArray).toList) = false := by decide +kernel
theorem q_now_dead : ((⟨#[110, 111, 119]⟩ : ByteArray).toList == (⟨#[100, 101, 97, 100]⟩ : ByteArray).toList) = false := by decide +kernel
theorem q_boot_fib : ((⟨#[98, 111, 111, 116]⟩ : ByteArray).toList == (⟨#[102, 105, 98]⟩ : ByteArray).toList) = false := by decide +kernel
theorem q_boot_next : ((⟨#[98, 111, 111, 116]⟩ : ByteArray).toList == (⟨#[110, 101, 120, 116]⟩ : ByteArray).toList) = false := by decide +kernel
theorem q_boot_floor : ((⟨#[98, 111, 111, 116]⟩ : ByteArray).toList == (⟨#[102, 108, 111, 111, 114]⟩ : ByteArray).toList) = false := by decide +kernel
theorem q_boot_roots : ((⟨#[98, 111, 111, 116]⟩ : ByteArray).toList == (⟨#[114, 111, 111, 116, 115]⟩ : ByteArray).toList) = false := by decide +kernel
theorem q_boot_own : ((⟨#[98, 111, 111, 116]⟩ : ByteArray).toList == (⟨#[111, 119, 110]⟩ : ByteArray).toList) = false := by decide +kernel
theorem q_boot_live : ((⟨#[98, 111, 111, 116]⟩ : ByteArray).toList == (⟨#[108, 105, 118, 101]⟩ : ByteArray).toList) = false := by decide +kernel
theorem q_boot_counter : ((⟨#[98, 111, 111, 116]⟩ : ByteArray).toList == (⟨#[99, 111, 117, 110, 116, 101, 114]⟩ : ByteArray).toList) = false := by decide +kernel
theorem q_boot_counters : ((⟨#[98, 111, 111, 116]⟩ : ByteArray).toList == (⟨#[99, 111, 117, 110, 116, 101, 114, 115]⟩ : ByteArray).toList) = false := by decide +kernel
theorem q_boot_now : ((⟨#[98, 111, 111, 116]⟩ : ByteArray).toList == (⟨#[110, 111, 119]⟩ : ByteArray).toList) = false := by decide +kernel
theorem q_boot_boot : ((⟨#[98, 111, 111, 116]⟩ : ByteArray).toList == (⟨#[98, 111, 111, 116]⟩ : ByteArray).toList) = true := by decide +kernel
theorem q_boot_dead : ((⟨#[98, 111, 111, 116]⟩ : ByteArray).toList == (⟨#[100, 101, 97, 100]⟩ : ByteArray).toList) = false := by decide +kernel
theorem q_dead_fib : ((⟨#[100, 101, 97, 100]⟩ : ByteArray).toList == (⟨#[102, 105, 98]⟩ : ByteArray).toList) = false := by decide +kernel
theorem q_dead_next : ((⟨#[100, 101, 97, 100]⟩ : ByteArray).toList == (⟨#[110, 101, 120, 116]⟩ : ByteArray).toList) = false := by decide +kernel
theorem q_dead_floor : ((⟨#[100, 101, 97, 100]⟩ : ByteArray).toList == (⟨#[102, 108, 111, 111, 114]⟩ : ByteArray).toList) = false := by decide +kernel
theorem q_dead_roots : ((⟨#[100, 101, 97, 100]⟩ : ByteArray).toList == (⟨#[114, 111, 111, 116, 115]⟩ : ByteArray).toList) = false := by decide +kernel
theorem q_dead_own : ((⟨#[100, 101, 97, 100]⟩ : ByteArray).toList == (⟨#[111, 119, 110]⟩ : ByteArray).toList) = false := by decide +kernel
theorem q_dead_live : ((⟨#[100, 101, 97, 100]⟩ : ByteArray).toList == (⟨#[108, 105, 118, 101]⟩ : ByteArray).toList) = false := by decide +kernel
theorem q_dead_counter : ((⟨#[100, 101, 97, 100]⟩ : ByteArray).toList == (⟨#[99, 111, 117, 110, 116, 101, 114]⟩ : ByteArray).toList) = false := by decide +kernel
theorem q_dead_counters : ((⟨#[100, 101, 97, 100]⟩ : ByteArray).toList == (⟨#[99, 111, 117, 110, 116, 101, 114, 115]⟩ : ByteArray).toList) = false := by decide +kernel
theorem q_dead_now : ((⟨#[100, 101, 97, 100]⟩ : ByteArray).toList == (⟨#[110, 111, 119]⟩ : ByteArray).toList) = false := by decide +kernel
theorem q_dead_boot : ((⟨#[100, 101, 97, 100]⟩ : ByteArray).toList == (⟨#[98, 111, 111, 116]⟩ : ByteArray).toList) = false := by decide +kernel
theorem q_dead_dead : ((⟨#[100, 101, 97, 100]⟩ : ByteArray).toList == (⟨#[100, 101, 97, 100]⟩ : ByteArray).toList) = true := by decide +kernel
theorem one_ls (h : AHeap) (s : ByteArray) : Ls (h ++ [.row (.grow 1) [.string s]]) 1 strR (.slice (some ⟨h.length, 0, none⟩) 1 1) [s] :=
  Sl.ls (enc := fun s => [.string s]) (fun _ => rfl) (litS (b := h.length) (cells := [.string s]) (List.getElem?_concat_length) rfl (by unfold maxI; omega)) rfl
theorem qnum0_spec (h : AHeap) : Spec Tryd.prog nG fn.query_number [.string ⟨#[]⟩] h (.tuple #[.int .i64 0, .bool false]) h := by
  apply ir.query_number.spec (Nat.le_of_ble_eq_true rfl)
  have hs : (((#[] : Array UInt8).size : Nat) : Int) = 0 := rfl
  have b0 : ((0 : Int) != 1) = true := rfl
  simp (dsimp := false) only [↓ir.query_number.bw, ir.query_number.rs, go_sem, Nat.reduceAdd, Nat.reduceEqDiff, Nat.reduceMul, Nat.reduceLeDiff, Nat.reduceSub, Nat.reduceLT, ↓reduceIte, reduceCtorEq, List.reduceReplicate, List.flatten_cons, List.flatten_nil, List.append_nil, eq_self, Int.reduceLE, Int.reduceLT, Int.reduceToNat, Nat.min_eq_left, Int.reducePow, Int.reduceNeg, Int.reduceEq, hs, b0]
  exact .inl ⟨rfl, rfl⟩
/-- An answer: so many lines. -/
def Ans (h h' : AHeap) (l : List ByteArray) (v : Value) : Prop := Pre h h' ∧ ∃ u, v = .tuple #[u, .int .i64 0] ∧ Ls h' 1 strR u l ∧ (u = nilS ∨ (h.length ≤ sb u ∧ sb u < h'.length))
theorem ans_one {h h2 : AHeap} (p : Pre h h2) (s : ByteArray) : Ans h (h2 ++ [.row (.grow 1) [.string s]]) [s] (.tuple #[.slice (some ⟨h2.length, 0, none⟩) 1 1, .int .i64 0]) :=
  ⟨p.app' _, _, rfl, one_ls _ _, .inr ⟨p.len, by show h2.length < _; simp⟩⟩
theorem ans_one2 (h : AHeap) (a : AObj) (s : ByteArray) : Ans h (h ++ [a, .row (.grow 1) [.string s]]) [s] (.tuple #[.slice (some ⟨h.length + 1, 0, none⟩) 1 1, .int .i64 0]) := by
  have := ans_one (.app h [a]) s
  rw [List.append_assoc, List.length_append] at this
  exact this
theorem xm {h : AHeap} {C : List Value} {name : String} {f : FuncId} {args : List Value} {Φ : Value → AHeap → Prop} (hm : methB Tryd.t105 name f = true) (hg : goodFn Tryd.prog f = true) (hs : SpecX Tryd.prog nG f (.agg ⟨C⟩ :: args) h Φ) : ∃ v h', XSpec Tryd.prog nG (some name) 0 (.iface 105 (.agg ⟨C⟩) :: args) h v h' ∧ Φ v h' := by
  obtain ⟨v, h', s, q⟩ := hs
  exact ⟨v, h', XSpec.methB (j := Tryd.t105) Tryd.type105 hm Tryd.underlying105 rfl hg s, q⟩
section
variable {h : AHeap} {C : List Value} {T : TD} (k : SrcT h C T)
include k
theorem aq_fib (hg : CountV h) : SpecX Tryd.prog nG fn.query_Ask [.iface 105 (.agg ⟨C⟩), .string ⟨#[102, 105, 98]⟩] h fun v' h' => Ans h h' (T.fib.map hopS) v' := by
  refine SpecX.of_body (ir.query_Ask.spec (Nat.le_of_ble_eq_true rfl)) ?_
  simp (dsimp := false) only [↓ir.query_Ask.bw, ir.query_Ask.rs, go_sem, Nat.reduceAdd, Nat.reduceEqDiff, Nat.reduceMul, Nat.reduceLeDiff, Nat.reduceSub, Nat.reduceLT, ↓reduceIte, reduceCtorEq, List.reduceReplicate, List.flatten_cons, List.flatten_nil, List.append_nil, eq_self, Int.reduceLE, Int.reduceLT, Int.reduceToNat, Nat.min_eq_left, Int.reducePow, Int.reduceNeg, Int.reduceEq]
  refine callV_of (cut_spec (s := ⟨#[102, 105, 98]⟩) (Nat.le_of_ble_eq_true rfl) 32) ?_
  have hcut : cutV ⟨#[102, 105, 98]⟩ 32 = .tuple #[.string ⟨#[102, 105, 98]⟩, .string ⟨#[]⟩, .bool false] := rfl
  rw [hcut]
  simp (dsimp := false) only [go_sem, Nat.reduceAdd, Nat.reduceEqDiff, Nat.reduceMul, Nat.reduceLeDiff, Nat.reduceSub, Nat.reduceLT, ↓reduceIte, reduceCtorEq, List.reduceReplicate, List.flatten_cons, List.flatten_nil, List.append_nil, eq_self, Int.reduceLE, Int.reduceLT, Int.reduceToNat, Nat.min_eq_left, Int.reducePow, Int.reduceNeg, Int.reduceEq]
  refine callV_of (qnum0_spec _) ?_
  simp (dsimp := false) only [go_sem, Nat.reduceAdd, Nat.reduceEqDiff, Nat.reduceMul, Nat.reduceLeDiff, Nat.reduceSub, Nat.reduceLT, ↓reduceIte, reduceCtorEq, List.reduceReplicate, List.flatten_cons, List.flatten_nil, List.append_nil, eq_self, Int.reduceLE, Int.reduceLT, Int.reduceToNat, Nat.min_eq_left, Int.reducePow, Int.reduceNeg, Int.reduceEq, q_fib_fib, q_fib_next, q_fib_floor, q_fib_roots, q_fib_own, q_fib_live, q_fib_counter, q_fib_counters, q_fib_now, q_fib_boot, q_fib_dead, Bool.not_false, Bool.not_true]
  obtain ⟨v, h1, hx, hp1, ls⟩ := xm (name := "Fib") (by kernel_rfl) (by kernel_rfl) (mFib k)
  refine ⟨v, h1, hx, ?_⟩
  obtain ⟨_, _, _, hf, ho⟩ := k.fib
  simp (dsimp := false) only [go_sem, Nat.reduceAdd, Nat.reduceEqDiff, Nat.reduceMul, Nat.reduceLeDiff, Nat.reduceSub, Nat.reduceLT, ↓reduceIte, reduceCtorEq, List.reduceReplicate, List.flatten_cons, List.flatten_nil, List.append_nil, eq_self, Int.reduceLE, Int.reduceLT, Int.reduceToNat, Nat.min_eq_left, Int.reducePow, Int.reduceNeg, Int.reduceEq, ls.lenV]
  refine loopV_of (fun m e h2 => ∃ (i : Nat) (u : Value), m = T.fib.length - i ∧ i ≤ T.fib.length ∧ Pre h1 h2 ∧ Ow h1 h2 1 u i (((T.fib.take i).map hopS).map Value.string) ∧ e = [(11, u), (53, v), (54, .int .i64 T.fib.length), (55, .int .i64 i)]) _
    ⟨0, _, rfl, Nat.zero_le _, .refl _, .nil, rfl⟩ ?_
  rintro m e h2 ⟨i, u, rfl, hi, hp, hw, rfl⟩
  rcases Nat.lt_or_ge i T.fib.length with hlt | hge
  · obtain ⟨c, hc, hc2, r0, r1⟩ := ls.rd2 hp hlt
    subst hc2
    have oi := ho T.fib[i] (List.getElem_mem hlt)
    have hfi : T.fib.length * 24 ≤ 140737488351232 := hf
    simp (dsimp := false) only [↓ir.query_Ask.l1.bw, go_sem, Nat.reduceAdd, Nat.reduceEqDiff, Nat.reduceMul, Nat.reduceLeDiff, Nat.reduceSub, Nat.reduceLT, ↓reduceIte, reduceCtorEq, List.reduceReplicate, List.flatten_cons, List.flatten_nil, List.append_nil, eq_self, Int.reduceLE, Int.reduceLT, Int.reduceToNat, Nat.min_eq_left, Int.reducePow, Int.reduceNeg, Int.reduceEq, ls.ixsN hlt, r0, r1, Int.ofNat_lt, hlt, decide_true]
    refine callV_of (qhop_spec (hg.powV.pre ((hp1.trans hp).app' _)) oi) ?_
    simp (dsimp := false) only [go_sem, Nat.reduceAdd, Nat.reduceEqDiff, Nat.reduceMul, Nat.reduceLeDiff, Nat.reduceSub, Nat.reduceLT, ↓reduceIte, reduceCtorEq, List.reduceReplicate, List.flatten_cons, List.flatten_nil, List.append_nil, eq_self, Int.reduceLE, Int.reduceLT, Int.reduceToNat, Nat.min_eq_left, Int.reducePow, Int.reduceNeg, Int.reduceEq]
    refine (hw.pre (.app _ _)).app (m := 1) rfl rfl ⟨by omega, by omega⟩ (fun u' h' ho' hc _ _ => ?_) (hp.app' _)
    simp (dsimp := false) only [go_sem, Nat.reduceAdd, Nat.reduceEqDiff, Nat.reduceMul, Nat.reduceLeDiff, Nat.reduceSub, Nat.reduceLT, ↓reduceIte, reduceCtorEq, List.reduceReplicate, List.flatten_cons, List.flatten_nil, List.append_nil, eq_self, Int.reduceLE, Int.reduceLT, Int.reduceToNat, Nat.min_eq_left, Int.reducePow, Int.reduceNeg, Int.reduceEq, wrap_succ hlt ls.le]
    refine ⟨T.fib.length - (i + 1), by omega, i + 1, u', rfl, hlt, hc.pre (hp.app' _), ?_, rfl⟩
    rw [List.take_succ_eq_append_getElem hlt, List.map_append, List.map_append]
    exact ho'
  · obtain rfl : i = T.fib.length := by omega
    simp (dsimp := false) only [↓ir.query_Ask.l1.bw, go_sem, Nat.reduceAdd, Nat.reduceEqDiff, Nat.reduceMul, Nat.reduceLeDiff, Nat.reduceSub, Nat.reduceLT, ↓reduceIte, reduceCtorEq, List.reduceReplicate, List.flatten_cons, List.flatten_nil, List.append_nil, eq_self, Int.reduceLE, Int.reduceLT, Int.reduceToNat, Nat.min_eq_left, Int.reducePow, Int.reduceNeg, Int.reduceEq, Int.ofNat_lt, show ¬ T.fib.length < T.fib.length by omega, decide_false]
    rw [List.take_of_length_le (Nat.le_refl _)] at hw
    have hs := hw.sl
    rw [show (T.fib.map hopS).map Value.string = (T.fib.map hopS).flatMap (fun x => [Value.string x]) from List.map_eq_flatMap] at hs
    exact ⟨hp1.trans hp, _, rfl, Sl.ls (enc := fun x : ByteArray => [Value.string x]) (fun _ => rfl) hs (by simp), hw.place.imp id fun q => ⟨Nat.le_trans hp1.len q.1, q.2⟩⟩
theorem aq_own (hg : CountV h) : SpecX Tryd.prog nG fn.query_Ask [.iface 105 (.agg ⟨C⟩), .string ⟨#[111, 119, 110]⟩] h fun v' h' => Ans h h' [if T.any then keyS T.oe T.os T.om else noneS] v' := by
  refine SpecX.of_body (ir.query_Ask.spec (Nat.le_of_ble_eq_true rfl)) ?_
  simp (dsimp := false) only [↓ir.query_Ask.bw, ir.query_Ask.rs, go_sem, Nat.reduceAdd, Nat.reduceEqDiff, Nat.reduceMul, Nat.reduceLeDiff, Nat.reduceSub, Nat.reduceLT, ↓reduceIte, reduceCtorEq, List.reduceReplicate, List.flatten_cons, List.flatten_nil, List.append_nil, eq_self, Int.reduceLE, Int.reduceLT, Int.reduceToNat, Nat.min_eq_left, Int.reducePow, Int.reduceNeg, Int.reduceEq]
  refine callV_of (cut_spec (s := ⟨#[111, 119, 110]⟩) (Nat.le_of_ble_eq_true rfl) 32) ?_
  have hcut : cutV ⟨#[111, 119, 110]⟩ 32 = .tuple #[.string ⟨#[111, 119, 110]⟩, .string ⟨#[]⟩, .bool false] := rfl
  rw [hcut]
  simp (dsimp := false) only [go_sem, Nat.reduceAdd, Nat.reduceEqDiff, Nat.reduceMul, Nat.reduceLeDiff, Nat.reduceSub, Nat.reduceLT, ↓reduceIte, reduceCtorEq, List.reduceReplicate, List.flatten_cons, List.flatten_nil, List.append_nil, eq_self, Int.reduceLE, Int.reduceLT, Int.reduceToNat, Nat.min_eq_left, Int.reducePow, Int.reduceNeg, Int.reduceEq]
  refine callV_of (qnum0_spec _) ?_
  simp (dsimp := false) only [go_sem, Nat.reduceAdd, Nat.reduceEqDiff, Nat.reduceMul, Nat.reduceLeDiff, Nat.reduceSub, Nat.reduceLT, ↓reduceIte, reduceCtorEq, List.reduceReplicate, List.flatten_cons, List.flatten_nil, List.append_nil, eq_self, Int.reduceLE, Int.reduceLT, Int.reduceToNat, Nat.min_eq_left, Int.reducePow, Int.reduceNeg, Int.reduceEq, q_own_fib, q_own_next, q_own_floor, q_own_roots, q_own_own, q_own_live, q_own_counter, q_own_counters, q_own_now, q_own_boot, q_own_dead, Bool.not_false, Bool.not_true]
  obtain ⟨_, h1, hx, hp, rfl⟩ := xm (name := "Own") (by kernel_rfl) (by kernel_rfl) (mOwn k)
  refine ⟨_, h1, hx, ?_⟩
  simp (dsimp := false) only [go_sem, Nat.reduceAdd, Nat.reduceEqDiff, Nat.reduceMul, Nat.reduceLeDiff, Nat.reduceSub, Nat.reduceLT, ↓reduceIte, reduceCtorEq, List.reduceReplicate, List.flatten_cons, List.flatten_nil, List.append_nil, eq_self, Int.reduceLE, Int.reduceLT, Int.reduceToNat, Nat.min_eq_left, Int.reducePow, Int.reduceNeg, Int.reduceEq]
  refine callV_x (qkeyX_spec (hg.powV.pre hp) k.own.2.1 k.own.2.2.1 k.own.2.2.2 T.any) ?_
  rintro _ h2 ⟨hp2, rfl⟩
  simp (dsimp := false) only [go_sem, Nat.reduceAdd, Nat.reduceEqDiff, Nat.reduceMul, Nat.reduceLeDiff, Nat.reduceSub, Nat.reduceLT, ↓reduceIte, reduceCtorEq, List.reduceReplicate, List.flatten_cons, List.flatten_nil, List.append_nil, eq_self, Int.reduceLE, Int.reduceLT, Int.reduceToNat, Nat.min_eq_left, Int.reducePow, Int.reduceNeg, Int.reduceEq]
  exact ans_one (hp.trans hp2) _
theorem aq_live (hg : CountV h) (hn : T.live.length ≤ 30) : SpecX Tryd.prog nG fn.query_Ask [.iface 105 (.agg ⟨C⟩), .string ⟨#[108, 105, 118, 101]⟩] h fun v' h' => Ans h h' [orN (joinS (wS T.live) spS)] v' := by
  refine SpecX.of_body (ir.query_Ask.spec (Nat.le_of_ble_eq_true rfl)) ?_
  simp (dsimp := false) only [↓ir.query_Ask.bw, ir.query_Ask.rs, go_sem, Nat.reduceAdd, Nat.reduceEqDiff, Nat.reduceMul, Nat.reduceLeDiff, Nat.reduceSub, Nat.reduceLT, ↓reduceIte, reduceCtorEq, List.reduceReplicate, List.flatten_cons, List.flatten_nil, List.append_nil, eq_self, Int.reduceLE, Int.reduceLT, Int.reduceToNat, Nat.min_eq_left, Int.reducePow, Int.reduceNeg, Int.reduceEq]
  refine callV_of (cut_spec (s := ⟨#[108, 105, 118, 101]⟩) (Nat.le_of_ble_eq_true rfl) 32) ?_
  have hcut : cutV ⟨#[108, 105, 118, 101]⟩ 32 = .tuple #[.string ⟨#[108, 105, 118, 101]⟩, .string ⟨#[]⟩, .bool false] := rfl
  rw [hcut]
  simp (dsimp := false) only [go_sem, Nat.reduceAdd, Nat.reduceEqDiff, Nat.reduceMul, Nat.reduceLeDiff, Nat.reduceSub, Nat.reduceLT, ↓reduceIte, reduceCtorEq, List.reduceReplicate, List.flatten_cons, List.flatten_nil, List.append_nil, eq_self, Int.reduceLE, Int.reduceLT, Int.reduceToNat, Nat.min_eq_left, Int.reducePow, Int.reduceNeg, Int.reduceEq]
  refine callV_of (qnum0_spec _) ?_
  simp (dsimp := false) only [go_sem, Nat.reduceAdd, Nat.reduceEqDiff, Nat.reduceMul, Nat.reduceLeDiff, Nat.reduceSub, Nat.reduceLT, ↓reduceIte, reduceCtorEq, List.reduceReplicate, List.flatten_cons, List.flatten_nil, List.append_nil, eq_self, Int.reduceLE, Int.reduceLT, Int.reduceToNat, Nat.min_eq_left, Int.reducePow, Int.reduceNeg, Int.reduceEq, q_live_fib, q_live_next, q_live_floor, q_live_roots, q_live_own, q_live_live, q_live_counter, q_live_counters, q_live_now, q_live_boot, q_live_dead, Bool.not_false, Bool.not_true]
  obtain ⟨v, h1, hx, hp, ls⟩ := xm (name := "Live") (by kernel_rfl) (by kernel_rfl) (mLive k)
  refine ⟨v, h1, hx, ?_⟩
  obtain ⟨_, _, _, _, ho⟩ := k.live
  simp (dsimp := false) only [go_sem, Nat.reduceAdd, Nat.reduceEqDiff, Nat.reduceMul, Nat.reduceLeDiff, Nat.reduceSub, Nat.reduceLT, ↓reduceIte, reduceCtorEq, List.reduceReplicate, List.flatten_cons, List.flatten_nil, List.append_nil, eq_self, Int.reduceLE, Int.reduceLT, Int.reduceToNat, Nat.min_eq_left, Int.reducePow, Int.reduceNeg, Int.reduceEq]
  refine callV_x (qlist_spec (hg.powV.pre hp) ls hn ho) ?_
  rintro _ h2 ⟨hp2, rfl⟩
  simp (dsimp := false) only [go_sem, Nat.reduceAdd, Nat.reduceEqDiff, Nat.reduceMul, Nat.reduceLeDiff, Nat.reduceSub, Nat.reduceLT, ↓reduceIte, reduceCtorEq, List.reduceReplicate, List.flatten_cons, List.flatten_nil, List.append_nil, eq_self, Int.reduceLE, Int.reduceLT, Int.reduceToNat, Nat.min_eq_left, Int.reducePow, Int.reduceNeg, Int.reduceEq]
  refine callV_of (qnone_spec _ _) ?_
  simp (dsimp := false) only [go_sem, Nat.reduceAdd, Nat.reduceEqDiff, Nat.reduceMul, Nat.reduceLeDiff, Nat.reduceSub, Nat.reduceLT, ↓reduceIte, reduceCtorEq, List.reduceReplicate, List.flatten_cons, List.flatten_nil, List.append_nil, eq_self, Int.reduceLE, Int.reduceLT, Int.reduceToNat, Nat.min_eq_left, Int.reducePow, Int.reduceNeg, Int.reduceEq]
  exact ans_one (hp.trans hp2) _
theorem aq_counters (hg : CountV h) : SpecX Tryd.prog nG fn.query_Ask [.iface 105 (.agg ⟨C⟩), .string ⟨#[99, 111, 117, 110, 116, 101, 114, 115]⟩] h fun v' h' => Ans h h' [orN (rtS T.ctr 19)] v' := by
  refine SpecX.of_body (ir.query_Ask.spec (Nat.le_of_ble_eq_true rfl)) ?_
  simp (dsimp := false) only [↓ir.query_Ask.bw, ir.query_Ask.rs, go_sem, Nat.reduceAdd, Nat.reduceEqDiff, Nat.reduceMul, Nat.reduceLeDiff, Nat.reduceSub, Nat.reduceLT, ↓reduceIte, reduceCtorEq, List.reduceReplicate, List.flatten_cons, List.flatten_nil, List.append_nil, eq_self, Int.reduceLE, Int.reduceLT, Int.reduceToNat, Nat.min_eq_left, Int.reducePow, Int.reduceNeg, Int.reduceEq]
  refine callV_of (cut_spec (s := ⟨#[99, 111, 117, 110, 116, 101, 114, 115]⟩) (Nat.le_of_ble_eq_true rfl) 32) ?_
  have hcut : cutV ⟨#[99, 111, 117, 110, 116, 101, 114, 115]⟩ 32 = .tuple #[.string ⟨#[99, 111, 117, 110, 116, 101, 114, 115]⟩, .string ⟨#[]⟩, .bool false] := rfl
  rw [hcut]
  simp (dsimp := false) only [go_sem, Nat.reduceAdd, Nat.reduceEqDiff, Nat.reduceMul, Nat.reduceLeDiff, Nat.reduceSub, Nat.reduceLT, ↓reduceIte, reduceCtorEq, List.reduceReplicate, List.flatten_cons, List.flatten_nil, List.append_nil, eq_self, Int.reduceLE, Int.reduceLT, Int.reduceToNat, Nat.min_eq_left, Int.reducePow, Int.reduceNeg, Int.reduceEq]
  refine callV_of (qnum0_spec _) ?_
  simp (dsimp := false) only [go_sem, Nat.reduceAdd, Nat.reduceEqDiff, Nat.reduceMul, Nat.reduceLeDiff, Nat.reduceSub, Nat.reduceLT, ↓reduceIte, reduceCtorEq, List.reduceReplicate, List.flatten_cons, List.flatten_nil, List.append_nil, eq_self, Int.reduceLE, Int.reduceLT, Int.reduceToNat, Nat.min_eq_left, Int.reducePow, Int.reduceNeg, Int.reduceEq, q_counters_fib, q_counters_next, q_counters_floor, q_counters_roots, q_counters_own, q_counters_live, q_counters_counter, q_counters_counters, q_counters_now, q_counters_boot, q_counters_dead, Bool.not_false, Bool.not_true]
  obtain ⟨v, h1, hx, hp1, ls⟩ := xm (name := "Counters") (by kernel_rfl) (by kernel_rfl) (mCounters k)
  refine ⟨v, h1, hx, ?_⟩
  obtain ⟨_, hl, ho⟩ := k.ctr
  simp (dsimp := false) only [go_sem, Nat.reduceAdd, Nat.reduceEqDiff, Nat.reduceMul, Nat.reduceLeDiff, Nat.reduceSub, Nat.reduceLT, ↓reduceIte, reduceCtorEq, List.reduceReplicate, List.flatten_cons, List.flatten_nil, List.append_nil, eq_self, Int.reduceLE, Int.reduceLT, Int.reduceToNat, Nat.min_eq_left, Int.reducePow, Int.reduceNeg, Int.reduceEq, ls.lenV, hl]
  refine loopV_of (fun m e h2 => ∃ (i : Nat) (u : Value), m = 19 - i ∧ i ≤ 19 ∧ Pre h1 h2 ∧ Ow h1 h2 1 u (cpS T.ctr i).length ((cpS T.ctr i).map Value.string) ∧ e = [(15, u), (143, v), (144, .int .i64 19), (145, .int .i64 i)]) _
    ⟨0, _, rfl, Nat.zero_le _, .refl _, .nil, rfl⟩ ?_
  rintro m e h2 ⟨i, u, rfl, hi, hp, hw, rfl⟩
  have k2 : CountV h2 := hg.pre (hp1.trans hp)
  rcases Nat.lt_or_ge i 19 with hlt | hge
  · have hd : decide ((i : Int) < 19) = true := by simpa using (by omega : (i : Int) < 19)
    have e1 : IntKind.i64.wrap ((i : Int) + 1) = ((i + 1 : Nat) : Int) := wrap_succ hlt (by unfold maxI; omega)
    have hil : i < T.ctr.length := by omega
    have r0 := isI_at ls hp hil
    have eL := getD_at hil
    have hok := ho i
    rw [eL] at hok
    simp (dsimp := false) only [↓ir.query_Ask.l2.bw, go_sem, Nat.reduceAdd, Nat.reduceEqDiff, Nat.reduceMul, Nat.reduceLeDiff, Nat.reduceSub, Nat.reduceLT, ↓reduceIte, reduceCtorEq, List.reduceReplicate, List.flatten_cons, List.flatten_nil, List.append_nil, eq_self, Int.reduceLE, Int.reduceLT, Int.reduceToNat, Nat.min_eq_left, Int.reducePow, Int.reduceNeg, Int.reduceEq, hd, ls.ixsN hil, r0]
    refine cVn (fun c => ?_) (fun c => ?_)
    · have z1 := nmS_size (L := countB) (c := 9) (by decide) i
      have z2 := wholeS_size hok
      simp (dsimp := false) only [go_sem, Nat.reduceAdd, Nat.reduceEqDiff, Nat.reduceMul, Nat.reduceLeDiff, Nat.reduceSub, Nat.reduceLT, ↓reduceIte, reduceCtorEq, List.reduceReplicate, List.flatten_cons, List.flatten_nil, List.append_nil, eq_self, Int.reduceLE, Int.reduceLT, Int.reduceToNat, Nat.min_eq_left, Int.reducePow, Int.reduceNeg, Int.reduceEq]
      refine callV_of (cname_spec k2 _) ?_
      obtain ⟨q, hq⟩ : ∃ q, nmS countB i = q := ⟨_, rfl⟩
      rw [hq] at z1 ⊢
      simp (dsimp := false) only [go_sem, Nat.reduceAdd, Nat.reduceEqDiff, Nat.reduceMul, Nat.reduceLeDiff, Nat.reduceSub, Nat.reduceLT, ↓reduceIte, reduceCtorEq, List.reduceReplicate, List.flatten_cons, List.flatten_nil, List.append_nil, eq_self, Int.reduceLE, Int.reduceLT, Int.reduceToNat, Nat.min_eq_left, Int.reducePow, Int.reduceNeg, Int.reduceEq]
      refine ⟨by simp only [ByteArray.size_append, size_mk, List.size_toArray, List.length_cons, List.length_nil]; omega, ?_⟩
      refine callV_of (formatInt_spec (k2.powV) hok) ?_
      simp (dsimp := false) only [go_sem, Nat.reduceAdd, Nat.reduceEqDiff, Nat.reduceMul, Nat.reduceLeDiff, Nat.reduceSub, Nat.reduceLT, ↓reduceIte, reduceCtorEq, List.reduceReplicate, List.flatten_cons, List.flatten_nil, List.append_nil, eq_self, Int.reduceLE, Int.reduceLT, Int.reduceToNat, Nat.min_eq_left, Int.reducePow, Int.reduceNeg, Int.reduceEq]
      refine ⟨by simp only [ByteArray.size_append, size_mk, List.size_toArray, List.length_cons, List.length_nil]; omega, ?_⟩
      refine (hw.pre (.app _ _)).app (m := 1) rfl rfl ⟨by have := cpS_len T.ctr i; omega, by have := cpS_len T.ctr i; omega⟩ (fun u' h' ho' hc _ _ => ?_) (hp.app' _)
      simp (dsimp := false) only [go_sem, Nat.reduceAdd, Nat.reduceEqDiff, Nat.reduceMul, Nat.reduceLeDiff, Nat.reduceSub, Nat.reduceLT, ↓reduceIte, reduceCtorEq, List.reduceReplicate, List.flatten_cons, List.flatten_nil, List.append_nil, eq_self, Int.reduceLE, Int.reduceLT, Int.reduceToNat, Nat.min_eq_left, Int.reducePow, Int.reduceNeg, Int.reduceEq, e1]
      refine ⟨_, by omega, i + 1, u', rfl, by omega, hc.pre (hp.app' _), ?_, rfl⟩
      rw [cpS, if_neg (by rw [eL]; exact c), List.length_append, List.map_append, partS, hq, eL]
      exact ho'
    · simp (dsimp := false) only [go_sem, Nat.reduceAdd, Nat.reduceEqDiff, Nat.reduceMul, Nat.reduceLeDiff, Nat.reduceSub, Nat.reduceLT, ↓reduceIte, reduceCtorEq, List.reduceReplicate, List.flatten_cons, List.flatten_nil, List.append_nil, eq_self, Int.reduceLE, Int.reduceLT, Int.reduceToNat, Nat.min_eq_left, Int.reducePow, Int.reduceNeg, Int.reduceEq, e1]
      refine ⟨_, by omega, i + 1, u, rfl, by omega, hp, ?_, rfl⟩
      rw [cpS, if_pos (by rw [eL]; exact c)]
      exact hw
  · have hd : decide ((i : Int) < 19) = false := by simpa using (by omega : ¬ (i : Int) < 19)
    obtain rfl : i = 19 := by omega
    simp (dsimp := false) only [↓ir.query_Ask.l2.bw, go_sem, Nat.reduceAdd, Nat.reduceEqDiff, Nat.reduceMul, Nat.reduceLeDiff, Nat.reduceSub, Nat.reduceLT, ↓reduceIte, reduceCtorEq, List.reduceReplicate, List.flatten_cons, List.flatten_nil, List.append_nil, eq_self, Int.reduceLE, Int.reduceLT, Int.reduceToNat, Nat.min_eq_left, Int.reducePow, Int.reduceNeg, Int.reduceEq, hd]
    have hs := hw.sl
    rw [show (cpS T.ctr 19).map Value.string = (cpS T.ctr 19).flatMap (fun x => [Value.string x]) from List.map_eq_flatMap] at hs
    have hj := Sl.ls (enc := fun x : ByteArray => [Value.string x]) (fun _ => rfl) hs rfl
    have h5 := cpS_len T.ctr 19
    have h6 := joinS_size (fun x hx => (parts_mem ho 19 x hx).2)
    refine callV_of (join_spec (sep := spS) hj (by omega) (by omega)) ?_
    simp (dsimp := false) only [go_sem, Nat.reduceAdd, Nat.reduceEqDiff, Nat.reduceMul, Nat.reduceLeDiff, Nat.reduceSub, Nat.reduceLT, ↓reduceIte, reduceCtorEq, List.reduceReplicate, List.flatten_cons, List.flatten_nil, List.append_nil, eq_self, Int.reduceLE, Int.reduceLT, Int.reduceToNat, Nat.min_eq_left, Int.reducePow, Int.reduceNeg, Int.reduceEq]
    refine callV_of (qnone_spec _ _) ?_
    simp (dsimp := false) only [go_sem, Nat.reduceAdd, Nat.reduceEqDiff, Nat.reduceMul, Nat.reduceLeDiff, Nat.reduceSub, Nat.reduceLT, ↓reduceIte, reduceCtorEq, List.reduceReplicate, List.flatten_cons, List.flatten_nil, List.append_nil, eq_self, Int.reduceLE, Int.reduceLT, Int.reduceToNat, Nat.min_eq_left, Int.reducePow, Int.reduceNeg, Int.reduceEq]
    rw [← (cp_text ho 19).1]
    exact ans_one (hp1.trans hp) _
theorem aq_now (hg : CountV h) : SpecX Tryd.prog nG fn.query_Ask [.iface 105 (.agg ⟨C⟩), .string ⟨#[110, 111, 119]⟩] h fun v' h' => Ans h h' [wholeS T.now] v' := by
  refine SpecX.of_body (ir.query_Ask.spec (Nat.le_of_ble_eq_true rfl)) ?_
  simp (dsimp := false) only [↓ir.query_Ask.bw, ir.query_Ask.rs, go_sem, Nat.reduceAdd, Nat.reduceEqDiff, Nat.reduceMul, Nat.reduceLeDiff, Nat.reduceSub, Nat.reduceLT, ↓reduceIte, reduceCtorEq, List.reduceReplicate, List.flatten_cons, List.flatten_nil, List.append_nil, eq_self, Int.reduceLE, Int.reduceLT, Int.reduceToNat, Nat.min_eq_left, Int.reducePow, Int.reduceNeg, Int.reduceEq]
  refine callV_of (cut_spec (s := ⟨#[110, 111, 119]⟩) (Nat.le_of_ble_eq_true rfl) 32) ?_
  have hcut : cutV ⟨#[110, 111, 119]⟩ 32 = .tuple #[.string ⟨#[110, 111, 119]⟩, .string ⟨#[]⟩, .bool false] := rfl
  rw [hcut]
  simp (dsimp := false) only [go_sem, Nat.reduceAdd, Nat.reduceEqDiff, Nat.reduceMul, Nat.reduceLeDiff, Nat.reduceSub, Nat.reduceLT, ↓reduceIte, reduceCtorEq, List.reduceReplicate, List.flatten_cons, List.flatten_nil, List.append_nil, eq_self, Int.reduceLE, Int.reduceLT, Int.reduceToNat, Nat.min_eq_left, Int.reducePow, Int.reduceNeg, Int.reduceEq]
  refine callV_of (qnum0_spec _) ?_
  simp (dsimp := false) only [go_sem, Nat.reduceAdd, Nat.reduceEqDiff, Nat.reduceMul, Nat.reduceLeDiff, Nat.reduceSub, Nat.reduceLT, ↓reduceIte, reduceCtorEq, List.reduceReplicate, List.flatten_cons, List.flatten_nil, List.append_nil, eq_self, Int.reduceLE, Int.reduceLT, Int.reduceToNat, Nat.min_eq_left, Int.reducePow, Int.reduceNeg, Int.reduceEq, q_now_fib, q_now_next, q_now_floor, q_now_roots, q_now_own, q_now_live, q_now_counter, q_now_counters, q_now_now, q_now_boot, q_now_dead, Bool.not_false, Bool.not_true]
  obtain ⟨_, h1, hx, hp, rfl⟩ := xm (name := "Now") (by kernel_rfl) (by kernel_rfl) (mNow k)
  refine ⟨_, h1, hx, ?_⟩
  simp (dsimp := false) only [go_sem, Nat.reduceAdd, Nat.reduceEqDiff, Nat.reduceMul, Nat.reduceLeDiff, Nat.reduceSub, Nat.reduceLT, ↓reduceIte, reduceCtorEq, List.reduceReplicate, List.flatten_cons, List.flatten_nil, List.append_nil, eq_self, Int.reduceLE, Int.reduceLT, Int.reduceToNat, Nat.min_eq_left, Int.reducePow, Int.reduceNeg, Int.reduceEq]
  refine callV_of (formatInt_spec (hg.powV.pre hp) k.now.2) ?_
  simp (dsimp := false) only [go_sem, Nat.reduceAdd, Nat.reduceEqDiff, Nat.reduceMul, Nat.reduceLeDiff, Nat.reduceSub, Nat.reduceLT, ↓reduceIte, reduceCtorEq, List.reduceReplicate, List.flatten_cons, List.flatten_nil, List.append_nil, eq_self, Int.reduceLE, Int.reduceLT, Int.reduceToNat, Nat.min_eq_left, Int.reducePow, Int.reduceNeg, Int.reduceEq]
  exact ans_one hp _
theorem aq_boot (hg : CountV h) : SpecX Tryd.prog nG fn.query_Ask [.iface 105 (.agg ⟨C⟩), .string ⟨#[98, 111, 111, 116]⟩] h fun v' h' => Ans h h' [decS T.boot] v' := by
  refine SpecX.of_body (ir.query_Ask.spec (Nat.le_of_ble_eq_true rfl)) ?_
  simp (dsimp := false) only [↓ir.query_Ask.bw, ir.query_Ask.rs, go_sem, Nat.reduceAdd, Nat.reduceEqDiff, Nat.reduceMul, Nat.reduceLeDiff, Nat.reduceSub, Nat.reduceLT, ↓reduceIte, reduceCtorEq, List.reduceReplicate, List.flatten_cons, List.flatten_nil, List.append_nil, eq_self, Int.reduceLE, Int.reduceLT, Int.reduceToNat, Nat.min_eq_left, Int.reducePow, Int.reduceNeg, Int.reduceEq]
  refine callV_of (cut_spec (s := ⟨#[98, 111, 111, 116]⟩) (Nat.le_of_ble_eq_true rfl) 32) ?_
  have hcut : cutV ⟨#[98, 111, 111, 116]⟩ 32 = .tuple #[.string ⟨#[98, 111, 111, 116]⟩, .string ⟨#[]⟩, .bool false] := rfl
  rw [hcut]
  simp (dsimp := false) only [go_sem, Nat.reduceAdd, Nat.reduceEqDiff, Nat.reduceMul, Nat.reduceLeDiff, Nat.reduceSub, Nat.reduceLT, ↓reduceIte, reduceCtorEq, List.reduceReplicate, List.flatten_cons, List.flatten_nil, List.append_nil, eq_self, Int.reduceLE, Int.reduceLT, Int.reduceToNat, Nat.min_eq_left, Int.reducePow, Int.reduceNeg, Int.reduceEq]
  refine callV_of (qnum0_spec _) ?_
  simp (dsimp := false) only [go_sem, Nat.reduceAdd, Nat.reduceEqDiff, Nat.reduceMul, Nat.reduceLeDiff, Nat.reduceSub, Nat.reduceLT, ↓reduceIte, reduceCtorEq, List.reduceReplicate, List.flatten_cons, List.flatten_nil, List.append_nil, eq_self, Int.reduceLE, Int.reduceLT, Int.reduceToNat, Nat.min_eq_left, Int.reducePow, Int.reduceNeg, Int.reduceEq, q_boot_fib, q_boot_next, q_boot_floor, q_boot_roots, q_boot_own, q_boot_live, q_boot_counter, q_boot_counters, q_boot_now, q_boot_boot, q_boot_dead, Bool.not_false, Bool.not_true]
  obtain ⟨_, h1, hx, hp, rfl⟩ := xm (name := "Boot") (by kernel_rfl) (by kernel_rfl) (mBoot k)
  refine ⟨_, h1, hx, ?_⟩
  simp (dsimp := false) only [go_sem, Nat.reduceAdd, Nat.reduceEqDiff, Nat.reduceMul, Nat.reduceLeDiff, Nat.reduceSub, Nat.reduceLT, ↓reduceIte, reduceCtorEq, List.reduceReplicate, List.flatten_cons, List.flatten_nil, List.append_nil, eq_self, Int.reduceLE, Int.reduceLT, Int.reduceToNat, Nat.min_eq_left, Int.reducePow, Int.reduceNeg, Int.reduceEq]
  refine callV_of (formatUint_spec (hg.powV.pre hp) k.boot.2) ?_
  simp (dsimp := false) only [go_sem, Nat.reduceAdd, Nat.reduceEqDiff, Nat.reduceMul, Nat.reduceLeDiff, Nat.reduceSub, Nat.reduceLT, ↓reduceIte, reduceCtorEq, List.reduceReplicate, List.flatten_cons, List.flatten_nil, List.append_nil, eq_self, Int.reduceLE, Int.reduceLT, Int.reduceToNat, Nat.min_eq_left, Int.reducePow, Int.reduceNeg, Int.reduceEq]
  exact ans_one hp _
theorem aq_dead (hg : CountV h) : SpecX Tryd.prog nG fn.query_Ask [.iface 105 (.agg ⟨C⟩), .string ⟨#[100, 101, 97, 100]⟩] h fun v' h' => Ans h h' [wholeS T.dead] v' := by
  refine SpecX.of_body (ir.query_Ask.spec (Nat.le_of_ble_eq_true rfl)) ?_
  simp (dsimp := false) only [↓ir.query_Ask.bw, ir.query_Ask.rs, go_sem, Nat.reduceAdd, Nat.reduceEqDiff, Nat.reduceMul, Nat.reduceLeDiff, Nat.reduceSub, Nat.reduceLT, ↓reduceIte, reduceCtorEq, List.reduceReplicate, List.flatten_cons, List.flatten_nil, List.append_nil, eq_self, Int.reduceLE, Int.reduceLT, Int.reduceToNat, Nat.min_eq_left, Int.reducePow, Int.reduceNeg, Int.reduceEq]
  refine callV_of (cut_spec (s := ⟨#[100, 101, 97, 100]⟩) (Nat.le_of_ble_eq_true rfl) 32) ?_
  have hcut : cutV ⟨#[100, 101, 97, 100]⟩ 32 = .tuple #[.string ⟨#[100, 101, 97, 100]⟩, .string ⟨#[]⟩, .bool false] := rfl
  rw [hcut]
  simp (dsimp := false) only [go_sem, Nat.reduceAdd, Nat.reduceEqDiff, Nat.reduceMul, Nat.reduceLeDiff, Nat.reduceSub, Nat.reduceLT, ↓reduceIte, reduceCtorEq, List.reduceReplicate, List.flatten_cons, List.flatten_nil, List.append_nil, eq_self, Int.reduceLE, Int.reduceLT, Int.reduceToNat, Nat.min_eq_left, Int.reducePow, Int.reduceNeg, Int.reduceEq]
  refine callV_of (qnum0_spec _) ?_
  simp (dsimp := false) only [go_sem, Nat.reduceAdd, Nat.reduceEqDiff, Nat.reduceMul, Nat.reduceLeDiff, Nat.reduceSub, Nat.reduceLT, ↓reduceIte, reduceCtorEq, List.reduceReplicate, List.flatten_cons, List.flatten_nil, List.append_nil, eq_self, Int.reduceLE, Int.reduceLT, Int.reduceToNat, Nat.min_eq_left, Int.reducePow, Int.reduceNeg, Int.reduceEq, q_dead_fib, q_dead_next, q_dead_floor, q_dead_roots, q_dead_own, q_dead_live, q_dead_counter, q_dead_counters, q_dead_now, q_dead_boot, q_dead_dead, Bool.not_false, Bool.not_true]
  obtain ⟨_, h1, hx, hp, rfl⟩ := xm (name := "Dead") (by kernel_rfl) (by kernel_rfl) (mDead k)
  refine ⟨_, h1, hx, ?_⟩
  simp (dsimp := false) only [go_sem, Nat.reduceAdd, Nat.reduceEqDiff, Nat.reduceMul, Nat.reduceLeDiff, Nat.reduceSub, Nat.reduceLT, ↓reduceIte, reduceCtorEq, List.reduceReplicate, List.flatten_cons, List.flatten_nil, List.append_nil, eq_self, Int.reduceLE, Int.reduceLT, Int.reduceToNat, Nat.min_eq_left, Int.reducePow, Int.reduceNeg, Int.reduceEq]
  refine callV_of (itoa_spec (hg.powV.pre hp) k.dead.2) ?_
  simp (dsimp := false) only [go_sem, Nat.reduceAdd, Nat.reduceEqDiff, Nat.reduceMul, Nat.reduceLeDiff, Nat.reduceSub, Nat.reduceLT, ↓reduceIte, reduceCtorEq, List.reduceReplicate, List.flatten_cons, List.flatten_nil, List.append_nil, eq_self, Int.reduceLE, Int.reduceLT, Int.reduceToNat, Nat.min_eq_left, Int.reducePow, Int.reduceNeg, Int.reduceEq]
  exact ans_one hp _
end
end Go.Proofs.YtoiihalnbdehkaaDoor.B
/-
  Layer 26: the document's answers to the questions that need nothing more.
-/
namespace Go.Proofs.YtoiihalnbdehkaaDoor.B
open Go
set_option linter.unusedVariables false
set_option linter.unusedSimpArgs false
set_option maxRecDepth 100000
theorem rtext_spec (h : AHeap) {e s : Nat} {m : Int} (he : e < 4294967296) (hs : s < 4294967296) (hm : i64ok m) : Spec Tryd.prog nG fn.ref01_Text [.agg #[.int .u32 e, .int .u32 s, .int .i64 m]] h (.string (keyS e s m)) h := by
  apply ir.ref01_Text.spec (Nat.le_of_ble_eq_true rfl)
  have h1 := decS_size (u := e) (by omega)
  have h2 := decS_size (u := s) (by omega)
  have h3 := wholeS_size hm
  have w1 := wrapU64 (show e < 18446744073709551616 by omega)
  have w2 := wrapU64 (show s < 18446744073709551616 by omega)
  simp (dsimp := false) only [↓ir.ref01_Text.bw, ir.ref01_Text.rs, go_sem, Nat.reduceAdd, Nat.reduceEqDiff, Nat.reduceMul, Nat.reduceLeDiff, Nat.reduceSub, Nat.reduceLT, ↓reduceIte, reduceCtorEq, List.reduceReplicate, List.flatten_cons, List.flatten_nil, List.append_nil, eq_self, Int.reduceLE, Int.reduceLT, Int.reduceToNat, Nat.min_eq_left, Int.reducePow, Int.reduceNeg, Int.reduceEq, w1]
  refine callV_of (decimal_spec _ (by omega)) ?_
  simp (dsimp := false) only [go_sem, Nat.reduceAdd, Nat.reduceEqDiff, Nat.reduceMul, Nat.reduceLeDiff, Nat.reduceSub, Nat.reduceLT, ↓reduceIte, reduceCtorEq, List.reduceReplicate, List.flatten_cons, List.flatten_nil, List.append_nil, eq_self, Int.reduceLE, Int.reduceLT, Int.reduceToNat, Nat.min_eq_left, Int.reducePow, Int.reduceNeg, Int.reduceEq, w2]
  refine ⟨by simp only [ByteArray.size_append, size_mk, List.size_toArray, List.length_cons, List.length_nil]; omega, ?_⟩
  refine callV_of (decimal_spec _ (by omega)) ?_
  simp (dsimp := false) only [go_sem, Nat.reduceAdd, Nat.reduceEqDiff, Nat.reduceMul, Nat.reduceLeDiff, Nat.reduceSub, Nat.reduceLT, ↓reduceIte, reduceCtorEq, List.reduceReplicate, List.flatten_cons, List.flatten_nil, List.append_nil, eq_self, Int.reduceLE, Int.reduceLT, Int.reduceToNat, Nat.min_eq_left, Int.reducePow, Int.reduceNeg, Int.reduceEq]
  refine ⟨by simp only [ByteArray.size_append, size_mk, List.size_toArray, List.length_cons, List.length_nil]; omega, ?_⟩
  refine ⟨by simp only [ByteArray.size_append, size_mk, List.size_toArray, List.length_cons, List.length_nil]; omega, ?_⟩
  refine callV_of (rwhole_spec _ hm) ?_
  simp (dsimp := false) only [go_sem, Nat.reduceAdd, Nat.reduceEqDiff, Nat.reduceMul, Nat.reduceLeDiff, Nat.reduceSub, Nat.reduceLT, ↓reduceIte, reduceCtorEq, List.reduceReplicate, List.flatten_cons, List.flatten_nil, List.append_nil, eq_self, Int.reduceLE, Int.reduceLT, Int.reduceToNat, Nat.min_eq_left, Int.reducePow, Int.reduceNeg, Int.reduceEq]
  refine ⟨by simp only [ByteArray.size_append, size_mk, List.size_toArray, List.length_cons, List.length_nil]; omega, ?_⟩
  exact Fin.sc rfl rfl

theorem rkey_spec (h : AHeap) {e s : Nat} {m : Int} (he : e < 4294967296) (hs : s < 4294967296) (hm : i64ok m) (b : Bool) : SpecX Tryd.prog nG fn.ref26_key [.agg ⟨keyC e s m⟩, .bool b] h fun v' h' => Pre h h' ∧ v' = .string (if b then keyS e s m else noneS) := by
  refine SpecX.of_body (ir.ref26_key.spec (Nat.le_of_ble_eq_true rfl)) ?_
  simp (dsimp := false) only [↓ir.ref26_key.bw, ir.ref26_key.rs, go_sem, Nat.reduceAdd, Nat.reduceEqDiff, Nat.reduceMul, Nat.reduceLeDiff, Nat.reduceSub, Nat.reduceLT, ↓reduceIte, reduceCtorEq, List.reduceReplicate, List.flatten_cons, List.flatten_nil, List.append_nil, eq_self, Int.reduceLE, Int.reduceLT, Int.reduceToNat, Nat.min_eq_left, Int.reducePow, Int.reduceNeg, Int.reduceEq]
  cases b with
  | false =>
    simp (dsimp := false) only [go_sem, Nat.reduceAdd, Nat.reduceEqDiff, Nat.reduceMul, Nat.reduceLeDiff, Nat.reduceSub, Nat.reduceLT, ↓reduceIte, reduceCtorEq, List.reduceReplicate, List.flatten_cons, List.flatten_nil, List.append_nil, eq_self, Int.reduceLE, Int.reduceLT, Int.reduceToNat, Nat.min_eq_left, Int.reducePow, Int.reduceNeg, Int.reduceEq]
  | true =>
    simp (dsimp := false) only [go_sem, Nat.reduceAdd, Nat.reduceEqDiff, Nat.reduceMul, Nat.reduceLeDiff, Nat.reduceSub, Nat.reduceLT, ↓reduceIte, reduceCtorEq, List.reduceReplicate, List.flatten_cons, List.flatten_nil, List.append_nil, eq_self, Int.reduceLE, Int.reduceLT, Int.reduceToNat, Nat.min_eq_left, Int.reducePow, Int.reduceNeg, Int.reduceEq]
    refine callV_of (rtext_spec _ he hs hm) ?_
    simp (dsimp := false) only [go_sem, Nat.reduceAdd, Nat.reduceEqDiff, Nat.reduceMul, Nat.reduceLeDiff, Nat.reduceSub, Nat.reduceLT, ↓reduceIte, reduceCtorEq, List.reduceReplicate, List.flatten_cons, List.flatten_nil, List.append_nil, eq_self, Int.reduceLE, Int.reduceLT, Int.reduceToNat, Nat.min_eq_left, Int.reducePow, Int.reduceNeg, Int.reduceEq]
/-- Numbers with blanks between, as the document builds them. -/
def rlS (L : List Int) : Nat → ByteArray
  | 0 => ⟨#[]⟩
  | i + 1 => (if 0 < i then rlS L i ++ spS else rlS L i) ++ wholeS (L.getD i 0)
theorem rlS_join {L : List Int} : ∀ i, i ≤ L.length → rlS L i = joinS (wS (L.take i)) spS
  | 0, _ => rfl
  | i + 1, hi => by
    have ih := rlS_join (L := L) i (by omega)
    have eL : L.getD i 0 = L[i] := getD_at (by omega)
    rw [rlS, ih, eL, List.take_succ_eq_append_getElem (by omega), wS, wS, List.map_append, List.map_cons, List.map_nil]
    cases hL : (L.take i).map wholeS with
    | nil =>
      have : ¬ 0 < i := by
        intro q
        have := congrArg List.length hL
        simp at this
        rcases this with rfl | rfl
        · omega
        · simp at hi
      rw [if_neg this, List.nil_append, joinS_one]
      exact ByteArray.empty_append
    | cons x r =>
      have : 0 < i := by
        have := congrArg List.length hL
        simp at this
        omega
      rw [if_pos this, joinS_snoc]
section
variable {h : AHeap} {C : List Value} {T : TD} (k : SrcT h C T)
include k
theorem raq_fib : SpecX Tryd.prog nG fn.ref26_Ask [.agg ⟨C⟩, .string ⟨#[102, 105, 98]⟩] h fun v' h' => Ans h h' (T.fib.map hopS) v' := by
  refine SpecX.of_body (ir.ref26_Ask.spec (Nat.le_of_ble_eq_true rfl)) ?_
  have hp0 : Pre h (h ++ [.row .fix C]) := .app _ _
  have fx : Fx (h ++ [.row .fix C]) h.length C := Fx.here h C []
  simp (dsimp := false) only [↓ir.ref26_Ask.bw, ir.ref26_Ask.rs, go_sem, Nat.reduceAdd, Nat.reduceEqDiff, Nat.reduceMul, Nat.reduceLeDiff, Nat.reduceSub, Nat.reduceLT, ↓reduceIte, reduceCtorEq, List.reduceReplicate, List.flatten_cons, List.flatten_nil, List.append_nil, eq_self, Int.reduceLE, Int.reduceLT, Int.reduceToNat, Nat.min_eq_left, Int.reducePow, Int.reduceNeg, Int.reduceEq, q_fib_fib, q_fib_own, q_fib_live, q_fib_counters, q_fib_now, q_fib_boot, q_fib_dead]
  obtain ⟨v, ev, ls0, hf, ho⟩ := k.fib
  have ls := ls0.pre hp0
  have rv : ∀ {h2}, Pre (h ++ [.row .fix C]) h2 → rds h2 h.length 0 1 = some [v] := fun p => (fx.pre p).rd ev (by rw [k.len]; omega)
  generalize (h ++ [AObj.row .fix C]) = h1 at hp0 fx ls rv ⊢
  generalize h.length = b at fx rv ⊢
  refine loopV_of (fun m e h2 => ∃ (i : Nat) (u : Value), m = T.fib.length - i ∧ i ≤ T.fib.length ∧ Pre h1 h2 ∧ Ow h1 h2 1 u i (((T.fib.take i).map hopS).map Value.string) ∧ e = [(2, .pointer (some ⟨b, 0, none⟩)), (6, u), (7, .int .i64 i)]) _
    ⟨0, _, rfl, Nat.zero_le _, .refl _, .nil, rfl⟩ ?_
  rintro m e h2 ⟨i, u, rfl, hi, hp, hw, rfl⟩
  have r := rv hp
  rcases Nat.lt_or_ge i T.fib.length with hlt | hge
  · obtain ⟨c, hc, hc2, r0, r1⟩ := ls.rd2 hp hlt
    subst hc2
    obtain ⟨o1, o2, o3⟩ := ho T.fib[i] (List.getElem_mem hlt)
    have hfi : T.fib.length * 24 ≤ 140737488351232 := hf
    obtain ⟨a, ha⟩ : ∃ a, T.fib[i] = a := ⟨_, rfl⟩
    rw [ha] at o1 o2 o3 r0
    have s1 := wholeS_size o1
    have s2 := wholeS_size o2
    have s3 := wholeS_size o3
    simp (dsimp := false) only [↓ir.ref26_Ask.l1.bw, go_sem, Nat.reduceAdd, Nat.reduceEqDiff, Nat.reduceMul, Nat.reduceLeDiff, Nat.reduceSub, Nat.reduceLT, ↓reduceIte, reduceCtorEq, List.reduceReplicate, List.flatten_cons, List.flatten_nil, List.append_nil, eq_self, Int.reduceLE, Int.reduceLT, Int.reduceToNat, Nat.min_eq_left, Int.reducePow, Int.reduceNeg, Int.reduceEq, r, ls.lenV, ls.ixsN hlt, r0, Int.ofNat_lt, hlt, decide_true, Hop.c]
    refine callV_of (rwhole_spec _ o1) ?_
    simp (dsimp := false) only [go_sem, Nat.reduceAdd, Nat.reduceEqDiff, Nat.reduceMul, Nat.reduceLeDiff, Nat.reduceSub, Nat.reduceLT, ↓reduceIte, reduceCtorEq, List.reduceReplicate, List.flatten_cons, List.flatten_nil, List.append_nil, eq_self, Int.reduceLE, Int.reduceLT, Int.reduceToNat, Nat.min_eq_left, Int.reducePow, Int.reduceNeg, Int.reduceEq]
    refine ⟨by simp only [ByteArray.size_append, size_mk, List.size_toArray, List.length_cons, List.length_nil]; omega, ?_⟩
    refine callV_of (rwhole_spec _ o2) ?_
    simp (dsimp := false) only [go_sem, Nat.reduceAdd, Nat.reduceEqDiff, Nat.reduceMul, Nat.reduceLeDiff, Nat.reduceSub, Nat.reduceLT, ↓reduceIte, reduceCtorEq, List.reduceReplicate, List.flatten_cons, List.flatten_nil, List.append_nil, eq_self, Int.reduceLE, Int.reduceLT, Int.reduceToNat, Nat.min_eq_left, Int.reducePow, Int.reduceNeg, Int.reduceEq]
    refine ⟨by simp only [ByteArray.size_append, size_mk, List.size_toArray, List.length_cons, List.length_nil]; omega, ?_⟩
    refine ⟨by simp only [ByteArray.size_append, size_mk, List.size_toArray, List.length_cons, List.length_nil]; omega, ?_⟩
    refine callV_of (rwhole_spec _ o3) ?_
    simp (dsimp := false) only [go_sem, Nat.reduceAdd, Nat.reduceEqDiff, Nat.reduceMul, Nat.reduceLeDiff, Nat.reduceSub, Nat.reduceLT, ↓reduceIte, reduceCtorEq, List.reduceReplicate, List.flatten_cons, List.flatten_nil, List.append_nil, eq_self, Int.reduceLE, Int.reduceLT, Int.reduceToNat, Nat.min_eq_left, Int.reducePow, Int.reduceNeg, Int.reduceEq]
    refine ⟨by simp only [ByteArray.size_append, size_mk, List.size_toArray, List.length_cons, List.length_nil]; omega, ?_⟩
    refine (hw.pre (.app _ _)).app (m := 1) rfl rfl ⟨by omega, by omega⟩ (fun u' h' ho' hc _ _ => ?_) (hp.app' _)
    simp (dsimp := false) only [go_sem, Nat.reduceAdd, Nat.reduceEqDiff, Nat.reduceMul, Nat.reduceLeDiff, Nat.reduceSub, Nat.reduceLT, ↓reduceIte, reduceCtorEq, List.reduceReplicate, List.flatten_cons, List.flatten_nil, List.append_nil, eq_self, Int.reduceLE, Int.reduceLT, Int.reduceToNat, Nat.min_eq_left, Int.reducePow, Int.reduceNeg, Int.reduceEq, wrap_succ hlt ls.le]
    refine ⟨T.fib.length - (i + 1), by omega, i + 1, u', rfl, hlt, hc.pre (hp.app' _), ?_, rfl⟩
    rw [List.take_succ_eq_append_getElem hlt, List.map_append, List.map_append, ha]
    exact ho'
  · obtain rfl : i = T.fib.length := by omega
    simp (dsimp := false) only [↓ir.ref26_Ask.l1.bw, go_sem, Nat.reduceAdd, Nat.reduceEqDiff, Nat.reduceMul, Nat.reduceLeDiff, Nat.reduceSub, Nat.reduceLT, ↓reduceIte, reduceCtorEq, List.reduceReplicate, List.flatten_cons, List.flatten_nil, List.append_nil, eq_self, Int.reduceLE, Int.reduceLT, Int.reduceToNat, Nat.min_eq_left, Int.reducePow, Int.reduceNeg, Int.reduceEq, r, ls.lenV, Int.ofNat_lt, show ¬ T.fib.length < T.fib.length by omega, decide_false]
    rw [List.take_of_length_le (Nat.le_refl _)] at hw
    have hs := hw.sl
    rw [show (T.fib.map hopS).map Value.string = (T.fib.map hopS).flatMap (fun x => [Value.string x]) from List.map_eq_flatMap] at hs
    exact ⟨hp0.trans hp, _, rfl, Sl.ls (enc := fun x : ByteArray => [Value.string x]) (fun _ => rfl) hs (by simp), hw.place.imp id fun q => ⟨Nat.le_trans hp0.len q.1, q.2⟩⟩
theorem raq_own : SpecX Tryd.prog nG fn.ref26_Ask [.agg ⟨C⟩, .string ⟨#[111, 119, 110]⟩] h fun v' h' => Ans h h' [if T.any then keyS T.oe T.os T.om else noneS] v' := by
  refine SpecX.of_body (ir.ref26_Ask.spec (Nat.le_of_ble_eq_true rfl)) ?_
  have hp0 : Pre h (h ++ [.row .fix C]) := .app _ _
  have fx : Fx (h ++ [.row .fix C]) h.length C := Fx.here h C []
  simp (dsimp := false) only [↓ir.ref26_Ask.bw, ir.ref26_Ask.rs, go_sem, Nat.reduceAdd, Nat.reduceEqDiff, Nat.reduceMul, Nat.reduceLeDiff, Nat.reduceSub, Nat.reduceLT, ↓reduceIte, reduceCtorEq, List.reduceReplicate, List.flatten_cons, List.flatten_nil, List.append_nil, eq_self, Int.reduceLE, Int.reduceLT, Int.reduceToNat, Nat.min_eq_left, Int.reducePow, Int.reduceNeg, Int.reduceEq, q_own_fib, q_own_own, q_own_live, q_own_counters, q_own_now, q_own_boot, q_own_dead]
  obtain ⟨hk, w1, w2, w3⟩ := k.own
  simp (dsimp := false) only [go_sem, Nat.reduceAdd, Nat.reduceEqDiff, Nat.reduceMul, Nat.reduceLeDiff, Nat.reduceSub, Nat.reduceLT, ↓reduceIte, reduceCtorEq, List.reduceReplicate, List.flatten_cons, List.flatten_nil, List.append_nil, eq_self, Int.reduceLE, Int.reduceLT, Int.reduceToNat, Nat.min_eq_left, Int.reducePow, Int.reduceNeg, Int.reduceEq, k.len, hk, k.any]
  refine callV_x (rkey_spec _ w1 w2 w3 T.any) ?_
  rintro _ h2 ⟨hp2, rfl⟩
  simp (dsimp := false) only [go_sem, Nat.reduceAdd, Nat.reduceEqDiff, Nat.reduceMul, Nat.reduceLeDiff, Nat.reduceSub, Nat.reduceLT, ↓reduceIte, reduceCtorEq, List.reduceReplicate, List.flatten_cons, List.flatten_nil, List.append_nil, eq_self, Int.reduceLE, Int.reduceLT, Int.reduceToNat, Nat.min_eq_left, Int.reducePow, Int.reduceNeg, Int.reduceEq]
  exact ans_one (hp0.trans hp2) _
theorem raq_live (hn : T.live.length ≤ 30) : SpecX Tryd.prog nG fn.ref26_Ask [.agg ⟨C⟩, .string ⟨#[108, 105, 118, 101]⟩] h fun v' h' => Ans h h' [orN (joinS (wS T.live) spS)] v' := by
  refine SpecX.of_body (ir.ref26_Ask.spec (Nat.le_of_ble_eq_true rfl)) ?_
  have hp0 : Pre h (h ++ [.row .fix C]) := .app _ _
  have fx : Fx (h ++ [.row .fix C]) h.length C := Fx.here h C []
  simp (dsimp := false) only [↓ir.ref26_Ask.bw, ir.ref26_Ask.rs, go_sem, Nat.reduceAdd, Nat.reduceEqDiff, Nat.reduceMul, Nat.reduceLeDiff, Nat.reduceSub, Nat.reduceLT, ↓reduceIte, reduceCtorEq, List.reduceReplicate, List.flatten_cons, List.flatten_nil, List.append_nil, eq_self, Int.reduceLE, Int.reduceLT, Int.reduceToNat, Nat.min_eq_left, Int.reducePow, Int.reduceNeg, Int.reduceEq, q_live_fib, q_live_own, q_live_live, q_live_counters, q_live_now, q_live_boot, q_live_dead]
  obtain ⟨v, ev, ls0, hf, ho⟩ := k.live
  have ls := ls0.pre hp0
  have rv : ∀ {h2}, Pre (h ++ [.row .fix C]) h2 → rds h2 h.length 37 1 = some [v] := fun p => (fx.pre p).rd ev (by rw [k.len]; omega)
  generalize (h ++ [AObj.row .fix C]) = h1 at hp0 fx ls rv ⊢
  generalize h.length = b at fx rv ⊢
  refine loopV_of (fun m e h2 => ∃ (i : Nat), m = T.live.length - i ∧ i ≤ T.live.length ∧ h2 = h1 ∧ e = [(2, .pointer (some ⟨b, 0, none⟩)), (9, .string (rlS T.live i)), (10, .int .i64 i)]) _
    ⟨0, rfl, Nat.zero_le _, rfl, rfl⟩ ?_
  rintro m e h2 ⟨i, rfl, hi, rfl, rfl⟩
  have r := rv (.refl _)
  have hj := rlS_join (L := T.live) i hi
  have z0 : (rlS T.live i).size ≤ 2000 := by
    rw [hj]
    have := joinS_size (wS_size (L := T.live.take i) fun a ha => ho a (List.mem_of_mem_take ha))
    have h7 : (wS (T.live.take i)).length ≤ 30 := by simp; omega
    omega
  rcases Nat.lt_or_ge i T.live.length with hlt | hge
  · have r0 := isI_at ls (.refl _) hlt
    have oi := ho T.live[i] (List.getElem_mem hlt)
    have eL : T.live.getD i 0 = T.live[i] := getD_at hlt
    have s1 := wholeS_size oi
    have nxt : (if 0 < i then rlS T.live i ++ spS else rlS T.live i) ++ wholeS T.live[i] = rlS T.live (i + 1) := by rw [rlS, eL]
    simp (dsimp := false) only [↓ir.ref26_Ask.l2.bw, go_sem, Nat.reduceAdd, Nat.reduceEqDiff, Nat.reduceMul, Nat.reduceLeDiff, Nat.reduceSub, Nat.reduceLT, ↓reduceIte, reduceCtorEq, List.reduceReplicate, List.flatten_cons, List.flatten_nil, List.append_nil, eq_self, Int.reduceLE, Int.reduceLT, Int.reduceToNat, Nat.min_eq_left, Int.reducePow, Int.reduceNeg, Int.reduceEq, r, ls.lenV, Int.ofNat_lt, hlt, decide_true]
    refine cVd (fun c => ?_) (fun c => ?_)
    · have c2 : 0 < i := by omega
      rw [if_pos c2] at nxt
      simp (dsimp := false) only [go_sem, Nat.reduceAdd, Nat.reduceEqDiff, Nat.reduceMul, Nat.reduceLeDiff, Nat.reduceSub, Nat.reduceLT, ↓reduceIte, reduceCtorEq, List.reduceReplicate, List.flatten_cons, List.flatten_nil, List.append_nil, eq_self, Int.reduceLE, Int.reduceLT, Int.reduceToNat, Nat.min_eq_left, Int.reducePow, Int.reduceNeg, Int.reduceEq, r]
      refine ⟨by simp only [ByteArray.size_append, size_mk, List.size_toArray, List.length_cons, List.length_nil]; omega, ?_⟩
      simp (dsimp := false) only [go_sem, Nat.reduceAdd, Nat.reduceEqDiff, Nat.reduceMul, Nat.reduceLeDiff, Nat.reduceSub, Nat.reduceLT, ↓reduceIte, reduceCtorEq, List.reduceReplicate, List.flatten_cons, List.flatten_nil, List.append_nil, eq_self, Int.reduceLE, Int.reduceLT, Int.reduceToNat, Nat.min_eq_left, Int.reducePow, Int.reduceNeg, Int.reduceEq, ls.ixsN hlt, r0, r]
      refine callV_of (rwhole_spec _ oi) ?_
      simp (dsimp := false) only [go_sem, Nat.reduceAdd, Nat.reduceEqDiff, Nat.reduceMul, Nat.reduceLeDiff, Nat.reduceSub, Nat.reduceLT, ↓reduceIte, reduceCtorEq, List.reduceReplicate, List.flatten_cons, List.flatten_nil, List.append_nil, eq_self, Int.reduceLE, Int.reduceLT, Int.reduceToNat, Nat.min_eq_left, Int.reducePow, Int.reduceNeg, Int.reduceEq, wrap_succ hlt ls.le]
      refine ⟨by simp only [ByteArray.size_append, size_mk, List.size_toArray, List.length_cons, List.length_nil]; omega, ?_⟩
      exact ⟨T.live.length - (i + 1), by omega, i + 1, rfl, hlt, by rw [← nxt]⟩
    · have c2 : ¬ 0 < i := by omega
      rw [if_neg c2] at nxt
      simp (dsimp := false) only [go_sem, Nat.reduceAdd, Nat.reduceEqDiff, Nat.reduceMul, Nat.reduceLeDiff, Nat.reduceSub, Nat.reduceLT, ↓reduceIte, reduceCtorEq, List.reduceReplicate, List.flatten_cons, List.flatten_nil, List.append_nil, eq_self, Int.reduceLE, Int.reduceLT, Int.reduceToNat, Nat.min_eq_left, Int.reducePow, Int.reduceNeg, Int.reduceEq, r, ls.ixsN hlt, r0]
      refine callV_of (rwhole_spec _ oi) ?_
      simp (dsimp := false) only [go_sem, Nat.reduceAdd, Nat.reduceEqDiff, Nat.reduceMul, Nat.reduceLeDiff, Nat.reduceSub, Nat.reduceLT, ↓reduceIte, reduceCtorEq, List.reduceReplicate, List.flatten_cons, List.flatten_nil, List.append_nil, eq_self, Int.reduceLE, Int.reduceLT, Int.reduceToNat, Nat.min_eq_left, Int.reducePow, Int.reduceNeg, Int.reduceEq, wrap_succ hlt ls.le]
      refine ⟨by omega, ?_⟩
      exact ⟨T.live.length - (i + 1), by omega, i + 1, rfl, hlt, by rw [← nxt]⟩
  · obtain rfl : i = T.live.length := by omega
    rw [List.take_of_length_le (Nat.le_refl _)] at hj
    simp (dsimp := false) only [↓ir.ref26_Ask.l2.bw, go_sem, Nat.reduceAdd, Nat.reduceEqDiff, Nat.reduceMul, Nat.reduceLeDiff, Nat.reduceSub, Nat.reduceLT, ↓reduceIte, reduceCtorEq, List.reduceReplicate, List.flatten_cons, List.flatten_nil, List.append_nil, eq_self, Int.reduceLE, Int.reduceLT, Int.reduceToNat, Nat.min_eq_left, Int.reducePow, Int.reduceNeg, Int.reduceEq, r, ls.lenV, Int.ofNat_lt, show ¬ T.live.length < T.live.length by omega, decide_false, hj]
    refine cV (fun c => ?_) (fun c => ?_)
    · have e := (empty_iff _).1 c
      simp (dsimp := false) only [go_sem, Nat.reduceAdd, Nat.reduceEqDiff, Nat.reduceMul, Nat.reduceLeDiff, Nat.reduceSub, Nat.reduceLT, ↓reduceIte, reduceCtorEq, List.reduceReplicate, List.flatten_cons, List.flatten_nil, List.append_nil, eq_self, Int.reduceLE, Int.reduceLT, Int.reduceToNat, Nat.min_eq_left, Int.reducePow, Int.reduceNeg, Int.reduceEq]
      rw [orN, if_pos e]
      exact ans_one hp0 _
    · have e : ¬ joinS (wS T.live) spS = ⟨#[]⟩ := fun e => by rw [(empty_iff _).2 e] at c; cases c
      simp (dsimp := false) only [go_sem, Nat.reduceAdd, Nat.reduceEqDiff, Nat.reduceMul, Nat.reduceLeDiff, Nat.reduceSub, Nat.reduceLT, ↓reduceIte, reduceCtorEq, List.reduceReplicate, List.flatten_cons, List.flatten_nil, List.append_nil, eq_self, Int.reduceLE, Int.reduceLT, Int.reduceToNat, Nat.min_eq_left, Int.reducePow, Int.reduceNeg, Int.reduceEq]
      rw [orN, if_neg e]
      exact ans_one hp0 _
theorem raq_counters : SpecX Tryd.prog nG fn.ref26_Ask [.agg ⟨C⟩, .string ⟨#[99, 111, 117, 110, 116, 101, 114, 115]⟩] h fun v' h' => Ans h h' [orN (rtS T.ctr 19)] v' := by
  refine SpecX.of_body (ir.ref26_Ask.spec (Nat.le_of_ble_eq_true rfl)) ?_
  have hp0 : Pre h (h ++ [.row .fix C]) := .app _ _
  have fx : Fx (h ++ [.row .fix C]) h.length C := Fx.here h C []
  simp (dsimp := false) only [↓ir.ref26_Ask.bw, ir.ref26_Ask.rs, go_sem, Nat.reduceAdd, Nat.reduceEqDiff, Nat.reduceMul, Nat.reduceLeDiff, Nat.reduceSub, Nat.reduceLT, ↓reduceIte, reduceCtorEq, List.reduceReplicate, List.flatten_cons, List.flatten_nil, List.append_nil, eq_self, Int.reduceLE, Int.reduceLT, Int.reduceToNat, Nat.min_eq_left, Int.reducePow, Int.reduceNeg, Int.reduceEq, q_counters_fib, q_counters_own, q_counters_live, q_counters_counters, q_counters_now, q_counters_boot, q_counters_dead]
  obtain ⟨hc, hl, ho⟩ := k.ctr
  simp (dsimp := false) only [go_sem, Nat.reduceAdd, Nat.reduceEqDiff, Nat.reduceMul, Nat.reduceLeDiff, Nat.reduceSub, Nat.reduceLT, ↓reduceIte, reduceCtorEq, List.reduceReplicate, List.flatten_cons, List.flatten_nil, List.append_nil, eq_self, Int.reduceLE, Int.reduceLT, Int.reduceToNat, Nat.min_eq_left, Int.reducePow, Int.reduceNeg, Int.reduceEq, k.len, hc]
  refine callV_of (rtext24_spec hl ho _) ?_
  simp (dsimp := false) only [go_sem, Nat.reduceAdd, Nat.reduceEqDiff, Nat.reduceMul, Nat.reduceLeDiff, Nat.reduceSub, Nat.reduceLT, ↓reduceIte, reduceCtorEq, List.reduceReplicate, List.flatten_cons, List.flatten_nil, List.append_nil, eq_self, Int.reduceLE, Int.reduceLT, Int.reduceToNat, Nat.min_eq_left, Int.reducePow, Int.reduceNeg, Int.reduceEq]
  refine cV (fun c => ?_) (fun c => ?_)
  · have e := (empty_iff _).1 c
    simp (dsimp := false) only [go_sem, Nat.reduceAdd, Nat.reduceEqDiff, Nat.reduceMul, Nat.reduceLeDiff, Nat.reduceSub, Nat.reduceLT, ↓reduceIte, reduceCtorEq, List.reduceReplicate, List.flatten_cons, List.flatten_nil, List.append_nil, eq_self, Int.reduceLE, Int.reduceLT, Int.reduceToNat, Nat.min_eq_left, Int.reducePow, Int.reduceNeg, Int.reduceEq]
    rw [orN, if_pos e]
    exact ans_one2 _ _ _
  · have e : ¬ rtS T.ctr 19 = ⟨#[]⟩ := fun e => by rw [(empty_iff _).2 e] at c; cases c
    simp (dsimp := false) only [go_sem, Nat.reduceAdd, Nat.reduceEqDiff, Nat.reduceMul, Nat.reduceLeDiff, Nat.reduceSub, Nat.reduceLT, ↓reduceIte, reduceCtorEq, List.reduceReplicate, List.flatten_cons, List.flatten_nil, List.append_nil, eq_self, Int.reduceLE, Int.reduceLT, Int.reduceToNat, Nat.min_eq_left, Int.reducePow, Int.reduceNeg, Int.reduceEq]
    rw [orN, if_neg e]
    exact ans_one2 _ _ _
theorem raq_now : SpecX Tryd.prog nG fn.ref26_Ask [.agg ⟨C⟩, .string ⟨#[110, 111, 119]⟩] h fun v' h' => Ans h h' [wholeS T.now] v' := by
  refine SpecX.of_body (ir.ref26_Ask.spec (Nat.le_of_ble_eq_true rfl)) ?_
  have hp0 : Pre h (h ++ [.row .fix C]) := .app _ _
  have fx : Fx (h ++ [.row .fix C]) h.length C := Fx.here h C []
  simp (dsimp := false) only [↓ir.ref26_Ask.bw, ir.ref26_Ask.rs, go_sem, Nat.reduceAdd, Nat.reduceEqDiff, Nat.reduceMul, Nat.reduceLeDiff, Nat.reduceSub, Nat.reduceLT, ↓reduceIte, reduceCtorEq, List.reduceReplicate, List.flatten_cons, List.flatten_nil, List.append_nil, eq_self, Int.reduceLE, Int.reduceLT, Int.reduceToNat, Nat.min_eq_left, Int.reducePow, Int.reduceNeg, Int.reduceEq, q_now_fib, q_now_own, q_now_live, q_now_counters, q_now_now, q_now_boot, q_now_dead]
  simp (dsimp := false) only [go_sem, Nat.reduceAdd, Nat.reduceEqDiff, Nat.reduceMul, Nat.reduceLeDiff, Nat.reduceSub, Nat.reduceLT, ↓reduceIte, reduceCtorEq, List.reduceReplicate, List.flatten_cons, List.flatten_nil, List.append_nil, eq_self, Int.reduceLE, Int.reduceLT, Int.reduceToNat, Nat.min_eq_left, Int.reducePow, Int.reduceNeg, Int.reduceEq, k.len, k.now.1]
  refine callV_of (rwhole_spec _ k.now.2) ?_
  simp (dsimp := false) only [go_sem, Nat.reduceAdd, Nat.reduceEqDiff, Nat.reduceMul, Nat.reduceLeDiff, Nat.reduceSub, Nat.reduceLT, ↓reduceIte, reduceCtorEq, List.reduceReplicate, List.flatten_cons, List.flatten_nil, List.append_nil, eq_self, Int.reduceLE, Int.reduceLT, Int.reduceToNat, Nat.min_eq_left, Int.reducePow, Int.reduceNeg, Int.reduceEq]
  exact ans_one2 _ _ _
theorem raq_boot : SpecX Tryd.prog nG fn.ref26_Ask [.agg ⟨C⟩, .string ⟨#[98, 111, 111, 116]⟩] h fun v' h' => Ans h h' [decS T.boot] v' := by
  refine SpecX.of_body (ir.ref26_Ask.spec (Nat.le_of_ble_eq_true rfl)) ?_
  have hp0 : Pre h (h ++ [.row .fix C]) := .app _ _
  have fx : Fx (h ++ [.row .fix C]) h.length C := Fx.here h C []
  simp (dsimp := false) only [↓ir.ref26_Ask.bw, ir.ref26_Ask.rs, go_sem, Nat.reduceAdd, Nat.reduceEqDiff, Nat.reduceMul, Nat.reduceLeDiff, Nat.reduceSub, Nat.reduceLT, ↓reduceIte, reduceCtorEq, List.reduceReplicate, List.flatten_cons, List.flatten_nil, List.append_nil, eq_self, Int.reduceLE, Int.reduceLT, Int.reduceToNat, Nat.min_eq_left, Int.reducePow, Int.reduceNeg, Int.reduceEq, q_boot_fib, q_boot_own, q_boot_live, q_boot_counters, q_boot_now, q_boot_boot, q_boot_dead]
  simp (dsimp := false) only [go_sem, Nat.reduceAdd, Nat.reduceEqDiff, Nat.reduceMul, Nat.reduceLeDiff, Nat.reduceSub, Nat.reduceLT, ↓reduceIte, reduceCtorEq, List.reduceReplicate, List.flatten_cons, List.flatten_nil, List.append_nil, eq_self, Int.reduceLE, Int.reduceLT, Int.reduceToNat, Nat.min_eq_left, Int.reducePow, Int.reduceNeg, Int.reduceEq, k.len, k.boot.1]
  refine callV_of (decimal_spec _ k.boot.2) ?_
  simp (dsimp := false) only [go_sem, Nat.reduceAdd, Nat.reduceEqDiff, Nat.reduceMul, Nat.reduceLeDiff, Nat.reduceSub, Nat.reduceLT, ↓reduceIte, reduceCtorEq, List.reduceReplicate, List.flatten_cons, List.flatten_nil, List.append_nil, eq_self, Int.reduceLE, Int.reduceLT, Int.reduceToNat, Nat.min_eq_left, Int.reducePow, Int.reduceNeg, Int.reduceEq]
  exact ans_one2 _ _ _
theorem raq_dead : SpecX Tryd.prog nG fn.ref26_Ask [.agg ⟨C⟩, .string ⟨#[100, 101, 97, 100]⟩] h fun v' h' => Ans h h' [wholeS T.dead] v' := by
  refine SpecX.of_body (ir.ref26_Ask.spec (Nat.le_of_ble_eq_true rfl)) ?_
  have hp0 : Pre h (h ++ [.row .fix C]) := .app _ _
  have fx : Fx (h ++ [.row .fix C]) h.length C := Fx.here h C []
  simp (dsimp := false) only [↓ir.ref26_Ask.bw, ir.ref26_Ask.rs, go_sem, Nat.reduceAdd, Nat.reduceEqDiff, Nat.reduceMul, Nat.reduceLeDiff, Nat.reduceSub, Nat.reduceLT, ↓reduceIte, reduceCtorEq, List.reduceReplicate, List.flatten_cons, List.flatten_nil, List.append_nil, eq_self, Int.reduceLE, Int.reduceLT, Int.reduceToNat, Nat.min_eq_left, Int.reducePow, Int.reduceNeg, Int.reduceEq, q_dead_fib, q_dead_own, q_dead_live, q_dead_counters, q_dead_now, q_dead_boot, q_dead_dead]
  simp (dsimp := false) only [go_sem, Nat.reduceAdd, Nat.reduceEqDiff, Nat.reduceMul, Nat.reduceLeDiff, Nat.reduceSub, Nat.reduceLT, ↓reduceIte, reduceCtorEq, List.reduceReplicate, List.flatten_cons, List.flatten_nil, List.append_nil, eq_self, Int.reduceLE, Int.reduceLT, Int.reduceToNat, Nat.min_eq_left, Int.reducePow, Int.reduceNeg, Int.reduceEq, k.len, k.dead.1]
  refine callV_of (rwhole_spec _ k.dead.2) ?_
  simp (dsimp := false) only [go_sem, Nat.reduceAdd, Nat.reduceEqDiff, Nat.reduceMul, Nat.reduceLeDiff, Nat.reduceSub, Nat.reduceLT, ↓reduceIte, reduceCtorEq, List.reduceReplicate, List.flatten_cons, List.flatten_nil, List.append_nil, eq_self, Int.reduceLE, Int.reduceLT, Int.reduceToNat, Nat.min_eq_left, Int.reducePow, Int.reduceNeg, Int.reduceEq]
  exact ans_one2 _ _ _
end
end Go.Proofs.YtoiihalnbdehkaaDoor.B
