/-
  Layer 34: an event's name and text.
-/
import Derived.Test.YtgndlhmjolaeiaaDoorV1
namespace Go.Proofs.YtgndlhmjolaeiaaDoor.B
open Go
set_option linter.unusedVariables false
set_option linter.unusedSimpArgs false
theorem size_mk (a : Array UInt8) : (ByteArray.mk a).size = a.size := rfl
/-- The names, by number. -/
def nameB : List ByteArray := [⟨#[]⟩, ⟨#[98, 101, 103, 97, 110]⟩, ⟨#[101, 110, 100, 101, 100]⟩, ⟨#[105, 115, 115, 117, 101, 100]⟩, ⟨#[109, 101, 116]⟩, ⟨#[108, 111, 115, 116]⟩, ⟨#[103, 97, 105, 110, 101, 100]⟩, ⟨#[109, 111, 118, 101, 100]⟩, ⟨#[100, 114, 111, 112, 112, 101, 100]⟩]
def nameS (n : Int) : ByteArray := if 0 ≤ n ∧ n ≤ 8 then nameB.getD n.toNat ⟨#[]⟩ else ⟨#[]⟩
theorem watchNames_eq : watchNames = nameB.map Value.string := rfl
theorem nameS_size (n : Int) : (nameS n).size ≤ 7 := by
  unfold nameS
  split
  · have : ∀ k, k < 9 → (nameB.getD k ⟨#[]⟩).size ≤ 7 := by decide
    exact this _ (by omega)
  · exact Nat.zero_le _
theorem name_at {n : Int} (h : 0 ≤ n ∧ n ≤ 8) : (watchNames.drop n.toNat).take 1 = [.string (nameS n)] := by
  unfold nameS
  rw [if_pos h]
  have : ∀ k, k < 9 → (watchNames.drop k).take 1 = [.string (nameB.getD k ⟨#[]⟩)] := by
    intro k hk
    match k, hk with
    | 0, _ | 1, _ | 2, _ | 3, _ | 4, _ | 5, _ | 6, _ | 7, _ | 8, _ => rfl
  exact this _ (by omega)
theorem wname_spec {h : AHeap} (k : WatchV h) (n : Int) : Spec Tryd.prog nG fn.watch_Name [.int .i64 n] h (.string (nameS n)) h := by
  apply ir.watch_Name.spec (Nat.le_of_ble_eq_true rfl)
  have r0 : 0 ≤ n ∧ n ≤ 8 → rds h 0 n.toNat 1 = some [.string (nameS n)] := fun hn => by
    have := k.names
    have hl : watchNames.length = 9 := rfl
    simp only [rds, gv.watch_names] at *
    rw [this]
    simp only
    rw [if_pos (by omega), name_at hn]
  simp (dsimp := false) only [↓ir.watch_Name.bw, ir.watch_Name.rs, ↓ir.watch_Name.r0.w, ↓ir.watch_Name.r1.w, ↓ir.watch_Name.r2.w, ↓ir.watch_Name.r3.w, ir.watch_Name.rs, go_sem, Nat.reduceAdd, Nat.reduceEqDiff, Nat.reduceMul, Nat.reduceLeDiff, Nat.reduceSub, Nat.reduceLT, ↓reduceIte, reduceCtorEq, List.reduceReplicate, List.flatten_cons, List.flatten_nil, List.append_nil, eq_self, Int.reduceLE, Int.reduceLT, Int.reduceToNat, Nat.min_eq_left, Int.reducePow, Int.reduceNeg, Int.reduceEq]
  refine gFd (fun c => ?_) (fun c => ?_)
  · simp (dsimp := false) only [↓ir.watch_Name.r0.w, ↓ir.watch_Name.r1.w, ↓ir.watch_Name.r2.w, ↓ir.watch_Name.r3.w, ir.watch_Name.rs, go_sem, Nat.reduceAdd, Nat.reduceEqDiff, Nat.reduceMul, Nat.reduceLeDiff, Nat.reduceSub, Nat.reduceLT, ↓reduceIte, reduceCtorEq, List.reduceReplicate, List.flatten_cons, List.flatten_nil, List.append_nil, eq_self, Int.reduceLE, Int.reduceLT, Int.reduceToNat, Nat.min_eq_left, Int.reducePow, Int.reduceNeg, Int.reduceEq]
    refine Fin.sc0 ?_
    unfold nameS; rw [if_neg (by omega)]
  · simp (dsimp := false) only [↓ir.watch_Name.r0.w, ↓ir.watch_Name.r1.w, ↓ir.watch_Name.r2.w, ↓ir.watch_Name.r3.w, ir.watch_Name.rs, go_sem, Nat.reduceAdd, Nat.reduceEqDiff, Nat.reduceMul, Nat.reduceLeDiff, Nat.reduceSub, Nat.reduceLT, ↓reduceIte, reduceCtorEq, List.reduceReplicate, List.flatten_cons, List.flatten_nil, List.append_nil, eq_self, Int.reduceLE, Int.reduceLT, Int.reduceToNat, Nat.min_eq_left, Int.reducePow, Int.reduceNeg, Int.reduceEq]
    refine cVd (fun c2 => ?_) (fun c2 => ?_)
    · simp (dsimp := false) only [↓ir.watch_Name.r0.w, ↓ir.watch_Name.r1.w, ↓ir.watch_Name.r2.w, ↓ir.watch_Name.r3.w, ir.watch_Name.rs, go_sem, Nat.reduceAdd, Nat.reduceEqDiff, Nat.reduceMul, Nat.reduceLeDiff, Nat.reduceSub, Nat.reduceLT, ↓reduceIte, reduceCtorEq, List.reduceReplicate, List.flatten_cons, List.flatten_nil, List.append_nil, eq_self, Int.reduceLE, Int.reduceLT, Int.reduceToNat, Nat.min_eq_left, Int.reducePow, Int.reduceNeg, Int.reduceEq]
      refine Fin.sc0 ?_
      unfold nameS; rw [if_neg (by omega)]
    · simp (dsimp := false) only [↓ir.watch_Name.r0.w, ↓ir.watch_Name.r1.w, ↓ir.watch_Name.r2.w, ↓ir.watch_Name.r3.w, ir.watch_Name.rs, go_sem, Nat.reduceAdd, Nat.reduceEqDiff, Nat.reduceMul, Nat.reduceLeDiff, Nat.reduceSub, Nat.reduceLT, ↓reduceIte, reduceCtorEq, List.reduceReplicate, List.flatten_cons, List.flatten_nil, List.append_nil, eq_self, Int.reduceLE, Int.reduceLT, Int.reduceToNat, Nat.min_eq_left, Int.reducePow, Int.reduceNeg, Int.reduceEq, ixaV_ptr, r0 (by omega), Nat.zero_add, Nat.mul_one]
      exact ⟨by omega, .inl ⟨rfl, rfl⟩⟩
theorem names_spec (h : AHeap) : Spec Tryd.prog nG fn.ref34_Names [] h (.slice (some ⟨h.length, 0, none⟩) 9 9) (h ++ [.row (.grow 1) watchNames]) := by
  apply ir.ref34_Names.spec (Nat.le_of_ble_eq_true rfl)
  simp (dsimp := false) only [↓ir.ref34_Names.bw, ir.ref34_Names.rs, ↓ir.ref34_Names.r0.w, ↓ir.ref34_Names.r1.w, ir.ref34_Names.rs, go_sem, Nat.reduceAdd, Nat.reduceEqDiff, Nat.reduceMul, Nat.reduceLeDiff, Nat.reduceSub, Nat.reduceLT, ↓reduceIte, reduceCtorEq, List.reduceReplicate, List.flatten_cons, List.flatten_nil, List.append_nil, eq_self, Int.reduceLE, Int.reduceLT, Int.reduceToNat, Nat.min_eq_left, Int.reducePow, Int.reduceNeg, Int.reduceEq]
  exact .inl ⟨rfl, rfl⟩
/-- A key's text. -/
def keyS (e s : Nat) (m : Int) : ByteArray := decS e ++ ⟨#[46]⟩ ++ decS s ++ ⟨#[47]⟩ ++ wholeS m
abbrev i64ok (m : Int) : Prop := -9223372036854775808 ≤ m ∧ m ≤ 9223372036854775807
theorem keyS_size {e s : Nat} {m : Int} (he : e < 4294967296) (hs : s < 4294967296) (hm : i64ok m) : (keyS e s m).size ≤ 63 := by
  have h1 := decS_size (u := e) (by omega)
  have h2 := decS_size (u := s) (by omega)
  have h3 := wholeS_size hm
  unfold keyS
  simp only [ByteArray.size_append, size_mk, List.size_toArray, List.length_cons, List.length_nil]
  omega
theorem rankText_spec {h : AHeap} (hg : PowV h) {e s : Nat} {m : Int} (he : e < 4294967296) (hs : s < 4294967296) (hm : i64ok m) : Spec Tryd.prog nG fn.rank_Text [.agg #[.int .u32 e, .int .u32 s, .int .i64 m]] h (.string (keyS e s m)) h := by
  apply ir.rank_Text.spec (Nat.le_of_ble_eq_true rfl)
  have h1 := decS_size (u := e) (by omega)
  have h2 := decS_size (u := s) (by omega)
  have h3 := wholeS_size hm
  have w1 := wrapU64 (show e < 18446744073709551616 by omega)
  have w2 := wrapU64 (show s < 18446744073709551616 by omega)
  have hg2 : ∀ g, PowV (h ++ g) := fun g => hg.pre (.app _ _)
  simp (dsimp := false) only [↓ir.rank_Text.bw, ir.rank_Text.rs, ↓ir.rank_Text.r0.w, ↓ir.rank_Text.r1.w, ir.rank_Text.rs, go_sem, Nat.reduceAdd, Nat.reduceEqDiff, Nat.reduceMul, Nat.reduceLeDiff, Nat.reduceSub, Nat.reduceLT, ↓reduceIte, reduceCtorEq, List.reduceReplicate, List.flatten_cons, List.flatten_nil, List.append_nil, eq_self, Int.reduceLE, Int.reduceLT, Int.reduceToNat, Nat.min_eq_left, Int.reducePow, Int.reduceNeg, Int.reduceEq, w1]
  refine callV_of (formatUint_spec (hg2 _) (by omega)) ?_
  simp (dsimp := false) only [↓ir.rank_Text.r0.w, ↓ir.rank_Text.r1.w, ir.rank_Text.rs, go_sem, Nat.reduceAdd, Nat.reduceEqDiff, Nat.reduceMul, Nat.reduceLeDiff, Nat.reduceSub, Nat.reduceLT, ↓reduceIte, reduceCtorEq, List.reduceReplicate, List.flatten_cons, List.flatten_nil, List.append_nil, eq_self, Int.reduceLE, Int.reduceLT, Int.reduceToNat, Nat.min_eq_left, Int.reducePow, Int.reduceNeg, Int.reduceEq, w2]
  refine ⟨by simp only [ByteArray.size_append, size_mk, List.size_toArray, List.length_cons, List.length_nil]; omega, ?_⟩
  refine callV_of (formatUint_spec (hg2 _) (by omega)) ?_
  simp (dsimp := false) only [↓ir.rank_Text.r0.w, ↓ir.rank_Text.r1.w, ir.rank_Text.rs, go_sem, Nat.reduceAdd, Nat.reduceEqDiff, Nat.reduceMul, Nat.reduceLeDiff, Nat.reduceSub, Nat.reduceLT, ↓reduceIte, reduceCtorEq, List.reduceReplicate, List.flatten_cons, List.flatten_nil, List.append_nil, eq_self, Int.reduceLE, Int.reduceLT, Int.reduceToNat, Nat.min_eq_left, Int.reducePow, Int.reduceNeg, Int.reduceEq]
  refine ⟨by simp only [ByteArray.size_append, size_mk, List.size_toArray, List.length_cons, List.length_nil]; omega, ?_⟩
  refine ⟨by simp only [ByteArray.size_append, size_mk, List.size_toArray, List.length_cons, List.length_nil]; omega, ?_⟩
  refine callV_of (itoa_spec (hg2 _) hm) ?_
  simp (dsimp := false) only [↓ir.rank_Text.r0.w, ↓ir.rank_Text.r1.w, ir.rank_Text.rs, go_sem, Nat.reduceAdd, Nat.reduceEqDiff, Nat.reduceMul, Nat.reduceLeDiff, Nat.reduceSub, Nat.reduceLT, ↓reduceIte, reduceCtorEq, List.reduceReplicate, List.flatten_cons, List.flatten_nil, List.append_nil, eq_self, Int.reduceLE, Int.reduceLT, Int.reduceToNat, Nat.min_eq_left, Int.reducePow, Int.reduceNeg, Int.reduceEq]
  refine ⟨by simp only [ByteArray.size_append, size_mk, List.size_toArray, List.length_cons, List.length_nil]; omega, ?_⟩
  exact Fin.sc rfl rfl
theorem rtext_spec (h : AHeap) {e s : Nat} {m : Int} (he : e < 4294967296) (hs : s < 4294967296) (hm : i64ok m) : Spec Tryd.prog nG fn.ref01_Text [.agg #[.int .u32 e, .int .u32 s, .int .i64 m]] h (.string (keyS e s m)) h := by
  apply ir.ref01_Text.spec (Nat.le_of_ble_eq_true rfl)
  have h1 := decS_size (u := e) (by omega)
  have h2 := decS_size (u := s) (by omega)
  have h3 := wholeS_size hm
  have w1 := wrapU64 (show e < 18446744073709551616 by omega)
  have w2 := wrapU64 (show s < 18446744073709551616 by omega)
  simp (dsimp := false) only [↓ir.ref01_Text.bw, ir.ref01_Text.rs, ↓ir.ref01_Text.r0.w, ↓ir.ref01_Text.r1.w, ir.ref01_Text.rs, go_sem, Nat.reduceAdd, Nat.reduceEqDiff, Nat.reduceMul, Nat.reduceLeDiff, Nat.reduceSub, Nat.reduceLT, ↓reduceIte, reduceCtorEq, List.reduceReplicate, List.flatten_cons, List.flatten_nil, List.append_nil, eq_self, Int.reduceLE, Int.reduceLT, Int.reduceToNat, Nat.min_eq_left, Int.reducePow, Int.reduceNeg, Int.reduceEq, w1]
  refine callV_of (decimal_spec _ (by omega)) ?_
  simp (dsimp := false) only [↓ir.ref01_Text.r0.w, ↓ir.ref01_Text.r1.w, ir.ref01_Text.rs, go_sem, Nat.reduceAdd, Nat.reduceEqDiff, Nat.reduceMul, Nat.reduceLeDiff, Nat.reduceSub, Nat.reduceLT, ↓reduceIte, reduceCtorEq, List.reduceReplicate, List.flatten_cons, List.flatten_nil, List.append_nil, eq_self, Int.reduceLE, Int.reduceLT, Int.reduceToNat, Nat.min_eq_left, Int.reducePow, Int.reduceNeg, Int.reduceEq, w2]
  refine ⟨by simp only [ByteArray.size_append, size_mk, List.size_toArray, List.length_cons, List.length_nil]; omega, ?_⟩
  refine callV_of (decimal_spec _ (by omega)) ?_
  simp (dsimp := false) only [↓ir.ref01_Text.r0.w, ↓ir.ref01_Text.r1.w, ir.ref01_Text.rs, go_sem, Nat.reduceAdd, Nat.reduceEqDiff, Nat.reduceMul, Nat.reduceLeDiff, Nat.reduceSub, Nat.reduceLT, ↓reduceIte, reduceCtorEq, List.reduceReplicate, List.flatten_cons, List.flatten_nil, List.append_nil, eq_self, Int.reduceLE, Int.reduceLT, Int.reduceToNat, Nat.min_eq_left, Int.reducePow, Int.reduceNeg, Int.reduceEq]
  refine ⟨by simp only [ByteArray.size_append, size_mk, List.size_toArray, List.length_cons, List.length_nil]; omega, ?_⟩
  refine ⟨by simp only [ByteArray.size_append, size_mk, List.size_toArray, List.length_cons, List.length_nil]; omega, ?_⟩
  refine callV_of (rwhole_spec _ hm) ?_
  simp (dsimp := false) only [↓ir.ref01_Text.r0.w, ↓ir.ref01_Text.r1.w, ir.ref01_Text.rs, go_sem, Nat.reduceAdd, Nat.reduceEqDiff, Nat.reduceMul, Nat.reduceLeDiff, Nat.reduceSub, Nat.reduceLT, ↓reduceIte, reduceCtorEq, List.reduceReplicate, List.flatten_cons, List.flatten_nil, List.append_nil, eq_self, Int.reduceLE, Int.reduceLT, Int.reduceToNat, Nat.min_eq_left, Int.reducePow, Int.reduceNeg, Int.reduceEq]
  refine ⟨by simp only [ByteArray.size_append, size_mk, List.size_toArray, List.length_cons, List.length_nil]; omega, ?_⟩
  exact Fin.sc rfl rfl
end Go.Proofs.YtgndlhmjolaeiaaDoor.B
