/-
  Layer 24: names, counters of names, and of errors.
-/
import Derived.Test.YtgndlhmjolaeiaaDoorC1
import Derived.Test.YtgndlhmjolaeiaaDoorAbZ
namespace Go.Proofs.YtgndlhmjolaeiaaDoor.B
open Go
set_option linter.unusedVariables false
set_option linter.unusedSimpArgs false
set_option maxRecDepth 100000
/-- The counters' names. -/
def countB : List ByteArray := [⟨#[102, 114, 97, 109, 101, 115]⟩, ⟨#[102, 111, 114, 109]⟩, ⟨#[115, 116, 114, 97, 110, 103, 101, 114, 115]⟩, ⟨#[116, 111, 108, 108, 115]⟩, ⟨#[116, 97, 103, 115]⟩, ⟨#[114, 101, 112, 108, 97, 121, 115]⟩, ⟨#[104, 101, 108, 108, 111, 115]⟩, ⟨#[117, 112, 100, 97, 116, 101, 115]⟩, ⟨#[101, 110, 116, 114, 105, 101, 115]⟩, ⟨#[115, 116, 97, 108, 101]⟩, ⟨#[114, 111, 111, 116, 108, 101, 115, 115]⟩, ⟨#[112, 114, 111, 111, 102, 115]⟩, ⟨#[104, 101, 108, 100]⟩, ⟨#[116, 97, 107, 101, 110]⟩, ⟨#[114, 101, 110, 101, 119, 97, 108, 115]⟩, ⟨#[115, 105, 103, 110, 115]⟩, ⟨#[112, 105, 101, 99, 101, 115]⟩, ⟨#[115, 101, 110, 116]⟩, ⟨#[98, 114, 111, 107, 101, 110]⟩]
abbrev countNames : List Value := countB.map Value.string
theorem countNames_eq : countNames = [.string ⟨#[102, 114, 97, 109, 101, 115]⟩, .string ⟨#[102, 111, 114, 109]⟩, .string ⟨#[115, 116, 114, 97, 110, 103, 101, 114, 115]⟩, .string ⟨#[116, 111, 108, 108, 115]⟩, .string ⟨#[116, 97, 103, 115]⟩, .string ⟨#[114, 101, 112, 108, 97, 121, 115]⟩, .string ⟨#[104, 101, 108, 108, 111, 115]⟩, .string ⟨#[117, 112, 100, 97, 116, 101, 115]⟩, .string ⟨#[101, 110, 116, 114, 105, 101, 115]⟩, .string ⟨#[115, 116, 97, 108, 101]⟩, .string ⟨#[114, 111, 111, 116, 108, 101, 115, 115]⟩, .string ⟨#[112, 114, 111, 111, 102, 115]⟩, .string ⟨#[104, 101, 108, 100]⟩, .string ⟨#[116, 97, 107, 101, 110]⟩, .string ⟨#[114, 101, 110, 101, 119, 97, 108, 115]⟩, .string ⟨#[115, 105, 103, 110, 115]⟩, .string ⟨#[112, 105, 101, 99, 101, 115]⟩, .string ⟨#[115, 101, 110, 116]⟩, .string ⟨#[98, 114, 111, 107, 101, 110]⟩] := rfl
def powRow : List Value := (List.range 20).map fun i => .int .u64 ((10 ^ i : Nat) : Int)
structure CountV (h : AHeap) : Prop where
  names : h[gv.count_names]? = some (.row .ro countNames)
  pow : h[gv.internal_strconv_uint64pow10]? = some (.row .ro powRow)
theorem get_pre {h h' : AHeap} (p : Pre h h') {b : Nat} {o : AObj} (k : h[b]? = some o) : h'[b]? = some o := by rw [p.get (List.getElem?_eq_some_iff.1 k).1]; exact k
theorem CountV.pre {h h' : AHeap} (p : Pre h h') (k : CountV h) : CountV h' := ⟨get_pre p k.names, get_pre p k.pow⟩
theorem CountV.powV {h : AHeap} (k : CountV h) : PowV h := by
  have := k.pow
  unfold PowV rds
  rw [this]; rfl
theorem countB_len : countB.length = 19 := rfl
theorem cname_spec {h : AHeap} (k : CountV h) (n : Int) : Spec Tryd.prog nG fn.count_Name [.int .i64 n] h (.string (nmS countB n)) h := by
  apply ir.count_Name.spec (Nat.le_of_ble_eq_true rfl)
  have hl := countB_len
  have r0 : 0 ≤ n ∧ n < 19 → rds h 1 n.toNat 1 = some [.string (nmS countB n)] := fun hn => nm_rds k.names (by omega)
  simp (dsimp := false) only [↓ir.count_Name.bw, ir.count_Name.rs, ↓ir.count_Name.r0.w, ↓ir.count_Name.r1.w, ↓ir.count_Name.r2.w, ↓ir.count_Name.r3.w, ir.count_Name.rs, go_sem, Nat.reduceAdd, Nat.reduceEqDiff, Nat.reduceMul, Nat.reduceLeDiff, Nat.reduceSub, Nat.reduceLT, ↓reduceIte, reduceCtorEq, List.reduceReplicate, List.flatten_cons, List.flatten_nil, List.append_nil, eq_self, Int.reduceLE, Int.reduceLT, Int.reduceToNat, Nat.min_eq_left, Int.reducePow, Int.reduceNeg, Int.reduceEq]
  refine gFd (fun c => ?_) (fun c => ?_)
  · simp (dsimp := false) only [↓ir.count_Name.r0.w, ↓ir.count_Name.r1.w, ↓ir.count_Name.r2.w, ↓ir.count_Name.r3.w, ir.count_Name.rs, go_sem, Nat.reduceAdd, Nat.reduceEqDiff, Nat.reduceMul, Nat.reduceLeDiff, Nat.reduceSub, Nat.reduceLT, ↓reduceIte, reduceCtorEq, List.reduceReplicate, List.flatten_cons, List.flatten_nil, List.append_nil, eq_self, Int.reduceLE, Int.reduceLT, Int.reduceToNat, Nat.min_eq_left, Int.reducePow, Int.reduceNeg, Int.reduceEq]
    exact Fin.sc0 (by rw [nmS_out (by omega)])
  · simp (dsimp := false) only [↓ir.count_Name.r0.w, ↓ir.count_Name.r1.w, ↓ir.count_Name.r2.w, ↓ir.count_Name.r3.w, ir.count_Name.rs, go_sem, Nat.reduceAdd, Nat.reduceEqDiff, Nat.reduceMul, Nat.reduceLeDiff, Nat.reduceSub, Nat.reduceLT, ↓reduceIte, reduceCtorEq, List.reduceReplicate, List.flatten_cons, List.flatten_nil, List.append_nil, eq_self, Int.reduceLE, Int.reduceLT, Int.reduceToNat, Nat.min_eq_left, Int.reducePow, Int.reduceNeg, Int.reduceEq]
    refine cVd (fun c2 => ?_) (fun c2 => ?_)
    · simp (dsimp := false) only [↓ir.count_Name.r0.w, ↓ir.count_Name.r1.w, ↓ir.count_Name.r2.w, ↓ir.count_Name.r3.w, ir.count_Name.rs, go_sem, Nat.reduceAdd, Nat.reduceEqDiff, Nat.reduceMul, Nat.reduceLeDiff, Nat.reduceSub, Nat.reduceLT, ↓reduceIte, reduceCtorEq, List.reduceReplicate, List.flatten_cons, List.flatten_nil, List.append_nil, eq_self, Int.reduceLE, Int.reduceLT, Int.reduceToNat, Nat.min_eq_left, Int.reducePow, Int.reduceNeg, Int.reduceEq]
      exact Fin.sc0 (by rw [nmS_out (by omega)])
    · simp (dsimp := false) only [↓ir.count_Name.r0.w, ↓ir.count_Name.r1.w, ↓ir.count_Name.r2.w, ↓ir.count_Name.r3.w, ir.count_Name.rs, go_sem, Nat.reduceAdd, Nat.reduceEqDiff, Nat.reduceMul, Nat.reduceLeDiff, Nat.reduceSub, Nat.reduceLT, ↓reduceIte, reduceCtorEq, List.reduceReplicate, List.flatten_cons, List.flatten_nil, List.append_nil, eq_self, Int.reduceLE, Int.reduceLT, Int.reduceToNat, Nat.min_eq_left, Int.reducePow, Int.reduceNeg, Int.reduceEq, ixaV_ptr, r0 (by omega), Nat.zero_add, Nat.mul_one]
      exact ⟨by omega, .inl ⟨rfl, rfl⟩⟩
theorem rnames24_spec (h : AHeap) : Spec Tryd.prog nG fn.ref24_Names [] h (.slice (some ⟨h.length, 0, none⟩) 19 19) (h ++ [.row (.grow 1) countNames]) := by
  apply ir.ref24_Names.spec (Nat.le_of_ble_eq_true rfl)
  rw [countNames_eq]
  simp (dsimp := false) only [↓ir.ref24_Names.bw, ir.ref24_Names.rs, go_sem, Nat.reduceAdd, Nat.reduceEqDiff, Nat.reduceMul, Nat.reduceLeDiff, Nat.reduceSub, Nat.reduceLT, ↓reduceIte, reduceCtorEq, List.reduceReplicate, List.flatten_cons, List.flatten_nil, List.append_nil, eq_self, Int.reduceLE, Int.reduceLT, Int.reduceToNat, Nat.min_eq_left, Int.reducePow, Int.reduceNeg, Int.reduceEq]
  exact .inl ⟨rfl, rfl⟩
theorem rname24_spec (h : AHeap) (n : Int) : Spec Tryd.prog nG fn.ref24_Name [.int .i64 n] h (.string (nmS countB n)) h := by
  apply ir.ref24_Name.spec (Nat.le_of_ble_eq_true rfl)
  have hl := countB_len
  have r0 : 0 ≤ n ∧ n < 19 → rds (h ++ [.row (.grow 1) countNames]) h.length n.toNat 1 = some [.string (nmS countB n)] := fun hn => nm_rds (m := .grow 1) (by simp) (by omega)
  simp (dsimp := false) only [↓ir.ref24_Name.bw, ir.ref24_Name.rs, ↓ir.ref24_Name.r0.w, ↓ir.ref24_Name.r1.w, ↓ir.ref24_Name.r2.w, ↓ir.ref24_Name.r3.w, ir.ref24_Name.rs, go_sem, Nat.reduceAdd, Nat.reduceEqDiff, Nat.reduceMul, Nat.reduceLeDiff, Nat.reduceSub, Nat.reduceLT, ↓reduceIte, reduceCtorEq, List.reduceReplicate, List.flatten_cons, List.flatten_nil, List.append_nil, eq_self, Int.reduceLE, Int.reduceLT, Int.reduceToNat, Nat.min_eq_left, Int.reducePow, Int.reduceNeg, Int.reduceEq]
  refine gFd (fun c => ?_) (fun c => ?_)
  · simp (dsimp := false) only [↓ir.ref24_Name.r0.w, ↓ir.ref24_Name.r1.w, ↓ir.ref24_Name.r2.w, ↓ir.ref24_Name.r3.w, ir.ref24_Name.rs, go_sem, Nat.reduceAdd, Nat.reduceEqDiff, Nat.reduceMul, Nat.reduceLeDiff, Nat.reduceSub, Nat.reduceLT, ↓reduceIte, reduceCtorEq, List.reduceReplicate, List.flatten_cons, List.flatten_nil, List.append_nil, eq_self, Int.reduceLE, Int.reduceLT, Int.reduceToNat, Nat.min_eq_left, Int.reducePow, Int.reduceNeg, Int.reduceEq]
    exact Fin.sc0 (by rw [nmS_out (by omega)])
  · simp (dsimp := false) only [↓ir.ref24_Name.r0.w, ↓ir.ref24_Name.r1.w, ↓ir.ref24_Name.r2.w, ↓ir.ref24_Name.r3.w, ir.ref24_Name.rs, go_sem, Nat.reduceAdd, Nat.reduceEqDiff, Nat.reduceMul, Nat.reduceLeDiff, Nat.reduceSub, Nat.reduceLT, ↓reduceIte, reduceCtorEq, List.reduceReplicate, List.flatten_cons, List.flatten_nil, List.append_nil, eq_self, Int.reduceLE, Int.reduceLT, Int.reduceToNat, Nat.min_eq_left, Int.reducePow, Int.reduceNeg, Int.reduceEq]
    refine cVd (fun c2 => ?_) (fun c2 => ?_)
    · simp (dsimp := false) only [↓ir.ref24_Name.r0.w, ↓ir.ref24_Name.r1.w, ↓ir.ref24_Name.r2.w, ↓ir.ref24_Name.r3.w, ir.ref24_Name.rs, go_sem, Nat.reduceAdd, Nat.reduceEqDiff, Nat.reduceMul, Nat.reduceLeDiff, Nat.reduceSub, Nat.reduceLT, ↓reduceIte, reduceCtorEq, List.reduceReplicate, List.flatten_cons, List.flatten_nil, List.append_nil, eq_self, Int.reduceLE, Int.reduceLT, Int.reduceToNat, Nat.min_eq_left, Int.reducePow, Int.reduceNeg, Int.reduceEq]
      exact Fin.sc0 (by rw [nmS_out (by omega)])
    · simp (dsimp := false) only [↓ir.ref24_Name.r0.w, ↓ir.ref24_Name.r1.w, ↓ir.ref24_Name.r2.w, ↓ir.ref24_Name.r3.w, ir.ref24_Name.rs, go_sem, Nat.reduceAdd, Nat.reduceEqDiff, Nat.reduceMul, Nat.reduceLeDiff, Nat.reduceSub, Nat.reduceLT, ↓reduceIte, reduceCtorEq, List.reduceReplicate, List.flatten_cons, List.flatten_nil, List.append_nil, eq_self, Int.reduceLE, Int.reduceLT, Int.reduceToNat, Nat.min_eq_left, Int.reducePow, Int.reduceNeg, Int.reduceEq]
      refine callV_of (rnames24_spec _) ?_
      simp (dsimp := false) only [↓ir.ref24_Name.r0.w, ↓ir.ref24_Name.r1.w, ↓ir.ref24_Name.r2.w, ↓ir.ref24_Name.r3.w, ir.ref24_Name.rs, go_sem, Nat.reduceAdd, Nat.reduceEqDiff, Nat.reduceMul, Nat.reduceLeDiff, Nat.reduceSub, Nat.reduceLT, ↓reduceIte, reduceCtorEq, List.reduceReplicate, List.flatten_cons, List.flatten_nil, List.append_nil, eq_self, Int.reduceLE, Int.reduceLT, Int.reduceToNat, Nat.min_eq_left, Int.reducePow, Int.reduceNeg, Int.reduceEq, ixsV_slice, r0 (by omega), Nat.zero_add, Nat.mul_one]
      exact ⟨by omega, Fin.sc rfl rfl⟩
/-- The counter of a name. -/
def whF (s : ByteArray) : Int := match countB.findIdx? (fun x => x.toList == s.toList) with
  | some i => (i : Int)
  | none => -1
theorem whF_some {s : ByteArray} {i : Nat} (hi : i < 19) (h1 : ((countB.getD i ⟨#[]⟩).toList == s.toList) = true) (h2 : ∀ j, j < i → ((countB.getD j ⟨#[]⟩).toList == s.toList) = false) : whF s = i := by
  have hl := countB_len
  have hg : ∀ j (hj : j < countB.length), countB.getD j ⟨#[]⟩ = countB[j] := fun j hj => by rw [List.getD_eq_getElem?_getD, List.getElem?_eq_getElem hj]; rfl
  have : countB.findIdx? (fun x => x.toList == s.toList) = some i := by
    rw [List.findIdx?_eq_some_iff_getElem]
    refine ⟨by omega, by rw [← hg i (by omega)]; exact h1, fun j hj => ?_⟩
    rw [← hg j (by omega), h2 j hj]; simp
  unfold whF; rw [this]
theorem whF_none {s : ByteArray} (h2 : ∀ j, j < 19 → ((countB.getD j ⟨#[]⟩).toList == s.toList) = false) : whF s = -1 := by
  have hl := countB_len
  have : countB.findIdx? (fun x => x.toList == s.toList) = none := by
    rw [List.findIdx?_eq_none_iff]
    intro x hx
    obtain ⟨j, hj, rfl⟩ := List.getElem_of_mem hx
    have := h2 j (by omega)
    rwa [List.getD_eq_getElem?_getD, List.getElem?_eq_getElem hj] at this
  unfold whF; rw [this]
theorem cwhich_spec {h : AHeap} (k : CountV h) (s : ByteArray) : Spec Tryd.prog nG fn.count_Which [.string s] h (.int .i64 (whF s)) h := by
  apply ir.count_Which.spec (Nat.le_of_ble_eq_true rfl)
  have hl := countB_len
  have r0 : rds h 1 0 19 = some countNames := by have := k.names; simp only [rds, show h[1]? = _ from this]; rfl
  simp (dsimp := false) only [↓ir.count_Which.bw, ir.count_Which.rs, ↓ir.count_Which.r0.w, ↓ir.count_Which.r1.w, ↓ir.count_Which.r2.w, ↓ir.count_Which.r3.w, ↓ir.count_Which.r4.w, ↓ir.count_Which.r5.w, ↓ir.count_Which.r6.w, ↓ir.count_Which.l1.w, ↓ir.count_Which.r7.w, ir.count_Which.rs, go_sem, Nat.reduceAdd, Nat.reduceEqDiff, Nat.reduceMul, Nat.reduceLeDiff, Nat.reduceSub, Nat.reduceLT, ↓reduceIte, reduceCtorEq, List.reduceReplicate, List.flatten_cons, List.flatten_nil, List.append_nil, eq_self, Int.reduceLE, Int.reduceLT, Int.reduceToNat, Nat.min_eq_left, Int.reducePow, Int.reduceNeg, Int.reduceEq, r0, aggOf_true]
  refine loopV_of (fun m e h2 => ∃ (i : Nat), m = 19 - i ∧ i ≤ 19 ∧ h2 = h ∧ (∀ j, j < i → ((countB.getD j ⟨#[]⟩).toList == s.toList) = false) ∧ e = [(0, .string s), (5, .agg ⟨countNames⟩), (6, .int .i64 i)]) _ ⟨0, rfl, Nat.zero_le _, rfl, fun j hj => absurd hj (Nat.not_lt_zero _), rfl⟩ ?_
  rintro m e h2 ⟨i, rfl, hi, rfl, hno, rfl⟩
  rcases Nat.lt_or_ge i 19 with hlt | hge
  · have hd : decide ((i : Int) < 19) = true := by simpa using (by omega : (i : Int) < 19)
    have hat : (countNames.drop (i * 1)).take 1 = [.string (countB.getD i ⟨#[]⟩)] := by rw [Nat.mul_one]; exact strs_at (by omega)
    simp (dsimp := false) only [↓ir.count_Which.l1.bw, ↓ir.count_Which.r0.w, ↓ir.count_Which.r1.w, ↓ir.count_Which.r2.w, ↓ir.count_Which.r3.w, ↓ir.count_Which.r4.w, ↓ir.count_Which.r5.w, ↓ir.count_Which.r6.w, ↓ir.count_Which.l1.w, ↓ir.count_Which.r7.w, ir.count_Which.rs, go_sem, Nat.reduceAdd, Nat.reduceEqDiff, Nat.reduceMul, Nat.reduceLeDiff, Nat.reduceSub, Nat.reduceLT, ↓reduceIte, reduceCtorEq, List.reduceReplicate, List.flatten_cons, List.flatten_nil, List.append_nil, eq_self, Int.reduceLE, Int.reduceLT, Int.reduceToNat, Nat.min_eq_left, Int.reducePow, Int.reduceNeg, Int.reduceEq, hd, ixvV_agg, Int.toNat_natCast, hat]
    refine ⟨by omega, by simp [hl]; omega, ?_⟩
    refine cV (fun c => ?_) (fun c => ?_)
    · simp (dsimp := false) only [↓ir.count_Which.r0.w, ↓ir.count_Which.r1.w, ↓ir.count_Which.r2.w, ↓ir.count_Which.r3.w, ↓ir.count_Which.r4.w, ↓ir.count_Which.r5.w, ↓ir.count_Which.r6.w, ↓ir.count_Which.l1.w, ↓ir.count_Which.r7.w, ir.count_Which.rs, go_sem, Nat.reduceAdd, Nat.reduceEqDiff, Nat.reduceMul, Nat.reduceLeDiff, Nat.reduceSub, Nat.reduceLT, ↓reduceIte, reduceCtorEq, List.reduceReplicate, List.flatten_cons, List.flatten_nil, List.append_nil, eq_self, Int.reduceLE, Int.reduceLT, Int.reduceToNat, Nat.min_eq_left, Int.reducePow, Int.reduceNeg, Int.reduceEq]
      exact .inl ⟨by rw [whF_some hlt c hno], rfl⟩
    · simp (dsimp := false) only [↓ir.count_Which.r0.w, ↓ir.count_Which.r1.w, ↓ir.count_Which.r2.w, ↓ir.count_Which.r3.w, ↓ir.count_Which.r4.w, ↓ir.count_Which.r5.w, ↓ir.count_Which.r6.w, ↓ir.count_Which.l1.w, ↓ir.count_Which.r7.w, ir.count_Which.rs, go_sem, Nat.reduceAdd, Nat.reduceEqDiff, Nat.reduceMul, Nat.reduceLeDiff, Nat.reduceSub, Nat.reduceLT, ↓reduceIte, reduceCtorEq, List.reduceReplicate, List.flatten_cons, List.flatten_nil, List.append_nil, eq_self, Int.reduceLE, Int.reduceLT, Int.reduceToNat, Nat.min_eq_left, Int.reducePow, Int.reduceNeg, Int.reduceEq, wrap_succ hlt (by simp [maxI])]
      refine ⟨_, by omega, i + 1, rfl, by omega, fun j hj => ?_, rfl⟩
      rcases Nat.lt_or_ge j i with q | q
      · exact hno j q
      · obtain rfl : j = i := by omega
        simpa using c
  · have hd : decide ((i : Int) < 19) = false := by simpa using (by omega : ¬ (i : Int) < 19)
    simp (dsimp := false) only [↓ir.count_Which.l1.bw, ↓ir.count_Which.r0.w, ↓ir.count_Which.r1.w, ↓ir.count_Which.r2.w, ↓ir.count_Which.r3.w, ↓ir.count_Which.r4.w, ↓ir.count_Which.r5.w, ↓ir.count_Which.r6.w, ↓ir.count_Which.l1.w, ↓ir.count_Which.r7.w, ir.count_Which.rs, go_sem, Nat.reduceAdd, Nat.reduceEqDiff, Nat.reduceMul, Nat.reduceLeDiff, Nat.reduceSub, Nat.reduceLT, ↓reduceIte, reduceCtorEq, List.reduceReplicate, List.flatten_cons, List.flatten_nil, List.append_nil, eq_self, Int.reduceLE, Int.reduceLT, Int.reduceToNat, Nat.min_eq_left, Int.reducePow, Int.reduceNeg, Int.reduceEq, hd]
    exact .inl ⟨by rw [whF_none fun j hj => hno j (by omega)], rfl⟩
theorem rwhich_spec (h : AHeap) (s : ByteArray) : Spec Tryd.prog nG fn.ref24_Which [.string s] h (.int .i64 (whF s)) h := by
  refine Spec.drop (h2 := h ++ [.row (.grow 1) countNames]) ?_ (.app _ _) rfl
  apply ir.ref24_Which.spec (Nat.le_of_ble_eq_true rfl)
  have hl := countB_len
  simp (dsimp := false) only [↓ir.ref24_Which.bw, ir.ref24_Which.rs, ↓ir.ref24_Which.r0.w, ↓ir.ref24_Which.r1.w, ↓ir.ref24_Which.r2.w, ↓ir.ref24_Which.r3.w, ↓ir.ref24_Which.r5.w, ↓ir.ref24_Which.r6.w, ↓ir.ref24_Which.r4.w, ↓ir.ref24_Which.l1.w, ↓ir.ref24_Which.r7.w, ir.ref24_Which.rs, go_sem, Nat.reduceAdd, Nat.reduceEqDiff, Nat.reduceMul, Nat.reduceLeDiff, Nat.reduceSub, Nat.reduceLT, ↓reduceIte, reduceCtorEq, List.reduceReplicate, List.flatten_cons, List.flatten_nil, List.append_nil, eq_self, Int.reduceLE, Int.reduceLT, Int.reduceToNat, Nat.min_eq_left, Int.reducePow, Int.reduceNeg, Int.reduceEq]
  refine callV_of (rnames24_spec _) ?_
  generalize hg : h ++ [AObj.row (.grow 1) countNames] = h1
  have hrow : h1[h.length]? = some (.row (.grow 1) countNames) := by rw [← hg]; simp
  simp (dsimp := false) only [↓ir.ref24_Which.r0.w, ↓ir.ref24_Which.r1.w, ↓ir.ref24_Which.r2.w, ↓ir.ref24_Which.r3.w, ↓ir.ref24_Which.r5.w, ↓ir.ref24_Which.r6.w, ↓ir.ref24_Which.r4.w, ↓ir.ref24_Which.l1.w, ↓ir.ref24_Which.r7.w, ir.ref24_Which.rs, go_sem, Nat.reduceAdd, Nat.reduceEqDiff, Nat.reduceMul, Nat.reduceLeDiff, Nat.reduceSub, Nat.reduceLT, ↓reduceIte, reduceCtorEq, List.reduceReplicate, List.flatten_cons, List.flatten_nil, List.append_nil, eq_self, Int.reduceLE, Int.reduceLT, Int.reduceToNat, Nat.min_eq_left, Int.reducePow, Int.reduceNeg, Int.reduceEq]
  refine loopV_of (fun m e h2 => ∃ (i : Nat), m = 19 - i ∧ i ≤ 19 ∧ h2 = h1 ∧ (∀ j, j < i → ((countB.getD j ⟨#[]⟩).toList == s.toList) = false) ∧ e = [(0, .string s), (3, .slice (some ⟨h.length, 0, none⟩) 19 19), (4, .int .i64 i)]) _ ⟨0, rfl, Nat.zero_le _, rfl, fun j hj => absurd hj (Nat.not_lt_zero _), rfl⟩ ?_
  rintro m e h2 ⟨i, rfl, hi, rfl, hno, rfl⟩
  rcases Nat.lt_or_ge i 19 with hlt | hge
  · have hd : decide ((i : Int) < 19) = true := by simpa using (by omega : (i : Int) < 19)
    have hat : rds h2 h.length i 1 = some [.string (countB.getD i ⟨#[]⟩)] := by
      simp only [rds, hrow, List.length_map]
      rw [if_pos (by omega), strs_at (by omega)]
    simp (dsimp := false) only [↓ir.ref24_Which.l1.bw, ↓ir.ref24_Which.r0.w, ↓ir.ref24_Which.r1.w, ↓ir.ref24_Which.r2.w, ↓ir.ref24_Which.r3.w, ↓ir.ref24_Which.r5.w, ↓ir.ref24_Which.r6.w, ↓ir.ref24_Which.r4.w, ↓ir.ref24_Which.l1.w, ↓ir.ref24_Which.r7.w, ir.ref24_Which.rs, go_sem, Nat.reduceAdd, Nat.reduceEqDiff, Nat.reduceMul, Nat.reduceLeDiff, Nat.reduceSub, Nat.reduceLT, ↓reduceIte, reduceCtorEq, List.reduceReplicate, List.flatten_cons, List.flatten_nil, List.append_nil, eq_self, Int.reduceLE, Int.reduceLT, Int.reduceToNat, Nat.min_eq_left, Int.reducePow, Int.reduceNeg, Int.reduceEq, hd, ixsV_slice, Int.toNat_natCast, Nat.mul_one, Nat.zero_add, hat]
    refine ⟨by omega, ?_⟩
    refine cV (fun c => ?_) (fun c => ?_)
    · simp (dsimp := false) only [↓ir.ref24_Which.r0.w, ↓ir.ref24_Which.r1.w, ↓ir.ref24_Which.r2.w, ↓ir.ref24_Which.r3.w, ↓ir.ref24_Which.r5.w, ↓ir.ref24_Which.r6.w, ↓ir.ref24_Which.r4.w, ↓ir.ref24_Which.l1.w, ↓ir.ref24_Which.r7.w, ir.ref24_Which.rs, go_sem, Nat.reduceAdd, Nat.reduceEqDiff, Nat.reduceMul, Nat.reduceLeDiff, Nat.reduceSub, Nat.reduceLT, ↓reduceIte, reduceCtorEq, List.reduceReplicate, List.flatten_cons, List.flatten_nil, List.append_nil, eq_self, Int.reduceLE, Int.reduceLT, Int.reduceToNat, Nat.min_eq_left, Int.reducePow, Int.reduceNeg, Int.reduceEq]
      exact .inl ⟨by rw [whF_some hlt c hno], rfl⟩
    · simp (dsimp := false) only [↓ir.ref24_Which.r0.w, ↓ir.ref24_Which.r1.w, ↓ir.ref24_Which.r2.w, ↓ir.ref24_Which.r3.w, ↓ir.ref24_Which.r5.w, ↓ir.ref24_Which.r6.w, ↓ir.ref24_Which.r4.w, ↓ir.ref24_Which.l1.w, ↓ir.ref24_Which.r7.w, ir.ref24_Which.rs, go_sem, Nat.reduceAdd, Nat.reduceEqDiff, Nat.reduceMul, Nat.reduceLeDiff, Nat.reduceSub, Nat.reduceLT, ↓reduceIte, reduceCtorEq, List.reduceReplicate, List.flatten_cons, List.flatten_nil, List.append_nil, eq_self, Int.reduceLE, Int.reduceLT, Int.reduceToNat, Nat.min_eq_left, Int.reducePow, Int.reduceNeg, Int.reduceEq, wrap_succ hlt (by simp [maxI])]
      refine ⟨_, by omega, i + 1, rfl, by omega, fun j hj => ?_, rfl⟩
      rcases Nat.lt_or_ge j i with q | q
      · exact hno j q
      · obtain rfl : j = i := by omega
        simpa using c
  · have hd : decide ((i : Int) < 19) = false := by simpa using (by omega : ¬ (i : Int) < 19)
    simp (dsimp := false) only [↓ir.ref24_Which.l1.bw, ↓ir.ref24_Which.r0.w, ↓ir.ref24_Which.r1.w, ↓ir.ref24_Which.r2.w, ↓ir.ref24_Which.r3.w, ↓ir.ref24_Which.r5.w, ↓ir.ref24_Which.r6.w, ↓ir.ref24_Which.r4.w, ↓ir.ref24_Which.l1.w, ↓ir.ref24_Which.r7.w, ir.ref24_Which.rs, go_sem, Nat.reduceAdd, Nat.reduceEqDiff, Nat.reduceMul, Nat.reduceLeDiff, Nat.reduceSub, Nat.reduceLT, ↓reduceIte, reduceCtorEq, List.reduceReplicate, List.flatten_cons, List.flatten_nil, List.append_nil, eq_self, Int.reduceLE, Int.reduceLT, Int.reduceToNat, Nat.min_eq_left, Int.reducePow, Int.reduceNeg, Int.reduceEq, hd]
    exact .inl ⟨by rw [whF_none fun j hj => hno j (by omega)], rfl⟩
/-- The counter of an error. -/
def ofI (n : Int) : Int := if n = 10 then 1 else if n = 9 then 1 else if n = 8 then 1 else if n = 1 then 1 else if n = 7 then 1 else if n = 29 then 2 else if n = 26 then 3 else if n = 24 then 4 else if n = 25 then 5 else if n = 27 then 9 else if n = 3 then 9
  else if n = 22 then 11 else if n = 28 then 12 else if n = 23 then 15 else if n = 6 then 10 else -1
theorem cof_spec (h : AHeap) (n : Int) : Spec Tryd.prog nG fn.count_Of [.int .i64 n] h (.int .i64 (ofI n)) h := by
  apply ir.count_Of.spec (Nat.le_of_ble_eq_true rfl)
  simp (dsimp := false) only [↓ir.count_Of.bw, ir.count_Of.rs, ↓ir.count_Of.r0.w, ↓ir.count_Of.r1.w, ↓ir.count_Of.r2.w, ↓ir.count_Of.r3.w, ↓ir.count_Of.r4.w, ↓ir.count_Of.r5.w, ↓ir.count_Of.r6.w, ↓ir.count_Of.r7.w, ↓ir.count_Of.r8.w, ↓ir.count_Of.r9.w, ↓ir.count_Of.r10.w, ↓ir.count_Of.r11.w, ↓ir.count_Of.r12.w, ↓ir.count_Of.r13.w, ↓ir.count_Of.r14.w, ↓ir.count_Of.r15.w, ↓ir.count_Of.r16.w, ↓ir.count_Of.r17.w, ↓ir.count_Of.r18.w, ↓ir.count_Of.r19.w, ↓ir.count_Of.r20.w, ↓ir.count_Of.r21.w, ↓ir.count_Of.r22.w, ↓ir.count_Of.r23.w, ↓ir.count_Of.r24.w, ↓ir.count_Of.r25.w, ↓ir.count_Of.r26.w, ↓ir.count_Of.r27.w, ir.count_Of.rs, go_sem, Nat.reduceAdd, Nat.reduceEqDiff, Nat.reduceMul, Nat.reduceLeDiff, Nat.reduceSub, Nat.reduceLT, ↓reduceIte, reduceCtorEq, List.reduceReplicate, List.flatten_cons, List.flatten_nil, List.append_nil, eq_self, Int.reduceLE, Int.reduceLT, Int.reduceToNat, Nat.min_eq_left, Int.reducePow, Int.reduceNeg, Int.reduceEq]
  repeat' (first | ((first | refine cVd (fun hc => ?_) (fun hc => ?_) | refine gTd (fun hc => ?_) (fun hc => ?_) | refine gFd (fun hc => ?_) (fun hc => ?_) | refine cVe (fun hc => ?_) (fun hc => ?_) | refine gTe (fun hc => ?_) (fun hc => ?_) | refine gFe (fun hc => ?_) (fun hc => ?_) | refine cVn (fun hc => ?_) (fun hc => ?_) | refine gTn (fun hc => ?_) (fun hc => ?_) | refine gFn (fun hc => ?_) (fun hc => ?_) | refine cV (fun hc => ?_) (fun hc => ?_) | refine gT (fun hc => ?_) (fun hc => ?_) | refine gF (fun hc => ?_) (fun hc => ?_)) <;> try simp (dsimp := false) only [↓ir.count_Of.r0.w, ↓ir.count_Of.r1.w, ↓ir.count_Of.r2.w, ↓ir.count_Of.r3.w, ↓ir.count_Of.r4.w, ↓ir.count_Of.r5.w, ↓ir.count_Of.r6.w, ↓ir.count_Of.r7.w, ↓ir.count_Of.r8.w, ↓ir.count_Of.r9.w, ↓ir.count_Of.r10.w, ↓ir.count_Of.r11.w, ↓ir.count_Of.r12.w, ↓ir.count_Of.r13.w, ↓ir.count_Of.r14.w, ↓ir.count_Of.r15.w, ↓ir.count_Of.r16.w, ↓ir.count_Of.r17.w, ↓ir.count_Of.r18.w, ↓ir.count_Of.r19.w, ↓ir.count_Of.r20.w, ↓ir.count_Of.r21.w, ↓ir.count_Of.r22.w, ↓ir.count_Of.r23.w, ↓ir.count_Of.r24.w, ↓ir.count_Of.r25.w, ↓ir.count_Of.r26.w, ↓ir.count_Of.r27.w, ir.count_Of.rs, go_sem, Nat.reduceAdd, Nat.reduceEqDiff, Nat.reduceMul, Nat.reduceLeDiff, Nat.reduceSub, Nat.reduceLT, ↓reduceIte, reduceCtorEq, List.reduceReplicate, List.flatten_cons, List.flatten_nil, List.append_nil, eq_self, Int.reduceLE, Int.reduceLT, Int.reduceToNat, Nat.min_eq_left, Int.reducePow, Int.reduceNeg, Int.reduceEq]) | (with_reducible refine And.intro (by omega) ?_ <;> try simp (dsimp := false) only [↓ir.count_Of.r0.w, ↓ir.count_Of.r1.w, ↓ir.count_Of.r2.w, ↓ir.count_Of.r3.w, ↓ir.count_Of.r4.w, ↓ir.count_Of.r5.w, ↓ir.count_Of.r6.w, ↓ir.count_Of.r7.w, ↓ir.count_Of.r8.w, ↓ir.count_Of.r9.w, ↓ir.count_Of.r10.w, ↓ir.count_Of.r11.w, ↓ir.count_Of.r12.w, ↓ir.count_Of.r13.w, ↓ir.count_Of.r14.w, ↓ir.count_Of.r15.w, ↓ir.count_Of.r16.w, ↓ir.count_Of.r17.w, ↓ir.count_Of.r18.w, ↓ir.count_Of.r19.w, ↓ir.count_Of.r20.w, ↓ir.count_Of.r21.w, ↓ir.count_Of.r22.w, ↓ir.count_Of.r23.w, ↓ir.count_Of.r24.w, ↓ir.count_Of.r25.w, ↓ir.count_Of.r26.w, ↓ir.count_Of.r27.w, ir.count_Of.rs, go_sem, Nat.reduceAdd, Nat.reduceEqDiff, Nat.reduceMul, Nat.reduceLeDiff, Nat.reduceSub, Nat.reduceLT, ↓reduceIte, reduceCtorEq, List.reduceReplicate, List.flatten_cons, List.flatten_nil, List.append_nil, eq_self, Int.reduceLE, Int.reduceLT, Int.reduceToNat, Nat.min_eq_left, Int.reducePow, Int.reduceNeg, Int.reduceEq]))
  all_goals exact .inl ⟨by simp_all [ofI], rfl⟩
theorem rof_spec (h : AHeap) (n : Int) : Spec Tryd.prog nG fn.ref24_Of [.int .i64 n] h (.int .i64 (ofI n)) h := by
  apply ir.ref24_Of.spec (Nat.le_of_ble_eq_true rfl)
  simp (dsimp := false) only [↓ir.ref24_Of.bw, ir.ref24_Of.rs, ↓ir.ref24_Of.r0.w, ↓ir.ref24_Of.r1.w, ↓ir.ref24_Of.r2.w, ↓ir.ref24_Of.r3.w, ↓ir.ref24_Of.r4.w, ↓ir.ref24_Of.r5.w, ↓ir.ref24_Of.r6.w, ↓ir.ref24_Of.r7.w, ↓ir.ref24_Of.r8.w, ↓ir.ref24_Of.r9.w, ↓ir.ref24_Of.r10.w, ↓ir.ref24_Of.r11.w, ↓ir.ref24_Of.r12.w, ↓ir.ref24_Of.r13.w, ↓ir.ref24_Of.r14.w, ↓ir.ref24_Of.r15.w, ↓ir.ref24_Of.r16.w, ↓ir.ref24_Of.r17.w, ↓ir.ref24_Of.r18.w, ↓ir.ref24_Of.r19.w, ↓ir.ref24_Of.r20.w, ↓ir.ref24_Of.r21.w, ↓ir.ref24_Of.r22.w, ↓ir.ref24_Of.r23.w, ↓ir.ref24_Of.r24.w, ↓ir.ref24_Of.r25.w, ↓ir.ref24_Of.r26.w, ↓ir.ref24_Of.r27.w, ir.ref24_Of.rs, go_sem, Nat.reduceAdd, Nat.reduceEqDiff, Nat.reduceMul, Nat.reduceLeDiff, Nat.reduceSub, Nat.reduceLT, ↓reduceIte, reduceCtorEq, List.reduceReplicate, List.flatten_cons, List.flatten_nil, List.append_nil, eq_self, Int.reduceLE, Int.reduceLT, Int.reduceToNat, Nat.min_eq_left, Int.reducePow, Int.reduceNeg, Int.reduceEq]
  repeat' (first | ((first | refine cVd (fun hc => ?_) (fun hc => ?_) | refine gTd (fun hc => ?_) (fun hc => ?_) | refine gFd (fun hc => ?_) (fun hc => ?_) | refine cVe (fun hc => ?_) (fun hc => ?_) | refine gTe (fun hc => ?_) (fun hc => ?_) | refine gFe (fun hc => ?_) (fun hc => ?_) | refine cVn (fun hc => ?_) (fun hc => ?_) | refine gTn (fun hc => ?_) (fun hc => ?_) | refine gFn (fun hc => ?_) (fun hc => ?_) | refine cV (fun hc => ?_) (fun hc => ?_) | refine gT (fun hc => ?_) (fun hc => ?_) | refine gF (fun hc => ?_) (fun hc => ?_)) <;> try simp (dsimp := false) only [↓ir.ref24_Of.r0.w, ↓ir.ref24_Of.r1.w, ↓ir.ref24_Of.r2.w, ↓ir.ref24_Of.r3.w, ↓ir.ref24_Of.r4.w, ↓ir.ref24_Of.r5.w, ↓ir.ref24_Of.r6.w, ↓ir.ref24_Of.r7.w, ↓ir.ref24_Of.r8.w, ↓ir.ref24_Of.r9.w, ↓ir.ref24_Of.r10.w, ↓ir.ref24_Of.r11.w, ↓ir.ref24_Of.r12.w, ↓ir.ref24_Of.r13.w, ↓ir.ref24_Of.r14.w, ↓ir.ref24_Of.r15.w, ↓ir.ref24_Of.r16.w, ↓ir.ref24_Of.r17.w, ↓ir.ref24_Of.r18.w, ↓ir.ref24_Of.r19.w, ↓ir.ref24_Of.r20.w, ↓ir.ref24_Of.r21.w, ↓ir.ref24_Of.r22.w, ↓ir.ref24_Of.r23.w, ↓ir.ref24_Of.r24.w, ↓ir.ref24_Of.r25.w, ↓ir.ref24_Of.r26.w, ↓ir.ref24_Of.r27.w, ir.ref24_Of.rs, go_sem, Nat.reduceAdd, Nat.reduceEqDiff, Nat.reduceMul, Nat.reduceLeDiff, Nat.reduceSub, Nat.reduceLT, ↓reduceIte, reduceCtorEq, List.reduceReplicate, List.flatten_cons, List.flatten_nil, List.append_nil, eq_self, Int.reduceLE, Int.reduceLT, Int.reduceToNat, Nat.min_eq_left, Int.reducePow, Int.reduceNeg, Int.reduceEq]) | (with_reducible refine And.intro (by omega) ?_ <;> try simp (dsimp := false) only [↓ir.ref24_Of.r0.w, ↓ir.ref24_Of.r1.w, ↓ir.ref24_Of.r2.w, ↓ir.ref24_Of.r3.w, ↓ir.ref24_Of.r4.w, ↓ir.ref24_Of.r5.w, ↓ir.ref24_Of.r6.w, ↓ir.ref24_Of.r7.w, ↓ir.ref24_Of.r8.w, ↓ir.ref24_Of.r9.w, ↓ir.ref24_Of.r10.w, ↓ir.ref24_Of.r11.w, ↓ir.ref24_Of.r12.w, ↓ir.ref24_Of.r13.w, ↓ir.ref24_Of.r14.w, ↓ir.ref24_Of.r15.w, ↓ir.ref24_Of.r16.w, ↓ir.ref24_Of.r17.w, ↓ir.ref24_Of.r18.w, ↓ir.ref24_Of.r19.w, ↓ir.ref24_Of.r20.w, ↓ir.ref24_Of.r21.w, ↓ir.ref24_Of.r22.w, ↓ir.ref24_Of.r23.w, ↓ir.ref24_Of.r24.w, ↓ir.ref24_Of.r25.w, ↓ir.ref24_Of.r26.w, ↓ir.ref24_Of.r27.w, ir.ref24_Of.rs, go_sem, Nat.reduceAdd, Nat.reduceEqDiff, Nat.reduceMul, Nat.reduceLeDiff, Nat.reduceSub, Nat.reduceLT, ↓reduceIte, reduceCtorEq, List.reduceReplicate, List.flatten_cons, List.flatten_nil, List.append_nil, eq_self, Int.reduceLE, Int.reduceLT, Int.reduceToNat, Nat.min_eq_left, Int.reducePow, Int.reduceNeg, Int.reduceEq]))
  all_goals exact .inl ⟨by simp_all [ofI], rfl⟩
end Go.Proofs.YtgndlhmjolaeiaaDoor.B
