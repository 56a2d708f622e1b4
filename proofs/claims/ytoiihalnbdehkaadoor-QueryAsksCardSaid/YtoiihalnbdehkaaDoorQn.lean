/-
  Layer 24 for layer 26: the counters' names, the texts of all counters. (Lines of C2 to C5, for this seat.)
-/
import Derived.Test.YtoiihalnbdehkaaDoorKJ
import Derived.Test.YtoiihalnbdehkaaDoorSn
import Derived.Test.YtoiihalnbdehkaaDoorAbZ
import Derived.Test.YtoiihalnbdehkaaDoorIr25
import Derived.Test.YtoiihalnbdehkaaDoorIr26
namespace Go.Proofs.YtoiihalnbdehkaaDoor.B
open Go
set_option linter.unusedVariables false
set_option linter.unusedSimpArgs false
set_option maxRecDepth 100000
/-- The counters' names. -/
def countB : List ByteArray := [⟨#[102, 114, 97, 109, 101, 115]⟩, ⟨#[102, 111, 114, 109]⟩, ⟨#[115, 116, 114, 97, 110, 103, 101, 114, 115]⟩, ⟨#[116, 111, 108, 108, 115]⟩, ⟨#[116, 97, 103, 115]⟩, ⟨#[114, 101, 112, 108, 97, 121, 115]⟩, ⟨#[104, 101, 108, 108, 111, 115]⟩, ⟨#[117, 112, 100, 97, 116, 101, 115]⟩, ⟨#[101, 110, 116, 114, 105, 101, 115]⟩, ⟨#[115, 116, 97, 108, 101]⟩, ⟨#[114, 111, 111, 116, 108, 101, 115, 115]⟩, ⟨#[112, 114, 111, 111, 102, 115]⟩, ⟨#[104, 101, 108, 100]⟩, ⟨#[116, 97, 107, 101, 110]⟩, ⟨#[114, 101, 110, 101, 119, 97, 108, 115]⟩, ⟨#[115, 105, 103, 110, 115]⟩, ⟨#[112, 105, 101, 99, 101, 115]⟩, ⟨#[115, 101, 110, 116]⟩, ⟨#[98, 114, 111, 107, 101, 110]⟩]
abbrev countNames : List Value := countB.map Value.string
theorem countNames_eq : countNames = [.string ⟨#[102, 114, 97, 109, 101, 115]⟩, .string ⟨#[102, 111, 114, 109]⟩, .string ⟨#[115, 116, 114, 97, 110, 103, 101, 114, 115]⟩, .string ⟨#[116, 111, 108, 108, 115]⟩, .string ⟨#[116, 97, 103, 115]⟩, .string ⟨#[114, 101, 112, 108, 97, 121, 115]⟩, .string ⟨#[104, 101, 108, 108, 111, 115]⟩, .string ⟨#[117, 112, 100, 97, 116, 101, 115]⟩, .string ⟨#[101, 110, 116, 114, 105, 101, 115]⟩, .string ⟨#[115, 116, 97, 108, 101]⟩, .string ⟨#[114, 111, 111, 116, 108, 101, 115, 115]⟩, .string ⟨#[112, 114, 111, 111, 102, 115]⟩, .string ⟨#[104, 101, 108, 100]⟩, .string ⟨#[116, 97, 107, 101, 110]⟩, .string ⟨#[114, 101, 110, 101, 119, 97, 108, 115]⟩, .string ⟨#[115, 105, 103, 110, 115]⟩, .string ⟨#[112, 105, 101, 99, 101, 115]⟩, .string ⟨#[115, 101, 110, 116]⟩, .string ⟨#[98, 114, 111, 107, 101, 110]⟩] := rfl
def powRow : List Value := (List.range 20).map fun i => .int .u64 ((10 ^ i : Nat) : Int)
structure CountV (h : AHeap) : Prop where
  names : h[gv.count_names]? = some (.row .ro countNames)
  pow : h[gv.internal_strconv_uint64pow10]? = some (.row .ro powRow)
theorem get_pre {h h' : AHeap} (p : Pre h h') {b : Nat} {o : AObj} (k : h[b]? = some o) : h'[b]? = some o := by rw [p.get (List.getElem?_eq_some_iff.1 k).1]; exact k
theorem CountV.pre {h h' : AHeap} (p : Pre h h') (k : CountV h) : CountV h' := ⟨get_pre p k.names, get_pre p k.pow⟩
theorem CountV.powV {h : AHeap} (k : CountV h) : PowV h := by
  have := k.pow
  unfold PowV rds
  rw [this]; rfl
theorem countB_len : countB.length = 19 := rfl
theorem cname_spec {h : AHeap} (k : CountV h) (n : Int) : Spec Tryd.prog nG fn.count_Name [.int .i64 n] h (.string (nmS countB n)) h := by
  apply ir.count_Name.spec (Nat.le_of_ble_eq_true rfl)
  have hl := countB_len
  have r0 : 0 ≤ n ∧ n < 19 → rds h 0 n.toNat 1 = some [.string (nmS countB n)] := fun hn => nm_rds k.names (by omega)
  simp (dsimp := false) only [↓ir.count_Name.bw, ir.count_Name.rs, go_sem, Nat.reduceAdd, Nat.reduceEqDiff, Nat.reduceMul, Nat.reduceLeDiff, Nat.reduceSub, Nat.reduceLT, ↓reduceIte, reduceCtorEq, List.reduceReplicate, List.flatten_cons, List.flatten_nil, List.append_nil, eq_self, Int.reduceLE, Int.reduceLT, Int.reduceToNat, Nat.min_eq_left, Int.reducePow, Int.reduceNeg, Int.reduceEq]
  refine gFd (fun c => ?_) (fun c => ?_)
  · simp (dsimp := false) only [go_sem, Nat.reduceAdd, Nat.reduceEqDiff, Nat.reduceMul, Nat.reduceLeDiff, Nat.reduceSub, Nat.reduceLT, ↓reduceIte, reduceCtorEq, List.reduceReplicate, List.flatten_cons, List.flatten_nil, List.append_nil, eq_self, Int.reduceLE, Int.reduceLT, Int.reduceToNat, Nat.min_eq_left, Int.reducePow, Int.reduceNeg, Int.reduceEq]
    exact Fin.sc0 (by rw [nmS_out (by omega)])
  · simp (dsimp := false) only [go_sem, Nat.reduceAdd, Nat.reduceEqDiff, Nat.reduceMul, Nat.reduceLeDiff, Nat.reduceSub, Nat.reduceLT, ↓reduceIte, reduceCtorEq, List.reduceReplicate, List.flatten_cons, List.flatten_nil, List.append_nil, eq_self, Int.reduceLE, Int.reduceLT, Int.reduceToNat, Nat.min_eq_left, Int.reducePow, Int.reduceNeg, Int.reduceEq]
    refine cVd (fun c2 => ?_) (fun c2 => ?_)
    · simp (dsimp := false) only [go_sem, Nat.reduceAdd, Nat.reduceEqDiff, Nat.reduceMul, Nat.reduceLeDiff, Nat.reduceSub, Nat.reduceLT, ↓reduceIte, reduceCtorEq, List.reduceReplicate, List.flatten_cons, List.flatten_nil, List.append_nil, eq_self, Int.reduceLE, Int.reduceLT, Int.reduceToNat, Nat.min_eq_left, Int.reducePow, Int.reduceNeg, Int.reduceEq]
      exact Fin.sc0 (by rw [nmS_out (by omega)])
    · simp (dsimp := false) only [go_sem, Nat.reduceAdd, Nat.reduceEqDiff, Nat.reduceMul, Nat.reduceLeDiff, Nat.reduceSub, Nat.reduceLT, ↓reduceIte, reduceCtorEq, List.reduceReplicate, List.flatten_cons, List.flatten_nil, List.append_nil, eq_self, Int.reduceLE, Int.reduceLT, Int.reduceToNat, Nat.min_eq_left, Int.reducePow, Int.reduceNeg, Int.reduceEq, ixaV_ptr, r0 (by omega), Nat.zero_add, Nat.mul_one]
      exact ⟨by omega, .inl ⟨rfl, rfl⟩⟩
theorem rnames24_spec (h : AHeap) : Spec Tryd.prog nG fn.ref24_Names [] h (.slice (some ⟨h.length, 0, none⟩) 19 19) (h ++ [.row (.grow 1) countNames]) := by
  apply ir.ref24_Names.spec (Nat.le_of_ble_eq_true rfl)
  rw [countNames_eq]
  simp (dsimp := false) only [↓ir.ref24_Names.bw, ir.ref24_Names.rs, go_sem, Nat.reduceAdd, Nat.reduceEqDiff, Nat.reduceMul, Nat.reduceLeDiff, Nat.reduceSub, Nat.reduceLT, ↓reduceIte, reduceCtorEq, List.reduceReplicate, List.flatten_cons, List.flatten_nil, List.append_nil, eq_self, Int.reduceLE, Int.reduceLT, Int.reduceToNat, Nat.min_eq_left, Int.reducePow, Int.reduceNeg, Int.reduceEq]
  exact .inl ⟨rfl, rfl⟩
theorem rname24_spec (h : AHeap) (n : Int) : Spec Tryd.prog nG fn.ref24_Name [.int .i64 n] h (.string (nmS countB n)) h := by
  apply ir.ref24_Name.spec (Nat.le_of_ble_eq_true rfl)
  have hl := countB_len
  have r0 : 0 ≤ n ∧ n < 19 → rds (h ++ [.row (.grow 1) countNames]) h.length n.toNat 1 = some [.string (nmS countB n)] := fun hn => nm_rds (m := .grow 1) (by simp) (by omega)
  simp (dsimp := false) only [↓ir.ref24_Name.bw, ir.ref24_Name.rs, go_sem, Nat.reduceAdd, Nat.reduceEqDiff, Nat.reduceMul, Nat.reduceLeDiff, Nat.reduceSub, Nat.reduceLT, ↓reduceIte, reduceCtorEq, List.reduceReplicate, List.flatten_cons, List.flatten_nil, List.append_nil, eq_self, Int.reduceLE, Int.reduceLT, Int.reduceToNat, Nat.min_eq_left, Int.reducePow, Int.reduceNeg, Int.reduceEq]
  refine gFd (fun c => ?_) (fun c => ?_)
  · simp (dsimp := false) only [go_sem, Nat.reduceAdd, Nat.reduceEqDiff, Nat.reduceMul, Nat.reduceLeDiff, Nat.reduceSub, Nat.reduceLT, ↓reduceIte, reduceCtorEq, List.reduceReplicate, List.flatten_cons, List.flatten_nil, List.append_nil, eq_self, Int.reduceLE, Int.reduceLT, Int.reduceToNat, Nat.min_eq_left, Int.reducePow, Int.reduceNeg, Int.reduceEq]
    exact Fin.sc0 (by rw [nmS_out (by omega)])
  · simp (dsimp := false) only [go_sem, Nat.reduceAdd, Nat.reduceEqDiff, Nat.reduceMul, Nat.reduceLeDiff, Nat.reduceSub, Nat.reduceLT, ↓reduceIte, reduceCtorEq, List.reduceReplicate, List.flatten_cons, List.flatten_nil, List.append_nil, eq_self, Int.reduceLE, Int.reduceLT, Int.reduceToNat, Nat.min_eq_left, Int.reducePow, Int.reduceNeg, Int.reduceEq]
    refine cVd (fun c2 => ?_) (fun c2 => ?_)
    · simp (dsimp := false) only [go_sem, Nat.reduceAdd, Nat.reduceEqDiff, Nat.reduceMul, Nat.reduceLeDiff, Nat.reduceSub, Nat.reduceLT, ↓reduceIte, reduceCtorEq, List.reduceReplicate, List.flatten_cons, List.flatten_nil, List.append_nil, eq_self, Int.reduceLE, Int.reduceLT, Int.reduceToNat, Nat.min_eq_left, Int.reducePow, Int.reduceNeg, Int.reduceEq]
      exact Fin.sc0 (by rw [nmS_out (by omega)])
    · simp (dsimp := false) only [go_sem, Nat.reduceAdd, Nat.reduceEqDiff, Nat.reduceMul, Nat.reduceLeDiff, Nat.reduceSub, Nat.reduceLT, ↓reduceIte, reduceCtorEq, List.reduceReplicate, List.flatten_cons, List.flatten_nil, List.append_nil, eq_self, Int.reduceLE, Int.reduceLT, Int.reduceToNat, Nat.min_eq_left, Int.reducePow, Int.reduceNeg, Int.reduceEq]
      refine callV_of (rnames24_spec _) ?_
      simp (dsimp := false) only [go_sem, Nat.reduceAdd, Nat.reduceEqDiff, Nat.reduceMul, Nat.reduceLeDiff, Nat.reduceSub, Nat.reduceLT, ↓reduceIte, reduceCtorEq, List.reduceReplicate, List.flatten_cons, List.flatten_nil, List.append_nil, eq_self, Int.reduceLE, Int.reduceLT, Int.reduceToNat, Nat.min_eq_left, Int.reducePow, Int.reduceNeg, Int.reduceEq, ixsV_slice, r0 (by omega), Nat.zero_add, Nat.mul_one]
      exact ⟨by omega, Fin.sc rfl rfl⟩
/-- The counter of a name. -/
def whF (s : ByteArray) : Int := match countB.findIdx? (fun x => x.toList == s.toList) with
  | some i => (i : Int)
  | none => -1
theorem whF_some {s : ByteArray} {i : Nat} (hi : i < 19) (h1 : ((countB.getD i ⟨#[]⟩).toList == s.toList) = true) (h2 : ∀ j, j < i → ((countB.getD j ⟨#[]⟩).toList == s.toList) = false) : whF s = i := by
  have hl := countB_len
  have hg : ∀ j (hj : j < countB.length), countB.getD j ⟨#[]⟩ = countB[j] := fun j hj => by rw [List.getD_eq_getElem?_getD, List.getElem?_eq_getElem hj]; rfl
  have : countB.findIdx? (fun x => x.toList == s.toList) = some i := by
    rw [List.findIdx?_eq_some_iff_getElem]
    refine ⟨by omega, by rw [← hg i (by omega)]; exact h1, fun j hj => ?_⟩
    rw [← hg j (by omega), h2 j hj]; simp
  unfold whF; rw [this]
theorem whF_none {s : ByteArray} (h2 : ∀ j, j < 19 → ((countB.getD j ⟨#[]⟩).toList == s.toList) = false) : whF s = -1 := by
  have hl := countB_len
  have : countB.findIdx? (fun x => x.toList == s.toList) = none := by
    rw [List.findIdx?_eq_none_iff]
    intro x hx
    obtain ⟨j, hj, rfl⟩ := List.getElem_of_mem hx
    have := h2 j (by omega)
    rwa [List.getD_eq_getElem?_getD, List.getElem?_eq_getElem hj] at this
  unfold whF; rw [this]
theorem cwhich_spec {h : AHeap} (k : CountV h) (s : ByteArray) : Spec Tryd.prog nG fn.count_Which [.string s] h (.int .i64 (whF s)) h := by
  apply ir.count_Which.spec (Nat.le_of_ble_eq_true rfl)
  have hl := countB_len
  have r0 : rds h 0 0 19 = some countNames := by have := k.names; simp only [rds, show h[0]? = _ from this]; rfl
  simp (dsimp := false) only [↓ir.count_Which.bw, ir.count_Which.rs, go_sem, Nat.reduceAdd, Nat.reduceEqDiff, Nat.reduceMul, Nat.reduceLeDiff, Nat.reduceSub, Nat.reduceLT, ↓reduceIte, reduceCtorEq, List.reduceReplicate, List.flatten_cons, List.flatten_nil, List.append_nil, eq_self, Int.reduceLE, Int.reduceLT, Int.reduceToNat, Nat.min_eq_left, Int.reducePow, Int.reduceNeg, Int.reduceEq, r0, aggOf_true]
  refine loopV_of (fun m e h2 => ∃ (i : Nat), m = 19 - i ∧ i ≤ 19 ∧ h2 = h ∧ (∀ j, j < i → ((countB.getD j ⟨#[]⟩).toList == s.toList) = false) ∧ e = [(0, .string s), (5, .agg ⟨countNames⟩), (6, .int .i64 i)]) _ ⟨0, rfl, Nat.zero_le _, rfl, fun j hj => absurd hj (Nat.not_lt_zero _), rfl⟩ ?_
  rintro m e h2 ⟨i, rfl, hi, rfl, hno, rfl⟩
  rcases Nat.lt_or_ge i 19 with hlt | hge
  · have hd : decide ((i : Int) < 19) = true := by simpa using (by omega : (i : Int) < 19)
    have hat : (countNames.drop (i * 1)).take 1 = [.string (countB.getD i ⟨#[]⟩)] := by rw [Nat.mul_one]; exact strs_at (by omega)
    simp (dsimp := false) only [↓ir.count_Which.l1.bw, go_sem, Nat.reduceAdd, Nat.reduceEqDiff, Nat.reduceMul, Nat.reduceLeDiff, Nat.reduceSub, Nat.reduceLT, ↓reduceIte, reduceCtorEq, List.reduceReplicate, List.flatten_cons, List.flatten_nil, List.append_nil, eq_self, Int.reduceLE, Int.reduceLT, Int.reduceToNat, Nat.min_eq_left, Int.reducePow, Int.reduceNeg, Int.reduceEq, hd, ixvV_agg, Int.toNat_natCast, hat]
    refine ⟨by omega, by simp [hl]; omega, ?_⟩
    refine cV (fun c => ?_) (fun c => ?_)
    · simp (dsimp := false) only [go_sem, Nat.reduceAdd, Nat.reduceEqDiff, Nat.reduceMul, Nat.reduceLeDiff, Nat.reduceSub, Nat.reduceLT, ↓reduceIte, reduceCtorEq, List.reduceReplicate, List.flatten_cons, List.flatten_nil, List.append_nil, eq_self, Int.reduceLE, Int.reduceLT, Int.reduceToNat, Nat.min_eq_left, Int.reducePow, Int.reduceNeg, Int.reduceEq]
      exact .inl ⟨by rw [whF_some hlt c hno], rfl⟩
    · simp (dsimp := false) only [go_sem, Nat.reduceAdd, Nat.reduceEqDiff, Nat.reduceMul, Nat.reduceLeDiff, Nat.reduceSub, Nat.reduceLT, ↓reduceIte, reduceCtorEq, List.reduceReplicate, List.flatten_cons, List.flatten_nil, List.append_nil, eq_self, Int.reduceLE, Int.reduceLT, Int.reduceToNat, Nat.min_eq_left, Int.reducePow, Int.reduceNeg, Int.reduceEq, wrap_succ hlt (by simp [maxI])]
      refine ⟨_, by omega, i + 1, rfl, by omega, fun j hj => ?_, rfl⟩
      rcases Nat.lt_or_ge j i with q | q
      · exact hno j q
      · obtain rfl : j = i := by omega
        simpa using c
  · have hd : decide ((i : Int) < 19) = false := by simpa using (by omega : ¬ (i : Int) < 19)
    simp (dsimp := false) only [↓ir.count_Which.l1.bw, go_sem, Nat.reduceAdd, Nat.reduceEqDiff, Nat.reduceMul, Nat.reduceLeDiff, Nat.reduceSub, Nat.reduceLT, ↓reduceIte, reduceCtorEq, List.reduceReplicate, List.flatten_cons, List.flatten_nil, List.append_nil, eq_self, Int.reduceLE, Int.reduceLT, Int.reduceToNat, Nat.min_eq_left, Int.reducePow, Int.reduceNeg, Int.reduceEq, hd]
    exact .inl ⟨by rw [whF_none fun j hj => hno j (by omega)], rfl⟩
abbrev ints (L : List Int) : List Value := L.map (Value.int .i64)
theorem ints_rd {L : List Int} {i : Nat} (hi : i < L.length) : ((ints L).drop i).take 1 = [.int .i64 (L.getD i 0)] := by
  rw [List.drop_eq_getElem_cons (by simpa using hi)]
  simp [List.getD, hi]
theorem Fx.irdA {h : AHeap} {b : Nat} {L : List Int} (k : Fx h b (ints L)) {i : Nat} (hi : i < L.length) (g : AHeap) : rds (h ++ g) b i 1 = some [.int .i64 (L.getD i 0)] := k.rdA (ints_rd hi) (by simp; omega) g
theorem Fx.ird {h : AHeap} {b : Nat} {L : List Int} (k : Fx h b (ints L)) {i : Nat} (hi : i < L.length) : rds h b i 1 = some [.int .i64 (L.getD i 0)] := k.rd (ints_rd hi) (by simp; omega)
abbrev spS : ByteArray := ⟨#[32]⟩
def partS (i : Nat) (n : Int) : ByteArray := nmS countB i ++ ⟨#[61]⟩ ++ wholeS n
def cpS (L : List Int) : Nat → List ByteArray
  | 0 => []
  | i + 1 => if L.getD i 0 = 0 then cpS L i else cpS L i ++ [partS i (L.getD i 0)]
theorem cpS_len (L : List Int) (i : Nat) : (cpS L i).length ≤ i := by
  induction i with
  | zero => simp [cpS]
  | succ i ih =>
    rw [cpS]
    split
    · omega
    · rw [List.length_append]; simp; omega
abbrev i64ok' (n : Int) : Prop := -9223372036854775808 ≤ n ∧ n ≤ 9223372036854775807
theorem part_size (i : Nat) {n : Int} (h : i64ok' n) : 1 ≤ (partS i n).size ∧ (partS i n).size ≤ 40 := by
  have h1 := nmS_size (L := countB) (c := 9) (by decide) i
  have h2 := wholeS_size h
  simp only [partS, ByteArray.size_append, size_mk, List.size_toArray, List.length_cons, List.length_nil]
  omega
abbrev lok (L : List Int) : Prop := ∀ i, i64ok' (L.getD i 0)
theorem parts_mem {L : List Int} (h : lok L) (i : Nat) : ∀ x ∈ cpS L i, 1 ≤ x.size ∧ x.size ≤ 40 := by
  induction i with
  | zero => simp [cpS]
  | succ i ih =>
    rw [cpS]
    split
    · exact ih
    · intro x hx
      rcases List.mem_append.1 hx with q | q
      · exact ih x q
      · rw [List.mem_singleton.1 q]; exact part_size i (h i)
theorem joinS_nil (sep : ByteArray) : joinS [] sep = ⟨#[]⟩ := rfl
theorem joinS_one (p sep : ByteArray) : joinS [p] sep = p := by
  simp [joinS, Lib.join_one]
theorem joinS_snoc (x : ByteArray) (l : List ByteArray) (p sep : ByteArray) : joinS (x :: l ++ [p]) sep = joinS (x :: l) sep ++ sep ++ p := by
  apply ByteArray.ext
  simp only [joinS, List.cons_append, List.map_cons, List.map_append, List.map_nil, Lib.join_cons, ByteArray.data_append]
  apply Array.toList_inj.1
  simp [Lib.joinTail]
theorem lens_le : ∀ r : List (List UInt8), (∀ x ∈ r, x.length ≤ 40) → Lib.lens r ≤ r.length * 40
  | [], _ => by simp [Lib.lens]
  | x :: r, h => by
    have h1 := lens_le r fun y hy => h y (List.mem_cons_of_mem _ hy)
    have h2 := h x List.mem_cons_self
    simp only [Lib.lens, List.map_cons, List.sum_cons, List.length_cons] at h1 ⊢
    omega
theorem joinS_size {l : List ByteArray} (h : ∀ x ∈ l, x.size ≤ 40) : (joinS l spS).size ≤ l.length * 41 := by
  cases l with
  | nil => exact Nat.zero_le _
  | cons x r =>
    have h1 := lens_le ((x :: r).map (·.data.toList)) fun y hy => by
      obtain ⟨z, hz, rfl⟩ := List.mem_map.1 hy
      have := h z hz
      rw [Array.length_toList]
      exact this
    have h2 := Lib.join_length x.data.toList (r.map (·.data.toList)) [32]
    have h3 : (joinS (x :: r) spS).size = (Lib.join (x.data.toList :: r.map (·.data.toList)) [32]).length := by simp [joinS, ByteArray.size]
    rw [h3, h2]
    simp only [List.map_cons, List.length_cons, List.length_map, List.length_nil] at h1 ⊢
    omega
/-- As the document builds it. -/
def rtS (L : List Int) : Nat → ByteArray
  | 0 => ⟨#[]⟩
  | i + 1 => if L.getD i 0 = 0 then rtS L i else (if rtS L i = ⟨#[]⟩ then rtS L i else rtS L i ++ spS) ++ partS i (L.getD i 0)
theorem cp_text {L : List Int} (h : lok L) (i : Nat) : rtS L i = joinS (cpS L i) spS ∧ (rtS L i = ⟨#[]⟩ ↔ cpS L i = []) := by
  induction i with
  | zero => exact ⟨rfl, by simp [rtS, cpS]⟩
  | succ i ih =>
    obtain ⟨ih1, ih2⟩ := ih
    rw [rtS, cpS]
    split
    · exact ⟨ih1, ih2⟩
    · have hp := part_size i (h i)
      have hne : ∀ a : ByteArray, a ++ partS i (L.getD i 0) ≠ ⟨#[]⟩ := fun a e => by
        have := congrArg ByteArray.size e
        simp only [ByteArray.size_append, size_mk, List.size_toArray, List.length_nil] at this
        omega
      refine ⟨?_, ⟨fun e => absurd e (hne _), fun e => by simp at e⟩⟩
      by_cases hq : cpS L i = []
      · rw [if_pos (ih2.2 hq), ih2.2 hq, hq, List.nil_append, joinS_one]
        exact ByteArray.empty_append
      · rw [if_neg fun e => hq (ih2.1 e), ih1]
        cases hc : cpS L i with
        | nil => exact absurd hc hq
        | cons x r => rw [joinS_snoc]
theorem loop_len (bs : ByteArray) : ∀ (n i : Nat) (r : List UInt8), bs.size - i = n → (ByteArray.toList.loop bs i r).length = r.length + n
  | 0, i, r, e => by
    rw [ByteArray.toList.loop, if_neg (by omega)]; simp
  | n + 1, i, r, e => by
    rw [ByteArray.toList.loop, if_pos (by omega), loop_len bs n (i + 1) _ (by omega)]
    simp; omega
theorem toL_len (bs : ByteArray) : bs.toList.length = bs.size := by
  rw [ByteArray.toList, loop_len bs bs.size 0 [] (by omega)]; simp
theorem empty_iff (s : ByteArray) : (s.toList == (⟨#[]⟩ : ByteArray).toList) = true ↔ s = ⟨#[]⟩ := by
  constructor
  · intro e
    have e2 : s.toList = (⟨#[]⟩ : ByteArray).toList := by simpa using e
    have e3 := congrArg List.length e2
    rw [toL_len, toL_len] at e3
    apply ByteArray.ext
    apply Array.eq_empty_of_size_eq_zero
    exact e3
  · rintro rfl; simp
section
variable {h : AHeap} {b : Nat} {L : List Int}
theorem getD_at {i : Nat} (hi : i < L.length) : L.getD i 0 = L[i] := by rw [List.getD_eq_getElem?_getD, List.getElem?_eq_getElem hi]; rfl
theorem rtS_size {L : List Int} (ho : lok L) (i : Nat) (hi : i ≤ 19) : (rtS L i).size ≤ 800 := by
  rw [(cp_text ho i).1]
  have h5 := cpS_len L i
  have h6 := joinS_size (fun x hx => (parts_mem ho i x hx).2)
  omega
theorem rtext24_spec (hl : L.length = 19) (ho : lok L) (h : AHeap) : Spec Tryd.prog nG fn.ref24_Text [.agg ⟨ints L⟩] h (.string (rtS L 19)) h := by
  obtain ⟨s, hs, rfl⟩ : ∃ s, Spec Tryd.prog nG fn.ref24_Text [.agg ⟨ints L⟩] h (.string s) h ∧ s = rtS L 19 := by
    refine SpecX.str ?_
    refine SpecX.of_body (ir.ref24_Text.spec (Nat.le_of_ble_eq_true rfl)) ?_
    simp (dsimp := false) only [↓ir.ref24_Text.bw, ir.ref24_Text.rs, go_sem, Nat.reduceAdd, Nat.reduceEqDiff, Nat.reduceMul, Nat.reduceLeDiff, Nat.reduceSub, Nat.reduceLT, ↓reduceIte, reduceCtorEq, List.reduceReplicate, List.flatten_cons, List.flatten_nil, List.append_nil, eq_self, Int.reduceLE, Int.reduceLT, Int.reduceToNat, Nat.min_eq_left, Int.reducePow, Int.reduceNeg, Int.reduceEq]
    obtain ⟨h1, eh1⟩ : ∃ h1, h ++ [AObj.row Mode.fix (ints L)] = h1 := ⟨_, rfl⟩
    have hp1 : Pre h h1 := eh1 ▸ .app _ _
    have kb : Fx h1 h.length (ints L) := by rw [← eh1]; simp [Fx]
    rw [eh1]
    refine loopV_of (fun m e h2 => ∃ (i : Nat), m = 19 - i ∧ i ≤ 19 ∧ h2 = h1 ∧ e = [(1, .pointer (some ⟨h.length, 0, none⟩)), (3, .string (rtS L i)), (4, .int .i64 i)]) _
      ⟨0, rfl, Nat.zero_le _, rfl, rfl⟩ ?_
    rintro m e h2 ⟨i, rfl, hi, rfl, rfl⟩
    rcases Nat.lt_or_ge i 19 with hlt | hge
    · have hd : decide ((i : Int) < 19) = true := by simpa using (by omega : (i : Int) < 19)
      have e1 : IntKind.i64.wrap ((i : Int) + 1) = ((i + 1 : Nat) : Int) := wrap_succ hlt (by unfold maxI; omega)
      have hil : i < L.length := by omega
      have r0 := kb.ird hil
      have z0 := rtS_size ho i (by omega)
      have z1 := nmS_size (L := countB) (c := 9) (by decide) i
      have z2 := wholeS_size (ho i)
      have hx : (0 ≤ (i : Int) ∧ (i : Int) < 19) := by omega
      simp (dsimp := false) only [↓ir.ref24_Text.l1.bw, go_sem, Nat.reduceAdd, Nat.reduceEqDiff, Nat.reduceMul, Nat.reduceLeDiff, Nat.reduceSub, Nat.reduceLT, ↓reduceIte, reduceCtorEq, List.reduceReplicate, List.flatten_cons, List.flatten_nil, List.append_nil, eq_self, Int.reduceLE, Int.reduceLT, Int.reduceToNat, Nat.min_eq_left, Int.reducePow, Int.reduceNeg, Int.reduceEq, hd, ixaV_ptr, Nat.zero_add, Nat.mul_one, Int.toNat_natCast, r0]
      refine ⟨hx, ?_⟩
      refine cVe (fun c => ?_) (fun c => ?_)
      · simp (dsimp := false) only [go_sem, Nat.reduceAdd, Nat.reduceEqDiff, Nat.reduceMul, Nat.reduceLeDiff, Nat.reduceSub, Nat.reduceLT, ↓reduceIte, reduceCtorEq, List.reduceReplicate, List.flatten_cons, List.flatten_nil, List.append_nil, eq_self, Int.reduceLE, Int.reduceLT, Int.reduceToNat, Nat.min_eq_left, Int.reducePow, Int.reduceNeg, Int.reduceEq, e1]
        exact ⟨_, by omega, i + 1, rfl, by omega, by rw [rtS, if_pos c]⟩
      · simp (dsimp := false) only [go_sem, Nat.reduceAdd, Nat.reduceEqDiff, Nat.reduceMul, Nat.reduceLeDiff, Nat.reduceSub, Nat.reduceLT, ↓reduceIte, reduceCtorEq, List.reduceReplicate, List.flatten_cons, List.flatten_nil, List.append_nil, eq_self, Int.reduceLE, Int.reduceLT, Int.reduceToNat, Nat.min_eq_left, Int.reducePow, Int.reduceNeg, Int.reduceEq]
        have fin : ∀ s, (if rtS L i = ⟨#[]⟩ then rtS L i else rtS L i ++ spS) = s → s ++ nmS countB i ++ ⟨#[61]⟩ ++ wholeS (L.getD i 0) = rtS L (i + 1) := fun s e => by
          rw [rtS, if_neg c, e, partS]; simp only [ByteArray.append_assoc]
        obtain ⟨q, hq⟩ : ∃ q, nmS countB i = q := ⟨_, rfl⟩
        rw [hq] at z1 fin
        refine cV (fun c2 => ?_) (fun c2 => ?_)
        · have c3 : ¬ rtS L i = ⟨#[]⟩ := fun e => by rw [(empty_iff _).2 e] at c2; simp at c2
          have f := fin _ (if_neg c3)
          simp (dsimp := false) only [go_sem, Nat.reduceAdd, Nat.reduceEqDiff, Nat.reduceMul, Nat.reduceLeDiff, Nat.reduceSub, Nat.reduceLT, ↓reduceIte, reduceCtorEq, List.reduceReplicate, List.flatten_cons, List.flatten_nil, List.append_nil, eq_self, Int.reduceLE, Int.reduceLT, Int.reduceToNat, Nat.min_eq_left, Int.reducePow, Int.reduceNeg, Int.reduceEq]
          refine ⟨by simp only [ByteArray.size_append, size_mk, List.size_toArray, List.length_cons, List.length_nil]; omega, ?_⟩
          refine callV_of (rname24_spec _ _) ?_
          rw [hq]
          simp (dsimp := false) only [go_sem, Nat.reduceAdd, Nat.reduceEqDiff, Nat.reduceMul, Nat.reduceLeDiff, Nat.reduceSub, Nat.reduceLT, ↓reduceIte, reduceCtorEq, List.reduceReplicate, List.flatten_cons, List.flatten_nil, List.append_nil, eq_self, Int.reduceLE, Int.reduceLT, Int.reduceToNat, Nat.min_eq_left, Int.reducePow, Int.reduceNeg, Int.reduceEq, ixaV_ptr, Nat.zero_add, Nat.mul_one, Int.toNat_natCast, r0]
          refine ⟨by simp only [ByteArray.size_append, size_mk, List.size_toArray, List.length_cons, List.length_nil]; omega, ?_⟩
          refine ⟨by simp only [ByteArray.size_append, size_mk, List.size_toArray, List.length_cons, List.length_nil]; omega, ?_⟩
          refine ⟨hx, ?_⟩
          refine callV_of (rwhole_spec _ (ho i)) ?_
          simp (dsimp := false) only [go_sem, Nat.reduceAdd, Nat.reduceEqDiff, Nat.reduceMul, Nat.reduceLeDiff, Nat.reduceSub, Nat.reduceLT, ↓reduceIte, reduceCtorEq, List.reduceReplicate, List.flatten_cons, List.flatten_nil, List.append_nil, eq_self, Int.reduceLE, Int.reduceLT, Int.reduceToNat, Nat.min_eq_left, Int.reducePow, Int.reduceNeg, Int.reduceEq, e1]
          refine ⟨by simp only [ByteArray.size_append, size_mk, List.size_toArray, List.length_cons, List.length_nil]; omega, ?_⟩
          exact ⟨_, by omega, i + 1, rfl, by omega, by rw [← f]⟩
        · have c3 : rtS L i = ⟨#[]⟩ := (empty_iff _).1 (by simpa using c2)
          have f := fin _ (if_pos c3)
          simp (dsimp := false) only [go_sem, Nat.reduceAdd, Nat.reduceEqDiff, Nat.reduceMul, Nat.reduceLeDiff, Nat.reduceSub, Nat.reduceLT, ↓reduceIte, reduceCtorEq, List.reduceReplicate, List.flatten_cons, List.flatten_nil, List.append_nil, eq_self, Int.reduceLE, Int.reduceLT, Int.reduceToNat, Nat.min_eq_left, Int.reducePow, Int.reduceNeg, Int.reduceEq]
          refine callV_of (rname24_spec _ _) ?_
          rw [hq]
          simp (dsimp := false) only [go_sem, Nat.reduceAdd, Nat.reduceEqDiff, Nat.reduceMul, Nat.reduceLeDiff, Nat.reduceSub, Nat.reduceLT, ↓reduceIte, reduceCtorEq, List.reduceReplicate, List.flatten_cons, List.flatten_nil, List.append_nil, eq_self, Int.reduceLE, Int.reduceLT, Int.reduceToNat, Nat.min_eq_left, Int.reducePow, Int.reduceNeg, Int.reduceEq, ixaV_ptr, Nat.zero_add, Nat.mul_one, Int.toNat_natCast, r0]
          refine ⟨by first | exact Nat.le_trans (Nat.add_le_add (Nat.zero_le 0) z1) (by decide) | (simp only [c3, ByteArray.size_append, size_mk, List.size_toArray, List.length_cons, List.length_nil]; omega), ?_⟩
          refine ⟨by simp only [ByteArray.size_append, size_mk, List.size_toArray, List.length_cons, List.length_nil]; omega, ?_⟩
          refine ⟨hx, ?_⟩
          refine callV_of (rwhole_spec _ (ho i)) ?_
          simp (dsimp := false) only [go_sem, Nat.reduceAdd, Nat.reduceEqDiff, Nat.reduceMul, Nat.reduceLeDiff, Nat.reduceSub, Nat.reduceLT, ↓reduceIte, reduceCtorEq, List.reduceReplicate, List.flatten_cons, List.flatten_nil, List.append_nil, eq_self, Int.reduceLE, Int.reduceLT, Int.reduceToNat, Nat.min_eq_left, Int.reducePow, Int.reduceNeg, Int.reduceEq, e1]
          refine ⟨by simp only [ByteArray.size_append, size_mk, List.size_toArray, List.length_cons, List.length_nil]; omega, ?_⟩
          exact ⟨_, by omega, i + 1, rfl, by omega, by rw [← f]⟩
    · have hd : decide ((i : Int) < 19) = false := by simpa using (by omega : ¬ (i : Int) < 19)
      obtain rfl : i = 19 := by omega
      simp (dsimp := false) only [↓ir.ref24_Text.l1.bw, go_sem, Nat.reduceAdd, Nat.reduceEqDiff, Nat.reduceMul, Nat.reduceLeDiff, Nat.reduceSub, Nat.reduceLT, ↓reduceIte, reduceCtorEq, List.reduceReplicate, List.flatten_cons, List.flatten_nil, List.append_nil, eq_self, Int.reduceLE, Int.reduceLT, Int.reduceToNat, Nat.min_eq_left, Int.reducePow, Int.reduceNeg, Int.reduceEq, hd]
      exact ⟨hp1, _, rfl, rfl⟩
  exact hs
end
end Go.Proofs.YtoiihalnbdehkaaDoor.B
