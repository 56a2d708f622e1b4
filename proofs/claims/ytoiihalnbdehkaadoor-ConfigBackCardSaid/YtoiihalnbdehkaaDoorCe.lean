/-
  Layer 23: strings.Cut and strings.Split at one byte.
-/
import Derived.Test.YtoiihalnbdehkaaDoorCa
import Derived.Test.YtoiihalnbdehkaaDoorDn
import Derived.Test.YtoiihalnbdehkaaDoorArW
import Derived.Test.YtoiihalnbdehkaaDoorArF
import Derived.Test.YtoiihalnbdehkaaDoorAbZ
namespace Go.Proofs.YtoiihalnbdehkaaDoor.B
open Go
set_option linter.unusedVariables false
set_option linter.unusedSimpArgs false
set_option maxRecDepth 100000
variable {G : Nat} {h : AHeap}
theorem indexByte_spec (s : ByteArray) (c : Int) : Spec Tryd.prog nG fn.internal_stringslite_IndexByte [.string s, .int .u8 c] h (.int .i64 (firstIdx s c.toNat.toUInt8)) h := by
  apply ir.internal_stringslite_IndexByte.spec (Nat.le_of_ble_eq_true rfl)
  simp (dsimp := false) only [↓ir.internal_stringslite_IndexByte.bw, ir.internal_stringslite_IndexByte.rs, go_sem, Nat.reduceAdd, Nat.reduceEqDiff, Nat.reduceMul, Nat.reduceLeDiff, Nat.reduceSub, Nat.reduceLT, ↓reduceIte, reduceCtorEq, List.reduceReplicate, List.flatten_cons, List.flatten_nil, List.append_nil, eq_self, Int.reduceLE, Int.reduceLT, Int.reduceToNat, Nat.min_eq_left, Int.reducePow, Int.reduceNeg, Int.reduceEq]
  refine ⟨_, _, xindex s c, ?_⟩
  simp (dsimp := false) only [go_sem, Nat.reduceAdd, Nat.reduceEqDiff, Nat.reduceMul, Nat.reduceLeDiff, Nat.reduceSub, Nat.reduceLT, ↓reduceIte, reduceCtorEq, List.reduceReplicate, List.flatten_cons, List.flatten_nil, List.append_nil, eq_self, Int.reduceLE, Int.reduceLT, Int.reduceToNat, Nat.min_eq_left, Int.reducePow, Int.reduceNeg, Int.reduceEq]
  exact .inl ⟨rfl, rfl⟩
theorem index_spec (s : ByteArray) (c : UInt8) : Spec Tryd.prog nG fn.internal_stringslite_Index [.string s, .string ⟨#[c]⟩] h (.int .i64 (firstIdx s c)) h := by
  apply ir.internal_stringslite_Index.spec (Nat.le_of_ble_eq_true rfl)
  have hs : (((#[c] : Array UInt8).size : Nat) : Int) = 1 := rfl
  have b0 : ((1 : Int) == 0) = false := rfl
  have b1 : ((1 : Int) == 1) = true := rfl
  have g0 : (⟨#[c]⟩ : ByteArray)[0]? = some c := rfl
  simp (dsimp := false) only [↓ir.internal_stringslite_Index.bw, ir.internal_stringslite_Index.rs, go_sem, Nat.reduceAdd, Nat.reduceEqDiff, Nat.reduceMul, Nat.reduceLeDiff, Nat.reduceSub, Nat.reduceLT, ↓reduceIte, reduceCtorEq, List.reduceReplicate, List.flatten_cons, List.flatten_nil, List.append_nil, eq_self, Int.reduceLE, Int.reduceLT, Int.reduceToNat, Nat.min_eq_left, Int.reducePow, Int.reduceNeg, Int.reduceEq, hs, b0, b1, ixstrV_str, Int.toNat_zero, g0]
  refine cV (fun e => ?_) (fun e => ?_)
  · have e2 : s = ⟨#[c]⟩ := by
      have e3 : (⟨#[c]⟩ : ByteArray).toList = s.toList := by simpa using e
      rw [ByteArray.toList_eq, ByteArray.toList_eq] at e3
      apply ByteArray.ext
      apply Array.toList_inj.1
      exact e3.symm
    subst e2
    simp (dsimp := false) only [go_sem, Nat.reduceAdd, Nat.reduceEqDiff, Nat.reduceMul, Nat.reduceLeDiff, Nat.reduceSub, Nat.reduceLT, ↓reduceIte, reduceCtorEq, List.reduceReplicate, List.flatten_cons, List.flatten_nil, List.append_nil, eq_self, Int.reduceLE, Int.reduceLT, Int.reduceToNat, Nat.min_eq_left, Int.reducePow, Int.reduceNeg, Int.reduceEq]
    have e4 : firstIdx ⟨#[c]⟩ c = 0 := by
      rcases firstIdx_cut ⟨#[c]⟩ c with ⟨_, q⟩ | ⟨k, hk, q, _⟩
      · have q2 : cutL c [c] = none := q
        rw [cutL_some (c := c) (l := [c]) (p := 0) (by simp) rfl (fun j hj => absurd hj (Nat.not_lt_zero _))] at q2
        cases q2
      · have hk1 : k < 1 := hk
        rw [q]
        have : k = 0 := by omega
        subst this; rfl
    exact .inl ⟨by rw [e4], rfl⟩
  · simp (dsimp := false) only [go_sem, Nat.reduceAdd, Nat.reduceEqDiff, Nat.reduceMul, Nat.reduceLeDiff, Nat.reduceSub, Nat.reduceLT, ↓reduceIte, reduceCtorEq, List.reduceReplicate, List.flatten_cons, List.flatten_nil, List.append_nil, eq_self, Int.reduceLE, Int.reduceLT, Int.reduceToNat, Nat.min_eq_left, Int.reducePow, Int.reduceNeg, Int.reduceEq, hs, b0, b1, ixstrV_str, Int.toNat_zero, g0]
    refine callV_of (indexByte_spec s _) ?_
    rw [show ((c.toNat : Int)).toNat.toUInt8 = c by simp]
    simp (dsimp := false) only [go_sem, Nat.reduceAdd, Nat.reduceEqDiff, Nat.reduceMul, Nat.reduceLeDiff, Nat.reduceSub, Nat.reduceLT, ↓reduceIte, reduceCtorEq, List.reduceReplicate, List.flatten_cons, List.flatten_nil, List.append_nil, eq_self, Int.reduceLE, Int.reduceLT, Int.reduceToNat, Nat.min_eq_left, Int.reducePow, Int.reduceNeg, Int.reduceEq]
    exact .inl ⟨rfl, rfl⟩
/-- What Cut answers. -/
def cutV (s : ByteArray) (c : UInt8) : Value := match cutL c s.data.toList with
  | some (a, b) => .tuple #[.string ⟨a.toArray⟩, .string ⟨b.toArray⟩, .bool true]
  | none => .tuple #[.string s, .string ⟨#[]⟩, .bool false]
theorem extract_list (s : ByteArray) (a b : Nat) : s.extract a b = ⟨((s.data.toList.take b).drop a).toArray⟩ := by
  apply ByteArray.ext
  apply Array.toList_inj.1
  rw [ByteArray.data_extract, Array.toList_extract]
  simp [List.extract, List.drop_take]
theorem scut_spec {s : ByteArray} (hm : s.size ≤ 140737488351232) (c : UInt8) : Spec Tryd.prog nG fn.internal_stringslite_Cut [.string s, .string ⟨#[c]⟩] h (cutV s c) h := by
  apply ir.internal_stringslite_Cut.spec (Nat.le_of_ble_eq_true rfl)
  simp (dsimp := false) only [↓ir.internal_stringslite_Cut.bw, ir.internal_stringslite_Cut.rs, go_sem, Nat.reduceAdd, Nat.reduceEqDiff, Nat.reduceMul, Nat.reduceLeDiff, Nat.reduceSub, Nat.reduceLT, ↓reduceIte, reduceCtorEq, List.reduceReplicate, List.flatten_cons, List.flatten_nil, List.append_nil, eq_self, Int.reduceLE, Int.reduceLT, Int.reduceToNat, Nat.min_eq_left, Int.reducePow, Int.reduceNeg, Int.reduceEq]
  refine callV_of (index_spec s c) ?_
  rcases firstIdx_cut s c with ⟨e1, e2⟩ | ⟨k, hk, e1, e2⟩
  · have b0 : decide ((-1 : Int) ≥ 0) = false := rfl
    have b1 : decide ((0 : Int) ≤ -1) = false := rfl
    rw [e1]
    simp (dsimp := false) only [go_sem, Nat.reduceAdd, Nat.reduceEqDiff, Nat.reduceMul, Nat.reduceLeDiff, Nat.reduceSub, Nat.reduceLT, ↓reduceIte, reduceCtorEq, List.reduceReplicate, List.flatten_cons, List.flatten_nil, List.append_nil, eq_self, Int.reduceLE, Int.reduceLT, Int.reduceToNat, Nat.min_eq_left, Int.reducePow, Int.reduceNeg, Int.reduceEq, b0, b1, decide_false]
    unfold cutV; rw [e2]
    exact .inl ⟨rfl, rfl⟩
  · have b0 : decide ((k : Int) ≥ 0) = true := decide_eq_true (by omega)
    have b1 : decide ((0 : Int) ≤ (k : Int)) = true := b0
    have hs : (((#[c] : Array UInt8).size : Nat) : Int) = 1 := rfl
    have w1 : IntKind.i64.wrap ((k : Int) + 1) = ((k + 1 : Nat) : Int) := wrap_succ hk (by unfold maxI; omega)
    rw [e1]
    simp (dsimp := false) only [go_sem, Nat.reduceAdd, Nat.reduceEqDiff, Nat.reduceMul, Nat.reduceLeDiff, Nat.reduceSub, Nat.reduceLT, ↓reduceIte, reduceCtorEq, List.reduceReplicate, List.flatten_cons, List.flatten_nil, List.append_nil, eq_self, Int.reduceLE, Int.reduceLT, Int.reduceToNat, Nat.min_eq_left, Int.reducePow, Int.reduceNeg, Int.reduceEq, b0, b1, hs, w1, slstrV_str, Option.getD_some, Option.getD_none, Int.toNat_natCast, Int.toNat_zero]
    refine ⟨by omega, by omega, ?_⟩
    unfold cutV; rw [e2]
    rw [extract_list, extract_list, List.drop_zero, List.take_of_length_le (show s.data.toList.length ≤ s.size from Nat.le_of_eq Array.length_toList)]
    exact .inl ⟨rfl, rfl⟩
theorem cut_spec {s : ByteArray} (hm : s.size ≤ 140737488351232) (c : UInt8) : Spec Tryd.prog nG fn.strings_Cut [.string s, .string ⟨#[c]⟩] h (cutV s c) h := by
  apply ir.strings_Cut.spec (Nat.le_of_ble_eq_true rfl)
  simp (dsimp := false) only [↓ir.strings_Cut.bw, ir.strings_Cut.rs, go_sem, Nat.reduceAdd, Nat.reduceEqDiff, Nat.reduceMul, Nat.reduceLeDiff, Nat.reduceSub, Nat.reduceLT, ↓reduceIte, reduceCtorEq, List.reduceReplicate, List.flatten_cons, List.flatten_nil, List.append_nil, eq_self, Int.reduceLE, Int.reduceLT, Int.reduceToNat, Nat.min_eq_left, Int.reducePow, Int.reduceNeg, Int.reduceEq]
  refine callV_of (scut_spec hm c) ?_
  unfold cutV
  cases cutL c s.data.toList with
  | none =>
    simp (dsimp := false) only [go_sem, Nat.reduceAdd, Nat.reduceEqDiff, Nat.reduceMul, Nat.reduceLeDiff, Nat.reduceSub, Nat.reduceLT, ↓reduceIte, reduceCtorEq, List.reduceReplicate, List.flatten_cons, List.flatten_nil, List.append_nil, eq_self, Int.reduceLE, Int.reduceLT, Int.reduceToNat, Nat.min_eq_left, Int.reducePow, Int.reduceNeg, Int.reduceEq]
    exact .inl ⟨rfl, rfl⟩
  | some x =>
    simp (dsimp := false) only [go_sem, Nat.reduceAdd, Nat.reduceEqDiff, Nat.reduceMul, Nat.reduceLeDiff, Nat.reduceSub, Nat.reduceLT, ↓reduceIte, reduceCtorEq, List.reduceReplicate, List.flatten_cons, List.flatten_nil, List.append_nil, eq_self, Int.reduceLE, Int.reduceLT, Int.reduceToNat, Nat.min_eq_left, Int.reducePow, Int.reduceNeg, Int.reduceEq]
    exact .inl ⟨rfl, rfl⟩
/-- A text cut at each place of a byte. -/
def splitL (c : UInt8) : List UInt8 → List (List UInt8)
  | [] => [[]]
  | x :: r => if x = c then [] :: splitL c r else match splitL c r with
    | [] => [[x]]
    | p :: ps => (x :: p) :: ps
theorem cutL_cons (c x : UInt8) (r : List UInt8) : cutL c (x :: r) = if x = c then some ([], r) else (cutL c r).map fun p => (x :: p.1, p.2) := by
  unfold cutL
  rw [List.findIdx?_cons]
  by_cases h : x = c
  · simp [h]
  · rw [if_neg h, if_neg (by simpa using h)]
    cases List.findIdx? (fun y => y == c) r <;> simp
theorem splitL_cut (c : UInt8) : ∀ l, splitL c l = match cutL c l with
    | some (a, b) => a :: splitL c b
    | none => [l]
  | [] => rfl
  | x :: r => by
    rw [cutL_cons, splitL]
    by_cases h : x = c
    · rw [if_pos h, if_pos h]
    · rw [if_neg h, if_neg h, splitL_cut c r]
      cases cutL c r with
      | none => rfl
      | some p => rfl
theorem splitL_len (c : UInt8) : ∀ l, (splitL c l).length = l.count c + 1
  | [] => rfl
  | x :: r => by
    rw [splitL, List.count_cons]
    by_cases h : x = c
    · rw [if_pos h]
      simp [h, splitL_len c r]
    · rw [if_neg h]
      have := splitL_len c r
      have e : (x == c) = false := by simpa using h
      cases q : splitL c r with
      | nil => rw [q] at this; simp at this
      | cons p ps => rw [q] at this; simp [e] at this ⊢; omega
/-- A text as a value. -/
def sV (l : List UInt8) : Value := .string ⟨l.toArray⟩
abbrev isStr (c : List Value) (l : List UInt8) : Prop := c = [sV l]
theorem sV_of (s : ByteArray) : sV s.data.toList = .string s := rfl
theorem sV_cells (l : List UInt8) : cellsA (sV l) = some [sV l] := rfl
theorem sV_one (l : List UInt8) : oneA (sV l) = true := rfl
theorem sV_rows (M : List (List UInt8)) : (M.flatMap fun l => [sV l]) = M.map sV := by
  induction M with
  | nil => rfl
  | cons a M ih => simp [List.flatMap_cons, ih]
theorem count_spec (s : ByteArray) (c : UInt8) : Spec Tryd.prog nG fn.strings_Count [.string s, .string ⟨#[c]⟩] h (.int .i64 (s.data.toList.count c : Nat)) h := by
  apply ir.strings_Count.spec (Nat.le_of_ble_eq_true rfl)
  have hs : (((#[c] : Array UInt8).size : Nat) : Int) = 1 := rfl
  have b0 : ((1 : Int) == 0) = false := rfl
  have b1 : ((1 : Int) == 1) = true := rfl
  have g0 : (⟨#[c]⟩ : ByteArray)[0]? = some c := rfl
  simp (dsimp := false) only [↓ir.strings_Count.bw, ir.strings_Count.rs, go_sem, Nat.reduceAdd, Nat.reduceEqDiff, Nat.reduceMul, Nat.reduceLeDiff, Nat.reduceSub, Nat.reduceLT, ↓reduceIte, reduceCtorEq, List.reduceReplicate, List.flatten_cons, List.flatten_nil, List.append_nil, eq_self, Int.reduceLE, Int.reduceLT, Int.reduceToNat, Nat.min_eq_left, Int.reducePow, Int.reduceNeg, Int.reduceEq, hs, b0, b1, ixstrV_str, Int.toNat_zero, g0]
  refine ⟨_, _, xcount s _, ?_⟩
  rw [show ((c.toNat : Int)).toNat.toUInt8 = c by simp]
  simp (dsimp := false) only [go_sem, Nat.reduceAdd, Nat.reduceEqDiff, Nat.reduceMul, Nat.reduceLeDiff, Nat.reduceSub, Nat.reduceLT, ↓reduceIte, reduceCtorEq, List.reduceReplicate, List.flatten_cons, List.flatten_nil, List.append_nil, eq_self, Int.reduceLE, Int.reduceLT, Int.reduceToNat, Nat.min_eq_left, Int.reducePow, Int.reduceNeg, Int.reduceEq]
  exact .inl ⟨rfl, rfl⟩
theorem genSplit_spec {t : ByteArray} (hm : t.size ≤ 4096) (c : UInt8) : SpecX Tryd.prog nG fn.strings_genSplit [.string t, .string ⟨#[c]⟩, .int .i64 0, .int .i64 (-1)] h fun v' h' => Pre h h' ∧ Ow h h' 1 v' (splitL c t.data.toList).length ((splitL c t.data.toList).map sV) := by
  refine SpecX.of_body (ir.strings_genSplit.spec (Nat.le_of_ble_eq_true rfl)) ?_
  have b0 : ((-1 : Int) == 0) = false := rfl
  have b1 : ((⟨#[c]⟩ : ByteArray).toList == (⟨#[]⟩ : ByteArray).toList) = false := by
    rw [ByteArray.toList_eq, ByteArray.toList_eq]; rfl
  have b2 : decide ((-1 : Int) < 0) = true := rfl
  have hlt : t.data.toList.length = t.size := Array.length_toList
  have hcl := List.count_le_length (a := c) (l := t.data.toList)
  have hsl := splitL_len c t.data.toList
  have hs : (((#[c] : Array UInt8).size : Nat) : Int) = 1 := rfl
  obtain ⟨N, hN⟩ : ∃ N, t.data.toList.count c = N := ⟨_, rfl⟩
  have hcs := count_spec (h := h) t c
  rw [hN] at hsl hcl hcs
  clear hN
  have w1 : IntKind.i64.wrap ((N : Int) + 1) = ((N + 1 : Nat) : Int) := by rw [wrap_i64 (by omega)]; omega
  have w2 : IntKind.i64.wrap ((t.size : Int) + 1) = ((t.size + 1 : Nat) : Int) := by rw [wrap_i64 (by omega)]; omega
  have w3 : IntKind.i64.wrap (((N + 1 : Nat) : Int) - 1) = (N : Int) := by rw [wrap_i64 (by omega)]; omega
  simp (dsimp := false) only [↓ir.strings_genSplit.bw, ir.strings_genSplit.rs, go_sem, Nat.reduceAdd, Nat.reduceEqDiff, Nat.reduceMul, Nat.reduceLeDiff, Nat.reduceSub, Nat.reduceLT, ↓reduceIte, reduceCtorEq, List.reduceReplicate, List.flatten_cons, List.flatten_nil, List.append_nil, eq_self, Int.reduceLE, Int.reduceLT, Int.reduceToNat, Nat.min_eq_left, Int.reducePow, Int.reduceNeg, Int.reduceEq, b0, b1, b2, decide_true]
  refine callV_of hcs ?_
  have hmin : (if ((t.size + 1 : Nat) : Int) < ((N + 1 : Nat) : Int) then ((t.size + 1 : Nat) : Int) else ((N + 1 : Nat) : Int)) = ((N + 1 : Nat) : Int) := if_neg (by omega)
  simp (dsimp := false) only [go_sem, Nat.reduceAdd, Nat.reduceEqDiff, Nat.reduceMul, Nat.reduceLeDiff, Nat.reduceSub, Nat.reduceLT, ↓reduceIte, reduceCtorEq, List.reduceReplicate, List.flatten_cons, List.flatten_nil, List.append_nil, eq_self, Int.reduceLE, Int.reduceLT, Int.reduceToNat, Nat.min_eq_left, Int.reducePow, Int.reduceNeg, Int.reduceEq, w1, w2, mmV_min, hmin, w3]
  refine ⟨⟨by omega, by omega, by omega, by omega⟩, ?_⟩
  simp only [Int.toNat_natCast]
  obtain ⟨h1, eh1⟩ : ∃ h1, h ++ [AObj.row (Mode.grow 1) (List.replicate (N + 1) [Value.string ByteArray.empty]).flatten] = h1 := ⟨_, rfl⟩
  have hp1 : Pre h h1 := eh1 ▸ .app _ _
  obtain ⟨a, ea⟩ : ∃ a, Value.slice (some ⟨h.length, 0, none⟩) (N + 1) (N + 1) = a := ⟨_, rfl⟩
  have hfl : (List.replicate (N + 1) [Value.string ByteArray.empty]).flatten = (List.replicate (N + 1) ([] : List UInt8)).map sV := by
    generalize N + 1 = n
    induction n with
    | zero => rfl
    | succ n ih => rw [List.replicate_succ, List.flatten_cons, ih, List.replicate_succ]; rfl
  have k0 : Ow h h1 1 a (N + 1) ((List.replicate (N + 1) ([] : List UInt8)).map sV) := by
    rw [← ea, ← eh1, hfl]
    have := Ow.row (h0 := h) (h := h ++ [.row (.grow 1) ((List.replicate (N + 1) ([] : List UInt8)).map sV)]) (sz := 1) (b := h.length) (off := 0) (n := N + 1) (cap := N + 1) (cells := (List.replicate (N + 1) ([] : List UInt8)).map sV) (Nat.le_refl _) (by simp) (by simp) (Nat.le_refl _) (by unfold maxI; omega)
    rw [List.drop_zero, List.take_of_length_le (by simp)] at this
    exact this
  have hne : a ≠ nilS := by rw [← ea]; intro q; cases q
  rw [eh1, ea]
  clear eh1 ea hfl
  refine loopV_of (fun m e h2 => ∃ (i : Nat) (rest : ByteArray) (M : List (List UInt8)), m = N - i ∧ i ≤ N ∧ M.length = N + 1 ∧ splitL c t.data.toList = M.take i ++ splitL c rest.data.toList ∧ rest.size ≤ t.size ∧ Pre h h2 ∧ Ow h h2 1 a (N + 1) (M.map sV) ∧
    e = [(0, .string rest), (1, .string ⟨#[c]⟩), (2, .int .i64 0), (3, .int .i64 N), (9, a), (10, .int .i64 i)]) _
    ⟨0, t, _, rfl, Nat.zero_le _, by simp, by simp, Nat.le_refl _, hp1, k0, rfl⟩ ?_
  clear k0 hp1 hcs
  clear h1
  rintro m e h2 ⟨i, rest, M, rfl, hi, hM, hsp, hrs, hp, ko, rfl⟩
  have hra : ∀ {x : List UInt8}, ∃ o, wrs h2 (sb a) (so a + i * 1) [sV x] = some (h2.set (sb a) o) ∧ Ow h (h2.set (sb a) o) 1 a (N + 1) ((M.set i x).map sV) := fun {x} => by
    obtain ⟨o, w1, w2, _⟩ := ko.wr (off := i) (vs := [sV x]) (by simp; omega) (by simp)
    refine ⟨o, by rw [Nat.mul_one]; exact w1, ?_⟩
    rw [setC_cons, setC_nil] at w2
    rw [List.map_set]
    exact w2
  have lany : Ls h2 1 (fun _ (_ : Unit) => True) a (List.replicate (N + 1) ()) := ⟨_, by rw [List.length_replicate]; exact ko.sl, fun _ _ => trivial⟩
  have hpa := ko.place.resolve_left hne
  rcases Nat.lt_or_ge i N with hl | hg
  · have e0 : (i : Int) < (N : Int) := by omega
    have wi : IntKind.i64.wrap ((i : Int) + 1) = ((i + 1 : Nat) : Int) := by rw [wrap_i64 (by omega)]; omega
    simp (dsimp := false) only [↓ir.strings_genSplit.l1.bw, go_sem, Nat.reduceAdd, Nat.reduceEqDiff, Nat.reduceMul, Nat.reduceLeDiff, Nat.reduceSub, Nat.reduceLT, ↓reduceIte, reduceCtorEq, List.reduceReplicate, List.flatten_cons, List.flatten_nil, List.append_nil, eq_self, Int.reduceLE, Int.reduceLT, Int.reduceToNat, Nat.min_eq_left, Int.reducePow, Int.reduceNeg, Int.reduceEq, e0, decide_true]
    have hidx : Spec Tryd.prog nG fn.strings_Index [.string rest, .string ⟨#[c]⟩] h2 (.int .i64 (firstIdx rest c)) h2 := by
      apply ir.strings_Index.spec (Nat.le_of_ble_eq_true rfl)
      simp (dsimp := false) only [↓ir.strings_Index.bw, ir.strings_Index.rs, go_sem, Nat.reduceAdd, Nat.reduceEqDiff, Nat.reduceMul, Nat.reduceLeDiff, Nat.reduceSub, Nat.reduceLT, ↓reduceIte, reduceCtorEq, List.reduceReplicate, List.flatten_cons, List.flatten_nil, List.append_nil, eq_self, Int.reduceLE, Int.reduceLT, Int.reduceToNat, Nat.min_eq_left, Int.reducePow, Int.reduceNeg, Int.reduceEq]
      refine callV_of (index_spec rest c) ?_
      simp (dsimp := false) only [go_sem, Nat.reduceAdd, Nat.reduceEqDiff, Nat.reduceMul, Nat.reduceLeDiff, Nat.reduceSub, Nat.reduceLT, ↓reduceIte, reduceCtorEq, List.reduceReplicate, List.flatten_cons, List.flatten_nil, List.append_nil, eq_self, Int.reduceLE, Int.reduceLT, Int.reduceToNat, Nat.min_eq_left, Int.reducePow, Int.reduceNeg, Int.reduceEq]
      exact .inl ⟨rfl, rfl⟩
    refine callV_of hidx ?_
    have hrl : rest.data.toList.length = rest.size := Array.length_toList
    rcases firstIdx_cut rest c with ⟨e1, e2⟩ | ⟨k, hk, e1, e2⟩
    · exfalso
      rw [splitL_cut c rest.data.toList, e2] at hsp
      have := congrArg List.length hsp
      rw [hsl] at this
      simp at this
      omega
    · have c0 : decide ((k : Int) < 0) = false := decide_eq_false (by omega)
      have c1 : (0 : Int) ≤ (k : Int) := by omega
      have w4 : IntKind.i64.wrap ((k : Int) + 0) = (k : Int) := by rw [wrap_i64 (by omega)]; omega
      have w5 : IntKind.i64.wrap ((k : Int) + 1) = ((k + 1 : Nat) : Int) := by rw [wrap_i64 (by omega)]; omega
      obtain ⟨o, w6, k6⟩ := hra (x := rest.data.toList.take k)
      have hx : Value.string (rest.extract 0 k) = sV (rest.data.toList.take k) := by rw [extract_list, List.drop_zero]; rfl
      rw [e1]
      simp (dsimp := false) only [go_sem, Nat.reduceAdd, Nat.reduceEqDiff, Nat.reduceMul, Nat.reduceLeDiff, Nat.reduceSub, Nat.reduceLT, ↓reduceIte, reduceCtorEq, List.reduceReplicate, List.flatten_cons, List.flatten_nil, List.append_nil, eq_self, Int.reduceLE, Int.reduceLT, Int.reduceToNat, Nat.min_eq_left, Int.reducePow, Int.reduceNeg, Int.reduceEq, c0, w4, slstrV_str, Option.getD_some, Option.getD_none, Int.toNat_natCast, Int.toNat_zero]
      refine ⟨by omega, ?_⟩
      simp (dsimp := false) only [go_sem, Nat.reduceAdd, Nat.reduceEqDiff, Nat.reduceMul, Nat.reduceLeDiff, Nat.reduceSub, Nat.reduceLT, ↓reduceIte, reduceCtorEq, List.reduceReplicate, List.flatten_cons, List.flatten_nil, List.append_nil, eq_self, Int.reduceLE, Int.reduceLT, Int.reduceToNat, Nat.min_eq_left, Int.reducePow, Int.reduceNeg, Int.reduceEq, hx, sV_cells, sV_one, Bool.and_true, lany.ixsN (show i < (List.replicate (N + 1) ()).length by simp; omega), w6, hs, w5, slstrV_str, Option.getD_some, Option.getD_none, Int.toNat_natCast, Int.toNat_zero]
      refine ⟨by omega, ?_⟩
      simp (dsimp := false) only [go_sem, Nat.reduceAdd, Nat.reduceEqDiff, Nat.reduceMul, Nat.reduceLeDiff, Nat.reduceSub, Nat.reduceLT, ↓reduceIte, reduceCtorEq, List.reduceReplicate, List.flatten_cons, List.flatten_nil, List.append_nil, eq_self, Int.reduceLE, Int.reduceLT, Int.reduceToNat, Nat.min_eq_left, Int.reducePow, Int.reduceNeg, Int.reduceEq, wi, Option.getD_some, Option.getD_none, Int.toNat_natCast]
      refine ⟨N - (i + 1), by omega, i + 1, _, _, rfl, hl, by simpa using hM, ?_, ?_, hp.set hpa.1 _, k6, rfl⟩
      · rw [hsp, splitL_cut c rest.data.toList, e2, extract_list, List.take_of_length_le (show rest.data.toList.length ≤ rest.size by omega)]
        rw [List.take_succ_eq_append_getElem (by simp; omega), List.take_set_of_le (Nat.le_refl _), List.getElem_set_self, List.append_assoc]
        rfl
      · rw [ByteArray.size_extract]; omega
  · obtain rfl : i = N := by omega
    have e0 : ¬ (i : Int) < (i : Int) := by omega
    have wi : IntKind.i64.wrap ((i : Int) + 1) = ((i + 1 : Nat) : Int) := by rw [wrap_i64 (by omega)]; omega
    have hcut : splitL c rest.data.toList = [rest.data.toList] := by
      rw [splitL_cut c rest.data.toList] at hsp ⊢
      cases q : cutL c rest.data.toList with
      | none => rfl
      | some p =>
        rw [q] at hsp
        have := congrArg List.length hsp
        rw [hsl, List.length_append, List.length_take, Nat.min_eq_left (by omega)] at this
        have h2 := splitL_len c p.2
        simp only [List.length_cons] at this
        omega
    obtain ⟨o, w6, k6⟩ := hra (x := rest.data.toList)
    rw [sV_of] at w6
    have lany2 : Ls (h2.set (sb a) o) 1 (fun _ (_ : Unit) => True) a (List.replicate (i + 1) ()) := ⟨_, by rw [List.length_replicate]; exact k6.sl, fun _ _ => trivial⟩
    have a2 := fun (K : Value → AHeap → Prop) (u : Hold K) => lany2.slToI (K := K) (u := u) (m := ((i + 1 : Nat) : Int)) (by omega) (by simp) (by simp) (.refl _)
    simp only [Int.toNat_natCast] at a2
    simp (dsimp := false) only [↓ir.strings_genSplit.l1.bw, go_sem, Nat.reduceAdd, Nat.reduceEqDiff, Nat.reduceMul, Nat.reduceLeDiff, Nat.reduceSub, Nat.reduceLT, ↓reduceIte, reduceCtorEq, List.reduceReplicate, List.flatten_cons, List.flatten_nil, List.append_nil, eq_self, Int.reduceLE, Int.reduceLT, Int.reduceToNat, Nat.min_eq_left, Int.reducePow, Int.reduceNeg, Int.reduceEq, e0, decide_false]
    simp (dsimp := false) only [go_sem, Nat.reduceAdd, Nat.reduceEqDiff, Nat.reduceMul, Nat.reduceLeDiff, Nat.reduceSub, Nat.reduceLT, ↓reduceIte, reduceCtorEq, List.reduceReplicate, List.flatten_cons, List.flatten_nil, List.append_nil, eq_self, Int.reduceLE, Int.reduceLT, Int.reduceToNat, Nat.min_eq_left, Int.reducePow, Int.reduceNeg, Int.reduceEq, lany.ixsN (show i < (List.replicate (i + 1) ()).length by simp), w6, wi, a2]
    have hend : M.set i rest.data.toList = splitL c t.data.toList := by
      rw [hsp, hcut]
      have := List.take_append_drop i (M.set i rest.data.toList)
      rw [← this, List.take_set_of_le (Nat.le_refl _), List.drop_eq_getElem_cons (by simp; omega), List.getElem_set_self, List.drop_of_length_le (by simp; omega)]
    obtain ⟨k7, _⟩ := k6.front (m := i + 1) (Nat.le_refl _)
    rw [List.take_of_length_le (by simp; omega), hend] at k7
    rw [hsl]
    exact ⟨hp.set hpa.1 _, k7⟩
theorem split_spec {t : ByteArray} (hm : t.size ≤ 4096) (c : UInt8) : SpecX Tryd.prog nG fn.strings_Split [.string t, .string ⟨#[c]⟩] h fun v' h' => Pre h h' ∧ Ow h h' 1 v' (splitL c t.data.toList).length ((splitL c t.data.toList).map sV) := by
  refine SpecX.of_body (ir.strings_Split.spec (Nat.le_of_ble_eq_true rfl)) ?_
  simp (dsimp := false) only [↓ir.strings_Split.bw, ir.strings_Split.rs, go_sem, Nat.reduceAdd, Nat.reduceEqDiff, Nat.reduceMul, Nat.reduceLeDiff, Nat.reduceSub, Nat.reduceLT, ↓reduceIte, reduceCtorEq, List.reduceReplicate, List.flatten_cons, List.flatten_nil, List.append_nil, eq_self, Int.reduceLE, Int.reduceLT, Int.reduceToNat, Nat.min_eq_left, Int.reducePow, Int.reduceNeg, Int.reduceEq]
  refine callV_x (genSplit_spec hm c) ?_
  rintro v' h' ⟨hp, ho⟩
  simp (dsimp := false) only [go_sem, Nat.reduceAdd, Nat.reduceEqDiff, Nat.reduceMul, Nat.reduceLeDiff, Nat.reduceSub, Nat.reduceLT, ↓reduceIte, reduceCtorEq, List.reduceReplicate, List.flatten_cons, List.flatten_nil, List.append_nil, eq_self, Int.reduceLE, Int.reduceLT, Int.reduceToNat, Nat.min_eq_left, Int.reducePow, Int.reduceNeg, Int.reduceEq]
  exact ⟨hp, ho⟩
end Go.Proofs.YtoiihalnbdehkaaDoor.B
