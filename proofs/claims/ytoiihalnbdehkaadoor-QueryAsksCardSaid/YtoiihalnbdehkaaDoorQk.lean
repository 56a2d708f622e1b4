/-
  strings.Cut at one byte.
-/
import Derived.Test.YtoiihalnbdehkaaDoorIr25
import Derived.Test.YtoiihalnbdehkaaDoorQ0
import Derived.Test.YtoiihalnbdehkaaDoorSr
namespace Go.Proofs.YtoiihalnbdehkaaDoor.B
open Go
set_option linter.unusedVariables false
set_option linter.unusedSimpArgs false
set_option maxRecDepth 100000
variable {G : Nat} {h : AHeap}
theorem args_two {μ : Ren} {h : AHeap} {a b : Value} {args' : Array Value} (vl : VL μ h [a, b] args'.toList) : ∃ x y, args' = #[x, y] ∧ VR μ h a x ∧ VR μ h b y := by
  obtain ⟨l1, l2⟩ := vl
  obtain ⟨x, y, he⟩ : ∃ x y, args'.toList = [x, y] := by
    match hq : args'.toList, l1 with
    | [x, y], _ => exact ⟨x, y, rfl⟩
  have ha : args' = #[x, y] := by apply Array.toList_inj.1; simpa using he
  rw [he] at l2
  exact ⟨x, y, ha, l2 0 _ _ rfl rfl, l2 1 _ _ rfl rfl⟩
theorem xindex (s : ByteArray) (c : Int) : XSpec Tryd.prog G none fn.internal_bytealg_IndexByteString [.string s, .int .u8 c] h (.int .i64 (firstIdx s c.toNat.toUInt8)) h := by
  intro μ w args' sm vl o a next Q hn
  obtain ⟨x, y, rfl, h1, h2⟩ := args_two vl
  cases h1; cases h2
  have hrun := run_indexByte_string (P := Tryd.prog) s c w
  have := run_callFunc_extern (P := Tryd.prog) (f := fn.internal_bytealg_IndexByteString) (e := Extern.BytealgIndexByte.indexByte) (fn := Tryd.f152) Tryd.func152 (by kernel_rfl) (by kernel_rfl) (by kernel_rfl) (by kernel_rfl) #[.string s, .int .u8 c] w
  simp only [runX, this, hrun, Result.andThen]
  rw [Oper.upon_value]
  exact hn _ _ _ (.int _ _) (Step.refl sm)
theorem indexByte_spec (s : ByteArray) (c : Int) : Spec Tryd.prog nG fn.internal_stringslite_IndexByte [.string s, .int .u8 c] h (.int .i64 (firstIdx s c.toNat.toUInt8)) h := by
  apply ir.internal_stringslite_IndexByte.spec (Nat.le_of_ble_eq_true rfl)
  simp (dsimp := false) only [↓ir.internal_stringslite_IndexByte.bw, ir.internal_stringslite_IndexByte.rs, go_sem, Nat.reduceAdd, Nat.reduceEqDiff, Nat.reduceMul, Nat.reduceLeDiff, Nat.reduceSub, Nat.reduceLT, ↓reduceIte, reduceCtorEq, List.reduceReplicate, List.flatten_cons, List.flatten_nil, List.append_nil, eq_self, Int.reduceLE, Int.reduceLT, Int.reduceToNat, Nat.min_eq_left, Int.reducePow, Int.reduceNeg, Int.reduceEq]
  refine ⟨_, _, xindex s c, ?_⟩
  simp (dsimp := false) only [go_sem, Nat.reduceAdd, Nat.reduceEqDiff, Nat.reduceMul, Nat.reduceLeDiff, Nat.reduceSub, Nat.reduceLT, ↓reduceIte, reduceCtorEq, List.reduceReplicate, List.flatten_cons, List.flatten_nil, List.append_nil, eq_self, Int.reduceLE, Int.reduceLT, Int.reduceToNat, Nat.min_eq_left, Int.reducePow, Int.reduceNeg, Int.reduceEq]
  exact .inl ⟨rfl, rfl⟩
theorem index_spec (s : ByteArray) (c : UInt8) : Spec Tryd.prog nG fn.internal_stringslite_Index [.string s, .string ⟨#[c]⟩] h (.int .i64 (firstIdx s c)) h := by
  apply ir.internal_stringslite_Index.spec (Nat.le_of_ble_eq_true rfl)
  have hs : (((#[c] : Array UInt8).size : Nat) : Int) = 1 := rfl
  have b0 : ((1 : Int) == 0) = false := rfl
  have b1 : ((1 : Int) == 1) = true := rfl
  have g0 : (⟨#[c]⟩ : ByteArray)[0]? = some c := rfl
  simp (dsimp := false) only [↓ir.internal_stringslite_Index.bw, ir.internal_stringslite_Index.rs, go_sem, Nat.reduceAdd, Nat.reduceEqDiff, Nat.reduceMul, Nat.reduceLeDiff, Nat.reduceSub, Nat.reduceLT, ↓reduceIte, reduceCtorEq, List.reduceReplicate, List.flatten_cons, List.flatten_nil, List.append_nil, eq_self, Int.reduceLE, Int.reduceLT, Int.reduceToNat, Nat.min_eq_left, Int.reducePow, Int.reduceNeg, Int.reduceEq, hs, b0, b1, ixstrV_str, Int.toNat_zero, g0]
  refine cV (fun e => ?_) (fun e => ?_)
  · have e2 : s = ⟨#[c]⟩ := by
      have e3 : (⟨#[c]⟩ : ByteArray).toList = s.toList := by simpa using e
      rw [ByteArray.toList_eq, ByteArray.toList_eq] at e3
      apply ByteArray.ext
      apply Array.toList_inj.1
      exact e3.symm
    subst e2
    simp (dsimp := false) only [go_sem, Nat.reduceAdd, Nat.reduceEqDiff, Nat.reduceMul, Nat.reduceLeDiff, Nat.reduceSub, Nat.reduceLT, ↓reduceIte, reduceCtorEq, List.reduceReplicate, List.flatten_cons, List.flatten_nil, List.append_nil, eq_self, Int.reduceLE, Int.reduceLT, Int.reduceToNat, Nat.min_eq_left, Int.reducePow, Int.reduceNeg, Int.reduceEq]
    have e4 : firstIdx ⟨#[c]⟩ c = 0 := by
      rcases firstIdx_cut ⟨#[c]⟩ c with ⟨_, q⟩ | ⟨k, hk, q, _⟩
      · have q2 : cutL c [c] = none := q
        rw [cutL_some (c := c) (l := [c]) (p := 0) (by simp) rfl (fun j hj => absurd hj (Nat.not_lt_zero _))] at q2
        cases q2
      · have hk1 : k < 1 := hk
        rw [q]
        have : k = 0 := by omega
        subst this; rfl
    exact .inl ⟨by rw [e4], rfl⟩
  · simp (dsimp := false) only [go_sem, Nat.reduceAdd, Nat.reduceEqDiff, Nat.reduceMul, Nat.reduceLeDiff, Nat.reduceSub, Nat.reduceLT, ↓reduceIte, reduceCtorEq, List.reduceReplicate, List.flatten_cons, List.flatten_nil, List.append_nil, eq_self, Int.reduceLE, Int.reduceLT, Int.reduceToNat, Nat.min_eq_left, Int.reducePow, Int.reduceNeg, Int.reduceEq, hs, b0, b1, ixstrV_str, Int.toNat_zero, g0]
    refine callV_of (indexByte_spec s _) ?_
    rw [show ((c.toNat : Int)).toNat.toUInt8 = c by simp]
    simp (dsimp := false) only [go_sem, Nat.reduceAdd, Nat.reduceEqDiff, Nat.reduceMul, Nat.reduceLeDiff, Nat.reduceSub, Nat.reduceLT, ↓reduceIte, reduceCtorEq, List.reduceReplicate, List.flatten_cons, List.flatten_nil, List.append_nil, eq_self, Int.reduceLE, Int.reduceLT, Int.reduceToNat, Nat.min_eq_left, Int.reducePow, Int.reduceNeg, Int.reduceEq]
    exact .inl ⟨rfl, rfl⟩
/-- What Cut answers. -/
def cutV (s : ByteArray) (c : UInt8) : Value := match cutL c s.data.toList with
  | some (a, b) => .tuple #[.string ⟨a.toArray⟩, .string ⟨b.toArray⟩, .bool true]
  | none => .tuple #[.string s, .string ⟨#[]⟩, .bool false]
theorem extract_list (s : ByteArray) (a b : Nat) : s.extract a b = ⟨((s.data.toList.take b).drop a).toArray⟩ := by
  apply ByteArray.ext
  apply Array.toList_inj.1
  rw [ByteArray.data_extract, Array.toList_extract]
  simp [List.extract, List.drop_take]
theorem scut_spec {s : ByteArray} (hm : s.size ≤ 140737488351232) (c : UInt8) : Spec Tryd.prog nG fn.internal_stringslite_Cut [.string s, .string ⟨#[c]⟩] h (cutV s c) h := by
  apply ir.internal_stringslite_Cut.spec (Nat.le_of_ble_eq_true rfl)
  simp (dsimp := false) only [↓ir.internal_stringslite_Cut.bw, ir.internal_stringslite_Cut.rs, go_sem, Nat.reduceAdd, Nat.reduceEqDiff, Nat.reduceMul, Nat.reduceLeDiff, Nat.reduceSub, Nat.reduceLT, ↓reduceIte, reduceCtorEq, List.reduceReplicate, List.flatten_cons, List.flatten_nil, List.append_nil, eq_self, Int.reduceLE, Int.reduceLT, Int.reduceToNat, Nat.min_eq_left, Int.reducePow, Int.reduceNeg, Int.reduceEq]
  refine callV_of (index_spec s c) ?_
  rcases firstIdx_cut s c with ⟨e1, e2⟩ | ⟨k, hk, e1, e2⟩
  · have b0 : decide ((-1 : Int) ≥ 0) = false := rfl
    have b1 : decide ((0 : Int) ≤ -1) = false := rfl
    rw [e1]
    simp (dsimp := false) only [go_sem, Nat.reduceAdd, Nat.reduceEqDiff, Nat.reduceMul, Nat.reduceLeDiff, Nat.reduceSub, Nat.reduceLT, ↓reduceIte, reduceCtorEq, List.reduceReplicate, List.flatten_cons, List.flatten_nil, List.append_nil, eq_self, Int.reduceLE, Int.reduceLT, Int.reduceToNat, Nat.min_eq_left, Int.reducePow, Int.reduceNeg, Int.reduceEq, b0, b1, decide_false]
    unfold cutV; rw [e2]
    exact .inl ⟨rfl, rfl⟩
  · have b0 : decide ((k : Int) ≥ 0) = true := decide_eq_true (by omega)
    have b1 : decide ((0 : Int) ≤ (k : Int)) = true := b0
    have hs : (((#[c] : Array UInt8).size : Nat) : Int) = 1 := rfl
    have w1 : IntKind.i64.wrap ((k : Int) + 1) = ((k + 1 : Nat) : Int) := wrap_succ hk (by unfold maxI; omega)
    rw [e1]
    simp (dsimp := false) only [go_sem, Nat.reduceAdd, Nat.reduceEqDiff, Nat.reduceMul, Nat.reduceLeDiff, Nat.reduceSub, Nat.reduceLT, ↓reduceIte, reduceCtorEq, List.reduceReplicate, List.flatten_cons, List.flatten_nil, List.append_nil, eq_self, Int.reduceLE, Int.reduceLT, Int.reduceToNat, Nat.min_eq_left, Int.reducePow, Int.reduceNeg, Int.reduceEq, b0, b1, hs, w1, slstrV_str, Option.getD_some, Option.getD_none, Int.toNat_natCast, Int.toNat_zero]
    refine ⟨by omega, by omega, ?_⟩
    unfold cutV; rw [e2]
    rw [extract_list, extract_list, List.drop_zero, List.take_of_length_le (show s.data.toList.length ≤ s.size from Nat.le_of_eq Array.length_toList)]
    exact .inl ⟨rfl, rfl⟩
theorem cut_spec {s : ByteArray} (hm : s.size ≤ 140737488351232) (c : UInt8) : Spec Tryd.prog nG fn.strings_Cut [.string s, .string ⟨#[c]⟩] h (cutV s c) h := by
  apply ir.strings_Cut.spec (Nat.le_of_ble_eq_true rfl)
  simp (dsimp := false) only [↓ir.strings_Cut.bw, ir.strings_Cut.rs, go_sem, Nat.reduceAdd, Nat.reduceEqDiff, Nat.reduceMul, Nat.reduceLeDiff, Nat.reduceSub, Nat.reduceLT, ↓reduceIte, reduceCtorEq, List.reduceReplicate, List.flatten_cons, List.flatten_nil, List.append_nil, eq_self, Int.reduceLE, Int.reduceLT, Int.reduceToNat, Nat.min_eq_left, Int.reducePow, Int.reduceNeg, Int.reduceEq]
  refine callV_of (scut_spec hm c) ?_
  unfold cutV
  cases cutL c s.data.toList with
  | none =>
    simp (dsimp := false) only [go_sem, Nat.reduceAdd, Nat.reduceEqDiff, Nat.reduceMul, Nat.reduceLeDiff, Nat.reduceSub, Nat.reduceLT, ↓reduceIte, reduceCtorEq, List.reduceReplicate, List.flatten_cons, List.flatten_nil, List.append_nil, eq_self, Int.reduceLE, Int.reduceLT, Int.reduceToNat, Nat.min_eq_left, Int.reducePow, Int.reduceNeg, Int.reduceEq]
    exact .inl ⟨rfl, rfl⟩
  | some x =>
    simp (dsimp := false) only [go_sem, Nat.reduceAdd, Nat.reduceEqDiff, Nat.reduceMul, Nat.reduceLeDiff, Nat.reduceSub, Nat.reduceLT, ↓reduceIte, reduceCtorEq, List.reduceReplicate, List.flatten_cons, List.flatten_nil, List.append_nil, eq_self, Int.reduceLE, Int.reduceLT, Int.reduceToNat, Nat.min_eq_left, Int.reducePow, Int.reduceNeg, Int.reduceEq]
    exact .inl ⟨rfl, rfl⟩
end Go.Proofs.YtoiihalnbdehkaaDoor.B
