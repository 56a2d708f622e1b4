/-
  Layer 23: what the library's calls answer: strconv.Atoi, and the counting and finding of a byte.
-/
import Derived.Test.YtoiihalnbdehkaaDoorKA
import Derived.Test.YtoiihalnbdehkaaDoorIr03
import Derived.Test.YtoiihalnbdehkaaDoorSs
import Derived.Lib.Bytealg
import Derived.Test.YtoiihalnbdehkaaDoorIr23
namespace Go.Proofs.YtoiihalnbdehkaaDoor.B
open Go Go.RowKit
set_option linter.unusedVariables false
set_option linter.unusedSimpArgs false
set_option maxRecDepth 100000
theorem vr_pair {μ : Ren} {h : AHeap} {a b a' b' : Value} (h1 : VR μ h a a') (h2 : VR μ h b b') : VR μ h (.tuple #[a, b]) (.tuple #[a', b']) := by
  refine VR.tuple rfl fun i => ?_
  match i with
  | 0 => exact h1
  | 1 => exact h2
  | n + 2 => exact .any _
theorem bytesWorld_below (w : World) (e : TypeId) (s : ByteArray) : Below w.heap.size w (Lib.bytesWorld w e s) := ⟨rfl, rfl, rfl, by rw [Lib.bytesWorld_size]; omega, fun j hj => Lib.bytesWorld_at_old w e s j hj⟩
theorem args_one {μ : Ren} {h : AHeap} {t : ByteArray} {args' : Array Value} (l : VL μ h [.string t] args'.toList) : args' = #[.string t] := by
  apply Array.toList_inj.1
  exact l.plain_inv rfl
theorem args_two {μ : Ren} {h : AHeap} {a b : Value} {args' : Array Value} (vl : VL μ h [a, b] args'.toList) : ∃ x y, args' = #[x, y] ∧ VR μ h a x ∧ VR μ h b y := by
  obtain ⟨l1, l2⟩ := vl
  obtain ⟨x, y, he⟩ : ∃ x y, args'.toList = [x, y] := by
    match hq : args'.toList, l1 with
    | [x, y], _ => exact ⟨x, y, rfl⟩
  have ha : args' = #[x, y] := by apply Array.toList_inj.1; simpa using he
  rw [he] at l2
  exact ⟨x, y, ha, l2 0 _ _ rfl rfl, l2 1 _ _ rfl rfl⟩
theorem atoi_ok {h : AHeap} {t : ByteArray} (hm : t.size ≤ 140737488351232) {n : Int} (hp : Lib.atoiAll t.data.toList = .ok n) : Spec Tryd.prog nG fn.strconv_Atoi [.string t] h (.tuple #[.int .i64 n, .nilIface]) h := by
  intro μ w args' s l
  rw [args_one l]
  refine (Any.strconv_Atoi_ok Tryd.laysC172 t (by omega) n hp w).mono fun e w' ⟨he, hw⟩ => ⟨_, μ, he, vr_pair (.int _ _) .nilIface, Step.of_below s ?_⟩
  rcases hw with rfl | ⟨b, rfl⟩
  · exact Below.refl _ _
  · exact bytesWorld_below _ _ _
theorem xindex {h : AHeap} (s : ByteArray) (c : Int) : XSpec Tryd.prog nG none fn.internal_bytealg_IndexByteString [.string s, .int .u8 c] h (.int .i64 (firstIdx s c.toNat.toUInt8)) h := by
  intro μ w args' sm vl o a next Q hn
  obtain ⟨x, y, rfl, h1, h2⟩ := args_two vl
  cases h1; cases h2
  have hrun := run_indexByte_string (P := Tryd.prog) s c w
  have := run_callFunc_extern (P := Tryd.prog) (f := fn.internal_bytealg_IndexByteString) (e := Extern.BytealgIndexByte.indexByte) (fn := Tryd.f152) Tryd.func152 (by kernel_rfl) (by kernel_rfl) (by kernel_rfl) (by kernel_rfl) #[.string s, .int .u8 c] w
  simp only [runX, this, hrun, Result.andThen]
  rw [Oper.upon_value]
  exact hn _ _ _ (.int _ _) (Step.refl sm)
theorem xcount {h : AHeap} (s : ByteArray) (c : Int) : XSpec Tryd.prog nG none fn.internal_bytealg_CountString [.string s, .int .u8 c] h (.int .i64 (Lib.countByte s.data.toList c.toNat.toUInt8)) h := by
  intro μ w args' sm vl o a next Q hn
  obtain ⟨x, y, rfl, h1, h2⟩ := args_two vl
  cases h1; cases h2
  have hrun := Lib.run_countString (P := Tryd.prog) s c w
  have := run_callFunc_extern (P := Tryd.prog) (f := fn.internal_bytealg_CountString) (e := Extern.BytealgCount.count) (fn := Tryd.f148) Tryd.func148 (by kernel_rfl) (by kernel_rfl) (by kernel_rfl) (by kernel_rfl) #[.string s, .int .u8 c] w
  simp only [runX, this, hrun, Result.andThen]
  rw [Oper.upon_value]
  exact hn _ _ _ (.int _ _) (Step.refl sm)
theorem good_atoi : goodFn Tryd.prog fn.strconv_Atoi = true := by kernel_rfl
/-- What is known of calls. -/
def cfgCall (f : FuncId) (args : List Value) (h : AHeap) : Res :=
  if f = fn.strconv_Atoi then match args with
    | [.string t] => match Lib.atoiAll t.data.toList with
      | .ok n => if t.size ≤ 1000 then some (.tuple #[.int .i64 n, .nilIface], h) else none
      | _ => none
    | _ => none
  else none
def cfgX (m : Option String) (f : FuncId) (args : List Value) (h : AHeap) : Res :=
  match m, args with
  | none, [.string s, .int .u8 c] => if f = fn.internal_bytealg_IndexByteString then some (.int .i64 (firstIdx s c.toNat.toUInt8), h)
    else if f = fn.internal_bytealg_CountString then some (.int .i64 (Lib.countByte s.data.toList c.toNat.toUInt8), h) else none
  | _, _ => none
def cfgOrc : Orc := ⟨cfgCall, cfgX⟩
theorem cfgOrc_ok : cfgOrc.ok Tryd.prog nG := by
  refine ⟨fun f args h v h' q => ?_, fun m f args h v h' q => ?_⟩
  · simp only [cfgOrc, cfgCall] at q
    split at q
    · rename_i hf
      subst hf
      split at q
      · split at q
        · rename_i n hn
          split at q
          · rename_i t _ hs
            obtain ⟨rfl, rfl⟩ := Prod.mk.inj (Option.some.inj q)
            exact ⟨atoi_ok (by omega) hn, good_atoi⟩
          · cases q
        · cases q
      · cases q
    · cases q
  · simp only [cfgOrc, cfgX] at q
    split at q
    · split at q
      · rename_i hf
        subst hf
        obtain ⟨rfl, rfl⟩ := Prod.mk.inj (Option.some.inj q)
        exact xindex _ _
      · split at q
        · rename_i hf
          subst hf
          obtain ⟨rfl, rfl⟩ := Prod.mk.inj (Option.some.inj q)
          exact xcount _ _
        · cases q
    · cases q
end Go.Proofs.YtoiihalnbdehkaaDoor.B
/-
  Layer 23: the document's examples, run by the kernel, with what is known of the library's calls.
-/
namespace Go.Proofs.YtoiihalnbdehkaaDoor.B
open Go
set_option linter.unusedVariables false
set_option linter.unusedSimpArgs false
set_option maxRecDepth 100000
def powRow : List Value := (List.range 20).map fun i => .int .u64 ((10 ^ i : Nat) : Int)
def hC : AHeap := [.dead, .dead, .dead, .row .ro powRow, .dead, .dead, .dead, .dead]
def PowG (h : AHeap) : Prop := h[gv.internal_strconv_uint64pow10]? = some (.row .ro powRow)
theorem get_pre {h h' : AHeap} (p : Pre h h') {b : Nat} {o : AObj} (k : h[b]? = some o) : h'[b]? = some o := by rw [p.get (List.getElem?_eq_some_iff.1 k).1]; exact k
theorem PowG.pre {h h' : AHeap} (p : Pre h h') (k : PowG h) : PowG h' := get_pre p k
theorem PowG.powV {h : AHeap} (k : PowG h) : PowV h := by
  unfold PowG at k
  unfold PowV rds
  rw [k]; rfl
theorem cawake_spec {h : AHeap} (k : PowG h) : Spec Tryd.prog nG fn.law23_awake [] h (.bool true) h := by
  refine Spec.of_runX (h0 := hC) (m := 3000) (n := 20) tbl.law23_awake.ok cfgOrc_ok rfl rfl (by kernel_rfl) rfl (fun b o hb ho => ?_) (by kernel_rfl)
  match b, hb with
  | 3, hb => cases hb; exact k
  | 0, hb => cases hb; exact absurd rfl ho
  | 1, hb => cases hb; exact absurd rfl ho
  | 2, hb => cases hb; exact absurd rfl ho
  | 4, hb => cases hb; exact absurd rfl ho
  | 5, hb => cases hb; exact absurd rfl ho
  | 6, hb => cases hb; exact absurd rfl ho
  | 7, hb => cases hb; exact absurd rfl ho
end Go.Proofs.YtoiihalnbdehkaaDoor.B
