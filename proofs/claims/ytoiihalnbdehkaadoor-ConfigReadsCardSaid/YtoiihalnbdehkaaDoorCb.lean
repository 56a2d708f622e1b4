/-
  Layer 23: the document's examples, run by the kernel, with what is known of the library's calls.
-/
import Derived.Test.YtoiihalnbdehkaaDoorCa
import Derived.Test.YtoiihalnbdehkaaDoorIr23
namespace Go.Proofs.YtoiihalnbdehkaaDoor.B
open Go
set_option linter.unusedVariables false
set_option linter.unusedSimpArgs false
set_option maxRecDepth 100000
def powRow : List Value := (List.range 20).map fun i => .int .u64 ((10 ^ i : Nat) : Int)
def hC : AHeap := [.dead, .dead, .dead, .row .ro powRow, .dead, .dead, .dead, .dead]
def PowG (h : AHeap) : Prop := h[gv.internal_strconv_uint64pow10]? = some (.row .ro powRow)
theorem get_pre {h h' : AHeap} (p : Pre h h') {b : Nat} {o : AObj} (k : h[b]? = some o) : h'[b]? = some o := by rw [p.get (List.getElem?_eq_some_iff.1 k).1]; exact k
theorem PowG.pre {h h' : AHeap} (p : Pre h h') (k : PowG h) : PowG h' := get_pre p k
theorem PowG.powV {h : AHeap} (k : PowG h) : PowV h := by
  unfold PowG at k
  unfold PowV rds
  rw [k]; rfl
theorem cawake_spec {h : AHeap} (k : PowG h) : Spec Tryd.prog nG fn.law23_awake [] h (.bool true) h := by
  refine Spec.of_runX (h0 := hC) (m := 3000) (n := 20) tbl.law23_awake.ok cfgOrc_ok rfl rfl (by kernel_rfl) rfl (fun b o hb ho => ?_) (by kernel_rfl)
  match b, hb with
  | 3, hb => cases hb; exact k
  | 0, hb => cases hb; exact absurd rfl ho
  | 1, hb => cases hb; exact absurd rfl ho
  | 2, hb => cases hb; exact absurd rfl ho
  | 4, hb => cases hb; exact absurd rfl ho
  | 5, hb => cases hb; exact absurd rfl ho
  | 6, hb => cases hb; exact absurd rfl ho
  | 7, hb => cases hb; exact absurd rfl ho
end Go.Proofs.YtoiihalnbdehkaaDoor.B
