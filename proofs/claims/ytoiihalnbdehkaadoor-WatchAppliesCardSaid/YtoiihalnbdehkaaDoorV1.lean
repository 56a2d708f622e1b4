/-
  Layer 34: the document's example, run by the kernel from the package's variables.
-/
import Derived.Test.YtoiihalnbdehkaaDoorIr34
import Derived.Test.YtoiihalnbdehkaaDoorSr
namespace Go.Proofs.YtoiihalnbdehkaaDoor.B
open Go
set_option linter.unusedVariables false
set_option linter.unusedSimpArgs false
set_option maxRecDepth 100000
def strV (l : List Nat) : Value := .string ⟨(l.map UInt8.ofNat).toArray⟩
/-- The events' names. -/
def watchNames : List Value := [strV [], strV [98, 101, 103, 97, 110], strV [101, 110, 100, 101, 100], strV [105, 115, 115, 117, 101, 100], strV [109, 101, 116], strV [108, 111, 115, 116], strV [103, 97, 105, 110, 101, 100], strV [109, 111, 118, 101, 100], strV [100, 114, 111, 112, 112, 101, 100]]
def powRow : List Value := (List.range 20).map fun i => .int .u64 ((10 ^ i : Nat) : Int)
def hW : AHeap := [.dead, .row .ro watchNames, .dead, .row .ro powRow, .dead, .dead, .dead, .dead]
structure WatchV (h : AHeap) : Prop where
  names : h[gv.watch_names]? = some (.row .ro watchNames)
  pow : h[gv.internal_strconv_uint64pow10]? = some (.row .ro powRow)
theorem get_pre {h h' : AHeap} (p : Pre h h') {b : Nat} {o : AObj} (k : h[b]? = some o) : h'[b]? = some o := by rw [p.get (List.getElem?_eq_some_iff.1 k).1]; exact k
theorem WatchV.pre {h h' : AHeap} (p : Pre h h') (k : WatchV h) : WatchV h' := ⟨get_pre p k.names, get_pre p k.pow⟩
theorem WatchV.powV {h : AHeap} (k : WatchV h) : PowV h := by
  have := k.pow
  unfold PowV rds
  rw [this]; rfl
theorem awake_spec {h : AHeap} (k : WatchV h) : Spec Tryd.prog nG fn.law34_awake [] h (.bool true) h := by
  refine Spec.of_run (h0 := hW) (m := 1000) (n := 20) tbl.law34_awake.ok rfl rfl (by kernel_rfl) rfl (fun b o hb ho => ?_) (by kernel_rfl)
  match b, hb with
  | 1, hb => cases hb; exact k.names
  | 3, hb => cases hb; exact k.pow
  | 0, hb => cases hb; exact absurd rfl ho
  | 2, hb => cases hb; exact absurd rfl ho
  | 4, hb => cases hb; exact absurd rfl ho
  | 5, hb => cases hb; exact absurd rfl ho
  | 6, hb => cases hb; exact absurd rfl ho
  | 7, hb => cases hb; exact absurd rfl ho
end Go.Proofs.YtoiihalnbdehkaaDoor.B
