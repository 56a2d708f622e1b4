/-
  Layer 26: a source that tells nothing, run by the kernel.
-/
import Derived.Test.YtoiihalnbdehkaaDoorQc
namespace Go.Proofs.YtoiihalnbdehkaaDoor.B
open Go
set_option linter.unusedVariables false
set_option linter.unusedSimpArgs false
set_option maxRecDepth 100000
def srcX (m : Option String) (f : FuncId) (args : List Value) (h : AHeap) : Res :=
  match m, args with
  | none, [.string s, .int .u8 c] => if f = fn.internal_bytealg_IndexByteString then some (.int .i64 (firstIdx s c.toNat.toUInt8), h) else none
  | some nm, [.iface t v] => if nm = "Own" then (if t = 105 then (if f = 0 then evF (lookT tbl.law26_source_Own) noOrc 300 20 fn.law26_source_Own [v] h else none) else none) else none
  | _, _ => none
def srcOrc : Orc := ⟨fun _ _ _ => none, srcX⟩
theorem srcOrc_ok : srcOrc.ok Tryd.prog nG := by
  refine ⟨fun f args h v h' q => (by cases q), fun m f args h v h' q => ?_⟩
  simp only [srcOrc, srcX] at q
  split at q
  · split at q
    · rename_i hf
      subst hf
      obtain ⟨rfl, rfl⟩ := Prod.mk.inj (Option.some.inj q)
      exact xindex _ _
    · cases q
  · split at q
    · rename_i h1
      subst h1
      split at q
      · rename_i h2
        subst h2
        split at q
        · rename_i h3
          subst h3
          exact XSpec.methB (j := Tryd.t105) Tryd.type105 (by kernel_rfl) Tryd.underlying105 rfl (by kernel_rfl) (evF_sound tbl.law26_source_Own.ok noOrc_ok _ _ _ _ _ _ q).1
        · cases q
      · cases q
    · cases q
  · cases q
theorem qawake_spec (h : AHeap) : Spec Tryd.prog nG fn.law26_awake [] h (.bool true) h :=
  Spec.of_runX (m := 3000) (n := 20) (h0 := List.replicate 8 .dead) tbl.law26_awake.ok srcOrc_ok rfl rfl rfl rfl (fun b o hb ho => absurd (List.eq_of_mem_replicate (List.mem_of_getElem? hb)) ho) (by kernel_rfl)
end Go.Proofs.YtoiihalnbdehkaaDoor.B
