/-
  Layer 16: what is known of the one call that the interpreter doesn't come through: the destinations of floors of nothing; the example, run by the kernel.
-/
import Derived.Test.YtpnpccnbpgckhabGreatKEz
import Derived.Test.YtpnpccnbpgckhabGreatAbI
namespace Go.Proofs.YtpnpccnbpgckhabGreat.B
open Go
set_option linter.unusedVariables false
set_option linter.unusedSimpArgs false
set_option maxRecDepth 100000
theorem good_dests : goodFn Tryz.prog fn.rank_Floors_Dests = true := by kernel_rfl
def vowCall (f : FuncId) (args : List Value) (h : AHeap) : Res :=
  if f = fn.rank_Floors_Dests then match args with
    | [.pointer (some ⟨fp, 0, none⟩)] => match h[fp]? with
      | some (.row .fix [.map (some mb)]) => match h[mb]? with
        | some (.map true []) => some (.slice none 0 0, h)
        | _ => none
      | _ => none
    | _ => none
  else none
def vowOrc : Orc := ⟨vowCall, fun _ _ _ _ => none⟩
theorem vowOrc_ok : vowOrc.ok Tryz.prog nG := by
  refine ⟨fun f args h v h' q => ?_, fun m f args h v h' q => by cases q⟩
  simp only [vowOrc, vowCall] at q
  split at q
  · rename_i hf
    subst hf
    split at q
    · split at q
      · rename_i hF
        split at q
        · rename_i hM
          obtain ⟨rfl, rfl⟩ := Prod.mk.inj (Option.some.inj q)
          exact ⟨dests0 ⟨hF, hM, fun x hx => by cases hx⟩, good_dests⟩
        · cases q
      · cases q
    · cases q
  · cases q
theorem awake16_spec {h : AHeap} : Spec Tryz.prog nG fn.law16_awake [] h (.bool true) h :=
  Spec.of_runX (h0 := []) (m := 3000) (n := 30) tbl.law16_VowNil.ok vowOrc_ok rfl rfl rfl rfl (fun b o hb ho => by simp at hb) (by kernel_rfl)
end Go.Proofs.YtpnpccnbpgckhabGreat.B
