/-
  'fingerpostlaw32.PacketAll' returns true for every network and every count of links, and all read behind the call as before: no condition.
-/
import Derived.Test.YtmeojocmngbpaaaWP
namespace Go.Proofs.Ytmeojocmngbpaaa.packetAll
open Go Go.ChangeShapes Go.WideShapes Go.ChangeAt Go.RowKit Go.Joins Go.Proofs.Ytmeojocmngbpaaa.B
set_option linter.unusedVariables false
set_option maxRecDepth 100000
theorem lifted (os : Os) (started : os.Started) (H : Type) (enc : TypeId × Value → H) :
    ReturnsInHanded {} Try.checked os 12 .any (Rows.packetAllSpec.pre6 enc Try.prog Try.f12 Rows.packetAllRow.domain false) (Rows.packetAllSpec.post enc Try.prog Try.f12 false true false false) := by
  refine returnsInHanded_of_change_sized (C := Try.checked) own started (by kernel_rfl) Try.func12
    (ChangeSpec.witness6 (enc := enc) (C := Try.checked) false ⟨#[], #[.agg #[.slice none 0 0, .slice none 0 0, .slice none 0 0, .slice none 0 0], .int .u8 0], []⟩ 8 (by kernel_rfl) (by kernel_rfl) (by kernel_rfl) (by kernel_rfl)) ?_
  intro W base args ds gs before hval0 hW hcnd hsz0 _
  have hval : ∀ (j : Nat) t v, Try.f12.params[j]? = some t → args[j]? = some v → Value.okWide Try.prog W .any base t v := hval0
  refine law_end (P := Try.prog) (tb := 4) laidOut (by kernel_rfl) rfl Try.underlying4 rfl (Nat.zero_le _) (fun ds hds => ?_) hW hsz0 (fun hsh hlen => ?_)
  · match ds, hds with
    | [d0, d1], _ => rfl
  · have hsh' : ∀ (j : Nat) t v, Try.f12.params[j]? = some t → args[j]? = some v → ∀ d sh, shOf Try.prog d t = some sh → sh.ok (absH W) (v.cells.toList.map (abs1 W.heap.size)) := hsh
    clear hsh hval0 hsz0 hW hcnd
    obtain ⟨v0, v1, rfl⟩ := arr2 (show args.size = 2 from hlen)
    have ok0 := hval 0 80 v0 rfl rfl
    have sh0 := hsh' 0 80 v0 rfl rfl 8 netSh (by kernel_rfl)
    have ok1 := hval 1 5 v1 rfl rfl
    have sh1 := hsh' 1 5 v1 rfl rfl 8 (.int .u8) (by kernel_rfl)
    clear hval hsh'
    obtain ⟨tv0, hv0, uv0, kv0, N0, e0, k0, hF0⟩ := opNet (okAgg 4 Try.underlying80 (by kernel_rfl) ok0) sh0
    obtain ⟨n1, e1, w1, z1⟩ := opU8 Try.underlying5 ok1 sh1
    simp only [List.map_cons, List.map_nil, e0, e1]
    exact packetAll_spec k0 hF0 _ w1 z1
theorem over : Rows.packetAllRow.holds Try.pinned (OpenSpec.ofChange Rows.packetAllSpec) :=
  OpenClaim.holds_of_wide 12 Try.f12 rfl rfl rfl rfl rfl rfl rfl ⟨rfl, rfl, rfl, rfl, rfl⟩ rfl rfl rfl rfl rfl (by kernel_rfl) Try.func12 (by kernel_rfl)
    (of_decide_eq_true (by kernel_rfl)) (by unfold Func.isWrapper; first | (rw [if_pos (by decide +kernel)]; kernel_rfl) | (rw [if_neg (by decide +kernel)]; exact ⟨rfl, rfl⟩))
    (fun os started H enc _ => lifted os started H enc)
end Go.Proofs.Ytmeojocmngbpaaa.packetAll
namespace Go.Proofs.Ytmeojocmngbpaaa
/-- 'fingerpostlaw32.PacketAll' holds as it is stated. -/
theorem packetAll_holds : Rows.PacketAllSaid := packetAll.over
end Go.Proofs.Ytmeojocmngbpaaa
