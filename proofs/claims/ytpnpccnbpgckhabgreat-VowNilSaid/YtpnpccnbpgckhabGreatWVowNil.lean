/-
  'fingerpostlaw16.VowNil' returns true for every key and every destination, and they read behind the call as before: no condition.
-/
import Derived.Test.YtpnpccnbpgckhabGreatWVn
namespace Go.Proofs.YtpnpccnbpgckhabGreat.vowNil
open Go Go.ChangeShapes Go.WideShapes Go.ChangeAt Go.RowKit Go.Joins Go.Proofs.YtpnpccnbpgckhabGreat.B
set_option linter.unusedVariables false
set_option maxRecDepth 100000
theorem lifted (os : Os) (started : os.Started) (H : Type) (enc : TypeId × Value → H) :
    ReturnsInHanded {} Tryz.checked os 3 .any (Rows.vowNilSpec.pre6 enc Tryz.prog Tryz.f3 Rows.vowNilRow.domain false) (Rows.vowNilSpec.post enc Tryz.prog Tryz.f3 false true false false) := by
  refine returnsInHanded_of_change_sized (C := Tryz.checked) own started (by kernel_rfl) Tryz.func3
    (ChangeSpec.witness6 (enc := enc) (C := Tryz.checked) false ⟨#[], #[.agg #[.int .u32 0, .int .u32 0, .int .i64 0], .int .i64 0], []⟩ 8 (by kernel_rfl) (by kernel_rfl) (by kernel_rfl) (by kernel_rfl)) ?_
  intro W base args ds gs before hval0 hW hcnd hsz0 _
  have hval : ∀ (j : Nat) t v, Tryz.f3.params[j]? = some t → args[j]? = some v → Value.okWide Tryz.prog W .any base t v := hval0
  refine law_end (P := Tryz.prog) (tb := 4) laidOut (by kernel_rfl) rfl Tryz.underlying4 rfl (Nat.zero_le _) (fun ds hds => ?_) hW hsz0 (fun hsh hlen => ?_)
  · match ds, hds with
    | [d0, d1], _ => rfl
  · have hsh' : ∀ (j : Nat) t v, Tryz.f3.params[j]? = some t → args[j]? = some v → ∀ d sh, shOf Tryz.prog d t = some sh → sh.ok (absH W) (v.cells.toList.map (abs1 W.heap.size)) := hsh
    clear hsh hval0 hsz0 hW hcnd
    obtain ⟨v0, v1, rfl⟩ := arr2 (show args.size = 2 from hlen)
    have ok0 := hval 0 24 v0 rfl rfl
    have sh0 := hsh' 0 24 v0 rfl rfl 8 keySh (by kernel_rfl)
    have ok1 := hval 1 3 v1 rfl rfl
    have sh1 := hsh' 1 3 v1 rfl rfl 8 (.int .i64) (by kernel_rfl)
    clear hval hsh'
    obtain ⟨ke0, ks0, km0, e0⟩ := opK (okAgg 3 Tryz.underlying24 (by kernel_rfl) ok0) sh0
    obtain ⟨n1, e1, w1⟩ := opI Tryz.underlying3 ok1 sh1
    simp only [List.map_cons, List.map_nil, e0, e1]
    exact vowNil_spec _ _ _ _
theorem over : Rows.vowNilRow.holds Tryz.pinned (OpenSpec.ofChange Rows.vowNilSpec) :=
  OpenClaim.holds_of_wide 3 Tryz.f3 rfl rfl rfl rfl rfl rfl rfl ⟨rfl, rfl, rfl, rfl, rfl⟩ rfl rfl rfl rfl rfl (by kernel_rfl) Tryz.func3 (by kernel_rfl)
    (of_decide_eq_true (by kernel_rfl)) (by unfold Func.isWrapper; first | (rw [if_pos (by decide +kernel)]; kernel_rfl) | (rw [if_neg (by decide +kernel)]; exact ⟨rfl, rfl⟩))
    (fun os started H enc _ => lifted os started H enc)
end Go.Proofs.YtpnpccnbpgckhabGreat.vowNil
namespace Go.Proofs.YtpnpccnbpgckhabGreat
/-- 'fingerpostlaw16.VowNil' holds as it is stated. -/
theorem vowNil_holds : Rows.VowNilSaid := vowNil.over
end Go.Proofs.YtpnpccnbpgckhabGreat
