/-
  'fingerpostlaw01.RankRises' returns true for every list of steps, and it reads behind the call as before: no condition.
-/
import Derived.Test.YtgndlhmjolaeiaaWR
namespace Go.Proofs.Ytgndlhmjolaeiaa.rankRises
open Go Go.ChangeShapes Go.WideShapes Go.ChangeAt Go.RowKit Go.Joins Go.Proofs.Ytgndlhmjolaeiaa.B
set_option linter.unusedVariables false
set_option maxRecDepth 100000
theorem lifted (os : Os) (started : os.Started) (H : Type) (enc : TypeId × Value → H) :
    ReturnsInHanded {} Try.checked os 5 .any (Rows.rankRisesSpec.pre6 enc Try.prog Try.f5 Rows.rankRisesRow.domain false) (Rows.rankRisesSpec.post enc Try.prog Try.f5 false true false false) := by
  refine returnsInHanded_of_change_sized (C := Try.checked) own started (by kernel_rfl) Try.func5
    (ChangeSpec.witness6 (enc := enc) (C := Try.checked) false ⟨#[], #[.slice none 0 0], []⟩ 8 (by kernel_rfl) (by kernel_rfl) (by kernel_rfl) (by kernel_rfl)) ?_
  intro W base args ds gs before hval0 hW hcnd hsz0 _
  have hval : ∀ (j : Nat) t v, Try.f5.params[j]? = some t → args[j]? = some v → Value.okWide Try.prog W .any base t v := hval0
  refine law_end (P := Try.prog) (tb := 4) laidOut (by kernel_rfl) rfl Try.underlying4 rfl (Nat.zero_le _) (fun ds hds => ?_) hW hsz0 (fun hsh hlen => ?_)
  · match ds, hds with
    | [d0], _ => rfl
  · have hsh' : ∀ (j : Nat) t v, Try.f5.params[j]? = some t → args[j]? = some v → ∀ d sh, shOf Try.prog d t = some sh → sh.ok (absH W) (v.cells.toList.map (abs1 W.heap.size)) := hsh
    clear hsh hval0 hsz0 hW hcnd
    obtain ⟨v0, rfl⟩ := arr1 (show args.size = 1 from hlen)
    have ok0 := hval 0 61 v0 rfl rfl
    have sh0 := hsh' 0 61 v0 rfl rfl 8 (.slice 4 24 opSh) (by kernel_rfl)
    clear hval hsh'
    obtain ⟨l0, hl0, hw0⟩ := opS (R := isOp) Try.underlying61 (fun c h1 h2 => op_cells h1 h2) ok0 sh0
    obtain ⟨a0, e0⟩ : ∃ a, absV W.heap.size v0 = a := ⟨_, rfl⟩
    rw [e0] at hl0
    simp only [List.map_cons, List.map_nil, e0]
    exact rankRises_spec hl0
theorem over : Rows.rankRisesRow.holds Try.pinned (OpenSpec.ofChange Rows.rankRisesSpec) :=
  OpenClaim.holds_of_wide 5 Try.f5 rfl rfl rfl rfl rfl rfl rfl ⟨rfl, rfl, rfl, rfl, rfl⟩ rfl rfl rfl rfl rfl (by kernel_rfl) Try.func5 (by kernel_rfl)
    (of_decide_eq_true (by kernel_rfl)) (by unfold Func.isWrapper; first | (rw [if_pos (by decide +kernel)]; kernel_rfl) | (rw [if_neg (by decide +kernel)]; exact ⟨rfl, rfl⟩))
    (fun os started H enc _ => lifted os started H enc)
end Go.Proofs.Ytgndlhmjolaeiaa.rankRises
namespace Go.Proofs.Ytgndlhmjolaeiaa
/-- 'fingerpostlaw01.RankRises' holds as it is stated. -/
theorem rankRises_holds : Rows.RankRisesSaid := rankRises.over
end Go.Proofs.Ytgndlhmjolaeiaa
