/-
  'fingerpostlaw22.FibDiffs' returns true for every two lists of hops and every destination, and all read behind the call as before: no condition.
-/
import Derived.Test.YtmeojocmngbpaaaWF
import Derived.Test.YtmeojocmngbpaaaF4
namespace Go.Proofs.Ytmeojocmngbpaaa.fibDiffs
open Go Go.ChangeShapes Go.WideShapes Go.ChangeAt Go.RowKit Go.Joins Go.Proofs.Ytmeojocmngbpaaa.B
set_option linter.unusedVariables false
set_option maxRecDepth 100000
theorem lifted (os : Os) (started : os.Started) (H : Type) (enc : TypeId × Value → H) :
    ReturnsInHanded {} Try.checked os 9 .any (Rows.fibDiffsSpec.pre6 enc Try.prog Try.f9 Rows.fibDiffsRow.domain false) (Rows.fibDiffsSpec.post enc Try.prog Try.f9 false true false false) := by
  refine returnsInHanded_of_change_sized (C := Try.checked) own started (by kernel_rfl) Try.func9
    (ChangeSpec.witness6 (enc := enc) (C := Try.checked) false ⟨#[], #[.slice none 0 0, .slice none 0 0, .int .i64 0], []⟩ 8 (by kernel_rfl) (by kernel_rfl) (by kernel_rfl) (by kernel_rfl)) ?_
  intro W base args ds gs before hval0 hW hcnd hsz0 _
  have hval : ∀ (j : Nat) t v, Try.f9.params[j]? = some t → args[j]? = some v → Value.okWide Try.prog W .any base t v := hval0
  refine law_end (P := Try.prog) (tb := 4) laidOut (by kernel_rfl) rfl Try.underlying4 rfl (Nat.zero_le _) (fun ds hds => ?_) hW hsz0 (fun hsh hlen => ?_)
  · match ds, hds with
    | [d0, d1, d2], _ => rfl
  · have hsh' : ∀ (j : Nat) t v, Try.f9.params[j]? = some t → args[j]? = some v → ∀ d sh, shOf Try.prog d t = some sh → sh.ok (absH W) (v.cells.toList.map (abs1 W.heap.size)) := hsh
    clear hsh hval0 hsz0 hW hcnd
    obtain ⟨v0, v1, v2, rfl⟩ := arr3 (show args.size = 3 from hlen)
    have ok0 := hval 0 51 v0 rfl rfl
    have sh0 := hsh' 0 51 v0 rfl rfl 8 (.slice 3 24 hopSh) (by kernel_rfl)
    have ok1 := hval 1 51 v1 rfl rfl
    have sh1 := hsh' 1 51 v1 rfl rfl 8 (.slice 3 24 hopSh) (by kernel_rfl)
    have ok2 := hval 2 3 v2 rfl rfl
    have sh2 := hsh' 2 3 v2 rfl rfl 8 (.int .i64) (by kernel_rfl)
    clear hval hsh'
    obtain ⟨l0, hl0, hw0⟩ := opS (R := isH) Try.underlying51 (fun c h1 h2 => hop_cells h1 h2) ok0 sh0
    obtain ⟨a0, e0⟩ : ∃ a, absV W.heap.size v0 = a := ⟨_, rfl⟩
    rw [e0] at hl0
    obtain ⟨l1, hl1, hw1⟩ := opS (R := isH) Try.underlying51 (fun c h1 h2 => hop_cells h1 h2) ok1 sh1
    obtain ⟨a1, e1⟩ : ∃ a, absV W.heap.size v1 = a := ⟨_, rfl⟩
    rw [e1] at hl1
    obtain ⟨n2, e2, w2⟩ := opI Try.underlying3 ok2 sh2
    simp only [List.map_cons, List.map_nil, e0, e1, e2]
    exact fibDiffs_spec hl0 hl1 hw0 hw1 _
theorem over : Rows.fibDiffsRow.holds Try.pinned (OpenSpec.ofChange Rows.fibDiffsSpec) :=
  OpenClaim.holds_of_wide 9 Try.f9 rfl rfl rfl rfl rfl rfl rfl ⟨rfl, rfl, rfl, rfl, rfl⟩ rfl rfl rfl rfl rfl (by kernel_rfl) Try.func9 (by kernel_rfl)
    (of_decide_eq_true (by kernel_rfl)) (by unfold Func.isWrapper; first | (rw [if_pos (by decide +kernel)]; kernel_rfl) | (rw [if_neg (by decide +kernel)]; exact ⟨rfl, rfl⟩))
    (fun os started H enc _ => lifted os started H enc)
end Go.Proofs.Ytmeojocmngbpaaa.fibDiffs
namespace Go.Proofs.Ytmeojocmngbpaaa
/-- 'fingerpostlaw22.FibDiffs' holds as it is stated. -/
theorem fibDiffs_holds : Rows.FibDiffsSaid := fibDiffs.over
end Go.Proofs.Ytmeojocmngbpaaa
