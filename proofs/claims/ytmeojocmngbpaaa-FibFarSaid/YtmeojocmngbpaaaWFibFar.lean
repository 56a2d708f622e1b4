/-
  'fingerpostlaw22.FibFar' returns true for every links and every destination, and all read behind the call as before: no condition.
-/
import Derived.Test.YtmeojocmngbpaaaWF
import Derived.Test.YtmeojocmngbpaaaF7
namespace Go.Proofs.Ytmeojocmngbpaaa.fibFar
open Go Go.ChangeShapes Go.WideShapes Go.ChangeAt Go.RowKit Go.Joins Go.Proofs.Ytmeojocmngbpaaa.B
set_option linter.unusedVariables false
set_option maxRecDepth 100000
theorem row_cells {h : AHeap} {c : List Value} (hl : c.length = 1) (k : (Sh.slice 1 1 .bool).ok h c) : ∃ r : List Bool, isR h c r := by
  obtain ⟨v, l, rfl, h1, h2⟩ := Sh.ls (R := isB) (fun c h1 (h2 : Sh.bool.ok h c) => h2) k
  exact ⟨l, v, rfl, h1⟩
theorem lifted (os : Os) (started : os.Started) (H : Type) (enc : TypeId × Value → H) :
    ReturnsInHanded {} Try.checked os 11 .any (Rows.fibFarSpec.pre6 enc Try.prog Try.f11 Rows.fibFarRow.domain false) (Rows.fibFarSpec.post enc Try.prog Try.f11 false true false false) := by
  refine returnsInHanded_of_change_sized (C := Try.checked) own started (by kernel_rfl) Try.func11
    (ChangeSpec.witness6 (enc := enc) (C := Try.checked) false ⟨#[], #[.slice none 0 0, .int .i64 0], []⟩ 8 (by kernel_rfl) (by kernel_rfl) (by kernel_rfl) (by kernel_rfl)) ?_
  intro W base args ds gs before hval0 hW hcnd hsz0 _
  have hval : ∀ (j : Nat) t v, Try.f11.params[j]? = some t → args[j]? = some v → Value.okWide Try.prog W .any base t v := hval0
  refine law_end (P := Try.prog) (tb := 4) laidOut (by kernel_rfl) rfl Try.underlying4 rfl (Nat.zero_le _) (fun ds hds => ?_) hW hsz0 (fun hsh hlen => ?_)
  · match ds, hds with
    | [d0, d1], _ => rfl
  · have hsh' : ∀ (j : Nat) t v, Try.f11.params[j]? = some t → args[j]? = some v → ∀ d sh, shOf Try.prog d t = some sh → sh.ok (absH W) (v.cells.toList.map (abs1 W.heap.size)) := hsh
    clear hsh hval0 hsz0 hW hcnd
    obtain ⟨v0, v1, rfl⟩ := arr2 (show args.size = 2 from hlen)
    have ok0 := hval 0 75 v0 rfl rfl
    have sh0 := hsh' 0 75 v0 rfl rfl 8 (.slice 1 24 (.slice 1 1 .bool)) (by kernel_rfl)
    have ok1 := hval 1 3 v1 rfl rfl
    have sh1 := hsh' 1 3 v1 rfl rfl 8 (.int .i64) (by kernel_rfl)
    clear hval hsh'
    obtain ⟨l0, hl0, hw0⟩ := opS (R := (isR (absH W))) Try.underlying75 (fun c h1 h2 => row_cells h1 h2) ok0 sh0
    obtain ⟨a0, e0⟩ : ∃ a, absV W.heap.size v0 = a := ⟨_, rfl⟩
    rw [e0] at hl0
    obtain ⟨n1, e1, w1⟩ := opI Try.underlying3 ok1 sh1
    simp only [List.map_cons, List.map_nil, e0, e1]
    exact fibFar_spec hl0 _
theorem over : Rows.fibFarRow.holds Try.pinned (OpenSpec.ofChange Rows.fibFarSpec) :=
  OpenClaim.holds_of_wide 11 Try.f11 rfl rfl rfl rfl rfl rfl rfl ⟨rfl, rfl, rfl, rfl, rfl⟩ rfl rfl rfl rfl rfl (by kernel_rfl) Try.func11 (by kernel_rfl)
    (of_decide_eq_true (by kernel_rfl)) (by unfold Func.isWrapper; first | (rw [if_pos (by decide +kernel)]; kernel_rfl) | (rw [if_neg (by decide +kernel)]; exact ⟨rfl, rfl⟩))
    (fun os started H enc _ => lifted os started H enc)
end Go.Proofs.Ytmeojocmngbpaaa.fibFar
namespace Go.Proofs.Ytmeojocmngbpaaa
/-- 'fingerpostlaw22.FibFar' holds as it is stated. -/
theorem fibFar_holds : Rows.FibFarSaid := fibFar.over
end Go.Proofs.Ytmeojocmngbpaaa
