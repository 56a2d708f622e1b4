/-
  'fingerpostlaw22.FibNearer' returns true for every tables, every measure and every destination, and all read behind the call as before: no condition.
-/
import Derived.Test.YtmeojocmngbpaaaWF
import Derived.Test.YtmeojocmngbpaaaF6
namespace Go.Proofs.Ytmeojocmngbpaaa.fibNearer
open Go Go.ChangeShapes Go.WideShapes Go.ChangeAt Go.RowKit Go.Joins Go.Proofs.Ytmeojocmngbpaaa.B
set_option linter.unusedVariables false
set_option maxRecDepth 100000
theorem lifted (os : Os) (started : os.Started) (H : Type) (enc : TypeId × Value → H) :
    ReturnsInHanded {} Try.checked os 8 .any (Rows.fibNearerSpec.pre6 enc Try.prog Try.f8 Rows.fibNearerRow.domain false) (Rows.fibNearerSpec.post enc Try.prog Try.f8 false true false false) := by
  refine returnsInHanded_of_change_sized (C := Try.checked) own started (by kernel_rfl) Try.func8
    (ChangeSpec.witness6 (enc := enc) (C := Try.checked) false ⟨#[], #[.slice none 0 0, .slice none 0 0, .int .i64 0], []⟩ 8 (by kernel_rfl) (by kernel_rfl) (by kernel_rfl) (by kernel_rfl)) ?_
  intro W base args ds gs before hval0 hW hcnd hsz0 _
  have hval : ∀ (j : Nat) t v, Try.f8.params[j]? = some t → args[j]? = some v → Value.okWide Try.prog W .any base t v := hval0
  refine law_end (P := Try.prog) (tb := 4) laidOut (by kernel_rfl) rfl Try.underlying4 rfl (Nat.zero_le _) (fun ds hds => ?_) hW hsz0 (fun hsh hlen => ?_)
  · match ds, hds with
    | [d0, d1, d2], _ => rfl
  · have hsh' : ∀ (j : Nat) t v, Try.f8.params[j]? = some t → args[j]? = some v → ∀ d sh, shOf Try.prog d t = some sh → sh.ok (absH W) (v.cells.toList.map (abs1 W.heap.size)) := hsh
    clear hsh hval0 hsz0 hW hcnd
    obtain ⟨v0, v1, v2, rfl⟩ := arr3 (show args.size = 3 from hlen)
    have ok0 := hval 0 48 v0 rfl rfl
    have sh0 := hsh' 0 48 v0 rfl rfl 8 (.slice 1 24 (.slice 3 24 hopSh)) (by kernel_rfl)
    have ok1 := hval 1 49 v1 rfl rfl
    have sh1 := hsh' 1 49 v1 rfl rfl 8 (.slice 1 8 (.int .i64)) (by kernel_rfl)
    have ok2 := hval 2 3 v2 rfl rfl
    have sh2 := hsh' 2 3 v2 rfl rfl 8 (.int .i64) (by kernel_rfl)
    clear hval hsh'
    obtain ⟨l0, hl0, hw0⟩ := opS (R := (fun c t => isT (absH W) c t ∧ Fits t)) Try.underlying48 (fun c h1 h2 => table_cells h1 h2) ok0 sh0
    obtain ⟨a0, e0⟩ : ∃ a, absV W.heap.size v0 = a := ⟨_, rfl⟩
    rw [e0] at hl0
    obtain ⟨l1, hl1, hw1⟩ := opS (R := isI) Try.underlying49 (fun c h1 h2 => int_cells h1 h2) ok1 sh1
    obtain ⟨a1, e1⟩ : ∃ a, absV W.heap.size v1 = a := ⟨_, rfl⟩
    rw [e1] at hl1
    obtain ⟨n2, e2, w2⟩ := opI Try.underlying3 ok2 sh2
    simp only [List.map_cons, List.map_nil, e0, e1, e2]
    exact fibNearer_spec hl0.split.1 hl0.split.2 hl1 _
theorem over : Rows.fibNearerRow.holds Try.pinned (OpenSpec.ofChange Rows.fibNearerSpec) :=
  OpenClaim.holds_of_wide 8 Try.f8 rfl rfl rfl rfl rfl rfl rfl ⟨rfl, rfl, rfl, rfl, rfl⟩ rfl rfl rfl rfl rfl (by kernel_rfl) Try.func8 (by kernel_rfl)
    (of_decide_eq_true (by kernel_rfl)) (by unfold Func.isWrapper; first | (rw [if_pos (by decide +kernel)]; kernel_rfl) | (rw [if_neg (by decide +kernel)]; exact ⟨rfl, rfl⟩))
    (fun os started H enc _ => lifted os started H enc)
end Go.Proofs.Ytmeojocmngbpaaa.fibNearer
namespace Go.Proofs.Ytmeojocmngbpaaa
/-- 'fingerpostlaw22.FibNearer' holds as it is stated. -/
theorem fibNearer_holds : Rows.FibNearerSaid := fibNearer.over
end Go.Proofs.Ytmeojocmngbpaaa
