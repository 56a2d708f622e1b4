/-
  'fingerpostlaw01.RankFloors' returns true for every list of steps and every key, and they read behind the call as before: no condition.
-/
import Derived.Test.YtbomppdiiaodbaaRRRWRf
namespace Go.Proofs.YtbomppdiiaodbaaRRR.rankFloors
open Go Go.ChangeShapes Go.WideShapes Go.ChangeAt Go.RowKit Go.Joins Go.Proofs.YtbomppdiiaodbaaRRR.B
set_option linter.unusedVariables false
set_option maxRecDepth 100000
theorem lifted (os : Os) (started : os.Started) (H : Type) (enc : TypeId × Value → H) :
    ReturnsInHanded {} Try.checked os 4 .any (Rows.rankFloorsSpec.pre6 enc Try.prog Try.f4 Rows.rankFloorsRow.domain false) (Rows.rankFloorsSpec.post enc Try.prog Try.f4 false true false false) := by
  refine returnsInHanded_of_change_sized (C := Try.checked) own started (by kernel_rfl) Try.func4
    (ChangeSpec.witness6 (enc := enc) (C := Try.checked) false ⟨#[], #[.slice none 0 0, .agg #[.int .u32 0, .int .u32 0, .int .i64 0]], []⟩ 8 (by kernel_rfl) (by kernel_rfl) (by kernel_rfl) (by kernel_rfl)) ?_
  intro W base args ds gs before hval0 hW hcnd hsz0 _
  have hval : ∀ (j : Nat) t v, Try.f4.params[j]? = some t → args[j]? = some v → Value.okWide Try.prog W .any base t v := hval0
  refine law_end (P := Try.prog) (tb := 4) laidOut (by kernel_rfl) rfl Try.underlying4 rfl (Nat.zero_le _) (fun ds hds => ?_) hW hsz0 (fun hsh hlen => ?_)
  · match ds, hds with
    | [d0, d1], _ => rfl
  · have hsh' : ∀ (j : Nat) t v, Try.f4.params[j]? = some t → args[j]? = some v → ∀ d sh, shOf Try.prog d t = some sh → sh.ok (absH W) (v.cells.toList.map (abs1 W.heap.size)) := hsh
    clear hsh hval0 hsz0 hW hcnd
    obtain ⟨v0, v1, rfl⟩ := arr2 (show args.size = 2 from hlen)
    have ok0 := hval 0 61 v0 rfl rfl
    have sh0 := hsh' 0 61 v0 rfl rfl 8 (.slice 4 24 opSh) (by kernel_rfl)
    have ok1 := hval 1 63 v1 rfl rfl
    have sh1 := hsh' 1 63 v1 rfl rfl 8 keySh (by kernel_rfl)
    clear hval hsh'
    obtain ⟨l0, hl0, hw0⟩ := opS (R := isOp) Try.underlying61 (fun c h1 h2 => op_cells h1 h2) ok0 sh0
    obtain ⟨a0, e0⟩ : ∃ a, absV W.heap.size v0 = a := ⟨_, rfl⟩
    rw [e0] at hl0
    obtain ⟨ke1, ks1, km1, e1⟩ := opK (okAgg 3 Try.underlying63 (by kernel_rfl) ok1) sh1
    simp only [List.map_cons, List.map_nil, e0, e1]
    exact rankFloors_spec hl0 _ _ _
theorem over : Rows.rankFloorsRow.holds Try.pinned (OpenSpec.ofChange Rows.rankFloorsSpec) :=
  OpenClaim.holds_of_wide 4 Try.f4 rfl rfl rfl rfl rfl rfl rfl ⟨rfl, rfl, rfl, rfl, rfl⟩ rfl rfl rfl rfl rfl (by kernel_rfl) Try.func4 (by kernel_rfl)
    (of_decide_eq_true (by kernel_rfl)) (by unfold Func.isWrapper; first | (rw [if_pos (by decide +kernel)]; kernel_rfl) | (rw [if_neg (by decide +kernel)]; exact ⟨rfl, rfl⟩))
    (fun os started H enc _ => lifted os started H enc)
end Go.Proofs.YtbomppdiiaodbaaRRR.rankFloors
namespace Go.Proofs.YtbomppdiiaodbaaRRR
/-- 'fingerpostlaw01.RankFloors' holds as it is stated. -/
theorem rankFloors_holds : Rows.RankFloorsSaid := rankFloors.over
end Go.Proofs.YtbomppdiiaodbaaRRR
