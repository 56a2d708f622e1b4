/-
  'fingerpostlaw11.RenewBytes' returns true for every signed record and all bytes, and they read behind the call as before: no condition.
-/
import Derived.Test.YtbomppdiiaodbaaRRRWSg
namespace Go.Proofs.YtbomppdiiaodbaaRRR.renewBytes
open Go Go.ChangeShapes Go.WideShapes Go.ChangeAt Go.RowKit Go.Joins Go.Proofs.YtbomppdiiaodbaaRRR.B
set_option linter.unusedVariables false
set_option maxRecDepth 100000
theorem lifted (os : Os) (started : os.Started) (H : Type) (enc : TypeId × Value → H) :
    ReturnsInHanded {} Try.checked os 3 .any (Rows.renewBytesSpec.pre6 enc Try.prog Try.f3 Rows.renewBytesRow.domain false) (Rows.renewBytesSpec.post enc Try.prog Try.f3 false true false false) := by
  refine returnsInHanded_of_change_sized (C := Try.checked) own started (by kernel_rfl) Try.func3
    (ChangeSpec.witness6 (enc := enc) (C := Try.checked) false inp 8 (by kernel_rfl) (by kernel_rfl) (hok _) (by kernel_rfl)) ?_
  intro W base args ds gs before hval0 hW hcnd hsz0 _
  have hval : ∀ (j : Nat) t v, Try.f3.params[j]? = some t → args[j]? = some v → Value.okWide Try.prog W .any base t v := hval0
  refine law_end (P := Try.prog) (tb := 4) laidOut (by kernel_rfl) rfl Try.underlying4 rfl (Nat.zero_le _) (fun ds hds => ?_) hW hsz0 (fun hsh hlen => ?_)
  · match ds, hds with
    | [d0, d1], _ => rfl
  · have hsh' : ∀ (j : Nat) t v, Try.f3.params[j]? = some t → args[j]? = some v → ∀ d sh, shOf Try.prog d t = some sh → sh.ok (absH W) (v.cells.toList.map (abs1 W.heap.size)) := hsh
    clear hsh hval0 hsz0 hW hcnd
    obtain ⟨v0, v1, rfl⟩ := arr2 (show args.size = 2 from hlen)
    have ok0 := hval 0 28 v0 rfl rfl
    have sh0 := hsh' 0 28 v0 rfl rfl 8 signedSh (by kernel_rfl)
    have ok1 := hval 1 29 v1 rfl rfl
    have sh1 := hsh' 1 29 v1 rfl rfl 8 (.slice 1 1 (.int .u8)) (by kernel_rfl)
    clear hval hsh'
    obtain ⟨d0, ep0, B0, e0, hl0, hB0, he0, hf0⟩ := opSigned (okAgg 1122 Try.underlying28 (by kernel_rfl) ok0) sh0
    obtain ⟨l1, hl1, hw1⟩ := opS (R := (fun c n => by8 c n ∧ (0 ≤ n ∧ n < 256))) Try.underlying29 (fun c h1 h2 => let ⟨n, a, b, d⟩ := byte_cells h1 h2; ⟨n, a, b, d⟩) ok1 sh1
    obtain ⟨a1, e1⟩ : ∃ a, absV W.heap.size v1 = a := ⟨_, rfl⟩
    rw [e1] at hl1
    simp only [List.map_cons, List.map_nil, e0, e1]
    have hr : reachBytes = 140737488351232 := rfl
    exact (renewBytes_spec hl1.split.1 hl1.split.2 (by omega) hB0 hl0 he0 hf0).x rfl
theorem over : Rows.renewBytesRow.holds Try.pinned (OpenSpec.ofChange Rows.renewBytesSpec) :=
  OpenClaim.holds_of_wide 3 Try.f3 rfl rfl rfl rfl rfl rfl rfl ⟨rfl, rfl, rfl, rfl, rfl⟩ rfl rfl rfl rfl rfl (by kernel_rfl) Try.func3 (by kernel_rfl)
    (of_decide_eq_true (by kernel_rfl)) (by unfold Func.isWrapper; first | (rw [if_pos (by decide +kernel)]; kernel_rfl) | (rw [if_neg (by decide +kernel)]; exact ⟨rfl, rfl⟩))
    (fun os started H enc _ => lifted os started H enc)
end Go.Proofs.YtbomppdiiaodbaaRRR.renewBytes
namespace Go.Proofs.YtbomppdiiaodbaaRRR
/-- 'fingerpostlaw11.RenewBytes' holds as it is stated. -/
theorem renewBytes_holds : Rows.RenewBytesSaid := renewBytes.over
end Go.Proofs.YtbomppdiiaodbaaRRR
