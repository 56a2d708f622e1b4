/-
  'fingerpostlaw01.RankLine' returns true for every three keys, and they read behind the call as before: no condition.
-/
import Derived.Test.YtmeojocmngbpaaaWK
import Derived.Test.YtmeojocmngbpaaaL01b
namespace Go.Proofs.Ytmeojocmngbpaaa.rankLine
open Go Go.ChangeShapes Go.WideShapes Go.ChangeAt Go.RowKit Go.Joins Go.Proofs.Ytmeojocmngbpaaa.B
set_option linter.unusedVariables false
set_option maxRecDepth 100000
theorem lifted (os : Os) (started : os.Started) (H : Type) (enc : TypeId × Value → H) :
    ReturnsInHanded {} Try.checked os 4 .any (Rows.rankLineSpec.pre6 enc Try.prog Try.f4 Rows.rankLineRow.domain false) (Rows.rankLineSpec.post enc Try.prog Try.f4 false true false false) := by
  refine returnsInHanded_of_change_sized (C := Try.checked) own started (by kernel_rfl) Try.func4
    (ChangeSpec.witness6 (enc := enc) (C := Try.checked) false ⟨#[], #[.agg #[.int .u32 0, .int .u32 0, .int .i64 0], .agg #[.int .u32 0, .int .u32 0, .int .i64 0], .agg #[.int .u32 0, .int .u32 0, .int .i64 0]], []⟩ 8 (by kernel_rfl) (by kernel_rfl) (by kernel_rfl) (by kernel_rfl)) ?_
  intro W base args ds gs before hval0 hW hcnd hsz0 _
  have hval : ∀ (j : Nat) t v, Try.f4.params[j]? = some t → args[j]? = some v → Value.okWide Try.prog W .any base t v := hval0
  refine law_end (P := Try.prog) (tb := 4) laidOut (by kernel_rfl) rfl Try.underlying4 rfl (Nat.zero_le _) (fun ds hds => ?_) hW hsz0 (fun hsh hlen => ?_)
  · match ds, hds with
    | [d0, d1, d2], _ => rfl
  · have hsh' : ∀ (j : Nat) t v, Try.f4.params[j]? = some t → args[j]? = some v → ∀ d sh, shOf Try.prog d t = some sh → sh.ok (absH W) (v.cells.toList.map (abs1 W.heap.size)) := hsh
    clear hsh hval0 hsz0 hW hcnd
    obtain ⟨v0, v1, v2, rfl⟩ := arr3 (show args.size = 3 from hlen)
    have ok0 := hval 0 24 v0 rfl rfl
    have sh0 := hsh' 0 24 v0 rfl rfl 8 keySh (by kernel_rfl)
    have ok1 := hval 1 24 v1 rfl rfl
    have sh1 := hsh' 1 24 v1 rfl rfl 8 keySh (by kernel_rfl)
    have ok2 := hval 2 24 v2 rfl rfl
    have sh2 := hsh' 2 24 v2 rfl rfl 8 keySh (by kernel_rfl)
    clear hval hsh'
    obtain ⟨ke0, ks0, km0, e0, he0, hs0⟩ := opK (okAgg 3 Try.underlying24 (by kernel_rfl) ok0) sh0
    obtain ⟨ke1, ks1, km1, e1, he1, hs1⟩ := opK (okAgg 3 Try.underlying24 (by kernel_rfl) ok1) sh1
    obtain ⟨ke2, ks2, km2, e2, he2, hs2⟩ := opK (okAgg 3 Try.underlying24 (by kernel_rfl) ok2) sh2
    simp only [List.map_cons, List.map_nil, e0, e1, e2]
    exact rankLine_spec _ _ _ _ _ _ _ _ _ _
theorem over : Rows.rankLineRow.holds Try.pinned (OpenSpec.ofChange Rows.rankLineSpec) :=
  OpenClaim.holds_of_wide 4 Try.f4 rfl rfl rfl rfl rfl rfl rfl ⟨rfl, rfl, rfl, rfl, rfl⟩ rfl rfl rfl rfl rfl (by kernel_rfl) Try.func4 (by kernel_rfl)
    (of_decide_eq_true (by kernel_rfl)) (by unfold Func.isWrapper; first | (rw [if_pos (by decide +kernel)]; kernel_rfl) | (rw [if_neg (by decide +kernel)]; exact ⟨rfl, rfl⟩))
    (fun os started H enc _ => lifted os started H enc)
end Go.Proofs.Ytmeojocmngbpaaa.rankLine
namespace Go.Proofs.Ytmeojocmngbpaaa
/-- 'fingerpostlaw01.RankLine' holds as it is stated. -/
theorem rankLine_holds : Rows.RankLineSaid := rankLine.over
end Go.Proofs.Ytmeojocmngbpaaa
