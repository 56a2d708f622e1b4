/-
  'fingerpostlaw01.RankOrders' returns true for every two keys, and both read behind the call as before: no condition.
-/
import Derived.Test.YtmeojocmngbpaaaRows
import Derived.Test.YtmeojocmngbpaaaAbR
import Derived.Test.YtmeojocmngbpaaaL01
import Derived.ProofKit
import Derived.OpenShut
import Derived.ShutString
import Derived.ChangeOld
import Derived.SizedLaws
import Derived.Lib.SmallJoins
namespace Go.Proofs.Ytmeojocmngbpaaa.B
open Go.ChangeShapes Go.WideShapes Go.ChangeAt Go.RowKit Go.Joins
set_option linter.unusedVariables false
theorem own : ownKnob Try.prog.godebug = none := by kernel_rfl
theorem laidOut : laidOutB Try.prog = true := by kernel_rfl

set_option maxRecDepth 100000 in
theorem open_key {H : Type} {enc : TypeId × Value → H} {W : World} {base : Nat} {v : Value} {d : DataW H} {p : List MemPlace} (hv : Value.okWide Try.prog W .any base 24 v) (h : DataW.Trod enc Try.prog W 0 (fun _ => true) true 24 v d p) :
    ∃ e s m, v = keyV e s m ∧ (Lit.int .u32 e).wf = true ∧ (Lit.int .u32 s).wf = true ∧ (Lit.int .i64 m).wf = true := by
  obtain ⟨c0, c1, c2, y0, y1, y2, n, rfl, rfl, rfl, h0, h1, h2⟩ := open_agg3 Try.underlying24 (by kernel_rfl) (by kernel_rfl) hv h
  obtain ⟨e, q0, _, w0⟩ := DataW.trod_int Try.underlying22 h0
  obtain ⟨s, q1, _, w1⟩ := DataW.trod_int Try.underlying22 h1
  obtain ⟨m, q2, _, w2⟩ := DataW.trod_int Try.underlying3 h2
  cases q0; cases q1; cases q2
  exact ⟨e, s, m, rfl, w0, w1, w2⟩

theorem key_vr {μ : Ren} {h : AHeap} (e s m : Int) : VR μ h (keyV e s m) (keyV e s m) := VR.of_plain rfl
end Go.Proofs.Ytmeojocmngbpaaa.B

namespace Go.Proofs.Ytmeojocmngbpaaa.rankOrders
open Go.ChangeShapes Go.WideShapes Go.ChangeAt Go.RowKit
open Go.Proofs.Ytmeojocmngbpaaa.B
set_option linter.unusedVariables false
set_option maxRecDepth 100000 in
theorem lifted (os : Os) (started : os.Started) (H : Type) (enc : TypeId × Value → H) :
    ReturnsInHanded {} Try.checked os 3 .any (Rows.rankOrdersSpec.pre6 enc Try.prog Try.f3 Rows.rankOrdersRow.domain false) (Rows.rankOrdersSpec.post enc Try.prog Try.f3 false true false false) := by
  refine returnsInHanded_of_change_sized (C := Try.checked) own started (by kernel_rfl) Try.func3
    (ChangeSpec.witness6 (enc := enc) (C := Try.checked) false ⟨#[], #[.agg #[.int .u32 0, .int .u32 0, .int .i64 0], .agg #[.int .u32 0, .int .u32 0, .int .i64 0]], []⟩ 8 (by kernel_rfl) (by kernel_rfl) (by kernel_rfl) (by kernel_rfl)) ?_
  intro W base args ds gs before hval0 hW hcnd hsz0 _
  have hval : ∀ (j : Nat) t v, Try.f3.params[j]? = some t → args[j]? = some v → Value.okWide Try.prog W .any base t v := hval0
  have hW' := hW
  obtain ⟨p, q, hA0, hV, rfl, hfz, hnd⟩ := hW
  have hA : DataW.TrodAll enc Try.prog W 0 (fun _ => true) true Try.f3.params.toList args.toList ds p := hA0
  rw [Try.params3] at hA hval
  obtain ⟨v0, vs0, d0, ds0, p0, q0, hargs, rfl, rfl, h0, r0⟩ := trodAll_cons hA
  obtain ⟨v1, vs1, d1, ds1, p1, q1, rfl, rfl, rfl, h1, r1⟩ := trodAll_cons r0
  obtain ⟨rfl, rfl, rfl⟩ := trodAll_nil r1
  obtain rfl : args = #[v0, v1] := by cases args; simp_all
  obtain ⟨rfl, rfl⟩ := trodVars_none hV
  have k0 := h0
  have lt0 : ∀ x ∈ p0, x.block < W.heap.size := by obtain ⟨m, hm⟩ := k0; exact DataW.trod_lt m _ _ _ hm
  have k1 := h1
  have lt1 : ∀ x ∈ p1, x.block < W.heap.size := by obtain ⟨m, hm⟩ := k1; exact DataW.trod_lt m _ _ _ hm
  obtain ⟨e0, s0, m0, rfl, _, _, _⟩ := open_key (hval 0 24 v0 rfl rfl) h0
  obtain ⟨e1, s1, m1, rfl, _, _, _⟩ := open_key (hval 1 24 v1 rfl rfl) h1
  clear hA0 hval0 hsz0
  refine (root W (Nat.zero_le _) (VL.cons (key_vr e0 s0 m0) (VL.cons (key_vr e1 s1 m1) VL.nil)) (rankOrders_spec _ e0 s0 m0 e1 s1 m1)).mono fun e W' ⟨he, bel⟩ => ?_
  subst he
  exact ⟨_, rfl, _, _, _, [], _, [], hW', trodAll_mk1 (shut_bool Try.underlying4 _), (trodAll_cons_mk (Below.trod laidOut (by kernel_rfl) (of_decide_eq_true (by kernel_rfl)) k0 bel lt0) (trodAll_cons_mk (Below.trod laidOut (by kernel_rfl) (of_decide_eq_true (by kernel_rfl)) k1 bel lt1) trodAll_mk0)), rfl, bel.frame _, fun h => by cases h⟩
theorem over : Rows.rankOrdersRow.holds Try.pinned (OpenSpec.ofChange Rows.rankOrdersSpec) :=
  OpenClaim.holds_of_wide 3 Try.f3 rfl rfl rfl rfl rfl rfl rfl ⟨rfl, rfl, rfl, rfl, rfl⟩ rfl rfl rfl rfl rfl (by kernel_rfl) Try.func3 (by kernel_rfl)
    (of_decide_eq_true (by kernel_rfl)) (by unfold Func.isWrapper; first | (rw [if_pos (by decide +kernel)]; kernel_rfl) | (rw [if_neg (by decide +kernel)]; exact ⟨rfl, rfl⟩))
    (fun os started H enc _ => lifted os started H enc)
end Go.Proofs.Ytmeojocmngbpaaa.rankOrders
namespace Go.Proofs.Ytmeojocmngbpaaa
/-- 'fingerpostlaw01.RankOrders' holds as it is stated. -/
theorem rankOrders_holds : Rows.RankOrdersSaid := rankOrders.over
end Go.Proofs.Ytmeojocmngbpaaa
