/-
  'fingerpostlaw34.WatchApplies' returns true for every two views, and they read behind the call as before; its card: the package's variables are laid as the program's text lays them.
-/
import Derived.Test.YtoiihalnbdehkaaDoorWN
import Derived.Test.YtoiihalnbdehkaaDoorWa9
import Derived.Test.YtoiihalnbdehkaaDoorWL
import Derived.Test.YtoiihalnbdehkaaDoorTie
import Derived.Test.YtoiihalnbdehkaaDoorCards
import Derived.Lay
import Derived.SevenTiedAt
namespace Go.Proofs.YtoiihalnbdehkaaDoor.watchApplies
open Go Go.ChangeShapes Go.WideShapes Go.ChangeAt Go.RowKit Go.Proofs.YtoiihalnbdehkaaDoor.B
set_option linter.unusedVariables false
set_option maxRecDepth 100000
abbrev laid : List (String × DataW Unit) := [("math/bits.deBruijn32tab", Rows.laid_math_bits_deBruijn32tab), ("math/bits.deBruijn64tab", Rows.laid_math_bits_deBruijn64tab), ("internal/strconv.uint64pow10", Rows.laid_internal_strconv_uint64pow10), ("fingerpost/watch.names", Rows.laid_fingerpost_watch_names)]
theorem laid_mem0 : ("math/bits.deBruijn32tab", DataW.agg (DataW_parts (H := Unit) Rows.laid_math_bits_deBruijn32tab)) ∈ laid := by
  exact List.mem_cons_self ..
theorem laid_mem1 : ("math/bits.deBruijn64tab", DataW.agg (DataW_parts (H := Unit) Rows.laid_math_bits_deBruijn64tab)) ∈ laid := by
  exact List.mem_cons_of_mem _ (List.mem_cons_self ..)
theorem laid_mem2 : ("internal/strconv.uint64pow10", DataW.agg (DataW_parts (H := Unit) Rows.laid_internal_strconv_uint64pow10)) ∈ laid := by
  exact List.mem_cons_of_mem _ (List.mem_cons_of_mem _ (List.mem_cons_self ..))
theorem laid_mem3 : ("fingerpost/watch.names", DataW.agg (DataW_parts (H := Unit) Rows.laid_fingerpost_watch_names)) ∈ laid := by
  exact List.mem_cons_of_mem _ (List.mem_cons_of_mem _ (List.mem_cons_of_mem _ (List.mem_cons_self ..)))
theorem vars_of_laid {W : World} (h : laidMet Tryd.prog laid W) : nG ≤ W.heap.size ∧ WatchV (absH W) := by
  obtain ⟨k0, s0⟩ := laid_row (vs := watchNames) (g := 1) (t := 201) (e := 9) (n := 9) (ds := DataW_parts Rows.laid_fingerpost_watch_names) h (laid_mem3) (by kernel_rfl) (by kernel_rfl) Tryd.underlying201 (.inl Tryd.underlying9) (by kernel_rfl) (by kernel_rfl) (by kernel_rfl) (by kernel_rfl)
  obtain ⟨k1, s1⟩ := laid_row (vs := powRow) (g := 3) (t := 222) (e := 98) (n := 20) (ds := DataW_parts Rows.laid_internal_strconv_uint64pow10) h (laid_mem2) (by kernel_rfl) (by kernel_rfl) Tryd.underlying222 (.inr ⟨_, Tryd.underlying98⟩) (by kernel_rfl) (by kernel_rfl) (by kernel_rfl) (by kernel_rfl)
  obtain ⟨k2, s2⟩ := laid_row (vs := litVs (DataW_parts Rows.laid_math_bits_deBruijn64tab)) (g := 7) (t := 240) (e := 5) (n := 64) (ds := DataW_parts Rows.laid_math_bits_deBruijn64tab) h (laid_mem1) (by kernel_rfl) (by kernel_rfl) Tryd.underlying240 (.inr ⟨_, Tryd.underlying5⟩) (by kernel_rfl) (by kernel_rfl) (by kernel_rfl) (by kernel_rfl)
  exact ⟨by have := s2; unfold nG; omega, ⟨k0, k1⟩⟩

theorem lifted (os : Os) (started : os.Started) (H : Type) (enc : TypeId × Value → H) :
    ReturnsInHanded {} Tryd.checked os 3 .any (fun w args => (Rows.watchAppliesSpec.pre enc Tryd.prog Tryd.f3 [] false w args ∧ laidMet Tryd.prog laid w) ∧ sizedMet enc Tryd.prog Tryd.f3 (OpenSpec.ofChange Rows.watchAppliesSpec) false w args)
      (Rows.watchAppliesSpec.post enc Tryd.prog Tryd.f3 false true false false) := by
  refine returnsInHanded_of_change_and (C := Tryd.checked) (X := fun w _ => laidMet Tryd.prog laid w) (fun _ _ _ hh h => h.of_heap hh) own started (by kernel_rfl) Tryd.func3
    (ChangeSpec.witness_shaped (enc := enc) (C := Tryd.checked) (os := os) (X := fun w _ => laidMet Tryd.prog laid w) false (World.laidAll Tryd.prog os laid) #[.agg #[.int .i64 0, .slice none 0 0], .agg #[.int .i64 0, .slice none 0 0]] 8 (World.laidAll_os _ _ _)
      (World.shaped_of_ZipB (by kernel_rfl) (by kernel_rfl)) (by kernel_rfl) (by kernel_rfl) (by kernel_rfl)
      (laidMet_laidAll _ (by kernel_rfl) (by kernel_rfl))) ?_
  intro W base args ds gs before hval0 hW hcnd hsz0 hL _
  obtain ⟨hG, hV⟩ := vars_of_laid hL
  have hval : ∀ (j : Nat) t v, Tryd.f3.params[j]? = some t → args[j]? = some v → Value.okWide Tryd.prog W .any base t v := hval0
  refine law_end (P := Tryd.prog) (tb := 4) laidOut (by kernel_rfl) rfl Tryd.underlying4 rfl hG (fun ds hds => ?_) hW hsz0 (fun hsh hlen => ?_)
  · match ds, hds with
    | [d0, d1], _ => rfl
  · have hsh' : ∀ (j : Nat) t v, Tryd.f3.params[j]? = some t → args[j]? = some v → ∀ d sh, shOf Tryd.prog d t = some sh → sh.ok (absH W) (v.cells.toList.map (abs1 W.heap.size)) := hsh
    clear hsh hval0 hsz0 hW hcnd hL
    obtain ⟨v0, v1, rfl⟩ := arr2 (show args.size = 2 from hlen)
    have ok0 := hval 0 24 v0 rfl rfl
    have sh0 := hsh' 0 24 v0 rfl rfl 8 (.fld 1 (.int .i64) (.fld 1 (.slice 7 64 (.fld 1 .bool (.fld 1 (.int .u64) (.fld 3 (.fld 1 (.int .u32) (.fld 1 (.int .u32) (.fld 1 (.int .i64) .nil))) (.fld 1 (.int .u8) (.fld 1 (.slice 3 24 (.fld 1 (.int .i64) (.fld 1 (.int .i64) (.fld 1 (.int .i64) .nil)))) .nil)))))) .nil)) (by kernel_rfl)
    have ok1 := hval 1 24 v1 rfl rfl
    have sh1 := hsh' 1 24 v1 rfl rfl 8 (.fld 1 (.int .i64) (.fld 1 (.slice 7 64 (.fld 1 .bool (.fld 1 (.int .u64) (.fld 3 (.fld 1 (.int .u32) (.fld 1 (.int .u32) (.fld 1 (.int .i64) .nil))) (.fld 1 (.int .u8) (.fld 1 (.slice 3 24 (.fld 1 (.int .i64) (.fld 1 (.int .i64) (.fld 1 (.int .i64) .nil)))) .nil)))))) .nil)) (by kernel_rfl)
    clear hval hsh'
    obtain ⟨t0, u0, l0, e0, L0, ok'0⟩ := opView (okAgg 2 Tryd.underlying24 (by kernel_rfl) ok0) sh0
    obtain ⟨t1, u1, l1, e1, L1, ok'1⟩ := opView (okAgg 2 Tryd.underlying24 (by kernel_rfl) ok1) sh1
    simp only [List.map_cons, List.map_nil, e0, e1]
    exact watchApplies_spec hV L0 L1 ok'0 ok'1 _ _
theorem over : Rows.watchAppliesRow.holds Tryd.pinned (OpenSpec.ofChange Rows.watchAppliesSpec) :=
  OpenClaim.holds_of_wide 3 Tryd.f3 rfl rfl rfl rfl rfl rfl rfl ⟨rfl, rfl, rfl, rfl, rfl⟩ rfl rfl rfl rfl rfl (by kernel_rfl) Tryd.func3 (by kernel_rfl)
    (of_decide_eq_true (by kernel_rfl)) (by unfold Func.isWrapper; first | (rw [if_pos (by decide +kernel)]; kernel_rfl) | (rw [if_neg (by decide +kernel)]; exact ⟨rfl, rfl⟩))
    (fun os started H enc _ => lifted os started H enc)
end Go.Proofs.YtoiihalnbdehkaaDoor.watchApplies
namespace Go.Proofs.YtoiihalnbdehkaaDoor
open Go
set_option maxRecDepth 100000
/-- 'fingerpost/fingerpostlaw34.WatchApplies' holds as it is stated: the row, tied to the program's text. -/
theorem watchApplies_card : Rows.WatchAppliesCardSaid :=
  Claim7.holds_tied_plain_at .later [] [.data, .data, .data, .data] true (true, "e0dd6696a6847588ba36fa923254bf5b8f8e8902f17cf53f99328e207e323d13") true watchApplies.over (fun _ h => by cases h) (by kernel_rfl) (fun _ h => by cases h) watchApplies_row_tie rfl ⟨rfl, rfl⟩ (by kernel_rfl) rfl
    (fun f fn hf hfn => by
      obtain rfl : f = 3 := Option.some.inj ((show Tryd.prog.funcNamed "fingerpost/fingerpostlaw34.WatchApplies" = some 3 by kernel_rfl).symm.trans hf) |>.symm
      obtain rfl : fn = Tryd.f3 := (Option.some.inj (Tryd.func3.symm.trans hfn)).symm
      exact ⟨by kernel_rfl, fun j t ht => by
        have hm : t ∈ [24, 24] := by
          have := Array.mem_of_getElem? ht
          rw [show Tryd.f3.params = #[24, 24] from rfl] at this
          simpa using this
        have hall : ([24, 24].all fun u => !Tryd.prog.wantsStandIn u) = true := by kernel_rfl
        exact (show Tryd.prog.wantsStandIn t = false by simpa using List.all_eq_true.1 hall t hm)⟩)
    (by kernel_rfl)
end Go.Proofs.YtoiihalnbdehkaaDoor
