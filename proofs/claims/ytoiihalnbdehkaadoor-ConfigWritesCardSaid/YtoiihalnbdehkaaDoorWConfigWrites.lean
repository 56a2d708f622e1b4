/-
  'fingerpostlaw23.ConfigWrites' returns true for all rules; its card: the package's variables are laid as the program's text lays them.
-/
import Derived.Test.YtoiihalnbdehkaaDoorWR
import Derived.Test.YtoiihalnbdehkaaDoorCp
import Derived.Test.YtoiihalnbdehkaaDoorWL
import Derived.Test.YtoiihalnbdehkaaDoorTie
import Derived.Test.YtoiihalnbdehkaaDoorCards
import Derived.Lay
import Derived.SevenTiedAt
namespace Go.Proofs.YtoiihalnbdehkaaDoor.configWrites
open Go Go.ChangeShapes Go.WideShapes Go.ChangeAt Go.RowKit Go.Proofs.YtoiihalnbdehkaaDoor.B
set_option linter.unusedVariables false
set_option maxRecDepth 100000
abbrev laid : List (String × DataW Unit) := [("math/bits.deBruijn32tab", Rows.laid_math_bits_deBruijn32tab), ("math/bits.deBruijn64tab", Rows.laid_math_bits_deBruijn64tab), ("internal/strconv.uint64pow10", Rows.laid_internal_strconv_uint64pow10), ("unicode/utf8.acceptRanges", Rows.laid_unicode_utf8_acceptRanges), ("strconv.ErrRange", Rows.laid_strconv_ErrRange), ("strconv.ErrSyntax", Rows.laid_strconv_ErrSyntax), ("unicode/utf8.first", Rows.laid_unicode_utf8_first)]
theorem laid_mem1 : ("math/bits.deBruijn64tab", DataW.agg (DataW_parts (H := Unit) Rows.laid_math_bits_deBruijn64tab)) ∈ laid := by
  exact List.mem_cons_of_mem _ (List.mem_cons_self ..)
theorem laid_mem2 : ("internal/strconv.uint64pow10", DataW.agg (DataW_parts (H := Unit) Rows.laid_internal_strconv_uint64pow10)) ∈ laid := by
  exact List.mem_cons_of_mem _ (List.mem_cons_of_mem _ (List.mem_cons_self ..))
theorem vars_of_laid {W : World} (h : laidMet Tryd.prog laid W) : nG ≤ W.heap.size ∧ PowS (absH W) := by
  obtain ⟨k0, s0⟩ := laid_row (vs := powRow) (g := 3) (t := 222) (e := 98) (n := 20) (ds := DataW_parts Rows.laid_internal_strconv_uint64pow10) h (laid_mem2) (by kernel_rfl) (by kernel_rfl) Tryd.underlying222 (.inr ⟨_, Tryd.underlying98⟩) (by kernel_rfl) (by kernel_rfl) (by kernel_rfl) (by kernel_rfl)
  obtain ⟨k1, s1⟩ := laid_row (vs := litVs (DataW_parts Rows.laid_math_bits_deBruijn64tab)) (g := 7) (t := 240) (e := 5) (n := 64) (ds := DataW_parts Rows.laid_math_bits_deBruijn64tab) h (laid_mem1) (by kernel_rfl) (by kernel_rfl) Tryd.underlying240 (.inr ⟨_, Tryd.underlying5⟩) (by kernel_rfl) (by kernel_rfl) (by kernel_rfl) (by kernel_rfl)
  exact ⟨by have := s1; unfold nG; omega, ⟨k0⟩⟩

theorem lifted (os : Os) (started : os.Started) (H : Type) (enc : TypeId × Value → H) :
    ReturnsInHanded {} Tryd.checked os 6 .any (fun w args => (Rows.configWritesSpec.pre enc Tryd.prog Tryd.f6 [] false w args ∧ laidMet Tryd.prog laid w) ∧ sizedMet enc Tryd.prog Tryd.f6 (OpenSpec.ofChange Rows.configWritesSpec) false w args)
      (Rows.configWritesSpec.post enc Tryd.prog Tryd.f6 false true false false) := by
  refine returnsInHanded_of_change_and (C := Tryd.checked) (X := fun w _ => laidMet Tryd.prog laid w) (fun _ _ _ hh h => h.of_heap hh) own started (by kernel_rfl) Tryd.func6
    (ChangeSpec.witness_shaped (enc := enc) (C := Tryd.checked) (os := os) (X := fun w _ => laidMet Tryd.prog laid w) false (World.laidAll Tryd.prog os laid) #[.agg #[.int .i64 0, .int .i64 0, .int .i64 0, .int .i64 0, .int .i64 0, .int .i64 0, .int .i64 0, .int .i64 0, .int .i64 0, .int .i64 0, .int .i64 0, .int .i64 0, .int .i64 0, .int .i64 0, .int .i64 0]] 8 (World.laidAll_os _ _ _)
      (World.shaped_of_ZipB (by kernel_rfl) (by kernel_rfl)) (by kernel_rfl) (by kernel_rfl) (by kernel_rfl)
      (laidMet_laidAll _ (by kernel_rfl) (by kernel_rfl))) ?_
  intro W base args ds gs before hval0 hW hcnd hsz0 hL _
  obtain ⟨hG, hV⟩ := vars_of_laid hL
  have hval : ∀ (j : Nat) t v, Tryd.f6.params[j]? = some t → args[j]? = some v → Value.okWide Tryd.prog W .any base t v := hval0
  refine law_end (P := Tryd.prog) (tb := 4) laidOut (by kernel_rfl) rfl Tryd.underlying4 rfl hG (fun ds hds => ?_) hW hsz0 (fun hsh hlen => ?_)
  · match ds, hds with
    | [d0], _ => rfl
  · have hsh' : ∀ (j : Nat) t v, Tryd.f6.params[j]? = some t → args[j]? = some v → ∀ d sh, shOf Tryd.prog d t = some sh → sh.ok (absH W) (v.cells.toList.map (abs1 W.heap.size)) := hsh
    clear hsh hval0 hsz0 hW hcnd hL
    obtain ⟨v0, rfl⟩ := arr1 (show args.size = 1 from hlen)
    have ok0 := hval 0 69 v0 rfl rfl
    have sh0 := hsh' 0 69 v0 rfl rfl 8 (.arr 15 1 (.int .i64)) (by kernel_rfl)
    clear hval hsh'
    obtain ⟨L0, e0, n0, b0⟩ := opRul (okAgA 15 Tryd.underlying69 (by kernel_rfl) ok0) sh0
    simp only [List.map_cons, List.map_nil, e0]
    exact configWrites_spec hV.pow n0 (in64_of n0 b0)
theorem over : Rows.configWritesRow.holds Tryd.pinned (OpenSpec.ofChange Rows.configWritesSpec) :=
  OpenClaim.holds_of_wide 6 Tryd.f6 rfl rfl rfl rfl rfl rfl rfl ⟨rfl, rfl, rfl, rfl, rfl⟩ rfl rfl rfl rfl rfl (by kernel_rfl) Tryd.func6 (by kernel_rfl)
    (of_decide_eq_true (by kernel_rfl)) (by unfold Func.isWrapper; first | (rw [if_pos (by decide +kernel)]; kernel_rfl) | (rw [if_neg (by decide +kernel)]; exact ⟨rfl, rfl⟩))
    (fun os started H enc _ => lifted os started H enc)
end Go.Proofs.YtoiihalnbdehkaaDoor.configWrites
namespace Go.Proofs.YtoiihalnbdehkaaDoor
open Go
set_option maxRecDepth 100000
/-- 'fingerpost/fingerpostlaw23.ConfigWrites' holds as it is stated: the row, tied to the program's text. -/
theorem configWrites_card : Rows.ConfigWritesCardSaid :=
  Claim7.holds_tied_plain_at .later [] [.data, .data, .data, .data, .sentinel, .sentinel, .pinned] true (true, "e0dd6696a6847588ba36fa923254bf5b8f8e8902f17cf53f99328e207e323d13") true configWrites.over (fun _ h => by cases h) (by kernel_rfl) (fun _ h => by cases h) configWrites_row_tie rfl ⟨rfl, rfl⟩ (by kernel_rfl) rfl
    (fun f fn hf hfn => by
      obtain rfl : f = 6 := Option.some.inj ((show Tryd.prog.funcNamed "fingerpost/fingerpostlaw23.ConfigWrites" = some 6 by kernel_rfl).symm.trans hf) |>.symm
      obtain rfl : fn = Tryd.f6 := (Option.some.inj (Tryd.func6.symm.trans hfn)).symm
      exact ⟨by kernel_rfl, fun j t ht => by
        have hm : t ∈ [69] := by
          have := Array.mem_of_getElem? ht
          rw [show Tryd.f6.params = #[69] from rfl] at this
          simpa using this
        have hall : ([69].all fun u => !Tryd.prog.wantsStandIn u) = true := by kernel_rfl
        exact (show Tryd.prog.wantsStandIn t = false by simpa using List.all_eq_true.1 hall t hm)⟩)
    (by kernel_rfl)
end Go.Proofs.YtoiihalnbdehkaaDoor
