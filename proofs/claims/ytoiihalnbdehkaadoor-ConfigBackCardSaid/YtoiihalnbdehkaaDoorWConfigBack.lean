/-
  'fingerpostlaw23.ConfigBack' returns true for all rules and every text; its card: the package's variables are laid as the program's text lays them.
-/
import Derived.Test.YtoiihalnbdehkaaDoorWQ
import Derived.Test.YtoiihalnbdehkaaDoorCp
import Derived.Test.YtoiihalnbdehkaaDoorWL
import Derived.Test.YtoiihalnbdehkaaDoorTie
import Derived.Test.YtoiihalnbdehkaaDoorCards
import Derived.Lay
import Derived.SevenTiedAt
namespace Go.Proofs.YtoiihalnbdehkaaDoor.configBack
open Go Go.ChangeShapes Go.WideShapes Go.ChangeAt Go.RowKit Go.Proofs.YtoiihalnbdehkaaDoor.B
set_option linter.unusedVariables false
set_option maxRecDepth 100000
abbrev laid : List (String × DataW Unit) := [("math/bits.deBruijn32tab", Rows.laid_math_bits_deBruijn32tab), ("math/bits.deBruijn64tab", Rows.laid_math_bits_deBruijn64tab), ("internal/strconv.uint64pow10", Rows.laid_internal_strconv_uint64pow10), ("unicode/utf8.acceptRanges", Rows.laid_unicode_utf8_acceptRanges), ("strconv.ErrRange", Rows.laid_strconv_ErrRange), ("strconv.ErrSyntax", Rows.laid_strconv_ErrSyntax), ("unicode/utf8.first", Rows.laid_unicode_utf8_first)]
theorem laid_mem1 : ("math/bits.deBruijn64tab", DataW.agg (DataW_parts (H := Unit) Rows.laid_math_bits_deBruijn64tab)) ∈ laid := by
  exact List.mem_cons_of_mem _ (List.mem_cons_self ..)
theorem laid_mem2 : ("internal/strconv.uint64pow10", DataW.agg (DataW_parts (H := Unit) Rows.laid_internal_strconv_uint64pow10)) ∈ laid := by
  exact List.mem_cons_of_mem _ (List.mem_cons_of_mem _ (List.mem_cons_self ..))
theorem laid_mem4 : ("strconv.ErrRange", (Rows.laid_strconv_ErrRange : DataW Unit)) ∈ laid := by
  exact List.mem_cons_of_mem _ (List.mem_cons_of_mem _ (List.mem_cons_of_mem _ (List.mem_cons_of_mem _ (List.mem_cons_self ..))))
theorem laid_mem5 : ("strconv.ErrSyntax", (Rows.laid_strconv_ErrSyntax : DataW Unit)) ∈ laid := by
  exact List.mem_cons_of_mem _ (List.mem_cons_of_mem _ (List.mem_cons_of_mem _ (List.mem_cons_of_mem _ (List.mem_cons_of_mem _ (List.mem_cons_self ..)))))
theorem vars_of_laid {W : World} (h : laidMet Tryd.prog laid W) : nG ≤ W.heap.size ∧ CfgV (absH W) := by
  obtain ⟨k0, s0⟩ := laid_row (vs := powRow) (g := 3) (t := 222) (e := 98) (n := 20) (ds := DataW_parts Rows.laid_internal_strconv_uint64pow10) h (laid_mem2) (by kernel_rfl) (by kernel_rfl) Tryd.underlying222 (.inr ⟨_, Tryd.underlying98⟩) (by kernel_rfl) (by kernel_rfl) (by kernel_rfl) (by kernel_rfl)
  obtain ⟨k1, s1⟩ := laid_iface (g := 4) (t := 157) h (laid_mem5) (by kernel_rfl) (by kernel_rfl) ⟨_, Tryd.underlying157⟩
  obtain ⟨k2, s2⟩ := laid_iface (g := 5) (t := 157) h (laid_mem4) (by kernel_rfl) (by kernel_rfl) ⟨_, Tryd.underlying157⟩
  obtain ⟨k3, s3⟩ := laid_row (vs := litVs (DataW_parts Rows.laid_math_bits_deBruijn64tab)) (g := 7) (t := 240) (e := 5) (n := 64) (ds := DataW_parts Rows.laid_math_bits_deBruijn64tab) h (laid_mem1) (by kernel_rfl) (by kernel_rfl) Tryd.underlying240 (.inr ⟨_, Tryd.underlying5⟩) (by kernel_rfl) (by kernel_rfl) (by kernel_rfl) (by kernel_rfl)
  exact ⟨by have := s3; unfold nG; omega, ⟨k0, k1, k2⟩⟩

theorem lifted (os : Os) (started : os.Started) (H : Type) (enc : TypeId × Value → H) :
    ReturnsInHanded {} Tryd.checked os 7 .any (fun w args => (Rows.configBackSpec.pre enc Tryd.prog Tryd.f7 [] false w args ∧ laidMet Tryd.prog laid w) ∧ sizedMet enc Tryd.prog Tryd.f7 (OpenSpec.ofChange Rows.configBackSpec) false w args)
      (Rows.configBackSpec.post enc Tryd.prog Tryd.f7 false true false false) := by
  refine returnsInHanded_of_change_and (C := Tryd.checked) (X := fun w _ => laidMet Tryd.prog laid w) (fun _ _ _ hh h => h.of_heap hh) own started (by kernel_rfl) Tryd.func7
    (ChangeSpec.witness_shaped (enc := enc) (C := Tryd.checked) (os := os) (X := fun w _ => laidMet Tryd.prog laid w) false (World.laidAll Tryd.prog os laid) #[.agg #[.int .i64 0, .int .i64 0, .int .i64 0, .int .i64 0, .int .i64 0, .int .i64 0, .int .i64 0, .int .i64 0, .int .i64 0, .int .i64 0, .int .i64 0, .int .i64 0, .int .i64 0, .int .i64 0, .int .i64 0], .string ByteArray.empty] 8 (World.laidAll_os _ _ _)
      (World.shaped_of_ZipB (by kernel_rfl) (by kernel_rfl)) (by kernel_rfl) (by kernel_rfl) (by kernel_rfl)
      (laidMet_laidAll _ (by kernel_rfl) (by kernel_rfl))) ?_
  intro W base args ds gs before hval0 hW hcnd hsz0 hL _
  obtain ⟨hG, hV⟩ := vars_of_laid hL
  have hval : ∀ (j : Nat) t v, Tryd.f7.params[j]? = some t → args[j]? = some v → Value.okWide Tryd.prog W .any base t v := hval0
  refine law_end (P := Tryd.prog) (tb := 4) laidOut (by kernel_rfl) rfl Tryd.underlying4 rfl hG (fun ds hds => ?_) hW hsz0 (fun hsh hlen => ?_)
  · match ds, hds with
    | [d0, d1], _ => rfl
  · have hsh' : ∀ (j : Nat) t v, Tryd.f7.params[j]? = some t → args[j]? = some v → ∀ d sh, shOf Tryd.prog d t = some sh → sh.ok (absH W) (v.cells.toList.map (abs1 W.heap.size)) := hsh
    clear hsh hval0 hsz0 hW hcnd hL
    obtain ⟨v0, v1, rfl⟩ := arr2 (show args.size = 2 from hlen)
    have ok0 := hval 0 69 v0 rfl rfl
    have sh0 := hsh' 0 69 v0 rfl rfl 8 (.arr 15 1 (.int .i64)) (by kernel_rfl)
    have ok1 := hval 1 9 v1 rfl rfl
    have sh1 := hsh' 1 9 v1 rfl rfl 8 .str (by kernel_rfl)
    clear hval hsh'
    obtain ⟨L0, e0, n0, b0⟩ := opRul (okAgA 15 Tryd.underlying69 (by kernel_rfl) ok0) sh0
    obtain ⟨x1, e1, p1⟩ := opT2 Tryd.underlying9 ok1 sh1
    simp only [List.map_cons, List.map_nil, e0, e1]
    exact configBack_spec hV.errV hV.pow n0 (in64_of n0 b0) p1
theorem over : Rows.configBackRow.holds Tryd.pinned (OpenSpec.ofChange Rows.configBackSpec) :=
  OpenClaim.holds_of_wide 7 Tryd.f7 rfl rfl rfl rfl rfl rfl rfl ⟨rfl, rfl, rfl, rfl, rfl⟩ rfl rfl rfl rfl rfl (by kernel_rfl) Tryd.func7 (by kernel_rfl)
    (of_decide_eq_true (by kernel_rfl)) (by unfold Func.isWrapper; first | (rw [if_pos (by decide +kernel)]; kernel_rfl) | (rw [if_neg (by decide +kernel)]; exact ⟨rfl, rfl⟩))
    (fun os started H enc _ => lifted os started H enc)
end Go.Proofs.YtoiihalnbdehkaaDoor.configBack
namespace Go.Proofs.YtoiihalnbdehkaaDoor
open Go
set_option maxRecDepth 100000
/-- 'fingerpost/fingerpostlaw23.ConfigBack' holds as it is stated: the row, tied to the program's text. -/
theorem configBack_card : Rows.ConfigBackCardSaid :=
  Claim7.holds_tied_plain_at .later [] [.data, .data, .data, .data, .sentinel, .sentinel, .pinned] true (true, "e0dd6696a6847588ba36fa923254bf5b8f8e8902f17cf53f99328e207e323d13") true configBack.over (fun _ h => by cases h) (by kernel_rfl) (fun _ h => by cases h) configBack_row_tie rfl ⟨rfl, rfl⟩ (by kernel_rfl) rfl
    (fun f fn hf hfn => by
      obtain rfl : f = 7 := Option.some.inj ((show Tryd.prog.funcNamed "fingerpost/fingerpostlaw23.ConfigBack" = some 7 by kernel_rfl).symm.trans hf) |>.symm
      obtain rfl : fn = Tryd.f7 := (Option.some.inj (Tryd.func7.symm.trans hfn)).symm
      exact ⟨by kernel_rfl, fun j t ht => by
        have hm : t ∈ [69, 9] := by
          have := Array.mem_of_getElem? ht
          rw [show Tryd.f7.params = #[69, 9] from rfl] at this
          simpa using this
        have hall : ([69, 9].all fun u => !Tryd.prog.wantsStandIn u) = true := by kernel_rfl
        exact (show Tryd.prog.wantsStandIn t = false by simpa using List.all_eq_true.1 hall t hm)⟩)
    (by kernel_rfl)
end Go.Proofs.YtoiihalnbdehkaaDoor
