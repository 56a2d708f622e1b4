/-
  What the rows of signed records share: a record, a slice of bytes.
-/
import Derived.Test.YtbomppdiiaodbaaRRRRows
import Derived.Test.YtbomppdiiaodbaaRRRAbQ
import Derived.Test.YtbomppdiiaodbaaRRRFd13
import Derived.OpenShut
import Derived.ShutString
import Derived.Lib.SmallJoins
namespace Go.Proofs.YtbomppdiiaodbaaRRR.B
open Go Go.ChangeShapes Go.WideShapes Go.RowKit
set_option linter.unusedVariables false
theorem own : ownKnob Try.prog.godebug = none := by kernel_rfl
theorem laidOut : laidOutB Try.prog = true := by kernel_rfl
abbrev sumSh : Sh := .arr 16 1 (.int .u8)
abbrev signedSh : Sh := .fld 34 (.fld 1 (.int .i64) (.fld 1 (.int .u32) (.fld 16 sumSh (.fld 16 sumSh .nil)))) (.fld 1088 (.arr 68 16 sumSh) .nil)
theorem wf_u8 {n : Int} (h : (Lit.int .u8 n).wf = true) : 0 ≤ n ∧ n < 256 := by
  simp only [Lit.wf, Bool.and_eq_true, decide_eq_true_eq] at h
  have : IntKind.u8.min = 0 := rfl
  have : IntKind.u8.max = 255 := rfl
  omega
theorem wf_u32 {n : Int} (h : (Lit.int .u32 n).wf = true) : 0 ≤ n ∧ n < 4294967296 := by
  simp only [Lit.wf, Bool.and_eq_true, decide_eq_true_eq] at h
  have : IntKind.u32.min = 0 := rfl
  have : IntKind.u32.max = 4294967295 := rfl
  omega
theorem bytes_of {h : AHeap} : ∀ (n : Nat) (c : List Value), c.length = n → (Sh.arr n 1 (.int .u8)).ok h c → ∃ L, c = ik .u8 L ∧ IsB L
  | 0, c, hl, k => ⟨[], List.eq_nil_of_length_eq_zero hl, IsB.nil⟩
  | n + 1, [], hl, k => by simp at hl
  | n + 1, v :: c, hl, k => by
    obtain ⟨L, rfl, hB⟩ := bytes_of n c (by simpa using hl) fun i hi => by
      have := k (i + 1) (by omega)
      rwa [Nat.mul_one] at this ⊢
    obtain ⟨x, hx, hw⟩ := k 0 (by omega)
    simp at hx
    subst hx
    obtain ⟨h0, h1⟩ := wf_u8 hw
    exact ⟨x :: L, rfl, hB.cons h0 h1⟩
theorem sums_of {h : AHeap} : ∀ (n : Nat) (c : List Value), c.length = n * 16 → (Sh.arr n 16 sumSh).ok h c → ∃ L, c = ik .u8 L ∧ IsB L
  | 0, c, hl, k => ⟨[], List.eq_nil_of_length_eq_zero (by omega), IsB.nil⟩
  | n + 1, c, hl, k => by
    obtain ⟨L, hL, hB⟩ := sums_of n (c.drop 16) (by rw [List.length_drop]; omega) fun i hi => by
      have := k (i + 1) (by omega)
      rw [List.drop_drop]
      rwa [show 16 + i * 16 = (i + 1) * 16 by omega]
    obtain ⟨M, hM, hC⟩ := bytes_of 16 (c.take 16) (by rw [List.length_take]; omega) (by have := k 0 (by omega); simpa using this)
    refine ⟨M ++ L, ?_, hC.append hB⟩
    rw [ik, List.map_append]
    show c = ik .u8 M ++ ik .u8 L
    rw [← hM, ← hL, List.take_append_drop]
theorem signed_cells {h : AHeap} {c : List Value} (hl : c.length = 1122) (k : signedSh.ok h c) : ∃ d e B, c = sgC d e B ∧ B.length = 1120 ∧ IsB B ∧ 0 ≤ e ∧ e < 4294967296 := by
  obtain ⟨⟨⟨d, hd, _⟩, ⟨e, he, hw⟩, kR, kN, _⟩, kS, _⟩ := k
  match c, hl with
  | x :: y :: c, hl =>
    simp only [List.length_cons] at hl
    simp at hd he
    subst hd he
    obtain ⟨h0, h1⟩ := wf_u32 hw
    simp only [List.take_take, List.drop_take, List.drop_drop] at kR kN
    obtain ⟨R, hR, bR⟩ := bytes_of 16 _ (by simp; omega) kR
    obtain ⟨N, hN, bN⟩ := bytes_of 16 _ (by simp; omega) kN
    obtain ⟨S, hS, bS⟩ := sums_of 68 _ (by simp; omega) kS
    simp at hR hN hS
    refine ⟨d, e, R ++ (N ++ S), ?_, ?_, bR.append (bN.append bS), h0, h1⟩
    · have e3 : (c.drop 32).take 1088 = c.drop 32 := List.take_of_length_le (by rw [List.length_drop]; omega)
      have e1 : c = c.take 16 ++ ((c.drop 16).take 16 ++ c.drop 32) := by
        rw [← List.append_assoc, ← List.take_add, List.take_append_drop]
      rw [e3] at hS
      show _ :: _ :: c = _ :: _ :: (ik .u8 (R ++ (N ++ S)))
      congr 2
      rw [e1, hR, hN, hS]
      simp
    · have a1 := congrArg List.length hR
      have a2 := congrArg List.length hN
      have a3 := congrArg List.length hS
      simp only [List.length_map, List.length_take, List.length_drop] at a1 a2 a3
      simp only [List.length_append]
      omega
section
variable {P : Program} {W : World} {base : Nat} {t : TypeId} {v : Value}
theorem opSigned (hv : ∃ cs, v = .agg cs ∧ cs.size = 1122) (k : signedSh.ok (absH W) (v.cells.toList.map (abs1 W.heap.size))) : ∃ d e B, absV W.heap.size v = .agg ⟨sgC d e B⟩ ∧ B.length = 1120 ∧ IsB B ∧ 0 ≤ e ∧ e < 4294967296 := by
  obtain ⟨cs, rfl, hsz⟩ := hv
  obtain ⟨d, e, B, h1, h2⟩ := signed_cells (by simpa [Value.cells] using hsz) k
  refine ⟨d, e, B, ?_, h2⟩
  show Value.agg _ = _
  congr 1
  apply Array.toList_inj.1
  rw [Array.toList_map]
  exact h1
end
theorem Ls.split {α : Type} {h : AHeap} {sz : Nat} {R : List Value → α → Prop} {Q : α → Prop} {v : Value} {l : List α} (k : Ls h sz (fun c a => R c a ∧ Q a) v l) : Ls h sz R v l ∧ ∀ a ∈ l, Q a := by
  refine ⟨k.mono fun c a q => q.1, fun a ha => ?_⟩
  obtain ⟨cs, _, hq⟩ := k
  obtain ⟨i, hi, rfl⟩ := List.getElem_of_mem ha
  exact (hq i hi).2
theorem byte_cells {h : AHeap} {c : List Value} (hl : c.length = 1) (k : (Sh.int .u8).ok h c) : ∃ n : Int, by8 c n ∧ 0 ≤ n ∧ n < 256 := by
  obtain ⟨n, rfl, hw⟩ := k
  exact ⟨n, rfl, wf_u8 hw⟩
end Go.Proofs.YtbomppdiiaodbaaRRR.B
/-
  An input of 'fingerpostlaw11.RenewBytes': a record of zeros.
-/
namespace Go.Proofs.YtbomppdiiaodbaaRRR.renewBytes
open Go Go.ChangeShapes Go.WideShapes Go.ChangeAt Go.RowKit Go.Joins Go.Proofs.YtbomppdiiaodbaaRRR.B
set_option maxRecDepth 100000
theorem hts : Try.prog.cellTypes Try.prog.depth 28 = some (3 :: 22 :: List.replicate 1120 5) := by kernel_rfl
theorem hc3 (w : World) : Cell.okWideB Try.prog w 3 (.int .i64 0) = true := by kernel_rfl
theorem hc22 (w : World) : Cell.okWideB Try.prog w 22 (.int .u32 0) = true := by kernel_rfl
theorem hc5 (w : World) : Cell.okWideB Try.prog w 5 (.int .u8 0) = true := by kernel_rfl
theorem hcs : Try.prog.cellsOf 28 = 1122 := by kernel_rfl
theorem rep_get {α : Type} {n i : Nat} {x : α} (h : i < n) : (List.replicate n x)[i]? = some x := by simp [h]
theorem sgC0_get {i : Nat} (h : i + 2 < 1122) : (sgC 0 0 (irep 1120 0))[i + 2]? = some (.int .u8 0) := by
  show (ik .u8 (irep 1120 0))[i]? = _
  rw [ik, List.getElem?_map, irep, rep_get (show i < 1120 by omega)]
  rfl
theorem hrow (w : World) : Cell.okWideRowB Try.prog w 28 ⟨sgC 0 0 (irep 1120 0)⟩ = true := by
  unfold Cell.okWideRowB
  rw [hts]
  have hl : (3 :: 22 :: List.replicate 1120 5).length = 1122 := by rw [List.length_cons, List.length_cons, List.length_replicate]
  have hs : (⟨sgC 0 0 (irep 1120 0)⟩ : Array Value).size = 1122 := by
    show (sgC 0 0 (irep 1120 0)).length = 1122
    rw [sgC_len, irep_len]
  simp only [hl, hs, Nat.mod_self, beq_self_eq_true, Bool.true_and, List.all_eq_true, List.mem_range]
  intro i hi
  rw [Nat.mod_eq_of_lt hi]
  have e1 : (⟨sgC 0 0 (irep 1120 0)⟩ : Array Value)[i]? = (sgC 0 0 (irep 1120 0))[i]? := by simp
  rw [e1]
  match i, hi with
  | 0, _ => exact hc3 w
  | 1, _ => exact hc22 w
  | i + 2, hi =>
    rw [sgC0_get hi]
    have e2 : (3 :: 22 :: List.replicate 1120 5)[i + 2]? = some 5 := by
      show (List.replicate 1120 5)[i]? = _
      exact rep_get (by omega)
    rw [e2]
    exact hc5 w
theorem hval (w : World) : Value.okWideB Try.prog w 28 (.agg ⟨sgC 0 0 (irep 1120 0)⟩) = true := by
  unfold Value.okWideB
  rw [Try.underlying28]
  simp only [hrow, hcs, Bool.and_true, beq_iff_eq]
  show (sgC 0 0 (irep 1120 0)).length = 1122
  rw [sgC_len, irep_len]
abbrev inp : Input := ⟨#[], #[.agg ⟨sgC 0 0 (irep 1120 0)⟩, .slice none 0 0], []⟩
theorem hsl (w : World) : Value.okWideB Try.prog w 29 (.slice none 0 0) = true := by kernel_rfl
theorem hfn : Try.prog.funcs[3]? = some Try.f3 := by kernel_rfl
theorem hini : (Try.prog.inits.idxOf? 3).isNone = true := by kernel_rfl
theorem hfix : (Try.f3.body.isSome && !Try.f3.ours && Try.f3.nfree == 0) = true := by kernel_rfl
theorem hpar : Try.f3.params = #[28, 29] := by kernel_rfl
theorem hokv (w : World) (v : Value) (hv : Value.okWideB Try.prog w 28 v = true) : Input.okWideB Try.prog w 3 ⟨#[], #[v, .slice none 0 0], []⟩ = true := by
  unfold Input.okWideB
  rw [hfn]
  simp only [hini, hfix, hpar]
  show (Value.okWideB Try.prog w 28 v && (Value.okWideB Try.prog w 29 (.slice none 0 0) && true)) = true
  rw [hv, hsl]; rfl
theorem hok (w : World) : Input.okWideB Try.prog w 3 ⟨#[], inp.args, []⟩ = true := hokv w _ (hval w)
end Go.Proofs.YtbomppdiiaodbaaRRR.renewBytes
