/-
  What the rows of layer 26 share: a source, as it comes.
-/
import Derived.Test.YtoiihalnbdehkaaDoorWS
import Derived.Test.YtoiihalnbdehkaaDoorQf
namespace Go.Proofs.YtoiihalnbdehkaaDoor.B
open Go Go.ChangeShapes Go.WideShapes Go.RowKit
set_option linter.unusedVariables false
variable {P : Program} {W : World} {base : Nat} {v : Value} {t : TypeId}
abbrev hopSh : Sh := .fld 1 (.int .i64) (.fld 1 (.int .i64) (.fld 1 (.int .i64) .nil))
abbrev keySh : Sh := .fld 1 (.int .u32) (.fld 1 (.int .u32) (.fld 1 (.int .i64) .nil))
abbrev toldSh : Sh := .fld 1 (.slice 3 24 hopSh) (.fld 8 (.arr 8 1 .bool) (.fld 24 (.arr 8 3 keySh) (.fld 1 .bool (.fld 3 keySh (.fld 1 (.slice 1 8 (.int .i64)) (.fld 8 (.arr 8 1 (.int .i64)) (.fld 19 (.arr 19 1 (.int .i64)) (.fld 1 (.int .i64) (.fld 1 (.int .u64) (.fld 1 (.int .i64) .nil))))))))))
theorem hop_cells {h : AHeap} {c : List Value} (hl : c.length = 3) (k : hopSh.ok h c) : ∃ a : Hop, isH c a := by
  obtain ⟨⟨e, h1, w1⟩, ⟨s, h2, w2⟩, ⟨m, h3, w3⟩, _⟩ := k
  match c, hl with
  | [x, y, z], _ =>
    simp at h1 h2 h3
    subst h1 h2 h3
    exact ⟨⟨e, s, m⟩, rfl⟩
theorem key_cells {h : AHeap} {c : List Value} (hl : c.length = 3) (k : keySh.ok h c) : ∃ (e s : Nat) (m : Int), c = keyC e s m ∧ e < 4294967296 ∧ s < 4294967296 ∧ i64ok m := by
  obtain ⟨⟨e, h1, w1⟩, ⟨s, h2, w2⟩, ⟨m, h3, w3⟩, _⟩ := k
  obtain ⟨e, rfl, he⟩ := wf_nat w1 rfl (m := 4294967295) rfl
  obtain ⟨s, rfl, hs⟩ := wf_nat w2 rfl (m := 4294967295) rfl
  match c, hl with
  | [x, y, z], _ =>
    simp at h1 h2 h3
    subst h1 h2 h3
    exact ⟨e, s, m, rfl, by omega, by omega, wf_i64 w3⟩
theorem int_cells {h : AHeap} {c : List Value} (hl : c.length = 1) (k : (Sh.int .i64).ok h c) : ∃ a : Int, isI c a := by
  obtain ⟨n, rfl, _⟩ := k
  exact ⟨n, rfl⟩
theorem take_sub {C : List Value} {a n j m : Nat} (h : j + m ≤ n) : (((C.drop a).take n).drop j).take m = (C.drop (a + j)).take m := by
  rw [List.drop_take, List.take_take, List.drop_drop, Nat.min_eq_left (by omega)]
theorem opTold (hv : ∃ cs, v = .agg cs ∧ cs.size = 68) (k : toldSh.ok (absH W) (v.cells.toList.map (abs1 W.heap.size))) : ∃ C l, absV W.heap.size v = .agg ⟨C⟩ ∧ SrcL (absH W) C l := by
  obtain ⟨cs, rfl, hsz⟩ := hv
  obtain ⟨C, hC⟩ : ∃ C, (Value.cells (.agg cs)).toList.map (abs1 W.heap.size) = C := ⟨_, rfl⟩
  have hl : C.length = 68 := by rw [← hC]; simpa [Value.cells] using hsz
  rw [hC] at k
  obtain ⟨kf, kh, kfl, ka, ko, kl, kr, _⟩ := k
  simp only [List.drop_drop, Nat.reduceAdd] at kh kfl ka ko kl kr
  obtain ⟨fv, l, e1, h1, h2⟩ := Sh.ls (fun c h1 h2 => hop_cells h1 h2) kf
  obtain ⟨lv, ll, e2, h3, _⟩ := Sh.ls (fun c h1 h2 => int_cells h1 h2) kl
  refine ⟨C, l, ?_, hl, ⟨fv, e1, h1, h2⟩, fun d hd => ?_, fun d hd => ?_, ⟨lv, ll, e2, h3⟩, fun d hd => ?_⟩
  · show Value.agg _ = _
    congr 1
    apply Array.toList_inj.1
    rw [Array.toList_map]
    exact hC
  · obtain ⟨b, hb⟩ := kh d hd
    rw [Nat.mul_one, take_sub (by omega)] at hb
    exact ⟨b, hb⟩
  · have q := kfl d hd
    rw [take_sub (by omega)] at q
    exact key_cells (by rw [List.length_take, List.length_drop]; omega) q
  · obtain ⟨n, hn, hw⟩ := kr d hd
    rw [Nat.mul_one, take_sub (by omega)] at hn
    exact ⟨n, hn, wf_i64 hw⟩
def powRow : List Value := (List.range 20).map fun i => .int .u64 ((10 ^ i : Nat) : Int)
structure PowS (h : AHeap) : Prop where
  pow : h[gv.internal_strconv_uint64pow10]? = some (.row .ro powRow)
theorem PowS.powV {h : AHeap} (k : PowS h) : PowV h := by
  have := k.pow
  unfold PowV rds
  rw [this]; rfl
end Go.Proofs.YtoiihalnbdehkaaDoor.B
