/-
  What the rows of layer 26 share: a source, as it comes.
-/
import Derived.Test.YtoiihalnbdehkaaDoorWS
import Derived.Test.YtoiihalnbdehkaaDoorQg
import Derived.Test.YtoiihalnbdehkaaDoorQt
namespace Go.Proofs.YtoiihalnbdehkaaDoor.B
open Go Go.ChangeShapes Go.WideShapes Go.RowKit
set_option linter.unusedVariables false
variable {P : Program} {W : World} {base : Nat} {v : Value} {t : TypeId}
abbrev hopSh : Sh := .fld 1 (.int .i64) (.fld 1 (.int .i64) (.fld 1 (.int .i64) .nil))
abbrev keySh : Sh := .fld 1 (.int .u32) (.fld 1 (.int .u32) (.fld 1 (.int .i64) .nil))
abbrev toldSh : Sh := .fld 1 (.slice 3 24 hopSh) (.fld 8 (.arr 8 1 .bool) (.fld 24 (.arr 8 3 keySh) (.fld 1 .bool (.fld 3 keySh (.fld 1 (.slice 1 8 (.int .i64)) (.fld 8 (.arr 8 1 (.int .i64)) (.fld 19 (.arr 19 1 (.int .i64)) (.fld 1 (.int .i64) (.fld 1 (.int .u64) (.fld 1 (.int .i64) .nil))))))))))
theorem hop_cells {h : AHeap} {c : List Value} (hl : c.length = 3) (k : hopSh.ok h c) : ∃ a : Hop, isH c a ∧ hopok a := by
  obtain ⟨⟨e, h1, w1⟩, ⟨s, h2, w2⟩, ⟨m, h3, w3⟩, _⟩ := k
  match c, hl with
  | [x, y, z], _ =>
    simp at h1 h2 h3
    subst h1 h2 h3
    exact ⟨⟨e, s, m⟩, rfl, wf_i64 w1, wf_i64 w2, wf_i64 w3⟩
theorem key_cells {h : AHeap} {c : List Value} (hl : c.length = 3) (k : keySh.ok h c) : ∃ (e s : Nat) (m : Int), c = keyC e s m ∧ e < 4294967296 ∧ s < 4294967296 ∧ i64ok m := by
  obtain ⟨⟨e, h1, w1⟩, ⟨s, h2, w2⟩, ⟨m, h3, w3⟩, _⟩ := k
  obtain ⟨e, rfl, he⟩ := wf_nat w1 rfl (m := 4294967295) rfl
  obtain ⟨s, rfl, hs⟩ := wf_nat w2 rfl (m := 4294967295) rfl
  match c, hl with
  | [x, y, z], _ =>
    simp at h1 h2 h3
    subst h1 h2 h3
    exact ⟨e, s, m, rfl, by omega, by omega, wf_i64 w3⟩
theorem int_cells {h : AHeap} {c : List Value} (hl : c.length = 1) (k : (Sh.int .i64).ok h c) : ∃ a : Int, isI c a ∧ i64ok a := by
  obtain ⟨n, rfl, hw⟩ := k
  exact ⟨n, rfl, wf_i64 hw⟩
theorem Ls.split {α : Type} {h : AHeap} {sz : Nat} {R : List Value → α → Prop} {Q : α → Prop} {v : Value} {l : List α} (k : Ls h sz (fun c a => R c a ∧ Q a) v l) : Ls h sz R v l ∧ ∀ a ∈ l, Q a := by
  refine ⟨k.mono fun c a q => q.1, fun a ha => ?_⟩
  obtain ⟨cs, _, hq⟩ := k
  obtain ⟨i, hi, rfl⟩ := List.getElem_of_mem ha
  exact (hq i hi).2
theorem ints_of {h : AHeap} : ∀ (n : Nat) (c : List Value), c.length = n → (Sh.arr n 1 (.int .i64)).ok h c → ∃ L, c = ints L ∧ L.length = n ∧ ∀ x ∈ L, i64ok x
  | 0, c, hl, k => ⟨[], List.eq_nil_of_length_eq_zero hl, rfl, fun x hx => by cases hx⟩
  | n + 1, [], hl, k => by simp at hl
  | n + 1, v :: c, hl, k => by
    obtain ⟨L, rfl, hn, hB⟩ := ints_of n c (by simpa using hl) fun i hi => by
      have := k (i + 1) (by omega)
      rwa [Nat.mul_one] at this ⊢
    obtain ⟨x, hx, hw⟩ := k 0 (by omega)
    simp at hx
    subst hx
    refine ⟨x :: L, rfl, by simp [hn], fun y hy => ?_⟩
    rcases List.mem_cons.1 hy with rfl | hy
    · exact wf_i64 hw
    · exact hB y hy
theorem take_sub {C : List Value} {a n j m : Nat} (h : j + m ≤ n) : (((C.drop a).take n).drop j).take m = (C.drop (a + j)).take m := by
  rw [List.drop_take, List.take_take, List.drop_drop, Nat.min_eq_left (by omega)]
theorem opToldT (hv : ∃ cs, v = .agg cs ∧ cs.size = 68) (k : toldSh.ok (absH W) (v.cells.toList.map (abs1 W.heap.size))) : ∃ C T, absV W.heap.size v = .agg ⟨C⟩ ∧ SrcT (absH W) C T := by
  obtain ⟨cs, rfl, hsz⟩ := hv
  obtain ⟨C, hC⟩ : ∃ C, (Value.cells (.agg cs)).toList.map (abs1 W.heap.size) = C := ⟨_, rfl⟩
  have hl : C.length = 68 := by rw [← hC]; simpa [Value.cells] using hsz
  rw [hC] at k
  obtain ⟨kf, kh, kfl, ka, ko, kl, kr, kc, kn, kb, kd, _⟩ := k
  simp only [List.drop_drop, Nat.reduceAdd] at kh kfl ka ko kl kr kc kn kb kd
  obtain ⟨fv, fl, e1, h1, h2⟩ := Sh.ls (fun c h1 h2 => hop_cells h1 h2) kf
  obtain ⟨h1, h1o⟩ := h1.split
  obtain ⟨lv, ll, e2, h3, h4⟩ := Sh.ls (fun c h1 h2 => int_cells h1 h2) kl
  obtain ⟨h3, h3o⟩ := h3.split
  obtain ⟨has, hhas⟩ := Classical.axiomOfChoice (r := fun (d : Nat) (b : Bool) => d < 8 → (C.drop (1 + d)).take 1 = [.bool b]) fun d => by
    by_cases hd : d < 8
    · obtain ⟨b, hb⟩ := kh d hd
      rw [Nat.mul_one, take_sub (by omega)] at hb
      exact ⟨b, fun _ => hb⟩
    · exact ⟨false, fun q => absurd q hd⟩
  obtain ⟨fk, hfk⟩ := Classical.axiomOfChoice (r := fun (d : Nat) (t : Nat × Nat × Int) => d < 8 → (C.drop (9 + d * 3)).take 3 = keyC t.1 t.2.1 t.2.2 ∧ t.1 < 4294967296 ∧ t.2.1 < 4294967296 ∧ i64ok t.2.2) fun d => by
    by_cases hd : d < 8
    · have q := kfl d hd
      rw [take_sub (by omega)] at q
      obtain ⟨e, s, m, q⟩ := key_cells (by rw [List.length_take, List.length_drop]; omega) q
      exact ⟨(e, s, m), fun _ => q⟩
    · exact ⟨(0, 0, 0), fun q => absurd q hd⟩
  obtain ⟨rt, hrt⟩ := Classical.axiomOfChoice (r := fun (d : Nat) (n : Int) => d < 8 → (C.drop (38 + d)).take 1 = [.int .i64 n] ∧ i64ok n) fun d => by
    by_cases hd : d < 8
    · obtain ⟨n, hn, hw⟩ := kr d hd
      rw [Nat.mul_one, take_sub (by omega)] at hn
      exact ⟨n, fun _ => ⟨hn, wf_i64 hw⟩⟩
    · exact ⟨0, fun q => absurd q hd⟩
  obtain ⟨an, ha⟩ := ka
  obtain ⟨oe, os, om, ho, ho1, ho2, ho3⟩ := key_cells (by rw [List.length_take, List.length_drop]; omega) ko
  obtain ⟨ctr, hc1, hc2, hc3⟩ := ints_of 19 _ (by rw [List.length_take, List.length_drop]; omega) kc
  obtain ⟨nw, hn, hnw⟩ := kn
  obtain ⟨bt, hb, hbw⟩ := kb
  obtain ⟨bt, rfl, hb2⟩ := wf_nat hbw rfl (m := 18446744073709551615) rfl
  obtain ⟨dd, hd, hdw⟩ := kd
  have hb3 : bt < 18446744073709551616 := by omega
  refine ⟨C, ⟨fl, has, fun d => (fk d).1, fun d => (fk d).2.1, fun d => (fk d).2.2, an, oe, os, om, ll, rt, ctr, nw, bt, dd⟩, ?_, hl, ⟨fv, e1, h1, h2, h1o⟩, hhas, hfk, ha, ⟨ho, ho1, ho2, ho3⟩, ⟨lv, e2, h3, h4, h3o⟩, hrt, ⟨hc1, hc2, fun i => ?_⟩, ⟨hn, wf_i64 hnw⟩, ⟨hb, hb3⟩, ⟨hd, wf_i64 hdw⟩⟩
  · show Value.agg _ = _
    congr 1
    apply Array.toList_inj.1
    rw [Array.toList_map]
    exact hC
  · rw [List.getD_eq_getElem?_getD]
    cases q : ctr[i]? with
    | none => exact ⟨by decide, by decide⟩
    | some x => exact hc3 x (List.mem_of_getElem? q)
end Go.Proofs.YtoiihalnbdehkaaDoor.B
/-
  What the row of QueryAsks needs: a source, and a text.
-/
namespace Go.Proofs.YtoiihalnbdehkaaDoor.B
open Go Go.ChangeShapes Go.WideShapes Go.RowKit
set_option linter.unusedVariables false
variable {P : Program} {W : World} {base : Nat} {v : Value} {t : TypeId}
theorem opT2 (hu : P.underlying t = some .string) (hv : Value.okWide P W .any base t v) (k : Sh.str.ok (absH W) (v.cells.toList.map (abs1 W.heap.size))) : ∃ s : ByteArray, absV W.heap.size v = .string s ∧ s.size ≤ 140737488351232 := by
  obtain ⟨s, rfl⟩ := okWide_string hu hv
  obtain ⟨m, h1, h2⟩ := k
  have : s = m := by simpa [Value.cells, abs1] using h1
  subst this
  exact ⟨s, rfl, h2⟩
end Go.Proofs.YtoiihalnbdehkaaDoor.B
