/-
  The end of a law: from its contract over the abstract heap to what its row asks.
-/
import Derived.Test.YtpnpccnbpgckhabGreatAbO
import Derived.ProofKit
import Derived.ChangeOld
import Derived.SizedLaws
import Derived.Carry
namespace Go.Proofs.YtpnpccnbpgckhabGreat.B
open Go Go.RowKit Go.ChangeShapes Go.WideShapes
set_option linter.unusedVariables false
set_option linter.unusedSimpArgs false

section
variable {H : Type} {enc : TypeId × Value → H} {P : Program}

theorem trodAll_after {W W' : World} (hl : laidOutB P = true) (hb : Below W.heap.size W W') : ∀ {ts : List TypeId} {vs : List Value} {ds : List (DataW H)} {ps : List MemPlace}, ts.all (fun t => P.readableRec t && decide (t < P.types.size)) = true →
    DataW.TrodAll enc P W 0 (fun _ => true) true ts vs ds ps → DataW.TrodAll enc P W' 0 (fun b => decide (b < W.heap.size)) true ts vs ds ps
  | [], [], [], ps, _, h => h
  | t :: ts, v :: vs, d :: ds, ps, ht, ⟨p, q, h1, h2, e⟩ => by
    simp only [List.all_cons, Bool.and_eq_true, decide_eq_true_eq] at ht
    have lt : ∀ x ∈ p, x.block < W.heap.size := by obtain ⟨m, hm⟩ := h1; exact DataW.trod_lt m _ _ _ hm
    exact ⟨p, q, Below.trod hl ht.1.1 ht.1.2 h1 hb lt, trodAll_after hl hb ht.2 h2, e⟩

theorem trodAll_sh {W : World} : ∀ {ts : List TypeId} {vs : List Value} {ds : List (DataW H)} {ps : List MemPlace}, DataW.TrodAll enc P W 0 (fun _ => true) true ts vs ds ps →
    (∀ n ∈ DataW.weightsEach P ts ds, n ≤ reachBytes) → vs.length = ts.length ∧ ∀ (j : Nat) t v, ts[j]? = some t → vs[j]? = some v → ∀ d s, shOf P d t = some s → s.ok (absH W) (v.cells.toList.map (abs1 W.heap.size))
  | [], [], [], ps, _, hw => ⟨rfl, fun j t v hj => by simp at hj⟩
  | t :: ts, v :: vs, d :: ds, ps, ⟨p, q, h1, h2, e⟩, hw => by
    have ih := trodAll_sh h2 fun n hn => hw n (by simp only [DataW.weightsEach, List.mem_append]; exact .inr hn)
    refine ⟨by simp [ih.1], fun j t' v' hj hv => ?_⟩
    cases j with
    | zero =>
      simp at hj hv; subst hj; subst hv
      intro k s hs
      obtain ⟨fuel, hf⟩ := h1
      exact open_sh k fuel t _ _ s hs hf fun n hn => hw n (by simp only [DataW.weightsEach, List.mem_append]; exact .inl hn)
    | succ j => exact ih.2 j t' v' (by simpa using hj) (by simpa using hv)

theorem vl_args (W : World) (vs : List Value) : VL (rid W) (absH W) (vs.map (absV W.heap.size)) vs := by
  refine ⟨by simp, fun i v v' p q => ?_⟩
  simp only [List.getElem?_map, Option.map_eq_some_iff] at p
  obtain ⟨u, hu, rfl⟩ := p
  rw [hu] at q; cases q
  exact absV_vr W _

theorem law_end {f : FuncId} {fn : Func} {s : ChangeSpec} {W : World} {args : Array Value} {ds gs : List (DataW H)} {before : List MemPlace} {tb : TypeId} {G : Nat}
    (laid : laidOutB P = true) (hts : fn.params.toList.all (fun t => P.readableRec t && decide (t < P.types.size)) = true)
    (hres : fn.resultTypes = #[tb]) (hb : P.underlying tb = some .bool) (hvars : s.vars = []) (hG : G ≤ W.heap.size)
    (hfn : ∀ ds : List (DataW H), ds.length = fn.params.size → s.fn H ds = { results := [.lit (.bool true)], args := ds })
    (hW : DataW.Whole enc P fn.params.toList s.vars false W args.toList ds gs before) (hsz : (DataW.weightsEach P (fn.params.toList ++ s.plain.varTypes P) (ds ++ gs)).all (· ≤ reachBytes) = true)
    (hs : (∀ (j : Nat) t v, fn.params[j]? = some t → args[j]? = some v → ∀ d sh, shOf P d t = some sh → sh.ok (absH W) (v.cells.toList.map (abs1 W.heap.size))) → args.size = fn.params.size →
      SpecX P G f (args.toList.map (absV W.heap.size)) (absH W) fun v _ => v = .bool true) :
    Calls P f args W fun e W' => ∃ v, e = .returned v ∧ s.post enc P fn false true false false W args v W' := by
  have hW' := hW
  obtain ⟨p, q, hA, hV, rfl, hfz, hnd⟩ := hW
  rw [hvars] at hV
  obtain ⟨rfl, rfl⟩ := trodVars_none hV
  have hdl : ∀ {ts : List TypeId} {vs : List Value} {ds : List (DataW H)} {ps : List MemPlace}, DataW.TrodAll enc P W 0 (fun _ => true) true ts vs ds ps → ds.length = ts.length := by
    intro ts
    induction ts with
    | nil => intro vs ds ps h; cases vs <;> cases ds <;> simp [DataW.TrodAll] at h ⊢
    | cons t ts ih =>
      intro vs ds ps h
      obtain ⟨v, vs', d, ds', p, q, rfl, rfl, rfl, _, h2⟩ := trodAll_cons h
      simp [ih h2]
  have hl := hdl hA
  have hsz' : ∀ n ∈ DataW.weightsEach P fn.params.toList ds, n ≤ reachBytes := by
    have hvt : s.plain.varTypes P = [] := by
      simp [ChangeSpec.plain, DataSpec.varTypes, hvars]
    rw [hvt, List.append_nil, List.append_nil] at hsz
    intro n hn
    have := List.all_eq_true.1 hsz n hn
    simpa using this
  obtain ⟨hlen, hsh⟩ := trodAll_sh hA hsz'
  obtain ⟨v, h', hspec, rfl⟩ := hs (fun j t v hj hv => hsh j t v (by simpa using hj) (by simpa using hv)) (by simpa using hlen)
  refine (root W hG (vl_args W args.toList) hspec).mono fun e W' ⟨he, bel⟩ => ?_
  subst he
  refine ⟨_, rfl, ds, [], p ++ [], [], p, [], hW', ?_, ?_, ?_, bel.frame _, fun h => by cases h⟩
  · rw [List.append_nil, hfn ds (by simpa using hl), hres]
    exact trodAll_mk1 (shut_bool hb _)
  · rw [List.append_nil, hfn ds (by simpa using hl)]
    exact trodAll_after laid bel hts hA
  · rw [hvars]; rw [List.append_nil, hfn ds (by simpa using hl)]; rfl
end
section
variable {P : Program} {W : World} {base : Nat} {v : Value} {t : TypeId}
theorem opI (hu : P.underlying t = some (.int .i64)) (hv : Value.okWide P W .any base t v) (k : (Sh.int .i64).ok (absH W) (v.cells.toList.map (abs1 W.heap.size))) : ∃ n, absV W.heap.size v = .int .i64 n ∧ (Lit.int .i64 n).wf = true := by
  obtain ⟨n, rfl⟩ := okWide_int hu hv
  obtain ⟨m, h1, h2⟩ := k
  have : n = m := by simpa [Value.cells, abs1] using h1
  subst this
  exact ⟨n, rfl, h2⟩
/-- A slice. -/
theorem opS {α : Type} {sz by_ : Nat} {e : TypeId} {es : Sh} {R : List Value → α → Prop} (hu : P.underlying t = some (.slice e)) (he : ∀ c, c.length = sz → es.ok (absH W) c → ∃ a, R c a) (hv : Value.okWide P W .any base t v)
    (k : (Sh.slice sz by_ es).ok (absH W) (v.cells.toList.map (abs1 W.heap.size))) : ∃ l, Ls (absH W) sz R (absV W.heap.size v) l ∧ l.length * by_ ≤ reachBytes := by
  obtain ⟨a, l, c, rfl⟩ := okWide_slice hu hv
  obtain ⟨v', l', h1, h2, h3⟩ := Sh.ls he k
  have : abs1 W.heap.size (.slice a l c) = v' := by simpa [Value.cells] using h1
  subst this
  exact ⟨l', h2, h3⟩
/-- A struct. -/
theorem okAgg (n : Nat) {fs : Array Field} (hu : P.underlying t = some (.struct fs)) (hc : P.cellsOf t = n) (hv : Value.okWide P W .any base t v) : ∃ cs, v = .agg cs ∧ cs.size = n := by
  obtain ⟨cs, h1, h2⟩ := okWide_struct hu hv
  exact ⟨cs, h1, h2.trans hc⟩
theorem wf_nonneg {k : IntKind} {n : Int} (h : (Lit.int k n).wf = true) (hk : k.min = 0) : 0 ≤ n := by
  simp only [Lit.wf, Bool.and_eq_true, decide_eq_true_eq] at h
  omega
end
theorem arr1 {α : Type} {cs : Array α} (h : cs.size = 1) : ∃ c0, cs = #[c0] := by
  match cs, h with
  | ⟨[c0]⟩, _ => exact ⟨c0, rfl⟩
theorem arr2 {α : Type} {cs : Array α} (h : cs.size = 2) : ∃ c0 c1, cs = #[c0, c1] := by
  match cs, h with
  | ⟨[c0, c1]⟩, _ => exact ⟨c0, c1, rfl⟩
theorem arr3 {α : Type} {cs : Array α} (h : cs.size = 3) : ∃ c0 c1 c2, cs = #[c0, c1, c2] := by
  match cs, h with
  | ⟨[c0, c1, c2]⟩, _ => exact ⟨c0, c1, c2, rfl⟩
theorem arr4 {α : Type} {cs : Array α} (h : cs.size = 4) : ∃ c0 c1 c2 c3, cs = #[c0, c1, c2, c3] := by
  match cs, h with
  | ⟨[c0, c1, c2, c3]⟩, _ => exact ⟨c0, c1, c2, c3, rfl⟩
theorem arr5 {α : Type} {cs : Array α} (h : cs.size = 5) : ∃ c0 c1 c2 c3 c4, cs = #[c0, c1, c2, c3, c4] := by
  match cs, h with
  | ⟨[c0, c1, c2, c3, c4]⟩, _ => exact ⟨c0, c1, c2, c3, c4, rfl⟩
theorem arr6 {α : Type} {cs : Array α} (h : cs.size = 6) : ∃ c0 c1 c2 c3 c4 c5, cs = #[c0, c1, c2, c3, c4, c5] := by
  match cs, h with
  | ⟨[c0, c1, c2, c3, c4, c5]⟩, _ => exact ⟨c0, c1, c2, c3, c4, c5, rfl⟩
end Go.Proofs.YtpnpccnbpgckhabGreat.B
