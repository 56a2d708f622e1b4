/-
  Heaps under other names: what is made and not kept may be let go; new blocks may be named anew.
-/
import Derived.Test.YtpnpccnbpgckhabGreatAbH
namespace Go.Proofs.YtpnpccnbpgckhabGreat.B
open Go
set_option linter.unusedVariables false
set_option linter.unusedSimpArgs false
variable {G : Nat} {P : Program} {μ : Ren} {h : AHeap} {w : World}

/-- One abstract value for another, blocks renamed; names below n alone. -/
inductive VN (σ : Nat → Nat) (n : Nat) : Value → Value → Prop where
  | any (v : Value) : VN σ n (.tuple #[]) v
  | scalar {v : Value} (k : scalarB v = true) : VN σ n v v
  | ptr (b off : Nat) (hb : b < n) : VN σ n (.pointer (some ⟨b, off, none⟩)) (.pointer (some ⟨σ b, off, none⟩))
  | slice (b off len cap : Nat) (hb : b < n) : VN σ n (.slice (some ⟨b, off, none⟩) len cap) (.slice (some ⟨σ b, off, none⟩) len cap)
  | map (b : Nat) (hb : b < n) : VN σ n (.map (some b)) (.map (some (σ b)))
  | iface (t : TypeId) {v v' : Value} (hv : VN σ n v v') : VN σ n (.iface t v) (.iface t v')
  | agg {as bs : Array Value} (hs : as.size = bs.size) (hv : ∀ i : Nat, VN σ n (as.getD i (.tuple #[])) (bs.getD i (.tuple #[]))) : VN σ n (.agg as) (.agg bs)
  | tuple {as bs : Array Value} (hs : as.size = bs.size) (hv : ∀ i : Nat, VN σ n (as.getD i (.tuple #[])) (bs.getD i (.tuple #[]))) : VN σ n (.tuple as) (.tuple bs)
  | func (f : Fn) {as bs cs ds : Array Value} (h1 : as.size = bs.size) (h2 : cs.size = ds.size)
      (h3 : ∀ i : Nat, VN σ n (as.getD i (.tuple #[])) (bs.getD i (.tuple #[]))) (h4 : ∀ i : Nat, VN σ n (cs.getD i (.tuple #[])) (ds.getD i (.tuple #[]))) :
      VN σ n (.func f as cs) (.func f bs ds)

def ON (σ : Nat → Nat) (n : Nat) : AObj → AObj → Prop
  | .dead, _ => True
  | .row m cs, .row m' cs' => m = m' ∧ cs.length = cs'.length ∧ ∀ (i : Nat) v v', cs[i]? = some v → cs'[i]? = some v' → VN σ n v v'
  | .map r es, .map r' es' => r = r' ∧ es.length = es'.length ∧ ∀ (i : Nat) v v', es[i]? = some v → es'[i]? = some v' → VN σ n v.1 v'.1 ∧ VN σ n v.2 v'.2
  | _, _ => False

/-- A heap h' that holds of h'' what is kept: below h's end under its own name, beyond it as σ tells. -/
structure Emb (h : AHeap) (σ : Nat → Nat) (h' h'' : AHeap) : Prop where
  low : ∀ b, b < h.length → σ b = b
  high : ∀ b, h.length ≤ b → h.length ≤ σ b
  inj : ∀ b c, b < h'.length → c < h'.length → σ b = σ c → b = c
  obj : ∀ (b : Nat) (o : AObj), h'[b]? = some o → (b < h.length ∧ h[b]? = some o ∧ h''[b]? = some o) ∨ ∃ o', h''[σ b]? = some o' ∧ ON σ h'.length o o'

def tr (h'' h' : AHeap) (c b : Nat) : Prop := (∀ x off cap cap', capOK h'' c x off cap cap' → capOK h' b x off cap cap') ∧ (∀ x o' cap', capE h'' c x o' cap' → capE h' b x o' cap')

theorem tr.of_eq {h'' h' : AHeap} {c b : Nat} (e : h''[c]? = h'[b]?) : tr h'' h' c b := by
  constructor
  · intro x off cap cap' k; unfold capOK at *; rw [← e]; exact k
  · intro x o' cap' k; unfold capE at *; rw [← e]; exact k

theorem tr.of_on {h'' h' : AHeap} {c b n : Nat} {σ : Nat → Nat} {o o' : AObj} (h1 : h'[b]? = some o) (h2 : h''[c]? = some o') (k : ON σ n o o') : tr h'' h' c b := by
  constructor
  · intro x off cap cap' q
    unfold capOK at *
    rw [h1]; rw [h2] at q
    cases o with
    | dead =>
      cases o' with
      | dead => exact q
      | map => simp only at q ⊢; omega
      | row m cs => cases m <;> simp only at q ⊢ <;> omega
    | row m cs =>
      cases o' with
      | row m' cs' => obtain ⟨rfl, _⟩ := k; cases m <;> exact q
      | dead => exact k.elim
      | map => exact k.elim
    | map r es =>
      cases o' with
      | map => exact q
      | dead => exact k.elim
      | row => exact k.elim
  · intro x off cap' q
    unfold capE at *
    rw [h1]; rw [h2] at q
    cases o with
    | dead => trivial
    | row m cs =>
      cases o' with
      | row m' cs' => obtain ⟨rfl, _⟩ := k; cases m <;> exact q
      | dead => exact k.elim
      | map => exact k.elim
    | map r es =>
      cases o' with
      | map => exact q
      | dead => exact k.elim
      | row => exact k.elim

theorem Emb.tr {σ : Nat → Nat} {h' h'' : AHeap} (e : Emb h σ h' h'') {b : Nat} (hb : b < h'.length) : tr h'' h' (σ b) b := by
  rcases e.obj b h'[b] (List.getElem?_eq_getElem hb) with ⟨h1, h2, h3⟩ | ⟨o', h1, h2⟩
  · rw [e.low b h1]
    exact tr.of_eq (h3.trans (List.getElem?_eq_getElem hb).symm)
  · exact tr.of_on (List.getElem?_eq_getElem hb) h1 h2

def finRen (μ : Ren) (σ : Nat → Nat) (n : Nat) : Ren := fun b => if b < n then μ (σ b) else none

theorem VN.vr {σ : Nat → Nat} {h' h'' : AHeap} (ht : ∀ b, b < h'.length → B.tr h'' h' (σ b) b) {v v1 : Value} (n : VN σ h'.length v v1) :
    ∀ {v2}, VR μ h'' v1 v2 → VR (finRen μ σ h'.length) h' v v2 := by
  induction n with
  | any v => intro v2 k; exact .any _
  | scalar hk => intro v2 k; have := VR.of_scalar (μ := finRen μ σ h'.length) (h := h') hk; rename_i v; cases v <;> simp [scalarB] at hk <;> cases k <;> first | exact this | simp_all [scalarB]
  | ptr b off hb => intro v2 k; cases k with | ptr _ hq => exact .ptr off (by simp [finRen, hb, hq])
  | slice b off len cap hb =>
    intro v2 k
    generalize hs : (⟨σ b, off, none⟩ : Addr) = ad at k
    cases k with
    | slice _ _ _ cap' hq hc => cases hs; exact .slice off len cap cap' (by simp [finRen, hb, hq]) ((ht b hb).1 _ _ _ _ hc)
    | empty _ o' cap' hq hc => cases hs; exact .empty off o' cap' (by simp [finRen, hb, hq]) ((ht b hb).2 _ _ _ hc)
    | void => simp [voidA] at hs
  | map b hb => intro v2 k; cases k with | map hq => exact .map (by simp [finRen, hb, hq])
  | iface t _ ih => intro v2 k; cases k with | iface _ hv => exact .iface t (ih hv)
  | agg hs _ ih => intro v2 k; cases k with | agg h1 h2 => exact .agg (hs.trans h1) fun i => ih i (h2 i)
  | tuple hs hq ih =>
    intro v2 k
    rename_i as bs
    cases k with
    | any => have : as = #[] := by simpa using hs
             subst this; exact .any _
    | tuple h1 h2 => exact .tuple (hs.trans h1) fun i => ih i (h2 i)
  | func f h1 h2 _ _ i1 i2 => intro v2 k; cases k with | func _ k1 k2 k3 k4 => exact .func f (h1.trans k1) (h2.trans k2) (fun i => i1 i (k3 i)) (fun i => i2 i (k4 i))

/-- A value that stood at the begin, and stands at the end. -/
theorem VR.fin {σ : Nat → Nat} {μ'' : Ren} {h' h'' : AHeap} (hm : ∀ b x, μ b = some x → μ'' b = some x ∧ b < h'.length ∧ σ b = b) (ht : ∀ b, b < h'.length → B.tr h'' h' (σ b) b) {v a : Value} (n : VR μ h v a) :
    ∀ {v2}, VR μ'' h'' v v2 → VR (finRen μ'' σ h'.length) h' v v2 := by
  have key : ∀ {b x}, μ b = some x → ∀ y, μ'' b = some y → finRen μ'' σ h'.length b = some y := fun hb y hy => by
    obtain ⟨h1, h2, h3⟩ := hm _ _ hb
    simp [finRen, h2, h3, hy]
  have ktr : ∀ {b x}, μ b = some x → B.tr h'' h' b b := fun hb => by
    obtain ⟨h1, h2, h3⟩ := hm _ _ hb
    have := ht _ h2
    rwa [h3] at this
  induction n with
  | any v => intro v2 k; exact .any _
  | skip => intro v2 k; cases k; exact .skip
  | bool b => intro v2 k; cases k; exact .bool b
  | int q n => intro v2 k; cases k; exact .int q n
  | string s => intro v2 k; cases k; exact .string s
  | nilPtr => intro v2 k; cases k; exact .nilPtr
  | ptr off hb => intro v2 k; cases k with | ptr _ hq => exact .ptr off (key hb _ hq)
  | nilSlice => intro v2 k; cases k; exact .nilSlice
  | slice off len cap cap' hb hc =>
    intro v2 k
    cases k with
    | slice _ _ _ cap'' hq hc2 => exact .slice off len cap cap'' (key hb _ hq) ((ktr hb).1 _ _ _ _ hc2)
    | empty _ o' cap'' hq hc2 => exact .empty off o' cap'' (key hb _ hq) ((ktr hb).2 _ _ _ hc2)
  | empty off o' cap' hb hc =>
    intro v2 k
    cases k with
    | slice _ _ _ cap'' hq hc2 => exact .slice off 0 0 cap'' (key hb _ hq) ((ktr hb).1 _ _ _ _ hc2)
    | empty _ o' cap'' hq hc2 => exact .empty off o' cap'' (key hb _ hq) ((ktr hb).2 _ _ _ hc2)
  | void a => intro v2 k; unfold voidA at *; cases k; exact .void _
  | nilMap => intro v2 k; cases k; exact .nilMap
  | map hb => intro v2 k; cases k with | map hq => exact .map (key hb _ hq)
  | func f h1 h2 _ _ i1 i2 => intro v2 k; cases k with | func _ k1 k2 k3 k4 => exact .func f k1 k2 (fun i => i1 i (k3 i)) (fun i => i2 i (k4 i))
  | nilFunc => intro v2 k; cases k; exact .nilFunc
  | nilIface => intro v2 k; cases k; exact .nilIface
  | iface t _ ih => intro v2 k; cases k with | iface _ hv => exact .iface t (ih hv)
  | agg hs _ ih => intro v2 k; cases k with | agg h1 h2 => exact .agg h1 fun i => ih i (h2 i)
  | tuple hs _ ih =>
    intro v2 k
    cases k with
    | any => exact .any _
    | tuple h1 h2 => exact .tuple h1 fun i => ih i (h2 i)

theorem Step.emb {μ'' : Ren} {h' h'' : AHeap} {w' : World} {σ : Nat → Nat} (s : Sim G μ h w) (t : Step G μ h w μ'' h'' w') (e : Emb h σ h' h'') (hle : HLe h h') : Step G μ h w (finRen μ'' σ h'.length) h' w' := by
  have hlen := hle.length
  have hget : ∀ {b x}, finRen μ'' σ h'.length b = some x → b < h'.length ∧ μ'' (σ b) = some x := fun {b x} k => by
    unfold finRen at k
    split at k
    · exact ⟨by assumption, k⟩
    · cases k
  have hren : ∀ b x, μ b = some x → finRen μ'' σ h'.length b = some x := fun b x k => by
    have := s.dom b x k
    simp [finRen, show b < h'.length by omega, e.low b this, t.ren b x k]
  have hm : ∀ b x, μ b = some x → μ'' b = some x ∧ b < h'.length ∧ σ b = b := fun b x k => by
    have := s.dom b x k
    exact ⟨t.ren b x k, by omega, e.low b this⟩
  refine ⟨hren, fun b x k => ?_, hle, ⟨fun g hg => let ⟨n, q⟩ := s.glob g hg; ⟨n, hren _ _ q⟩, fun b x k => (hget k).1, fun b x o k ho => ?_, fun b c x y k l lb lc q => ?_⟩, t.fr, fun b x k l => t.fresh (σ b) x (hget k).2 (e.high b l)⟩
  · obtain ⟨h1, h2⟩ := hget k
    rcases Nat.lt_or_ge b h.length with q | q
    · rw [e.low b q] at h2
      exact t.new b x h2
    · exact .inr q
  · obtain ⟨h1, h2⟩ := hget k
    rcases e.obj b o ho with ⟨q1, q2, q3⟩ | ⟨o', q1, q2⟩
    · rw [e.low b q1] at h2
      have hμ : μ b = some x := by
        rcases t.new b x h2 with r | r
        · exact r
        · omega
      have r1 := s.obj b x o hμ q2
      have r2 := t.sim.obj b x o h2 q3
      cases o with
      | dead => trivial
      | row m cells =>
        obtain ⟨cs1, t1, f1, a1, a2, a3, a4⟩ := r1
        obtain ⟨cs2, t2, f2, b1, b2, b3, b4⟩ := r2
        refine ⟨cs2, t2, f2, b1, b2, b3, fun i v hi => ?_⟩
        obtain ⟨u1, c1, c2⟩ := a4 i v hi
        obtain ⟨u2, d1, d2⟩ := b4 i v hi
        exact ⟨u2, d1, VR.fin hm (fun b hb => e.tr hb) c2 d2⟩
      | map r es =>
        obtain ⟨f1, k1, a1, a2, a4⟩ := r1
        obtain ⟨f2, k2, b1, b2, b4⟩ := r2
        refine ⟨f2, k2, b1, b2, fun i kv hi => ?_⟩
        obtain ⟨u1, c1, c2, c3⟩ := a4 i kv hi
        obtain ⟨u2, d1, d2, d3⟩ := b4 i kv hi
        exact ⟨u2, d1, VR.fin hm (fun b hb => e.tr hb) c2 d2, VR.fin hm (fun b hb => e.tr hb) c3 d3⟩
    · have r2 := t.sim.obj (σ b) x o' h2 q1
      cases o with
      | dead => trivial
      | row m cells =>
        cases o' with
        | dead => exact q2.elim
        | map => exact q2.elim
        | row m' cells' =>
          obtain ⟨rfl, q3, q4⟩ := q2
          obtain ⟨cs2, t2, f2, b1, b2, b3, b4⟩ := r2
          refine ⟨cs2, t2, f2, b1, b2, fun hr => b3 (by cases m <;> simp_all [AObj.rw]), fun i v hi => ?_⟩
          have hi' : i < cells'.length := by rw [← q3]; exact (List.getElem?_eq_some_iff.1 hi).1
          obtain ⟨u2, d1, d2⟩ := b4 i _ (List.getElem?_eq_getElem hi')
          exact ⟨u2, d1, (q4 i v _ hi (List.getElem?_eq_getElem hi')).vr (fun b hb => e.tr hb) d2⟩
      | map r es =>
        cases o' with
        | dead => exact q2.elim
        | row => exact q2.elim
        | map r' es' =>
          obtain ⟨rfl, q3, q4⟩ := q2
          obtain ⟨f2, k2, b1, b2, b4⟩ := r2
          refine ⟨f2, k2, b1, ⟨by have := b2.1; omega, b2.2⟩, fun i kv hi => ?_⟩
          have hi' : i < es'.length := by rw [← q3]; exact (List.getElem?_eq_some_iff.1 hi).1
          obtain ⟨u2, d1, d2, d3⟩ := b4 i _ (List.getElem?_eq_getElem hi')
          have q5 := q4 i kv _ hi (List.getElem?_eq_getElem hi')
          exact ⟨u2, d1, q5.1.vr (fun b hb => e.tr hb) d2, q5.2.vr (fun b hb => e.tr hb) d3⟩
  · obtain ⟨h1, h2⟩ := hget k
    obtain ⟨h3, h4⟩ := hget l
    have live : ∀ {b}, Live h' b → Live h'' (σ b) := fun {b} ⟨o, ho, hn⟩ => by
      rcases e.obj b o ho with ⟨q1, q2, q3⟩ | ⟨o', q1, q2⟩
      · rw [e.low b q1]; exact ⟨o, q3, hn⟩
      · refine ⟨o', q1, ?_⟩
        rintro rfl
        cases o <;> simp_all [ON]
    exact e.inj b c h1 h3 (t.sim.inj _ _ x y h2 h4 (live lb) (live lc) q)

/-- An end that is as good as another one: the same, or the same under other names of what is new. -/
def SameN (h : AHeap) (e1 : Env) (h1 : AHeap) (e' : Env) (h' : AHeap) : Prop :=
  (e' = e1 ∧ h' = h1) ∨ (HLe h h1 ∧ ∃ σ, Emb h σ h1 h' ∧ ∀ t, VN σ h1.length (look e1 t) (look e' t))
theorem SameN.out {n : Nat} {μ' : Ren} {h1 h' : AHeap} {w' : World} {e1 e' : Env} {a' : Act} (k : SameN h e1 h1 e' h') (s : Sim G μ h w) (t : Step G μ h w μ' h' w') (r : AR n μ' h' e' a') :
    ∃ μ1, Step G μ h w μ1 h1 w' ∧ AR n μ1 h1 e1 a' := by
  rcases k with ⟨rfl, rfl⟩ | ⟨hle, σ, hemb, hv⟩
  · exact ⟨μ', t, r⟩
  · exact ⟨_, Step.emb s t hemb hle, r.size, r.defers, fun x => (hv x).vr (fun b hb => hemb.tr hb) (r.slots x)⟩

end Go.Proofs.YtpnpccnbpgckhabGreat.B
