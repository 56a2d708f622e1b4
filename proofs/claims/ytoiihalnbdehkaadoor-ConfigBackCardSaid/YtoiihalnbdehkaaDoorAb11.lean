/-
  Functions over an abstract heap: what is made and not handed back may be let go.
-/
import Derived.Test.YtoiihalnbdehkaaDoorAbC
namespace Go.Proofs.YtoiihalnbdehkaaDoor.B
open Go
set_option linter.unusedVariables false
set_option linter.unusedSimpArgs false
variable {G : Nat} {P : Program} {μ : Ren} {h : AHeap} {w : World}

/-- One abstract value for another, blocks renamed; names below n alone. -/
inductive VN (σ : Nat → Nat) (n : Nat) : Value → Value → Prop where
  | any (v : Value) : VN σ n (.tuple #[]) v
  | scalar {v : Value} (k : scalarB v = true) : VN σ n v v
  | ptr (b off : Nat) (hb : b < n) : VN σ n (.pointer (some ⟨b, off, none⟩)) (.pointer (some ⟨σ b, off, none⟩))
  | slice (b off len cap : Nat) (hb : b < n) : VN σ n (.slice (some ⟨b, off, none⟩) len cap) (.slice (some ⟨σ b, off, none⟩) len cap)
  | map (b : Nat) (hb : b < n) : VN σ n (.map (some b)) (.map (some (σ b)))
  | iface (t : TypeId) {v v' : Value} (hv : VN σ n v v') : VN σ n (.iface t v) (.iface t v')
  | agg {as bs : Array Value} (hs : as.size = bs.size) (hv : ∀ i : Nat, VN σ n (as.getD i (.tuple #[])) (bs.getD i (.tuple #[]))) : VN σ n (.agg as) (.agg bs)
  | tuple {as bs : Array Value} (hs : as.size = bs.size) (hv : ∀ i : Nat, VN σ n (as.getD i (.tuple #[])) (bs.getD i (.tuple #[]))) : VN σ n (.tuple as) (.tuple bs)
  | func (f : Fn) {as bs cs ds : Array Value} (h1 : as.size = bs.size) (h2 : cs.size = ds.size)
      (h3 : ∀ i : Nat, VN σ n (as.getD i (.tuple #[])) (bs.getD i (.tuple #[]))) (h4 : ∀ i : Nat, VN σ n (cs.getD i (.tuple #[])) (ds.getD i (.tuple #[]))) :
      VN σ n (.func f as cs) (.func f bs ds)

def ON (σ : Nat → Nat) (n : Nat) : AObj → AObj → Prop
  | .dead, _ => True
  | .row m cs, .row m' cs' => m = m' ∧ cs.length = cs'.length ∧ ∀ (i : Nat) v v', cs[i]? = some v → cs'[i]? = some v' → VN σ n v v'
  | .map r es, .map r' es' => r = r' ∧ es.length = es'.length ∧ ∀ (i : Nat) v v', es[i]? = some v → es'[i]? = some v' → VN σ n v.1 v'.1 ∧ VN σ n v.2 v'.2
  | _, _ => False

/-- A heap h' that holds of h'' what is kept: below h's end under its own name, beyond it as σ tells. -/
structure Emb (h : AHeap) (σ : Nat → Nat) (h' h'' : AHeap) : Prop where
  low : ∀ b, b < h.length → σ b = b
  high : ∀ b, h.length ≤ b → h.length ≤ σ b
  inj : ∀ b c, b < h'.length → c < h'.length → σ b = σ c → b = c
  obj : ∀ (b : Nat) (o : AObj), h'[b]? = some o → (b < h.length ∧ h[b]? = some o ∧ h''[b]? = some o) ∨ ∃ o', h''[σ b]? = some o' ∧ ON σ h'.length o o'

def tr (h'' h' : AHeap) (c b : Nat) : Prop := (∀ x off cap cap', capOK h'' c x off cap cap' → capOK h' b x off cap cap') ∧ (∀ x o' cap', capE h'' c x o' cap' → capE h' b x o' cap')

theorem tr.of_eq {h'' h' : AHeap} {c b : Nat} (e : h''[c]? = h'[b]?) : tr h'' h' c b := by
  constructor
  · intro x off cap cap' k; unfold capOK at *; rw [← e]; exact k
  · intro x o' cap' k; unfold capE at *; rw [← e]; exact k

theorem tr.of_on {h'' h' : AHeap} {c b n : Nat} {σ : Nat → Nat} {o o' : AObj} (h1 : h'[b]? = some o) (h2 : h''[c]? = some o') (k : ON σ n o o') : tr h'' h' c b := by
  constructor
  · intro x off cap cap' q
    unfold capOK at *
    rw [h1]; rw [h2] at q
    cases o with
    | dead =>
      cases o' with
      | dead => exact q
      | map => simp only at q ⊢; omega
      | row m cs => cases m <;> simp only at q ⊢ <;> omega
    | row m cs =>
      cases o' with
      | row m' cs' => obtain ⟨rfl, _⟩ := k; cases m <;> exact q
      | dead => exact k.elim
      | map => exact k.elim
    | map r es =>
      cases o' with
      | map => exact q
      | dead => exact k.elim
      | row => exact k.elim
  · intro x off cap' q
    unfold capE at *
    rw [h1]; rw [h2] at q
    cases o with
    | dead => trivial
    | row m cs =>
      cases o' with
      | row m' cs' => obtain ⟨rfl, _⟩ := k; cases m <;> exact q
      | dead => exact k.elim
      | map => exact k.elim
    | map r es =>
      cases o' with
      | map => exact q
      | dead => exact k.elim
      | row => exact k.elim

theorem Emb.tr {σ : Nat → Nat} {h' h'' : AHeap} (e : Emb h σ h' h'') {b : Nat} (hb : b < h'.length) : tr h'' h' (σ b) b := by
  rcases e.obj b h'[b] (List.getElem?_eq_getElem hb) with ⟨h1, h2, h3⟩ | ⟨o', h1, h2⟩
  · rw [e.low b h1]
    exact tr.of_eq (h3.trans (List.getElem?_eq_getElem hb).symm)
  · exact tr.of_on (List.getElem?_eq_getElem hb) h1 h2

def finRen (μ : Ren) (σ : Nat → Nat) (n : Nat) : Ren := fun b => if b < n then μ (σ b) else none

theorem VN.vr {σ : Nat → Nat} {h' h'' : AHeap} (ht : ∀ b, b < h'.length → B.tr h'' h' (σ b) b) {v v1 : Value} (n : VN σ h'.length v v1) :
    ∀ {v2}, VR μ h'' v1 v2 → VR (finRen μ σ h'.length) h' v v2 := by
  induction n with
  | any v => intro v2 k; exact .any _
  | scalar hk => intro v2 k; have := VR.of_scalar (μ := finRen μ σ h'.length) (h := h') hk; rename_i v; cases v <;> simp [scalarB] at hk <;> cases k <;> first | exact this | simp_all [scalarB]
  | ptr b off hb => intro v2 k; cases k with | ptr _ hq => exact .ptr off (by simp [finRen, hb, hq])
  | slice b off len cap hb =>
    intro v2 k
    generalize hs : (⟨σ b, off, none⟩ : Addr) = ad at k
    cases k with
    | slice _ _ _ cap' hq hc => cases hs; exact .slice off len cap cap' (by simp [finRen, hb, hq]) ((ht b hb).1 _ _ _ _ hc)
    | empty _ o' cap' hq hc => cases hs; exact .empty off o' cap' (by simp [finRen, hb, hq]) ((ht b hb).2 _ _ _ hc)
    | void => simp [voidA] at hs
  | map b hb => intro v2 k; cases k with | map hq => exact .map (by simp [finRen, hb, hq])
  | iface t _ ih => intro v2 k; cases k with | iface _ hv => exact .iface t (ih hv)
  | agg hs _ ih => intro v2 k; cases k with | agg h1 h2 => exact .agg (hs.trans h1) fun i => ih i (h2 i)
  | tuple hs hq ih =>
    intro v2 k
    rename_i as bs
    cases k with
    | any => have : as = #[] := by simpa using hs
             subst this; exact .any _
    | tuple h1 h2 => exact .tuple (hs.trans h1) fun i => ih i (h2 i)
  | func f h1 h2 _ _ i1 i2 => intro v2 k; cases k with | func _ k1 k2 k3 k4 => exact .func f (h1.trans k1) (h2.trans k2) (fun i => i1 i (k3 i)) (fun i => i2 i (k4 i))

/-- A value that stood at the begin, and stands at the end. -/
theorem VR.fin {σ : Nat → Nat} {μ'' : Ren} {h' h'' : AHeap} (hm : ∀ b x, μ b = some x → μ'' b = some x ∧ b < h'.length ∧ σ b = b) (ht : ∀ b, b < h'.length → B.tr h'' h' (σ b) b) {v a : Value} (n : VR μ h v a) :
    ∀ {v2}, VR μ'' h'' v v2 → VR (finRen μ'' σ h'.length) h' v v2 := by
  have key : ∀ {b x}, μ b = some x → ∀ y, μ'' b = some y → finRen μ'' σ h'.length b = some y := fun hb y hy => by
    obtain ⟨h1, h2, h3⟩ := hm _ _ hb
    simp [finRen, h2, h3, hy]
  have ktr : ∀ {b x}, μ b = some x → B.tr h'' h' b b := fun hb => by
    obtain ⟨h1, h2, h3⟩ := hm _ _ hb
    have := ht _ h2
    rwa [h3] at this
  induction n with
  | any v => intro v2 k; exact .any _
  | skip => intro v2 k; cases k; exact .skip
  | bool b => intro v2 k; cases k; exact .bool b
  | int q n => intro v2 k; cases k; exact .int q n
  | string s => intro v2 k; cases k; exact .string s
  | nilPtr => intro v2 k; cases k; exact .nilPtr
  | ptr off hb => intro v2 k; cases k with | ptr _ hq => exact .ptr off (key hb _ hq)
  | nilSlice => intro v2 k; cases k; exact .nilSlice
  | slice off len cap cap' hb hc =>
    intro v2 k
    cases k with
    | slice _ _ _ cap'' hq hc2 => exact .slice off len cap cap'' (key hb _ hq) ((ktr hb).1 _ _ _ _ hc2)
    | empty _ o' cap'' hq hc2 => exact .empty off o' cap'' (key hb _ hq) ((ktr hb).2 _ _ _ hc2)
  | empty off o' cap' hb hc =>
    intro v2 k
    cases k with
    | slice _ _ _ cap'' hq hc2 => exact .slice off 0 0 cap'' (key hb _ hq) ((ktr hb).1 _ _ _ _ hc2)
    | empty _ o' cap'' hq hc2 => exact .empty off o' cap'' (key hb _ hq) ((ktr hb).2 _ _ _ hc2)
  | void a => intro v2 k; unfold voidA at *; cases k; exact .void _
  | nilMap => intro v2 k; cases k; exact .nilMap
  | map hb => intro v2 k; cases k with | map hq => exact .map (key hb _ hq)
  | func f h1 h2 _ _ i1 i2 => intro v2 k; cases k with | func _ k1 k2 k3 k4 => exact .func f k1 k2 (fun i => i1 i (k3 i)) (fun i => i2 i (k4 i))
  | nilFunc => intro v2 k; cases k; exact .nilFunc
  | nilIface => intro v2 k; cases k; exact .nilIface
  | iface t _ ih => intro v2 k; cases k with | iface _ hv => exact .iface t (ih hv)
  | agg hs _ ih => intro v2 k; cases k with | agg h1 h2 => exact .agg h1 fun i => ih i (h2 i)
  | tuple hs _ ih =>
    intro v2 k
    cases k with
    | any => exact .any _
    | tuple h1 h2 => exact .tuple h1 fun i => ih i (h2 i)

theorem Step.emb {μ'' : Ren} {h' h'' : AHeap} {w' : World} {σ : Nat → Nat} (s : Sim G μ h w) (t : Step G μ h w μ'' h'' w') (e : Emb h σ h' h'') (hle : HLe h h') : Step G μ h w (finRen μ'' σ h'.length) h' w' := by
  have hlen := hle.length
  have hget : ∀ {b x}, finRen μ'' σ h'.length b = some x → b < h'.length ∧ μ'' (σ b) = some x := fun {b x} k => by
    unfold finRen at k
    split at k
    · exact ⟨by assumption, k⟩
    · cases k
  have hren : ∀ b x, μ b = some x → finRen μ'' σ h'.length b = some x := fun b x k => by
    have := s.dom b x k
    simp [finRen, show b < h'.length by omega, e.low b this, t.ren b x k]
  have hm : ∀ b x, μ b = some x → μ'' b = some x ∧ b < h'.length ∧ σ b = b := fun b x k => by
    have := s.dom b x k
    exact ⟨t.ren b x k, by omega, e.low b this⟩
  refine ⟨hren, fun b x k => ?_, hle, ⟨fun g hg => let ⟨n, q⟩ := s.glob g hg; ⟨n, hren _ _ q⟩, fun b x k => (hget k).1, fun b x o k ho => ?_, fun b c x y k l lb lc q => ?_⟩, t.fr, fun b x k l => t.fresh (σ b) x (hget k).2 (e.high b l)⟩
  · obtain ⟨h1, h2⟩ := hget k
    rcases Nat.lt_or_ge b h.length with q | q
    · rw [e.low b q] at h2
      exact t.new b x h2
    · exact .inr q
  · obtain ⟨h1, h2⟩ := hget k
    rcases e.obj b o ho with ⟨q1, q2, q3⟩ | ⟨o', q1, q2⟩
    · rw [e.low b q1] at h2
      have hμ : μ b = some x := by
        rcases t.new b x h2 with r | r
        · exact r
        · omega
      have r1 := s.obj b x o hμ q2
      have r2 := t.sim.obj b x o h2 q3
      cases o with
      | dead => trivial
      | row m cells =>
        obtain ⟨cs1, t1, f1, a1, a2, a3, a4⟩ := r1
        obtain ⟨cs2, t2, f2, b1, b2, b3, b4⟩ := r2
        refine ⟨cs2, t2, f2, b1, b2, b3, fun i v hi => ?_⟩
        obtain ⟨u1, c1, c2⟩ := a4 i v hi
        obtain ⟨u2, d1, d2⟩ := b4 i v hi
        exact ⟨u2, d1, VR.fin hm (fun b hb => e.tr hb) c2 d2⟩
      | map r es =>
        obtain ⟨f1, k1, a1, a2, a4⟩ := r1
        obtain ⟨f2, k2, b1, b2, b4⟩ := r2
        refine ⟨f2, k2, b1, b2, fun i kv hi => ?_⟩
        obtain ⟨u1, c1, c2, c3⟩ := a4 i kv hi
        obtain ⟨u2, d1, d2, d3⟩ := b4 i kv hi
        exact ⟨u2, d1, VR.fin hm (fun b hb => e.tr hb) c2 d2, VR.fin hm (fun b hb => e.tr hb) c3 d3⟩
    · have r2 := t.sim.obj (σ b) x o' h2 q1
      cases o with
      | dead => trivial
      | row m cells =>
        cases o' with
        | dead => exact q2.elim
        | map => exact q2.elim
        | row m' cells' =>
          obtain ⟨rfl, q3, q4⟩ := q2
          obtain ⟨cs2, t2, f2, b1, b2, b3, b4⟩ := r2
          refine ⟨cs2, t2, f2, b1, b2, fun hr => b3 (by cases m <;> simp_all [AObj.rw]), fun i v hi => ?_⟩
          have hi' : i < cells'.length := by rw [← q3]; exact (List.getElem?_eq_some_iff.1 hi).1
          obtain ⟨u2, d1, d2⟩ := b4 i _ (List.getElem?_eq_getElem hi')
          exact ⟨u2, d1, (q4 i v _ hi (List.getElem?_eq_getElem hi')).vr (fun b hb => e.tr hb) d2⟩
      | map r es =>
        cases o' with
        | dead => exact q2.elim
        | row => exact q2.elim
        | map r' es' =>
          obtain ⟨rfl, q3, q4⟩ := q2
          obtain ⟨f2, k2, b1, b2, b4⟩ := r2
          refine ⟨f2, k2, b1, ⟨by have := b2.1; omega, b2.2⟩, fun i kv hi => ?_⟩
          have hi' : i < es'.length := by rw [← q3]; exact (List.getElem?_eq_some_iff.1 hi).1
          obtain ⟨u2, d1, d2, d3⟩ := b4 i _ (List.getElem?_eq_getElem hi')
          have q5 := q4 i kv _ hi (List.getElem?_eq_getElem hi')
          exact ⟨u2, d1, q5.1.vr (fun b hb => e.tr hb) d2, q5.2.vr (fun b hb => e.tr hb) d3⟩
  · obtain ⟨h1, h2⟩ := hget k
    obtain ⟨h3, h4⟩ := hget l
    have live : ∀ {b}, Live h' b → Live h'' (σ b) := fun {b} ⟨o, ho, hn⟩ => by
      rcases e.obj b o ho with ⟨q1, q2, q3⟩ | ⟨o', q1, q2⟩
      · rw [e.low b q1]; exact ⟨o, q3, hn⟩
      · refine ⟨o', q1, ?_⟩
        rintro rfl
        cases o <;> simp_all [ON]
    exact e.inj b c h1 h3 (t.sim.inj _ _ x y h2 h4 (live lb) (live lc) q)

/-- What a function hands back, and the heap that is kept. -/
def Fin (h : AHeap) (v : Value) (h' : AHeap) (v'' : Value) (h'' : AHeap) : Prop :=
  (v = v'' ∧ h' = h'') ∨ (HLe h h' ∧ ∃ σ, Emb h σ h' h'' ∧ VN σ h'.length v v'')

inductive RV where
  | tmp (t : Nat)
  | cell (t : Nat) (agg : Bool) (n : Nat)

def resR (P : Program) : ResultVar → Option RV
  | .tmp t => some (.tmp t)
  | .cell a t => do
    let d ← P.underlying t
    let (sz, _) ← infoOf P t
    some (.cell a (isAggD d) sz)

def resA1 (e : Env) (h : AHeap) : RV → Option Value
  | .tmp t => some (look e t)
  | .cell t agg n => match look e t with
    | .pointer (some ⟨b, off, none⟩) => (rds h b off n).bind (aggOf agg)
    | _ => none

def resA : List RV → Env → AHeap → Option (List Value)
  | [], _, _ => some []
  | r :: rs, e, h => (resA1 e h r).bind fun v => (resA rs e h).bind fun vs => some (v :: vs)

def outV : List Value → Value
  | [v] => v
  | vs => .tuple vs.toArray

def resSem (tmps : Array Value) : ResultVar → Sem Value
  | .tmp t => pure (tmps.getD t undef)
  | .cell a t => do loadVar t (← asAddr (tmps.getD a undef))

theorem results_sim {n : Nat} {e : Env} {a : Act} (s : Sim G μ h w) (r : AR n μ h e a) : ∀ {rs : List ResultVar} {qs : List RV} {vs : List Value}, rs.mapM (resR P) = some qs → resA qs e h = some vs →
    ∃ vs', (rs.mapM (resSem a.tmps)).run P w = .ok vs' w ∧ VL μ h vs vs'
  | [], qs, vs, hq, hv => by
    simp at hq; subst hq
    simp [resA] at hv; subst hv
    exact ⟨[], by simp, VL.nil⟩
  | x :: rs, qs, vs, hq, hv => by
    simp only [List.mapM_cons, Option.pure_def, Option.bind_eq_bind, Option.bind_eq_some_iff, Option.some.injEq] at hq
    obtain ⟨q, hq1, qs', hq2, rfl⟩ := hq
    simp only [resA, Option.bind_eq_some_iff, Option.some.injEq] at hv
    obtain ⟨v, hv1, vs1, hv2, rfl⟩ := hv
    obtain ⟨vs', k1, k2⟩ := results_sim s r hq2 hv2
    cases x with
    | tmp t =>
      simp only [resR, Option.some.injEq] at hq1
      subst hq1
      simp only [resA1, Option.some.injEq] at hv1
      subst hv1
      exact ⟨a.tmps.getD t undef :: vs', by simp only [List.mapM_cons, Sem.run_bind, resSem, Sem.run_pure, Result.andThen_ok, k1], VL.cons (r.slots t) k2⟩
    | cell b t =>
      simp only [resR, Option.bind_eq_bind, Option.bind_eq_some_iff, Option.some.injEq] at hq1
      obtain ⟨d, hd, ⟨sz, by_⟩, hinf, rfl⟩ := hq1
      simp only [resA1] at hv1
      split at hv1
      · rename_i b' off he
        have hs := r.slots b
        rw [he] at hs
        obtain ⟨y, h1, h2⟩ := hs.ptr_inv
        cases hi : P.info? t with
        | none => simp [infoOf, hi] at hinf
        | some inf =>
          simp [infoOf, hi] at hinf
          cases hrd : rds h b' off sz with
          | none => simp [hrd] at hv1
          | some us =>
            simp only [hrd, Option.bind_some] at hv1
            obtain ⟨v', l1, l2⟩ := loadVar_sim (P := P) s (agg := isAggD d) hd hi (by cases d <;> rfl) h1 (hinf.1 ▸ hrd) hv1
            refine ⟨v' :: vs', ?_, VL.cons l2 k2⟩
            simp only [List.mapM_cons, Sem.run_bind, resSem, h2, asAddr, Sem.run_pure, Result.andThen_ok, l1, k1]
      · cases hv1

def resOut (vs : Array Value) : Value := if h : vs.size = 1 then vs[0] else .tuple vs

theorem results_eq (fn : Func) (tmps : Array Value) : results fn tmps = (fn.results.mapM (resSem tmps)) >>= fun vs => pure (resOut vs) := by
  unfold results resOut
  congr 1

/-- A function's contract, out of its body. -/
theorem Spec.intro {f : FuncId} {fn : Func} {c : Code} {c' : C} {ks : Nat → List Nat} {rs : List RV} {args : List Value} {v : Value} {h' : AHeap} (hf : P.funcs[f]? = some fn) (hb : fn.body = some c) (hc : resC P G fn.ntmps ks c = some c')
    (hrs : fn.results.toList.mapM (resR P) = some rs) (hn : args.length ≤ fn.ntmps)
    (hk : wpC P G c' (args.zipIdx.map fun p => (p.2, p.1)) h fun x e h'' => (x = .normal ∨ x = .ret) ∧ ∃ vs, resA rs e h'' = some vs ∧ Fin h v h' (outV vs) h'') : Spec P G f args h v h' := by
  intro μ w args' s hl
  have hlen : args.length = args'.size := by simpa using hl.1
  have har : AR fn.ntmps μ h (args.zipIdx.map fun p => (p.2, p.1)) { tmps := args' ++ Array.replicate (fn.ntmps - args'.size) undef, defers := [] } := by
    refine ⟨by simp; omega, rfl, fun t => ?_⟩
    have hlook : ∀ (l : List Value) (k : Nat), look ((l.zipIdx k).map fun p => (p.2, p.1)) t = if k ≤ t then l.getD (t - k) (.tuple #[]) else .tuple #[] := by
      intro l
      induction l with
      | nil => intro k; simp [look]
      | cons u l ih =>
        intro k
        simp only [List.zipIdx_cons, List.map_cons, look, ih]
        by_cases e1 : k = t
        · subst e1; simp
        · rw [if_neg e1]
          by_cases e2 : k ≤ t
          · rw [if_pos e2, if_pos (by omega), show t - k = (t - (k + 1)) + 1 by omega]; simp
          · rw [if_neg e2, if_neg (by omega)]
    have := hlook args 0
    simp only [Nat.zero_le, if_true, Nat.sub_zero] at this
    have h2 : look (args.zipIdx.map fun p => (p.2, p.1)) t = args.getD t (.tuple #[]) := this
    rw [h2]
    cases q : args[t]? with
    | none => simp [q]; exact .any _
    | some u =>
      obtain ⟨u', q1, q2⟩ := hl.get q
      have hlt := (List.getElem?_eq_some_iff.1 q1).1
      simp only [List.getD, q, Option.getD_some]
      have : (args' ++ Array.replicate (fn.ntmps - args'.size) undef).getD t undef = u' := by
        simp only [Array.getD_eq_getD_getElem?]
        rw [Array.getElem?_append_left (by simpa using hlt)]
        simp at q1
        simp [q1]
      rw [this]; exact q2
  refine calls_of_wp hf hb (wp_mono (resC_sound c hc hk μ w _ s har) fun x a1 w1 => ?_)
  rintro ⟨μ1, e1, h1, ⟨hx, vs, hvs, hfin⟩, hst, har1⟩
  have hlist : ∃ vs', (results fn a1.tmps).run P w1 = .ok (outV vs') w1 ∧ VL μ1 h1 vs vs' := by
    obtain ⟨vs', k1, k2⟩ := results_sim (P := P) hst.sim har1 hrs hvs
    refine ⟨vs', ?_, k2⟩
    rw [results_eq, Array.mapM_eq_mapM_toList]
    simp only [Sem.run_bind, Sem.run_map, k1]
    simp only [Result.andThen_ok, Sem.run_pure]
    congr 1
    unfold resOut outV
    cases vs' with
    | nil => rfl
    | cons z r => cases r with
      | nil => rfl
      | cons => rfl
  obtain ⟨vs', k1, k2⟩ := hlist
  have hvr : VR μ1 h1 (outV vs) (outV vs') := by
    unfold outV
    split
    · rename_i u
      cases vs' with
      | nil => simp [VL] at k2
      | cons u' r => cases r with
        | nil => exact k2.2 0 u u' rfl rfl
        | cons => simp [VL] at k2
    · rename_i hne
      split
      · rename_i u
        exfalso
        have := k2.1
        simp at this
        obtain ⟨z, rfl⟩ := List.length_eq_one_iff.1 this
        exact hne z rfl
      · exact VL.tuple (by simpa using k2)
  have hend : ∃ v' μ', (Ending.returned (outV vs')) = .returned v' ∧ VR μ' h' v v' ∧ Step G μ h w μ' h' w1 := by
    rcases hfin with ⟨rfl, rfl⟩ | ⟨hle, σ, hemb, hvn⟩
    · exact ⟨_, μ1, rfl, hvr, hst⟩
    · exact ⟨_, _, rfl, hvn.vr (fun b hb => hemb.tr hb) hvr, Step.emb s hst hemb hle⟩
  rcases hx with rfl | rfl
  · exact ⟨har1.defers, _, k1, hend⟩
  · exact ⟨har1.defers, _, k1, hend⟩

/-- A value without places; all that was made is let go. -/
theorem Fin.scalar {v : Value} (hv : scalarB v = true) (g : AHeap) : Fin h v h v (h ++ g) :=
  .inr ⟨HLe.refl h, id, ⟨fun _ _ => rfl, fun _ k => k, fun _ _ _ _ k => k, fun b o ho => by
    have hb := (List.getElem?_eq_some_iff.1 ho).1
    exact .inl ⟨hb, ho, by rw [List.getElem?_append_left hb]; exact ho⟩⟩, .scalar hv⟩

/-- The same for values in a row (several results, a struct of plain fields). -/
theorem Fin.plain {v : Value} (hv : VN id h.length v v) (g : AHeap) : Fin h v h v (h ++ g) :=
  .inr ⟨HLe.refl h, id, ⟨fun _ _ => rfl, fun _ k => k, fun _ _ _ _ k => k, fun b o ho => by
    have hb := (List.getElem?_eq_some_iff.1 ho).1
    exact .inl ⟨hb, ho, by rw [List.getElem?_append_left hb]; exact ho⟩⟩, hv⟩

end Go.Proofs.YtoiihalnbdehkaaDoor.B
