/-
  Functions over an abstract heap: what is made and not handed back may be let go.
-/
import Derived.Test.YtpnpccnbpgckhabGreatAbC
namespace Go.Proofs.YtpnpccnbpgckhabGreat.B
open Go
set_option linter.unusedVariables false
set_option linter.unusedSimpArgs false
variable {G : Nat} {P : Program} {μ : Ren} {h : AHeap} {w : World}

/-- What a function hands back, and the heap that is kept. -/
def Fin (h : AHeap) (v : Value) (h' : AHeap) (v'' : Value) (h'' : AHeap) : Prop :=
  (v = v'' ∧ h' = h'') ∨ (HLe h h' ∧ ∃ σ, Emb h σ h' h'' ∧ VN σ h'.length v v'')

inductive RV where
  | tmp (t : Nat)
  | cell (t : Nat) (agg : Bool) (n : Nat)

def resR (P : Program) : ResultVar → Option RV
  | .tmp t => some (.tmp t)
  | .cell a t => do
    let d ← P.underlying t
    let (sz, _) ← infoOf P t
    some (.cell a (isAggD d) sz)

def resA1 (e : Env) (h : AHeap) : RV → Option Value
  | .tmp t => some (look e t)
  | .cell t agg n => match look e t with
    | .pointer (some ⟨b, off, none⟩) => (rds h b off n).bind (aggOf agg)
    | _ => none

def resA : List RV → Env → AHeap → Option (List Value)
  | [], _, _ => some []
  | r :: rs, e, h => (resA1 e h r).bind fun v => (resA rs e h).bind fun vs => some (v :: vs)

def outV : List Value → Value
  | [v] => v
  | vs => .tuple vs.toArray

def resSem (tmps : Array Value) : ResultVar → Sem Value
  | .tmp t => pure (tmps.getD t undef)
  | .cell a t => do loadVar t (← asAddr (tmps.getD a undef))

theorem results_sim {n : Nat} {e : Env} {a : Act} (s : Sim G μ h w) (r : AR n μ h e a) : ∀ {rs : List ResultVar} {qs : List RV} {vs : List Value}, rs.mapM (resR P) = some qs → resA qs e h = some vs →
    ∃ vs', (rs.mapM (resSem a.tmps)).run P w = .ok vs' w ∧ VL μ h vs vs'
  | [], qs, vs, hq, hv => by
    simp at hq; subst hq
    simp [resA] at hv; subst hv
    exact ⟨[], by simp, VL.nil⟩
  | x :: rs, qs, vs, hq, hv => by
    simp only [List.mapM_cons, Option.pure_def, Option.bind_eq_bind, Option.bind_eq_some_iff, Option.some.injEq] at hq
    obtain ⟨q, hq1, qs', hq2, rfl⟩ := hq
    simp only [resA, Option.bind_eq_some_iff, Option.some.injEq] at hv
    obtain ⟨v, hv1, vs1, hv2, rfl⟩ := hv
    obtain ⟨vs', k1, k2⟩ := results_sim s r hq2 hv2
    cases x with
    | tmp t =>
      simp only [resR, Option.some.injEq] at hq1
      subst hq1
      simp only [resA1, Option.some.injEq] at hv1
      subst hv1
      exact ⟨a.tmps.getD t undef :: vs', by simp only [List.mapM_cons, Sem.run_bind, resSem, Sem.run_pure, Result.andThen_ok, k1], VL.cons (r.slots t) k2⟩
    | cell b t =>
      simp only [resR, Option.bind_eq_bind, Option.bind_eq_some_iff, Option.some.injEq] at hq1
      obtain ⟨d, hd, ⟨sz, by_⟩, hinf, rfl⟩ := hq1
      simp only [resA1] at hv1
      split at hv1
      · rename_i b' off he
        have hs := r.slots b
        rw [he] at hs
        obtain ⟨y, h1, h2⟩ := hs.ptr_inv
        cases hi : P.info? t with
        | none => simp [infoOf, hi] at hinf
        | some inf =>
          simp [infoOf, hi] at hinf
          cases hrd : rds h b' off sz with
          | none => simp [hrd] at hv1
          | some us =>
            simp only [hrd, Option.bind_some] at hv1
            obtain ⟨v', l1, l2⟩ := loadVar_sim (P := P) s (agg := isAggD d) hd hi (by cases d <;> rfl) h1 (hinf.1 ▸ hrd) hv1
            refine ⟨v' :: vs', ?_, VL.cons l2 k2⟩
            simp only [List.mapM_cons, Sem.run_bind, resSem, h2, asAddr, Sem.run_pure, Result.andThen_ok, l1, k1]
      · cases hv1

def resOut (vs : Array Value) : Value := if h : vs.size = 1 then vs[0] else .tuple vs

theorem results_eq (fn : Func) (tmps : Array Value) : results fn tmps = (fn.results.mapM (resSem tmps)) >>= fun vs => pure (resOut vs) := by
  unfold results resOut
  congr 1

/-- A function's contract, out of its body. -/
theorem Spec.intro {f : FuncId} {fn : Func} {c : Code} {c' : C} {ks : Nat → List Nat} {rs : List RV} {args : List Value} {v : Value} {h' : AHeap} (hf : P.funcs[f]? = some fn) (hb : fn.body = some c) (hc : resC P G fn.ntmps ks c = some c')
    (hrs : fn.results.toList.mapM (resR P) = some rs) (hn : args.length ≤ fn.ntmps)
    (hk : wpC P G c' (args.zipIdx.map fun p => (p.2, p.1)) h fun x e h'' => (x = .normal ∨ x = .ret) ∧ ∃ vs, resA rs e h'' = some vs ∧ Fin h v h' (outV vs) h'') : Spec P G f args h v h' := by
  intro μ w args' s hl
  have hlen : args.length = args'.size := by simpa using hl.1
  have har : AR fn.ntmps μ h (args.zipIdx.map fun p => (p.2, p.1)) { tmps := args' ++ Array.replicate (fn.ntmps - args'.size) undef, defers := [] } := by
    refine ⟨by simp; omega, rfl, fun t => ?_⟩
    have hlook : ∀ (l : List Value) (k : Nat), look ((l.zipIdx k).map fun p => (p.2, p.1)) t = if k ≤ t then l.getD (t - k) (.tuple #[]) else .tuple #[] := by
      intro l
      induction l with
      | nil => intro k; simp [look]
      | cons u l ih =>
        intro k
        simp only [List.zipIdx_cons, List.map_cons, look, ih]
        by_cases e1 : k = t
        · subst e1; simp
        · rw [if_neg e1]
          by_cases e2 : k ≤ t
          · rw [if_pos e2, if_pos (by omega), show t - k = (t - (k + 1)) + 1 by omega]; simp
          · rw [if_neg e2, if_neg (by omega)]
    have := hlook args 0
    simp only [Nat.zero_le, if_true, Nat.sub_zero] at this
    have h2 : look (args.zipIdx.map fun p => (p.2, p.1)) t = args.getD t (.tuple #[]) := this
    rw [h2]
    cases q : args[t]? with
    | none => simp [q]; exact .any _
    | some u =>
      obtain ⟨u', q1, q2⟩ := hl.get q
      have hlt := (List.getElem?_eq_some_iff.1 q1).1
      simp only [List.getD, q, Option.getD_some]
      have : (args' ++ Array.replicate (fn.ntmps - args'.size) undef).getD t undef = u' := by
        simp only [Array.getD_eq_getD_getElem?]
        rw [Array.getElem?_append_left (by simpa using hlt)]
        simp at q1
        simp [q1]
      rw [this]; exact q2
  refine calls_of_wp hf hb (wp_mono (resC_sound c hc hk μ w _ s har) fun x a1 w1 => ?_)
  rintro ⟨μ1, e1, h1, ⟨hx, vs, hvs, hfin⟩, hst, har1⟩
  have hlist : ∃ vs', (results fn a1.tmps).run P w1 = .ok (outV vs') w1 ∧ VL μ1 h1 vs vs' := by
    obtain ⟨vs', k1, k2⟩ := results_sim (P := P) hst.sim har1 hrs hvs
    refine ⟨vs', ?_, k2⟩
    rw [results_eq, Array.mapM_eq_mapM_toList]
    simp only [Sem.run_bind, Sem.run_map, k1]
    simp only [Result.andThen_ok, Sem.run_pure]
    congr 1
    unfold resOut outV
    cases vs' with
    | nil => rfl
    | cons z r => cases r with
      | nil => rfl
      | cons => rfl
  obtain ⟨vs', k1, k2⟩ := hlist
  have hvr : VR μ1 h1 (outV vs) (outV vs') := by
    unfold outV
    split
    · rename_i u
      cases vs' with
      | nil => simp [VL] at k2
      | cons u' r => cases r with
        | nil => exact k2.2 0 u u' rfl rfl
        | cons => simp [VL] at k2
    · rename_i hne
      split
      · rename_i u
        exfalso
        have := k2.1
        simp at this
        obtain ⟨z, rfl⟩ := List.length_eq_one_iff.1 this
        exact hne z rfl
      · exact VL.tuple (by simpa using k2)
  have hend : ∃ v' μ', (Ending.returned (outV vs')) = .returned v' ∧ VR μ' h' v v' ∧ Step G μ h w μ' h' w1 := by
    rcases hfin with ⟨rfl, rfl⟩ | ⟨hle, σ, hemb, hvn⟩
    · exact ⟨_, μ1, rfl, hvr, hst⟩
    · exact ⟨_, _, rfl, hvn.vr (fun b hb => hemb.tr hb) hvr, Step.emb s hst hemb hle⟩
  rcases hx with rfl | rfl
  · exact ⟨har1.defers, _, k1, hend⟩
  · exact ⟨har1.defers, _, k1, hend⟩

/-- A value without places; all that was made is let go. -/
theorem Fin.scalar {v : Value} (hv : scalarB v = true) (g : AHeap) : Fin h v h v (h ++ g) :=
  .inr ⟨HLe.refl h, id, ⟨fun _ _ => rfl, fun _ k => k, fun _ _ _ _ k => k, fun b o ho => by
    have hb := (List.getElem?_eq_some_iff.1 ho).1
    exact .inl ⟨hb, ho, by rw [List.getElem?_append_left hb]; exact ho⟩⟩, .scalar hv⟩

/-- The same for values in a row (several results, a struct of plain fields). -/
theorem Fin.plain {v : Value} (hv : VN id h.length v v) (g : AHeap) : Fin h v h v (h ++ g) :=
  .inr ⟨HLe.refl h, id, ⟨fun _ _ => rfl, fun _ k => k, fun _ _ _ _ k => k, fun b o ho => by
    have hb := (List.getElem?_eq_some_iff.1 ho).1
    exact .inl ⟨hb, ho, by rw [List.getElem?_append_left hb]; exact ho⟩⟩, hv⟩

end Go.Proofs.YtpnpccnbpgckhabGreat.B
