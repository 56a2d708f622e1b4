/-
  Code over an abstract heap: branches, loops, calls; and that the model's code does what it says.
-/
import Derived.Test.YtpnpccnbpgckhabGreatAbG
namespace Go.Proofs.YtpnpccnbpgckhabGreat.B
open Go
set_option linter.unusedVariables false
set_option linter.unusedSimpArgs false
variable {G : Nat} {P : Program}

theorem loop_of_in {c : Code} {Q : Exit → Act → World → Prop} {a : Act} {w : World}
    (h : ∀ (b : Frame) (k : List Item) (cs : List Frame), ∃ e a' w', Q e a' w' ∧ Arrives P (lone (b.at a (.code c :: .inLoop c :: k)) cs w) b k cs e a' w') : (Code.loop c).wp P Q a w :=
  fun b k cs => let ⟨e, a', w', q, r⟩ := h b k cs; ⟨e, a', w', q, .of_steps (.one step_loop) r⟩

/-- One round, and what comes behind it. -/
theorem in_of_round {c : Code} {Q : Exit → Act → World → Prop} {a : Act} {w : World}
    (h : c.wp P (Exit.then (fun a w => ∀ (b : Frame) (k : List Item) (cs : List Frame), ∃ e a' w', Q e a' w' ∧ Arrives P (lone (b.at a (.code c :: .inLoop c :: k)) cs w) b k cs e a' w') Q) a w) :
    ∀ (b : Frame) (k : List Item) (cs : List Frame), ∃ e a' w', Q e a' w' ∧ Arrives P (lone (b.at a (.code c :: .inLoop c :: k)) cs w) b k cs e a' w' := by
  intro b k cs
  obtain ⟨e, a₁, w₁, hq, harr⟩ := h b (.inLoop c :: k) cs
  cases e with
  | normal =>
    obtain ⟨e₂, a₂, w₂, hq₂, harr₂⟩ := hq b k cs
    exact ⟨e₂, a₂, w₂, hq₂, .of_steps (Steps.trans harr (.one step_inLoop)) harr₂⟩
  | exit id => exact ⟨_, a₁, w₁, hq, .pass (x := .inLoop c) rfl (fun _ _ => .inl (by simp)) harr⟩
  | goto l => exact ⟨_, a₁, w₁, hq, .pass (x := .inLoop c) rfl (fun _ _ => .inl (by simp)) harr⟩
  | ret => exact ⟨_, a₁, w₁, hq, .pass (x := .inLoop c) rfl (fun _ _ => .inl (by simp)) harr⟩
  | panic ch => exact ⟨_, a₁, w₁, hq, .pass (x := .inLoop c) rfl (fun _ _ => .inl (by simp)) harr⟩
  | outgrown => exact ⟨_, a₁, w₁, hq, .pass (x := .inLoop c) rfl (fun _ _ => .inl (by simp)) harr⟩

/-- As wpL, but a test that was decided stands decided. -/
def wpL2 (P : Program) (G : Nat) : List GI → Env → AHeap → (Env → AHeap → Prop) → Prop
  | [], e, h, K => K e h
  | g :: r, e, h, K => match g.g with
    | none => wpI P G g.i (look e) h fun v h' => wpL2 P G r (putE e g.dst v) h' K
    | some (s, want) => match look e s with
      | .bool b => (b = want → wpI P G g.i (look ((s, .bool want) :: e)) h fun v h' => wpL2 P G r (putE ((s, .bool want) :: e) g.dst v) h' K) ∧ (b = !want → wpL2 P G r (putE ((s, .bool (!want)) :: e) g.dst (.complex .f32 0 0)) h K)
      | .complex _ _ _ => wpL2 P G r (putE e g.dst (.complex .f32 0 0)) h K
      | _ => False

def wpD2 (P : Program) (G : Nat) : List GI → Env → AHeap → (Env → AHeap → Prop) → Prop
  | [], e, h, K => K e h
  | g :: r, e, h, K => match g.g with
    | none => wpI P G g.i (look e) h fun v h' => qt g.i h h' ∧ wpD2 P G r (putE e g.dst v) h' K
    | some (s, want) => match look e s with
      | .bool b => (b = want → wpI P G g.i (look ((s, .bool want) :: e)) h fun v h' => qt g.i h h' ∧ wpD2 P G r (putE ((s, .bool want) :: e) g.dst v) h' K) ∧ (b = !want → wpD2 P G r (putE ((s, .bool (!want)) :: e) g.dst (.complex .f32 0 0)) h K)
      | .complex _ _ _ => wpD2 P G r (putE e g.dst (.complex .f32 0 0)) h K
      | _ => False

theorem look_over {e : Env} {s : Nat} {v : Value} (h : look e s = v) : look ((s, v) :: e) = look e := by
  funext t
  simp only [look]
  split
  · rename_i q; subst q; exact h.symm
  · rfl
theorem look_put {e e' : Env} (h : look e = look e') (d : Option Nat) (v : Value) : look (putE e d v) = look (putE e' d v) := by
  cases d with
  | none => exact h
  | some d => funext t; simp only [putE, look, h]

theorem wpL_of : ∀ (l : List GI) {e e0 : Env} {h : AHeap} {K : Env → AHeap → Prop} (hK : ∀ e e' h, look e = look e' → K e h → K e' h), look e = look e0 → wpL2 P G l e h K → wpL P G l e0 h K
  | [], e, e0, h, K, hK, he, hk => hK _ _ _ he hk
  | g :: l, e, e0, h, K, hK, he, hk => by
    simp only [wpL2] at hk
    simp only [wpL]
    split at hk
    · rename_i hg
      simp only [hg]
      rw [← he]
      exact wpI_mono (fun v h' q => wpL_of l hK (look_put he _ _) q) hk
    · rename_i s want hg
      simp only [hg]
      rw [← he]
      split at hk
      · rename_i b hb
        simp only [hb]
        refine ⟨fun e1 => ?_, fun e1 => ?_⟩
        · have := hk.1 e1
          rw [look_over (by rw [hb, e1])] at this
          exact wpI_mono (fun v h' q => wpL_of l hK (look_put ((look_over (by rw [hb, e1])).trans he) _ _) q) this
        · exact wpL_of l hK (look_put ((look_over (by rw [hb, e1])).trans he) _ _) (hk.2 e1)
      · rename_i c1 c2 c3 hb
        simp only [hb]
        exact wpL_of l hK (look_put he _ _) hk
      · exact hk.elim

theorem wpD_of : ∀ (l : List GI) {e e0 : Env} {h : AHeap} {K : Env → AHeap → Prop} (hK : ∀ e e' h, look e = look e' → K e h → K e' h), look e = look e0 → wpD2 P G l e h K → wpD P G l e0 h K
  | [], e, e0, h, K, hK, he, hk => hK _ _ _ he hk
  | g :: l, e, e0, h, K, hK, he, hk => by
    simp only [wpD2] at hk
    simp only [wpD]
    split at hk
    · rename_i hg
      simp only [hg]
      rw [← he]
      exact wpI_mono (fun v h' q => ⟨q.1, wpD_of l hK (look_put he _ _) q.2⟩) hk
    · rename_i s want hg
      simp only [hg]
      rw [← he]
      split at hk
      · rename_i b hb
        simp only [hb]
        refine ⟨fun e1 => ?_, fun e1 => ?_⟩
        · have := hk.1 e1
          rw [look_over (by rw [hb, e1])] at this
          exact wpI_mono (fun v h' q => ⟨q.1, wpD_of l hK (look_put ((look_over (by rw [hb, e1])).trans he) _ _) q.2⟩) this
        · exact wpD_of l hK (look_put ((look_over (by rw [hb, e1])).trans he) _ _) (hk.2 e1)
      · rename_i c1 c2 c3 hb
        simp only [hb]
        exact wpD_of l hK (look_put he _ _) hk
      · exact hk.elim

theorem wpL2_mono : ∀ (l : List GI) {e : Env} {h : AHeap} {K K' : Env → AHeap → Prop} (hm : ∀ e h, K e h → K' e h) (hk : wpL2 P G l e h K), wpL2 P G l e h K'
  | [], e, h, K, K', hm, hk => hm _ _ hk
  | g :: l, e, h, K, K', hm, hk => by
    simp only [wpL2] at hk ⊢
    split at hk
    · exact wpI_mono (fun v h' => wpL2_mono l hm) hk
    · split at hk
      · exact ⟨fun e1 => wpI_mono (fun v h' => wpL2_mono l hm) (hk.1 e1), fun e1 => wpL2_mono l hm (hk.2 e1)⟩
      · exact wpL2_mono l hm hk
      · exact hk.elim

theorem wpD2_mono : ∀ (l : List GI) {e : Env} {h : AHeap} {K K' : Env → AHeap → Prop} (hm : ∀ e h, K e h → K' e h) (hk : wpD2 P G l e h K), wpD2 P G l e h K'
  | [], e, h, K, K', hm, hk => hm _ _ hk
  | g :: l, e, h, K, K', hm, hk => by
    simp only [wpD2] at hk ⊢
    split at hk
    · exact wpI_mono (fun v h' q => ⟨q.1, wpD2_mono l hm q.2⟩) hk
    · split at hk
      · exact ⟨fun e1 => wpI_mono (fun v h' q => ⟨q.1, wpD2_mono l hm q.2⟩) (hk.1 e1), fun e1 => wpD2_mono l hm (hk.2 e1)⟩
      · exact wpD2_mono l hm hk
      · exact hk.elim

theorem sel_look {e e' : Env} (h : look e = look e') (keep : List Nat) : sel keep e = sel keep e' := by
  unfold sel; rw [h]

def allL {α : Type} : List α → (α → Prop) → Prop
  | [], _ => True
  | a :: r, p => p a ∧ allL r p
theorem allL_mem {α : Type} {p : α → Prop} : ∀ {l : List α}, allL l p → ∀ a ∈ l, p a
  | [], _, a, h => by cases h
  | b :: l, k, a, h => by
    rcases List.mem_cons.1 h with rfl | h
    · exact k.1
    · exact allL_mem k.2 a h
theorem allL_mono {α : Type} {p q : α → Prop} (m : ∀ a, p a → q a) : ∀ {l : List α}, allL l p → allL l q
  | [], _ => trivial
  | _ :: _, k => ⟨m _ k.1, allL_mono m k.2⟩
/-- Which operations stand ahead of which. -/
def predsOf (ops : Array Oper) : List (List Nat) := ops.toList.map fun o => (o.after.toList.filter (Region.binds .any)).map (·.on)
def readyL (preds : List (List Nat)) (dn : List Bool) : List Nat := (List.range dn.length).filter fun i => !(dn.getD i true) && (preds.getD i []).all fun j => dn.getD j false
/-- A region whose order is open, in each order that may be. -/
def wpA (P : Program) (G : Nat) (l : List GI) (preds : List (List Nat)) : Nat → List Bool → Env → AHeap → (Env → AHeap → Prop) → Prop
  | 0, dn, e, h, K => readyL preds dn = [] ∧ K e h
  | n + 1, dn, e, h, K => readyL preds dn ≠ [] ∧ allL (readyL preds dn) fun i => match l[i]? with
    | some ⟨d, ins, none⟩ => wpI P G ins (look e) h fun v h' => wpA P G l preds n (dn.set i true) (putE e d v) h' K
    | _ => False
theorem readyL_ready {ops : Array Oper} {listed : Array Bool} (hl : listed.size = ops.size) {i : Nat} (hi : i ∈ Region.ready .any ops listed) : i ∈ readyL (predsOf ops) listed.toList := by
  rw [mem_ready] at hi
  obtain ⟨h1, o, ho, h2⟩ := hi
  have hlt : i < listed.size := by rw [hl]; exact (Array.getElem?_eq_some_iff.1 ho).1
  unfold readyL
  rw [List.mem_filter]
  refine ⟨by simpa using hlt, ?_⟩
  have e1 : listed.toList.getD i true = false := by
    rw [← h1]; simp [List.getD_eq_getElem?_getD]
  have e2 : (predsOf ops).getD i [] = (o.after.toList.filter (Region.binds .any)).map (·.on) := by
    simp [predsOf, List.getD_eq_getElem?_getD, ho]
  rw [e1, e2]
  simp only [Bool.not_false, Bool.true_and, List.all_eq_true, List.mem_map, List.mem_filter]
  rintro j ⟨ed, ⟨he, hb⟩, rfl⟩
  have := h2 ed (by simpa using he) hb
  rw [← this]; simp [List.getD_eq_getElem?_getD]
theorem wpA_sound {n : Nat} {ops : Array Oper} {l : List GI} (hm : ops.toList.mapM (resG P G n ops) = some l) {R : Exit → Act → World → Prop} {K : Env → AHeap → Prop} :
    ∀ (fuel : Nat) {listed : Array Bool} {e : Env} {h : AHeap}, listed.size = ops.size → wpA P G l (predsOf ops) fuel listed.toList e h K →
    ∀ {μ : Ren} {w : World} {a : Act}, Sim G μ h w → AR n μ h e a → (∀ μ' w' a' e' h', K e' h' → Step G μ h w μ' h' w' → AR n μ' h' e' a' → R .normal a' w') → wpAny P .any ops R fuel listed a w := by
  intro fuel
  induction fuel with
  | zero =>
    intro listed e h hl hk μ w a s r hR
    refine ⟨List.eq_nil_iff_forall_not_mem.2 fun i hi => ?_, hR μ w a e h hk.2 (Step.refl s) r⟩
    have := readyL_ready hl hi
    rw [hk.1] at this; cases this
  | succ fuel ih =>
    intro listed e h hl hk μ w a s r hR
    refine ⟨fun hr => ?_, fun i hi => ?_⟩
    · exfalso
      refine hk.1 (List.eq_nil_iff_forall_not_mem.2 fun i hi => ?_)
      have hin : i ∈ Region.ready .any ops listed := by
        unfold readyL at hi
        rw [List.mem_filter] at hi
        obtain ⟨h1, h2⟩ := hi
        simp only [Bool.and_eq_true, Bool.not_eq_true', List.all_eq_true] at h2
        have hlt : i < ops.size := by rw [← hl]; simpa using h1
        rw [mem_ready]
        refine ⟨by rw [← h2.1]; simp [List.getD_eq_getElem?_getD], ops[i], Array.getElem?_eq_getElem hlt, fun ed he hb => ?_⟩
        have e2 : (predsOf ops).getD i [] = ((ops[i]).after.toList.filter (Region.binds .any)).map (·.on) := by
          simp [predsOf, List.getD_eq_getElem?_getD, hlt]
        have := h2.2 ed.on (by rw [e2]; exact List.mem_map.2 ⟨ed, List.mem_filter.2 ⟨by simpa using he, hb⟩, rfl⟩)
        rw [← this]; simp [List.getD_eq_getElem?_getD]
      rw [hr] at hin; cases hin
    · have hk2 := allL_mem hk.2 i (readyL_ready hl hi)
      obtain ⟨_, o, ho, _⟩ := mem_ready.1 hi
      have hg : ∃ g, l[i]? = some g ∧ resG P G n ops o = some g := by
        have := mapM_get hm i
        rw [Array.getElem?_toList, ho] at this
        simp only [Option.bind_some] at this
        cases q : l[i]? with
        | none =>
          have hlen := mapM_len hm
          have := (Array.getElem?_eq_some_iff.1 ho).1
          rw [List.getElem?_eq_none_iff, hlen] at q
          simp at q; omega
        | some g => exact ⟨g, rfl, by rw [← q]; exact this⟩
      obtain ⟨g, hg1, hg2⟩ := hg
      rw [hg1] at hk2
      obtain ⟨d, ins, gu⟩ := g
      cases gu with
      | some _ => exact hk2.elim
      | none =>
        simp only [resG, Option.bind_eq_bind, Option.bind_eq_some_iff] at hg2
        obtain ⟨i2, hi2, gg, hgg, hg2⟩ := hg2
        split at hg2
        · rename_i hd
          simp only [Option.some.injEq, GI.mk.injEq] at hg2
          obtain ⟨rfl, rfl, rfl⟩ := hg2
          have hd' : ∀ d, o.dst = some d → d < n := fun d e1 => by rw [e1] at hd; simpa [dstOk] using hd
          have hgu : o.guard = none := by
            cases q : o.guard with
            | none => rfl
            | some jw =>
              rw [q] at hgg
              obtain ⟨j, wt⟩ := jw
              simp only [gdOf, Option.map_eq_some_iff] at hgg
              obtain ⟨_, _, h9⟩ := hgg
              cases h9
          unfold wpOp
          rw [ho]
          simp only [Region.wanted, hgu, if_true]
          left
          obtain ⟨v, h', hj, hk'⟩ := resI_sound hi2 hk2
          refine hj.j μ w a s r.slots _ _ fun v' μ' w' hv hst => ?_
          refine ih (listed := listed.setIfInBounds i true) (by simpa using hl) (by rw [Array.toList_setIfInBounds]; exact hk') hst.sim ((r.mono s hst).put hd' hv) fun μ2 w2 a2 e2 h2 k1 k2 k3 => hR μ2 w2 a2 e2 h2 k1 (hst.trans k2) k3
        · cases hg2
theorem wpA_mono {l : List GI} {preds : List (List Nat)} : ∀ (n : Nat) {dn : List Bool} {e : Env} {h : AHeap} {K K' : Env → AHeap → Prop} (hm : ∀ e h, K e h → K' e h), wpA P G l preds n dn e h K → wpA P G l preds n dn e h K'
  | 0, dn, e, h, K, K', hm, hk => ⟨hk.1, hm _ _ hk.2⟩
  | n + 1, dn, e, h, K, K', hm, hk => ⟨hk.1, allL_mono (fun i q => by
      split at q
      · exact wpI_mono (fun v h' => wpA_mono n hm) q
      · exact q.elim) hk.2⟩

inductive C where
  | skip
  | region (keep : List Nat) (ops : List GI)
  | draw (keep : List Nat) (ops : List GI)
  | seq (a b : C)
  | cond (c : Operand) (a b : C)
  | block (id : Nat) (a : C)
  | loop (a : C)
  | exit (id : Nat)
  | ret
  | bad
  | any (keep : List Nat) (ops : List GI) (preds : List (List Nat))

abbrev Post := Exit → Env → AHeap → Prop

def thenC (next : Env → AHeap → Prop) (Q : Post) : Post
  | .normal, e, h => next e h
  | x, e, h => Q x e h

def blockC (id : Nat) (Q : Post) : Post
  | .exit i, e, h => if i = id then Q .normal e h else Q (.exit i) e h
  | x, e, h => Q x e h

def wpC (P : Program) (G : Nat) : C → Env → AHeap → Post → Prop
  | .skip, e, h, Q => Q .normal e h
  | .region keep ops, e, h, Q => wpL2 P G ops e h fun e' h' => Q .normal (sel keep e') h'
  | .draw keep ops, e, h, Q => wpD2 P G ops e h fun e' h' => Q .normal (sel keep e') h'
  | .seq a b, e, h, Q => wpC P G a e h (thenC (fun e' h' => wpC P G b e' h' Q) Q)
  | .cond c a b, e, h, Q => match evO (look e) c with
    | .bool t => (t = true → wpC P G a e h Q) ∧ (t = false → wpC P G b e h Q)
    | _ => False
  | .block id a, e, h, Q => wpC P G a e h (blockC id Q)
  | .loop a, e, h, Q => ∀ X : Env → AHeap → Prop, (∀ e h, wpC P G a e h (thenC X Q) → X e h) → X e h
  | .exit id, e, h, Q => Q (.exit id) e h
  | .ret, e, h, Q => Q .ret e h
  | .bad, e, h, Q => False
  | .any keep ops preds, e, h, Q => ∃ e1 h1, wpA P G ops preds ops.length (List.replicate ops.length false) e h (fun e' h' => SameN h e1 h1 (sel keep e') h') ∧ Q .normal e1 h1

/-- Code of which nothing is known ('bad') may stand where it is never reached. -/
def resC (P : Program) (G n : Nat) (ks : Nat → List Nat) : Code → Option C
  | .skip => some .skip
  | .region id ops d => if (ks (id + 300000)).isEmpty = false then (if P.follows .mixedOrders && d then (ops.toList.mapM (resG P G n ops)).map fun l => .any (ks id) l (predsOf ops) else none) else if (ks (id + 200000)).isEmpty then (match d with
    | false => (ops.toList.mapM (resG P G n ops)).map (.region (ks id))
    | true => do
      let l0 ← ops.toList.mapM (resG P G n ops)
      let l := l0.map (mw (ks (id + 100000)))
      if P.follows .mixedOrders && dOK ops l then some (.draw (ks id) l) else none) else some .bad
  | .seq a b => do
    let x ← resC P G n ks a
    let y ← resC P G n ks b
    some (.seq x y)
  | .cond c a b => do
    let x ← resC P G n ks a
    let y ← resC P G n ks b
    if okO G c then some (.cond c x y) else none
  | .block id a => (resC P G n ks a).map (.block id)
  | .loop a => (resC P G n ks a).map .loop
  | .exit id => some (.exit id)
  | .ret => some .ret
  | .label _ => some .skip
  | .scope a => resC P G n ks a
  | _ => some .bad

/-- Code of these forms never jumps to a label: what is asked of jumps is of no account. -/
theorem wpC_mono2 {P : Program} {G : Nat} : ∀ (c : C) {e : Env} {h : AHeap} {Q Q' : Post} (hm : ∀ x e h, (∀ l, x ≠ .goto l) → Q x e h → Q' x e h) (hk : wpC P G c e h Q), wpC P G c e h Q'
  | .skip, e, h, Q, Q', hm, hk => hm _ _ _ (fun _ q => by cases q) hk
  | .region keep ops, e, h, Q, Q', hm, hk => wpL2_mono ops (fun _ _ => hm _ _ _ (fun _ q => by cases q)) hk
  | .draw keep ops, e, h, Q, Q', hm, hk => wpD2_mono ops (fun _ _ => hm _ _ _ (fun _ q => by cases q)) hk
  | .seq a b, e, h, Q, Q', hm, hk => wpC_mono2 a (fun x e h hx k => by
      cases x with
      | normal => exact wpC_mono2 b hm k
      | goto l => exact absurd rfl (hx l)
      | exit i => exact hm _ _ _ hx k
      | ret => exact hm _ _ _ hx k
      | panic ch => exact hm _ _ _ hx k
      | outgrown => exact hm _ _ _ hx k) hk
  | .cond c a b, e, h, Q, Q', hm, hk => by
    simp only [wpC] at hk ⊢
    split at hk
    · exact ⟨fun e1 => wpC_mono2 a hm (hk.1 e1), fun e1 => wpC_mono2 b hm (hk.2 e1)⟩
    · exact hk.elim
  | .block id a, e, h, Q, Q', hm, hk => wpC_mono2 a (fun x e h hx hq => by
      cases x with
      | goto l => exact absurd rfl (hx l)
      | exit i =>
        simp only [blockC] at hq ⊢
        split at hq
        · rename_i e1; rw [if_pos e1]; exact hm _ _ _ (fun _ q => by cases q) hq
        · rename_i e1; rw [if_neg e1]; exact hm _ _ _ hx hq
      | normal => exact hm _ _ _ hx hq
      | ret => exact hm _ _ _ hx hq
      | panic ch => exact hm _ _ _ hx hq
      | outgrown => exact hm _ _ _ hx hq) hk
  | .loop a, e, h, Q, Q', hm, hk => fun X hX => hk X fun e h hq => hX e h (wpC_mono2 a (fun x e h hx k => by
      cases x with
      | normal => exact k
      | goto l => exact absurd rfl (hx l)
      | exit i => exact hm _ _ _ hx k
      | ret => exact hm _ _ _ hx k
      | panic ch => exact hm _ _ _ hx k
      | outgrown => exact hm _ _ _ hx k) hq)
  | .exit id, e, h, Q, Q', hm, hk => hm _ _ _ (fun _ q => by cases q) hk
  | .ret, e, h, Q, Q', hm, hk => hm _ _ _ (fun _ q => by cases q) hk
  | .bad, e, h, Q, Q', hm, hk => False.elim hk
  | .any keep ops preds, e, h, Q, Q', hm, ⟨e1, h1, hA, hQ⟩ => ⟨e1, h1, hA, hm _ _ _ (fun _ q => by cases q) hQ⟩

/-- The model's code, from a frame and a world that stand for e and h, comes to an end that Q allows. -/
def CJ (P : Program) (G n : Nat) (c : Code) (e : Env) (h : AHeap) (Q : Post) : Prop :=
  ∀ μ w a, Sim G μ h w → AR n μ h e a → c.wp P (fun x a' w' => ∃ μ' e' h', Q x e' h' ∧ Step G μ h w μ' h' w' ∧ AR n μ' h' e' a') a w

theorem resC_sound {n : Nat} {ks : Nat → List Nat} : ∀ (c : Code) {c' : C} {e : Env} {h : AHeap} {Q : Post}, resC P G n ks c = some c' → wpC P G c' e h Q → CJ P G n c e h Q := by
  intro c
  induction c with
  | skip =>
    intro c' e h Q hr hk μ w a s r
    cases hr
    exact wp_skip ⟨μ, e, h, hk, Step.refl s, r⟩
  | region id ops d =>
    intro c' e h Q hr hk μ w a s r
    simp only [resC] at hr
    split at hr
    case isTrue hany =>
      split at hr
      case isFalse => cases hr
      rename_i hfd
      simp only [Bool.and_eq_true] at hfd
      obtain ⟨hfm, rfl⟩ := hfd
      simp only [Option.map_eq_some_iff] at hr
      obtain ⟨l, hl, rfl⟩ := hr
      obtain ⟨e1, h1, hA, hQ⟩ := hk
      have hlen : l.length = ops.size := by rw [mapM_len hl]; simp
      refine wp_region_any hfm ?_
      refine wpA_sound hl ops.size (listed := Array.replicate ops.size false) (by simp) (by rw [Array.toList_replicate, ← hlen]; exact hA) (Step.drawn s (w.drawn + 1)).sim ⟨r.size, r.defers, r.slots⟩ fun μ' w' a' e' h' k1 k2 k3 => ?_
      obtain ⟨μ1, t1, r1⟩ := k1.out (Step.drawn s (w.drawn + 1)).sim k2 (k3.sel _)
      exact ⟨μ1, e1, h1, hQ, (Step.drawn s (w.drawn + 1)).trans t1, r1⟩
    split at hr
    case isFalse => cases hr; exact False.elim hk
    cases d with
    | true =>
      simp only [Option.bind_eq_bind, Option.bind_eq_some_iff] at hr
      obtain ⟨l, hl, hr⟩ := hr
      split at hr <;> cases hr
      rename_i hc
      simp only [Bool.and_eq_true] at hc
      refine wp_region_any hc.1 ?_
      have := wpD_sound (R := fun x a' w' => ∃ μ' e' h', Q x e' h' ∧ Step G μ h w μ' h' w' ∧ AR n μ' h' e' a') _ hl rfl hc.2 (wpD_of _ (fun e e' h q k => sel_look q _ ▸ k) rfl hk) (Step.drawn s (w.drawn + 1)).sim ⟨r.size, r.defers, r.slots⟩
        fun μ' w' a' e' h' k1 k2 k3 => ⟨μ', _, h', k1, (Step.drawn s (w.drawn + 1)).trans k2, k3.sel _⟩
      exact this
    | false =>
      simp only [Option.map_eq_some_iff] at hr
      obtain ⟨l, hl, rfl⟩ := hr
      refine wp_region ?_
      have := wpL_sound (R := fun x a' w' => ∃ μ' e' h', Q x e' h' ∧ Step G μ h w μ' h' w' ∧ AR n μ' h' e' a') l 0 (by simpa using hl) (wpL_of l (fun e e' h q k => sel_look q _ ▸ k) rfl hk) s r fun μ' w' a' e' h' k1 k2 k3 => ⟨μ', _, h', k1, k2, k3.sel _⟩
      simpa [List.range_eq_range'] using this
  | seq x y ihx ihy =>
    intro c' e h Q hr hk μ w a s r
    simp only [resC, Option.bind_eq_bind, Option.bind_eq_some_iff, Option.some.injEq] at hr
    obtain ⟨x', hx, y', hy, rfl⟩ := hr
    refine wp_seq (wp_mono (ihx hx hk μ w a s r) fun ex a1 w1 => ?_)
    rintro ⟨μ1, e1, h1, k1, k2, k3⟩
    cases ex with
    | normal =>
      refine wp_mono (ihy hy k1 μ1 w1 a1 k2.sim k3) fun ex2 a2 w2 => ?_
      rintro ⟨μ2, e2, h2, q1, q2, q3⟩
      exact ⟨μ2, e2, h2, q1, k2.trans q2, q3⟩
    | exit id => exact ⟨μ1, e1, h1, k1, k2, k3⟩
    | goto l => exact ⟨μ1, e1, h1, k1, k2, k3⟩
    | ret => exact ⟨μ1, e1, h1, k1, k2, k3⟩
    | panic ch => exact ⟨μ1, e1, h1, k1, k2, k3⟩
    | outgrown => exact ⟨μ1, e1, h1, k1, k2, k3⟩
  | cond c x y ihx ihy =>
    intro c' e h Q hr hk μ w a s r
    simp only [resC, Option.bind_eq_bind, Option.bind_eq_some_iff] at hr
    obtain ⟨x', hx, y', hy, hr⟩ := hr
    split at hr <;> cases hr
    rename_i hok
    simp only [wpC] at hk
    split at hk
    · rename_i t ht
      have q := evO_vr s r.slots hok
      rw [ht] at q
      exact wp_cond_split q.bool_inv (fun e1 => ihx hx (hk.1 e1) μ w a s r) (fun e1 => ihy hy (hk.2 e1) μ w a s r)
    · exact hk.elim
  | block id x ih =>
    intro c' e h Q hr hk μ w a s r
    simp only [resC, Option.map_eq_some_iff] at hr
    obtain ⟨x', hx, rfl⟩ := hr
    refine wp_block (wp_mono (ih hx hk μ w a s r) fun ex a1 w1 => ?_)
    rintro ⟨μ1, e1, h1, k1, k2, k3⟩
    cases ex with
    | exit i =>
      simp only [blockC] at k1
      simp only [Exit.inBlock]
      split
      · rename_i hi; rw [if_pos hi] at k1; exact ⟨μ1, e1, h1, k1, k2, k3⟩
      · rename_i hi; rw [if_neg hi] at k1; exact ⟨μ1, e1, h1, k1, k2, k3⟩
    | normal => exact ⟨μ1, e1, h1, k1, k2, k3⟩
    | goto l => exact ⟨μ1, e1, h1, k1, k2, k3⟩
    | ret => exact ⟨μ1, e1, h1, k1, k2, k3⟩
    | panic ch => exact ⟨μ1, e1, h1, k1, k2, k3⟩
    | outgrown => exact ⟨μ1, e1, h1, k1, k2, k3⟩
  | loop x ih =>
    intro c' e h Q hr hk μ w a s r
    simp only [resC, Option.map_eq_some_iff] at hr
    obtain ⟨x', hx, rfl⟩ := hr
    have key := hk (fun e h => ∀ μ w a, Sim G μ h w → AR n μ h e a → ∀ (b : Frame) (k : List Item) (cs : List Frame),
      ∃ ex a' w', (∃ μ' e' h', Q ex e' h' ∧ Step G μ h w μ' h' w' ∧ AR n μ' h' e' a') ∧ Arrives P (lone (b.at a (.code x :: .inLoop x :: k)) cs w) b k cs ex a' w') (by
      intro e h hround μ w a s r
      refine in_of_round (wp_mono (ih hx hround μ w a s r) fun ex a1 w1 => ?_)
      rintro ⟨μ1, e1, h1, k1, k2, k3⟩
      cases ex with
      | normal =>
        intro b k cs
        obtain ⟨ex2, a2, w2, ⟨μ2, e2, h2, q1, q2, q3⟩, q4⟩ := k1 μ1 w1 a1 k2.sim k3 b k cs
        exact ⟨ex2, a2, w2, ⟨μ2, e2, h2, q1, k2.trans q2, q3⟩, q4⟩
      | exit id => exact ⟨μ1, e1, h1, k1, k2, k3⟩
      | goto l => exact ⟨μ1, e1, h1, k1, k2, k3⟩
      | ret => exact ⟨μ1, e1, h1, k1, k2, k3⟩
      | panic ch => exact ⟨μ1, e1, h1, k1, k2, k3⟩
      | outgrown => exact ⟨μ1, e1, h1, k1, k2, k3⟩)
    exact loop_of_in (key μ w a s r)
  | exit id =>
    intro c' e h Q hr hk μ w a s r
    cases hr
    exact wp_exit ⟨μ, e, h, hk, Step.refl s, r⟩
  | ret =>
    intro c' e h Q hr hk μ w a s r
    cases hr
    exact wp_ret ⟨μ, e, h, hk, Step.refl s, r⟩
  | rangeFunc => intro c' e h Q hr hk; simp [resC] at hr; subst hr; exact False.elim hk
  | scope x ih =>
    intro c' e h Q hr hk μ w a s r
    simp only [resC] at hr
    refine wp_scope_straight (wp_mono (ih hr (wpC_mono2 (Q' := fun x e h => (∀ l, x ≠ .goto l) ∧ Q x e h) c' (fun x e h hx k => ⟨hx, k⟩) hk) μ w a s r) fun ex a1 w1 => ?_)
    rintro ⟨μ1, e1, h1, ⟨k0, k1⟩, k2, k3⟩
    cases ex with
    | goto l => exact absurd rfl (k0 l)
    | normal => exact ⟨μ1, e1, h1, k1, k2, k3⟩
    | exit i => exact ⟨μ1, e1, h1, k1, k2, k3⟩
    | ret => exact ⟨μ1, e1, h1, k1, k2, k3⟩
    | panic ch => exact ⟨μ1, e1, h1, k1, k2, k3⟩
    | outgrown => exact ⟨μ1, e1, h1, k1, k2, k3⟩
  | label l =>
    intro c' e h Q hr hk μ w a s r
    simp only [resC] at hr
    cases hr
    exact wp_label ⟨μ, e, h, hk, Step.refl s, r⟩
  | goto => intro c' e h Q hr hk; simp [resC] at hr; subst hr; exact False.elim hk
  | refuse => intro c' e h Q hr hk; simp [resC] at hr; subst hr; exact False.elim hk

/-- Whatever the loop's body asks of its state at a round's begin: a relation that each round keeps while a measure falls. -/
theorem wpC_loop_of {a : C} {e : Env} {h : AHeap} {Q : Post} (mono : ∀ e h (Q Q' : Post), (∀ x e h, Q x e h → Q' x e h) → wpC P G a e h Q → wpC P G a e h Q') (I : Nat → Env → AHeap → Prop) (m : Nat) (h0 : I m e h)
    (round : ∀ m e h, I m e h → wpC P G a e h (thenC (fun e' h' => ∃ m', m' < m ∧ I m' e' h') Q)) : wpC P G (.loop a) e h Q := by
  intro X hX
  induction m using Nat.strongRecOn generalizing e h with
  | _ m ih =>
    refine hX e h (mono e h _ _ (fun x e' h' hq => ?_) (round m e h h0))
    cases x with
    | normal => obtain ⟨m', hm, hi⟩ := hq; exact ih m' hm hi
    | exit id => exact hq
    | goto l => exact hq
    | ret => exact hq
    | panic ch => exact hq
    | outgrown => exact hq

theorem thenC_mono {next next' : Env → AHeap → Prop} {Q Q' : Post} (h1 : ∀ e h, next e h → next' e h) (h2 : ∀ x e h, Q x e h → Q' x e h) : ∀ x e h, thenC next Q x e h → thenC next' Q' x e h := by
  intro x e h
  cases x <;> first | exact h1 _ _ | exact h2 _ _ _

theorem wpC_mono : ∀ (c : C) {e : Env} {h : AHeap} {Q Q' : Post} (hm : ∀ x e h, Q x e h → Q' x e h) (hk : wpC P G c e h Q), wpC P G c e h Q'
  | .skip, e, h, Q, Q', hm, hk => hm _ _ _ hk
  | .region keep ops, e, h, Q, Q', hm, hk => wpL2_mono ops (fun _ _ => hm _ _ _) hk
  | .draw keep ops, e, h, Q, Q', hm, hk => wpD2_mono ops (fun _ _ => hm _ _ _) hk
  | .seq a b, e, h, Q, Q', hm, hk => wpC_mono a (thenC_mono (fun _ _ => wpC_mono b hm) hm) hk
  | .cond c a b, e, h, Q, Q', hm, hk => by
    simp only [wpC] at hk ⊢
    split at hk
    · exact ⟨fun e1 => wpC_mono a hm (hk.1 e1), fun e1 => wpC_mono b hm (hk.2 e1)⟩
    · exact hk.elim
  | .block id a, e, h, Q, Q', hm, hk => wpC_mono a (fun x e h hq => by
      cases x <;> simp only [blockC] at hq ⊢ <;> first | exact hm _ _ _ hq | (split at hq <;> rename_i e1 <;> first | (rw [if_pos e1]; exact hm _ _ _ hq) | (rw [if_neg e1]; exact hm _ _ _ hq))) hk
  | .loop a, e, h, Q, Q', hm, hk => fun X hX => hk X fun e h hq => hX e h (wpC_mono a (thenC_mono (fun _ _ k => k) hm) hq)
  | .exit id, e, h, Q, Q', hm, hk => hm _ _ _ hk
  | .ret, e, h, Q, Q', hm, hk => hm _ _ _ hk
  | .bad, e, h, Q, Q', hm, hk => False.elim hk
  | .any keep ops preds, e, h, Q, Q', hm, ⟨e1, h1, hA, hQ⟩ => ⟨e1, h1, hA, hm _ _ _ hQ⟩

theorem wpC_loop {a : C} {e : Env} {h : AHeap} {Q : Post} (I : Nat → Env → AHeap → Prop) (m : Nat) (h0 : I m e h)
    (round : ∀ m e h, I m e h → wpC P G a e h (thenC (fun e' h' => ∃ m', m' < m ∧ I m' e' h') Q)) : wpC P G (.loop a) e h Q :=
  wpC_loop_of (fun _ _ _ _ => wpC_mono a) I m h0 round

end Go.Proofs.YtpnpccnbpgckhabGreat.B
