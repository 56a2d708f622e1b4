/-
  A region whose order Go leaves open: the theorem, second part.
-/
import Derived.Test.YtpnpccnbpgckhabGreatAbF
namespace Go.Proofs.YtpnpccnbpgckhabGreat.B
open Go
set_option linter.unusedVariables false
set_option linter.unusedSimpArgs false
variable {G : Nat} {P : Program}

theorem Step.extend {μ μ' : Ren} {h h' : AHeap} {w w' : World} (t : Step G μ h w μ' h' w') (q : AHeap) : Step G μ h w μ' (h' ++ q) w' :=
  ⟨t.ren, t.new, t.hle.trans (HLe.append _ _), sim_extend t.sim q, t.fr, t.fresh⟩

theorem step_compose {μ0 μ μ' : Ren} {h0 Hm H H1 : AHeap} {w0 w w' : World} (S : Step G μ0 h0 w0 (rst μ Hm.length) Hm w) (t : Step G (rst μ H.length) H w μ' H1 w') (q1 : ∃ g, H1 = H ++ g) (q : ∃ q, Hm = H1 ++ q) (hb : h0.length ≤ H.length)
    (hseg : ∀ b, H.length ≤ b → b < H1.length → μ b = none) (hs : Sim G (rst (upd μ μ' H.length H1.length) Hm.length) Hm w') : Step G μ0 h0 w0 (rst (upd μ μ' H.length H1.length) Hm.length) Hm w' := by
  have hH : H.length ≤ Hm.length := by obtain ⟨g, rfl⟩ := q1; obtain ⟨q, rfl⟩ := q; simp only [List.length_append]; omega
  have hHm : ∀ b, b < H.length → Hm[b]? = H[b]? := fun b hb => by
    obtain ⟨g, rfl⟩ := q1; obtain ⟨q, rfl⟩ := q
    rw [List.append_assoc, List.getElem?_append_left hb]
  have back : ∀ b x, rst (upd μ μ' H.length H1.length) Hm.length b = some x → (H.length ≤ b ∧ μ' b = some x) ∨ rst μ Hm.length b = some x := fun b x hx => by
    obtain ⟨h1, h2⟩ := rst_some hx
    unfold upd at h2
    split at h2
    · rename_i hs; exact .inl ⟨hs.1, h2⟩
    · exact .inr (rst_mk h1 h2)
  have rwm : ∀ b x, rst μ H.length b = some x → RW H b → rst μ Hm.length b = some x ∧ RW Hm b := fun b x hx hr => by
    obtain ⟨h1, h2⟩ := rst_some hx
    exact ⟨rst_mk (by omega) h2, by obtain ⟨o, ho, hn⟩ := hr; exact ⟨o, by rw [hHm b h1]; exact ho, hn⟩⟩
  have place : ∀ b x, rst μ Hm.length b = some x → RW Hm b → w0.heap.size ≤ x.blk ∨ ∃ b0 x0, μ0 b0 = some x0 ∧ RW h0 b0 ∧ x0.blk = x.blk := fun b x hx hr => by
    rcases Nat.lt_or_ge b h0.length with z | z
    · rcases S.new b x hx with k | k
      · exact .inr ⟨b, x, k, hr.back S.hle z, rfl⟩
      · omega
    · exact S.fresh b x hx z
  refine ⟨fun b x hx => ?_, fun b x hx => ?_, S.hle, hs, ⟨t.fr.os.trans S.fr.os, t.fr.tape.trans S.fr.tape, t.fr.output.trans S.fr.output, Nat.le_trans S.fr.size t.fr.size, fun c hc hn => ?_⟩, fun b x hx hl => ?_⟩
  · obtain ⟨h1, h2⟩ := rst_some (S.ren b x hx)
    refine rst_mk h1 ?_
    unfold upd
    split
    · rename_i z; rw [hseg b z.1 z.2] at h2; cases h2
    · exact h2
  · rcases back b x hx with ⟨h1, _⟩ | h1
    · exact .inr (by omega)
    · exact S.new b x h1
  · rw [t.fr.block c (Nat.lt_of_lt_of_le hc S.fr.size) fun b x hx hr he => ?_, S.fr.block c hc hn]
    obtain ⟨h1, h2⟩ := rwm b x hx hr
    rcases place b x h1 h2 with z | ⟨b0, x0, z1, z2, z3⟩
    · omega
    · exact hn b0 x0 z1 z2 (z3.trans he)
  · rcases back b x hx with ⟨h1, h2⟩ | h1
    · rcases t.fresh b x h2 h1 with z | ⟨b0, x0, z1, z2, z3⟩
      · exact .inl (Nat.le_trans S.fr.size z)
      · obtain ⟨y1, y2⟩ := rwm b0 x0 z1 z2
        rcases place b0 x0 y1 y2 with z | ⟨b1, x1, y3, y4, y5⟩
        · exact .inl (by omega)
        · exact .inr ⟨b1, x1, y3, y4, y5.trans z3⟩
    · exact S.fresh b x h1 hl

section
variable {ops : Array Oper} {l : List GI} {N : Nat} {e : Env} {val : Nat → Value} {hp : Nat → AHeap} {en : Nat → Env} {sk : Nat → Bool} {μ0 : Ren} {w0 : World} {p m : Nat} {listed : Array Bool} {a : Act} {w : World} {μ : Ren}

/-- An operation that makes memory, and turns none that was. -/
theorem Inv.quiet (I : Inv G ops l N e val hp sk μ0 w0 p m listed a w μ) (C : Chk ops l) {i : Nat} {g : GI} (hr : i ∈ Region.ready .any ops listed) (hg : l[i]? = some g) (hdn : ∀ d, g.dst = some d → d < N) (hk : kindI g.i ≠ 2)
    (hpi : p ≤ i) (him : i < m) {v' : Value} {μ' : Ren} {w' : World} (t : Step G (rst μ (hp i).length) (hp i) w μ' (hp (i + 1)) w') (hv : VR μ' (hp (i + 1)) (val i) v') :
    Inv G ops l N e val hp sk μ0 w0 p m (listed.setIfInBounds i true) (a.put g.dst v') w' (upd μ μ' (hp i).length (hp (i + 1)).length) := by
  have hi := ready_unlisted hr
  have q1 := I.mid i hpi him
  have lenle : ∀ {k k'}, p ≤ k → k ≤ k' → k' ≤ m → (hp k).length ≤ (hp k').length := fun h1 h2 h3 => by
    obtain ⟨q, hq⟩ := I.pre h1 h2 h3
    rw [hq]; simp
  have hseg : ∀ b, (hp i).length ≤ b → b < (hp (i + 1)).length → μ b = none := fun b h1 h2 => by
    cases q : μ b with
    | none => rfl
    | some x =>
      rcases I.dom b x q with z | ⟨j, z1, z2, z3, z4, z5⟩
      · have := lenle (Nat.le_refl p) hpi (by omega); omega
      · by_cases e1 : j = i
        · subst e1; rw [hi.1] at z3; cases z3
        · rcases Nat.lt_or_ge j i with z | z
          · have := lenle (k := j + 1) (k' := i) (by omega) (by omega) (by omega); omega
          · have := lenle (k := i + 1) (k' := j) (by omega) (by omega) (by omega); omega
  have hμ : ∀ k, p ≤ k → k ≤ m → ∀ {u u'}, VR (rst μ (hp k).length) (hp k) u u' → VR (rst (upd μ μ' (hp i).length (hp (i + 1)).length) (hp k).length) (hp k) u u' := fun k _ _ u u' hu =>
    hu.mono (fun b x hb => (rst_some hb).1) (fun b x hb => by
      obtain ⟨h1, h2⟩ := rst_some hb
      refine rst_mk h1 ?_
      unfold upd
      split
      · rename_i z; rw [hseg b z.1 z.2] at h2; cases h2
      · exact h2) (HLe.refl _)
  have hsims : ∀ k, p ≤ k → k ≤ m → Sim G (rst (upd μ μ' (hp i).length (hp (i + 1)).length) (hp k).length) (hp k) w' := fun k h1 h2 => by
    rcases Nat.lt_or_ge i k with z | z
    · exact sim_high q1 (I.pre (by omega) z h2) (I.sims k h1 h2) hseg t
    · have : rst (upd μ μ' (hp i).length (hp (i + 1)).length) (hp k).length = rst μ (hp k).length := by
        funext b
        unfold rst
        split
        · rename_i hb
          unfold upd
          rw [if_neg]
          have := lenle h1 z (by omega)
          omega
        · rfl
      rw [this]
      exact sim_low (I.pre h1 z (by omega)) q1 (I.sims k h1 h2) t
  have hlev : lev p m (i + 1) = i + 1 := by unfold lev; omega
  obtain ⟨s1, s2⟩ := I.slots_after (v' := v') C hr hg hdn hμ (by
    rw [hlev]
    refine hv.mono t.sim.dom (fun b x hb => ?_) (HLe.refl _)
    refine rst_mk (t.sim.dom b x hb) ?_
    unfold upd
    split
    · exact hb
    · rename_i z
      rcases t.new b x hb with k | k
      · exact (rst_some k).2
      · exact absurd ⟨k, t.sim.dom b x hb⟩ z)
  refine ⟨I.pm, I.mn, I.closed.set hr, by simp [I.lsz], fun j gj hj h1 h2 => getD_set_true (I.lowl j gj hj h1 h2), I.mid, fun hm => ?_, I.mute, by rw [put_size.1]; exact I.tsz, by rw [put_size.2]; exact I.dfs, hsims, fun b x hb => ?_, s1, s2,
    step_compose I.glb t q1 (I.pre (by omega) him (Nat.le_refl _)) (Nat.le_trans I.base (lenle (Nat.le_refl _) hpi (by omega))) hseg (hsims m I.pm (Nat.le_refl _)), I.base⟩
  · obtain ⟨gm, h1, h2, h3, h4⟩ := I.next hm
    refine ⟨gm, h1, h2, h3, ?_⟩
    rw [listed_set hi.2, if_neg (by omega)]
    exact h4
  · unfold upd at hb
    split at hb
    · rename_i z
      exact .inr ⟨i, hpi, him, by rw [listed_set hi.2, if_pos rfl], z⟩
    · rcases I.dom b x hb with q | ⟨j, z1, z2, z3, z4⟩
      · exact .inl q
      · exact .inr ⟨j, z1, z2, getD_set_true z3, z4⟩

/-- An operation that turns memory: all that looks at memory stands before it or behind it. -/
theorem Inv.turn (I : Inv G ops l N e val hp sk μ0 w0 p m listed a w μ) (C : Chk ops l) (hll : l.length = ops.size) {g : GI} (hr : m ∈ Region.ready .any ops listed) (hg : l[m]? = some g) (hdn : ∀ d, g.dst = some d → d < N) (hk : kindI g.i = 2)
    (htr : ∀ (i : Nat) g, l[i]? = some g → ¬ (kindI g.i = 2 ∧ sk i = false) → ∃ q, hp (i + 1) = hp i ++ q)
    {v' : Value} {μ' : Ren} {w' : World} (t : Step G (rst μ (hp m).length) (hp m) w μ' (hp (m + 1)) w') (hv : VR μ' (hp (m + 1)) (val m) v') :
    ∃ m', Inv G ops l N e val hp sk μ0 w0 (m + 1) m' (listed.setIfInBounds m true) (a.put g.dst v') w' μ' := by
  have hi := ready_unlisted hr
  have hml : m < ops.size := by rw [← I.lsz]; exact hi.2
  obtain ⟨m', n1, n2, n3, n4⟩ := exists_next (fun i => ∃ g, l[i]? = some g ∧ kindI g.i = 2 ∧ sk i = false) ops.size _ (m + 1) rfl (by omega)
  have hmid : ∀ i, m + 1 ≤ i → i < m' → ∃ q, hp (i + 1) = hp i ++ q := fun i h1 h2 => by
    obtain ⟨gi, hgi⟩ : ∃ gi, l[i]? = some gi := ⟨_, List.getElem?_eq_getElem (by omega)⟩
    exact htr i gi hgi fun hq => n3 i h1 h2 ⟨gi, hgi, hq.1, hq.2⟩
  have hpre : ∀ k, m + 1 ≤ k → k ≤ m' → ∃ q, hp k = hp (m + 1) ++ q := fun k h1 h2 => by
    obtain ⟨q, hq⟩ := pre_of hmid (k - (m + 1)) (m + 1) (Nat.le_refl _) (by omega)
    exact ⟨q, by rw [← hq]; congr 1; omega⟩
  have hrst : ∀ k, m + 1 ≤ k → k ≤ m' → rst μ' (hp k).length = μ' := fun k h1 h2 => rst_dom fun b x hb => by
    have := t.sim.dom b x hb
    obtain ⟨q, hq⟩ := hpre k h1 h2
    rw [hq]; simp; omega
  have up : ∀ k, p ≤ k → k ≤ m → ∀ {u u'}, VR (rst μ (hp k).length) (hp k) u u' → VR μ' (hp (m + 1)) u u' := fun k h1 h2 u u' hu => by
    have := hu.lift (I.pre h1 h2 (Nat.le_refl _))
    exact Step.vr (I.sims m I.pm (Nat.le_refl _)) t this
  have lift : ∀ k, m + 1 ≤ k → k ≤ m' → ∀ {u u'}, VR μ' (hp (m + 1)) u u' → VR (rst μ' (hp k).length) (hp k) u u' := fun k h1 h2 u u' hu => by
    rw [hrst k h1 h2]
    obtain ⟨q, hq⟩ := hpre k h1 h2
    rw [hq]
    exact hu.mono t.sim.dom (fun _ _ k => k) (HLe.append _ _)
  refine ⟨m', n1, n2, I.closed.set hr, by simp [I.lsz], fun i gi h1 h2 h3 => ?_, hmid, fun hm' => ?_, fun i gi h1 h2 h3 h4 => ?_, by rw [put_size.1]; exact I.tsz, by rw [put_size.2]; exact I.dfs, fun k h1 h2 => ?_, fun b x hb => .inl (t.sim.dom b x hb),
    fun s hs => ?_, fun j gj s hj hd hlj => ?_, ?_, (I.glb.trans t).hle.length⟩
  · by_cases e1 : i = m
    · subst e1; rw [listed_set hi.2, if_pos rfl]
    · exact getD_set_true (pred_of_ready I.closed hr (C.muts m i g gi (fun q => e1 q.symm) hg h2 hk h3) (by omega))
  · obtain ⟨gm, h1, h2, h3⟩ := n4 hm'
    refine ⟨gm, h1, h2, h3, ?_⟩
    rw [listed_set hi.2, if_neg (by omega)]
    cases q : listed.getD m' false with
    | false => rfl
    | true =>
      have := ord_before I.closed (C.muts m' m gm g (by omega) h1 hg h2 (by omega)) (by omega) q
      rw [hi.1] at this; cases this
  · cases q : sk i with
    | true => rfl
    | false => exact absurd ⟨gi, h3, h4, q⟩ (n3 i h1 h2)
  · rw [hrst k h1 h2]
    obtain ⟨q, hq⟩ := hpre k h1 h2
    rw [hq]
    exact sim_extend t.sim q
  · have hne : g.dst ≠ some s := fun hd => by
      have := hs m g hg hd
      rw [listed_set hi.2, if_pos rfl] at this; cases this
    rw [getD_put_ne hne]
    refine lift (m + 1) (Nat.le_refl _) n1 (up p (Nat.le_refl _) I.pm (I.slots s fun j gj hj hd => ?_))
    have := hs j gj hj hd
    rw [listed_set hi.2] at this
    split at this
    · cases this
    · exact this
  · by_cases e1 : m = j
    · subst e1
      rw [hg] at hj; cases hj
      rw [hd, getD_put_eq (by rw [I.tsz]; exact hdn s hd)]
      exact lift _ lev_lo (lev_hi n1) hv
    · rw [listed_set hi.2, if_neg e1] at hlj
      rw [getD_put_ne (C.dst j m gj g s (fun q => e1 q.symm) hj hg hd)]
      exact lift _ lev_lo (lev_hi n1) (up _ lev_lo (lev_hi I.pm) (I.vals j gj s hj hd hlj))
  · rw [hrst m' n1 (Nat.le_refl _)]
    obtain ⟨q, hq⟩ := hpre m' n1 (Nat.le_refl _)
    rw [hq]
    exact (I.glb.trans t).extend q

end

theorem mapM_len {α β : Type} {f : α → Option β} {l : List α} {r : List β} (h : l.mapM f = some r) : r.length = l.length := by
  induction l generalizing r with
  | nil => simp at h; subst h; rfl
  | cons a l ih =>
    simp only [List.mapM_cons, Option.pure_def, Option.bind_eq_bind, Option.bind_eq_some_iff, Option.some.injEq] at h
    obtain ⟨b, _, bs, h2, rfl⟩ := h
    simp [ih h2]

/-- One evaluation in the order of the text serves every order. -/
theorem wpD_sound {n : Nat} {ops : Array Oper} (ms : List Nat) {l0 l : List GI} {e : Env} {h : AHeap} {K : Env → AHeap → Prop} {R : Exit → Act → World → Prop} (hm : ops.toList.mapM (resG P G n ops) = some l0) (hl0 : l = l0.map (mw ms)) (hd : dOK ops l = true) (hk : wpD P G l e h K)
    {μ : Ren} {w : World} {a : Act} (s : Sim G μ h w) (r : AR n μ h e a) (hR : ∀ μ' w' a' e' h', K e' h' → Step G μ h w μ' h' w' → AR n μ' h' e' a' → R .normal a' w') :
    wpAny P .any ops R ops.size (Array.replicate ops.size false) a w := by
  have hll : l.length = ops.size := by rw [hl0, List.length_map, mapM_len hm]; simp
  have C := chk_of hll hd
  obtain ⟨val, hp, en, sk, h0, hp0, hK, htr⟩ := trace ms _ _ hm l hl0 hk
  have hres : ∀ (i : Nat) g, l[i]? = some g → ∃ o, ops[i]? = some o ∧ ∃ g0, resG P G n ops o = some g0 ∧ g = mw ms g0 := fun i g hg => by
    rw [hl0, List.getElem?_map, Option.map_eq_some_iff] at hg
    obtain ⟨g0, hg0, rfl⟩ := hg
    have := mapM_get hm i
    rw [hg0] at this
    obtain ⟨o, ho, hr⟩ : ∃ o, ops[i]? = some o ∧ resG P G n ops o = some g0 := by simpa [Option.bind_eq_some_iff] using this
    exact ⟨o, ho, g0, hr, rfl⟩
  have hgd : ∀ {o : Oper} {g : GI}, (∃ g0, resG P G n ops o = some g0 ∧ g = mw ms g0) → gdOf ops o.guard = some g.g ∧ o.dst = g.dst ∧ ∀ d, g.dst = some d → d < n := fun {o g} hg => by
    obtain ⟨g0, hg, rfl⟩ := hg
    simp only [resG, Option.bind_eq_bind, Option.bind_eq_some_iff] at hg
    obtain ⟨i, hi, gg, hgg, hg⟩ := hg
    split at hg
    · rename_i hdd
      cases hg
      exact ⟨hgg, rfl, fun d e1 => by have e1 : o.dst = some d := e1; rw [e1] at hdd; simpa [dstOk] using hdd⟩
    · cases hg
  have hstep : ∀ (i : Nat) o g, ops[i]? = some o → l[i]? = some g → TrStep P G o g (en i) (hp i) (val i) (en (i + 1)) (hp (i + 1)) (sk i) := fun i o g ho hg => htr i o g (by simpa using ho) hg
  have hen : ∀ (i : Nat) g, l[i]? = some g → en (i + 1) = putE (en i) g.dst (val i) := fun i g hg => by
    obtain ⟨o, ho, _⟩ := hres i g hg
    exact (hstep i o g ho hg).1
  have hquiet : ∀ (i : Nat) g, l[i]? = some g → ¬ (kindI g.i = 2 ∧ sk i = false) → ∃ q, hp (i + 1) = hp i ++ q := fun i g hg hn => by
    obtain ⟨o, ho, _⟩ := hres i g hg
    rcases (hstep i o g ho hg).2 with ⟨_, _, h1, _⟩ | ⟨h1, _, _, h2⟩
    · exact ⟨[], by rw [h1]; simp⟩
    · exact h2 fun h3 => hn ⟨h3, h1⟩
  have fin : ∀ (listed : Array Bool) (a : Act) (w1 : World) (μ1 : Ren) (p m : Nat), Inv G ops l n e val hp sk μ w p m listed a w1 μ1 → (∀ i, i < ops.size → listed.getD i false = true) → R .normal a w1 := by
    intro listed a w1 μ1 p m I hall
    have hmn : m = ops.size := by
      rcases Nat.lt_or_ge m ops.size with q | q
      · obtain ⟨g, _, _, _, h4⟩ := I.next q
        rw [hall m q] at h4; cases h4
      · have := I.mn; omega
    subst hmn
    rw [hll] at hK
    refine hR _ w1 a _ _ hK (hp0 ▸ I.glb) ⟨I.tsz, I.dfs, fun t => ?_⟩
    rcases en_look h0 hen l.length (Nat.le_refl _) t with ⟨j, gj, h1, h2, h3, h4⟩ | ⟨h1, h2⟩
    · rw [hll] at h4
      rw [h4]
      exact (I.vals j gj t h2 h3 (hall j (by omega))).lift (I.pre lev_lo (lev_hi I.pm) (Nat.le_refl _))
    · rw [hll] at h2
      rw [h2]
      exact (I.slots t fun j gj hj hd => absurd hd (h1 j gj (List.getElem?_eq_some_iff.1 hj).1 hj)).lift (I.pre (Nat.le_refl _) I.pm (Nat.le_refl _))
  have ordc : ∀ {i j : Nat}, i ≠ j → ordB (Region.before ops) i j = ordB (Region.before ops) j i := fun {i j} hne => by
    unfold ordB
    by_cases q : j < i
    · rw [if_pos q, if_neg (by omega)]
    · rw [if_neg q, if_pos (by omega)]
  have main : ∀ (fuel : Nat) (listed : Array Bool) (a : Act) (w1 : World) (μ1 : Ren) (p m : Nat), Inv G ops l n e val hp sk μ w p m listed a w1 μ1 → listed.toList.count true + fuel = ops.size → wpAny P .any ops R fuel listed a w1 := by
    intro fuel
    induction fuel with
    | zero =>
      intro listed a w1 μ1 p m I hc
      have hall : ∀ i, i < ops.size → listed.getD i false = true := by
        have := (List.count_eq_length (a := true) (l := listed.toList)).1 (by rw [Array.length_toList, I.lsz]; omega)
        intro i hi
        have hi' : i < listed.size := by rw [I.lsz]; exact hi
        have h2 := this listed[i] (by simp)
        simp [hi', h2.symm]
      have hready : Region.ready .any ops listed = [] := by
        apply List.eq_nil_iff_forall_not_mem.2
        intro i hi
        have h1 := ready_unlisted hi
        rw [hall i (by rw [← I.lsz]; exact h1.2)] at h1
        cases h1.1
      exact ⟨hready, fin listed a w1 μ1 p m I hall⟩
    | succ fuel ih =>
      intro listed a w1 μ1 p m I hc
      refine ⟨fun hready => fin listed a w1 μ1 p m I fun i hi => ?_, fun i hi => ?_⟩
      · induction i using Nat.strongRecOn with
        | _ i ihi =>
          cases q : listed.getD i false with
          | true => rfl
          | false =>
            have hin : i ∈ Region.ready .any ops listed := by
              rw [mem_ready]
              refine ⟨?_, ops[i], Array.getElem?_eq_getElem hi, fun ed hed hb => ?_⟩
              · have hi' : i < listed.size := by rw [I.lsz]; exact hi
                simpa [hi'] using q
              · have := C.back i _ (Array.getElem?_eq_getElem hi) ed hed hb
                exact ihi ed.on this (by omega)
            rw [hready] at hin; cases hin
      · have hun := ready_unlisted hi
        have hin : i < ops.size := by rw [← I.lsz]; exact hun.2
        obtain ⟨g, hg⟩ : ∃ g, l[i]? = some g := ⟨_, List.getElem?_eq_getElem (by omega)⟩
        obtain ⟨o, ho, hrg⟩ := hres i g hg
        obtain ⟨hgd1, hdst, hdn⟩ := hgd hrg
        have hcnt : (listed.setIfInBounds i true).toList.count true + fuel = ops.size := by
          rw [Array.toList_setIfInBounds, count_set _ _ (by
            have := hun.1
            simp [hun.2] at this
            simp [hun.2, this])]
          omega
        have hwant := wanted_of (a := a) (e' := en i) hgd1 fun s b hs => ⟨_, _, I.sr C h0 hen hi hg (by unfold slotsG; rw [hs]; simp)⟩
        unfold wpOp
        rw [ho]
        simp only
        rcases (hstep i o g ho hg).2 with ⟨k1, k2, k3, k4⟩ | ⟨k1, k2, k3, k4⟩
        · rw [hwant.2 k4]
          simp only [Bool.false_eq_true, if_false]
          rw [hdst]
          exact ih _ _ _ _ _ _ (I.pure C hi hg hdn (.inr k1) (v' := undef) (by rw [k2]; exact .skip) (fun _ => .inr k1)) hcnt
        · rw [hwant.1 k2]
          simp only [if_true]
          left
          rcases k3 _ cutR_ev with ⟨m1, m2, m3⟩ | ⟨m1, m2⟩
          · obtain ⟨v', r1, r2⟩ := m2 (hp (lev p m i)) _ w1 a (I.sims _ lev_lo (lev_hi I.pm)) (I.cut C h0 hen hi hg)
            unfold Oper.wp
            rw [r1, Oper.upon_value, hdst]
            exact ih _ _ _ _ _ _ (I.pure C hi hg hdn (.inl m1) r2 (fun _ => .inl (by omega))) hcnt
          · have hpi : p ≤ i := by
              rcases Nat.lt_or_ge i p with q | q
              · have := I.lowl i g q hg m1
                rw [hun.1] at this; cases this
              · exact q
            have him : i ≤ m := by
              rcases Nat.lt_or_ge m i with q | q
              · obtain ⟨gm, h1, h2, h3, h4⟩ := I.next (by omega)
                have := pred_of_ready I.closed hi (by rw [ordc (by omega)]; exact C.muts m i gm g (by omega) h1 hg h2 m1) q
                rw [h4] at this; cases this
              · exact q
            have hlev : lev p m i = i := by unfold lev; omega
            have hcut := I.cut C h0 hen hi hg
            rw [hlev] at hcut
            refine m2 _ w1 a (I.sims i hpi him) hcut _ _ fun v' μ' w' hv hst => ?_
            rw [hdst]
            by_cases hk2 : kindI g.i = 2
            · have : i = m := by
                rcases Nat.lt_or_ge i m with q | q
                · have := I.mute i g hpi q hg hk2
                  rw [k1] at this; cases this
                · omega
              subst this
              obtain ⟨m', I'⟩ := I.turn C hll hi hg hdn hk2 hquiet hst hv
              exact ih _ _ _ _ _ _ I' hcnt
            · have hlt : i < m := by
                rcases Nat.lt_or_ge i m with q | q
                · exact q
                · have e1 : i = m := by omega
                  subst e1
                  obtain ⟨gm, h1, h2, _⟩ := I.next hin
                  rw [hg] at h1; cases h1
                  exact absurd h2 hk2
              exact ih _ _ _ _ _ _ (I.quiet C hi hg hdn hk2 hpi hlt hst hv) hcnt
  obtain ⟨m0, n1, n2, n3, n4⟩ := exists_next (fun i => ∃ g, l[i]? = some g ∧ kindI g.i = 2 ∧ sk i = false) ops.size _ 0 rfl (by omega)
  have hmid : ∀ i, 0 ≤ i → i < m0 → ∃ q, hp (i + 1) = hp i ++ q := fun i h1 h2 => by
    obtain ⟨gi, hgi⟩ : ∃ gi, l[i]? = some gi := ⟨_, List.getElem?_eq_getElem (by omega)⟩
    exact hquiet i gi hgi fun hq => n3 i h1 h2 ⟨gi, hgi, hq.1, hq.2⟩
  have hfalse : ∀ i : Nat, (Array.replicate ops.size false).getD i false = false := fun i => by
    simp only [Array.getD_eq_getD_getElem?, Array.getElem?_replicate]
    split <;> rfl
  have hrst : ∀ k, k ≤ m0 → rst μ (hp k).length = μ := fun k hk => rst_dom fun b x hb => by
    have := s.dom b x hb
    obtain ⟨q, hq⟩ := pre_of hmid k 0 (Nat.le_refl _) (by omega)
    simp only [Nat.zero_add] at hq
    rw [hq, hp0]; simp; omega
  refine main ops.size _ a w μ 0 m0 ⟨by omega, n2, fun i o ho hl => (by rw [hfalse] at hl; cases hl), by simp, fun i g h => by omega, hmid, fun h => ?_, fun i g h1 h2 h3 h4 => ?_, r.size, r.defers, fun k h1 h2 => ?_, fun b x hb => .inl (by rw [hp0]; exact s.dom b x hb), fun t _ => ?_, fun i g t _ _ hl => (by rw [hfalse] at hl; cases hl), ?_, Nat.le_refl _⟩ (by
    have : (Array.replicate ops.size false).toList.count true = 0 := by
      apply List.count_eq_zero_of_not_mem
      simp
    omega)
  · obtain ⟨g, h1, h2, h3⟩ := n4 h
    exact ⟨g, h1, h2, h3, hfalse _⟩
  · cases q : sk i with
    | true => rfl
    | false => exact absurd ⟨g, h3, h4, q⟩ (n3 i h1 h2)
  · rw [hrst k h2]
    obtain ⟨q, hq⟩ := pre_of hmid k 0 (Nat.le_refl _) (by omega)
    simp only [Nat.zero_add] at hq
    rw [hq, hp0]
    exact sim_extend s q
  · rw [hrst 0 (Nat.zero_le _), hp0]
    exact r.slots t
  · rw [hrst m0 (Nat.le_refl _)]
    obtain ⟨q, hq⟩ := pre_of hmid m0 0 (Nat.le_refl _) (by omega)
    simp only [Nat.zero_add] at hq
    rw [hq, hp0]
    exact (Step.refl s).extend q

end Go.Proofs.YtpnpccnbpgckhabGreat.B
