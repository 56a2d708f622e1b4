/-
  A region whose order Go leaves open: the theorem.
-/
import Derived.Test.YtpnpccnbpgckhabGreatAbE
namespace Go.Proofs.YtpnpccnbpgckhabGreat.B
open Go
set_option linter.unusedVariables false
set_option linter.unusedSimpArgs false
variable {G : Nat} {P : Program}

theorem exists_next (Q : Nat → Prop) (n : Nat) : ∀ (d p : Nat), n - p = d → p ≤ n → ∃ m, p ≤ m ∧ m ≤ n ∧ (∀ i, p ≤ i → i < m → ¬ Q i) ∧ (m < n → Q m)
  | 0, p, hd, hp => ⟨p, Nat.le_refl _, hp, fun i h1 h2 => by omega, fun h => by omega⟩
  | d + 1, p, hd, hp => by
    by_cases hq : Q p
    · exact ⟨p, Nat.le_refl _, hp, fun i h1 h2 => by omega, fun _ => hq⟩
    · obtain ⟨m, h1, h2, h3, h4⟩ := exists_next Q n d (p + 1) (by omega) (by omega)
      refine ⟨m, by omega, h2, fun i k1 k2 => ?_, h4⟩
      by_cases e : i = p
      · subst e; exact hq
      · exact h3 i (by omega) k2

def lev (p m i : Nat) : Nat := max p (min m i)

theorem count_set : ∀ (l : List Bool) (i : Nat), l[i]? = some false → (l.set i true).count true = l.count true + 1
  | [], i, h => by simp at h
  | b :: l, 0, h => by simp at h; subst h; simp
  | b :: l, i + 1, h => by
    simp at h
    have := count_set l i h
    cases b <;> simp [this]

structure Inv (G : Nat) (ops : Array Oper) (l : List GI) (N : Nat) (e : Env) (val : Nat → Value) (hp : Nat → AHeap) (sk : Nat → Bool) (μ0 : Ren) (w0 : World) (p m : Nat) (listed : Array Bool) (a : Act) (w : World) (μ : Ren) : Prop where
  pm : p ≤ m
  mn : m ≤ ops.size
  closed : Closed ops listed
  lsz : listed.size = ops.size
  lowl : ∀ (i : Nat) g, i < p → l[i]? = some g → kindI g.i ≠ 0 → listed.getD i false = true
  mid : ∀ i, p ≤ i → i < m → ∃ q, hp (i + 1) = hp i ++ q
  next : m < ops.size → ∃ g, l[m]? = some g ∧ kindI g.i = 2 ∧ sk m = false ∧ listed.getD m false = false
  mute : ∀ (i : Nat) g, p ≤ i → i < m → l[i]? = some g → kindI g.i = 2 → sk i = true
  tsz : a.tmps.size = N
  dfs : a.defers = []
  sims : ∀ k, p ≤ k → k ≤ m → Sim G (rst μ (hp k).length) (hp k) w
  dom : ∀ b x, μ b = some x → b < (hp p).length ∨ ∃ i, p ≤ i ∧ i < m ∧ listed.getD i false = true ∧ (hp i).length ≤ b ∧ b < (hp (i + 1)).length
  slots : ∀ t, (∀ (i : Nat) g, l[i]? = some g → g.dst = some t → listed.getD i false = false) → VR (rst μ (hp p).length) (hp p) (look e t) (a.tmps.getD t undef)
  vals : ∀ (i : Nat) g t, l[i]? = some g → g.dst = some t → listed.getD i false = true → VR (rst μ (hp (lev p m (i + 1))).length) (hp (lev p m (i + 1))) (val i) (a.tmps.getD t undef)
  glb : Step G μ0 (hp 0) w0 (rst μ (hp m).length) (hp m) w
  base : (hp 0).length ≤ (hp p).length

section
variable {ops : Array Oper} {l : List GI} {N : Nat} {e : Env} {val : Nat → Value} {hp : Nat → AHeap} {en : Nat → Env} {sk : Nat → Bool} {μ0 : Ren} {w0 : World} {p m : Nat} {listed : Array Bool} {a : Act} {w : World} {μ : Ren}

theorem pre_of (mid : ∀ i, p ≤ i → i < m → ∃ q, hp (i + 1) = hp i ++ q) : ∀ (d k : Nat), p ≤ k → k + d ≤ m → ∃ q, hp (k + d) = hp k ++ q
  | 0, k, _, _ => ⟨[], by simp⟩
  | d + 1, k, h1, h2 => by
    obtain ⟨q, hq⟩ := pre_of mid d k h1 (by omega)
    obtain ⟨q2, hq2⟩ := mid (k + d) (by omega) (by omega)
    exact ⟨q ++ q2, by rw [← Nat.add_assoc, hq2, hq, List.append_assoc]⟩

theorem Inv.pre (I : Inv G ops l N e val hp sk μ0 w0 p m listed a w μ) {k k' : Nat} (h1 : p ≤ k) (h2 : k ≤ k') (h3 : k' ≤ m) : ∃ q, hp k' = hp k ++ q := by
  obtain ⟨q, hq⟩ := pre_of I.mid (k' - k) k h1 (by omega)
  exact ⟨q, by rw [← hq]; congr 1; omega⟩

/-- What the frame holds before an operation, in the order of the text. -/
theorem en_look (h0 : en 0 = e) (hen : ∀ (i : Nat) g, l[i]? = some g → en (i + 1) = putE (en i) g.dst (val i)) : ∀ (i : Nat), i ≤ l.length → ∀ t,
    (∃ j g, j < i ∧ l[j]? = some g ∧ g.dst = some t ∧ look (en i) t = val j) ∨ ((∀ j g, j < i → l[j]? = some g → g.dst ≠ some t) ∧ look (en i) t = look e t)
  | 0, _, t => .inr ⟨fun j g h => by omega, by rw [h0]⟩
  | i + 1, hi, t => by
    obtain ⟨g, hg⟩ : ∃ g, l[i]? = some g := ⟨_, List.getElem?_eq_getElem (by omega)⟩
    rw [hen i g hg]
    by_cases hd : g.dst = some t
    · exact .inl ⟨i, g, by omega, hg, hd, by simp [putE, hd, look]⟩
    · have hl : look (putE (en i) g.dst (val i)) t = look (en i) t := by
        cases q : g.dst with
        | none => rfl
        | some d =>
          simp only [putE, look]
          rw [if_neg (by intro e2; exact hd (by rw [q, e2]))]
      rw [hl]
      rcases en_look h0 hen i (by omega) t with ⟨j, g', h1, h2, h3, h4⟩ | ⟨h1, h2⟩
      · exact .inl ⟨j, g', by omega, h2, h3, h4⟩
      · refine .inr ⟨fun j g' hj hg' => ?_, h2⟩
        by_cases e2 : j = i
        · subst e2; rw [hg] at hg'; cases hg'; exact hd
        · exact h1 j g' (by omega) hg'

structure Chk (ops : Array Oper) (l : List GI) : Prop where
  back : ∀ (i : Nat) o, ops[i]? = some o → ∀ ed ∈ o.after, Region.binds .any ed = true → ed.on < i
  dst : ∀ (i j : Nat) gi gj t, i ≠ j → l[i]? = some gi → l[j]? = some gj → gi.dst = some t → gj.dst ≠ some t
  slot : ∀ (i j : Nat) gi gj t, i ≠ j → l[i]? = some gi → l[j]? = some gj → gj.dst = some t → t ∈ slotsG gi → ordB (Region.before ops) i j = true
  muts : ∀ (i j : Nat) gi gj, i ≠ j → l[i]? = some gi → l[j]? = some gj → kindI gi.i = 2 → kindI gj.i ≠ 0 → ordB (Region.before ops) i j = true

theorem chk_of (hl : l.length = ops.size) (h : dOK ops l = true) : Chk ops l := by
  simp only [dOK, Bool.and_eq_true, List.all_eq_true, List.mem_range, Bool.or_eq_true, beq_iff_eq] at h
  obtain ⟨hb, hp⟩ := h
  have pair : ∀ (i j : Nat) gi gj, i ≠ j → l[i]? = some gi → l[j]? = some gj → pairOK (Region.before ops) gi gj i j = true := fun i j gi gj hne h1 h2 => by
    have := hp i (List.getElem?_eq_some_iff.1 h1).1 j (List.getElem?_eq_some_iff.1 h2).1
    rcases this with h | h
    · exact absurd h hne
    · simpa [h1, h2] using h
  refine ⟨fun i o ho ed hed hbd => ?_, fun i j gi gj t hne h1 h2 h3 h4 => ?_, fun i j gi gj t hne h1 h2 h3 h4 => ?_, fun i j gi gj hne h1 h2 h3 h4 => ?_⟩
  · simp only [backOK, List.all_eq_true, List.mem_range] at hb
    have := hb i (Array.getElem?_eq_some_iff.1 ho).1
    rw [ho] at this
    simp only [List.all_eq_true] at this
    have := this ed (by simpa using hed)
    simpa [hbd] using this
  · have := pair i j gi gj hne h1 h2
    simp [pairOK, h3, h4] at this
  · have := pair i j gi gj hne h1 h2
    simp only [pairOK, Bool.and_eq_true, h3] at this
    have := this.1.2
    simp only [Bool.or_eq_true, Bool.not_eq_true', List.contains_eq_mem, decide_eq_false_iff_not] at this
    rcases this with h | h
    · exact absurd h4 h
    · exact h
  · have := pair i j gi gj hne h1 h2
    simp only [pairOK, Bool.and_eq_true, h3] at this
    have := this.2
    simp only [Bool.or_eq_true, bne_iff_ne, ne_eq, beq_iff_eq] at this
    rcases this with (h | h) | h
    · exact (h trivial).elim
    · exact absurd h h4
    · exact h

theorem ord_before (hc : Closed ops listed) {i j : Nat} (h : ordB (Region.before ops) i j = true) (hj : j < i) (hi : listed.getD i false = true) : listed.getD j false = true := by
  unfold ordB at h
  rw [if_pos hj] at h
  exact before_sound hc h hi
theorem ord_behind (hc : Closed ops listed) {i j : Nat} (h : ordB (Region.before ops) i j = true) (hj : i ≤ j) (hi : listed.getD j false = true) : listed.getD i false = true := by
  unfold ordB at h
  rw [if_neg (by omega)] at h
  exact before_sound hc h hi

theorem pred_of_ready (hc : Closed ops listed) {i j : Nat} (hr : i ∈ Region.ready .any ops listed) (h : ordB (Region.before ops) i j = true) (hj : j < i) : listed.getD j false = true := by
  have hlt : i < listed.size ∨ listed.size ≤ i := Nat.lt_or_ge i listed.size
  have h0 := (mem_ready.1 hr).1
  have hsz : i < listed.size := by
    rcases hlt with q | q
    · exact q
    · simp [Array.getElem?_eq_none q] at h0
  have := ord_before (hc.set hr) h hj (by simp [hsz])
  rwa [getD_set_ne false (by omega)] at this

theorem ready_unlisted {i : Nat} (hr : i ∈ Region.ready .any ops listed) : listed.getD i false = false ∧ i < listed.size := by
  have h0 := (mem_ready.1 hr).1
  rcases Nat.lt_or_ge i listed.size with q | q
  · refine ⟨?_, q⟩
    simpa [q] using h0
  · simp [Array.getElem?_eq_none q] at h0

theorem lev_le {p m i j : Nat} (h : i ≤ j) : lev p m i ≤ lev p m j := by unfold lev; omega
theorem lev_lo {p m i : Nat} : p ≤ lev p m i := by unfold lev; omega
theorem lev_hi {p m i : Nat} (h : p ≤ m) : lev p m i ≤ m := by unfold lev; omega

theorem Inv.sr (I : Inv G ops l N e val hp sk μ0 w0 p m listed a w μ) (C : Chk ops l) (h0 : en 0 = e) (hen : ∀ (i : Nat) g, l[i]? = some g → en (i + 1) = putE (en i) g.dst (val i))
    {i : Nat} {g : GI} (hr : i ∈ Region.ready .any ops listed) (hg : l[i]? = some g) {t : Nat} (ht : t ∈ slotsG g) :
    VR (rst μ (hp (lev p m i)).length) (hp (lev p m i)) (look (en i) t) (a.tmps.getD t undef) := by
  have hil := (List.getElem?_eq_some_iff.1 hg).1
  rcases en_look h0 hen i (by omega) t with ⟨j, gj, h1, h2, h3, h4⟩ | ⟨h1, h2⟩
  · rw [h4]
    have hj : listed.getD j false = true := pred_of_ready I.closed hr (C.slot i j g gj t (by omega) hg h2 h3 ht) h1
    exact (I.vals j gj t h2 h3 hj).lift (I.pre lev_lo (lev_le (by omega)) (lev_hi I.pm))
  · rw [h2]
    refine (I.slots t fun j gj hj hd => ?_).lift (I.pre (Nat.le_refl _) lev_lo (lev_hi I.pm))
    by_cases e1 : j = i
    · subst e1; exact (ready_unlisted hr).1
    · have hji : i < j := by
        rcases Nat.lt_or_ge j i with q | q
        · exact absurd hd (h1 j gj q hj)
        · omega
      cases q : listed.getD j false with
      | false => rfl
      | true =>
        have := ord_behind I.closed (C.slot i j g gj t (by omega) hg hj hd ht) (by omega) q
        rw [(ready_unlisted hr).1] at this; cases this

/-- The frame cut down to an operation's operands stands for the world's. -/
theorem Inv.cut (I : Inv G ops l N e val hp sk μ0 w0 p m listed a w μ) (C : Chk ops l) (h0 : en 0 = e) (hen : ∀ (i : Nat) g, l[i]? = some g → en (i + 1) = putE (en i) g.dst (val i))
    {i : Nat} {g : GI} (hr : i ∈ Region.ready .any ops listed) (hg : l[i]? = some g) : SR (rst μ (hp (lev p m i)).length) (hp (lev p m i)) (cutR g.i (look (en i))) a := by
  intro t
  unfold cutR
  split
  · rename_i ht
    exact I.sr C h0 hen hr hg (by unfold slotsG; exact List.mem_append_left _ ht)
  · exact .any _

theorem wanted_of {o : Oper} {g : GI} {e' : Env} (hgd : gdOf ops o.guard = some g.g) (hs : ∀ s b, g.g = some (s, b) → ∃ μ h, VR μ h (look e' s) (a.tmps.getD s undef)) :
    (Wan g e' → Region.wanted o (yielded ops a.tmps) = true) ∧ (Unw g e' → Region.wanted o (yielded ops a.tmps) = false) := by
  cases hgu : o.guard with
  | none =>
    rw [hgu] at hgd
    simp only [gdOf, Option.some.injEq] at hgd
    refine ⟨fun _ => by simp [Region.wanted, hgu], ?_⟩
    rintro ⟨s, want, h1, _⟩
    rw [h1] at hgd; cases hgd
  | some jw =>
    obtain ⟨j, want⟩ := jw
    rw [hgu] at hgd
    simp only [gdOf, Option.map_eq_some_iff] at hgd
    obtain ⟨sl, hsl, hgs⟩ := hgd
    obtain ⟨μ, h, hv⟩ := hs sl want hgs.symm
    constructor
    · rintro (h1 | ⟨s, b, h1, h2⟩)
      · rw [← hgs] at h1; cases h1
      · rw [← hgs] at h1; cases h1
        rw [h2] at hv
        have := getD_bool hv.bool_inv
        simp [Region.wanted, hgu, yielded, hsl, this]
    · rintro ⟨s, b, h1, h2⟩
      rw [← hgs] at h1; cases h1
      rcases h2 with h2 | ⟨c1, c2, c3, h2⟩
      · rw [h2] at hv
        have := getD_bool hv.bool_inv
        simp only [Region.wanted, hgu, yielded, hsl, Option.bind_some, this]
        cases want <;> rfl
      · rw [h2] at hv
        have hu : a.tmps.getD sl undef = .tuple #[] := by
          generalize a.tmps.getD sl undef = z at hv
          cases hv; rfl
        rcases getD_undef hu with h3 | h3 <;> (simp only [Region.wanted, hgu, yielded, hsl, Option.bind_some, h3]; rfl)

theorem getD_put_ne {dst : Option Nat} {t : Nat} {v : Value} (h : dst ≠ some t) : (a.put dst v).tmps.getD t undef = a.tmps.getD t undef := by
  cases dst with
  | none => rfl
  | some d =>
    have : d ≠ t := fun e => h (by rw [e])
    simp [Act.put, Array.getElem?_setIfInBounds_ne this]

theorem getD_put_eq {d : Nat} {v : Value} (h : d < a.tmps.size) : (a.put (some d) v).tmps.getD d undef = v := by
  simp [Act.put, h]

theorem put_size {dst : Option Nat} {v : Value} : (a.put dst v).tmps.size = a.tmps.size ∧ (a.put dst v).defers = a.defers := by
  cases dst <;> simp [Act.put]

theorem listed_set {i j : Nat} (hi : i < listed.size) : (listed.setIfInBounds i true).getD j false = if i = j then true else listed.getD j false := by
  by_cases e : i = j
  · subst e; simp [hi]
  · rw [if_neg e, getD_set_ne false e]

/-- The slots behind an operation that leaves the world's places where they were. -/
theorem Inv.slots_after (I : Inv G ops l N e val hp sk μ0 w0 p m listed a w μ) (C : Chk ops l) {i : Nat} {g : GI} (hr : i ∈ Region.ready .any ops listed) (hg : l[i]? = some g) (hdn : ∀ d, g.dst = some d → d < N) {v' : Value} {μ' : Ren}
    (hμ : ∀ k, p ≤ k → k ≤ m → ∀ {u u'}, VR (rst μ (hp k).length) (hp k) u u' → VR (rst μ' (hp k).length) (hp k) u u') (hv : VR (rst μ' (hp (lev p m (i + 1))).length) (hp (lev p m (i + 1))) (val i) v') :
    (∀ t, (∀ (j : Nat) gj, l[j]? = some gj → gj.dst = some t → (listed.setIfInBounds i true).getD j false = false) → VR (rst μ' (hp p).length) (hp p) (look e t) ((a.put g.dst v').tmps.getD t undef)) ∧
    (∀ (j : Nat) gj t, l[j]? = some gj → gj.dst = some t → (listed.setIfInBounds i true).getD j false = true → VR (rst μ' (hp (lev p m (j + 1))).length) (hp (lev p m (j + 1))) (val j) ((a.put g.dst v').tmps.getD t undef)) := by
  have hi := (ready_unlisted hr).2
  constructor
  · intro t ht
    have hne : g.dst ≠ some t := fun hd => by
      have := ht i g hg hd
      rw [listed_set hi, if_pos rfl] at this; cases this
    rw [getD_put_ne hne]
    refine hμ p (Nat.le_refl _) I.pm (I.slots t fun j gj hj hd => ?_)
    have := ht j gj hj hd
    rw [listed_set hi] at this
    split at this
    · cases this
    · exact this
  · intro j gj t hj hd hlj
    by_cases e1 : i = j
    · subst e1
      rw [hg] at hj; cases hj
      rw [hd, getD_put_eq (by rw [I.tsz]; exact hdn t hd)]
      exact hv
    · rw [listed_set hi, if_neg e1] at hlj
      rw [getD_put_ne (C.dst j i gj g t (fun q => e1 q.symm) hj hg hd)]
      exact hμ _ lev_lo (lev_hi I.pm) (I.vals j gj t hj hd hlj)

/-- An operation that leaves the world alone. -/
theorem Inv.pure (I : Inv G ops l N e val hp sk μ0 w0 p m listed a w μ) (C : Chk ops l) {i : Nat} {g : GI} (hr : i ∈ Region.ready .any ops listed) (hg : l[i]? = some g) (hdn : ∀ d, g.dst = some d → d < N)
    (hk : kindI g.i = 0 ∨ sk i = true) {v' : Value} (hv : VR (rst μ (hp (lev p m i)).length) (hp (lev p m i)) (val i) v') (hnm : i = m → kindI g.i ≠ 2 ∨ sk i = true) :
    Inv G ops l N e val hp sk μ0 w0 p m (listed.setIfInBounds i true) (a.put g.dst v') w μ := by
  have hi := ready_unlisted hr
  obtain ⟨s1, s2⟩ := I.slots_after (μ' := μ) C hr hg hdn (fun _ _ _ _ _ k => k) (hv.lift (I.pre lev_lo (lev_le (by omega)) (lev_hi I.pm)))
  refine ⟨I.pm, I.mn, I.closed.set hr, by simp [I.lsz], fun j gj hj h1 h2 => getD_set_true (I.lowl j gj hj h1 h2), I.mid, fun hm => ?_, I.mute, by rw [put_size.1]; exact I.tsz, by rw [put_size.2]; exact I.dfs, I.sims, fun b x hb => ?_, s1, s2, I.glb, I.base⟩
  · obtain ⟨gm, h1, h2, h3, h4⟩ := I.next hm
    refine ⟨gm, h1, h2, h3, ?_⟩
    rw [listed_set hi.2, if_neg ?_]
    · exact h4
    · intro e1
      subst e1
      rw [hg] at h1; cases h1
      rcases hnm rfl with q | q
      · exact q h2
      · rw [h3] at q; cases q
  · rcases I.dom b x hb with q | ⟨j, q1, q2, q3, q4⟩
    · exact .inl q
    · exact .inr ⟨j, q1, q2, getD_set_true q3, q4⟩

end
end Go.Proofs.YtpnpccnbpgckhabGreat.B
