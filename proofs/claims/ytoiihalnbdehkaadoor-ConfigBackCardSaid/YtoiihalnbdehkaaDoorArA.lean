/-
  A region whose order is open, where each operation has one value however they come, and one alone writes.
-/
import Derived.Test.YtoiihalnbdehkaaDoorArM
namespace Go.Proofs.YtoiihalnbdehkaaDoor.B
open Go
set_option linter.unusedVariables false
set_option linter.unusedSimpArgs false
variable {P : Program} {G : Nat}
theorem allL_of {α : Type} {p : α → Prop} : ∀ {l : List α}, (∀ a ∈ l, p a) → allL l p
  | [], _ => trivial
  | b :: l, k => ⟨k b (by simp), allL_of fun a h => k a (by simp [h])⟩
/-- What is known where those that dn says are done. -/
structure Agree (l : List GI) (vs : List Value) (e0 : Env) (dn : List Bool) (e : Env) : Prop where
  did : ∀ (i : Nat) (x : GI) (d : Nat), l[i]? = some x → x.dst = some d → dn.getD i false = true → look e d = vs.getD i undef
  old : ∀ k : Nat, (∀ (i : Nat) (x : GI), l[i]? = some x → x.dst ≠ some k) → look e k = look e0 k
def calmOK (P : Program) (G : Nat) (l : List GI) (preds : List (List Nat)) (vs : List Value) (e0 : Env) (h0 h1 : AHeap) (s : Nat) (i : Nat) : Prop :=
  match l[i]? with
  | some ⟨d, ins, none⟩ => ∀ e hh, (∀ j ∈ preds.getD i [], ∀ (x : GI) (d : Nat), l[j]? = some x → x.dst = some d → look e d = vs.getD j undef) → (∀ k : Nat, (∀ (i : Nat) (x : GI), l[i]? = some x → x.dst ≠ some k) → look e k = look e0 k) →
      (if i = s then hh = h0 else hh = h0 ∨ hh = h1) → wpI P G ins (look e) hh fun v h' => v = vs.getD i undef ∧ h' = if i = s then h1 else hh
  | _ => False
theorem cnt_set {dn : List Bool} {i : Nat} (hi : dn[i]? = some false) : (dn.set i true).count false + 1 = dn.count false := by
  induction dn generalizing i with
  | nil => simp at hi
  | cons b dn ih =>
    cases i with
    | zero =>
      simp at hi
      subst hi
      simp
    | succ i =>
      have := ih (i := i) (by simpa using hi)
      simp only [List.set_cons_succ, List.count_cons]
      omega
theorem wpA_calm {l : List GI} {preds : List (List Nat)} {K : Env → AHeap → Prop} (e0 : Env) (h0 h1 : AHeap) (s : Nat) (vs : List Value)
    (hp : ∀ i, i < l.length → ∀ j ∈ preds.getD i [], j < i) (hd : ∀ (i j : Nat) (x y : GI) (d : Nat), l[i]? = some x → l[j]? = some y → x.dst = some d → y.dst = some d → i = j)
    (hs : s < l.length) (hok : ∀ i, i < l.length → calmOK P G l preds vs e0 h0 h1 s i) (hK : ∀ e, (∀ (i : Nat) (x : GI) (d : Nat), l[i]? = some x → x.dst = some d → look e d = vs.getD i undef) → (∀ k : Nat, (∀ (i : Nat) (x : GI), l[i]? = some x → x.dst ≠ some k) → look e k = look e0 k) → K e h1) :
    wpA P G l preds l.length (List.replicate l.length false) e0 h0 K := by
  have main : ∀ (n : Nat) (dn : List Bool) (e : Env) (hh : AHeap), dn.length = l.length → dn.count false = n → Agree l vs e0 dn e → hh = (if dn.getD s false = true then h1 else h0) → wpA P G l preds n dn e hh K := by
    intro n
    induction n with
    | zero =>
      intro dn e hh hl hc ag hv
      have all : ∀ i : Nat, i < dn.length → dn[i]? = some true := fun i hi => by
        rw [List.getElem?_eq_getElem hi]
        cases q : dn[i] with
        | true => rfl
        | false =>
          have : 0 < dn.count false := List.count_pos_iff.2 (by rw [← q]; exact List.getElem_mem hi)
          omega
      refine ⟨?_, ?_⟩
      · unfold readyL
        rw [List.filter_eq_nil_iff]
        intro i hi
        rw [List.mem_range] at hi
        simp [List.getD, all i hi]
      · have hs' : dn.getD s false = true := by simp [List.getD, all s (by omega)]
        rw [if_pos hs'] at hv
        subst hv
        exact hK e (fun i x d h1 h2 => ag.did i x d h1 h2 (by
          have := (List.getElem?_eq_some_iff.1 h1).1
          simp [List.getD, all i (by omega)])) ag.old
    | succ n ih =>
      intro dn e hh hl hc ag hv
      refine ⟨?_, allL_of fun i hi => ?_⟩
      · have ex : ∃ i : Nat, dn[i]? = some false := by
          have : 0 < dn.count false := by omega
          obtain ⟨i, hi, h⟩ := List.getElem_of_mem (List.count_pos_iff.1 this)
          exact ⟨i, by rw [List.getElem?_eq_getElem hi, h]⟩
        obtain ⟨i, hi, hmin⟩ : ∃ i : Nat, dn[i]? = some false ∧ ∀ j : Nat, j < i → dn[j]? ≠ some false := by
          obtain ⟨i, hi⟩ := ex
          induction i using Nat.strongRecOn with
          | ind i ihh =>
            by_cases q : ∃ j : Nat, j < i ∧ dn[j]? = some false
            · obtain ⟨j, hj, hjf⟩ := q
              exact ihh j hj hjf
            · exact ⟨i, hi, fun j hj hjf => q ⟨j, hj, hjf⟩⟩
        have hil := (List.getElem?_eq_some_iff.1 hi).1
        intro hn
        have hm : i ∈ readyL preds dn := by
          unfold readyL
          rw [List.mem_filter, List.mem_range]
          refine ⟨hil, ?_⟩
          rw [Bool.and_eq_true, List.all_eq_true]
          refine ⟨by simp [List.getD, hi], fun j hj => ?_⟩
          have hji := hp i (by omega) j hj
          have := hmin j hji
          rw [List.getElem?_eq_getElem (by omega)] at this
          simp only [List.getD]
          rw [List.getElem?_eq_getElem (by omega)]
          cases q : dn[j] with
          | true => rfl
          | false => rw [q] at this; exact absurd rfl this
        rw [hn] at hm
        cases hm
      · unfold readyL at hi
        rw [List.mem_filter, List.mem_range, Bool.and_eq_true, List.all_eq_true] at hi
        obtain ⟨hil, hif, hpr⟩ := hi
        have hi0 : dn[i]? = some false := by
          rw [List.getElem?_eq_getElem hil]
          simp only [List.getD, List.getElem?_eq_getElem hil, Option.getD_some] at hif
          cases q : dn[i] with
          | false => rfl
          | true => rw [q] at hif; cases hif
        have ok := hok i (by omega)
        unfold calmOK at ok
        split at ok
        · rename_i d ins hli
          simp only [hli]
          have hsi : i ≠ s → (dn.set i true).getD s false = dn.getD s false := fun ne => by simp only [List.getD]; rw [List.getElem?_set_ne ne]
          refine wpI_mono (fun v h' q => ?_) (ok e hh (fun j hj x d h1 h2 => ag.did j x d h1 h2 (hpr j hj)) ag.old ?_)
          · obtain ⟨rfl, hh'⟩ := q
            refine ih _ _ _ (by simpa using hl) (by have := cnt_set hi0; omega) ?_ ?_
            · refine ⟨fun j x d2 h1 h2 h3 => ?_, fun k hk => ?_⟩
              · by_cases e1 : j = i
                · subst e1
                  rw [hli] at h1
                  cases h1
                  simp only at h2
                  subst h2
                  simp [putE, look]
                · have h4 : dn.getD j false = true := by simp only [List.getD] at h3 ⊢; rwa [List.getElem?_set_ne (fun q => e1 q.symm)] at h3
                  have := ag.did j x d2 h1 h2 h4
                  cases d with
                  | none => exact this
                  | some d =>
                    simp only [putE, look]
                    rw [if_neg (fun q => e1 (hd j i x _ d2 h1 hli h2 (by simp [q]))), this]
              · have := ag.old k hk
                cases d with
                | none => exact this
                | some d =>
                  simp only [putE, look]
                  rw [if_neg (fun q => hk i _ hli (by simp [q])), this]
            · rw [hh']
              by_cases e1 : i = s
              · subst e1
                rw [if_pos rfl, if_pos (by simp only [List.getD]; rw [List.getElem?_set_self hil]; rfl)]
              · rw [if_neg e1, hsi e1, hv]
          · by_cases e1 : i = s
            · subst e1
              rw [if_pos rfl, hv, if_neg (by simp only [List.getD, hi0]; simp)]
            · rw [if_neg e1, hv]
              split
              · exact .inr rfl
              · exact .inl rfl
        · cases ok
  refine main l.length _ e0 h0 (by simp) (by simp) ⟨fun i x d h1 h2 h3 => ?_, fun k _ => rfl⟩ ?_
  · have := (List.getElem?_eq_some_iff.1 h1).1
    simp [List.getD, this] at h3
  · rw [if_neg]
    simp [List.getD, hs]
theorem dst_inj : ∀ {l : List GI}, (l.filterMap (·.dst)).Nodup → ∀ (i j : Nat) (x y : GI) (d : Nat), l[i]? = some x → l[j]? = some y → x.dst = some d → y.dst = some d → i = j
  | [], _, i, j, x, y, d, h1, _, _, _ => by simp at h1
  | a :: l, hn, i, j, x, y, d, h1, h2, h3, h4 => by
    have hm : ∀ {k : Nat} {z : GI}, l[k]? = some z → z.dst = some d → d ∈ l.filterMap (·.dst) := fun h h' => List.mem_filterMap.2 ⟨_, List.mem_of_getElem? h, h'⟩
    have ht : (l.filterMap (·.dst)).Nodup := by
      cases q : a.dst with
      | none => rwa [List.filterMap_cons_none q] at hn
      | some c => rw [List.filterMap_cons_some q] at hn; exact (List.nodup_cons.1 hn).2
    have hd : a.dst = some d → d ∉ l.filterMap (·.dst) := fun q => by
      rw [List.filterMap_cons_some q] at hn; exact (List.nodup_cons.1 hn).1
    cases i with
    | zero =>
      cases j with
      | zero => rfl
      | succ j =>
        simp only [List.getElem?_cons_zero, Option.some.injEq, List.getElem?_cons_succ] at h1 h2
        subst h1
        exact absurd (hm h2 h4) (hd h3)
    | succ i =>
      cases j with
      | zero =>
        simp only [List.getElem?_cons_zero, Option.some.injEq, List.getElem?_cons_succ] at h1 h2
        subst h2
        exact absurd (hm h1 h3) (hd h4)
      | succ j =>
        simp only [List.getElem?_cons_succ] at h1 h2
        rw [dst_inj ht i j x y d h1 h2 h3 h4]
theorem dst_not {l : List GI} {k : Nat} (h : k ∉ l.filterMap (·.dst)) : ∀ (i : Nat) (x : GI), l[i]? = some x → x.dst ≠ some k := fun i x h1 h2 => h (List.mem_filterMap.2 ⟨x, List.mem_of_getElem? h1, h2⟩)
end Go.Proofs.YtoiihalnbdehkaaDoor.B
