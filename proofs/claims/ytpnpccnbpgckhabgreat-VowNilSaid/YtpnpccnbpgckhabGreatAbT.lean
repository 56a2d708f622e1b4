/-
  What an evaluation over an abstract heap comes to is one end: so a contract may be found by what is asked of its answer.
-/
import Derived.Test.YtpnpccnbpgckhabGreatAbS
namespace Go.Proofs.YtpnpccnbpgckhabGreat.B
open Go
set_option linter.unusedVariables false
set_option linter.unusedSimpArgs false
variable {G : Nat} {P : Program}

theorem wpI_det {i : I} {ρ : Nat → Value} {h : AHeap} {K : Value → AHeap → Prop} (hk : wpI P G i ρ h K) : ∃ v h', K v h' ∧ ∀ K' : Value → AHeap → Prop, K' v h' → wpI P G i ρ h K' := by
  cases i <;> simp only [wpI] at hk ⊢
  case call => obtain ⟨v, h', h1, h2⟩ := hk; exact ⟨v, h', h2, fun K' q => ⟨v, h', h1, q⟩⟩
  case callw => obtain ⟨v, h', h1, h2⟩ := hk; exact ⟨v, h', h2, fun K' q => ⟨v, h', h1, q⟩⟩
  case xc => obtain ⟨v, h', h1, h2⟩ := hk; exact ⟨v, h', h2, fun K' q => ⟨v, h', h1, q⟩⟩
  case callv =>
    split at hk
    · obtain ⟨h0, v, h', h1, h2⟩ := hk; exact ⟨v, h', h2, fun K' q => ⟨h0, v, h', h1, q⟩⟩
    · exact hk.elim
  case bin op x y =>
    unfold binA at hk ⊢
    split at hk
    all_goals first
      | exact hk.elim
      | exact ⟨_, _, hk.2.2, fun K' q => ⟨hk.1, hk.2.1, q⟩⟩
      | exact ⟨_, _, hk.2, fun K' q => ⟨hk.1, q⟩⟩
      | exact ⟨_, _, hk, fun K' q => q⟩
  case un op x =>
    unfold unA at hk ⊢
    split at hk
    all_goals first
      | exact hk.elim
      | exact ⟨_, _, hk, fun K' q => q⟩
  case sl =>
    split at hk
    · have hk2 := hk.2
      unfold slK at hk2 ⊢
      split at hk2
      · exact ⟨_, _, hk2.2, fun K' q => ⟨hk.1, hk2.1, q⟩⟩
      · exact ⟨_, _, hk2.2, fun K' q => ⟨hk.1, hk2.1, q⟩⟩
      · exact hk2.elim
    · exact hk.elim
  case app =>
    split at hk
    · have hk2 := hk.2.2
      split at hk2
      · rename_i hn; exact ⟨_, _, hk2, fun K' q => ⟨hk.1, hk.2.1, by rw [if_pos hn]; exact q⟩⟩
      · rename_i hn; exact ⟨_, _, hk2, fun K' q => ⟨hk.1, hk.2.1, by rw [if_neg hn]; exact q⟩⟩
    · have hk2 := hk.2.2.2
      split at hk2
      · have hk3 := hk2.2
        split at hk3
        · rename_i hn; exact ⟨_, _, hk3.2, fun K' q => ⟨hk.1, hk.2.1, hk.2.2.1, hk2.1, by rw [if_pos hn]; exact ⟨hk3.1, q⟩⟩⟩
        · rename_i hn; exact ⟨_, _, hk3.2, fun K' q => ⟨hk.1, hk.2.1, hk.2.2.1, hk2.1, by rw [if_neg hn]; exact ⟨hk3.1, q⟩⟩⟩
      · exact ⟨_, _, hk2.2.2, fun K' q => ⟨hk.1, hk.2.1, hk.2.2.1, hk2.1, hk2.2.1, q⟩⟩
      · exact hk2.elim
    · exact hk.elim
  case load =>
    split at hk
    · split at hk
      · rename_i hv; exact ⟨_, _, hk, fun K' q => by first | exact q | (simp only [hv]; exact q)⟩
      · exact hk.elim
    · exact hk.elim
  case store =>
    split at hk
    · have hk2 := hk.2.2
      split at hk2
      · rename_i hv; exact ⟨_, _, hk2, fun K' q => ⟨hk.1, hk.2.1, by first | exact q | (simp only [hv]; exact q)⟩⟩
      · exact hk2.elim
    · exact hk.elim
  case part =>
    split at hk
    · have hk2 := hk.2
      split at hk2
      · rename_i hv; exact ⟨_, _, hk2, fun K' q => ⟨hk.1, by first | exact q | (simp only [hv]; exact q)⟩⟩
      · exact hk2.elim
    · exact hk.elim
  case ext =>
    split at hk
    · split at hk
      · rename_i hv; exact ⟨_, _, hk, fun K' q => by first | exact q | (simp only [hv]; exact q)⟩
      · exact hk.elim
    · exact hk.elim
  case ixv =>
    split at hk
    · have hk2 := hk.2.2
      split at hk2
      · rename_i hv; exact ⟨_, _, hk2, fun K' q => ⟨hk.1, hk.2.1, by first | exact q | (simp only [hv]; exact q)⟩⟩
      · exact hk2.elim
    · exact hk.elim
  case ixstr =>
    split at hk
    · have hk2 := hk.2
      split at hk2
      · rename_i hv; exact ⟨_, _, hk2, fun K' q => ⟨hk.1, by first | exact q | (simp only [hv]; exact q)⟩⟩
      · exact hk2.elim
    · exact hk.elim
  all_goals first
    | exact ⟨_, _, hk, fun K' q => q⟩
    | (split at hk <;> first | exact hk.elim | exact ⟨_, _, hk, fun K' q => q⟩ | exact ⟨_, _, hk.2, fun K' q => ⟨hk.1, q⟩⟩ | exact ⟨_, _, hk.2.2, fun K' q => ⟨hk.1, hk.2.1, q⟩⟩ |
        (split at hk <;> first | exact hk.elim | exact ⟨_, _, hk, fun K' q => q⟩ | (split at hk <;> first | exact hk.elim | exact ⟨_, _, hk, fun K' q => q⟩)))

theorem wpL2_det : ∀ (l : List GI) {e : Env} {h : AHeap} {K : Env → AHeap → Prop} (hk : wpL2 P G l e h K), ∃ e' h', K e' h' ∧ ∀ K' : Env → AHeap → Prop, K' e' h' → wpL2 P G l e h K'
  | [], e, h, K, hk => ⟨e, h, hk, fun K' q => q⟩
  | g :: l, e, h, K, hk => by
    simp only [wpL2] at hk ⊢
    split at hk
    · obtain ⟨v, h1, k1, k2⟩ := wpI_det hk
      obtain ⟨e2, h2, q1, q2⟩ := wpL2_det l k1
      exact ⟨e2, h2, q1, fun K' q => k2 _ (q2 _ q)⟩
    · split at hk
      · rename_i s want hg x b hb
        by_cases hbw : b = want
        · obtain ⟨v, h1, k1, k2⟩ := wpI_det (hk.1 hbw)
          obtain ⟨e2, h2, q1, q2⟩ := wpL2_det l k1
          exact ⟨e2, h2, q1, fun K' q => by first | exact ⟨fun _ => k2 _ (q2 _ q), fun e1 => absurd (hbw.symm.trans e1) (by cases want <;> simp)⟩ | (simp only [hb]; exact ⟨fun _ => k2 _ (q2 _ q), fun e1 => absurd (hbw.symm.trans e1) (by cases want <;> simp)⟩)⟩
        · obtain ⟨e2, h2, q1, q2⟩ := wpL2_det l (hk.2 (by cases b <;> cases want <;> simp_all))
          exact ⟨e2, h2, q1, fun K' q => by first | exact ⟨fun e1 => absurd e1 hbw, fun _ => q2 _ q⟩ | (simp only [hb]; exact ⟨fun e1 => absurd e1 hbw, fun _ => q2 _ q⟩)⟩
      · rename_i hb
        obtain ⟨e2, h2, q1, q2⟩ := wpL2_det l hk
        exact ⟨e2, h2, q1, fun K' q => by first | exact q2 _ q | (simp only [hb]; exact q2 _ q)⟩
      · exact hk.elim

theorem wpD2_det : ∀ (l : List GI) {e : Env} {h : AHeap} {K : Env → AHeap → Prop} (hk : wpD2 P G l e h K), ∃ e' h', K e' h' ∧ ∀ K' : Env → AHeap → Prop, K' e' h' → wpD2 P G l e h K'
  | [], e, h, K, hk => ⟨e, h, hk, fun K' q => q⟩
  | g :: l, e, h, K, hk => by
    simp only [wpD2] at hk ⊢
    split at hk
    · obtain ⟨v, h1, k1, k2⟩ := wpI_det hk
      obtain ⟨e2, h2, q1, q2⟩ := wpD2_det l k1.2
      exact ⟨e2, h2, q1, fun K' q => k2 _ ⟨k1.1, q2 _ q⟩⟩
    · split at hk
      · rename_i s want hg x b hb
        by_cases hbw : b = want
        · obtain ⟨v, h1, k1, k2⟩ := wpI_det (hk.1 hbw)
          obtain ⟨e2, h2, q1, q2⟩ := wpD2_det l k1.2
          exact ⟨e2, h2, q1, fun K' q => by first | exact ⟨fun _ => k2 _ ⟨k1.1, q2 _ q⟩, fun e1 => absurd (hbw.symm.trans e1) (by cases want <;> simp)⟩ | (simp only [hb]; exact ⟨fun _ => k2 _ ⟨k1.1, q2 _ q⟩, fun e1 => absurd (hbw.symm.trans e1) (by cases want <;> simp)⟩)⟩
        · obtain ⟨e2, h2, q1, q2⟩ := wpD2_det l (hk.2 (by cases b <;> cases want <;> simp_all))
          exact ⟨e2, h2, q1, fun K' q => by first | exact ⟨fun e1 => absurd e1 hbw, fun _ => q2 _ q⟩ | (simp only [hb]; exact ⟨fun e1 => absurd e1 hbw, fun _ => q2 _ q⟩)⟩
      · rename_i hb
        obtain ⟨e2, h2, q1, q2⟩ := wpD2_det l hk
        exact ⟨e2, h2, q1, fun K' q => by first | exact q2 _ q | (simp only [hb]; exact q2 _ q)⟩
      · exact hk.elim

/-- The end that an evaluation comes to. -/
def At (x : Exit) (e : Env) (h : AHeap) : Post := fun x' e' h' => x' = x ∧ e' = e ∧ h' = h

theorem wpC_at {c : C} {e : Env} {h : AHeap} {x : Exit} {e' : Env} {h' : AHeap} {Q : Post} (hk : wpC P G c e h (At x e' h')) (hq : Q x e' h') : wpC P G c e h Q :=
  wpC_mono c (fun x2 e2 h2 q => by obtain ⟨rfl, rfl, rfl⟩ := q; exact hq) hk

theorem wpC_det : ∀ (c : C) {e : Env} {h : AHeap} {Q : Post} (hk : wpC P G c e h Q), ∃ x e' h', Q x e' h' ∧ wpC P G c e h (At x e' h')
  | .skip, e, h, Q, hk => ⟨_, _, _, hk, ⟨rfl, rfl, rfl⟩⟩
  | .exit id, e, h, Q, hk => ⟨_, _, _, hk, ⟨rfl, rfl, rfl⟩⟩
  | .ret, e, h, Q, hk => ⟨_, _, _, hk, ⟨rfl, rfl, rfl⟩⟩
  | .bad, e, h, Q, hk => False.elim hk
  | .any keep ops preds, e, h, Q, ⟨e1, h1, hA, hQ⟩ => ⟨.normal, e1, h1, hQ, e1, h1, hA, rfl, rfl, rfl⟩
  | .region keep ops, e, h, Q, hk => by
    obtain ⟨e1, h1, k1, k2⟩ := wpL2_det ops hk
    exact ⟨_, _, _, k1, k2 _ ⟨rfl, rfl, rfl⟩⟩
  | .draw keep ops, e, h, Q, hk => by
    obtain ⟨e1, h1, k1, k2⟩ := wpD2_det ops hk
    exact ⟨_, _, _, k1, k2 _ ⟨rfl, rfl, rfl⟩⟩
  | .seq a b, e, h, Q, hk => by
    simp only [wpC] at hk
    obtain ⟨x, e1, h1, k1, k2⟩ := wpC_det a hk
    have key : ∀ {x2 e2 h2}, (thenC (fun e' h' => wpC P G b e' h' (At x2 e2 h2)) (At x2 e2 h2)) x e1 h1 → wpC P G (.seq a b) e h (At x2 e2 h2) := fun q => by
      simp only [wpC]; exact wpC_at k2 q
    cases x with
    | normal =>
      obtain ⟨x2, e2, h2, q1, q2⟩ := wpC_det b (show wpC P G b e1 h1 Q from k1)
      exact ⟨x2, e2, h2, q1, key q2⟩
    | exit id => exact ⟨_, _, _, k1, key ⟨rfl, rfl, rfl⟩⟩
    | goto l => exact ⟨_, _, _, k1, key ⟨rfl, rfl, rfl⟩⟩
    | ret => exact ⟨_, _, _, k1, key ⟨rfl, rfl, rfl⟩⟩
    | panic ch => exact ⟨_, _, _, k1, key ⟨rfl, rfl, rfl⟩⟩
    | outgrown => exact ⟨_, _, _, k1, key ⟨rfl, rfl, rfl⟩⟩
  | .cond c a b, e, h, Q, hk => by
    simp only [wpC] at hk ⊢
    split at hk
    · rename_i t ht
      cases t with
      | true =>
        obtain ⟨x, e1, h1, k1, k2⟩ := wpC_det a (hk.1 rfl)
        exact ⟨x, e1, h1, k1, ⟨fun _ => k2, fun q => by cases q⟩⟩
      | false =>
        obtain ⟨x, e1, h1, k1, k2⟩ := wpC_det b (hk.2 rfl)
        exact ⟨x, e1, h1, k1, ⟨fun q => (by cases q), fun _ => k2⟩⟩
    · exact hk.elim
  | .block id a, e, h, Q, hk => by
    simp only [wpC] at hk
    obtain ⟨x, e1, h1, k1, k2⟩ := wpC_det a hk
    have key : ∀ {x2 e2 h2}, (blockC id (At x2 e2 h2)) x e1 h1 → wpC P G (.block id a) e h (At x2 e2 h2) := fun q => by
      simp only [wpC]; exact wpC_at k2 q
    cases x with
    | exit i =>
      simp only [blockC] at k1
      split at k1
      · rename_i hi; exact ⟨_, _, _, k1, key (by simp only [blockC, if_pos hi]; exact ⟨rfl, rfl, rfl⟩)⟩
      · rename_i hi; exact ⟨_, _, _, k1, key (by simp only [blockC, if_neg hi]; exact ⟨rfl, rfl, rfl⟩)⟩
    | normal => exact ⟨_, _, _, k1, key ⟨rfl, rfl, rfl⟩⟩
    | goto l => exact ⟨_, _, _, k1, key ⟨rfl, rfl, rfl⟩⟩
    | ret => exact ⟨_, _, _, k1, key ⟨rfl, rfl, rfl⟩⟩
    | panic ch => exact ⟨_, _, _, k1, key ⟨rfl, rfl, rfl⟩⟩
    | outgrown => exact ⟨_, _, _, k1, key ⟨rfl, rfl, rfl⟩⟩
  | .loop a, e, h, Q, hk => by
    refine hk (fun e h => ∃ x e' h', Q x e' h' ∧ wpC P G (.loop a) e h (At x e' h')) fun e h hr => ?_
    obtain ⟨x, e1, h1, k1, k2⟩ := wpC_det a hr
    cases x with
    | normal =>
      obtain ⟨x2, e2, h2, q1, q2⟩ := k1
      exact ⟨x2, e2, h2, q1, fun X hX => hX e h (wpC_at k2 (q2 X hX))⟩
    | exit id => exact ⟨_, _, _, k1, fun X hX => hX e h (wpC_at k2 ⟨rfl, rfl, rfl⟩)⟩
    | goto l => exact ⟨_, _, _, k1, fun X hX => hX e h (wpC_at k2 ⟨rfl, rfl, rfl⟩)⟩
    | ret => exact ⟨_, _, _, k1, fun X hX => hX e h (wpC_at k2 ⟨rfl, rfl, rfl⟩)⟩
    | panic ch => exact ⟨_, _, _, k1, fun X hX => hX e h (wpC_at k2 ⟨rfl, rfl, rfl⟩)⟩
    | outgrown => exact ⟨_, _, _, k1, fun X hX => hX e h (wpC_at k2 ⟨rfl, rfl, rfl⟩)⟩

theorem wpC_cut {a b : C} {e : Env} {h : AHeap} {Q : Post} (M : Env → AHeap → Prop) (h1 : wpC P G a e h (thenC M Q)) (h2 : ∀ e h, M e h → wpC P G b e h Q) : wpC P G (.seq a b) e h Q := by
  simp only [wpC]
  exact wpC_mono a (thenC_mono h2 (fun _ _ _ k => k)) h1
theorem wpC_assoc {a b c : C} {e : Env} {h : AHeap} {Q : Post} : wpC P G (.seq a (.seq b c)) e h Q = wpC P G (.seq (.seq a b) c) e h Q := by
  simp only [wpC]
  congr 1
  funext x e h
  cases x <;> rfl

/-- A call comes to an answer of which this is true. -/
def SpecX (P : Program) (G : Nat) (f : FuncId) (args : List Value) (h : AHeap) (Φ : Value → AHeap → Prop) : Prop := ∃ v h', Spec P G f args h v h' ∧ Φ v h'

/-- How a function ends, by what is asked of its answer. -/
def retX (rs : List RV) (Φ : Value → AHeap → Prop) : Post := fun x e h'' => (x = .normal ∨ x = .ret) ∧ optV (resA rs e h'') (fun vs => Φ (outV vs) h'') ()
theorem retX_ret (rs : List RV) (Φ : Value → AHeap → Prop) (e : Env) (h'' : AHeap) : retX rs Φ .ret e h'' = optV (resA rs e h'') (fun vs => Φ (outV vs) h'') () := by
  unfold retX; simp
theorem retX_normal (rs : List RV) (Φ : Value → AHeap → Prop) (e : Env) (h'' : AHeap) : retX rs Φ .normal e h'' = optV (resA rs e h'') (fun vs => Φ (outV vs) h'') () := by
  unfold retX; simp
attribute [go_sem ↓] retX_ret retX_normal

theorem SpecX.of_body {f : FuncId} {args : List Value} {h : AHeap} {c : C} {e : Env} {rs : List RV} {Φ : Value → AHeap → Prop} (hs : ∀ {v : Value} {h' : AHeap}, wpC P G c e h (retQ rs h v h') → Spec P G f args h v h')
    (hk : wpC P G c e h (retX rs Φ)) : SpecX P G f args h Φ := by
  obtain ⟨x, e1, h1, ⟨k1, k2⟩, k3⟩ := wpC_det c hk
  unfold optV at k2
  split at k2
  · rename_i vs hvs
    refine ⟨outV vs, h1, hs (wpC_at k3 ⟨k1, vs, hvs, .inl ⟨rfl, rfl⟩⟩), k2⟩
  · exact k2.elim

theorem SpecX.mono {f : FuncId} {args : List Value} {h : AHeap} {Φ Ψ : Value → AHeap → Prop} (k : SpecX P G f args h Φ) (m : ∀ v h', Φ v h' → Ψ v h') : SpecX P G f args h Ψ :=
  let ⟨v, h', a, b⟩ := k; ⟨v, h', a, m _ _ b⟩

theorem Spec.x {f : FuncId} {args : List Value} {h h' : AHeap} {v : Value} {Φ : Value → AHeap → Prop} (k : Spec P G f args h v h') (q : Φ v h') : SpecX P G f args h Φ := ⟨v, h', k, q⟩

theorem callV_x {f : FuncId} {args : List Value} {h : AHeap} {Φ : Value → AHeap → Prop} {K : Value → AHeap → Prop} (hs : SpecX P G f args h Φ) (hk : ∀ v h', Φ v h' → K v h') {u : Hold K} : callV P G f args h K u :=
  let ⟨v, h', a, b⟩ := hs; ⟨v, h', a, hk _ _ b⟩

end Go.Proofs.YtpnpccnbpgckhabGreat.B
