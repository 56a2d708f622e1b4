/-
  Code over an abstract heap: regions in the order of the text, branches, loops, calls; and that the model's code does what it says.
-/
import Derived.Test.YtpnpccnbpgckhabGreatAb9
namespace Go.Proofs.YtpnpccnbpgckhabGreat.B
open Go
set_option linter.unusedVariables false
set_option linter.unusedSimpArgs false
variable {G : Nat} {P : Program}

structure GI where
  dst : Option Nat
  i : I
  g : Option (Nat × Bool)

abbrev Env := List (Nat × Value)

def look : Env → Nat → Value
  | [], _ => .tuple #[]
  | (k, v) :: r, t => if k = t then v else look r t

def putE (e : Env) : Option Nat → Value → Env
  | none, _ => e
  | some d, v => (d, v) :: e

def sel (keep : List Nat) (e : Env) : Env := keep.map fun t => (t, look e t)

theorem look_sel (keep : List Nat) (e : Env) (t : Nat) : look (sel keep e) t = look e t ∨ look (sel keep e) t = .tuple #[] := by
  induction keep with
  | nil => exact .inr rfl
  | cons k r ih =>
    simp only [sel, List.map_cons, look]
    split
    · rename_i hk; subst hk; exact .inl rfl
    · exact ih

/-- The frame: so many slots, nothing deferred, the slots' values. -/
structure AR (n : Nat) (μ : Ren) (h : AHeap) (e : Env) (a : Act) : Prop where
  size : a.tmps.size = n
  defers : a.defers = []
  slots : SR μ h (look e) a

theorem AR.sel {n : Nat} {μ : Ren} {h : AHeap} {e : Env} {a : Act} (k : AR n μ h e a) (keep : List Nat) : AR n μ h (sel keep e) a :=
  ⟨k.size, k.defers, fun t => by
    rcases look_sel keep e t with q | q
    · rw [q]; exact k.slots t
    · rw [q]; exact .any _⟩

theorem AR.put {n : Nat} {μ : Ren} {h : AHeap} {e : Env} {a : Act} (k : AR n μ h e a) {dst : Option Nat} (hd : ∀ d, dst = some d → d < n) {v v' : Value} (hv : VR μ h v v') : AR n μ h (putE e dst v) (a.put dst v') := by
  cases dst with
  | none => exact k
  | some d =>
    refine ⟨by simp [Act.put, k.size], by simp [Act.put, k.defers], fun t => ?_⟩
    simp only [putE, look, Act.put]
    have hdn := hd d rfl
    by_cases e1 : d = t
    · subst e1
      rw [if_pos rfl]
      have : (a.tmps.setIfInBounds d v').getD d undef = v' := by simp [k.size, hdn]
      rw [this]; exact hv
    · rw [if_neg e1]
      have : (a.tmps.setIfInBounds d v').getD t undef = a.tmps.getD t undef := by
        simp [Array.getElem?_setIfInBounds_ne e1]
      rw [this]; exact k.slots t

theorem AR.mono {n : Nat} {μ μ' : Ren} {h h' : AHeap} {w w' : World} {e : Env} {a : Act} (s : Sim G μ h w) (t : Step G μ h w μ' h' w') (k : AR n μ h e a) : AR n μ' h' e a :=
  ⟨k.size, k.defers, fun i => s.dom |> fun hd => (k.slots i).mono hd t.ren t.hle⟩

def gdOf (ops : Array Oper) : Option (Nat × Bool) → Option (Option (Nat × Bool))
  | none => some none
  | some (j, want) => ((ops[j]?).bind (·.dst)).map fun s => some (s, want)

def dstOk (n : Nat) : Option Nat → Bool
  | some d => decide (d < n)
  | none => true

def resG (P : Program) (G n : Nat) (ops : Array Oper) (o : Oper) : Option GI := do
  let i ← resI P G o.op
  let g ← gdOf ops o.guard
  if dstOk n o.dst then some ⟨o.dst, i, g⟩ else none

/-- A list of instructions, one behind the other. -/
def wpL (P : Program) (G : Nat) : List GI → Env → AHeap → (Env → AHeap → Prop) → Prop
  | [], e, h, K => K e h
  | g :: r, e, h, K => match g.g with
    | none => wpI P G g.i (look e) h fun v h' => wpL P G r (putE e g.dst v) h' K
    | some (s, want) => match look e s with
      | .bool b => (b = want → wpI P G g.i (look e) h fun v h' => wpL P G r (putE e g.dst v) h' K) ∧ (b = !want → wpL P G r (putE e g.dst (.complex .f32 0 0)) h K)
      | .complex _ _ _ => wpL P G r (putE e g.dst (.complex .f32 0 0)) h K
      | _ => False

theorem getD_bool {tmps : Array Value} {s : Nat} {b : Bool} (h : tmps.getD s undef = .bool b) : tmps[s]? = some (.bool b) := by
  cases q : tmps[s]? with
  | none => simp [q, undef] at h
  | some v => simp [q] at h; rw [h]

theorem getD_undef {tmps : Array Value} {s : Nat} (h : tmps.getD s undef = .tuple #[]) : tmps[s]? = some (.tuple #[]) ∨ tmps[s]? = none := by
  cases q : tmps[s]? with
  | none => exact .inr rfl
  | some v => simp [q] at h; rw [h]; exact .inl rfl

theorem wpL_sound {n : Nat} {ops : Array Oper} {R : Exit → Act → World → Prop} : ∀ (l : List GI) (k : Nat) {e : Env} {h : AHeap} {K : Env → AHeap → Prop}, (ops.toList.drop k).mapM (resG P G n ops) = some l → wpL P G l e h K →
    ∀ {μ : Ren} {w : World} {a : Act}, Sim G μ h w → AR n μ h e a → (∀ μ' w' a' e' h', K e' h' → Step G μ h w μ' h' w' → AR n μ' h' e' a' → R .normal a' w') → wpOps P ops R (List.range' k (ops.size - k)) a w
  | [], k, e, h, K, hm, hk, μ, w, a, s, r, hR => by
    have hlen : ops.size - k = 0 := by
      cases q : ops.toList.drop k with
      | nil => have := congrArg List.length q; simpa using this
      | cons o os => rw [q] at hm; simp [List.mapM_cons, Option.bind_eq_some_iff] at hm
    rw [hlen]
    exact hR μ w a e h hk (Step.refl s) r
  | g :: l, k, e, h, K, hm, hk, μ, w, a, s, r, hR => by
    cases q : ops.toList.drop k with
    | nil => rw [q] at hm; simp at hm
    | cons o os =>
      rw [q] at hm
      simp only [List.mapM_cons, Option.pure_def, Option.bind_eq_bind, Option.bind_eq_some_iff, Option.some.injEq, List.cons.injEq] at hm
      obtain ⟨g', hg, l', hl, rfl, rfl⟩ := hm
      have hlt : k < ops.size := by have := congrArg List.length q; simp at this; omega
      have ho : ops[k]? = some o := by
        have : (ops.toList.drop k)[0]? = some o := by rw [q]; rfl
        simpa using this
      have hos : ops.toList.drop (k + 1) = os := by rw [← List.drop_drop, q]; rfl
      rw [show ops.size - k = (ops.size - (k + 1)) + 1 by omega, List.range'_succ]
      simp only [wpOps, ho]
      simp only [resG, Option.bind_eq_bind, Option.bind_eq_some_iff] at hg
      obtain ⟨i, hi, gg, hgg, hg⟩ := hg
      split at hg
      · rename_i hd
        cases hg
        have hd' : ∀ d, o.dst = some d → d < n := fun d e1 => by rw [e1] at hd; simpa [dstOk] using hd
        have run : wpI P G i (look e) h (fun v h' => wpL P G l' (putE e o.dst v) h' K) → o.wp P a w (wpOps P ops R (List.range' (k + 1) (ops.size - (k + 1)))) R := fun hw => by
          obtain ⟨v, h', hj, hk'⟩ := resI_sound hi hw
          refine hj.j μ w a s r.slots _ _ fun v' μ' w' hv hst => ?_
          exact wpL_sound l' (k + 1) (by rw [hos]; exact hl) hk' hst.sim ((r.mono s hst).put hd' hv) fun μ2 w2 a2 e2 h2 k1 k2 k3 => hR μ2 w2 a2 e2 h2 k1 (hst.trans k2) k3
        have skip : wpL P G l' (putE e o.dst (.complex .f32 0 0)) h K → wpOps P ops R (List.range' (k + 1) (ops.size - (k + 1))) (a.put o.dst undef) w := fun hw =>
          wpL_sound l' (k + 1) (by rw [hos]; exact hl) hw s (r.put hd' .skip) hR
        cases hgu : o.guard with
        | none =>
          rw [hgu] at hgg
          cases hgg
          simp only [Region.wanted, hgu, if_true]
          exact .inl (run hk)
        | some jw =>
          obtain ⟨j, want⟩ := jw
          rw [hgu] at hgg
          simp only [gdOf, Option.map_eq_some_iff] at hgg
          obtain ⟨sl, hsl, rfl⟩ := hgg
          simp only [wpL] at hk
          have hsr := r.slots sl
          simp only [Region.wanted, hgu, yielded, hsl, Option.bind_some]
          split at hk
          · rename_i b hb
            rw [hb] at hsr
            have h1 := getD_bool hsr.bool_inv
            simp only [h1]
            by_cases hbw : b = want
            · subst hbw
              simp only [beq_self_eq_true, if_true]
              exact .inl (run (hk.1 rfl))
            · have : (some b == some want) = false := by simpa using hbw
              simp only [this, Bool.false_eq_true, if_false]
              exact skip (hk.2 (by cases b <;> cases want <;> simp_all))
          · rename_i c1 c2 c3 hb
            rw [hb] at hsr
            have h0 : a.tmps.getD sl undef = .tuple #[] := by
              generalize a.tmps.getD sl undef = z at hsr
              cases hsr; rfl
            rcases getD_undef h0 with h1 | h1
            · simp only [h1]
              simp only [show ((none : Option Bool) == some want) = false from rfl, Bool.false_eq_true, if_false]
              exact skip hk
            · simp only [h1]
              simp only [show ((none : Option Bool) == some want) = false from rfl, Bool.false_eq_true, if_false]
              exact skip hk
          · exact hk.elim
      · cases hg

theorem wpI_mono {i : I} {ρ : Nat → Value} {h : AHeap} {K K' : Value → AHeap → Prop} (hm : ∀ v h, K v h → K' v h) (hk : wpI P G i ρ h K) : wpI P G i ρ h K' := by
  cases i <;> simp only [wpI] at hk ⊢
  case call => obtain ⟨v, h', h1, h2⟩ := hk; exact ⟨v, h', h1, hm _ _ h2⟩
  case callw => obtain ⟨v, h', h1, h2⟩ := hk; exact ⟨v, h', h1, hm _ _ h2⟩
  case xc => obtain ⟨v, h', h1, h2⟩ := hk; exact ⟨v, h', h1, hm _ _ h2⟩
  case callv =>
    split at hk
    · obtain ⟨h0, v, h', h1, h2⟩ := hk; exact ⟨h0, v, h', h1, hm _ _ h2⟩
    · exact hk.elim
  case bin op x y =>
    unfold binA at hk ⊢
    split at hk
    all_goals first
      | exact hk.elim
      | exact ⟨hk.1, hk.2.1, hm _ _ hk.2.2⟩
      | exact ⟨hk.1, hm _ _ hk.2⟩
      | exact hm _ _ hk
  case un op x =>
    unfold unA at hk ⊢
    split at hk
    all_goals first
      | exact hk.elim
      | exact hm _ _ hk
  case sl =>
    split at hk
    · refine ⟨hk.1, ?_⟩
      have hk2 := hk.2
      unfold slK at hk2 ⊢
      split at hk2
      · exact ⟨hk2.1, hm _ _ hk2.2⟩
      · exact ⟨hk2.1, hm _ _ hk2.2⟩
      · exact hk2.elim
    · exact hk.elim
  case app =>
    split at hk
    · refine ⟨hk.1, hk.2.1, ?_⟩
      have hk2 := hk.2.2
      split at hk2
      · rename_i hn; rw [if_pos hn]; exact hm _ _ hk2
      · rename_i hn; rw [if_neg hn]; exact hm _ _ hk2
    · refine ⟨hk.1, hk.2.1, hk.2.2.1, ?_⟩
      have hk2 := hk.2.2.2
      split at hk2
      · refine ⟨hk2.1, ?_⟩
        have hk3 := hk2.2
        split at hk3
        · rename_i hn; rw [if_pos hn]; exact ⟨hk3.1, hm _ _ hk3.2⟩
        · rename_i hn; rw [if_neg hn]; exact ⟨hk3.1, hm _ _ hk3.2⟩
      · exact ⟨hk2.1, hk2.2.1, hm _ _ hk2.2.2⟩
      · exact hk2.elim
    · exact hk.elim
  case load =>
    split at hk
    · split at hk
      · exact hm _ _ hk
      · exact hk.elim
    · exact hk.elim
  case store =>
    split at hk
    · refine ⟨hk.1, hk.2.1, ?_⟩
      have hk2 := hk.2.2
      split at hk2
      · exact hm _ _ hk2
      · exact hk2.elim
    · exact hk.elim
  case part =>
    split at hk
    · refine ⟨hk.1, ?_⟩
      have hk2 := hk.2
      split at hk2
      · exact hm _ _ hk2
      · exact hk2.elim
    · exact hk.elim
  case ext =>
    split at hk
    · split at hk
      · exact hm _ _ hk
      · exact hk.elim
    · exact hk.elim
  case ixv =>
    split at hk
    · refine ⟨hk.1, hk.2.1, ?_⟩
      have hk2 := hk.2.2
      split at hk2
      · exact hm _ _ hk2
      · exact hk2.elim
    · exact hk.elim
  case ixstr =>
    split at hk
    · refine ⟨hk.1, ?_⟩
      have hk2 := hk.2
      split at hk2
      · exact hm _ _ hk2
      · exact hk2.elim
    · exact hk.elim
  all_goals first
    | exact hm _ _ hk
    | (split at hk <;> first | exact hk.elim | exact hm _ _ hk | exact ⟨hk.1, hm _ _ hk.2⟩ | exact ⟨hk.1, hk.2.1, hm _ _ hk.2.2⟩ |
        (split at hk <;> first | exact hk.elim | exact hm _ _ hk | (split at hk <;> first | exact hk.elim | exact hm _ _ hk)))

theorem wpL_mono : ∀ (l : List GI) {e : Env} {h : AHeap} {K K' : Env → AHeap → Prop} (hm : ∀ e h, K e h → K' e h) (hk : wpL P G l e h K), wpL P G l e h K'
  | [], e, h, K, K', hm, hk => hm _ _ hk
  | g :: l, e, h, K, K', hm, hk => by
    simp only [wpL] at hk ⊢
    split at hk
    · exact wpI_mono (fun v h' => wpL_mono l hm) hk
    · split at hk
      · exact ⟨fun e1 => wpI_mono (fun v h' => wpL_mono l hm) (hk.1 e1), fun e1 => wpL_mono l hm (hk.2 e1)⟩
      · exact wpL_mono l hm hk
      · exact hk.elim

end Go.Proofs.YtpnpccnbpgckhabGreat.B
