/-
  Distances by links (P22.4), in plain lists.
-/
import Derived.Test.YtmeojocmngbpaaaF3
namespace Go.Proofs.Ytmeojocmngbpaaa.B
open Go
set_option linter.unusedVariables false
set_option linter.unusedSimpArgs false

def LkB (L : List (List Bool)) (a b : Nat) : Prop := ∃ r, L[a]? = some r ∧ r[b]? = some true

/-- Reached within so many links. -/
def Rch (L : List (List Bool)) (dest : Nat) : Nat → Nat → Prop
  | 0, x => x = dest
  | k + 1, x => Rch L dest k x ∨ (x < L.length ∧ ∃ a, Rch L dest k a ∧ LkB L a x)
def Dst (L : List (List Bool)) (dest k x : Nat) : Prop := Rch L dest k x ∧ ∀ j, j < k → ¬ Rch L dest j x

section
variable {L : List (List Bool)} {dest : Nat}
theorem Rch.mono {k j x : Nat} (h : Rch L dest k x) (hj : k ≤ j) : Rch L dest j x := by
  induction j with
  | zero => obtain rfl : k = 0 := by omega
            exact h
  | succ j ih =>
    by_cases e : k = j + 1
    · subst e; exact h
    · exact .inl (ih (by omega))
theorem Dst.uniq {k j x : Nat} (h : Dst L dest k x) (g : Dst L dest j x) : k = j := by
  rcases Nat.lt_trichotomy k j with q | q | q
  · exact absurd h.1 (g.2 k q)
  · exact q
  · exact absurd g.1 (h.2 j q)
theorem Rch.dst {k x : Nat} (h : Rch L dest k x) : ∃ d, d ≤ k ∧ Dst L dest d x := by
  classical
  induction k with
  | zero => exact ⟨0, Nat.le_refl _, h, fun j hj => by omega⟩
  | succ k ih =>
    by_cases q : Rch L dest k x
    · obtain ⟨d, h1, h2⟩ := ih q
      exact ⟨d, by omega, h2⟩
    · exact ⟨k + 1, Nat.le_refl _, h, fun j hj g => q (g.mono (by omega))⟩
theorem Rch.lt (hd : dest < L.length) : ∀ {k x : Nat}, Rch L dest k x → x < L.length
  | 0, x, h => by cases h; exact hd
  | k + 1, x, h => by
    rcases h with h | h
    · exact Rch.lt hd h
    · exact h.1
theorem Dst.step {k x : Nat} (h : Dst L dest (k + 1) x) : ∃ a, Dst L dest k a ∧ LkB L a x := by
  rcases h.1 with q | ⟨hx, a, h1, h2⟩
  · exact absurd q (h.2 k (by omega))
  · refine ⟨a, ⟨h1, fun j hj g => ?_⟩, h2⟩
    exact h.2 (j + 1) (by omega) (.inr ⟨hx, a, g, h2⟩)
/-- There is a node at each distance below. -/
theorem Dst.chain (hd : dest < L.length) : ∀ {d x : Nat}, Dst L dest d x → ∃ l : List Int, l.length = d + 1 ∧ l.Nodup ∧ ∀ y ∈ l, 0 ≤ y ∧ y < L.length ∧ ∃ i, i ≤ d ∧ Dst L dest i y.toNat
  | 0, x, h => ⟨[(x : Int)], rfl, by simp, fun y hy => by
      simp at hy; subst hy
      have := h.1.lt hd
      exact ⟨by omega, by omega, 0, Nat.le_refl _, by simpa using h⟩⟩
  | d + 1, x, h => by
    obtain ⟨a, h1, h2⟩ := h.step
    obtain ⟨l, k1, k2, k3⟩ := h1.chain hd
    have hx := h.1.lt hd
    refine ⟨(x : Int) :: l, by simp [k1], ?_, fun y hy => ?_⟩
    · rw [List.nodup_cons]
      refine ⟨fun hm => ?_, k2⟩
      obtain ⟨_, _, i, hi, hy⟩ := k3 _ hm
      have := h.uniq (by simpa using hy)
      omega
    · rw [List.mem_cons] at hy
      rcases hy with rfl | hy
      · exact ⟨by omega, by omega, d + 1, Nat.le_refl _, by simpa using h⟩
      · obtain ⟨q1, q2, i, hi, q3⟩ := k3 y hy
        exact ⟨q1, q2, i, by omega, q3⟩
theorem Dst.bound (hd : dest < L.length) {d x : Nat} (h : Dst L dest d x) : d < L.length := by
  obtain ⟨l, k1, k2, k3⟩ := h.chain hd
  have := nodup_len L.length l k2 fun y hy => ⟨(k3 y hy).1, (k3 y hy).2.1⟩
  omega

/-- How far each node is. -/
def IsFar (L : List (List Bool)) (dest : Nat) (f : List Int) : Prop := f.length = L.length ∧ ∀ x, x < L.length → (f[x]? = some (-1) ∧ ∀ k, ¬ Rch L dest k x) ∨ ∃ d : Nat, f[x]? = some (d : Int) ∧ Dst L dest d x
theorem IsFar.uniq {f g : List Int} (h : IsFar L dest f) (k : IsFar L dest g) : f = g := by
  apply List.ext_getElem?
  intro x
  by_cases hx : x < L.length
  · rcases h.2 x hx with ⟨h1, h2⟩ | ⟨d, h1, h2⟩ <;> rcases k.2 x hx with ⟨k1, k2⟩ | ⟨e, k1, k2⟩
    · rw [h1, k1]
    · exact absurd k2.1 (h2 e)
    · exact absurd h2.1 (k2 d)
    · rw [h1, k1, h2.uniq k2]
  · rw [List.getElem?_eq_none (by rw [h.1]; omega), List.getElem?_eq_none (by rw [k.1]; omega)]

/-! ### Round by round -/
def InRound (L : List (List Bool)) (dest r a b : Nat) (f : List Int) : Prop := f.length = L.length ∧ ∀ x, x < L.length →
  (∃ d : Nat, d ≤ r ∧ f[x]? = some (d : Int) ∧ Dst L dest d x) ∨ (f[x]? = some ((r + 1 : Nat) : Int) ∧ Dst L dest (r + 1) x) ∨
    (f[x]? = some (-1) ∧ ¬ Rch L dest r x ∧ ∀ a', (a' < a ∨ (a' = a ∧ x < b)) → Dst L dest r a' → ¬ LkB L a' x)

theorem InRound.row {r a : Nat} {f : List Int} (h : InRound L dest r a L.length f) : InRound L dest r (a + 1) 0 f := by
  refine ⟨h.1, fun x hx => ?_⟩
  rcases h.2 x hx with q | q | ⟨q1, q2, q3⟩
  · exact .inl q
  · exact .inr (.inl q)
  · exact .inr (.inr ⟨q1, q2, fun a' ha => q3 a' (by rcases ha with z | z <;> omega)⟩)
theorem InRound.next {r : Nat} {f : List Int} (hd : dest < L.length) (h : InRound L dest r L.length 0 f) : InRound L dest (r + 1) 0 0 f := by
  refine ⟨h.1, fun x hx => ?_⟩
  rcases h.2 x hx with ⟨d, q1, q2, q3⟩ | ⟨q1, q2⟩ | ⟨q1, q2, q3⟩
  · exact .inl ⟨d, by omega, q2, q3⟩
  · exact .inl ⟨r + 1, Nat.le_refl _, q1, q2⟩
  · refine .inr (.inr ⟨q1, fun z => ?_, fun a' ha => by omega⟩)
    rcases z with z | ⟨_, a, z1, z2⟩
    · exact q2 z
    · obtain ⟨d, z3, z4⟩ := z1.dst
      by_cases e : d = r
      · subst e
        exact q3 a (.inl (z1.lt hd)) z4 z2
      · exact q2 ((show Rch L dest (d + 1) x from .inr ⟨hx, a, z4.1, z2⟩).mono (by omega))
theorem InRound.start (hd : dest < L.length) {f : List Int} (hf : f = (List.replicate L.length (-1 : Int)).set dest 0) : InRound L dest 0 0 0 f := by
  subst hf
  refine ⟨by simp, fun x hx => ?_⟩
  by_cases e : dest = x
  · subst e
    exact .inl ⟨0, Nat.le_refl _, by simp [hx], rfl, fun j hj => by omega⟩
  · exact .inr (.inr ⟨by rw [List.getElem?_set_ne e]; simp [hx], fun q => e q.symm, fun a' ha => by omega⟩)
theorem InRound.done {f : List Int} (hd : dest < L.length) (h : InRound L dest L.length 0 0 f) : IsFar L dest f := by
  refine ⟨h.1, fun x hx => ?_⟩
  rcases h.2 x hx with ⟨d, q1, q2, q3⟩ | ⟨q1, q2⟩ | ⟨q1, q2, q3⟩
  · exact .inr ⟨d, q2, q3⟩
  · exact .inr ⟨_, q1, q2⟩
  · refine .inl ⟨q1, fun k z => ?_⟩
    obtain ⟨d, z1, z2⟩ := z.dst
    exact q2 (z2.1.mono (by have := z2.bound hd; omega))
/-- One pair of nodes. -/
theorem InRound.pair {r a b : Nat} {f : List Int} (hd : dest < L.length) (ha : a < L.length) (hb : b < L.length) (h : InRound L dest r a b f) :
    (f[a]? = some (r : Int) → (∃ z : Int, f[b]? = some z ∧ z < 0) → LkB L a b → InRound L dest r a (b + 1) (f.set b ((r + 1 : Nat) : Int))) ∧
    (¬ (f[a]? = some (r : Int) ∧ (∃ z : Int, f[b]? = some z ∧ z < 0) ∧ LkB L a b) → InRound L dest r a (b + 1) f) := by
  have dista : f[a]? = some (r : Int) → Dst L dest r a := fun q => by
    rcases h.2 a ha with ⟨d, q1, q2, q3⟩ | ⟨q1, q2⟩ | ⟨q1, q2, q3⟩
    · rw [q] at q2
      simp only [Option.some.injEq] at q2
      obtain rfl : r = d := by omega
      exact q3
    · rw [q] at q1
      simp only [Option.some.injEq] at q1
      omega
    · rw [q] at q1
      simp only [Option.some.injEq] at q1
      omega
  constructor
  · intro h1 ⟨z, h2, hz⟩ h3
    refine ⟨by simp [h.1], fun x hx => ?_⟩
    by_cases e : b = x
    · subst e
      rcases h.2 b hb with ⟨d, q1, q2, q3⟩ | ⟨q1, q2⟩ | ⟨q1, q2, q3⟩
      · rw [h2] at q2; simp only [Option.some.injEq] at q2; omega
      · rw [h2] at q1; simp only [Option.some.injEq] at q1; omega
      · refine .inr (.inl ⟨by rw [List.getElem?_set_self (by rw [h.1]; exact hb)], .inr ⟨hb, a, (dista h1).1, h3⟩, fun j hj g => q2 (g.mono (by omega))⟩)
    · rw [List.getElem?_set_ne e]
      rcases h.2 x hx with q | q | ⟨q1, q2, q3⟩
      · exact .inl q
      · exact .inr (.inl q)
      · exact .inr (.inr ⟨q1, q2, fun a' ha' => q3 a' (by rcases ha' with w | w <;> omega)⟩)
  · intro hn
    refine ⟨h.1, fun x hx => ?_⟩
    rcases h.2 x hx with q | q | ⟨q1, q2, q3⟩
    · exact .inl q
    · exact .inr (.inl q)
    · refine .inr (.inr ⟨q1, q2, fun a' ha' hda hlk => ?_⟩)
      by_cases e : a' < a ∨ (a' = a ∧ x < b)
      · exact q3 a' e hda hlk
      · obtain ⟨rfl, rfl⟩ : a' = a ∧ x = b := by omega
        refine hn ⟨?_, ⟨-1, q1, by omega⟩, hlk⟩
        rcases h.2 a' ha with ⟨d, p1, p2, p3⟩ | ⟨p1, p2⟩ | ⟨p1, p2, p3⟩
        · rw [p2, p3.uniq hda]
        · have := p2.uniq hda; omega
        · exact absurd hda.1 p2

/-! ### By a queue -/
/-- A are at the distance d and wait; B are at the next one. 'at': of this one the nodes below j were looked at. -/
def InQ (L : List (List Bool)) (dest d : Nat) (A B : List Nat) (cur : Option (Nat × Nat)) (f : List Int) : Prop := f.length = L.length ∧
  (∀ a ∈ A, Dst L dest d a) ∧ (∀ b ∈ B, Dst L dest (d + 1) b) ∧ (∀ c j, cur = some (c, j) → Dst L dest d c) ∧ ∀ x, x < L.length →
  (∃ k : Nat, k ≤ d ∧ f[x]? = some (k : Int) ∧ Dst L dest k x) ∨ (f[x]? = some ((d + 1 : Nat) : Int) ∧ x ∈ B) ∨
    (f[x]? = some (-1) ∧ ¬ Rch L dest d x ∧ ∀ a, Dst L dest d a → a ∉ A → (∀ c j, cur = some (c, j) → a = c → x < j) → ¬ LkB L a x)
theorem InQ.start (hd : dest < L.length) {f : List Int} (hf : f = (List.replicate L.length (-1 : Int)).set dest 0) : InQ L dest 0 [dest] [] none f := by
  subst hf
  have h0 : Dst L dest 0 dest := ⟨rfl, fun j hj => by omega⟩
  refine ⟨by simp, by simp [h0], by simp, by simp, fun x hx => ?_⟩
  by_cases e : dest = x
  · subst e
    exact .inl ⟨0, Nat.le_refl _, by simp [hx], h0⟩
  · refine .inr (.inr ⟨by rw [List.getElem?_set_ne e]; simp [hx], fun q => e q.symm, fun a ha hn => ?_⟩)
    have := ha.1
    simp only [Rch] at this
    subst this
    simp at hn
/-- No one waits: those of the next distance do. -/
theorem InQ.turn (hd : dest < L.length) {d : Nat} {B : List Nat} {f : List Int} (h : InQ L dest d [] B none f) : InQ L dest (d + 1) B [] none f := by
  obtain ⟨h0, h1, h2, h3, h4⟩ := h
  have nr : ∀ x, x < L.length → f[x]? = some (-1) → ¬ Rch L dest (d + 1) x := by
    intro x hx q0 z
    rcases h4 x hx with ⟨k, q1, q2, q3⟩ | ⟨q1, q2⟩ | ⟨q1, q2, q3⟩
    · rw [q0] at q2; simp only [Option.some.injEq] at q2; omega
    · rw [q0] at q1; simp only [Option.some.injEq] at q1; omega
    · rcases z with z | ⟨_, a, z1, z2⟩
      · exact q2 z
      · obtain ⟨e, z3, z4⟩ := z1.dst
        by_cases e1 : e = d
        · subst e1
          exact q3 a z4 (by simp) (by simp) z2
        · exact q2 ((show Rch L dest (e + 1) x from .inr ⟨hx, a, z4.1, z2⟩).mono (by omega))
  refine ⟨h0, h2, by simp, by simp, fun x hx => ?_⟩
  rcases h4 x hx with ⟨k, q1, q2, q3⟩ | ⟨q1, q2⟩ | ⟨q1, q2, q3⟩
  · exact .inl ⟨k, by omega, q2, q3⟩
  · exact .inl ⟨d + 1, Nat.le_refl _, q1, h2 x q2⟩
  · refine .inr (.inr ⟨q1, nr x hx q1, fun a ha hn => ?_⟩)
    exfalso
    have hal := ha.1.lt hd
    rcases h4 a hal with ⟨k, p1, p2, p3⟩ | ⟨p1, p2⟩ | ⟨p1, p2, p3⟩
    · have := p3.uniq ha; omega
    · exact hn p2
    · exact nr a hal p1 ha.1
theorem InQ.pop {d c : Nat} {A B : List Nat} {f : List Int} (h : InQ L dest d (c :: A) B none f) : InQ L dest d A B (some (c, 0)) f := by
  obtain ⟨h0, h1, h2, h3, h4⟩ := h
  refine ⟨h0, fun a ha => h1 a (by simp [ha]), h2, fun c' j e => (by cases e; exact h1 _ (by simp)), fun x hx => ?_⟩
  rcases h4 x hx with q | q | ⟨q1, q2, q3⟩
  · exact .inl q
  · exact .inr (.inl q)
  · refine .inr (.inr ⟨q1, q2, fun a ha hn hc => q3 a ha ?_ (by simp)⟩)
    rw [List.mem_cons, not_or]
    refine ⟨fun e => ?_, hn⟩
    have := hc c 0 rfl e
    omega
theorem InQ.look {d c j : Nat} {A B : List Nat} {f : List Int} (hd : dest < L.length) (hj : j < L.length) (h : InQ L dest d A B (some (c, j)) f) :
    ((∃ z : Int, f[j]? = some z ∧ z < 0) → LkB L c j → InQ L dest d A (B ++ [j]) (some (c, j + 1)) (f.set j ((d + 1 : Nat) : Int))) ∧
    (¬ ((∃ z : Int, f[j]? = some z ∧ z < 0) ∧ LkB L c j) → InQ L dest d A B (some (c, j + 1)) f) := by
  obtain ⟨h0, h1, h2, h3, h4⟩ := h
  have hc := h3 c j rfl
  constructor
  · intro ⟨z, hz, hz0⟩ hl
    have hdj : Dst L dest (d + 1) j := by
      rcases h4 j hj with ⟨k, q1, q2, q3⟩ | ⟨q1, q2⟩ | ⟨q1, q2, q3⟩
      · rw [hz] at q2; simp only [Option.some.injEq] at q2; omega
      · rw [hz] at q1; simp only [Option.some.injEq] at q1; omega
      · exact ⟨.inr ⟨hj, c, hc.1, hl⟩, fun i hi g => q2 (g.mono (by omega))⟩
    refine ⟨by simp [h0], h1, fun b hb => ?_, fun c' j' e => (by cases e; exact hc), fun x hx => ?_⟩
    · rw [List.mem_append, List.mem_singleton] at hb
      rcases hb with hb | rfl
      · exact h2 b hb
      · exact hdj
    · by_cases e : j = x
      · subst e
        exact .inr (.inl ⟨by rw [List.getElem?_set_self (by rw [h0]; exact hj)], by simp⟩)
      · rw [List.getElem?_set_ne e]
        rcases h4 x hx with q | ⟨q1, q2⟩ | ⟨q1, q2, q3⟩
        · exact .inl q
        · exact .inr (.inl ⟨q1, by simp [q2]⟩)
        · refine .inr (.inr ⟨q1, q2, fun a ha hn hcc => q3 a ha hn fun c' j' e1 e2 => ?_⟩)
          cases e1
          have := hcc c (j + 1) rfl e2
          omega
  · intro hn
    refine ⟨h0, h1, h2, fun c' j' e => (by cases e; exact hc), fun x hx => ?_⟩
    rcases h4 x hx with q | q | ⟨q1, q2, q3⟩
    · exact .inl q
    · exact .inr (.inl q)
    · refine .inr (.inr ⟨q1, q2, fun a ha hna hcc hlk => ?_⟩)
      by_cases e : a = c ∧ x = j
      · obtain ⟨rfl, rfl⟩ := e
        exact hn ⟨⟨-1, q1, by omega⟩, hlk⟩
      · refine q3 a ha hna (fun c' j' e1 e2 => ?_) hlk
        cases e1
        have := hcc c (j + 1) rfl e2
        omega
theorem InQ.leave {d c : Nat} {A B : List Nat} {f : List Int} (h : InQ L dest d A B (some (c, L.length)) f) : InQ L dest d A B none f := by
  obtain ⟨h0, h1, h2, h3, h4⟩ := h
  refine ⟨h0, h1, h2, by simp, fun x hx => ?_⟩
  rcases h4 x hx with q | q | ⟨q1, q2, q3⟩
  · exact .inl q
  · exact .inr (.inl q)
  · exact .inr (.inr ⟨q1, q2, fun a ha hn _ => q3 a ha hn fun c' j' e _ => (by cases e; exact hx)⟩)
theorem InQ.done (hd : dest < L.length) {d : Nat} {f : List Int} (h : InQ L dest d [] [] none f) : IsFar L dest f := by
  obtain ⟨h0, h1, h2, h3, h4⟩ := h
  have sat : ∀ k x, Rch L dest k x → Rch L dest d x := by
    intro k
    induction k with
    | zero => intro x hx; exact (show Rch L dest 0 x from hx).mono (Nat.zero_le _)
    | succ k ih =>
      intro x hx
      rcases hx with q | ⟨hx, a, q1, q2⟩
      · exact ih x q
      · obtain ⟨e, z1, z2⟩ := (ih a q1).dst
        by_cases e1 : e = d
        · subst e1
          rcases h4 x hx with ⟨k', p1, p2, p3⟩ | ⟨p1, p2⟩ | ⟨p1, p2, p3⟩
          · exact p3.1.mono p1
          · simp at p2
          · exact absurd q2 (p3 a z2 (by simp) (by simp))
        · exact (show Rch L dest (e + 1) x from .inr ⟨hx, a, z2.1, q2⟩).mono (by omega)
  refine ⟨h0, fun x hx => ?_⟩
  rcases h4 x hx with ⟨k, q1, q2, q3⟩ | ⟨q1, q2⟩ | ⟨q1, q2, q3⟩
  · exact .inr ⟨k, q2, q3⟩
  · simp at q2
  · exact .inl ⟨q1, fun k z => q2 (sat k x z)⟩
end
end Go.Proofs.Ytmeojocmngbpaaa.B
