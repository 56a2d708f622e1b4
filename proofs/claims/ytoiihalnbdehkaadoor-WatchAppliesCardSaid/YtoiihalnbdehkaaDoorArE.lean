/-
  A slice of structs, each with a slice of its own, that is being built.
-/
import Derived.Test.YtoiihalnbdehkaaDoorAbZ
namespace Go.Proofs.YtoiihalnbdehkaaDoor.B
open Go
set_option linter.unusedVariables false
set_option linter.unusedSimpArgs false
variable {G : Nat} {P : Program}
theorem Ow.src {h0 h : AHeap} {sz n : Nat} {v : Value} {cs : List Value} (k : Ow h0 h sz v n cs) : appSrc h sz false v = some (n, cs) := by
  cases k with
  | nil => rfl
  | row hb hr hl hc hm =>
    rename_i b off cap cells
    have := Nat.mul_le_mul_right sz hc
    cases n with
    | zero => simp [appSrc]
    | succ n =>
      rw [appSrc_slice]
      simp only [rds, hr]
      rw [if_pos (by omega)]; rfl
def OwE {α β : Type} (h0 h : AHeap) (sz isz : Nat) (enc : α → Value → List Value) (inner : α → List β) (R : List Value → β → Prop) (u : Value) (T : List α) : Prop :=
  ∃ vs, Ow h0 h sz u T.length vs ∧ ∀ i (hi : i < T.length), ∃ tv, (vs.drop (i * sz)).take sz = enc T[i] tv ∧ Ls h isz R tv (inner T[i]) ∧ (tv = nilS ∨ (sb tv ≠ sb u ∧ Gr h (sb tv)))
section
variable {α β : Type} {enc : α → Value → List Value} {inner : α → List β} {R : List Value → β → Prop} {h0 h : AHeap} {sz isz : Nat} {u : Value} {T : List α}
theorem OwE.nil : OwE h0 h sz isz enc inner R nilS ([] : List α) := ⟨[], .nil, fun i hi => by simp at hi⟩
theorem OwE.pre {h' : AHeap} (p : Pre h h') (k : OwE h0 h sz isz enc inner R u T) : OwE h0 h' sz isz enc inner R u T := by
  obtain ⟨vs, a, b⟩ := k
  refine ⟨vs, a.pre p, fun i hi => ?_⟩
  obtain ⟨tv, h1, h2, h3⟩ := b i hi
  exact ⟨tv, h1, h2.pre p, h3.imp id fun q => ⟨q.1, q.2.pre p⟩⟩
theorem OwE.ls (k : OwE h0 h sz isz enc inner R u T) : Ls h sz (fun c x => ∃ tv, c = enc x tv ∧ Ls h isz R tv (inner x)) u T := by
  obtain ⟨vs, a, b⟩ := k
  refine ⟨vs, a.sl, fun i hi => ?_⟩
  obtain ⟨tv, h1, h2, h3⟩ := b i hi
  exact ⟨tv, h1, h2⟩
theorem OwE.nfix {b : Nat} {ds : List Value} (k : OwE h0 h sz isz enc inner R u T) (f : Fx h b ds) : u = nilS ∨ b ≠ sb u := by
  obtain ⟨vs, a, e⟩ := k
  exact a.nfix f
theorem OwE.put {b : Nat} {ds : List Value} (k : OwE h0 h sz isz enc inner R u T) (f : Fx h b ds) (o : AObj) : OwE h0 (h.set b o) sz isz enc inner R u T := by
  obtain ⟨vs, a, e⟩ := k
  refine ⟨vs, a.put (a.nfix f) o, fun i hi => ?_⟩
  obtain ⟨tv, h1, h2, h3⟩ := e i hi
  exact ⟨tv, h1, h2.sameB (by simp) (h3.imp id fun q => List.getElem?_set_ne (q.2.nfix f)), h3.imp id fun q => ⟨q.1, q.2.same (List.getElem?_set_ne (q.2.nfix f))⟩⟩
theorem OwE.snoc (k : OwE h0 h sz isz enc inner R u T) (hp : Pre h0 h) {hx hb : AHeap} (px : Pre h hx) {tv : Value} {t : α} {n : Nat} {cs : List Value} (henc : ∀ x v, (enc x v).length = sz) (ho : Ow hb hx isz tv n cs) (hbl : h.length ≤ hb.length) (hl : Ls hx isz R tv (inner t))
    (h1 : (enc t tv).all B.oneA = true) {bytes : Nat} (hroom : room (T.length + 1) bytes)
    {K : Value → AHeap → Prop} {uu : Hold K} (hk : ∀ u' h', OwE h0 h' sz isz enc inner R u' (T ++ [t]) → Pre h0 h' → Chg h0 u hx h' → K u' h') : appV sz bytes u (some (1, enc t tv)) hx K uu := by
  obtain ⟨vs, a, b⟩ := k
  have hul := a.place
  have hlen := a.len
  have hpl := ho.gr
  refine (a.pre px).app (by rw [henc]; omega) h1 hroom (fun u' h' a' hbut hsb _ => ?_) (hp.trans px)
  have hpre := hbut.pre (hp.trans px)
  refine hk u' h' ⟨vs ++ enc t tv, by simpa using a', fun i hi => ?_⟩ hpre hbut
  have hcase := hsb (by omega)
  have hge : hx.length ≤ h'.length := hbut.1.1
  by_cases hiT : i < T.length
  · obtain ⟨w, q1, h2, h3⟩ := b i hiT
    have hmul := Nat.mul_le_mul_right sz hiT
    rw [Nat.succ_mul] at hmul
    refine ⟨w, ?_, ?_, h3.imp id fun q => ⟨?_, ?_⟩⟩
    · rw [List.drop_append_of_le_length (by omega), List.take_append_of_le_length (by simp; omega), q1, List.getElem_append_left hiT]
    · rw [List.getElem_append_left hiT]
      exact (h2.pre px).chg hbut (h3.imp id fun q => .inr q.1)
    · have := px.len
      have := q.2.lt
      rcases hcase with e | ⟨e, _⟩
      · rw [e]; omega
      · rw [e]; exact q.1
    · exact (q.2.pre px).chg hbut (.inr q.1)
  · obtain rfl : i = T.length := by simp at hi; omega
    have hne : tv = nilS ∨ u = nilS ∨ sb tv ≠ sb u := by
      refine hpl.imp id fun q => ?_
      rcases hul with z | hul
      · exact .inl z
      · exact .inr (by omega)
    refine ⟨tv, ?_, ?_, hpl.imp id fun q => ⟨?_, ?_⟩⟩
    · rw [List.drop_left' hlen, List.getElem_append_right (Nat.le_refl _), List.take_of_length_le (by rw [henc]; exact Nat.le_refl _)]
      simp
    · rw [List.getElem_append_right (Nat.le_refl _)]
      simp only [Nat.sub_self, List.getElem_cons_zero]
      exact hl.chg hbut hne
    · have := q.2.lt
      rcases hcase with e | ⟨e, hn⟩
      · rw [e]; omega
      · rw [e]
        rcases hul with z | hul
        · exact absurd z hn
        · omega
    · refine q.2.chg hbut ?_
      rcases hul with z | hul
      · exact .inl z
      · exact .inr (by omega)
end
end Go.Proofs.YtoiihalnbdehkaaDoor.B
