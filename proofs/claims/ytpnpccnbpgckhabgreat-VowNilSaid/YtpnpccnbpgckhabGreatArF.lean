/-
  Blocks of fixed cells: structs and arrays that have an address.
-/
import Derived.Test.YtpnpccnbpgckhabGreatArL
namespace Go.Proofs.YtpnpccnbpgckhabGreat.B
open Go
set_option linter.unusedVariables false
set_option linter.unusedSimpArgs false

/-- A block of fixed cells. -/
def Fx (h : AHeap) (b : Nat) (cs : List Value) : Prop := h[b]? = some (.row .fix cs)
section
variable {h h' : AHeap} {b c : Nat} {cs ds vs : List Value}
theorem Fx.lt (k : Fx h b cs) : b < h.length := (List.getElem?_eq_some_iff.1 k).1
theorem Fx.pre (p : Pre h h') (k : Fx h b cs) : Fx h' b cs := by unfold Fx; rw [p.get k.lt]; exact k
theorem Fx.same (k : Fx h b cs) (e : h'[b]? = h[b]?) : Fx h' b cs := by unfold Fx; rw [e]; exact k
theorem Fx.app (k : Fx h b cs) (g : AHeap) : Fx (h ++ g) b cs := k.pre (.app _ _)
theorem Fx.here (h : AHeap) (cs : List Value) (g : AHeap) : Fx (h ++ .row .fix cs :: g) h.length cs := by simp [Fx]
theorem Fx.set (k : Fx h b cs) (ds : List Value) : Fx (h.set b (.row .fix ds)) b ds := by simp [Fx, k.lt]
theorem Fx.other (k : Fx h b cs) (ne : c ≠ b) (o : AObj) : Fx (h.set c o) b cs := by simp [Fx, List.getElem?_set_ne ne]; exact k
theorem Fx.rd (k : Fx h b cs) {off n : Nat} (e : (cs.drop off).take n = vs) (hl : off + n ≤ cs.length) : rds h b off n = some vs := by
  unfold Fx at k
  simp only [rds, k, if_pos hl, e]
theorem Fx.rdA (k : Fx h b cs) {off n : Nat} (e : (cs.drop off).take n = vs) (hl : off + n ≤ cs.length) (g : AHeap) : rds (h ++ g) b off n = some vs := (k.app g).rd e hl
theorem Fx.wr (k : Fx h b cs) {off : Nat} (hl : off + vs.length ≤ cs.length) : wrs h b off vs = some (h.set b (.row .fix (setC cs off vs))) := by
  unfold Fx at k
  simp only [wrs, k]; exact if_pos hl
theorem Fx.wrA (k : Fx h b cs) {off : Nat} (hl : off + vs.length ≤ cs.length) (g : AHeap) : wrs (h ++ g) b off vs = some (h.set b (.row .fix (setC cs off vs)) ++ g) := by
  rw [(k.app g).wr hl, List.set_append, if_pos k.lt]
/-- A write into new memory. -/
theorem Pre.put {h0 : AHeap} (p : Pre h0 h) (hb : h0.length ≤ b) (o : AObj) : Pre h0 (h.set b o) := p.set hb o
end

theorem Sl.sameB {h h' : AHeap} {sz n : Nat} {v : Value} {cs : List Value} (k : Sl h sz v n cs) (hl : h.length ≤ h'.length) (e : v = nilS ∨ h'[sb v]? = h[sb v]?) : Sl h' sz v n cs := by
  cases k with
  | nil => exact .nil
  | void => exact .void
  | row hl' hr hc hlt ho hm =>
    rename_i b' off cap
    have e : h'[b']? = h[b']? := by
      rcases e with q | q
      · cases q
      · exact q
    refine .row hl' (fun q => ?_) hc (by omega) (by unfold slOK at *; rw [e]; exact ho) hm
    have := hr q
    unfold rds at *
    rw [e]; exact this
theorem Ls.sameB {α : Type} {h h' : AHeap} {sz : Nat} {R : List Value → α → Prop} {v : Value} {l : List α} (k : Ls h sz R v l) (hl : h.length ≤ h'.length) (e : v = nilS ∨ h'[sb v]? = h[sb v]?) : Ls h' sz R v l :=
  let ⟨cs, a, c⟩ := k; ⟨cs, a.sameB hl e, c⟩
/-- Something else is written. -/
theorem Ow.put {h0 h : AHeap} {sz n b : Nat} {v : Value} {cs : List Value} (k : Ow h0 h sz v n cs) (ne : v = nilS ∨ b ≠ sb v) (o : AObj) : Ow h0 (h.set b o) sz v n cs := by
  cases k with
  | nil => exact .nil
  | row hb hr hl hc hm =>
    refine .row hb ?_ hl hc hm
    rcases ne with q | q
    · cases q
    · rw [List.getElem?_set_ne (by exact q)]; exact hr
/-- An append leaves a block of fixed cells as it is. -/
theorem Fx.chg {h0 h h' : AHeap} {u : Value} {b : Nat} {cs : List Value} (k : Fx h b cs) (c : Chg h0 u h h') (ne : u = nilS ∨ b ≠ sb u) : Fx h' b cs := by
  rcases ne with q | q
  · exact k.pre (c.2 q)
  · exact k.same (c.1.2 b k.lt fun e => absurd e q)
/-- What is owned by a slice is no block of fixed cells. -/
theorem Ow.nfix {h0 h : AHeap} {sz n b : Nat} {v : Value} {cs ds : List Value} (k : Ow h0 h sz v n cs) (f : Fx h b ds) : v = nilS ∨ b ≠ sb v := by
  cases k with
  | nil => exact .inl rfl
  | row hb hr hl hc hm =>
    refine .inr fun e => ?_
    unfold Fx at f
    simp only [sb] at e
    subst e
    rw [hr] at f
    cases f
theorem Gr.nfix {h : AHeap} {b c : Nat} {ds : List Value} (k : Gr h c) (f : Fx h b ds) : b ≠ c := by
  rintro rfl
  obtain ⟨m, cs, k⟩ := k
  unfold Fx at f
  rw [k] at f
  cases f
theorem OwN.put {α : Type} {R : List Value → α → Prop} {h0 h : AHeap} {sz b : Nat} {u : Value} {T : List (List α)} {ds : List Value} (k : OwN h0 h sz R u T) (f : Fx h b ds) (o : AObj) : OwN h0 (h.set b o) sz R u T := by
  obtain ⟨vs, a, e⟩ := k
  refine ⟨vs, a.put (a.nfix f) o, fun i hi => ?_⟩
  obtain ⟨tv, h1, h2, h3⟩ := e i hi
  refine ⟨tv, h1, h2.sameB (by simp) (h3.imp id fun q => List.getElem?_set_ne (q.2.nfix f)), h3.imp id fun q => ⟨q.1, q.2.same (List.getElem?_set_ne (q.2.nfix f))⟩⟩
theorem OwN.nfix {α : Type} {R : List Value → α → Prop} {h0 h : AHeap} {sz b : Nat} {u : Value} {T : List (List α)} {ds : List Value} (k : OwN h0 h sz R u T) (f : Fx h b ds) : u = nilS ∨ b ≠ sb u := by
  obtain ⟨vs, a, e⟩ := k
  exact a.nfix f
end Go.Proofs.YtpnpccnbpgckhabGreat.B
