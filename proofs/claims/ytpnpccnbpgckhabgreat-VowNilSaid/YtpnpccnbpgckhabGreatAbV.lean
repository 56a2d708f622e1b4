/-
  Bridges: a call that leaves all old memory as it was is a contract over any abstract heap; so is one that was shown from a heap of constant rows alone.
-/
import Derived.Test.YtpnpccnbpgckhabGreatAbT
import Derived.Below
namespace Go.Proofs.YtpnpccnbpgckhabGreat.B
open Go Go.RowKit
set_option linter.unusedVariables false
set_option linter.unusedSimpArgs false
variable {G : Nat} {P : Program}

/-- A value without an address. -/
def plain : Value → Bool
  | .bool _ | .int _ _ | .string _ | .pointer none | .slice none 0 0 | .map none | .nilFunc | .nilIface => true
  | _ => false
theorem VR.plain_inv {μ : Ren} {h : AHeap} {v v' : Value} (k : VR μ h v v') (hp : plain v = true) : v' = v := by
  cases k <;> simp_all [plain]
theorem VR.plain {μ : Ren} {h : AHeap} {v : Value} (hp : plain v = true) : VR μ h v v := by
  unfold B.plain at hp
  split at hp
  all_goals first | constructor | cases hp
theorem VL.plain_inv {μ : Ren} {h : AHeap} {as bs : List Value} (k : VL μ h as bs) (hp : as.all plain = true) : bs = as := by
  apply List.ext_getElem?
  intro i
  by_cases hi : i < as.length
  · have hj : i < bs.length := by rw [← k.1]; exact hi
    have := k.2 i as[i] bs[i] (by simp [hi]) (by simp [hj])
    rw [List.getElem?_eq_getElem hi, List.getElem?_eq_getElem hj, this.plain_inv (List.all_eq_true.1 hp _ (List.getElem_mem hi))]
  · rw [List.getElem?_eq_none (by rw [← k.1]; omega), List.getElem?_eq_none (by omega)]
theorem VL.plain {μ : Ren} {h : AHeap} {as : List Value} (hp : as.all plain = true) : VL μ h as as := by
  refine ⟨rfl, fun i v v' a b => ?_⟩
  rw [a] at b; cases b
  exact VR.plain (List.all_eq_true.1 hp _ (List.mem_of_getElem? a))

/-- All old memory is as it was. -/
theorem Step.of_below {μ : Ren} {h : AHeap} {w w' : World} (s : Sim G μ h w) (b : Below w.heap.size w w') : Step G μ h w μ h w' where
  ren _ _ k := k
  new _ _ k := .inl k
  hle := HLe.refl h
  sim := ⟨s.glob, s.dom, fun b' x o k1 k2 => by
    cases o with
    | dead => trivial
    | row m cs => exact (s.obj b' x _ k1 k2).mono s.dom (fun _ _ k => k) (HLe.refl h) (b.block _ ((s.obj b' x _ k1 k2).bound (by simp)))
    | map r es => exact (s.obj b' x _ k1 k2).mono s.dom (fun _ _ k => k) (HLe.refl h) (b.block _ ((s.obj b' x _ k1 k2).bound (by simp))), s.inj⟩
  fr := ⟨b.os, b.tape, b.output, b.size, fun c hc _ => b.block c hc⟩
  fresh b' x k l := absurd (s.dom b' x k) (by omega)

/-- All that was stands as it was, and a new row is known. -/
theorem Step.below_row {μ : Ren} {h : AHeap} {w w' : World} (s : Sim G μ h w) (bl : Below w.heap.size w w') {gb : Nat} {cs : Array Value} {t : TypeId} {fz : Nat × Nat} (m : Mode) {cells : List Value} (hg : w.heap.size ≤ gb) (hrow : w'.heap[gb]? = some (.cells cs t fz))
    (hfz : ∀ j, j < cs.size → ¬ (fz.1 ≤ j ∧ j < fz.2)) (hcells : ∀ (i : Nat) (v : Value), cells[i]? = some v → ∃ v', cs[i]? = some v' ∧ VR μ h v v') :
    Step G μ h w (fun b => if b = h.length then some ⟨gb, 0, cs.size⟩ else μ b) (h ++ [.row m cells]) w' := by
  have hr : ∀ b y, μ b = some y → (if b = h.length then some (⟨gb, 0, cs.size⟩ : Pl) else μ b) = some y := fun b y k => by
    have := s.dom b y k
    rw [if_neg (by omega)]; exact k
  refine ⟨hr, ?_, HLe.append _ _, ⟨fun g hg => let ⟨n, e⟩ := s.glob g hg; ⟨n, hr _ _ e⟩, ?_, ?_, ?_⟩, ⟨bl.os, bl.tape, bl.output, bl.size, fun c hc _ => bl.block c hc⟩, ?_⟩
  · intro b y k
    split at k
    · exact .inr (by omega)
    · exact .inl k
  · intro b y k
    simp only [List.length_append, List.length_cons, List.length_nil]
    split at k
    · omega
    · have := s.dom b y k; omega
  · intro b y u k hu
    split at k
    · rename_i e
      subst e
      cases k
      simp at hu
      subst hu
      refine ⟨cs, t, fz, hrow, rfl, fun _ => hfz, fun i v hi => ?_⟩
      obtain ⟨v', a, c⟩ := hcells i v hi
      exact ⟨v', by simpa using a, c.mono s.dom hr (HLe.append _ _)⟩
    · have hb := s.dom b y k
      rw [List.getElem?_append_left hb] at hu
      have q := s.obj b y u k hu
      by_cases hd : u = .dead
      · subst hd; trivial
      · exact q.mono s.dom hr (HLe.append _ _) (bl.block _ (q.bound hd))
  · intro b c y z k l lb lc e
    have key : ∀ b y, μ b = some y → Live (h ++ [.row m cells]) b → y.blk < w.heap.size := fun b y k lb => by
      obtain ⟨u, hu, hn⟩ := lb
      rw [List.getElem?_append_left (s.dom b y k)] at hu
      exact (s.obj b y u k hu).bound hn
    split at k <;> split at l
    · omega
    · cases k; have := key c z l lc; simp only at e; omega
    · cases l; have := key b y k lb; simp only at e; omega
    · exact s.inj b c y z k l (lb.back (HLe.append _ _) (s.dom b y k)) (lc.back (HLe.append _ _) (s.dom c z l)) e
  · intro b y k l
    split at k
    · cases k; exact .inl hg
    · have := s.dom b y k; omega

/-- A call of plain values, shown over the model itself. -/
theorem Spec.of_calls {f : FuncId} {args : List Value} {v : Value} {h : AHeap} (ha : args.all plain = true) (hv : plain v = true) (hc : ∀ W, Calls P f ⟨args⟩ W fun e W' => e = .returned v ∧ Below W.heap.size W W') : Spec P G f args h v h := by
  intro μ w args' s l
  have : args' = ⟨args⟩ := by
    apply Array.toList_inj.1
    exact l.plain_inv ha
  subst this
  refine (hc w).mono fun e w' ⟨he, hb⟩ => ⟨v, μ, he, VR.plain hv, Step.of_below s hb⟩

/-- A call of plain values, shown from no memory at all. -/
theorem Spec.of_none {f : FuncId} {args : List Value} {v : Value} {h h' : AHeap} (ha : args.all plain = true) (hv : plain v = true) (hs : Spec P 0 f args [] v h') : Spec P G f args h v h := by
  refine Spec.of_calls ha hv fun W => ?_
  have s0 : Sim 0 (fun _ => none) [] W := ⟨fun g hg => absurd hg (Nat.not_lt_zero _), fun b x k => (by cases k), fun b x o k => (by cases k), fun b c x y k => (by cases k)⟩
  refine (hs _ W ⟨args⟩ s0 (VL.plain ha)).mono fun e w' ⟨v', μ', he, hr, st⟩ => ?_
  rw [hr.plain_inv hv] at he
  exact ⟨he, st.fr.os, st.fr.tape, st.fr.output, st.fr.size, fun k hk => st.fr.block k hk fun b x hb => by cases hb⟩

/-- Rows that hold plain values alone, and are read alone. -/
def constRow : AObj → Bool
  | .row .ro cells => cells.all plain
  | .dead => true
  | _ => false
/-- A call of plain values, shown from the package's variables alone: rows of plain values that the heap begins with. -/
theorem Spec.of_vars {f : FuncId} {args : List Value} {v : Value} {h h0 h' : AHeap} (ha : args.all plain = true) (hv : plain v = true) (hc : h0.all constRow = true) (hG : h0.length = G) (hp : ∀ (b : Nat) (o : AObj), h0[b]? = some o → o ≠ .dead → h[b]? = some o) (hs : Spec P G f args h0 v h') : Spec P G f args h v h := by
  intro μ w args' s l
  have : args' = ⟨args⟩ := by
    apply Array.toList_inj.1
    exact l.plain_inv ha
  subst this
  have s0 : Sim G (fun b => if b < G then μ b else none) h0 w := by
    refine ⟨fun g hg => ?_, fun b x k => ?_, fun b x o k1 k2 => ?_, fun b c x y k1 k2 l1 l2 e => ?_⟩
    · obtain ⟨n, hn⟩ := s.glob g hg
      exact ⟨n, by simp [hg, hn]⟩
    · by_cases hb : b < G
      · omega
      · simp [hb] at k
    · by_cases hb : b < G
      · simp only [hb, if_true] at k1
        have k4 : constRow o = true := List.all_eq_true.1 hc _ (List.mem_of_getElem? k2)
        match o, k4 with
        | .dead, _ => trivial
        | .row .ro cells, k4 =>
          have k3 := s.obj b x _ k1 (hp b _ k2 (by simp))
          obtain ⟨cs, t, fz, h1, h2, h3, h4⟩ := k3
          refine ⟨cs, t, fz, h1, h2, h3, fun i u hi => ?_⟩
          obtain ⟨u', q1, q2⟩ := h4 i u hi
          have hpl : plain u = true := List.all_eq_true.1 (show cells.all plain = true from k4) _ (List.mem_of_getElem? hi)
          exact ⟨u', q1, by rw [q2.plain_inv hpl]; exact VR.plain hpl⟩
      · simp [hb] at k1
    · by_cases hb : b < G
      · by_cases hcc : c < G
        · simp only [hb, hcc, if_true] at k1 k2
          obtain ⟨o1, a1, b1⟩ := l1
          obtain ⟨o2, a2, b2⟩ := l2
          exact s.inj b c x y k1 k2 ⟨o1, hp _ _ a1 b1, b1⟩ ⟨o2, hp _ _ a2 b2, b2⟩ e
        · simp [hcc] at k2
      · simp [hb] at k1
  refine (hs _ w ⟨args⟩ s0 (VL.plain ha)).mono fun e w' ⟨v', μ', he, hr, st⟩ => ?_
  rw [hr.plain_inv hv] at he
  refine ⟨v, μ, he, VR.plain hv, Step.of_below s ⟨st.fr.os, st.fr.tape, st.fr.output, st.fr.size, fun k hk => st.fr.block k hk fun b x hb hrw => ?_⟩⟩
  obtain ⟨o, q1, q2⟩ := hrw
  have k4 : constRow o = true := List.all_eq_true.1 hc _ (List.mem_of_getElem? q1)
  match o, k4, q2 with
  | .dead, _, q2 => exact absurd q2 (by simp [AObj.rw])
  | .row .ro _, _, q2 => exact absurd q2 (by simp [AObj.rw])
end Go.Proofs.YtpnpccnbpgckhabGreat.B
