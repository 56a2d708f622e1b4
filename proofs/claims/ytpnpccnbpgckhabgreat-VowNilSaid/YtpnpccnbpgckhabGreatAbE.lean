/-
  A region whose order Go leaves open: every order comes to what the order of the text comes to.
-/
import Derived.Test.YtpnpccnbpgckhabGreatAbD
namespace Go.Proofs.YtpnpccnbpgckhabGreat.B
open Go
set_option linter.unusedVariables false
set_option linter.unusedSimpArgs false
variable {G : Nat} {P : Program}

def rst (μ : Ren) (k : Nat) : Ren := fun b => if b < k then μ b else none
def upd (μ μ' : Ren) (lo hi : Nat) : Ren := fun b => if lo ≤ b ∧ b < hi then μ' b else μ b

theorem rst_some {μ : Ren} {k b : Nat} {x : Pl} (h : rst μ k b = some x) : b < k ∧ μ b = some x := by
  unfold rst at h
  split at h
  · exact ⟨by assumption, h⟩
  · cases h
theorem rst_mk {μ : Ren} {k b : Nat} {x : Pl} (hb : b < k) (h : μ b = some x) : rst μ k b = some x := by simp [rst, hb, h]

theorem VR.lift {μ : Ren} {H H' : AHeap} (hq : ∃ q, H' = H ++ q) {v v' : Value} (k : VR (rst μ H.length) H v v') : VR (rst μ H'.length) H' v v' := by
  obtain ⟨q, rfl⟩ := hq
  refine k.mono (fun b x hb => (rst_some hb).1) (fun b x hb => ?_) (HLe.append _ _)
  have := rst_some hb
  exact rst_mk (by simp; omega) this.2

theorem obj_fin {μ μ' : Ren} {K H1 : AHeap} {w w' : World} {x : Pl} {o : AObj} (hm : ∀ b x, μ b = some x → μ' b = some x ∧ b < K.length) (heq : ∀ b, b < K.length → H1[b]? = K[b]?) (hfun : ∀ b, b < K.length → ∀ y, μ' b = some y → μ b = some y)
    (hd : ∀ b x, μ b = some x → b < K.length) (r1 : ObjR μ K w x o) (r2 : ObjR μ' H1 w' x o) : ObjR μ K w' x o := by
  have key : ∀ {v a v2}, VR μ K v a → VR μ' H1 v v2 → VR μ K v v2 := by
    intro v a v2 n
    have capK : ∀ {b : Nat} {x : Pl} {off cap cap' : Nat}, b < K.length → capOK H1 b x off cap cap' → capOK K b x off cap cap' := fun hb q => by
      unfold capOK at *; rw [← heq _ hb]; exact q
    have capEK : ∀ {b : Nat} {x : Pl} {o' cap' : Nat}, b < K.length → capE H1 b x o' cap' → capE K b x o' cap' := fun hb q => by
      unfold capE at *; rw [← heq _ hb]; exact q
    induction n generalizing v2 with
    | any v => intro k; exact .any _
    | skip => intro k; cases k; exact .skip
    | bool b => intro k; cases k; exact .bool b
    | int q n => intro k; cases k; exact .int q n
    | string s => intro k; cases k; exact .string s
    | nilPtr => intro k; cases k; exact .nilPtr
    | ptr off hb => intro k; cases k with | ptr _ hq => exact .ptr off (hfun _ (hd _ _ hb) _ hq)
    | nilSlice => intro k; cases k; exact .nilSlice
    | slice off len cap cap' hb hc =>
      intro k
      cases k with
      | slice _ _ _ cap'' hq hc2 => exact .slice off len cap cap'' (hfun _ (hd _ _ hb) _ hq) (capK (hd _ _ hb) hc2)
      | empty _ o' cap'' hq hc2 => exact .empty off o' cap'' (hfun _ (hd _ _ hb) _ hq) (capEK (hd _ _ hb) hc2)
    | empty off o' cap' hb hc =>
      intro k
      cases k with
      | slice _ _ _ cap'' hq hc2 => exact .slice off 0 0 cap'' (hfun _ (hd _ _ hb) _ hq) (capK (hd _ _ hb) hc2)
      | empty _ o' cap'' hq hc2 => exact .empty off o' cap'' (hfun _ (hd _ _ hb) _ hq) (capEK (hd _ _ hb) hc2)
    | void a => intro k; unfold voidA at *; cases k; exact .void _
    | nilMap => intro k; cases k; exact .nilMap
    | map hb => intro k; cases k with | map hq => exact .map (hfun _ (hd _ _ hb) _ hq)
    | func f h1 h2 _ _ i1 i2 => intro k; cases k with | func _ k1 k2 k3 k4 => exact .func f k1 k2 (fun i => i1 i (k3 i)) (fun i => i2 i (k4 i))
    | nilFunc => intro k; cases k; exact .nilFunc
    | nilIface => intro k; cases k; exact .nilIface
    | iface t _ ih => intro k; cases k with | iface _ hv => exact .iface t (ih hv)
    | agg hs _ ih => intro k; cases k with | agg h1 h2 => exact .agg h1 fun i => ih i (h2 i)
    | tuple hs _ ih =>
      intro k
      cases k with
      | any => exact .any _
      | tuple h1 h2 => exact .tuple h1 fun i => ih i (h2 i)
  cases o with
  | dead => trivial
  | row m cells =>
    obtain ⟨cs1, t1, f1, a1, a2, a3, a4⟩ := r1
    obtain ⟨cs2, t2, f2, b1, b2, b3, b4⟩ := r2
    refine ⟨cs2, t2, f2, b1, b2, b3, fun i v hi => ?_⟩
    obtain ⟨u1, c1, c2⟩ := a4 i v hi
    obtain ⟨u2, d1, d2⟩ := b4 i v hi
    exact ⟨u2, d1, key c2 d2⟩
  | map r es =>
    obtain ⟨f1, k1, a1, a2, a4⟩ := r1
    obtain ⟨f2, k2, b1, b2, b4⟩ := r2
    refine ⟨f2, k2, b1, b2, fun i kv hi => ?_⟩
    obtain ⟨u1, c1, c2, c3⟩ := a4 i kv hi
    obtain ⟨u2, d1, d2, d3⟩ := b4 i kv hi
    exact ⟨u2, d1, key c2 d2, key c3 d3⟩

/-- A heap below the one that an operation was carried out over still stands. -/
theorem sim_low {μ μ' : Ren} {K H H1 : AHeap} {w w' : World} (q : ∃ q, H = K ++ q) (q1 : ∃ g, H1 = H ++ g) (sK : Sim G (rst μ K.length) K w) (t : Step G (rst μ H.length) H w μ' H1 w') : Sim G (rst μ K.length) K w' := by
  obtain ⟨q, rfl⟩ := q
  obtain ⟨g, rfl⟩ := q1
  have up : ∀ b x, rst μ K.length b = some x → μ' b = some x ∧ b < K.length := fun b x hb => by
    have := rst_some hb
    exact ⟨t.ren b x (rst_mk (by simp; omega) this.2), this.1⟩
  have down : ∀ b, b < K.length → ∀ y, μ' b = some y → rst μ K.length b = some y := fun b hb y hy => by
    rcases t.new b y hy with k | k
    · exact rst_mk hb (rst_some k).2
    · simp at k; omega
  have heq : ∀ b, b < K.length → (K ++ q ++ g)[b]? = K[b]? := fun b hb => by
    rw [List.append_assoc, List.getElem?_append_left hb]
  refine ⟨sK.glob, sK.dom, fun b x o hb ho => ?_, fun b c x y hb hc lb lc e => ?_⟩
  · have hlt := (rst_some hb).1
    exact obj_fin up heq down sK.dom (sK.obj b x o hb ho) (t.sim.obj b x o (up b x hb).1 (by rw [heq b hlt]; exact ho))
  · exact sK.inj b c x y hb hc lb lc e

/-- So does one beyond it. -/
theorem sim_high {μ μ' : Ren} {K H H1 : AHeap} {w w' : World} (q1 : ∃ g, H1 = H ++ g) (q : ∃ q, K = H1 ++ q) (sK : Sim G (rst μ K.length) K w) (hseg : ∀ b, H.length ≤ b → b < H1.length → μ b = none)
    (t : Step G (rst μ H.length) H w μ' H1 w') : Sim G (rst (upd μ μ' H.length H1.length) K.length) K w' := by
  obtain ⟨g, rfl⟩ := q1
  obtain ⟨q, rfl⟩ := q
  have hlen : (H ++ g).length = H.length + g.length := by simp
  have hlen2 : (H ++ g ++ q).length = H.length + g.length + q.length := by simp; omega
  have lift : ∀ b x, rst μ (H ++ g ++ q).length b = some x → rst (upd μ μ' H.length (H ++ g).length) (H ++ g ++ q).length b = some x := fun b x hb => by
    have := rst_some hb
    refine rst_mk this.1 ?_
    unfold upd
    split
    · rename_i hs; rw [hseg b hs.1 hs.2] at this; cases this.2
    · exact this.2
  have liftμ' : ∀ b x, μ' b = some x → rst (upd μ μ' H.length (H ++ g).length) (H ++ g ++ q).length b = some x := fun b x hb => by
    have hd := t.sim.dom b x hb
    refine rst_mk (by rw [hlen2]; omega) ?_
    unfold upd
    split
    · exact hb
    · rename_i hs
      rcases t.new b x hb with k | k
      · exact (rst_some k).2
      · exact absurd ⟨k, hd⟩ hs
  -- where a place comes from
  have cases_ : ∀ b x, rst (upd μ μ' H.length (H ++ g).length) (H ++ g ++ q).length b = some x → (b < (H ++ g).length ∧ μ' b = some x) ∨ ((H ++ g).length ≤ b ∧ rst μ (H ++ g ++ q).length b = some x) := fun b x hb => by
    obtain ⟨h1, h2⟩ := rst_some hb
    unfold upd at h2
    split at h2
    · rename_i hs; exact .inl ⟨hs.2, h2⟩
    · rename_i hs
      rcases Nat.lt_or_ge b (H ++ g).length with hl | hl
      · have : b < H.length := by
          rcases Nat.lt_or_ge b H.length with z | z
          · exact z
          · exact absurd ⟨z, hl⟩ hs
        exact .inl ⟨hl, t.ren b x (rst_mk this h2)⟩
      · exact .inr ⟨hl, rst_mk h1 h2⟩
  have apart : ∀ b c x y, b < (H ++ g).length → μ' b = some x → (H ++ g).length ≤ c → rst μ (H ++ g ++ q).length c = some y → Live (H ++ g ++ q) b → Live (H ++ g ++ q) c → x.blk = y.blk → False := by
    intro b c x y hb hx hc hy lb lc e
    have hyb : y.blk < w.heap.size := by
      obtain ⟨o, ho, hn⟩ := lc
      exact (sK.obj c y o hy ho).bound hn
    rcases t.new b x hx with k | k
    · have := sK.inj b c x y (rst_mk (by rw [hlen2]; omega) (rst_some k).2) hy lb lc e
      omega
    · rcases t.fresh b x hx k with z | ⟨b0, x0, z1, z2, z3⟩
      · omega
      · have hb0 := (rst_some z1)
        have l0 : Live (H ++ g ++ q) b0 := by
          obtain ⟨o, ho, hn⟩ := z2.live
          exact ⟨o, by rw [List.append_assoc, List.getElem?_append_left hb0.1]; exact ho, hn⟩
        have := sK.inj b0 c x0 y (rst_mk (by rw [hlen2]; omega) hb0.2) hy l0 lc (z3.trans e)
        rw [hlen] at hc
        omega
  refine ⟨fun g' hg' => let ⟨n, e⟩ := sK.glob g' hg'; ⟨n, lift _ _ e⟩, fun b x hb => (rst_some hb).1, fun b x o hb ho => ?_, fun b c x y hb hc lb lc e => ?_⟩
  · rcases cases_ b x hb with ⟨h1, h2⟩ | ⟨h1, h2⟩
    · rw [List.getElem?_append_left h1] at ho
      by_cases hdd : o = .dead
      · subst hdd; trivial
      · exact (t.sim.obj b x o h2 ho).mono t.sim.dom liftμ' (HLe.append _ _) rfl
    · by_cases hdd : o = .dead
      · subst hdd; trivial
      · have r := sK.obj b x o h2 ho
        refine r.mono (fun b x hb => (rst_some hb).1) lift (HLe.refl _) (t.fr.block x.blk (r.bound hdd) fun c y hc hrw he => ?_)
        have hc' := rst_some hc
        have l0 : Live (H ++ g ++ q) c := by
          obtain ⟨o, ho, hn⟩ := hrw.live
          exact ⟨o, by rw [List.append_assoc, List.getElem?_append_left hc'.1]; exact ho, hn⟩
        have := sK.inj c b y x (rst_mk (by rw [hlen2]; omega) hc'.2) h2 l0 ⟨o, ho, hdd⟩ he
        rw [hlen] at h1
        omega
  · rcases cases_ b x hb with ⟨h1, h2⟩ | ⟨h1, h2⟩ <;> rcases cases_ c y hc with ⟨h3, h4⟩ | ⟨h3, h4⟩
    · refine t.sim.inj b c x y h2 h4 ?_ ?_ e
      · obtain ⟨o, ho, hn⟩ := lb; exact ⟨o, by rw [List.getElem?_append_left h1] at ho; exact ho, hn⟩
      · obtain ⟨o, ho, hn⟩ := lc; exact ⟨o, by rw [List.getElem?_append_left h3] at ho; exact ho, hn⟩
    · exact (apart b c x y h1 h2 h3 h4 lb lc e).elim
    · exact (apart c b y x h3 h4 h1 h2 lc lb e.symm).elim
    · exact sK.inj b c x y h2 h4 lb lc e

/-- A heap that knows of more blocks, none of them placed. -/
theorem sim_extend {μ : Ren} {H : AHeap} {w : World} (s : Sim G μ H w) (q : AHeap) : Sim G μ (H ++ q) w :=
  ⟨s.glob, fun b x hb => by have := s.dom b x hb; simp; omega,
    fun b x o hb ho => by
      rw [List.getElem?_append_left (s.dom b x hb)] at ho
      exact (s.obj b x o hb ho).mono s.dom (fun _ _ k => k) (HLe.append _ _) rfl,
    fun b c x y hb hc lb lc e => s.inj b c x y hb hc (lb.back (HLe.append _ _) (s.dom b x hb)) (lc.back (HLe.append _ _) (s.dom c y hc)) e⟩

theorem rst_dom {μ : Ren} {n : Nat} (h : ∀ b x, μ b = some x → b < n) : rst μ n = μ := by
  funext b
  unfold rst
  split
  · rfl
  · cases q : μ b with
    | none => rfl
    | some x => have := h b x q; omega

end Go.Proofs.YtpnpccnbpgckhabGreat.B
