/-
  Instructions: an operation with its types' sizes worked out, what it does to an abstract heap, and that the model's operation does the same.
-/
import Derived.Test.YtpnpccnbpgckhabGreatAb2
import Derived.Laws.OwnMore
import Derived.Laws.MakeOwn
namespace Go.Proofs.YtpnpccnbpgckhabGreat.B
open Go
set_option linter.unusedVariables false
variable {G : Nat} {P : Program} {μ : Ren} {h : AHeap} {w : World}

def rds (h : AHeap) (b off n : Nat) : Option (List Value) :=
  match h[b]? with
  | some (.row _ cells) => if off + n ≤ cells.length then some ((cells.drop off).take n) else none
  | _ => none

def wrs (h : AHeap) (b off : Nat) (vs : List Value) : Option AHeap :=
  match h[b]? with
  | some (.row .ro _) => none
  | some (.row m cells) => if off + vs.length ≤ cells.length then some (h.set b (.row m (setC cells off vs))) else none
  | _ => none

def aggOf (agg : Bool) (vs : List Value) : Option Value :=
  if agg then some (.agg vs.toArray) else match vs with
    | [v] => some v
    | _ => none

theorem add_none (b off j : Nat) : (⟨b, off, none⟩ : Addr).add j = ⟨b, off + j, none⟩ := by
  unfold Addr.add
  split
  · rename_i q; subst q; rfl
  · rfl

theorem cell_at {cs : Array Value} {t : TypeId} {fz : Nat × Nat} {g j : Nat} (hg : w.heap[g]? = some (.cells cs t fz)) : w.cell? ⟨g, j, none⟩ = cs[j]? := by
  simp [World.cell?, hg]

theorem rds_sim (s : Sim G μ h w) {b off n : Nat} {x : Pl} {vs : List Value} (hb : μ b = some x) (hr : rds h b off n = some vs) :
    vs.length = n ∧ ∃ vs', (loadCells ⟨x.blk, x.off + off, none⟩ n).run P w = .ok vs'.toArray w ∧ VL μ h vs vs' := by
  unfold rds at hr
  split at hr
  · rename_i m cells ho
    split at hr
    · rename_i hle
      cases hr
      obtain ⟨cs, t, fz, h1, h2, h3, h4⟩ := s.obj b x _ hb ho
      have hlen : ((cells.drop off).take n).length = n := by simp; omega
      refine ⟨hlen, (List.range n).map (fun j => cs.getD (x.off + off + j) undef), ?_, by simp; omega, ?_⟩
      · refine run_loadCells w ⟨x.blk, x.off + off, none⟩ n (fun j => cs.getD (x.off + off + j) undef) fun j hj => ?_
        rw [add_none, cell_at h1]
        obtain ⟨v', q, _⟩ := h4 (off + j) cells[off + j] (List.getElem?_eq_getElem (by omega))
        rw [← Nat.add_assoc] at q
        simp [q]
      · intro i v v' p q
        have hi : i < n := by have := (List.getElem?_eq_some_iff.1 p).1; omega
        rw [List.getElem?_take_of_lt hi, List.getElem?_drop] at p
        obtain ⟨u, q1, q2⟩ := h4 (off + i) v p
        rw [← Nat.add_assoc] at q1
        simp [hi, q1] at q
        subst q; exact q2
    · cases hr
  · cases hr

theorem loadVar_sim (s : Sim G μ h w) {t : TypeId} {d : TypeDesc} {i : TypeInfo} {agg : Bool} (hu : P.underlying t = some d) (hi : P.info? t = some i)
    (ha : (match d with | .struct _ | .array _ _ => true | _ => false) = agg) {b off : Nat} {x : Pl} {vs : List Value} {v : Value} (hb : μ b = some x)
    (hr : rds h b off i.size = some vs) (hv : aggOf agg vs = some v) : ∃ v', (loadVar t ⟨x.blk, x.off + off, none⟩).run P w = .ok v' w ∧ VR μ h v v' := by
  obtain ⟨hl, vs', h1, h2⟩ := rds_sim (P := P) s hb hr
  have hagg : (isAgg t).run P w = .ok agg w := by
    unfold isAgg
    rw [Sem.run_bind, run_underlying hu w]
    cases d <;> simp_all
  cases agg with
  | true =>
    simp only [aggOf, if_true, Option.some.injEq] at hv
    subst hv
    refine ⟨.agg vs'.toArray, ?_, VL.agg (by simpa using h2)⟩
    simp [loadVar, Sem.run_bind, hagg, sizeOf, typeInfo, hi, h1]
  | false =>
    simp only [aggOf, Bool.false_eq_true, if_false] at hv
    split at hv
    · rename_i u
      cases hv
      obtain ⟨u', q1, q2⟩ := h2.get (i := 0) (v := v) rfl
      refine ⟨u', ?_, q2⟩
      have hn : i.size = 1 := by simpa using hl.symm
      rw [hn] at h1
      have : w.cell? ⟨x.blk, x.off + off, none⟩ = some u' := by
        unfold rds at hr
        split at hr
        · rename_i m cells ho
          split at hr
          · rename_i hle
            obtain ⟨cs, t, fz, k1, k2, k3, k4⟩ := s.obj b x _ hb ho
            rw [cell_at k1]
            obtain ⟨y, r1, _⟩ := k4 off cells[off] (List.getElem?_eq_getElem (by omega))
            have h1' := h1
            rw [show (1 : Nat) = [y].length from rfl, run_loadCells_list w ⟨x.blk, x.off + off, none⟩ [y] (fun j v hj => by
              cases j with
              | zero => simp at hj; subst hj; rw [add_none, cell_at k1]; simpa using r1
              | succ j => simp at hj)] at h1'
            simp at h1'
            subst h1'
            simp at q1
            subst q1
            exact r1
          · cases hr
        · cases hr
      simp [loadVar, Sem.run_bind, hagg, this]
    · cases hv

theorem setC_get (vs : List Value) : ∀ (cells : List Value) (off i : Nat), off + vs.length ≤ cells.length →
    (setC cells off vs)[i]? = if off ≤ i ∧ i < off + vs.length then vs[i - off]? else cells[i]? := by
  induction vs with
  | nil => intro cells off i _; rw [if_neg (by simp only [List.length_nil]; omega)]; rfl
  | cons v r ih =>
    intro cells off i hl
    simp only [List.length_cons] at hl ⊢
    rw [setC, ih _ _ _ (by simp; omega)]
    by_cases e : off = i
    · subst e
      rw [if_neg (by omega), if_pos (by omega), List.getElem?_set_self (by omega)]
      simp
    · rw [List.getElem?_set_ne e]
      by_cases q : off ≤ i ∧ i < off + (r.length + 1)
      · rw [if_pos q, if_pos (by omega), show i - off = (i - (off + 1)) + 1 by omega]
        simp
      · rw [if_neg q, if_neg (by omega)]

theorem heap_setCells (b : Nat) : ∀ (vs : List Value) (o : Nat) (w : World) (cs : Array Value) (t : TypeId) (fz : Nat × Nat), w.heap[b]? = some (.cells cs t fz) →
    (∃ cs', (w.setCells b o vs).heap[b]? = some (.cells cs' t fz) ∧ cs'.toList = setC cs.toList o vs) ∧ (∀ c, c ≠ b → (w.setCells b o vs).heap[c]? = w.heap[c]?) ∧
    (w.setCells b o vs).heap.size = w.heap.size ∧ (w.setCells b o vs).os = w.os ∧ (w.setCells b o vs).tape = w.tape ∧ (w.setCells b o vs).output = w.output
  | [], o, w, cs, t, fz, h => ⟨⟨cs, h, rfl⟩, fun _ _ => rfl, rfl, rfl, rfl, rfl⟩
  | v :: r, o, w, cs, t, fz, h => by
    have h1 : (w.setCell ⟨b, o, none⟩ v).heap[b]? = some (.cells (cs.setIfInBounds o v) t fz) := by
      simp [World.setCell, Array.getElem?_modify, h]
    obtain ⟨⟨cs', a1, a2⟩, a3, a4, a5, a6, a7⟩ := heap_setCells b r (o + 1) (w.setCell ⟨b, o, none⟩ v) _ t fz h1
    refine ⟨⟨cs', a1, by rw [a2]; simp [setC]⟩, fun c hc => ?_, ?_, a5, a6, a7⟩
    · rw [World.setCells, a3 c hc]
      simp only [World.setCell, Array.getElem?_modify]
      rw [if_neg (by omega)]
    · rw [World.setCells, a4]; simp [World.setCell]

theorem ObjR.cells_there {x : Pl} {m : Mode} {cells : List Value} (k : ObjR μ h w x (.row m cells)) : x.off + cells.length ≤ x.size ∨ cells.length = 0 := by
  obtain ⟨cs, t, fz, h1, h2, h3, h4⟩ := k
  by_cases e : cells.length = 0
  · exact .inr e
  · left
    obtain ⟨v', q, _⟩ := h4 (cells.length - 1) cells[cells.length - 1] (List.getElem?_eq_getElem (by omega))
    have := (Array.getElem?_eq_some_iff.1 q).1
    omega

/-- Cells of a block, written in place: the whole of the story. -/
theorem setCells_step (s : Sim G μ h w) {b off : Nat} {x : Pl} {m : Mode} {cells vs vs' : List Value} (hb : μ b = some x) (ho : h[b]? = some (.row m cells)) (hm : (AObj.row m cells).rw)
    (hle : off + vs.length ≤ cells.length) (hv : VL μ h vs vs') :
    Step G μ h w μ (h.set b (.row m (setC cells off vs))) (w.setCells x.blk (x.off + off) vs') := by
  have hob := s.obj b x _ hb ho
  obtain ⟨cs, t, fz, h1, h2, h3, h4⟩ := hob
  obtain ⟨⟨cs', a1, a2⟩, a3, a4, a5, a6, a7⟩ := heap_setCells x.blk vs' (x.off + off) w cs t fz h1
  have hle1 : OLe (.row m cells) (.row m (setC cells off vs)) := ⟨rfl, by simp⟩
  refine Step.write s hb ho hm hle1 a5 a6 a7 a4 a3 ⟨cs', t, fz, a1, ?_, ?_, ?_⟩
  · have : cs'.toList.length = cs.toList.length := by rw [a2]; simp
    simpa [h2] using this
  · intro _
    have : cs'.toList.length = cs.toList.length := by rw [a2]; simp
    have e : cs'.size = cs.size := by simpa using this
    rw [e]; exact h3 hm
  · intro i v hi
    have hlen : cells.length = (setC cells off vs).length := by simp
    have hil : i < cells.length := by rw [hlen]; exact (List.getElem?_eq_some_iff.1 hi).1
    have hcs : x.off + off + vs'.length ≤ cs.toList.length := by
      by_cases e0 : vs.length = 0
      · have e1 : vs'.length = 0 := by rw [← hv.1]; exact e0
        obtain ⟨u, q, _⟩ := h4 i cells[i] (List.getElem?_eq_getElem hil)
        have := (Array.getElem?_eq_some_iff.1 q).1
        rw [setC_get _ _ _ _ hle] at hi
        simp only [Array.length_toList]
        obtain ⟨u2, q2, _⟩ := h4 (cells.length - 1) cells[cells.length - 1] (List.getElem?_eq_getElem (by omega))
        have := (Array.getElem?_eq_some_iff.1 q2).1
        omega
      · obtain ⟨u2, q2, _⟩ := h4 (off + vs.length - 1) cells[off + vs.length - 1] (List.getElem?_eq_getElem (by omega))
        have := (Array.getElem?_eq_some_iff.1 q2).1
        have e1 := hv.1
        simp only [Array.length_toList]
        omega
    rw [setC_get _ _ _ _ hle] at hi
    have hget : cs'[x.off + i]? = (setC cs.toList (x.off + off) vs')[x.off + i]? := by rw [← a2]; simp
    rw [hget, setC_get _ _ _ _ hcs]
    split at hi
    · rename_i q
      rw [if_pos (by have := hv.1; omega), show x.off + i - (x.off + off) = i - off by omega]
      obtain ⟨v', r1, r2⟩ := hv.get hi
      exact ⟨v', r1, r2.mono s.dom (fun _ _ k => k) (HLe.set ho hle1)⟩
    · rename_i q
      rw [if_neg (by have := hv.1; omega)]
      obtain ⟨v', r1, r2⟩ := h4 i v hi
      exact ⟨v', by simpa using r1, r2.mono s.dom (fun _ _ k => k) (HLe.set ho hle1)⟩

theorem setCells_run (s : Sim G μ h w) {b off : Nat} {x : Pl} {m : Mode} {cells vs vs' : List Value} (hb : μ b = some x) (ho : h[b]? = some (.row m cells)) (hm : (AObj.row m cells).rw)
    (hle : off + vs.length ≤ cells.length) (hv : VL μ h vs vs') (h1 : ∀ v ∈ vs', v.oneCell' = true) :
    (storeCells ⟨x.blk, x.off + off, none⟩ vs' 0).run P w = .ok () (w.setCells x.blk (x.off + off) vs') := by
  obtain ⟨cs, t, fz, k1, k2, k3, k4⟩ := s.obj b x _ hb ho
  have hin : ∀ j, j < vs'.length → x.off + off + j < cs.size := fun j hj => by
    obtain ⟨u, q, _⟩ := k4 (off + j) (cells[off + j]'(by have := hv.1; omega)) (List.getElem?_eq_getElem _)
    have := (Array.getElem?_eq_some_iff.1 q).1
    omega
  have := run_storeCells_cells (P := P) x.blk (x.off + off) vs' 0 w (fun j hj => by
    rw [cell_at k1, Array.getElem?_eq_getElem (by have := hin j hj; omega)]; rfl) (fun j hj => by
    simp only [World.frozen?, k1]
    have := k3 hm (x.off + off + 0 + j) (by simpa using hin j hj)
    simpa using this) h1
  simpa using this

theorem VL.oneCell {vs vs' : List Value} (k : VL μ h vs vs') (h1 : vs.all oneA = true) : ∀ v ∈ vs', v.oneCell' = true := by
  intro v' hv'
  obtain ⟨i, hi⟩ := List.getElem?_of_mem hv'
  have hlt : i < vs.length := by rw [k.1]; exact (List.getElem?_eq_some_iff.1 hi).1
  exact (k.2 i vs[i] v' (List.getElem?_eq_getElem hlt) hi).oneCell (List.all_eq_true.1 h1 _ (List.getElem_mem hlt))

theorem wrs_sim (s : Sim G μ h w) {b off : Nat} {x : Pl} {vs vs' : List Value} {h' : AHeap} (hb : μ b = some x) (hr : wrs h b off vs = some h') (hv : VL μ h vs vs') (h1 : vs.all oneA = true) :
    ∃ w', (storeCells ⟨x.blk, x.off + off, none⟩ vs' 0).run P w = .ok () w' ∧ Step G μ h w μ h' w' := by
  unfold wrs at hr
  split at hr
  · cases hr
  · rename_i m cells hnr ho
    split at hr
    · rename_i hle
      cases hr
      have hm : (AObj.row m cells).rw := by
        cases m <;> first | trivial | exact absurd ho (by intro e; exact hnr _ e)
      exact ⟨_, setCells_run s hb ho hm hle hv (hv.oneCell h1), setCells_step s hb ho hm hle hv⟩
    · cases hr
  · cases hr

/-- A new row of cells. -/
theorem newRow_sim (s : Sim G μ h w) (m : Mode) (t : TypeId) {vs : List Value} {cs : Array Value} (hv : vs.length ≤ cs.size) (hcs : ∀ (i : Nat) (v : Value), vs[i]? = some v → ∃ v', cs[i]? = some v' ∧ VR μ h v v') :
    ∃ μ', (newRow t cs).run P w = .ok ⟨w.heap.size, 0, none⟩ { w with heap := w.heap.push (.cells cs t) } ∧ μ' h.length = some ⟨w.heap.size, 0, cs.size⟩ ∧
      Step G μ h w μ' (h ++ [.row m vs]) { w with heap := w.heap.push (.cells cs t) } := by
  refine ⟨fun b => if b = h.length then some ⟨w.heap.size, 0, cs.size⟩ else μ b, ?_, by simp, ?_⟩
  · simp [newRow]
  · refine Step.alloc s (.row m vs) (.cells cs t) ⟨w.heap.size, 0, cs.size⟩ rfl fun μ' h' w' hr hh hw => ⟨cs, t, (0, 0), hw, rfl, fun _ j _ => by simp, fun i v hi => ?_⟩
    obtain ⟨v', a, b⟩ := hcs i v hi
    exact ⟨v', by simpa using a, b.mono s.dom hr hh⟩

end Go.Proofs.YtpnpccnbpgckhabGreat.B
