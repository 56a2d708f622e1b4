/-
  Append; and all instructions together.
-/
import Derived.Test.YtpnpccnbpgckhabGreatAb7
namespace Go.Proofs.YtpnpccnbpgckhabGreat.B
open Go
set_option linter.unusedVariables false
set_option linter.unusedSimpArgs false
variable {G : Nat} {P : Program} {μ : Ren} {h : AHeap} {w : World} {o : Oper} {ρ : Nat → Value}

theorem growBy_le (need : Nat) : ∀ (rounds c : Nat), c ≤ need + need / 4 + 512 → Builtin.growBy need rounds c ≤ need + need / 4 + 512
  | 0, c, hc => hc
  | rounds + 1, c, hc => by
    unfold Builtin.growBy
    split
    · exact hc
    · exact growBy_le need rounds _ (by omega)

theorem nextslicecap_le {need old : Nat} (ho : old < need) : Builtin.nextslicecap need old ≤ need + need / 4 + 512 := by
  unfold Builtin.nextslicecap
  split
  · omega
  · split
    · omega
    · exact growBy_le need 4 old (by omega)

theorem grownCap_ge (w : World) (need old : Nat) (e : TypeId) : need ≤ grownCap w need old e := by
  show need ≤ need + _
  exact Nat.le_add_right _ _

theorem appSrc_sim (s : Sim G μ h w) {sz n : Nat} {str : Bool} {tx : TypeId} {vs : List Value} {y y' : Value} (hk : if str then P.underlying tx = some .string else ∃ e', P.underlying tx = some (.slice e')) (hv : VR μ h y y') (hs : appSrc h sz str y = some (n, vs)) (h1 : vs.all oneA = true) :
    ∃ vs', Src P sz tx y' n vs' w ∧ VL μ h vs vs' := by
  unfold appSrc at hs
  split at hs
  · simp only [Option.some.injEq, Prod.mk.injEq] at hs
    obtain ⟨rfl, rfl⟩ := hs
    obtain ⟨e', he'⟩ := hk
    cases hv
    exact ⟨[], Src.ofNil w he' 0, VL.nil⟩
  · rename_i ad c
    simp only [Option.some.injEq, Prod.mk.injEq] at hs
    obtain ⟨rfl, rfl⟩ := hs
    obtain ⟨e', he'⟩ := hk
    have hz : ∀ (ad' : Addr) (c' : Nat), y' = .slice (some ad') 0 c' → ∃ vs', Src P sz tx y' 0 vs' w ∧ VL μ h [] vs' := fun ad' c' e => by
      subst e
      exact ⟨[], Src.ofSlice w he' ad' 0 c' [] (by simp) (fun j u hj => by simp at hj) (fun u hu => by simp at hu), VL.nil⟩
    cases hv with
    | slice => exact hz _ _ rfl
    | empty => exact hz _ _ rfl
    | void => exact hz _ _ rfl
  · rename_i b off n' c hne; clear hne
    simp only [Option.map_eq_some_iff, Prod.mk.injEq] at hs
    obtain ⟨us, hr, rfl, rfl⟩ := hs
    obtain ⟨e', he'⟩ := hk
    have hl : us.length = n' * sz := by
      unfold rds at hr
      split at hr
      · split at hr
        · cases hr; simp; omega
        · cases hr
      · cases hr
    cases hv with
    | slice _ _ _ cap' hb hc =>
      rename_i x
      unfold rds at hr
      split at hr
      · rename_i m cells ho
        split at hr
        · rename_i hle
          cases hr
          obtain ⟨cs, t, fz, k1, k2, k3, k4⟩ := s.obj b x _ hb ho
          have hget : ∀ j, j < n' * sz → ∃ v', cs[x.off + off + j]? = some v' ∧ VR μ h (cells[off + j]?.getD undef) v' := fun j hj => by
            obtain ⟨v', q1, q2⟩ := k4 (off + j) cells[off + j] (List.getElem?_eq_getElem (by omega))
            rw [← Nat.add_assoc] at q1
            exact ⟨v', q1, by rw [List.getElem?_eq_getElem (by omega)]; exact q2⟩
          let ws := (List.range (n' * sz)).map fun j => cs.getD (x.off + off + j) undef
          have hws : VL μ h ((cells.drop off).take (n' * sz)) ws := by
            refine ⟨by simp [ws]; omega, fun j v v' p q => ?_⟩
            have hj : j < n' * sz := by have := (List.getElem?_eq_some_iff.1 q).1; simpa [ws] using this
            obtain ⟨u, q1, q2⟩ := hget j hj
            rw [List.getElem?_take_of_lt hj, List.getElem?_drop] at p
            rw [p] at q2
            simp [ws, hj, q1] at q
            subst q; exact q2
          refine ⟨ws, Src.ofSlice w he' ⟨x.blk, x.off + off, none⟩ n' cap' ws (by simp [ws]) (fun j u hj => ?_) (hws.oneCell h1), hws⟩
          have hj' : j < n' * sz := by have := (List.getElem?_eq_some_iff.1 hj).1; simpa [ws] using this
          obtain ⟨u', q1, q2⟩ := hget j hj'
          rw [add_none, cell_at k1]
          simp [ws, hj', q1] at hj
          rw [q1, hj]
        · cases hr
      · cases hr
    | empty _ o' cap' hb hc =>
      rename_i x
      have : us = [] := List.eq_nil_of_length_eq_zero (by omega)
      subst this
      exact ⟨[], Src.ofSlice w he' ⟨x.blk, o', none⟩ 0 cap' [] (by simp) (fun j u hj => by simp at hj) (fun u hu => by simp at hu), VL.nil⟩
  · rename_i st
    split at hs
    · rename_i hsz
      simp only [Option.some.injEq, Prod.mk.injEq] at hs
      obtain ⟨rfl, rfl⟩ := hs
      have hst : P.underlying tx = some .string := hk
      cases hv
      subst hsz
      exact ⟨byteCells st, Src.ofString w hst st, by
        unfold byteCells
        refine VL.of_scalar (List.all_eq_true.2 fun v hv => ?_)
        obtain ⟨b, _, rfl⟩ := List.mem_map.1 hv
        rfl⟩
    · cases hs
  · cases hs

/-- The room of an append that takes a new row. -/
theorem grow_alloc (s : Sim G μ h w) {sz need old : Nat} {e : TypeId} {zv : Value} {cells : List Value} {cs : List Value} (hl : VL μ h cells cs) (hn : cells.length = need * sz) (hzs : zv.cells.size = sz) :
    ∃ μ' w', w' = (w.drew.alloc (.cells (cs.toArray ++ Builtin.zeroCells zv.cells (grownCap w need old e - need)) e)) ∧
      VR μ' (h ++ [.row (.grow sz) cells]) (.slice (some ⟨h.length, 0, none⟩) need need) (.slice (some ⟨w.heap.size, 0, none⟩) need (grownCap w need old e)) ∧ Step G μ h w μ' (h ++ [.row (.grow sz) cells]) w' := by
  have s1 := (Step.drawn s (w.drawn + 1)).sim
  obtain ⟨μ', k1, k2, k3⟩ := newRow_sim (P := default) s1 (.grow sz) e (vs := cells) (cs := cs.toArray ++ Builtin.zeroCells zv.cells (grownCap w need old e - need)) (by have := hl.1; simp; omega) (fun j u hj => by
    obtain ⟨u', r1, r2⟩ := hl.get hj
    have hlt := (List.getElem?_eq_some_iff.1 r1).1
    refine ⟨u', ?_, r2⟩
    rw [Array.getElem?_append_left (by simpa using hlt)]
    simpa using r1)
  refine ⟨μ', _, rfl, ?_, (Step.drawn s (w.drawn + 1)).trans k3⟩
  have hge := grownCap_ge w need old e
  have hx := VR.slice (μ := μ') (h := h ++ [.row (.grow sz) cells]) (x := ⟨w.heap.size, 0, (cs.toArray ++ Builtin.zeroCells zv.cells (grownCap w need old e - need)).size⟩) 0 need need (grownCap w need old e) k2 (by
    unfold capOK
    have e1 := hl.1
    have e2 : need * sz + (grownCap w need old e - need) * sz = grownCap w need old e * sz := by rw [← Nat.add_mul]; congr 1; omega
    simp [Builtin.zeroCells, hzs]
    omega)
  exact hx

theorem op_app {c : Call} {x y : Operand} {t tx e : TypeId} {sz by_ n : Nat} {zv : Value} {vs : List Value} {K : Value → AHeap → Prop} (ho : o.op = .call c) (hc : c.callee = .builtin .append) (ha : c.args.toList = [x, y]) (hat : c.argTypes.toList = [t, tx])
    (ht : P.underlying t = some (.slice e)) {str : Bool} (hk : if str then P.underlying tx = some .string else ∃ e', P.underlying tx = some (.slice e')) (hinf : infoOf P e = some (sz, by_)) (hz : (P.info? e).bind (·.zero) = some zv) (hzs : zv.cells.size = sz) (hx : okO G x = true) (hy : okO G y = true)
    (hs : appSrc h sz str (evO ρ y) = some (n, vs)) (h1 : vs.all oneA = true) (hkx : match evO ρ x with
    | .slice none 0 0 =>
      room n by_ ∧
        if n = 0 then K (.slice none 0 0) h else K (.slice (some ⟨h.length, 0, none⟩) n n) (h ++ [.row (.grow sz) vs])
    | .slice (some ⟨b, off, none⟩) len cap =>
      room (len + n) by_ ∧ len ≤ cap ∧
        match h[b]? with
        | some (.row (.grow s2) cells) =>
          s2 = sz ∧
            if len + n ≤ cap then off + (len + n) * sz ≤ cells.length ∧ K (.slice (some ⟨b, off, none⟩) (len + n) cap) (h.set b (.row (.grow s2) (setC cells (off + len * sz) vs)))
            else off + len * sz ≤ cells.length ∧ K (.slice (some ⟨h.length, 0, none⟩) (len + n) (len + n)) (h.set b .dead ++ [.row (.grow sz) ((cells.drop off).take (len * sz) ++ vs)])
        | some (.row _ cells) => cap < len + n ∧ off + len * sz ≤ cells.length ∧ K (.slice (some ⟨h.length, 0, none⟩) (len + n) (len + n)) (h ++ [.row (.grow sz) ((cells.drop off).take (len * sz) ++ vs)])
        | _ => False
    | _ => False) : ∃ v h', OpJ P G o ρ h v h' ∧ K v h' := by
  cases hq : P.info? e with
  | none => simp [infoOf, hq] at hinf
  | some inf =>
    simp only [infoOf, hq, Option.map_some, Option.some.injEq, Prod.mk.injEq] at hinf
    obtain ⟨rfl, rfl⟩ := hinf
    have hz' : inf.zero = some zv := by simpa [hq] using hz
    have hargs : c.args = #[x, y] := by rw [← Array.toArray_toList (xs := c.args), ha]
    have hats : c.argTypes = #[t, tx] := by rw [← Array.toArray_toList (xs := c.argTypes), hat]
    have hrun : ∀ (a : Act) (w w' : World) (v : Value), (Builtin.append_ #[t, tx] o.type #[a.eval x, a.eval y]).run P w = .ok v w' → (execOp a.eval o).run P w = .ok (.value v) w' := fun a w w' v hr => by
      simp [execOp, ho, resolve, hc, hargs, hats, invoke, builtin, hr]
    have hlen : vs.length = n * inf.size := by
      unfold appSrc at hs
      split at hs
      · simp only [Option.some.injEq, Prod.mk.injEq] at hs; obtain ⟨rfl, rfl⟩ := hs; simp
      · simp only [Option.some.injEq, Prod.mk.injEq] at hs; obtain ⟨rfl, rfl⟩ := hs; simp
      · simp only [Option.map_eq_some_iff, Prod.mk.injEq] at hs
        obtain ⟨us, hr, rfl, rfl⟩ := hs
        unfold rds at hr
        split at hr
        · split at hr
          · cases hr; simp; omega
          · cases hr
        · cases hr
      · split at hs
        · rename_i e1
          simp only [Option.some.injEq, Prod.mk.injEq] at hs; obtain ⟨rfl, rfl⟩ := hs
          rw [e1]; simp
        · cases hs
      · cases hs
    split at hkx
    · -- a nil slice
      rename_i he
      obtain ⟨⟨b1, b2⟩, hkx⟩ := hkx
      have hx0 : ∀ {μ : Ren} {w : World} {a : Act}, Sim G μ h w → SR μ h ρ a → a.eval x = .slice none 0 0 := by
        intro μ w a s r
        have q := evO_vr s r hx
        rw [he] at q
        generalize a.eval x = z at q ⊢
        cases q; rfl
      split at hkx
      · rename_i hn
        subst hn
        refine ⟨_, _, OpV.j fun μ w a s r => ⟨.slice none 0 0, hrun a w w _ ?_, .nilSlice⟩, hkx⟩
        obtain ⟨vs', k1, k2⟩ := appSrc_sim (P := P) s hk (evO_vr s r hy) hs h1
        have hf := k1.cells
        rw [hx0 s r]
        rcases k1.kind with ⟨e', hk'⟩ | hk' <;> simp [Builtin.append_, run_underlying ht, run_underlying hk', sizeOf, typeInfo, hq, k1.len, hf]
      · rename_i hn
        refine ⟨_, _, OpJ.of_value fun μ w a s r => ?_, hkx⟩
        obtain ⟨vs', k1, k2⟩ := appSrc_sim (P := P) s hk (evO_vr s r hy) hs h1
        have hgrow := run_append_grow_src (P := P) w t tx o.type e inf zv ht hq hz' none 0 0 [] (run_firstCells_none w.drew _ 0 0 0) (a.eval y) n vs' k1 (by omega) (by omega)
          (Nat.le_trans (Nat.mul_le_mul_right _ (nextslicecap_le (by omega))) (by simpa using b1))
        obtain ⟨μ', w', q1, q2, q3⟩ := grow_alloc s (need := 0 + n) (old := 0) (e := e) (zv := zv) k2 (by simpa using hlen) hzs
        subst q1
        refine ⟨_, μ', _, hrun a w _ _ ?_, by simpa using q2, q3⟩
        rw [hx0 s r, hgrow]
        simp
    · -- a slice with an address
      rename_i b off len cap he
      obtain ⟨⟨b1, b2⟩, hlc, hkx⟩ := hkx
      split at hkx
      · -- a row that may grow
        rename_i s2 cells hob
        obtain ⟨rfl, hkx⟩ := hkx
        split at hkx
        · -- surely room
          rename_i hroom
          obtain ⟨hfit, hkx⟩ := hkx
          refine ⟨_, _, OpJ.of_value fun μ w a s r => ?_, hkx⟩
          obtain ⟨vs', k1, k2⟩ := appSrc_sim (P := P) s hk (evO_vr s r hy) hs h1
          have q := evO_vr s r hx
          rw [he] at q
          generalize hg : a.eval x = vx at q
          have hle : off + len * inf.size + vs.length ≤ cells.length := by rw [hlen, Nat.add_assoc, ← Nat.add_mul]; exact hfit
          cases q with
          | slice _ _ _ cap' hb hcap =>
            rename_i z
            have hcc : cap ≤ cap' := by unfold capOK at hcap; rw [hob] at hcap; exact hcap.1
            have hm : (AObj.row (.grow inf.size) cells).rw := trivial
            have hst := setCells_step s hb hob hm hle k2
            obtain ⟨cs, ct, fz, o1, o2, o3, o4⟩ := s.obj b z _ hb hob
            have hin : ∀ j, j < vs'.length → z.off + (off + len * inf.size) + j < cs.size := fun j hj => by
              obtain ⟨u, p1, _⟩ := o4 (off + len * inf.size + j) (cells[off + len * inf.size + j]'(by have := k2.1; omega)) (List.getElem?_eq_getElem _)
              have := (Array.getElem?_eq_some_iff.1 p1).1
              omega
            have hroomr := run_append_room_src (P := P) w t tx o.type e inf ht hq z.blk (z.off + off) len cap' (a.eval y) n vs' k1 (by omega)
              (fun j hj => by rw [cell_at o1]; have := hin j hj; rw [Array.getElem?_eq_getElem (by omega)]; rfl)
              (fun j hj => by
                simp only [World.frozen?, o1]
                have := o3 hm (z.off + off + len * inf.size + j) (by have := hin j hj; omega)
                simpa using this)
            rw [Nat.add_assoc z.off off] at hroomr
            refine ⟨_, μ, _, hrun a w _ _ (by rw [hg]; exact hroomr), ?_, hst⟩
            refine VR.slice off _ _ _ hb ?_
            exact capOK.mono (s.dom _ _ hb) hst.hle hcap
          | empty _ o' cap' hb hcap =>
            rename_i z
            have hn0 : n = 0 := by omega
            subst hn0
            have hm : (AObj.row (.grow inf.size) cells).rw := trivial
            have hvs0 : vs = [] := List.eq_nil_of_length_eq_zero (by simpa using hlen)
            subst hvs0
            have hvs0' : vs' = [] := List.eq_nil_of_length_eq_zero (by rw [← k2.1]; rfl)
            subst hvs0'
            have hst := setCells_step s hb hob hm hle VL.nil
            have hroomr := run_append_room_src (P := P) w t tx o.type e inf ht hq z.blk o' 0 cap' (a.eval y) 0 [] k1 (by omega) (fun j hj => by simp at hj) (fun j hj => by simp at hj)
            refine ⟨_, μ, _, hrun a w _ _ (by rw [hg]; exact hroomr), ?_, hst⟩
            refine VR.empty off o' cap' hb ?_
            exact capE.mono (s.dom _ _ hb) hst.hle hcap
        · -- room or not
          rename_i hroom
          obtain ⟨hfit, hkx⟩ := hkx
          refine ⟨_, _, OpJ.of_value fun μ w a s r => ?_, hkx⟩
          obtain ⟨vs', k1, k2⟩ := appSrc_sim (P := P) s hk (evO_vr s r hy) hs h1
          have q := evO_vr s r hx
          rw [he] at q
          generalize hg : a.eval x = vx at q
          have hm : (AObj.row (.grow inf.size) cells).rw := trivial
          -- where the slice lies in the world
          obtain ⟨z, o', cap', hb, hva, hspace, hsame⟩ : ∃ z o' cap', μ b = some z ∧ vx = .slice (some ⟨z.blk, o', none⟩) len cap' ∧ o' + cap' * inf.size ≤ z.size ∧ (len = 0 ∨ o' = z.off + off) := by
            cases q with
            | slice _ _ _ cap' hb hcap =>
              rename_i z
              unfold capOK at hcap
              rw [hob] at hcap
              exact ⟨z, z.off + off, cap', hb, rfl, hcap.2, .inr rfl⟩
            | empty _ o' cap' hb hcap =>
              rename_i z
              unfold capE at hcap
              rw [hob] at hcap
              exact ⟨z, o', cap', hb, rfl, hcap, .inl rfl⟩
          obtain ⟨cs, ct, fz, o1, o2, o3, o4⟩ := s.obj b z _ hb hob
          have holdg : ∀ j, j < len * inf.size → ∃ v', cs[o' + j]? = some v' ∧ VR μ h (cells[off + j]?.getD undef) v' := fun j hj => by
            rcases hsame with rfl | rfl
            · simp at hj
            · obtain ⟨v', q1, q2⟩ := o4 (off + j) cells[off + j] (List.getElem?_eq_getElem (by omega))
              rw [← Nat.add_assoc] at q1
              exact ⟨v', q1, by rw [List.getElem?_eq_getElem (by omega)]; exact q2⟩
          by_cases hr : len + n ≤ cap'
          · have hsp : o' + len * inf.size + vs'.length ≤ cs.size := by
              rw [← k2.1, hlen, o2, Nat.add_assoc, ← Nat.add_mul]
              exact Nat.le_trans (Nat.add_le_add_left (Nat.mul_le_mul_right _ hr) _) hspace
            have hroomr := run_append_room_src (P := P) w t tx o.type e inf ht hq z.blk o' len cap' (a.eval y) n vs' k1 hr
              (fun j hj => by rw [cell_at o1, Array.getElem?_eq_getElem (by omega)]; rfl)
              (fun j hj => by
                simp only [World.frozen?, o1]
                have := o3 hm (o' + len * inf.size + j) (by omega)
                simpa using this)
            obtain ⟨⟨cs', a1, a2⟩, a3, a4, a5, a6, a7⟩ := heap_setCells z.blk vs' (o' + len * inf.size) w cs ct fz o1
            have hcs' : cs'.size = cs.size := by have := congrArg List.length a2; simpa using this
            have hst := Step.takeover s (y := ⟨z.blk, o', z.size⟩) (o' := .row (.grow inf.size) ((cells.drop off).take (len * inf.size) ++ vs)) hb hob hm trivial rfl a5 a6 a7 a4 a3 (fun μ' h' hr' hh' => by
              refine ⟨cs', ct, fz, a1, by rw [hcs']; exact o2, fun _ => by rw [hcs']; exact o3 hm, fun i v hi => ?_⟩
              have hg2 : cs'[o' + i]? = (setC cs.toList (o' + len * inf.size) vs')[o' + i]? := by rw [← a2]; simp
              rw [hg2, setC_get _ _ _ _ (by simpa using hsp)]
              by_cases hi2 : i < len * inf.size
              · rw [if_neg (by omega)]
                rw [List.getElem?_append_left (by simp; omega), List.getElem?_take_of_lt hi2, List.getElem?_drop] at hi
                obtain ⟨v', p1, p2⟩ := holdg i hi2
                rw [hi] at p2
                exact ⟨v', by simpa using p1, VR.mono s.dom hr' hh' p2⟩
              · have hlen1 : ((cells.drop off).take (len * inf.size)).length = len * inf.size := by simp; omega
                rw [List.getElem?_append_right (by omega), hlen1] at hi
                obtain ⟨v', p1, p2⟩ := k2.get hi
                have := (List.getElem?_eq_some_iff.1 p1).1
                rw [if_pos (by omega), show o' + i - (o' + len * inf.size) = i - len * inf.size by omega]
                exact ⟨v', p1, VR.mono s.dom hr' hh' p2⟩)
            refine ⟨_, _, _, hrun a w _ _ (by rw [hg, hva]; exact hroomr), ?_, hst⟩
            have hx := VR.slice (μ := fun c => if c = h.length then some (⟨z.blk, o', z.size⟩ : Pl) else μ c) (h := h.set b .dead ++ [.row (.grow inf.size) ((cells.drop off).take (len * inf.size) ++ vs)]) (b := h.length) (x := ⟨z.blk, o', z.size⟩) 0 (len + n) (len + n) cap' (by simp) (by
              unfold capOK
              simp
              exact ⟨hr, hspace⟩)
            exact hx
          · have hold : (Builtin.firstCells inf.size len (.slice (some ⟨z.blk, o', none⟩) len cap')).run P w.drew = .ok ((List.range (len * inf.size)).map fun j => cs.getD (o' + j) undef).toArray w.drew := by
              refine run_firstCells_some w.drew inf.size len ⟨z.blk, o', none⟩ len cap' _ (by simp) (fun j v hj => ?_)
              have hj' : j < len * inf.size := by have := (List.getElem?_eq_some_iff.1 hj).1; simpa using this
              obtain ⟨v', p1, _⟩ := holdg j hj'
              rw [add_none, World.cell?_drew, cell_at o1]
              simp [hj', p1] at hj
              rw [p1, hj]
            have hgrow := run_append_grow_src (P := P) w t tx o.type e inf zv ht hq hz' (some ⟨z.blk, o', none⟩) len cap' _ hold (a.eval y) n vs' k1 (by omega) (by omega)
              (Nat.le_trans (Nat.mul_le_mul_right _ (nextslicecap_le (by omega))) b1)
            have hst0 := Step.kill s hob (o := .row (.grow inf.size) cells) trivial
            have hl : VL μ (h.set b .dead) ((cells.drop off).take (len * inf.size) ++ vs) (((List.range (len * inf.size)).map fun j => cs.getD (o' + j) undef) ++ vs') := by
              refine VL.append ⟨by simp; omega, fun j v v' p q => ?_⟩ (k2.mono s.dom hst0.ren hst0.hle)
              have hj : j < len * inf.size := by have := (List.getElem?_eq_some_iff.1 q).1; simpa using this
              obtain ⟨u, p1, p2⟩ := holdg j hj
              rw [List.getElem?_take_of_lt hj, List.getElem?_drop] at p
              rw [p] at p2
              simp [hj, p1] at q
              subst q
              exact VR.mono s.dom hst0.ren hst0.hle p2
            obtain ⟨μ', w', q1, q2, q3⟩ := grow_alloc hst0.sim (need := len + n) (old := cap') (e := e) (zv := zv) hl (by simp [hlen, Nat.add_mul]; omega) hzs
            subst q1
            refine ⟨_, μ', _, hrun a w _ _ (by rw [hg, hva]; exact hgrow), by simpa using q2, hst0.trans q3⟩
      · -- a row that doesn't grow
        rename_i m cells hng hob
        obtain ⟨hlt, hfit, hkx⟩ := hkx
        refine ⟨_, _, OpJ.of_value fun μ w a s r => ?_, hkx⟩
        obtain ⟨vs', k1, k2⟩ := appSrc_sim (P := P) s hk (evO_vr s r hy) hs h1
        have q := evO_vr s r hx
        rw [he] at q
        generalize hg : a.eval x = vx at q
        obtain ⟨z, o', hb, hva, hsame⟩ : ∃ z o', μ b = some z ∧ vx = .slice (some ⟨z.blk, o', none⟩) len cap ∧ (len = 0 ∨ o' = z.off + off) := by
          cases q with
          | slice _ _ _ cap' hb hcap =>
            rename_i z
            unfold capOK at hcap
            rw [hob] at hcap
            have : cap' = cap := by
              split at hcap
              · rename_i e1; simp only [Option.some.injEq, AObj.row.injEq] at e1; exact absurd e1.1 (hng _)
              · rename_i e1; simp at e1
              · exact hcap
            subst this
            exact ⟨z, z.off + off, hb, rfl, .inr rfl⟩
          | empty _ o' cap' hb hcap =>
            rename_i z
            unfold capE at hcap
            rw [hob] at hcap
            have : cap' = 0 := by
              split at hcap
              · rename_i e1; simp only [Option.some.injEq, AObj.row.injEq] at e1; exact absurd e1.1 (hng _)
              · rename_i e1; simp at e1
              · exact hcap
            subst this
            exact ⟨z, o', hb, rfl, .inl rfl⟩
        obtain ⟨cs, ct, fz, o1, o2, o3, o4⟩ := s.obj b z _ hb hob
        have holdg : ∀ j, j < len * inf.size → ∃ v', cs[o' + j]? = some v' ∧ VR μ h (cells[off + j]?.getD undef) v' := fun j hj => by
          rcases hsame with rfl | rfl
          · simp at hj
          · obtain ⟨v', q1, q2⟩ := o4 (off + j) cells[off + j] (List.getElem?_eq_getElem (by omega))
            rw [← Nat.add_assoc] at q1
            exact ⟨v', q1, by rw [List.getElem?_eq_getElem (by omega)]; exact q2⟩
        have hold : (Builtin.firstCells inf.size len (.slice (some ⟨z.blk, o', none⟩) len cap)).run P w.drew = .ok ((List.range (len * inf.size)).map fun j => cs.getD (o' + j) undef).toArray w.drew := by
          refine run_firstCells_some w.drew inf.size len ⟨z.blk, o', none⟩ len cap _ (by simp) (fun j v hj => ?_)
          have hj' : j < len * inf.size := by have := (List.getElem?_eq_some_iff.1 hj).1; simpa using this
          obtain ⟨v', p1, _⟩ := holdg j hj'
          rw [add_none, World.cell?_drew, cell_at o1]
          simp [hj', p1] at hj
          rw [p1, hj]
        have hgrow := run_append_grow_src (P := P) w t tx o.type e inf zv ht hq hz' (some ⟨z.blk, o', none⟩) len cap _ hold (a.eval y) n vs' k1 (by omega) (by omega)
          (Nat.le_trans (Nat.mul_le_mul_right _ (nextslicecap_le (by omega))) b1)
        have hl : VL μ h ((cells.drop off).take (len * inf.size) ++ vs) (((List.range (len * inf.size)).map fun j => cs.getD (o' + j) undef) ++ vs') := by
          refine VL.append ⟨by simp; omega, fun j v v' p q => ?_⟩ k2
          have hj : j < len * inf.size := by have := (List.getElem?_eq_some_iff.1 q).1; simpa using this
          obtain ⟨u, p1, p2⟩ := holdg j hj
          rw [List.getElem?_take_of_lt hj, List.getElem?_drop] at p
          rw [p] at p2
          simp [hj, p1] at q
          subst q
          exact p2
        obtain ⟨μ', w', q1, q2, q3⟩ := grow_alloc s (need := len + n) (old := cap) (e := e) (zv := zv) hl (by simp [hlen, Nat.add_mul]; omega) hzs
        subst q1
        exact ⟨_, μ', _, hrun a w _ _ (by rw [hg, hva]; exact hgrow), q2, q3⟩
      · exact hkx.elim
    · exact hkx.elim

theorem flat_rep (z : List Value) (hz : 0 < z.length) : ∀ (n i : Nat), i < n * z.length → ((List.replicate n z).flatten)[i]? = z[i % z.length]?
  | 0, i, h => by simp at h
  | n + 1, i, h => by
    rw [List.replicate_succ, List.flatten_cons]
    by_cases q : i < z.length
    · rw [List.getElem?_append_left q, Nat.mod_eq_of_lt q]
    · rw [List.getElem?_append_right (by omega), flat_rep z hz n (i - z.length) (by rw [Nat.succ_mul] at h; omega), ← Nat.mod_eq_sub_mod (by omega)]
theorem zeroCells_list {zv : Value} {z : List Value} (hzc : zv.cells.toList = z) (n : Nat) : (Builtin.zeroCells zv.cells n).toList = (List.replicate n z).flatten := by
  have hs : zv.cells.size = z.length := by rw [← hzc]; simp
  apply List.ext_getElem?
  intro i
  by_cases h : i < n * z.length
  · have hz : 0 < z.length := Nat.pos_of_ne_zero fun e => by rw [e] at h; simp at h
    have hm : i % z.length < z.length := Nat.mod_lt _ hz
    rw [flat_rep z hz n i h]
    simp only [Builtin.zeroCells, Array.toList_map, Array.toList_range, List.getElem?_map, hs]
    rw [List.getElem?_range h]
    have hm2 : i % z.length < zv.cells.size := by rw [hs]; exact hm
    simp only [Option.map_some, getElem!_pos zv.cells (i % z.length) hm2]
    rw [List.getElem?_eq_getElem hm]
    congr 1
    subst hzc
    simp
  · rw [List.getElem?_eq_none (by simp [Builtin.zeroCells, hs]; omega), List.getElem?_eq_none (by simp; omega)]
theorem flat_all {n : Nat} {z : List Value} (h : z.all oneA = true) : ((List.replicate n z).flatten).all oneA = true := by
  refine List.all_eq_true.2 fun v hv => ?_
  obtain ⟨l, hl, hv⟩ := List.mem_flatten.1 hv
  rw [List.eq_of_mem_replicate hl] at hv
  exact List.all_eq_true.1 h v hv

theorem op_cpy {c : Call} {x y : Operand} {t tx e : TypeId} {sz by_ : Nat} {r : Nat × AHeap} (ho : o.op = .call c) (hc : c.callee = .builtin .copy) (ha : c.args.toList = [x, y]) (hat : c.argTypes.toList = [t, tx])
    (ht : P.underlying t = some (.slice e)) (hinf : infoOf P e = some (sz, by_)) (hx : okO G x = true) (hy : okO G y = true)
    (hs : cpyA h sz (evO ρ x) (evO ρ y) = some r) : OpJ P G o ρ h (.int .i64 r.1) r.2 := by
  refine OpJ.of_value fun μ w a s ra => ?_
  have hargs : c.args = #[x, y] := by rw [← Array.toArray_toList (xs := c.args), ha]
  have hats : c.argTypes = #[t, tx] := by rw [← Array.toArray_toList (xs := c.argTypes), hat]
  have hrun : ∀ (w w' : World) (v : Value), (Builtin.copy_ #[t, tx] o.type #[a.eval x, a.eval y]).run P w = .ok v w' → (execOp a.eval o).run P w = .ok (.value v) w' := fun w w' v hr => by
    simp [execOp, ho, resolve, hc, hargs, hats, invoke, builtin, hr]
  cases hq : P.info? e with
  | none => simp [infoOf, hq] at hinf
  | some inf =>
    simp only [infoOf, hq, Option.map_some, Option.some.injEq, Prod.mk.injEq] at hinf
    obtain ⟨rfl, rfl⟩ := hinf
    have qx := evO_vr s ra hx
    have qy := evO_vr s ra hy
    unfold cpyA at hs
    split at hs
    · rename_i d len cap sa n cap2 ex ey
      rw [ex] at qx; rw [ey] at qy
      generalize hgx : a.eval x = vx at qx
      generalize hgy : a.eval y = vy at qy
      have lx : ∃ d' c', vx = .slice d' len c' := by cases qx <;> exact ⟨_, _, rfl⟩
      have ly : ∃ d' c', vy = .slice d' n c' := by cases qy <;> exact ⟨_, _, rfl⟩
      split at hs
      · rename_i h0
        cases hs
        obtain ⟨d', c', rfl⟩ := lx
        obtain ⟨s', c2', rfl⟩ := ly
        have hl : ∀ (x : Addr), (loadCells x 0).run P w = .ok #[] w := fun x => by simpa using run_loadCells_list (P := P) w x [] (by simp)
        have h0' : Nat.min n len = 0 := h0
        refine ⟨.int .i64 (0 : Nat), μ, w, hrun w w _ ?_, .int _ _, Step.refl s⟩
        rw [hgx, hgy]
        cases d' <;> cases s' <;> simp [Builtin.copy_, run_underlying ht, Builtin.lenOf, Builtin.firstCells, sizeOf, typeInfo, hq, h0', storeCells, hl, goInt]
      · rename_i h0
        have hn0 : n ≠ 0 := fun e => h0 (by simp [e])
        have hl0 : len ≠ 0 := fun e => h0 (by simp [e])
        split at hs
        · rename_i b off b2 off2
          split at hs
          · rename_i vs hr
            split at hs
            · rename_i h1
              simp only [Option.map_eq_some_iff] at hs
              obtain ⟨h', hw, rfl⟩ := hs
              obtain ⟨z, c', hb, rfl⟩ : ∃ z c', μ b = some z ∧ vy = .slice (some ⟨z.blk, z.off + off, none⟩) n c' := by
                cases qy with
                | slice _ _ _ c' hb hc => exact ⟨_, c', hb, rfl⟩
                | empty => exact absurd rfl hn0
              obtain ⟨z2, c2', hb2, rfl⟩ : ∃ z c', μ b2 = some z ∧ vx = .slice (some ⟨z.blk, z.off + off2, none⟩) len c' := by
                cases qx with
                | slice _ _ _ c' hb hc => exact ⟨_, c', hb, rfl⟩
                | empty => exact absurd rfl hl0
              obtain ⟨hlen, vs', k1, k2⟩ := rds_sim (P := P) s hb hr
              obtain ⟨w', q1, q2⟩ := wrs_sim (P := P) s hb2 hw k2 h1
              refine ⟨.int .i64 (min n len : Nat), μ, w', hrun w w' _ ?_, .int _ _, q2⟩
              rw [hgx, hgy]
              have k1' : (loadCells ⟨z.blk, z.off + off, none⟩ (Nat.min n len * inf.size)).run P w = .ok vs'.toArray w := k1
              simp [Builtin.copy_, run_underlying ht, Builtin.lenOf, Builtin.firstCells, sizeOf, typeInfo, hq, k1', q1, goInt]
            · cases hs
          · cases hs
        · cases hs
    · cases hs

theorem op_clr {c : Call} {x : Operand} {t e : TypeId} {sz : Nat} {z : List Value} {h' : AHeap} (ho : o.op = .call c) (hc : c.callee = .builtin .clear) (ha : c.args.toList = [x]) (hat : c.argTypes.toList = [t])
    (ht : P.underlying t = some (.slice e)) (hz : zeroOf P e = some z) (hk : okZero z = true) (hx : okO G x = true)
    (hs : clrA h sz z (evO ρ x) = some h') : OpJ P G o ρ h undef h' := by
  refine OpJ.of_value fun μ w a s ra => ?_
  have hargs : c.args = #[x] := by rw [← Array.toArray_toList (xs := c.args), ha]
  have hats : c.argTypes = #[t] := by rw [← Array.toArray_toList (xs := c.argTypes), hat]
  have hrun : ∀ (w w' : World) (v : Value), (Builtin.clear_ #[t] o.type #[a.eval x]).run P w = .ok v w' → (execOp a.eval o).run P w = .ok (.value v) w' := fun w w' v hr => by
    simp [execOp, ho, resolve, hc, hargs, hats, invoke, builtin, hr]
  have qx := evO_vr s ra hx
  unfold clrA at hs
  split at hs
  · rename_i d cap ex
    cases hs
    rw [ex] at qx
    generalize hgx : a.eval x = vx at qx
    obtain ⟨d', c', rfl⟩ : ∃ d' c', vx = .slice d' 0 c' := by cases qx <;> exact ⟨_, _, rfl⟩
    refine ⟨_, μ, w, hrun w w (.tuple #[]) ?_, .any _, Step.refl s⟩
    rw [hgx]
    cases d' <;> simp [Builtin.clear_, run_underlying ht]
  · rename_i b off n cap hne ex
    rw [ex] at qx
    generalize hgx : a.eval x = vx at qx
    have hn0 : n ≠ 0 := fun e1 => by subst e1; exact hne rfl
    obtain ⟨z2, c2', hb2, rfl⟩ : ∃ z c', μ b = some z ∧ vx = .slice (some ⟨z.blk, z.off + off, none⟩) n c' := by
      cases qx with
      | slice _ _ _ c' hb hc => exact ⟨_, c', hb, rfl⟩
      | empty => exact absurd rfl hn0
    split at hs
    · rename_i h1
      obtain ⟨zv, hzr, hzc, inf, hi, hz3⟩ := zeroOf_run hz w
      have hzs : ((List.replicate n z).flatten).all scalarB = true := by
        refine List.all_eq_true.2 fun v hv => ?_
        obtain ⟨l, hl, hv⟩ := List.mem_flatten.1 hv
        rw [List.eq_of_mem_replicate hl] at hv
        exact List.all_eq_true.1 hk v hv
      obtain ⟨w', q1, q2⟩ := wrs_sim (P := P) s hb2 hs (VL.of_scalar hzs) (flat_all h1)
      refine ⟨_, μ, w', hrun w w' (.tuple #[]) ?_, .any _, q2⟩
      rw [hgx]
      have hzl : (Builtin.zeroCells zv.cells n).toList = (List.replicate n z).flatten := zeroCells_list hzc n
      obtain ⟨m, rfl⟩ : ∃ m, n = m + 1 := ⟨n - 1, by omega⟩
      simp [Builtin.clear_, run_underlying ht, hzr, hzl, q1]
    · cases hs
  · cases hs

end Go.Proofs.YtpnpccnbpgckhabGreat.B
