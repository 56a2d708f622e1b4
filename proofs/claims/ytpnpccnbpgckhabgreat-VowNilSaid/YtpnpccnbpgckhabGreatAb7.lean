/-
  Each instruction is met by the model's operation: slices, append, literals.
-/
import Derived.Test.YtpnpccnbpgckhabGreatAb6
import Derived.Laws.Tables
namespace Go.Proofs.YtpnpccnbpgckhabGreat.B
open Go
set_option linter.unusedVariables false
set_option linter.unusedSimpArgs false
variable {G : Nat} {P : Program} {μ : Ren} {h : AHeap} {w : World} {o : Oper} {ρ : Nat → Value}

/-- A bound of a slice expression, in the world: as the abstract one. -/
theorem intO_run (s : Sim G μ h w) {a : Act} (r : SR μ h ρ a) {x : Option Operand} {l : Option Int} (hx : okOs G x.toList = true) (hl : intO (x.map (evO ρ)) = some l) :
    (x = none ∧ l = none) ∨ ∃ y k n, x = some y ∧ l = some n ∧ a.eval y = .int k n := by
  cases x with
  | none => simp [intO] at hl; exact .inl ⟨rfl, hl.symm⟩
  | some y =>
    simp only [okOs, Option.toList, List.all_cons, List.all_nil, Bool.and_true] at hx
    have q := evO_vr s r hx
    simp only [Option.map_some] at hl
    cases e : evO ρ y with
    | int k n => rw [e] at q hl; simp [intO] at hl; exact .inr ⟨y, k, n, rfl, hl.symm, q.int_inv⟩
    | _ => rw [e] at hl; simp [intO] at hl

theorem bounds_run {sl : Bool} {len cap : Nat} {lo hi : Option Operand} {l u : Option Int} {a : Act} (hlo : (lo = none ∧ l = none) ∨ ∃ y k n, lo = some y ∧ l = some n ∧ a.eval y = .int k n)
    (hhi : (hi = none ∧ u = none) ∨ ∃ y k n, hi = some y ∧ u = some n ∧ a.eval y = .int k n) (h0 : 0 ≤ l.getD 0) (h1 : l.getD 0 ≤ u.getD len) (h2 : u.getD len ≤ len) (h3 : len ≤ cap) (w : World) :
    (Instr.sliceBounds sl len cap (lo.map a.eval) (hi.map a.eval) none).run P w = .ok ((l.getD 0).toNat, (u.getD len).toNat, cap) w := by
  rcases hlo with ⟨rfl, rfl⟩ | ⟨y, k, n, rfl, rfl, e⟩ <;> rcases hhi with ⟨rfl, rfl⟩ | ⟨y2, k2, n2, rfl, rfl, e2⟩
  · simp [Instr.sliceBounds]
  · simp only [Option.getD_none, Option.getD_some] at h0 h1 h2
    have : 0 ≤ n2 ∧ n2 ≤ (cap : Int) := by omega
    simp [Instr.sliceBounds, e2, Instr.sliceBound, asIntOf, this]
  · simp only [Option.getD_none, Option.getD_some] at h0 h1 h2
    have : 0 ≤ n ∧ n ≤ (len : Int) := by omega
    simp [Instr.sliceBounds, e, Instr.sliceBound, asIntOf, this]
  · simp only [Option.getD_none, Option.getD_some] at h0 h1 h2
    have t1 : 0 ≤ n2 ∧ n2 ≤ (cap : Int) := by omega
    have t2 : 0 ≤ n ∧ n ≤ ((n2.toNat : Nat) : Int) := by omega
    simp only [Option.map_some, e, e2, Instr.sliceBounds, Instr.sliceBound, asIntOf, Sem.run_bind, Sem.run_pure, Result.andThen_ok, Sem.run_ite, if_pos t1, if_pos t2, Option.getD_some]

theorem capOK.sub {b off cap cap' L sz : Nat} {y : Pl} (hc : capOK h b y off cap cap') (hs : slOK h b sz) (hlt : L < cap) : capOK h b y (off + L * sz) (cap - L) (cap' - L) := by
  unfold capOK slOK at *
  generalize h[b]? = q at *
  cases q with
  | none => simp only at hc ⊢; omega
  | some o =>
    cases o with
    | dead => simp only at hc ⊢; omega
    | map => simp only at hc ⊢; omega
    | row m cells =>
      cases m with
      | ro => simp only at hc ⊢; omega
      | fix => simp only at hc ⊢; omega
      | grow s2 =>
        simp only at hc hs ⊢
        subst hs
        have : L * s2 + (cap' - L) * s2 = cap' * s2 := by rw [← Nat.add_mul]; congr 1; omega
        omega

theorem capOK.toE {b off cap cap' L sz o' : Nat} {y : Pl} (hc : capOK h b y off cap cap') (hs : slOK h b sz) (hlt : cap = L) (ho' : (o' = y.off + off ∧ cap' = L) ∨ o' = y.off + off + L * sz) : capE h b y o' (cap' - L) := by
  unfold capOK capE slOK at *
  generalize h[b]? = q at *
  cases q with
  | none => simp only at hc ⊢; omega
  | some o =>
    cases o with
    | dead => trivial
    | map => simp only at hc ⊢; omega
    | row m cells =>
      cases m with
      | ro => simp only at hc ⊢; omega
      | fix => simp only at hc ⊢; omega
      | grow s2 =>
        simp only at hc hs ⊢
        subst hs
        have hm : L * s2 + (cap' - L) * s2 = cap' * s2 := by rw [← Nat.add_mul]; congr 1; omega
        rcases ho' with ⟨rfl, h9⟩ | rfl
        · have : cap' - L = 0 := by omega
          rw [this]; omega
        · omega

theorem op_sl {t e : TypeId} {x : Operand} {lo hi : Option Operand} {sz by_ len cap : Nat} {l u : Option Int} {aa : Option Addr} {K : Value → AHeap → Prop} (ho : o.op = .slice t x lo hi none) (ht : P.underlying t = some (.slice e)) (hinf : infoOf P e = some (sz, by_))
    (hx : okO G x = true) (hlo : okOs G lo.toList = true) (hhi : okOs G hi.toList = true) (he : evO ρ x = .slice aa len cap) (hl : intO (lo.map (evO ρ)) = some l) (hu : intO (hi.map (evO ρ)) = some u)
    (h0 : 0 ≤ l.getD 0) (h1 : l.getD 0 ≤ u.getD len) (h2 : u.getD len ≤ len) (h3 : len ≤ cap)
    (hk : slK h sz (l.getD 0).toNat (u.getD len).toNat cap K aa) : ∃ v, OpJ P G o ρ h v h ∧ K v h := by
  cases hq : P.info? e with
  | none => simp [infoOf, hq] at hinf
  | some inf =>
    simp only [infoOf, hq, Option.map_some, Option.some.injEq, Prod.mk.injEq] at hinf
    have hrun : ∀ (μ : Ren) (w : World) (a : Act), Sim G μ h w → SR μ h ρ a → ∀ aa' cap', a.eval x = .slice aa' len cap' → len ≤ cap' →
        (execOp a.eval o).run P w = .ok (.value (.slice (if cap' = (l.getD 0).toNat then aa' else aa'.map (·.add ((l.getD 0).toNat * sz))) ((u.getD len).toNat - (l.getD 0).toNat) (cap' - (l.getD 0).toNat))) w := by
      intro μ w a s r aa' cap' hx' hc'
      have hb := bounds_run (P := P) (sl := true) (intO_run s r hlo hl) (intO_run s r hhi hu) h0 h1 h2 hc' w
      simp only [execOp, ho, Option.map_none, Sem.run_bind, Instr.sliceAt, run_underlying ht, Result.andThen_ok, Instr.slice, hx', hb, sizeOf, typeInfo, run_program, hq, Sem.run_pure, hinf.1]
    cases aa with
    | none =>
      obtain ⟨hc, hk⟩ := hk
      refine ⟨_, (OpV.j fun μ w a s r => ?_), hk⟩
      have q := evO_vr s r hx
      rw [he] at q
      generalize hg : a.eval x = vx at q
      cases q
      have e1 : (l.getD 0).toNat = 0 := by omega
      have e2 : (u.getD ((0 : Nat) : Int)).toNat = 0 := by omega
      refine ⟨.slice none 0 0, ?_, .nilSlice⟩
      rw [hrun μ w a s r none 0 hg (by omega), e1, e2]
      simp
    | some ad =>
      obtain ⟨b, off, sp⟩ := ad
      cases sp with
      | some _ => exact hk.elim
      | none =>
        obtain ⟨hs, hk⟩ := hk
        refine ⟨_, (OpV.j fun μ w a s r => ?_), hk⟩
        have q := evO_vr s r hx
        rw [he] at q
        generalize hg : a.eval x = vx at q
        generalize hL : (l.getD 0).toNat = L at *
        generalize hU : (u.getD len).toNat = U at *
        have hUl : U ≤ len := by omega
        have hLU : L ≤ U := by omega
        have hblt : ∀ {y : Pl}, μ b = some y → b < h.length := fun k => s.dom _ _ k
        cases q with
        | slice _ _ _ cap' hb hc =>
          rename_i y
          have hcc : cap ≤ cap' := by
            unfold capOK at hc
            split at hc
            · exact hc.1
            · exact hc
            · omega
          refine ⟨_, hrun μ w a s r _ cap' hg (by omega), ?_⟩
          by_cases hlt : L < cap
          · rw [if_pos hlt, if_neg (by omega), Option.map_some, add_none, Nat.add_assoc]
            refine .slice _ _ _ _ hb ?_
            exact hc.sub hs hlt
          · rw [if_neg hlt]
            have e1 : U - L = 0 := by omega
            have e2 : cap - L = 0 := by omega
            rw [e1, e2]
            have hE : ∀ o', (o' = y.off + off ∧ cap' = L) ∨ o' = y.off + off + L * sz → capE h b y o' (cap' - L) := fun o' ho' => hc.toE hs (by omega) ho'
            by_cases h9 : cap' = L
            · rw [if_pos h9]
              exact .empty _ _ _ hb (hE _ (.inl ⟨rfl, h9⟩))
            · rw [if_neg h9, Option.map_some, add_none]
              exact .empty _ _ _ hb (hE _ (.inr rfl))
        | empty _ o' cap' hb hc =>
          rename_i y
          have e0 : L = 0 := by omega
          have e1 : U - L = 0 := by omega
          refine ⟨_, hrun μ w a s r _ cap' hg (by omega), ?_⟩
          subst e0
          simp only [Nat.sub_zero, Nat.zero_mul, Nat.not_lt_zero, if_false]
          have : (if cap' = 0 then some (⟨y.blk, o', none⟩ : Addr) else Option.map (fun (x : Addr) => x.add 0) (some (⟨y.blk, o', none⟩ : Addr))) = some ⟨y.blk, o', none⟩ := by
            split
            · rfl
            · simp [add_none]
          rw [this]
          have e2 : U = 0 := by omega
          rw [e2]
          exact .empty _ _ _ hb hc

theorem madeCells_flat (z : Array Value) (n : Nat) (hz : 0 < z.size) : (madeCells z (n * z.size)).toList = (List.replicate n z.toList).flatten := by
  apply List.ext_getElem?
  intro i
  induction n generalizing i with
  | zero => simp [madeCells]
  | succ n ih =>
    rw [List.replicate_succ, List.flatten_cons]
    have hlen : ∀ m, (madeCells z m).toList.length = m := fun m => by simp [size_madeCells]
    have hget : ∀ m i, i < m → (madeCells z m).toList[i]? = some (z[i % z.size]!) := fun m i hi => by simp [madeCells, hi]
    by_cases hi : i < z.size
    · rw [hget _ _ (by rw [Nat.succ_mul]; omega), List.getElem?_append_left (by simpa using hi)]
      simp [Nat.mod_eq_of_lt hi, hi]
    · rw [List.getElem?_append_right (by simpa using Nat.le_of_not_lt hi)]
      rw [← ih (i - z.toList.length)]
      simp only [Array.length_toList]
      by_cases h2 : i < (n + 1) * z.size
      · rw [hget _ _ h2, hget _ _ (by rw [Nat.succ_mul] at h2; omega)]
        congr 2
        rw [Nat.mod_eq_sub_mod (by omega)]
      · rw [List.getElem?_eq_none (by rw [hlen]; omega), List.getElem?_eq_none (by rw [hlen]; rw [Nat.succ_mul] at h2; omega)]

theorem okZero_flat {z : List Value} (hk : okZero z = true) (n : Nat) : ((List.replicate n z).flatten).all scalarB = true := by
  have := okZero_scalar hk
  simp only [List.all_eq_true, List.mem_flatten, List.mem_replicate] at this ⊢
  rintro v ⟨l, ⟨_, rfl⟩, hv⟩
  exact this v hv

theorem op_mkslice {t e : TypeId} {x y : Operand} {z : List Value} {sz by_ : Nat} {l c : Int} (ho : o.op = .makeSlice t x y) (ht : P.underlying t = some (.slice e)) (hinf : infoOf P e = some (sz, by_)) (hz : zeroOf P e = some z) (hk : okZero z = true) (hzl : z.length = sz) (hsz : 0 < sz)
    (hx : okO G x = true) (hy : okO G y = true) (he : evO ρ x = .int .i64 l) (hf : evO ρ y = .int .i64 c) (h0 : 0 ≤ l) (h1 : l ≤ c) (h2 : c ≤ 9223372036854775807) (h3 : (by_ : Int) * c ≤ 281474976710656) :
    OpJ P G o ρ h (.slice (some ⟨h.length, 0, none⟩) l.toNat c.toNat) (h ++ [.row (.grow sz) ((List.replicate c.toNat z).flatten)]) := by
  refine OpJ.of_value fun μ w a s r => ?_
  have q := evO_vr s r hx
  have q2 := evO_vr s r hy
  rw [he] at q
  rw [hf] at q2
  obtain ⟨zv, _, hz2, i, hi, hz3⟩ := zeroOf_run hz w
  simp only [infoOf, hi, Option.map_some, Option.some.injEq, Prod.mk.injEq] at hinf
  have hzs : zv.cells.size = sz := by rw [← hzl, ← hz2]; simp
  have hm := run_make (P := P) w t e i zv ht hi hz3 .i64 .i64 l c h0 h1 (by rw [hinf.2]; exact h3) h2
  have hfl : (madeCells zv.cells (c.toNat * i.size)).toList = (List.replicate c.toNat z).flatten := by
    have : i.size = zv.cells.size := by omega
    rw [this, madeCells_flat _ _ (by omega), hz2]
  have hl : VL μ h ((List.replicate c.toNat z).flatten) (madeCells zv.cells (c.toNat * i.size)).toList := hfl ▸ VL.of_scalar (hfl ▸ okZero_flat hk _)
  obtain ⟨μ', k1, k2, k3⟩ := newRow_sim (P := P) s (.grow sz) e (vs := (List.replicate c.toNat z).flatten) (cs := madeCells zv.cells (c.toNat * i.size)) (by rw [← hfl]; simp) (fun j u hj => by
    obtain ⟨u', q1, q2⟩ := hl.get hj
    exact ⟨u', by simpa using q1, q2⟩)
  refine ⟨.slice (some ⟨w.heap.size, 0, none⟩) l.toNat c.toNat, μ', _, ?_, ?_, k3⟩
  · simp [execOp, ho, q.int_inv, q2.int_inv, hm]
  · refine VR.slice (x := ⟨w.heap.size, 0, (madeCells zv.cells (c.toNat * i.size)).size⟩) 0 _ _ _ k2 ?_
    unfold capOK
    simp [size_madeCells, hinf.1]

/-- Parts of a literal, laid into the zero cells. -/
theorem fill_sim (s : Sim G μ h w) {a : Act} (r : SR μ h ρ a) (place : Nat → Option (Nat × Nat)) : ∀ (parts : List (Nat × Operand)) (ps : List (Nat × Nat × Operand)), parts.mapM (fun p => (place p.1).map fun q => (q.1, q.2, p.2)) = some ps → okOs G (parts.map (·.2)) = true →
    ∀ {as cs : List Value} {bs : Array Value}, VL μ h as bs.toList → fillA ρ as ps = some cs → ∃ ds, Instr.fill place bs (parts.map fun p => (p.1, a.eval p.2)) = some ds ∧ VL μ h cs ds.toList
  | [], ps, hp, hok, as, cs, bs, hl, hf => by
    simp at hp
    subst hp
    simp [fillA] at hf
    subst hf
    exact ⟨bs, by simp [Instr.fill], hl⟩
  | p :: parts, ps, hp, hok, as, cs, bs, hl, hf => by
    simp only [List.mapM_cons, Option.pure_def, Option.bind_eq_bind, Option.bind_eq_some_iff, Option.map_eq_some_iff, Option.some.injEq] at hp
    obtain ⟨q, ⟨pl, hpl, rfl⟩, qs, hqs, rfl⟩ := hp
    simp only [List.map_cons, okOs, List.all_cons, Bool.and_eq_true] at hok
    simp only [fillA] at hf
    split at hf
    · rename_i vs hvs
      split at hf
      · rename_i hc
        have hv := (evO_vr s r hok.1).cells hvs
        have hl2 := hv.setC pl.1 hl
        have e1 : (a.eval p.2).cells.size = pl.2 := by have := hv.1; simp at this; omega
        have e2 : ¬ ((a.eval p.2).cells.size ≠ pl.2 ∨ pl.1 + (a.eval p.2).cells.size > bs.size) := by
          have := hl.1
          simp at this
          omega
        have hfold : ∀ (vs : List Value) (k : Nat) (bs : Array Value), ((vs.zipIdx k).foldl (fun cs (x : Value × Nat) => cs.setIfInBounds (pl.1 + x.2) x.1) bs).toList = setC bs.toList (pl.1 + k) vs := by
          intro vs
          induction vs with
          | nil => intro k bs; rfl
          | cons v vs ih =>
            intro k bs
            simp only [List.zipIdx_cons, List.foldl_cons, ih, setC, Array.toList_setIfInBounds]
            rfl
        have hfold2 : (((a.eval p.2).cells.zipIdx.foldl (fun cs (x : Value × Nat) => cs.setIfInBounds (pl.1 + x.2) x.1) bs)).toList = setC bs.toList pl.1 (a.eval p.2).cells.toList := by
          rw [← Array.foldl_toList, Array.toList_zipIdx]
          simpa using hfold (a.eval p.2).cells.toList 0 bs
        obtain ⟨ds, k1, k2⟩ := fill_sim s r place parts qs hqs hok.2 (as := setC as pl.1 vs) (bs := (a.eval p.2).cells.zipIdx.foldl (fun cs (x : Value × Nat) => cs.setIfInBounds (pl.1 + x.2) x.1) bs) (by rw [hfold2]; exact hl2) hf
        refine ⟨ds, ?_, k2⟩
        simp only [List.map_cons, Instr.fill, hpl]
        rw [if_neg (by simpa only [Bool.or_eq_true, decide_eq_true_eq] using e2)]
        exact k1
      · cases hf
    · cases hf

theorem op_build {t : TypeId} {parts : Array (Nat × Operand)} {z cs : List Value} {ps : List (Nat × Nat × Operand)} {place : Nat → Option (Nat × Nat)} (ho : o.op = .build t parts) (hz : zeroOf P t = some z) (hk : okZero z = true) (hok : okOs G (parts.toList.map (·.2)) = true)
    (hplace : (∃ fs places, P.underlying t = some (.struct fs) ∧ fieldsOf P t = some places ∧ place = (places.toArray[·]?)) ∨ (∃ n e ie, P.underlying t = some (.array n e) ∧ P.info? e = some ie ∧ place = fun i => some (i * ie.size, ie.size)))
    (hp : parts.toList.mapM (fun p => (place p.1).map fun q => (q.1, q.2, p.2)) = some ps) (hf : fillA ρ z ps = some cs) : OpV P G o ρ h (.agg cs.toArray) := by
  intro μ w a s r
  obtain ⟨zv, _, hz2, i, hi, hz3⟩ := zeroOf_run hz w
  have hl : VL μ h z zv.cells.toList := hz2 ▸ VL.of_scalar (hz2 ▸ okZero_scalar hk)
  obtain ⟨ds, k1, k2⟩ := fill_sim s r place parts.toList ps hp hok hl hf
  refine ⟨.agg ds, ?_, VL.agg (by simpa using k2)⟩
  have hb : P.built t (parts.map fun p => (p.1, a.eval p.2)).toList = some ds := by
    rcases hplace with ⟨fs, places, h1, h2, rfl⟩ | ⟨n, e, ie, h1, h2, rfl⟩
    · unfold fieldsOf at h2
      rw [h1] at h2
      simp only [Program.built, hi, h1, hz3, h2]
      simpa using k1
    · simp only [Program.built, hi, h1, hz3, h2]
      simpa using k1
  have := run_build (P := P) w t (parts.map fun p => (p.1, a.eval p.2)) ds hb
  simp only [execOp, ho, Sem.run_bind]
  rw [this]
  rfl

theorem mapM_some {α β : Type} (f : α → β) : ∀ l : List α, (l.mapM fun x => some (f x)) = some (l.map f)
  | [] => rfl
  | a :: l => by simp [List.mapM_cons, mapM_some f l]

theorem op_row {t e : TypeId} {len : Nat} {parts : Array (Nat × Operand)} {z cs : List Value} {sz by_ : Nat} (ho : o.op = .buildSlice t len parts) (ht : P.underlying t = some (.slice e)) (hinf : infoOf P e = some (sz, by_)) (hz : zeroOf P e = some z) (hk : okZero z = true) (hok : okOs G (parts.toList.map (·.2)) = true)
    (hzl : z.length = sz) (hsz : 0 < sz) (hmax : len * sz ≤ 2 ^ 24) (hf : fillA ρ ((List.replicate len z).flatten) (parts.toList.map fun p => (p.1 * sz, sz, p.2)) = some cs) :
    OpJ P G o ρ h (.slice (some ⟨h.length, 0, none⟩) len len) (h ++ [.row (.grow sz) cs]) := by
  refine OpJ.of_value fun μ w a s r => ?_
  obtain ⟨zv, hz1, hz2, i, hi, hz3⟩ := zeroOf_run hz w
  simp only [infoOf, hi, Option.map_some, Option.some.injEq, Prod.mk.injEq] at hinf
  have hzs : zv.cells.size = sz := by rw [← hzl, ← hz2]; simp
  have hfl : (madeCells zv.cells (len * sz)).toList = (List.replicate len z).flatten := by
    rw [← hzs, madeCells_flat _ _ (by omega), hz2]
  have hl : VL μ h ((List.replicate len z).flatten) (madeCells zv.cells (len * sz)).toList := hfl ▸ VL.of_scalar (hfl ▸ okZero_flat hk _)
  obtain ⟨ds, k1, k2⟩ := fill_sim s r (fun i => some (i * sz, sz)) parts.toList (parts.toList.map fun p => (p.1 * sz, sz, p.2)) (mapM_some _ _) hok hl hf
  obtain ⟨μ', q1, q2, q3⟩ := newRow_sim (P := P) s (.grow sz) e (vs := cs) (cs := ds) (by have := k2.1; simp at this; omega) (fun j u hj => by
    obtain ⟨u', r1, r2⟩ := k2.get hj
    exact ⟨u', by simpa using r1, r2⟩)
  have hds : ds.size = len * sz := by
    have e1 : ∀ (ps : List (Nat × Nat × Operand)) (as : List Value) {cs}, fillA ρ as ps = some cs → cs.length = as.length := by
      intro ps
      induction ps with
      | nil => intro as cs hc; simp [fillA] at hc; subst hc; rfl
      | cons p ps ih =>
        intro as cs hc
        simp only [fillA] at hc
        split at hc
        · split at hc
          · rw [ih _ hc]; simp
          · cases hc
        · cases hc
    have := e1 _ _ hf
    rw [← hfl] at this
    have h3 := k2.1
    simp [size_madeCells] at this h3
    omega
  refine ⟨.slice (some ⟨w.heap.size, 0, none⟩) len len, μ', _, ?_, ?_, q3⟩
  · have hmax' : ¬ (len * i.size > 2 ^ 24) := by rw [hinf.1]; omega
    have hfill : Instr.fill (fun j => some (j * i.size, i.size)) (madeCells zv.cells (len * i.size)) (parts.map fun p => (p.1, a.eval p.2)).toList = some ds := by
      rw [hinf.1]; simpa using k1
    simp only [execOp, ho, Sem.run_bind, Instr.buildSlice, run_underlying ht, Result.andThen_ok, sizeOf, typeInfo, run_program, hi, Sem.run_pure, Sem.run_ite, if_neg hmax']
    by_cases h9 : len * i.size = 0
    · have e0 : madeCells zv.cells (len * i.size) = (Array.range (len * i.size)).map (fun j => (#[] : Array Value)[j % (#[] : Array Value).size]!) := by rw [h9]; simp [madeCells]
      rw [e0] at hfill
      simp only [h9, if_true, Sem.run_pure, Result.andThen_ok] at hfill ⊢
      rw [hfill]
      simp [q1]
    · simp only [h9, if_false, Sem.run_bind, hz1, Result.andThen_ok, Sem.run_pure]
      unfold madeCells at hfill
      rw [hfill]
      simp [q1]
  · refine VR.slice (x := ⟨w.heap.size, 0, ds.size⟩) 0 _ _ _ q2 ?_
    unfold capOK
    simp [hds]

end Go.Proofs.YtpnpccnbpgckhabGreat.B
