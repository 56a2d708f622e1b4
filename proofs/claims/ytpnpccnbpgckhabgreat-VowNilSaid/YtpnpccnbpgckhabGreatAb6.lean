/-
  Each instruction is met by the model's operation: second part.
-/
import Derived.Test.YtpnpccnbpgckhabGreatAb5
import Derived.Deep.AppendSrc
import Derived.Laws.BytesString
namespace Go.Proofs.YtpnpccnbpgckhabGreat.B
open Go
set_option linter.unusedVariables false
set_option linter.unusedSimpArgs false
variable {G : Nat} {P : Program} {μ : Ren} {h : AHeap} {w : World} {o : Oper} {ρ : Nat → Value}

theorem mapM_get {α β : Type} {f : α → Option β} : ∀ {l : List α} {r : List β}, l.mapM f = some r → ∀ i : Nat, (l[i]?).bind f = r[i]?
  | [], r, h, i => by simp at h; subst h; simp
  | a :: l, r, h, i => by
    simp only [List.mapM_cons, Option.pure_def, Option.bind_eq_bind, Option.bind_eq_some_iff, Option.some.injEq] at h
    obtain ⟨b, hb, bs, hbs, rfl⟩ := h
    cases i with
    | zero => simp [hb]
    | succ i => simpa using mapM_get hbs i

theorem fieldsOf_get {t : TypeId} {fs : Array Field} {qs : List (Nat × Nat)} (ht : P.underlying t = some (.struct fs)) (hq : fieldsOf P t = some qs) {i off sz : Nat} (hi : qs[i]? = some (off, sz)) :
    ∃ f inf, fs[i]? = some f ∧ P.info? f.type = some inf ∧ f.offset = off ∧ inf.size = sz := by
  unfold fieldsOf at hq
  rw [ht] at hq
  have := mapM_get hq i
  rw [hi] at this
  simp only [Array.getElem?_toList, Option.bind_eq_some_iff, Option.map_eq_some_iff, Prod.mk.injEq] at this
  obtain ⟨f, h1, inf, h2, h3, h4⟩ := this
  exact ⟨f, inf, h1, h2, h3, h4⟩

theorem op_fld {t : TypeId} {x : Operand} {i off sz b ob : Nat} {fs : Array Field} {qs : List (Nat × Nat)} (ho : o.op = .fieldAddr t x i) (hx : okO G x = true) (ht : P.underlying t = some (.struct fs)) (hq : fieldsOf P t = some qs)
    (hi : qs[i]? = some (off, sz)) (h0 : 0 < sz) (he : evO ρ x = .pointer (some ⟨b, ob, none⟩)) : OpV P G o ρ h (.pointer (some ⟨b, ob + off, none⟩)) := by
  intro μ w a s r
  have q := evO_vr s r hx
  rw [he] at q
  obtain ⟨y, h1, h2⟩ := q.ptr_inv
  obtain ⟨f, inf, k1, k2, k3, k4⟩ := fieldsOf_get ht hq hi
  refine ⟨.pointer (some ⟨y.blk, y.off + (ob + off), none⟩), ?_, .ptr _ h1⟩
  have hne : inf.size ≠ 0 := by omega
  simp [execOp, ho, Instr.fieldAt, run_underlying ht, k1, Instr.sureAddr, h2, fieldPlace, sizeOf, typeInfo, k2, hne, add_none, k3, Nat.add_assoc]

theorem aggOf_vl {agg : Bool} {vs vs' : List Value} {v : Value} (hl : VL μ h vs vs') (hv : aggOf agg vs = some v) : ∃ v', aggOf agg vs' = some v' ∧ VR μ h v v' := by
  cases agg with
  | true => simp [aggOf] at hv ⊢; subst hv; exact VL.agg (by simpa using hl)
  | false =>
    simp only [aggOf, Bool.false_eq_true, if_false] at hv
    split at hv
    · cases hv
      rename_i u
      cases vs' with
      | nil => simp [VL] at hl
      | cons c r =>
        cases r with
        | nil => exact ⟨c, rfl, hl.2 0 _ c rfl rfl⟩
        | cons => simp [VL] at hl
    · cases hv

theorem VL.take_drop {as bs : List Value} (l : VL μ h as bs) (i n : Nat) : VL μ h ((as.drop i).take n) ((bs.drop i).take n) := by
  refine ⟨by simp [l.1], fun j v v' p q => ?_⟩
  rw [List.getElem?_take] at p q
  split at p
  · rw [List.getElem?_drop] at p
    rw [if_pos (by assumption), List.getElem?_drop] at q
    exact l.2 _ v v' p q
  · cases p

theorem part_run {t : TypeId} {d : TypeDesc} {inf : TypeInfo} {cs : Array Value} {off : Nat} {v : Value} (hd : P.underlying t = some d) (hi : P.info? t = some inf) (hle : off + inf.size ≤ cs.size)
    (hv : aggOf (isAggD d) ((cs.toList.drop off).take inf.size) = some v) (w : World) : (Go.part t cs off).run P w = .ok v w := by
  have hagg : (isAgg t).run P w = .ok (isAggD d) w := by
    unfold isAgg
    rw [Sem.run_bind, run_underlying hd w]
    cases d <;> simp [isAggD]
  unfold Go.part
  cases hq : isAggD d with
  | true =>
    rw [hq] at hv hagg
    simp only [aggOf, if_true, Option.some.injEq] at hv
    subst hv
    simp only [Sem.run_bind, hagg, Result.andThen_ok, if_true, sizeOf, typeInfo, run_program, hi, Sem.run_pure]
    congr 2
    apply Array.ext'
    simp [List.drop_take]
  | false =>
    rw [hq] at hv hagg
    simp only [aggOf, Bool.false_eq_true, if_false] at hv
    split at hv
    · rename_i u e
      cases hv
      have hl : ((cs.toList.drop off).take inf.size)[0]? = some v := by rw [e]; rfl
      rw [List.getElem?_take] at hl
      split at hl
      · rw [List.getElem?_drop] at hl
        simp only [Nat.add_zero, Array.getElem?_toList] at hl
        simp [Sem.run_bind, hagg, hl]
      · cases hl
    · cases hv

theorem op_part {t : TypeId} {x : Operand} {i sz by_ : Nat} {fs : Array Field} {f : Field} {d : TypeDesc} {cs : Array Value} {v : Value} (ho : o.op = .field t x i) (hx : okO G x = true) (ht : P.underlying t = some (.struct fs)) (hi : fs[i]? = some f)
    (hd : P.underlying f.type = some d) (hinf : infoOf P f.type = some (sz, by_)) (he : evO ρ x = .agg cs) (hle : f.offset + sz ≤ cs.size) (hv : aggOf (isAggD d) ((cs.toList.drop f.offset).take sz) = some v) : OpV P G o ρ h v := by
  intro μ w a s r
  have q := evO_vr s r hx
  rw [he] at q
  obtain ⟨ds, h1, h2⟩ := q.agg_inv
  cases hq : P.info? f.type with
  | none => simp [infoOf, hq] at hinf
  | some inf =>
    simp [infoOf, hq] at hinf
    obtain ⟨v', k1, k2⟩ := aggOf_vl (h2.take_drop f.offset sz) hv
    refine ⟨v', ?_, k2⟩
    have hsz : ds.size = cs.size := by have := h2.1; simpa using this.symm
    have := part_run (P := P) hd hq (by omega) (hinf.1 ▸ k1) w
    simp [execOp, ho, Instr.field, run_underlying ht, hi, asAgg, h1, this]

theorem VR.slice_inv {a : Option Addr} {len cap : Nat} {v' : Value} (k : VR μ h (.slice a len cap) v') : ∃ a' cap', v' = .slice a' len cap' := by
  cases k <;> exact ⟨_, _, rfl⟩

theorem op_ixs {t e : TypeId} {x i : Operand} {sz by_ b ob len cap : Nat} {kk : IntKind} {n : Int} (ho : o.op = .indexAddr t x i) (hx : okO G x = true) (hi : okO G i = true) (ht : P.underlying t = some (.slice e)) (hinf : infoOf P e = some (sz, by_))
    (he : evO ρ x = .slice (some ⟨b, ob, none⟩) len cap) (hf : evO ρ i = .int kk n) (h0 : 0 ≤ n) (h1 : n < len) : OpV P G o ρ h (.pointer (some ⟨b, ob + n.toNat * sz, none⟩)) := by
  intro μ w a s r
  have q := evO_vr s r hx
  rw [he] at q
  have q2 := evO_vr s r hi
  rw [hf] at q2
  cases hq : P.info? e with
  | none => simp [infoOf, hq] at hinf
  | some inf =>
    simp [infoOf, hq] at hinf
    generalize hg : a.eval x = vx at q
    cases q with
    | slice off len cap cap' hb hc =>
      rename_i y
      refine ⟨_, ?_, .ptr _ hb⟩
      simp [execOp, ho, Instr.indexAt, q2.int_inv, asIntOf, run_underlying ht, hg, h0, h1, sizeOf, typeInfo, hq, hinf.1, add_none, Nat.add_assoc]
    | empty => omega

theorem op_ixa {t e : TypeId} {x i : Operand} {m sz by_ b ob : Nat} {kk : IntKind} {n : Int} (ho : o.op = .indexAddr t x i) (hx : okO G x = true) (hi : okO G i = true) (ht : P.underlying t = some (.array m e)) (hinf : infoOf P e = some (sz, by_))
    (he : evO ρ x = .pointer (some ⟨b, ob, none⟩)) (hf : evO ρ i = .int kk n) (h0 : 0 ≤ n) (h1 : n < m) : OpV P G o ρ h (.pointer (some ⟨b, ob + n.toNat * sz, none⟩)) := by
  intro μ w a s r
  have q := evO_vr s r hx
  rw [he] at q
  have q2 := evO_vr s r hi
  rw [hf] at q2
  obtain ⟨y, k1, k2⟩ := q.ptr_inv
  cases hq : P.info? e with
  | none => simp [infoOf, hq] at hinf
  | some inf =>
    simp [infoOf, hq] at hinf
    refine ⟨_, ?_, .ptr _ k1⟩
    simp [execOp, ho, Instr.indexAt, q2.int_inv, asIntOf, run_underlying ht, k2, Instr.sureAddr, h0, h1, sizeOf, typeInfo, hq, hinf.1, add_none, Nat.add_assoc]

theorem op_ext {x : Operand} {i : Nat} {vs : Array Value} {v : Value} (ho : o.op = .extract x i) (hx : okO G x = true) (he : evO ρ x = .tuple vs) (hv : vs[i]? = some v) : OpV P G o ρ h v := by
  intro μ w a s r
  have q := evO_vr s r hx
  rw [he] at q
  obtain ⟨ws, u, h1, h2, h3⟩ := q.tuple_inv hv
  exact ⟨u, by simp [execOp, ho, Instr.extract, h1, h2], h3⟩

theorem op_len {c : Call} {x : Operand} (ho : o.op = .call c) (hc : c.callee = .builtin .len) (ha : c.args.toList = [x]) (hx : okO G x = true) {n : Nat}
    (ht : (∃ e a cap, (c.argTypes[0]?).bind (P.underlying ·) = some (.slice e) ∧ evO ρ x = .slice a n cap) ∨ (∃ st, (c.argTypes[0]?).bind (P.underlying ·) = some .string ∧ evO ρ x = .string st ∧ st.size = n)) : OpV P G o ρ h (.int .i64 n) := by
  refine fun μ w a s r => ⟨.int .i64 n, ?_, .int _ _⟩
  have hargs : c.args = #[x] := by rw [← Array.toArray_toList (xs := c.args), ha]
  have q := evO_vr s r hx
  rcases ht with ⟨e, aa, cap, h1, h2⟩ | ⟨st, h1, h2, h3⟩
  · rw [h2] at q
    obtain ⟨a', cap', k⟩ := q.slice_inv
    rw [Option.bind_eq_some_iff] at h1
    obtain ⟨t, t1, t2⟩ := h1
    simp [execOp, ho, resolve, hc, hargs, invoke, builtin, Builtin.len_, t1, run_underlying t2, k, goInt]
  · rw [h2] at q
    rw [Option.bind_eq_some_iff] at h1
    obtain ⟨t, t1, t2⟩ := h1
    simp [execOp, ho, resolve, hc, hargs, invoke, builtin, Builtin.len_, t1, run_underlying t2, q.string_inv, goInt, h3]

theorem op_mm {c : Call} {x y : Operand} {mx : Bool} (ho : o.op = .call c) (hc : c.callee = .builtin (if mx then .max else .min)) (ha : c.args.toList = [x, y]) (hx : okO G x = true) (hy : okO G y = true) {k : IntKind} {n m : Int}
    (he : evO ρ x = .int k n) (hf : evO ρ y = .int k m) : OpV P G o ρ h (.int k (if mx then (if m > n then m else n) else (if m < n then m else n))) := by
  refine fun μ w a s r => ⟨_, ?_, .int _ _⟩
  have hargs : c.args = #[x, y] := by rw [← Array.toArray_toList (xs := c.args), ha]
  have q := evO_vr s r hx
  have q2 := evO_vr s r hy
  rw [he] at q
  rw [hf] at q2
  cases mx <;> simp [execOp, ho, resolve, hc, hargs, invoke, builtin, Builtin.max_, Builtin.min_, Builtin.max2, Builtin.min2, q.int_inv, q2.int_inv]

theorem evs_vl (s : Sim G μ h w) {a : Act} (r : SR μ h ρ a) : ∀ {xs : List Operand}, okOs G xs = true → VL μ h (xs.map (evO ρ)) (xs.map a.eval)
  | [], _ => VL.nil
  | x :: xs, k => by
    simp only [okOs, List.all_cons, Bool.and_eq_true] at k
    exact VL.cons (evO_vr s r k.1) (evs_vl s r k.2)

theorem op_mkfunc {f : Fn} {fs cs : Array Operand} (ho : o.op = .makeFunc f fs cs) (hf : fs = #[]) (hc : okOs G cs.toList = true) : OpV P G o ρ h (.func f #[] (cs.toList.map (evO ρ)).toArray) := by
  refine fun μ w a s r => ⟨.func f #[] (cs.map a.eval), ?_, ?_⟩
  · simp [execOp, ho, Instr.makeFunc, hf]
  · have hl := evs_vl s r hc
    have hag : VR μ h (.agg (cs.toList.map (evO ρ)).toArray) (.agg (cs.map a.eval)) := VL.agg (by simpa using hl)
    cases hag with
    | agg h1 h2 => exact .func f rfl h1 (fun i => by simpa using VR.any _) h2

theorem op_mkiface {t : TypeId} {x : Operand} {d : TypeDesc} (ho : o.op = .makeInterface t x) (ht : P.underlying t = some d) (hd : ∀ ms, d ≠ .interface ms) (hx : okO G x = true) : OpV P G o ρ h (.iface t (evO ρ x)) := by
  refine fun μ w a s r => ⟨.iface t (a.eval x), ?_, .iface t (evO_vr s r hx)⟩
  cases d <;> simp [execOp, ho, Instr.makeInterface, run_underlying ht]
  exact absurd rfl (hd _)

theorem upon_call {f : FuncId} {args : List Value} {args' : Array Value} {h' : AHeap} {v : Value} {a : Act} (hs : Spec P G f args h v h') (s : Sim G μ h w) (hl : VL μ h args args'.toList) {next : Act → World → Prop} {Q : Exit → Act → World → Prop}
    (hn : ∀ v' μ' w', VR μ' h' v v' → Step G μ h w μ' h' w' → next (a.put o.dst v') w') (he : (execOp a.eval o).run P w = .ok (.enter f args') w) : o.wp P a w next Q := by
  unfold Oper.wp
  rw [he, Oper.upon_enter]
  refine (hs μ w args' s hl).mono fun e w' ⟨v', μ', h1, h2, h3⟩ => ?_
  subst h1
  exact hn v' μ' w' h2 h3

theorem callFunc_run {f : FuncId} (hf : goodFn P f = true) (args : Array Value) (w : World) : (callFunc f args).run P w = .ok (.enter f args) w := by
  unfold goodFn at hf
  split at hf
  · rename_i fn e
    simp only [Bool.and_eq_true, Bool.not_eq_true', Option.isSome_iff_exists] at hf
    obtain ⟨⟨c, hc⟩, hn⟩ := hf
    have hn' : ¬ fn.name = "runtime.NumGoroutine" := by simpa using hn
    simp [callFunc, e, hn', hc]
  · cases hf

theorem op_call {c : Call} {f : FuncId} {v : Value} {h' : AHeap} (ho : o.op = .call c) (hc : c.callee = .value (.func f)) (hok : okOs G c.args.toList = true) (hf : goodFn P f = true) (hs : Spec P G f (c.args.toList.map (evO ρ)) h v h') : OpJ P G o ρ h v h' := by
  intro μ w a s r next Q hn
  refine upon_call (args' := c.args.map a.eval) hs s (by simpa using evs_vl s r hok) hn ?_
  simp [execOp, ho, resolve, hc, Act.eval, Deferred.ofValue, invoke, callFunc_run hf]

theorem op_callv {c : Call} {x : Operand} {f : FuncId} {first captured : Array Value} {v : Value} {h' : AHeap} (ho : o.op = .call c) (hc : c.callee = .value x) (hok : okOs G c.args.toList = true) (hx : okO G x = true) (hf : goodFn P f = true)
    (he : evO ρ x = .func (.func f) first captured) (hs : Spec P G f (first.toList ++ c.args.toList.map (evO ρ) ++ captured.toList) h v h') : OpJ P G o ρ h v h' := by
  intro μ w a s r next Q hn
  have q := evO_vr s r hx
  rw [he] at q
  generalize hg : a.eval x = vx at q
  cases q with
  | func _ h1 h2 h3 h4 =>
    rename_i bs ds
    refine upon_call (args' := bs ++ c.args.map a.eval ++ ds) hs s ?_ hn ?_
    · have := ((VR.agg_list h1 h3).append (evs_vl s r hok)).append (VR.agg_list h2 h4)
      simpa using this
    · simp [execOp, ho, resolve, hc, hg, Deferred.ofValue, invoke, callFunc_run hf]

theorem op_xc {m : Option String} {f : FuncId} {xs : List Operand} {v : Value} {h' : AHeap} (hok : okOs G xs = true) (he : ∀ (a : Act) (w : World), (execOp a.eval o).run P w = (runX m f (xs.map a.eval).toArray).run P w) (hs : XSpec P G m f (xs.map (evO ρ)) h v h') : OpJ P G o ρ h v h' := by
  intro μ w a s r next Q hn
  unfold Oper.wp
  rw [he a w]
  exact hs μ w _ s (by simpa using evs_vl s r hok) o a next Q hn
theorem run_xfun {c : Call} {f : FuncId} (ho : o.op = .call c) (hc : c.callee = .value (.func f)) (a : Act) (w : World) : (execOp a.eval o).run P w = (runX none f (c.args.toList.map a.eval).toArray).run P w := by
  have : (c.args.toList.map a.eval).toArray = c.args.map a.eval := by apply Array.toList_inj.1; simp
  rw [this]
  simp [execOp, ho, resolve, hc, Act.eval, Deferred.ofValue, invoke, runX]
theorem run_xmeth {c : Call} {r : Operand} {name : String} (ho : o.op = .call c) (hc : c.callee = .invoke r name) (a : Act) (w : World) : (execOp a.eval o).run P w = (runX (some name) 0 ((r :: c.args.toList).map a.eval).toArray).run P w := by
  have : ((r :: c.args.toList).map a.eval).toArray = #[a.eval r] ++ c.args.map a.eval := by apply Array.toList_inj.1; simp
  have h0 : (#[a.eval r] ++ c.args.map a.eval)[0]? = some (a.eval r) := by simp [Array.getElem?_append]
  rw [this]
  simp [execOp, ho, resolve, hc, invoke, runX, h0]

/-! ### Bytes as a text -/
theorem bytesA_vl {vs vs' : List Value} {ns : List Int} (k : VL μ h vs vs') (e : bytesA vs = some ns) : vs' = ns.map (Value.int .u8) := by
  induction vs generalizing vs' ns with
  | nil =>
    cases e
    have := k.1
    simp at this
    simpa using this.symm
  | cons v r ih =>
    cases vs' with
    | nil => have := k.1; simp at this
    | cons v' r' =>
      have hv : VR μ h v v' := k.2 0 v v' rfl rfl
      have hr : VL μ h r r' := ⟨by have := k.1; simpa using this, fun i a b p q => k.2 (i + 1) a b (by simpa using p) (by simpa using q)⟩
      match v, e with
      | .int .u8 n, e =>
        simp only [bytesA, Option.map_eq_some_iff] at e
        obtain ⟨m, hm, rfl⟩ := e
        rw [ih hr hm, hv.int_inv]; rfl
theorem op_bts {t u e : TypeId} {x : Operand} {b off n cap : Nat} {cs : List Value} {ns : List Int} (ho : o.op = .convert t u x) (hs : P.underlying t = some (.slice e)) (he8 : P.underlying e = some (.int .u8)) (hu : P.underlying u = some .string) (hx : okO G x = true)
    (he : evO ρ x = .slice (some ⟨b, off, none⟩) n cap) (hn : n ≠ 0) (hr : rds h b off n = some cs) (hb : bytesA cs = some ns) : OpV P G o ρ h (.string (bytesS ns)) := by
  intro μ w a s r
  have hv := evO_vr s r hx
  rw [he] at hv
  obtain ⟨p, cap', hp, hz⟩ : ∃ p cap', μ b = some p ∧ a.eval x = .slice (some ⟨p.blk, p.off + off, none⟩) n cap' := by
    generalize a.eval x = z at hv
    cases hv with
    | slice off len cap cap' hb hc => exact ⟨_, _, hb, rfl⟩
    | empty => exact absurd rfl hn
  obtain ⟨hl, vs', h1, h2⟩ := rds_sim (P := P) s hp hr
  rw [bytesA_vl h2 hb] at h1
  refine ⟨_, ?_, .string _⟩
  have := run_bytesToString w ⟨p.blk, p.off + off, none⟩ n cap' ns h1
  simp [execOp, ho, convert, run_underlying hs, run_underlying hu, run_underlying he8, hz, this, bytesS]
theorem op_bts0 {t u e : TypeId} {x : Operand} {A : Option Addr} {cap : Nat} (ho : o.op = .convert t u x) (hs : P.underlying t = some (.slice e)) (he8 : P.underlying e = some (.int .u8)) (hu : P.underlying u = some .string) (hx : okO G x = true)
    (he : evO ρ x = .slice A 0 cap) : OpV P G o ρ h (.string ByteArray.empty) := by
  intro μ w a s r
  have hv := evO_vr s r hx
  rw [he] at hv
  obtain ⟨a', cap', hz⟩ := hv.slice_inv
  refine ⟨_, ?_, .string _⟩
  cases a' with
  | none => simp [execOp, ho, convert, run_underlying hs, run_underlying hu, run_underlying he8, hz, Conv.bytesToString, Sem.run_pure]
  | some a' =>
    have h1 : (loadCells a' 0).run P w = .ok ((([] : List Int).map (Value.int .u8)).toArray) w := by
      have := run_loadCells (P := P) w a' 0 (fun _ => undef) (fun j hj => absurd hj (Nat.not_lt_zero _))
      simpa using this
    have := run_bytesToString w a' 0 cap' [] h1
    simp [execOp, ho, convert, run_underlying hs, run_underlying hu, run_underlying he8, hz, this]
end Go.Proofs.YtpnpccnbpgckhabGreat.B
