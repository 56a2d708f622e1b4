/-
  Each instruction is met by the model's operation: first part.
-/
import Derived.Test.YtpnpccnbpgckhabGreatAb4
namespace Go.Proofs.YtpnpccnbpgckhabGreat.B
open Go
set_option linter.unusedVariables false
set_option linter.unusedSimpArgs false
variable {G : Nat} {P : Program} {μ : Ren} {h : AHeap} {w : World} {o : Oper} {ρ : Nat → Value}

theorem VR.bool_inv {b : Bool} {v' : Value} (k : VR μ h (.bool b) v') : v' = .bool b := by cases k; rfl
theorem VR.int_inv {q : IntKind} {n : Int} {v' : Value} (k : VR μ h (.int q n) v') : v' = .int q n := by cases k; rfl
theorem VR.string_inv {s : ByteArray} {v' : Value} (k : VR μ h (.string s) v') : v' = .string s := by cases k; rfl
theorem VR.ptr_inv {b off : Nat} {v' : Value} (k : VR μ h (.pointer (some ⟨b, off, none⟩)) v') : ∃ x, μ b = some x ∧ v' = .pointer (some ⟨x.blk, x.off + off, none⟩) := by
  cases k with
  | ptr off hb => exact ⟨_, hb, rfl⟩
theorem VR.tuple_inv {vs : Array Value} {v' : Value} {i : Nat} {v : Value} (k : VR μ h (.tuple vs) v') (hv : vs[i]? = some v) : ∃ ws u, v' = .tuple ws ∧ ws[i]? = some u ∧ VR μ h v u := by
  cases k with
  | any => simp at hv
  | tuple hs hq =>
    rename_i bs
    have hi := (Array.getElem?_eq_some_iff.1 hv).1
    refine ⟨bs, bs[i]'(hs ▸ hi), rfl, Array.getElem?_eq_getElem _, ?_⟩
    have := hq i
    simpa [hv, (show i < bs.size by omega)] using this
theorem VR.agg_inv {cs : Array Value} {v' : Value} (k : VR μ h (.agg cs) v') : ∃ ds, v' = .agg ds ∧ VL μ h cs.toList ds.toList := by
  cases k with
  | agg hs hq => exact ⟨_, rfl, VR.agg_list hs hq⟩

theorem op_mv {x : Operand} (ho : o.op = .move x ∨ o.op = .assign x) (hx : okO G x = true) : OpV P G o ρ h (evO ρ x) :=
  fun μ w a s r => ⟨a.eval x, by rcases ho with e | e <;> simp [execOp, e], evO_vr s r hx⟩

theorem op_pick {c x y : Operand} {t : Bool} (ho : o.op = .pick c x y) (hok : okOs G [c, x, y] = true) (hc : evO ρ c = .bool t) :
    OpV P G o ρ h (if t then evO ρ x else evO ρ y) := by
  simp only [okOs, List.all_cons, List.all_nil, Bool.and_true, Bool.and_eq_true] at hok
  refine fun μ w a s r => ⟨if t then a.eval x else a.eval y, ?_, ?_⟩
  · have := evO_vr s r hok.1
    rw [hc] at this
    simp [execOp, ho, this.bool_inv, asBool]
  · cases t
    · exact evO_vr s r hok.2.2
    · exact evO_vr s r hok.2.1

theorem zeroOf_run {t : TypeId} {z : List Value} (hz : zeroOf P t = some z) (w : World) : ∃ v : Value, (zeroValue t).run P w = .ok v w ∧ v.cells.toList = z ∧ ∃ i, P.info? t = some i ∧ i.zero = some v := by
  unfold zeroOf at hz
  cases hi : P.info? t with
  | none => simp [hi] at hz
  | some i =>
    cases hq : i.zero with
    | none => simp [hi, hq] at hz
    | some v =>
      simp [hi, hq] at hz
      exact ⟨v, by simp [zeroValue, typeInfo, hi, hq], by simpa using hz, i, rfl, hq⟩

theorem okZero_scalar {z : List Value} (k : okZero z = true) : z.all scalarB = true := by
  simpa [okZero] using k

theorem op_new {e : TypeId} {z : List Value} (ho : o.op = .alloc e) (hz : zeroOf P e = some z) (hk : okZero z = true) :
    OpJ P G o ρ h (.pointer (some ⟨h.length, 0, none⟩)) (h ++ [.row .fix z]) := by
  refine OpJ.of_value fun μ w a s r => ?_
  obtain ⟨v, h1, h2, i, h3, h4⟩ := zeroOf_run hz w
  have hl : VL μ h z v.cells.toList := h2 ▸ VL.of_scalar (h2 ▸ okZero_scalar hk)
  obtain ⟨μ', k1, k2, k3⟩ := newRow_sim (P := P) s .fix e (vs := z) (cs := v.cells) (by rw [← h2]; simp) (fun i u hi => by
    obtain ⟨u', q1, q2⟩ := hl.get hi
    exact ⟨u', by simpa using q1, q2⟩)
  refine ⟨.pointer (some ⟨w.heap.size, 0, none⟩), μ', _, ?_, VR.ptr (x := ⟨w.heap.size, 0, v.cells.size⟩) 0 k2, k3⟩
  simp [execOp, ho, Instr.alloc, h1, newVar, k1]

theorem op_box {e : TypeId} {x : Operand} {cs : List Value} (ho : o.op = .box e x) (hx : okO G x = true) (hc : cellsA (evO ρ x) = some cs) :
    OpJ P G o ρ h (.pointer (some ⟨h.length, 0, none⟩)) (h ++ [.row .fix cs]) := by
  refine OpJ.of_value fun μ w a s r => ?_
  have hl := (evO_vr s r hx).cells hc
  obtain ⟨μ', k1, k2, k3⟩ := newRow_sim (P := P) s .fix e (vs := cs) (cs := (a.eval x).cells) (by rw [hl.1]; simp) (fun i u hi => by
    obtain ⟨u', q1, q2⟩ := hl.get hi
    exact ⟨u', by simpa using q1, q2⟩)
  refine ⟨.pointer (some ⟨w.heap.size, 0, none⟩), μ', _, ?_, VR.ptr (x := ⟨w.heap.size, 0, (a.eval x).cells.size⟩) 0 k2, k3⟩
  simp [execOp, ho, Instr.box, newVar, k1]

theorem op_load {t : TypeId} {x : Operand} {d : TypeDesc} {sz by_ : Nat} {b off : Nat} {v : Value} (ho : o.op = .load t x) (hx : okO G x = true) (hd : P.underlying t = some d) (hi : infoOf P t = some (sz, by_))
    (he : evO ρ x = .pointer (some ⟨b, off, none⟩)) (hr : (rds h b off sz).bind (aggOf (isAggD d)) = some v) : OpV P G o ρ h v := by
  intro μ w a s r
  have hv := evO_vr s r hx
  rw [he] at hv
  obtain ⟨y, h1, h2⟩ := hv.ptr_inv
  cases hq : P.info? t with
  | none => simp [infoOf, hq] at hi
  | some i =>
    simp [infoOf, hq] at hi
    cases hrd : rds h b off sz with
    | none => simp [hrd] at hr
    | some vs =>
      simp only [hrd, Option.bind_some] at hr
      obtain ⟨v', k1, k2⟩ := loadVar_sim (P := P) s (agg := isAggD d) hd hq (by cases d <;> rfl) h1 (hi.1 ▸ hrd) hr
      exact ⟨v', by simp [execOp, ho, Instr.loadAt, Instr.sureAddr, h2, k1], k2⟩

theorem op_store {t : TypeId} {x y : Operand} {sz by_ : Nat} {b off : Nat} {vs : List Value} {h' : AHeap} (ho : o.op = .store t x y) (hx : okO G x = true) (hy : okO G y = true) (hi : infoOf P t = some (sz, by_))
    (he : evO ρ x = .pointer (some ⟨b, off, none⟩)) (hc : cellsA (evO ρ y) = some vs) (hn : vs.length = sz) (h1 : vs.all oneA = true) (hw : wrs h b off vs = some h') : OpJ P G o ρ h undef h' := by
  intro μ w a s r next Q hnx
  have hv := evO_vr s r hx
  rw [he] at hv
  obtain ⟨z, k1, k2⟩ := hv.ptr_inv
  have hl := (evO_vr s r hy).cells hc
  obtain ⟨w', q1, q2⟩ := wrs_sim (P := P) s k1 hw hl h1
  cases hq : P.info? t with
  | none => simp [infoOf, hq] at hi
  | some i =>
    simp [infoOf, hq] at hi
    have hsz : (a.eval y).cells.size = i.size := by have := hl.1; simp at this; omega
    have : (execOp a.eval o).run P w = .ok .skip w' := by
      simp [execOp, ho, Instr.storeAt, Instr.sureAddr, k2, storeVar, sizeOf, typeInfo, hq, hsz, q1]
    unfold Oper.wp
    rw [this]
    exact hnx undef μ w' (.any _) q2

theorem op_nilck {x : Operand} {v : Value} (ho : o.op = .nilCheck x) (hx : okO G x = true) (he : evO ρ x = v)
    (hv : (∃ a, v = .pointer (some a)) ∨ ∃ t u, v = .iface t u) : OpV P G o ρ h v := by
  refine fun μ w a s r => ⟨a.eval x, ?_, he ▸ evO_vr s r hx⟩
  have k := evO_vr s r hx
  rw [he] at k
  rcases hv with ⟨b, rfl⟩ | ⟨t, u, rfl⟩ <;> (generalize hg : a.eval x = q at k; cases k; simp [execOp, ho, hg])

theorem op_conv {t u : TypeId} {x : Operand} {k j kk : IntKind} {n : Int} (ho : o.op = .convert t u x) (hs : P.underlying t = some (.int j)) (hu : P.underlying u = some (.int k)) (hx : okO G x = true) (he : evO ρ x = .int kk n) :
    OpV P G o ρ h (.int k (k.wrap n)) := by
  refine fun μ w a s r => ⟨_, ?_, .int _ _⟩
  have q := evO_vr s r hx
  rw [he] at q
  simp [execOp, ho, convert, run_underlying hs, run_underlying hu, q.int_inv, Conv.intToInt]

theorem equal_bool {t : TypeId} (ht : P.underlying t = some .bool) (a b : Bool) (w : World) : (Op.equal t (.bool a) (.bool b)).run P w = .ok (a == b) w := by
  show (Op.equalIn (9999 + 1) t (.bool a) (.bool b)).run P w = _
  unfold Op.equalIn
  simp only [Sem.run_bind, run_underlying ht, Result.andThen_ok]
  rfl

theorem op_eqb {t u : TypeId} {x y : Operand} {op : BinOp} {a1 b1 : Bool} {neg : Bool} (hop : op = if neg then .neq else .eql) (ho : o.op = .binOp op t x y u) (ht : P.underlying t = some .bool) (hx : okO G x = true) (hy : okO G y = true)
    (he : evO ρ x = .bool a1) (hf : evO ρ y = .bool b1) : OpV P G o ρ h (.bool (if neg then a1 != b1 else a1 == b1)) := by
  intro μ w a s r
  refine ⟨_, ?_, .bool _⟩
  have q := evO_vr s r hx
  have q2 := evO_vr s r hy
  rw [he] at q
  rw [hf] at q2
  have e1 : (eqGuard op t x y (.bool a1) (.bool b1)).run P w = .ok () w := by
    unfold eqGuard
    cases neg <;> subst hop <;> rfl
  cases neg <;> subst hop <;> simp only [execOp, ho, q.bool_inv, q2.bool_inv, Sem.run_bind, e1, Result.andThen_ok]
  · show ((do pure (.bool (← Op.equal t (.bool a1) (.bool b1))) : Sem Value).run P w).andThen _ = _
    simp only [Sem.run_bind, equal_bool ht, Result.andThen_ok, Sem.run_pure]
    rfl
  · show ((do pure (.bool (!(← Op.equal t (.bool a1) (.bool b1)))) : Sem Value).run P w).andThen _ = _
    simp only [Sem.run_bind, equal_bool ht, Result.andThen_ok, Sem.run_pure]
    rfl

theorem op_un {t : TypeId} {x : Operand} {op : UnOp} {K : Value → Prop} (ho : o.op = .unOp op t x) (hx : okO G x = true) (hk : unA op (evO ρ x) K) : ∃ v, (∀ h, OpV P G o ρ h v) ∧ K v := by
  have key : ∀ v, (∀ (h : AHeap) μ w a, Sim G μ h w → SR μ h ρ a → (execOp a.eval o).run P w = .ok (.value v) w) → (∀ μ (h : AHeap), VR μ h v v) → K v → ∃ v, (∀ h, OpV P G o ρ h v) ∧ K v :=
    fun v h1 h2 h3 => ⟨v, fun h μ w a s r => ⟨v, h1 h μ w a s r, h2 μ h⟩, h3⟩
  unfold unA at hk
  split at hk
  · rename_i k n e
    refine key _ (fun h μ w a s r => ?_) (fun _ _ => .int _ _) hk
    have q := evO_vr s r hx
    rw [e] at q
    simp [execOp, ho, q.int_inv, Op.unary, Op.intArith]
  · rename_i b e
    refine key _ (fun h μ w a s r => ?_) (fun _ _ => .bool _) hk
    have q := evO_vr s r hx
    rw [e] at q
    simp [execOp, ho, q.bool_inv, Op.unary]
  · rename_i k n e
    refine key _ (fun h μ w a s r => ?_) (fun _ _ => .int _ _) hk
    have q := evO_vr s r hx
    rw [e] at q
    simp [execOp, ho, q.int_inv, Op.unary, Op.intBits]
  · exact hk.elim

theorem op_bin {t u : TypeId} {x y : Operand} {op : BinOp} {K : Value → Prop} (ho : o.op = .binOp op t x y u) (hx : okO G x = true) (hy : okO G y = true) (hk : binA op (evO ρ x) (evO ρ y) K) : ∃ v, (∀ h, OpV P G o ρ h v) ∧ K v := by
  have key : ∀ v, (∀ (h : AHeap) μ w a, Sim G μ h w → SR μ h ρ a → (execOp a.eval o).run P w = .ok (.value v) w) → (∀ μ (h : AHeap), VR μ h v v) → K v → ∃ v, (∀ h, OpV P G o ρ h v) ∧ K v :=
    fun v h1 h2 h3 => ⟨v, fun h μ w a s r => ⟨v, h1 h μ w a s r, h2 μ h⟩, h3⟩
  have hi : ∀ {k k' : IntKind} {n m : Int} {v : Value}, evO ρ x = .int k n → evO ρ y = .int k' m → (∀ w, (binOp op t (.int k n) (.int k' m)).run P w = .ok v w) →
      ∀ (h : AHeap) μ w a, Sim G μ h w → SR μ h ρ a → (execOp a.eval o).run P w = .ok (.value v) w := fun e1 e2 hrun h μ w a s r => by
    have q := evO_vr s r hx
    have q2 := evO_vr s r hy
    rw [e1] at q
    rw [e2] at q2
    cases op <;> simp [execOp, ho, q.int_inv, q2.int_inv, eqGuard, hrun]
  have hs : ∀ {n m : ByteArray} {v : Value}, evO ρ x = .string n → evO ρ y = .string m → (∀ w, (binOp op t (.string n) (.string m)).run P w = .ok v w) →
      ∀ (h : AHeap) μ w a, Sim G μ h w → SR μ h ρ a → (execOp a.eval o).run P w = .ok (.value v) w := fun e1 e2 hrun h μ w a s r => by
    have q := evO_vr s r hx
    have q2 := evO_vr s r hy
    rw [e1] at q
    rw [e2] at q2
    cases op <;> simp [execOp, ho, q.string_inv, q2.string_inv, eqGuard, hrun]
  unfold binA at hk
  split at hk
  all_goals first | exact hk.elim | skip
  all_goals (rename_i e1 e2)
  all_goals first
    | (obtain ⟨rfl, h0, hk⟩ := hk; refine key _ (hi e1 e2 fun w => ?_) (fun _ _ => by constructor) hk; simp [binOp, Op.intDiv, h0]; done)
    | (obtain ⟨h0, hk⟩ := hk; refine key _ (hi e1 e2 fun w => ?_) (fun _ _ => by constructor) hk; simp [binOp, Op.shift, Int.not_lt.2 h0]; done)
    | (obtain ⟨rfl, hk⟩ := hk; refine key _ (hi e1 e2 fun w => ?_) (fun _ _ => by constructor) hk; simp [binOp, Op.intArith, Op.intBits, Op.intCmp]; done)
    | (obtain ⟨h0, hk⟩ := hk; refine key _ (hs e1 e2 fun w => ?_) (fun _ _ => by constructor) hk; simp [binOp, Op.stringOp, IntKind.max, IntKind.signed, IntKind.bits]; omega)
    | (refine key _ (hs e1 e2 fun w => ?_) (fun _ _ => by constructor) hk; simp [binOp, Op.stringOp]; done)

end Go.Proofs.YtpnpccnbpgckhabGreat.B
