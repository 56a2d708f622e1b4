/-
  Each instruction is met by the model's operation: comparison of structs and arrays, nil, maps, parts of strings and arrays.
-/
import Derived.Test.YtpnpccnbpgckhabGreatAb8
import Derived.ChangeKeysEq
import Derived.MapKept
namespace Go.Proofs.YtpnpccnbpgckhabGreat.B
open Go
set_option linter.unusedVariables false
set_option linter.unusedSimpArgs false
variable {G : Nat} {P : Program} {μ : Ren} {h : AHeap} {w : World} {o : Oper} {ρ : Nat → Value}

/-! ### '==' of structs and arrays -/
theorem eqCells_length : ∀ {ks : List Nat} {a b : List Value} {r : Bool}, eqCells ks a b = some r → a.length = ks.length ∧ b.length = ks.length
  | [], [], [], _, _ => ⟨rfl, rfl⟩
  | k :: ks, x :: a, y :: b, r, h => by
    simp only [eqCells, Option.bind_eq_some_iff, Option.map_eq_some_iff] at h
    obtain ⟨q, h1, s, h2, rfl⟩ := h
    have := eqCells_length h2
    simp [this.1, this.2]

theorem eqCells_split : ∀ {ks js : List Nat} {a b : List Value} {r : Bool}, eqCells (ks ++ js) a b = some r → ∃ r1 r2, eqCells ks (a.take ks.length) (b.take ks.length) = some r1 ∧ eqCells js (a.drop ks.length) (b.drop ks.length) = some r2 ∧ r = (r1 && r2)
  | [], js, a, b, r, h => ⟨true, r, rfl, h, by simp⟩
  | k :: ks, js, x :: a, y :: b, r, h => by
    simp only [List.cons_append, eqCells, Option.bind_eq_some_iff, Option.map_eq_some_iff] at h
    obtain ⟨q, h1, s, h2, rfl⟩ := h
    obtain ⟨r1, r2, k1, k2, rfl⟩ := eqCells_split h2
    exact ⟨q && r1, r2, by simp [eqCells, h1, k1], by simpa using k2, by simp [Bool.and_assoc]⟩

theorem keyEq_int {t : TypeId} {k : IntKind} {d : Nat} {x y : Value} {r : Bool} (ht : P.underlying t = some (.int k)) (h : keyEq 0 x y = some r) (w : World) : (Op.equalIn (d + 1) t x y).run P w = .ok r w := by
  unfold keyEq at h
  split at h
  · split at h
    · rename_i q
      subst q
      cases h; exact run_equalIn_int w d t _ k _ _ ht
    · cases h
  · rename_i q; cases q
  · rename_i q; cases q
  · cases h
theorem keyEq_string {t : TypeId} {d : Nat} {x y : Value} {r : Bool} (ht : P.underlying t = some .string) (h : keyEq 1 x y = some r) (w : World) : (Op.equalIn (d + 1) t x y).run P w = .ok r w := by
  unfold keyEq at h
  split at h
  · rename_i q; cases q
  · cases h; exact run_equalIn_string w d t _ _ ht
  · rename_i q; cases q
  · cases h
theorem keyEq_bool {t : TypeId} {d : Nat} {x y : Value} {r : Bool} (ht : P.underlying t = some .bool) (h : keyEq 2 x y = some r) (w : World) : (Op.equalIn (d + 1) t x y).run P w = .ok r w := by
  unfold keyEq at h
  split at h
  · rename_i q; cases q
  · rename_i q; cases q
  · cases h; exact run_equalIn_bool' w d t _ _ ht
  · cases h

theorem infoOf_some {t : TypeId} {n : Nat} (h : (infoOf P t).map (·.1) = some n) : ∃ inf, P.info? t = some inf ∧ inf.size = n := by
  unfold infoOf at h
  cases hq : P.info? t with
  | none => simp [hq] at h
  | some inf => exact ⟨inf, rfl, by simpa [hq] using h⟩

theorem flatK_size {d : Nat} {t : TypeId} {ks : List Nat} (h : flatK P d t = some ks) : ∃ inf, P.info? t = some inf ∧ inf.size = ks.length := by
  cases d with
  | zero => simp [flatK] at h
  | succ d =>
    unfold flatK at h
    simp only [Option.bind_eq_some_iff] at h
    obtain ⟨js, _, h2⟩ := h
    split at h2
    · cases h2; exact infoOf_some (by assumption)
    · cases h2

/-- The value of a type, from its cells. -/
theorem one_cell {ks : List Nat} {k : Nat} {a b : List Value} {r : Bool} (hk : ks = [k]) (h : eqCells ks a b = some r) : ∃ x y, a = [x] ∧ b = [y] ∧ keyEq k x y = some r := by
  subst hk
  match a, b, h with
  | [x], [y], h =>
    simp only [eqCells, Option.bind_eq_some_iff, Option.map_eq_some_iff] at h
    obtain ⟨q, h1, s, h2, h3⟩ := h
    cases h2
    exact ⟨x, y, rfl, rfl, by simpa [← h3] using h1⟩
  | [], _, h => simp [eqCells] at h
  | [_], [], h => simp [eqCells] at h
  | [_], _ :: _ :: _, h => simp [eqCells] at h
  | _ :: _ :: _, [], h => simp [eqCells] at h
  | _ :: _ :: _, _ :: _, h => simp [eqCells, Option.bind_eq_some_iff] at h

theorem flatK_has {d : Nat} {t : TypeId} {ks : List Nat} (h : flatK P d t = some ks) : ∃ td, P.underlying t = some td ∧ ∀ l : List Value, l.length = ks.length → ∃ v, aggOf (isAggD td) l = some v := by
  cases d with
  | zero => simp [flatK] at h
  | succ d =>
    unfold flatK at h
    simp only [Option.bind_eq_some_iff] at h
    obtain ⟨js, hj, hj2⟩ := h
    split at hj2
    · cases hj2
      have one : ∀ l : List Value, l.length = 1 → ∃ v, aggOf false l = some v := fun l hl => match l, hl with
        | [v], _ => ⟨v, rfl⟩
      split at hj
      · rename_i k hu; cases hj; exact ⟨_, hu, fun l hl => one l (by simpa using hl)⟩
      · rename_i hu; cases hj; exact ⟨_, hu, fun l hl => one l (by simpa using hl)⟩
      · rename_i hu; cases hj; exact ⟨_, hu, fun l hl => one l (by simpa using hl)⟩
      · rename_i fs hu; exact ⟨_, hu, fun l hl => ⟨_, rfl⟩⟩
      · rename_i n e hu; exact ⟨_, hu, fun l hl => ⟨_, rfl⟩⟩
      · cases hj
    · cases hj2

theorem flat_run : ∀ (d D : Nat) (t : TypeId) (ks : List Nat) (td : TypeDesc) (a b : List Value) (x y : Value) (r : Bool), d ≤ D → flatK P d t = some ks → P.underlying t = some td → eqCells ks a b = some r →
    aggOf (isAggD td) a = some x → aggOf (isAggD td) b = some y → ∀ w, (Op.equalIn D t x y).run P w = .ok r w
  | 0, D, t, ks, td, a, b, x, y, r, hd, hf, ht, he, hx, hy, w => by simp [flatK] at hf
  | d + 1, 0, t, ks, td, a, b, x, y, r, hd, hf, ht, he, hx, hy, w => by omega
  | d + 1, D + 1, t, ks, td, a, b, x, y, r, hd, hf, ht, he, hx, hy, w => by
    unfold flatK at hf
    simp only [Option.bind_eq_some_iff] at hf
    obtain ⟨js, hf, h2⟩ := hf
    split at h2
    · cases h2
      rename_i hsz
      split at hf
      · rename_i k hu
        cases hf
        rw [hu] at ht; cases ht
        obtain ⟨x', y', rfl, rfl, hk⟩ := one_cell rfl he
        simp [aggOf, isAggD] at hx hy
        subst hx; subst hy
        exact keyEq_int hu hk w
      · rename_i hu
        cases hf
        rw [hu] at ht; cases ht
        obtain ⟨x', y', rfl, rfl, hk⟩ := one_cell rfl he
        simp [aggOf, isAggD] at hx hy
        subst hx; subst hy
        exact keyEq_string hu hk w
      · rename_i hu
        cases hf
        rw [hu] at ht; cases ht
        obtain ⟨x', y', rfl, rfl, hk⟩ := one_cell rfl he
        simp [aggOf, isAggD] at hx hy
        subst hx; subst hy
        exact keyEq_bool hu hk w
      · rename_i fs hu
        split at hf
        · cases hf
        · rename_i hst
          rw [hu] at ht; cases ht
          simp [aggOf, isAggD] at hx hy
          subst hx; subst hy
          have hfo : P.fieldsOf t = fs := by simp [Program.fieldsOf, hu]
          rw [run_equalIn_struct w D t _ _ (by rw [hfo]; exact hu) (by simpa using hst), hfo]
          have key : ∀ (fs : List Field) (off : Nat) (js : List Nat) (r : Bool), off ≤ a.length → off ≤ b.length → flatFs (flatK P d) fs off = some js → eqCells js (a.drop off) (b.drop off) = some r →
              ∀ w, (Op.eqFields D a.toArray b.toArray fs).run P w = .ok r w := by
            intro fs
            induction fs with
            | nil =>
              intro off js r _ _ h1 h2 w
              simp [flatFs] at h1
              subst h1
              have := eqCells_length h2
              have e1 : a.drop off = [] := List.eq_nil_of_length_eq_zero (by simpa using this.1)
              have e2 : b.drop off = [] := List.eq_nil_of_length_eq_zero (by simpa using this.2)
              rw [e1, e2] at h2
              cases h2
              simp [Op.eqFields]
            | cons f fs ih =>
              intro off js r la lb h1 h2 w
              simp only [flatFs] at h1
              split at h1
              · cases h1
              · rename_i hn
                split at h1
                · rename_i ho
                  subst ho
                  simp only [Option.bind_eq_some_iff, Option.map_eq_some_iff] at h1
                  obtain ⟨k1, hk1, k2, hk2, rfl⟩ := h1
                  obtain ⟨r1, r2, q1, q2, rfl⟩ := eqCells_split h2
                  obtain ⟨inf, i1, i2⟩ := flatK_size hk1
                  obtain ⟨ftd, hft, ag⟩ := flatK_has hk1
                  have hlen := eqCells_length h2
                  simp only [List.length_drop, List.length_append] at hlen
                  obtain ⟨v1, hv1⟩ := ag ((a.drop f.offset).take k1.length) (by simp; omega)
                  obtain ⟨v2, hv2⟩ := ag ((b.drop f.offset).take k1.length) (by simp; omega)
                  have p1 := part_run (P := P) (cs := a.toArray) (off := f.offset) (v := v1) hft i1 (by simp; omega) (by rw [i2]; simpa using hv1)
                  have p2 := part_run (P := P) (cs := b.toArray) (off := f.offset) (v := v2) hft i1 (by simp; omega) (by rw [i2]; simpa using hv2)
                  have p3 := flat_run d D f.type k1 ftd _ _ v1 v2 r1 (by omega) hk1 hft q1 hv1 hv2
                  have p4 := ih (f.offset + k1.length) k2 r2 (by omega) (by omega) hk2 (by simpa using q2)
                  simp only [Op.eqFields]
                  rw [if_pos hn]
                  simp only [Sem.run_bind, p1, p2, p3, Result.andThen_ok]
                  cases r1
                  · simp
                  · simpa using p4 w
                · cases h1
          exact key fs.toList 0 _ r (Nat.zero_le _) (Nat.zero_le _) hf (by simpa using he) w
      · rename_i n e hu
        simp only [Option.map_eq_some_iff] at hf
        obtain ⟨k1, hk1, rfl⟩ := hf
        rw [hu] at ht; cases ht
        simp [aggOf, isAggD] at hx hy
        subst hx; subst hy
        obtain ⟨inf, i1, i2⟩ := flatK_size hk1
        rw [run_equalIn_array w D _ _ hu i1]
        have hco : P.cellsOf e = k1.length := by simp [Program.cellsOf, i1, i2]
        rw [hco]
        obtain ⟨ftd, hft, ag⟩ := flatK_has hk1
        have key : ∀ (n i : Nat) (r : Bool), i * k1.length ≤ a.length → i * k1.length ≤ b.length → eqCells ((List.replicate n k1).flatten) (a.drop (i * k1.length)) (b.drop (i * k1.length)) = some r →
            ∀ w, (Op.eqItems D e k1.length a.toArray b.toArray (List.range' i n)).run P w = .ok r w := by
          intro n
          induction n with
          | zero =>
            intro i r _ _ h2 w
            have := eqCells_length h2
            have e1 : a.drop (i * k1.length) = [] := List.eq_nil_of_length_eq_zero (by simpa using this.1)
            have e2 : b.drop (i * k1.length) = [] := List.eq_nil_of_length_eq_zero (by simpa using this.2)
            rw [e1, e2] at h2
            cases h2
            simp [Op.eqItems]
          | succ n ih =>
            intro i r la lb h2 w
            rw [List.replicate_succ, List.flatten_cons] at h2
            obtain ⟨r1, r2, q1, q2, rfl⟩ := eqCells_split h2
            have hlen := eqCells_length h2
            simp only [List.length_drop, List.length_append] at hlen
            generalize (List.replicate n k1).flatten.length = m at hlen
            generalize ei : i * k1.length = p at *
            obtain ⟨v1, hv1⟩ := ag ((a.drop p).take k1.length) (by simp; omega)
            obtain ⟨v2, hv2⟩ := ag ((b.drop p).take k1.length) (by simp; omega)
            have p1 := part_run (P := P) (cs := a.toArray) (off := p) (v := v1) hft i1 (by simp; omega) (by rw [i2]; simpa using hv1)
            have p2 := part_run (P := P) (cs := b.toArray) (off := p) (v := v2) hft i1 (by simp; omega) (by rw [i2]; simpa using hv2)
            have p3 := flat_run d D e k1 ftd _ _ v1 v2 r1 (by omega) hk1 hft q1 hv1 hv2
            have e2 : (i + 1) * k1.length = p + k1.length := by rw [Nat.succ_mul, ei]
            have p4 := ih (i + 1) r2 (by omega) (by omega) (by rw [e2]; simpa using q2)
            rw [List.range'_succ]
            simp only [Op.eqItems, Sem.run_bind, ei, p1, p2, p3, Result.andThen_ok]
            cases r1
            · simp
            · simpa using p4 w
        rw [List.range_eq_range']
        exact key n 0 r (by omega) (by omega) (by simpa using he) w
      · cases hf
    · cases h2

theorem VL.eqCells : ∀ {ks : List Nat} {a b a' b' : List Value} {r : Bool}, VL μ h a a' → VL μ h b b' → eqCells ks a b = some r → eqCells ks a' b' = some r
  | [], [], [], [], [], r, _, _, e => e
  | [], [], [], _ :: _, _, r, l, _, e => by simp [VL] at l
  | [], [], [], [], _ :: _, r, _, l, e => by simp [VL] at l
  | k :: ks, x :: a, y :: b, a', b', r, l, m, e => by
    match a', b', l, m with
    | x' :: a', y' :: b', l, m =>
      have l0 : VR μ h x x' := l.2 0 x x' rfl rfl
      have m0 : VR μ h y y' := m.2 0 y y' rfl rfl
      have l1 : VL μ h a a' := ⟨by simpa using l.1, fun i v v' p q => l.2 (i + 1) v v' (by simpa using p) (by simpa using q)⟩
      have m1 : VL μ h b b' := ⟨by simpa using m.1, fun i v v' p q => m.2 (i + 1) v v' (by simpa using p) (by simpa using q)⟩
      simp only [B.eqCells, Option.bind_eq_some_iff, Option.map_eq_some_iff] at e ⊢
      obtain ⟨q, h1, s, h2, rfl⟩ := e
      refine ⟨q, ?_, s, VL.eqCells l1 m1 h2, rfl⟩
      unfold keyEq at h1
      split at h1
      · rw [l0.int_inv, m0.int_inv]; exact h1
      · rw [l0.string_inv, m0.string_inv]; exact h1
      · rw [l0.bool_inv, m0.bool_inv]; exact h1
      · cases h1
    | [], _, l, _ => simp [VL] at l
    | _ :: _, [], _, m => simp [VL] at m

theorem op_eqs {t u : TypeId} {x y : Operand} {op : BinOp} {ks : List Nat} {a b : Array Value} {r neg : Bool} (hop : op = if neg then .neq else .eql) (ho : o.op = .binOp op t x y u) (ht : (∃ fs, P.underlying t = some (.struct fs)) ∨ ∃ n e, P.underlying t = some (.array n e))
    (hf : flatK P 8 t = some ks) (hg : P.eqGuardType P.depth t = false) (hx : okO G x = true) (hy : okO G y = true)
    (he : evO ρ x = .agg a) (hf2 : evO ρ y = .agg b) (hr : eqCells ks a.toList b.toList = some r) : OpV P G o ρ h (.bool (if neg then !r else r)) := by
  intro μ w ac s rr
  refine ⟨_, ?_, .bool _⟩
  have q := evO_vr s rr hx
  have q2 := evO_vr s rr hy
  rw [he] at q
  rw [hf2] at q2
  obtain ⟨a', ea, la⟩ := q.agg_inv
  obtain ⟨b', eb, lb⟩ := q2.agg_inv
  have hr' := VL.eqCells la lb hr
  have ⟨td, htd, hag⟩ : ∃ td, P.underlying t = some td ∧ isAggD td = true := by
    rcases ht with ⟨fs, e⟩ | ⟨n, e', e⟩
    · exact ⟨_, e, rfl⟩
    · exact ⟨_, e, rfl⟩
  have run := flat_run 8 10000 t ks td a'.toList b'.toList (.agg a') (.agg b') r (by omega) hf htd hr' (by simp [aggOf, hag]) (by simp [aggOf, hag]) w
  cases neg <;> subst hop <;> simp only [execOp, ho, ea, eb, Sem.run_bind, run_eqGuard_agg w _ t x y _ _ hg, Result.andThen_ok]
  · show ((binOp .eql t (.agg a') (.agg b')).run P w).andThen _ = _
    rw [run_eql_struct, run]
    rfl
  · show ((binOp .neq t (.agg a') (.agg b')).run P w).andThen _ = _
    rw [run_neq_struct, run]
    rfl

/-! ### nil -/
theorem VR.nilOf {kd : Nat} {v v' : Value} {r : Bool} (k : VR μ h v v') (hr : nilOf kd v = some r) : nilOf kd v' = some r := by
  unfold B.nilOf at hr
  split at hr <;> first | (cases hr; done) | (cases k <;> exact hr)

theorem isNilO_inv {kd : Nat} {y : Operand} (hn : isNilO kd y = true) : ∃ v, y = .const v ∧ ((kd = 0 ∧ v = .pointer none) ∨ (kd = 1 ∧ v = .slice none 0 0) ∨ (kd = 2 ∧ v = .map none) ∨ (kd = 3 ∧ v = .nilFunc) ∨ (kd = 4 ∧ v = .nilIface)) := by
  unfold isNilO at hn
  split at hn <;> first | (cases hn; done) | exact ⟨_, rfl, by simp⟩

theorem nil_run {kd D : Nat} {t : TypeId} {d : TypeDesc} {v z : Value} {r : Bool} (ht : P.underlying t = some d) (hd : nilD d = some kd) (hv : nilOf kd v = some r) (hz : (kd = 0 ∧ z = .pointer none) ∨ (kd = 1 ∧ z = .slice none 0 0) ∨ (kd = 2 ∧ z = .map none) ∨ (kd = 3 ∧ z = .nilFunc) ∨ (kd = 4 ∧ z = .nilIface)) (w : World) :
    (Op.equalIn (D + 1) t v z).run P w = .ok r w ∧ (Op.equalIn (D + 1) t z v).run P w = .ok r w := by
  unfold nilOf at hv
  split at hv
  · rename_i a
    cases hv
    rcases hz with ⟨_, rfl⟩ | ⟨q, _⟩ | ⟨q, _⟩ | ⟨q, _⟩ | ⟨q, _⟩ <;> first | (cases q; done) | skip
    cases d <;> simp [nilD] at hd
    cases a <;> simp [Op.equalIn, run_underlying ht]
  · rename_i a _ _
    cases hv
    rcases hz with ⟨q, _⟩ | ⟨_, rfl⟩ | ⟨q, _⟩ | ⟨q, _⟩ | ⟨q, _⟩ <;> first | (cases q; done) | skip
    cases d <;> simp [nilD] at hd
    cases a <;> simp [Op.equalIn, run_underlying ht]
  · rename_i a
    cases hv
    rcases hz with ⟨q, _⟩ | ⟨q, _⟩ | ⟨_, rfl⟩ | ⟨q, _⟩ | ⟨q, _⟩ <;> first | (cases q; done) | skip
    cases d <;> simp [nilD] at hd
    cases a <;> simp [Op.equalIn, run_underlying ht]
  all_goals first | (cases hv; done) | skip
  all_goals
    cases hv
    rcases hz with ⟨q, rfl⟩ | ⟨q, rfl⟩ | ⟨q, rfl⟩ | ⟨q, rfl⟩ | ⟨q, rfl⟩ <;> first | (cases q; done) | skip
    cases d <;> simp [nilD] at hd <;> simp [Op.equalIn, run_underlying ht]

theorem op_eqn {t u : TypeId} {x y z : Operand} {op : BinOp} {kd : Nat} {d : TypeDesc} {r neg : Bool} (hop : op = if neg then .neq else .eql) (ho : o.op = .binOp op t x y u) (ht : P.underlying t = some d) (hd : nilD d = some kd)
    (hz : (isNilO kd y = true ∧ z = x) ∨ (isNilO kd x = true ∧ z = y)) (hok : okO G z = true) (hr : nilOf kd (evO ρ z) = some r) : OpV P G o ρ h (.bool (if neg then !r else r)) := by
  intro μ w a s rr
  refine ⟨_, ?_, .bool _⟩
  have q := (evO_vr s rr hok).nilOf hr
  have eg : ∀ w, (eqGuard op t x y (a.eval x) (a.eval y)).run P w = .ok () w := by
    intro w
    have nag : ∀ v, nilOf kd v = some r → (∀ cs, v ≠ .agg cs) := by
      intro v hv cs e
      subst e
      unfold nilOf at hv
      split at hv <;> simp_all
    rcases hz with ⟨hn, rfl⟩ | ⟨hn, rfl⟩
    · obtain ⟨c, rfl, hc⟩ := isNilO_inv hn
      have hnag := nag _ q
      generalize a.eval z = vz at *
      show (eqGuard op t z (.const c) vz c).run P w = _
      unfold eqGuard
      cases neg <;> subst hop <;> rcases hc with ⟨_, rfl⟩ | ⟨_, rfl⟩ | ⟨_, rfl⟩ | ⟨_, rfl⟩ | ⟨_, rfl⟩ <;> cases vz <;> simp
    · obtain ⟨c, rfl, hc⟩ := isNilO_inv hn
      have hnag := nag _ q
      generalize a.eval z = vz at *
      show (eqGuard op t (.const c) z c vz).run P w = _
      unfold eqGuard
      cases neg <;> subst hop <;> rcases hc with ⟨_, rfl⟩ | ⟨_, rfl⟩ | ⟨_, rfl⟩ | ⟨_, rfl⟩ | ⟨_, rfl⟩ <;> cases vz <;> simp
  have run : (Op.equal t (a.eval x) (a.eval y)).run P w = .ok r w := by
    rcases hz with ⟨hn, rfl⟩ | ⟨hn, rfl⟩
    · obtain ⟨c, rfl, hc⟩ := isNilO_inv hn
      exact (nil_run (D := 9999) ht hd q hc w).1
    · obtain ⟨c, rfl, hc⟩ := isNilO_inv hn
      exact (nil_run (D := 9999) ht hd q hc w).2
  have bo : ∀ w, (binOp op t (a.eval x) (a.eval y)).run P w = ((Op.equal t (a.eval x) (a.eval y)).run P w).andThen fun b w => .ok (.bool (if neg then !b else b)) w := by
    intro w
    have ni : ∀ v, nilOf kd v = some r → ((∃ a, v = .pointer a) ∨ (∃ a n c, v = .slice a n c) ∨ (∃ m, v = .map m) ∨ v = .nilFunc ∨ (∃ f a c, v = .func f a c) ∨ v = .nilIface ∨ ∃ t u, v = .iface t u) := by
      intro v hv
      unfold nilOf at hv
      split at hv <;> simp_all
    rcases hz with ⟨hn, rfl⟩ | ⟨hn, rfl⟩
    · obtain ⟨c, rfl, hc⟩ := isNilO_inv hn
      show (binOp op t (a.eval z) c).run P w = ((Op.equal t (a.eval z) c).run P w).andThen _
      have hni := ni _ q
      generalize a.eval z = vz at *
      cases neg <;> subst hop <;> rcases hc with ⟨_, rfl⟩ | ⟨_, rfl⟩ | ⟨_, rfl⟩ | ⟨_, rfl⟩ | ⟨_, rfl⟩ <;> rcases hni with ⟨_, rfl⟩ | ⟨_, _, _, rfl⟩ | ⟨_, rfl⟩ | rfl | ⟨_, _, _, rfl⟩ | rfl | ⟨_, _, rfl⟩ <;> simp [binOp]
    · obtain ⟨c, rfl, hc⟩ := isNilO_inv hn
      show (binOp op t c (a.eval z)).run P w = ((Op.equal t c (a.eval z)).run P w).andThen _
      have hni := ni _ q
      generalize a.eval z = vz at *
      cases neg <;> subst hop <;> rcases hc with ⟨_, rfl⟩ | ⟨_, rfl⟩ | ⟨_, rfl⟩ | ⟨_, rfl⟩ | ⟨_, rfl⟩ <;> rcases hni with ⟨_, rfl⟩ | ⟨_, _, _, rfl⟩ | ⟨_, rfl⟩ | rfl | ⟨_, _, _, rfl⟩ | rfl | ⟨_, _, rfl⟩ <;> simp [binOp]
  simp only [execOp, ho, Sem.run_bind, eg, Result.andThen_ok, bo, run]
  rfl

/-! ### parts of strings and arrays -/
theorem op_ixv {t e : TypeId} {x i : Operand} {m sz by_ : Nat} {d : TypeDesc} {kk : IntKind} {n : Int} {cs : Array Value} {v : Value} (ho : o.op = .index t x i) (hx : okO G x = true) (hi : okO G i = true) (ht : P.underlying t = some (.array m e)) (hd : P.underlying e = some d) (hinf : infoOf P e = some (sz, by_))
    (he : evO ρ x = .agg cs) (hf : evO ρ i = .int kk n) (h0 : 0 ≤ n) (h1 : n < m) (hle : n.toNat * sz + sz ≤ cs.size) (hv : aggOf (isAggD d) ((cs.toList.drop (n.toNat * sz)).take sz) = some v) : OpV P G o ρ h v := by
  intro μ w a s r
  have q := evO_vr s r hx
  rw [he] at q
  have q2 := evO_vr s r hi
  rw [hf] at q2
  obtain ⟨ds, k1, k2⟩ := q.agg_inv
  cases hq : P.info? e with
  | none => simp [infoOf, hq] at hinf
  | some inf =>
    simp [infoOf, hq] at hinf
    obtain ⟨v', p1, p2⟩ := aggOf_vl (k2.take_drop (n.toNat * sz) sz) hv
    refine ⟨v', ?_, p2⟩
    have hsz : ds.size = cs.size := by have := k2.1; simpa using this.symm
    have := part_run (P := P) (off := n.toNat * sz) (cs := ds) hd hq (by omega) (by rw [hinf.1]; exact p1) w
    simp [execOp, ho, Instr.index, q2.int_inv, asIntOf, run_underlying ht, k1, h0, h1, sizeOf, typeInfo, hq, hinf.1, this]

theorem op_ixstr {t : TypeId} {x i : Operand} {kk : IntKind} {n : Int} {st : ByteArray} {b : UInt8} (ho : o.op = .index t x i) (hx : okO G x = true) (hi : okO G i = true) (ht : P.underlying t = some .string)
    (he : evO ρ x = .string st) (hf : evO ρ i = .int kk n) (h0 : 0 ≤ n) (hb : st[n.toNat]? = some b) : OpV P G o ρ h (.int .u8 b.toNat) := by
  intro μ w a s r
  have q := evO_vr s r hx
  rw [he] at q
  have q2 := evO_vr s r hi
  rw [hf] at q2
  refine ⟨_, ?_, .int _ _⟩
  simp [execOp, ho, Instr.index, q2.int_inv, q.string_inv, asIntOf, run_underlying ht, h0, hb]

theorem op_slstr {t : TypeId} {x : Operand} {lo hi : Option Operand} {l u : Option Int} {st : ByteArray} (ho : o.op = .slice t x lo hi none) (ht : P.underlying t = some .string)
    (hx : okO G x = true) (hlo : okOs G lo.toList = true) (hhi : okOs G hi.toList = true) (he : evO ρ x = .string st) (hl : intO (lo.map (evO ρ)) = some l) (hu : intO (hi.map (evO ρ)) = some u)
    (h0 : 0 ≤ l.getD 0) (h1 : l.getD 0 ≤ u.getD st.size) (h2 : u.getD st.size ≤ st.size) : OpV P G o ρ h (.string (st.extract (l.getD 0).toNat (u.getD st.size).toNat)) := by
  intro μ w a s r
  have q := evO_vr s r hx
  rw [he] at q
  refine ⟨_, ?_, .string _⟩
  have hb := bounds_run (P := P) (sl := false) (intO_run s r hlo hl) (intO_run s r hhi hu) h0 h1 h2 (Nat.le_refl _) w
  simp only [execOp, ho, Option.map_none, Sem.run_bind, Instr.sliceAt, run_underlying ht, Result.andThen_ok, Instr.slice, q.string_inv, hb, Option.isSome_none, Bool.false_eq_true, if_false, Sem.run_pure]

theorem op_sla {t e : TypeId} {x : Operand} {lo hi : Option Operand} {n sz by_ b ob : Nat} {l u : Option Int} (ho : o.op = .slice t x lo hi none) (ht : P.underlying t = some (.array n e)) (hinf : infoOf P e = some (sz, by_))
    (hx : okO G x = true) (hlo : okOs G lo.toList = true) (hhi : okOs G hi.toList = true) (he : evO ρ x = .pointer (some ⟨b, ob, none⟩)) (hl : intO (lo.map (evO ρ)) = some l) (hu : intO (hi.map (evO ρ)) = some u)
    (h0 : 0 ≤ l.getD 0) (h1 : l.getD 0 ≤ u.getD n) (h2 : u.getD n ≤ n) (hs : slaOK h b) :
    OpV P G o ρ h (.slice (some ⟨b, if (l.getD 0).toNat = n then ob else ob + (l.getD 0).toNat * sz, none⟩) ((u.getD n).toNat - (l.getD 0).toNat) (n - (l.getD 0).toNat)) := by
  intro μ w a s r
  have q := evO_vr s r hx
  rw [he] at q
  obtain ⟨y, k1, k2⟩ := q.ptr_inv
  cases hq : P.info? e with
  | none => simp [infoOf, hq] at hinf
  | some inf =>
    simp only [infoOf, hq, Option.map_some, Option.some.injEq, Prod.mk.injEq] at hinf
    have hb := bounds_run (P := P) (sl := false) (intO_run s r hlo hl) (intO_run s r hhi hu) h0 h1 h2 (Nat.le_refl _) w
    refine ⟨.slice (some ⟨y.blk, y.off + (if (l.getD 0).toNat = n then ob else ob + (l.getD 0).toNat * sz), none⟩) ((u.getD n).toNat - (l.getD 0).toNat) (n - (l.getD 0).toNat), ?_, .slice _ _ _ _ k1 ?_⟩
    · simp only [execOp, ho, Option.map_none, Sem.run_bind, Instr.sliceAt, run_underlying ht, Result.andThen_ok, k2, Instr.sureAddr, hb, sizeOf, typeInfo, run_program, hq, Sem.run_pure, hinf.1]
      by_cases hc : n = (l.getD 0).toNat
      · rw [if_pos hc, if_pos hc.symm]
      · rw [if_neg hc, if_neg (fun e => hc e.symm), add_none, Nat.add_assoc]
    · unfold capOK
      unfold slaOK at hs
      split at hs
      · simp [*]
      · simp [*]
      · exact hs.elim

/-! ### maps -/
theorem op_mkmap {t : TypeId} (ho : o.op = .makeMap t none) : OpJ P G o ρ h (.map (some h.length)) (h ++ [.map true []]) := by
  refine OpJ.of_value fun μ w a s r => ?_
  have st := Step.alloc s (.map true []) (.map #[] 0) ⟨w.heap.size, 0, 0⟩ rfl (fun μ' h' w' hr hh hw => ⟨#[], 0, hw, ⟨rfl, fun _ => ⟨fun x hx => (by simp at hx), by simp⟩⟩, fun i kv hi => by simp at hi⟩)
  refine ⟨.map (some w.heap.size), _, _, ?_, VR.map (x := ⟨w.heap.size, 0, 0⟩) (by simp), st⟩
  simp [execOp, ho, Instr.makeMap]

/-- The entries of a map, in the world. -/
theorem mapEs_sim (s : Sim G μ h w) {m m' : Value} {es : List (Value × Value)} (k : VR μ h m m') (hm : mapEs h m = some es) :
    (m' = .map none ∧ es = []) ∨ ∃ (x : Pl) (b : Nat) (fs : Array MapEntry) (clock : Nat), m = .map (some b) ∧ μ b = some x ∧ m' = .map (some x.blk) ∧ w.heap[x.blk]? = some (.map fs clock) ∧ fs.size = es.length ∧
      ∀ (i : Nat) (kv : Value × Value), es[i]? = some kv → ∃ e : MapEntry, fs[i]? = some e ∧ VR μ h kv.1 e.key ∧ VR μ h kv.2 e.val := by
  unfold mapEs at hm
  split at hm
  · cases hm; cases k; exact .inl ⟨rfl, rfl⟩
  · split at hm
    · rename_i b _ rw es' hb
      cases hm
      cases k with
      | map hx =>
        rename_i x
        obtain ⟨fs, clock, h1, h2, h3⟩ := s.obj _ _ _ hx hb
        exact .inr ⟨x, b, fs, clock, rfl, hx, rfl, h1, h2.1, h3⟩
    · cases hm
  · cases hm

theorem keyEq_now {kd : Nat} {d : TypeDesc} {k a k' a' : Value} {r : Bool} (hd : kindD d = some kd) (hk : VR μ h k k') (ha : VR μ h a a') (hr : keyEq kd k a = some r) : Instr.sameNow d k' a' = some r ∧ (r = true → Instr.sameBits 10000 a' k' = true) := by
  unfold keyEq at hr
  split at hr
  · split at hr
    · rename_i q
      subst q
      cases hr
      rw [hk.int_inv, ha.int_inv]
      cases d <;> simp [kindD] at hd
      exact ⟨by simp [Instr.sameNow], by simp only [Instr.sameBits, beq_iff_eq, Bool.and_eq_true, true_and]; intro e; exact e.symm⟩
    · cases hr
  · cases hr
    rw [hk.string_inv, ha.string_inv]
    cases d <;> simp [kindD] at hd
    refine ⟨by simp [Instr.sameNow, beq_toListBytes], ?_⟩
    simp only [Instr.sameBits, beq_toListBytes, beq_iff_eq]
    exact fun e => e.symm
  · cases hr
    rw [hk.bool_inv, ha.bool_inv]
    cases d <;> simp [kindD] at hd
    exact ⟨by simp [Instr.sameNow], by simp only [Instr.sameBits, beq_iff_eq]; exact fun e => e.symm⟩
  · cases hr

theorem findIx_now {kd : Nat} {d : TypeDesc} {k k' : Value} (hd : kindD d = some kd) (hk : VR μ h k k') : ∀ {es : List (Value × Value)} {fs : List MapEntry} {o : Option Nat} (n : Nat), fs.length = es.length →
    (∀ (i : Nat) (kv : Value × Value), es[i]? = some kv → ∃ e : MapEntry, fs[i]? = some e ∧ VR μ h kv.1 e.key ∧ VR μ h kv.2 e.val) → findIx kd k es = some o →
    match o with
    | none => Instr.findNow d k' fs n = some none
    | some i => ∃ e : MapEntry, fs[i]? = some e ∧ Instr.findNow d k' fs n = some (some (n + i, e.val)) ∧ Instr.sameBits 10000 e.key k' = true ∧ i < es.length
  | [], [], o, n, hl, hs, hf => by
    simp [findIx] at hf
    subst hf
    rfl
  | (a, v) :: es, f :: fs, o, n, hl, hs, hf => by
    obtain ⟨e, h1, h2, h3⟩ := hs 0 (a, v) rfl
    simp at h1
    subst h1
    simp only [findIx] at hf
    split at hf
    · rename_i hq
      cases hf
      have := keyEq_now hd hk h2 hq
      exact ⟨f, rfl, by simp [Instr.findNow, this.1], this.2 rfl, by simp⟩
    · rename_i hq
      simp only [Option.map_eq_some_iff] at hf
      obtain ⟨o', ho', rfl⟩ := hf
      have := keyEq_now hd hk h2 hq
      have ih := findIx_now hd hk (n + 1) (by simpa using hl) (fun i kv hi => by simpa using hs (i + 1) kv (by simpa using hi)) ho'
      cases o' with
      | none => simpa [Instr.findNow, this.1] using ih
      | some i =>
        obtain ⟨e, q1, q2, q3, q4⟩ := ih
        refine ⟨e, by simpa using q1, ?_, q3, by simpa using q4⟩
        simp only [Instr.findNow, this.1, q2]
        simp; omega
    · cases hf

theorem checkKey_run {kt : TypeId} {d : TypeDesc} {kd : Nat} (ht : P.underlying kt = some d) (hd : kindD d = some kd) (e : Bool) (k : Value) (w : World) : (Instr.checkKey e 10000 kt k).run P w = .ok () w := by
  show (Instr.checkKey e (9999 + 1) kt k).run P w = _
  unfold Instr.checkKey
  simp only [Sem.run_bind, run_underlying ht, Result.andThen_ok]
  cases d <;> simp [kindD] at hd <;> simp

theorem lookup_run {t kt e : TypeId} {d : TypeDesc} {kd : Nat} {z x k : Value} {fs : Array MapEntry} {q : Option (Nat × Value)} (ok : Bool) (ht : P.underlying t = some (.map kt e)) (hkt : P.underlying kt = some d) (hd : kindD d = some kd)
    (hz : ∀ w, (zeroValue e).run P w = .ok z w) (hx : (x = .map none ∧ fs = #[]) ∨ ∃ r clock, x = .map (some r) ∧ w.heap[r]? = some (.map fs clock)) (hf : Instr.findNow d k fs.toList 0 = some q) :
    (Instr.lookup t x k ok).run P w = .ok (lookV z ok (q.map (·.2))) w := by
  rcases hx with ⟨rfl, rfl⟩ | ⟨r, clock, rfl, h1⟩
  · simp only [Instr.lookup, Sem.run_bind, run_underlying ht, Result.andThen_ok, Sem.run_pure, checkKey_run hkt hd, MapKept.run_findKey hkt hf]
    cases q with
    | none => simp [hz, lookV]
    | some q => simp [lookV]
  · simp only [Instr.lookup, Sem.run_bind, run_underlying ht, Result.andThen_ok, Sem.run_pure, MapKept.run_getObj_map h1, checkKey_run hkt hd, MapKept.run_findKey hkt hf]
    cases q with
    | none => simp [hz, lookV]
    | some q => simp [lookV]

theorem op_lookup {t kt e : TypeId} {m k : Operand} {ok : Bool} {d : TypeDesc} {kd : Nat} {z : Value} {es : List (Value × Value)} {r : Option Value} (ho : o.op = .lookup t m k ok) (ht : P.underlying t = some (.map kt e)) (hkt : P.underlying kt = some d) (hd : kindD d = some kd)
    (hz : (P.info? e).bind (·.zero) = some z) (hm : okO G m = true) (hk : okO G k = true) (hp : plainB z = true) (hes : mapEs h (evO ρ m) = some es) (hr : findV kd (evO ρ k) es = some r) : OpV P G o ρ h (lookV z ok r) := by
  intro μ w a s rr
  have qm := evO_vr s rr hm
  have qk := evO_vr s rr hk
  have hzero : ∀ w, (zeroValue e).run P w = .ok z w := by
    intro w
    cases hi : P.info? e with
    | none => simp [hi] at hz
    | some i => simp [hi] at hz; simp [zeroValue, typeInfo, hi, hz]
  simp only [findV, Option.map_eq_some_iff] at hr
  obtain ⟨oi, hf, rfl⟩ := hr
  obtain ⟨fs, hl, hget, hrel⟩ : ∃ fs : Array MapEntry, fs.toList.length = es.length ∧ ((a.eval m = .map none ∧ fs = #[]) ∨ ∃ r clock, a.eval m = .map (some r) ∧ w.heap[r]? = some (.map fs clock)) ∧ (∀ (i : Nat) (kv : Value × Value), es[i]? = some kv → ∃ e : MapEntry, fs.toList[i]? = some e ∧ VR μ h kv.1 e.key ∧ VR μ h kv.2 e.val) := by
    rcases mapEs_sim s qm hes with ⟨e1, e2⟩ | ⟨x, b, fs, clock, _, _, e1, e2, e3, e4⟩
    · subst e2
      exact ⟨#[], rfl, .inl ⟨e1, rfl⟩, fun i kv hi => by simp at hi⟩
    · exact ⟨fs, by simpa using e3, .inr ⟨_, _, e1, e2⟩, by simpa using e4⟩
  have hn := findIx_now (μ := μ) (h := h) hd qk (fs := fs.toList) 0 hl hrel hf
  have res : ∀ {v v' : Value} {b : Bool}, VR μ h v v' → VR μ h (if ok then .tuple #[v, .bool b] else v) (if ok then .tuple #[v', .bool b] else v') := by
    intro v v' b q
    cases ok
    · exact q
    · exact VL.tuple (VL.cons q (VL.cons (.bool b) VL.nil))
  cases oi with
  | none =>
    have run := lookup_run (w := w) (x := a.eval m) ok ht hkt hd hzero hget hn
    refine ⟨_, by simp only [execOp, ho, Sem.run_bind, run, Result.andThen_ok]; rfl, ?_⟩
    exact res (VR.of_plain hp)
  | some i =>
    obtain ⟨en, q1, q2, q3, q4⟩ := hn
    have run := lookup_run (w := w) (x := a.eval m) ok ht hkt hd hzero hget q2
    refine ⟨_, by simp only [execOp, ho, Sem.run_bind, run, Result.andThen_ok]; rfl, ?_⟩
    obtain ⟨en', r1, r2, r3⟩ := hrel i es[i] (List.getElem?_eq_getElem q4)
    rw [q1] at r1; cases r1
    simp only [Option.bind_some, List.getElem?_eq_getElem q4, Option.map_some]
    exact res r3

theorem born_push {fs : Array MapEntry} {clock : Nat} (k : Born fs clock) (a v : Value) : Born (fs.push { key := a, val := v, born := clock }) (clock + 1) := by
  refine ⟨fun x hx => ?_, ?_⟩
  · rw [Array.toList_push] at hx
    rcases List.mem_append.1 hx with q | q
    · have := k.1 x q; omega
    · have : x = { key := a, val := v, born := clock } := by simpa using q
      rw [this]; exact Nat.lt_succ_self _
  · rw [Array.toList_push, List.map_append, List.nodup_append]
    refine ⟨k.2, by simp, fun a ha b hb => ?_⟩
    obtain ⟨x, hx, rfl⟩ := List.mem_map.1 ha
    have : b = clock := by simpa using hb
    have := k.1 x hx
    omega
theorem born_modify {fs : Array MapEntry} {clock : Nat} (k : Born fs clock) (i : Nat) (f : MapEntry → MapEntry) (hf : ∀ e, (f e).born = e.born) : Born (fs.modify i f) clock := by
  have he : (fs.modify i f).toList.map (·.born) = fs.toList.map (·.born) := by
    apply List.ext_getElem?
    intro j
    simp only [List.getElem?_map, Array.getElem?_toList, Array.getElem?_modify]
    split
    · cases fs[j]? <;> simp [hf]
    · rfl
  refine ⟨fun x hx => ?_, by rw [he]; exact k.2⟩
  have : x.born ∈ (fs.modify i f).toList.map (·.born) := List.mem_map_of_mem hx
  rw [he] at this
  obtain ⟨y, hy, e⟩ := List.mem_map.1 this
  rw [← e]; exact k.1 y hy

theorem op_mapset {t kt e : TypeId} {m k v : Operand} {d : TypeDesc} {kd b : Nat} {es es' : List (Value × Value)} (ho : o.op = .mapUpdate t m k v) (ht : P.underlying t = some (.map kt e)) (hkt : P.underlying kt = some d) (hd : kindD d = some kd)
    (hm : okO G m = true) (hk : okO G k = true) (hv : okO G v = true) (hem : evO ρ m = .map (some b)) (hb : h[b]? = some (.map true es)) (hs : setEs kd (evO ρ k) (evO ρ v) es = some es') : OpJ P G o ρ h undef (h.set b (.map true es')) := by
  intro μ w a s r next Q hnx
  have qm := evO_vr s r hm
  have qk := evO_vr s r hk
  have qv := evO_vr s r hv
  rw [hem] at qm
  generalize hg : a.eval m = vm at qm
  cases qm with
  | map hx =>
    rename_i x
    obtain ⟨fs, clock, h1, ⟨h2, hB⟩, h3⟩ := s.obj _ _ _ hx hb
    simp only [setEs, Option.map_eq_some_iff] at hs
    obtain ⟨oi, hf, hes'⟩ := hs
    have hn := findIx_now (μ := μ) (h := h) hd qk (fs := fs.toList) 0 (by simpa using h2) (by simpa using h3) hf
    have fin : ∀ (fs' : Array MapEntry) (clock' : Nat), (execOp a.eval o).run P w = .ok .skip { w with heap := w.heap.setIfInBounds x.blk (.map fs' clock') } → (fs'.size = es'.length ∧ (true = true → Born fs' clock')) →
        (∀ (i : Nat) (kv : Value × Value), es'[i]? = some kv → ∃ e : MapEntry, fs'[i]? = some e ∧ VR μ h kv.1 e.key ∧ VR μ h kv.2 e.val) → o.wp P a w next Q := by
      intro fs' clock' hrun hsz hrel
      have hh := MapKept.heap_set (o' := .map fs' clock') h1
      have st : Step G μ h w μ (h.set b (.map true es')) { w with heap := w.heap.setIfInBounds x.blk (.map fs' clock') } := by
        have hle : OLe (.map true es) (.map true es') := rfl
        refine Step.write s hx hb rfl hle rfl rfl rfl (by simp) (fun c hc => hh.2 c hc) ⟨fs', clock', hh.1, hsz, fun i kv hi => ?_⟩
        obtain ⟨e, a1, a2, a3⟩ := hrel i kv hi
        exact ⟨e, a1, a2.mono s.dom (fun _ _ k => k) (HLe.set hb hle), a3.mono s.dom (fun _ _ k => k) (HLe.set hb hle)⟩
      unfold Oper.wp
      rw [hrun]
      exact hnx undef μ _ (.any _) st
    cases oi with
    | none =>
      simp only at hes' hn
      subst hes'
      refine fin (fs.push { key := a.eval k, val := a.eval v, born := clock }) (clock + 1) ?_ ⟨by simp [h2], fun _ => born_push (hB rfl) _ _⟩ ?_
      · simp [execOp, ho, Instr.mapUpdate, hg, run_underlying ht, MapKept.run_getObj_map h1, checkKey_run hkt hd, MapKept.run_findKey hkt hn, MapKept.run_setObj_map _ h1]
      · intro i kv hi
        rcases Nat.lt_or_ge i es.length with q | q
        · rw [List.getElem?_append_left q] at hi
          obtain ⟨e, a1, a2, a3⟩ := h3 i kv hi
          exact ⟨e, by rw [Array.getElem?_push, if_neg (by omega)]; exact a1, a2, a3⟩
        · rw [List.getElem?_append_right q] at hi
          have : i = es.length := by
            have := (List.getElem?_eq_some_iff.1 hi).1
            simp at this; omega
          subst this
          simp at hi
          subst hi
          exact ⟨{ key := a.eval k, val := a.eval v, born := clock }, by rw [← h2]; simp, qk, qv⟩
    | some i =>
      simp only at hes' hn
      subst hes'
      obtain ⟨en, q1, q2, q3, q4⟩ := hn
      have q1' : fs[i]? = some en := by simpa using q1
      refine fin (fs.modify i fun e => { e with key := a.eval k, val := a.eval v }) clock ?_ ⟨by simp [h2], fun _ => born_modify (hB rfl) i _ fun _ => rfl⟩ ?_
      · simp [execOp, ho, Instr.mapUpdate, hg, run_underlying ht, MapKept.run_getObj_map h1, checkKey_run hkt hd, MapKept.run_findKey hkt q2, MapKept.run_setObj_map _ h1, q1', Instr.keyThatStays, q3]
      · intro j kv hj
        by_cases e : i = j
        · subst e
          rw [List.getElem?_set_self q4] at hj
          cases hj
          exact ⟨{ en with key := a.eval k, val := a.eval v }, by simp [Array.getElem?_modify, q1'], qk, qv⟩
        · rw [List.getElem?_set_ne e] at hj
          obtain ⟨e', a1, a2, a3⟩ := h3 j kv hj
          exact ⟨e', by simp [Array.getElem?_modify, e, a1], a2, a3⟩

theorem op_lenm {c : Call} {x : Operand} {kt e : TypeId} {es : List (Value × Value)} (ho : o.op = .call c) (hc : c.callee = .builtin .len) (ha : c.args.toList = [x]) (hx : okO G x = true)
    (ht : (c.argTypes[0]?).bind (P.underlying ·) = some (.map kt e)) (hes : mapEs h (evO ρ x) = some es) : OpV P G o ρ h (.int .i64 es.length) := by
  refine fun μ w a s r => ⟨.int .i64 es.length, ?_, .int _ _⟩
  have hargs : c.args = #[x] := by rw [← Array.toArray_toList (xs := c.args), ha]
  have q := evO_vr s r hx
  rw [Option.bind_eq_some_iff] at ht
  obtain ⟨t, t1, t2⟩ := ht
  rcases mapEs_sim s q hes with ⟨e1, e2⟩ | ⟨x, b, fs, clock, _, _, e1, e2, e3, e4⟩
  · subst e2
    simp [execOp, ho, resolve, hc, hargs, invoke, builtin, Builtin.len_, t1, run_underlying t2, e1, goInt]
  · simp [execOp, ho, resolve, hc, hargs, invoke, builtin, Builtin.len_, t1, run_underlying t2, e1, goInt, MapKept.run_getObj_map e2, e3]

end Go.Proofs.YtpnpccnbpgckhabGreat.B
