/-
  Code over an abstract heap: regions, branches, loops, calls; and that the model's code does what it says.
-/
import Derived.Test.YtpnpccnbpgckhabGreatAbX
namespace Go.Proofs.YtpnpccnbpgckhabGreat.B
open Go
set_option linter.unusedVariables false
set_option linter.unusedSimpArgs false
variable {G : Nat} {P : Program}

/-- 0: looks at no memory; 1: turns no memory that was; 2: turns some. -/
def kindI : I → Nat
  | .store .. | .app .. | .mapset .. | .callw .. | .cpy .. | .clr .. => 2
  | .mkmap | .lookup .. | .lenm .. | .sla .. | .new .. | .box .. | .row .. | .load .. | .sl .. | .mkslice .. | .call .. | .callv .. | .bts .. | .xc .. => 1
  | _ => 0

def Met (P : Program) (G : Nat) (o : Oper) (i : I) (ρ : Nat → Value) (h : AHeap) (v : Value) (h' : AHeap) : Prop :=
  (kindI i = 0 ∧ (∀ h2, OpV P G o ρ h2 v) ∧ h' = h) ∨ (kindI i ≠ 0 ∧ OpJ P G o ρ h v h')

theorem Met.j {o : Oper} {i : I} {ρ : Nat → Value} {h h' : AHeap} {v : Value} (k : Met P G o i ρ h v h') : OpJ P G o ρ h v h' := by
  rcases k with ⟨_, h1, rfl⟩ | ⟨_, h1⟩
  · exact (h1 _).j
  · exact h1

/-- Every instruction is met by its operation. -/
theorem resI_sound {o : Oper} {i : I} {ρ : Nat → Value} {h : AHeap} {K : Value → AHeap → Prop} (hr : resI P G o.op = some i) (hk : wpI P G i ρ h K) : ∃ v h', Met P G o i ρ h v h' ∧ K v h' := by
  unfold resI at hr
  split at hr
  · -- move
    rename_i x ho
    split at hr <;> cases hr
    exact ⟨_, _, .inl ⟨rfl, fun _ => op_mv (.inl ho) (by assumption), rfl⟩, hk⟩
  · rename_i x ho
    split at hr <;> cases hr
    exact ⟨_, _, .inl ⟨rfl, fun _ => op_mv (.inr ho) (by assumption), rfl⟩, hk⟩
  · -- pick
    rename_i c x y ho
    split at hr <;> cases hr
    simp only [wpI] at hk
    split at hk
    · exact ⟨_, _, .inl ⟨rfl, fun _ => op_pick ho (by assumption) (by assumption), rfl⟩, hk⟩
    · exact hk.elim
  · -- alloc
    rename_i e ho
    simp only [Option.bind_eq_bind, Option.bind_eq_some_iff] at hr
    obtain ⟨z, hz, hr⟩ := hr
    split at hr <;> cases hr
    exact ⟨_, _, .inr ⟨by simp [kindI], op_new ho hz (by assumption)⟩, hk⟩
  · -- box
    rename_i e x ho
    split at hr <;> cases hr
    simp only [wpI] at hk
    split at hk
    · exact ⟨_, _, .inr ⟨by simp [kindI], op_box ho (by assumption) (by assumption)⟩, hk⟩
    · exact hk.elim
  · -- build
    rename_i t parts ho
    split at hr
    · rename_i fs ht
      simp only [Option.bind_eq_bind, Option.bind_eq_some_iff] at hr
      obtain ⟨z, hz, qs, hqs, ps, hps, hr⟩ := hr
      split at hr <;> cases hr
      rename_i hc
      simp only [Bool.and_eq_true] at hc
      simp only [wpI] at hk
      split at hk
      · rename_i cs hcs
        refine ⟨_, _, .inl ⟨rfl, fun _ => op_build ho hz hc.1 hc.2 (.inl ⟨fs, qs, ht, hqs, rfl⟩) ?_ hcs, rfl⟩, hk⟩
        unfold partsS at hps
        simpa using hps
      · exact hk.elim
    · rename_i n e ht
      simp only [Option.bind_eq_bind, Option.bind_eq_some_iff] at hr
      obtain ⟨z, hz, ⟨sz, b⟩, hinf, hr⟩ := hr
      split at hr <;> cases hr
      rename_i hc
      simp only [Bool.and_eq_true] at hc
      simp only [wpI] at hk
      split at hk
      · rename_i cs hcs
        cases hq : P.info? e with
        | none => simp [infoOf, hq] at hinf
        | some ie =>
          simp [infoOf, hq] at hinf
          obtain ⟨rfl, rfl⟩ := hinf
          refine ⟨_, _, .inl ⟨rfl, fun _ => op_build ho hz hc.1 hc.2 (.inr ⟨n, e, ie, ht, hq, rfl⟩) ?_ hcs, rfl⟩, hk⟩
          exact mapM_some _ _
      · exact hk.elim
    · cases hr
  · -- buildSlice
    rename_i t len parts ho
    split at hr
    · rename_i e ht
      simp only [Option.bind_eq_bind, Option.bind_eq_some_iff] at hr
      obtain ⟨z, hz, ⟨sz, b⟩, hinf, hr⟩ := hr
      split at hr <;> cases hr
      rename_i hc
      simp only [Bool.and_eq_true, beq_iff_eq, decide_eq_true_eq] at hc
      simp only [wpI] at hk
      split at hk
      · rename_i cs hcs
        exact ⟨_, _, .inr ⟨by simp [kindI], op_row ho ht hinf hz hc.1.1.1.1 hc.1.1.1.2 hc.1.1.2 hc.1.2 hc.2 hcs⟩, hk⟩
      · exact hk.elim
    · cases hr
  · -- load
    rename_i t x ho
    simp only [Option.bind_eq_bind, Option.bind_eq_some_iff] at hr
    obtain ⟨d, hd, ⟨sz, b⟩, hinf, hr⟩ := hr
    split at hr <;> cases hr
    simp only [wpI] at hk
    split at hk
    · split at hk
      · exact ⟨_, _, .inr ⟨by simp [kindI], (op_load ho (by assumption) hd hinf (by assumption) (by assumption)).j⟩, hk⟩
      · exact hk.elim
    · exact hk.elim
  · -- store
    rename_i t x y ho
    simp only [Option.bind_eq_bind, Option.bind_eq_some_iff] at hr
    obtain ⟨⟨sz, b⟩, hinf, hr⟩ := hr
    split at hr <;> cases hr
    rename_i hc
    simp only [Bool.and_eq_true] at hc
    simp only [wpI] at hk
    split at hk
    · obtain ⟨h1, h2, hk⟩ := hk
      split at hk
      · exact ⟨_, _, .inr ⟨by simp [kindI], op_store ho hc.1 hc.2 hinf (by assumption) (by assumption) h1 h2 (by assumption)⟩, hk⟩
      · exact hk.elim
    · exact hk.elim
  · -- nilCheck
    rename_i x ho
    split at hr <;> cases hr
    simp only [wpI] at hk
    split at hk
    · rename_i a he
      exact ⟨_, _, .inl ⟨rfl, fun _ => op_nilck ho (by assumption) he (.inl ⟨a, rfl⟩), rfl⟩, hk⟩
    · rename_i t v he
      exact ⟨_, _, .inl ⟨rfl, fun _ => op_nilck ho (by assumption) he (.inr ⟨t, v, rfl⟩), rfl⟩, hk⟩
    · exact hk.elim
  · -- binOp
    rename_i op t x y u ho
    split at hr
    · rename_i hc
      simp only [Bool.and_eq_true] at hc
      split at hr
      · cases hr
        obtain ⟨v, h1, h2⟩ := op_bin (K := (K · h)) (P := P) ho hc.1 hc.2 (by simpa only [wpI] using hk)
        exact ⟨v, h, .inl ⟨rfl, h1, rfl⟩, h2⟩
      · cases hr
        obtain ⟨v, h1, h2⟩ := op_bin (K := (K · h)) (P := P) ho hc.1 hc.2 (by simpa only [wpI] using hk)
        exact ⟨v, h, .inl ⟨rfl, h1, rfl⟩, h2⟩
      · rename_i ht
        split at hr
        · cases hr
          simp only [wpI] at hk
          split at hk
          · exact ⟨_, _, .inl ⟨rfl, fun _ => op_eqb (neg := false) rfl ho ht hc.1 hc.2 (by assumption) (by assumption), rfl⟩, hk⟩
          · exact hk.elim
        · cases hr
          simp only [wpI] at hk
          split at hk
          · exact ⟨_, _, .inl ⟨rfl, fun _ => op_eqb (neg := true) rfl ho ht hc.1 hc.2 (by assumption) (by assumption), rfl⟩, hk⟩
          · exact hk.elim
        · cases hr
      · -- structs
        rename_i fs ht
        simp only [Option.bind_eq_some_iff] at hr
        obtain ⟨ks, hks, hr⟩ := hr
        split at hr
        · cases hr
        · rename_i hg
          split at hr
          · cases hr
            simp only [wpI] at hk
            split at hk
            · split at hk
              · exact ⟨_, _, .inl ⟨rfl, fun _ => op_eqs (neg := false) rfl ho (.inl ⟨_, ht⟩) hks (by simpa using hg) hc.1 hc.2 (by assumption) (by assumption) (by assumption), rfl⟩, hk⟩
              · exact hk.elim
            · exact hk.elim
          · cases hr
            simp only [wpI] at hk
            split at hk
            · split at hk
              · exact ⟨_, _, .inl ⟨rfl, fun _ => op_eqs (neg := true) rfl ho (.inl ⟨_, ht⟩) hks (by simpa using hg) hc.1 hc.2 (by assumption) (by assumption) (by assumption), rfl⟩, hk⟩
              · exact hk.elim
            · exact hk.elim
          · cases hr
      · -- arrays
        rename_i n e ht
        simp only [Option.bind_eq_some_iff] at hr
        obtain ⟨ks, hks, hr⟩ := hr
        split at hr
        · cases hr
        · rename_i hg
          split at hr
          · cases hr
            simp only [wpI] at hk
            split at hk
            · split at hk
              · exact ⟨_, _, .inl ⟨rfl, fun _ => op_eqs (neg := false) rfl ho (.inr ⟨_, _, ht⟩) hks (by simpa using hg) hc.1 hc.2 (by assumption) (by assumption) (by assumption), rfl⟩, hk⟩
              · exact hk.elim
            · exact hk.elim
          · cases hr
            simp only [wpI] at hk
            split at hk
            · split at hk
              · exact ⟨_, _, .inl ⟨rfl, fun _ => op_eqs (neg := true) rfl ho (.inr ⟨_, _, ht⟩) hks (by simpa using hg) hc.1 hc.2 (by assumption) (by assumption) (by assumption), rfl⟩, hk⟩
              · exact hk.elim
            · exact hk.elim
          · cases hr
      · -- nil
        rename_i d _ _ _ _ _ ht
        simp only [Option.bind_eq_some_iff] at hr
        obtain ⟨kd, hkd, hr⟩ := hr
        have key : ∀ {neg : Bool} {z : Operand}, op = (if neg then .neq else .eql) → (isNilO kd y = true ∧ z = x) ∨ (isNilO kd x = true ∧ z = y) → okO G z = true → wpI P G (.eqn kd neg z) ρ h K → ∃ v h', Met P G o (.eqn kd neg z) ρ h v h' ∧ K v h' := by
          intro neg z hop hz hok hk
          simp only [wpI] at hk
          split at hk
          · exact ⟨_, _, .inl ⟨rfl, fun _ => op_eqn hop ho ht hkd hz hok (by assumption), rfl⟩, hk⟩
          · exact hk.elim
        split at hr
        · split at hr
          · cases hr; exact key (neg := false) rfl (.inl ⟨by assumption, rfl⟩) hc.1 hk
          · split at hr
            · cases hr; exact key (neg := false) rfl (.inr ⟨by assumption, rfl⟩) hc.2 hk
            · cases hr
        · split at hr
          · cases hr; exact key (neg := true) rfl (.inl ⟨by assumption, rfl⟩) hc.1 hk
          · split at hr
            · cases hr; exact key (neg := true) rfl (.inr ⟨by assumption, rfl⟩) hc.2 hk
            · cases hr
        · cases hr
      · cases hr
    · cases hr
  · -- unOp
    rename_i op t x ho
    split at hr <;> cases hr
    obtain ⟨v, h1, h2⟩ := op_un (K := (K · h)) (P := P) ho (by assumption) (by simpa only [wpI] using hk)
    exact ⟨v, h, .inl ⟨rfl, h1, rfl⟩, h2⟩
  · -- convert
    rename_i s t x ho
    split at hr
    · rename_i j k hs ht
      split at hr <;> cases hr
      simp only [wpI] at hk
      split at hk
      · exact ⟨_, _, .inl ⟨rfl, fun _ => op_conv ho hs ht (by assumption) (by assumption), rfl⟩, hk⟩
      · exact hk.elim
    · rename_i e hs ht
      split at hr
      · rename_i he8
        split at hr <;> cases hr
        simp only [wpI] at hk
        split at hk
        · exact ⟨_, _, .inr ⟨by simp [kindI], (op_bts0 ho hs he8 ht (by assumption) (by assumption)).j⟩, hk⟩
        · split at hk
          · rename_i ns hb
            obtain ⟨cs, h1, h2⟩ := Option.bind_eq_some_iff.1 hb
            exact ⟨_, _, .inr ⟨by simp [kindI], (op_bts ho hs he8 ht (by assumption) (by assumption) (Nat.succ_ne_zero _) h1 h2).j⟩, hk⟩
          · exact hk.elim
        · exact hk.elim
      · cases hr
    · cases hr
  · -- fieldAddr
    rename_i t x f ho
    simp only [Option.bind_eq_bind, Option.bind_eq_some_iff] at hr
    obtain ⟨qs, hqs, ⟨off, sz⟩, hq, hr⟩ := hr
    split at hr <;> cases hr
    rename_i hc
    simp only [Bool.and_eq_true, decide_eq_true_eq] at hc
    simp only [wpI] at hk
    split at hk
    · have : ∃ fs, P.underlying t = some (.struct fs) := by
        unfold fieldsOf at hqs
        split at hqs
        · exact ⟨_, by assumption⟩
        · cases hqs
      obtain ⟨fs, ht⟩ := this
      exact ⟨_, _, .inl ⟨rfl, fun _ => op_fld ho hc.1 ht hqs hq hc.2 (by assumption), rfl⟩, hk⟩
    · exact hk.elim
  · -- field
    rename_i t x f ho
    split at hr
    · rename_i fs ht
      simp only [Option.bind_eq_bind, Option.bind_eq_some_iff] at hr
      obtain ⟨q, hq, d, hd, ⟨sz, b⟩, hinf, hr⟩ := hr
      split at hr <;> cases hr
      simp only [wpI] at hk
      split at hk
      · obtain ⟨h1, hk⟩ := hk
        split at hk
        · exact ⟨_, _, .inl ⟨rfl, fun _ => op_part ho (by assumption) ht hq hd hinf (by assumption) h1 (by assumption), rfl⟩, hk⟩
        · exact hk.elim
      · exact hk.elim
    · cases hr
  · -- indexAddr
    rename_i t x i ho
    split at hr
    · rename_i e ht
      simp only [Option.bind_eq_bind, Option.bind_eq_some_iff] at hr
      obtain ⟨⟨sz, b⟩, hinf, hr⟩ := hr
      split at hr <;> cases hr
      rename_i hc
      simp only [Bool.and_eq_true] at hc
      simp only [wpI] at hk
      split at hk
      · exact ⟨_, _, .inl ⟨rfl, fun _ => op_ixs ho hc.1 hc.2 ht hinf (by assumption) (by assumption) hk.1.1 hk.1.2, rfl⟩, hk.2⟩
      · exact hk.elim
    · rename_i n e ht
      simp only [Option.bind_eq_bind, Option.bind_eq_some_iff] at hr
      obtain ⟨⟨sz, b⟩, hinf, hr⟩ := hr
      split at hr <;> cases hr
      rename_i hc
      simp only [Bool.and_eq_true] at hc
      simp only [wpI] at hk
      split at hk
      · exact ⟨_, _, .inl ⟨rfl, fun _ => op_ixa ho hc.1 hc.2 ht hinf (by assumption) (by assumption) hk.1.1 hk.1.2, rfl⟩, hk.2⟩
      · exact hk.elim
    · cases hr
  · -- slice
    rename_i t x lo hi ho
    split at hr
    · rename_i e ht
      simp only [Option.bind_eq_bind, Option.bind_eq_some_iff] at hr
      obtain ⟨⟨sz, b⟩, hinf, hr⟩ := hr
      split at hr <;> cases hr
      rename_i hc
      simp only [Bool.and_eq_true] at hc
      simp only [wpI] at hk
      split at hk
      · obtain ⟨⟨h0, h1, h2, h3⟩, hk⟩ := hk
        obtain ⟨v, k1, k2⟩ := op_sl (h := h) (K := K) ho ht hinf hc.1.1 hc.1.2 hc.2 (by assumption) (by assumption) (by assumption) h0 h1 h2 h3 hk
        exact ⟨v, h, .inr ⟨by simp [kindI], k1⟩, k2⟩
      · exact hk.elim
    · rename_i ht
      split at hr <;> cases hr
      rename_i hc
      simp only [Bool.and_eq_true] at hc
      simp only [wpI] at hk
      split at hk
      · obtain ⟨⟨h0, h1, h2⟩, hk⟩ := hk
        exact ⟨_, _, .inl ⟨rfl, fun _ => op_slstr ho ht hc.1.1 hc.1.2 hc.2 (by assumption) (by assumption) (by assumption) h0 h1 h2, rfl⟩, hk⟩
      · exact hk.elim
    · rename_i n e ht
      simp only [Option.bind_eq_bind, Option.bind_eq_some_iff] at hr
      obtain ⟨⟨sz, b⟩, hinf, hr⟩ := hr
      split at hr <;> cases hr
      rename_i hc
      simp only [Bool.and_eq_true] at hc
      simp only [wpI] at hk
      split at hk
      · obtain ⟨⟨h0, h1, h2⟩, hs, hk⟩ := hk
        exact ⟨_, _, .inr ⟨by simp [kindI], (op_sla ho ht hinf hc.1.1 hc.1.2 hc.2 (by assumption) (by assumption) (by assumption) h0 h1 h2 hs).j⟩, hk⟩
      · exact hk.elim
    · cases hr
  · -- makeSlice
    rename_i t l c ho
    split at hr
    · rename_i e ht
      simp only [Option.bind_eq_bind, Option.bind_eq_some_iff] at hr
      obtain ⟨z, hz, ⟨sz, b⟩, hinf, hr⟩ := hr
      split at hr <;> cases hr
      rename_i hc
      simp only [Bool.and_eq_true, beq_iff_eq, decide_eq_true_eq] at hc
      simp only [wpI] at hk
      split at hk
      · obtain ⟨⟨h0, h1, h2, h3⟩, hk⟩ := hk
        exact ⟨_, _, .inr ⟨by simp [kindI], op_mkslice ho ht hinf hz hc.1.1.1.1 hc.1.2 hc.2 hc.1.1.1.2 hc.1.1.2 (by assumption) (by assumption) h0 h1 h2 h3⟩, hk⟩
      · exact hk.elim
    · cases hr
  · -- makeMap
    rename_i t ho
    split at hr
    · cases hr
      exact ⟨_, _, .inr ⟨by simp [kindI], op_mkmap ho⟩, hk⟩
    · cases hr
  · -- lookup
    rename_i t m k ok ho
    split at hr
    · rename_i kt e ht
      simp only [Option.bind_eq_bind, Option.bind_eq_some_iff] at hr
      obtain ⟨d, hd, kd, hkd, z, hz, hr⟩ := hr
      split at hr <;> cases hr
      rename_i hc
      simp only [Bool.and_eq_true] at hc
      simp only [wpI] at hk
      split at hk
      · split at hk
        · exact ⟨_, _, .inr ⟨by simp [kindI], (op_lookup ho ht hd hkd (by simpa [Option.bind_eq_some_iff] using hz) hc.1.1 hc.1.2 hc.2 (by assumption) (by assumption)).j⟩, hk⟩
        · exact hk.elim
      · exact hk.elim
    · cases hr
  · -- mapUpdate
    rename_i t m k v ho
    split at hr
    · rename_i kt e ht
      simp only [Option.bind_eq_bind, Option.bind_eq_some_iff] at hr
      obtain ⟨d, hd, kd, hkd, hr⟩ := hr
      split at hr <;> cases hr
      rename_i hc
      simp only [Bool.and_eq_true] at hc
      simp only [wpI] at hk
      split at hk
      · split at hk
        · split at hk
          · exact ⟨_, _, .inr ⟨by simp [kindI], op_mapset ho ht hd hkd hc.1.1 hc.1.2 hc.2 (by assumption) (by assumption) (by assumption)⟩, hk⟩
          · exact hk.elim
        · exact hk.elim
      · exact hk.elim
    · cases hr
  · -- index
    rename_i t x i ho
    split at hr
    · rename_i n e ht
      simp only [Option.bind_eq_bind, Option.bind_eq_some_iff] at hr
      obtain ⟨d, hd, ⟨sz, b⟩, hinf, hr⟩ := hr
      split at hr <;> cases hr
      rename_i hc
      simp only [Bool.and_eq_true] at hc
      simp only [wpI] at hk
      split at hk
      · obtain ⟨⟨h0, h1⟩, hle, hk⟩ := hk
        split at hk
        · exact ⟨_, _, .inl ⟨rfl, fun _ => op_ixv ho hc.1 hc.2 ht hd hinf (by assumption) (by assumption) h0 h1 hle (by assumption), rfl⟩, hk⟩
        · exact hk.elim
      · exact hk.elim
    · rename_i ht
      split at hr <;> cases hr
      rename_i hc
      simp only [Bool.and_eq_true] at hc
      simp only [wpI] at hk
      split at hk
      · obtain ⟨h0, hk⟩ := hk
        split at hk
        · exact ⟨_, _, .inl ⟨rfl, fun _ => op_ixstr ho hc.1 hc.2 ht (by assumption) (by assumption) h0 (by assumption), rfl⟩, hk⟩
        · exact hk.elim
      · exact hk.elim
    · cases hr
  · -- extract
    rename_i x i ho
    split at hr <;> cases hr
    simp only [wpI] at hk
    split at hk
    · split at hk
      · exact ⟨_, _, .inl ⟨rfl, fun _ => op_ext ho (by assumption) (by assumption) (by assumption), rfl⟩, hk⟩
      · exact hk.elim
    · exact hk.elim
  · -- makeFunc
    rename_i f fs cs ho
    split at hr <;> cases hr
    rename_i hc
    simp only [Bool.and_eq_true] at hc
    exact ⟨_, _, .inl ⟨rfl, fun _ => op_mkfunc ho (by simpa using hc.1) hc.2, rfl⟩, hk⟩
  · -- makeInterface
    rename_i t x ho
    split at hr
    · cases hr
    · rename_i d hd ht
      split at hr <;> cases hr
      simp only [wpI] at hk
      split at hk
      · exact hk.elim
      · exact ⟨_, _, .inl ⟨rfl, fun _ => op_mkiface ho ht (fun ms e => hd ms e) (by assumption), rfl⟩, hk⟩
    · cases hr
  · -- panic
    cases hr
    exact hk.elim
  · -- call
    rename_i c ho
    split at hr
    · rename_i f hc
      split at hr
      · cases hr
        rename_i hq
        simp only [Bool.and_eq_true] at hq
        obtain ⟨v, h', h1, h2⟩ := hk
        exact ⟨v, h', .inr ⟨by simp [kindI], op_call ho hc hq.1 hq.2 h1⟩, h2⟩
      · split at hr <;> cases hr
        rename_i hq
        simp only [Bool.and_eq_true] at hq
        obtain ⟨v, h', h1, h2⟩ := hk
        exact ⟨v, h', .inr ⟨by simp [kindI], op_xc hq.1 (run_xfun ho hc) h1⟩, h2⟩
    · -- a method behind an interface
      rename_i rv name hc
      split at hr <;> cases hr
      rename_i hq
      simp only [Bool.and_eq_true] at hq
      obtain ⟨v, h', h1, h2⟩ := hk
      exact ⟨v, h', .inr ⟨by simp [kindI], op_xc (by simp [okOs, hq.1]; simpa [okOs] using hq.2) (run_xmeth ho hc) h1⟩, h2⟩
    · rename_i f _ hc
      split at hr <;> cases hr
      rename_i hq
      simp only [Bool.and_eq_true] at hq
      simp only [wpI] at hk
      split at hk
      · obtain ⟨h0, v, h', h1, h2⟩ := hk
        exact ⟨v, h', .inr ⟨by simp [kindI], op_callv ho hc hq.1 hq.2 h0 (by assumption) h1⟩, h2⟩
      · exact hk.elim
    · -- len
      rename_i hc
      split at hr
      · rename_i x e ha ht
        split at hr <;> cases hr
        simp only [wpI] at hk
        split at hk
        · exact ⟨_, _, .inl ⟨rfl, fun _ => op_len ho hc ha (by assumption) (.inl ⟨_, _, _, ht, by assumption⟩), rfl⟩, hk⟩
        · rename_i q _; cases q
        · exact hk.elim
      · rename_i x ha ht
        split at hr <;> cases hr
        simp only [wpI] at hk
        split at hk
        · rename_i q _; cases q
        · exact ⟨_, _, .inl ⟨rfl, fun _ => op_len ho hc ha (by assumption) (.inr ⟨_, ht, by assumption, rfl⟩), rfl⟩, hk⟩
        · exact hk.elim
      · rename_i x kt e ha ht
        split at hr <;> cases hr
        simp only [wpI] at hk
        split at hk
        · exact ⟨_, _, .inr ⟨by simp [kindI], (op_lenm ho hc ha (by assumption) ht (by assumption)).j⟩, hk⟩
        · exact hk.elim
      · cases hr
    · -- append
      rename_i hc
      split at hr
      · rename_i x y t u ha hat
        have key : ∀ {str : Bool} {e : TypeId} {sz by_ : Nat} {z : List Value}, P.underlying t = some (.slice e) → (if str then P.underlying u = some .string else ∃ e', P.underlying u = some (.slice e')) → infoOf P e = some (sz, by_) → zeroOf P e = some z →
            okO G x = true → okO G y = true → z.length = sz → wpI P G (.app str sz by_ x y) ρ h K → ∃ v h', Met P G o (.app str sz by_ x y) ρ h v h' ∧ K v h' := by
          intro str e sz by_ z ht hu hinf hz hx hy hzl hk
          obtain ⟨zv, _, hz2, inf, hi, hz3⟩ := zeroOf_run hz default
          have hzz : (P.info? e).bind (·.zero) = some zv := by rw [hi]; exact hz3
          have hzs : zv.cells.size = sz := by rw [← hzl, ← hz2]; simp
          simp only [wpI] at hk
          split at hk
          · rename_i n vs he hs
            obtain ⟨h1, h2⟩ := hk
            obtain ⟨v, h', k1, k2⟩ := op_app ho hc ha hat ht hu hinf hzz hzs hx hy hs h1 (by rw [he]; exact h2)
            exact ⟨v, h', .inr ⟨by simp [kindI], k1⟩, k2⟩
          · rename_i b off len cap n vs he hs
            obtain ⟨h1, h2⟩ := hk
            obtain ⟨v, h', k1, k2⟩ := op_app ho hc ha hat ht hu hinf hzz hzs hx hy hs h1 (by rw [he]; exact h2)
            exact ⟨v, h', .inr ⟨by simp [kindI], k1⟩, k2⟩
          · exact hk.elim
        split at hr
        · rename_i e e' ht hu
          simp only [Option.bind_eq_bind, Option.bind_eq_some_iff] at hr
          obtain ⟨⟨sz, b⟩, hinf, z, hz, hr⟩ := hr
          split at hr <;> cases hr
          rename_i hq
          simp only [Bool.and_eq_true, beq_iff_eq] at hq
          exact key (str := false) ht ⟨_, hu⟩ hinf hz hq.1.1 hq.1.2 hq.2 hk
        · rename_i e ht hu
          simp only [Option.bind_eq_bind, Option.bind_eq_some_iff] at hr
          obtain ⟨⟨sz, b⟩, hinf, z, hz, hr⟩ := hr
          split at hr <;> cases hr
          rename_i hq
          simp only [Bool.and_eq_true, beq_iff_eq] at hq
          exact key (str := true) ht hu hinf hz hq.1.1 hq.1.2 hq.2 hk
        · cases hr
      · cases hr
    · -- copy
      rename_i hc
      split at hr
      · rename_i x y t u ha hat
        split at hr
        · rename_i e e' ht hu
          simp only [Option.bind_eq_bind, Option.bind_eq_some_iff] at hr
          obtain ⟨⟨sz, b⟩, hinf, hr⟩ := hr
          split at hr <;> cases hr
          rename_i hq
          simp only [Bool.and_eq_true] at hq
          simp only [wpI] at hk
          split at hk
          · rename_i r hs
            exact ⟨_, _, .inr ⟨by simp [kindI], op_cpy ho hc ha hat ht hinf hq.1 hq.2 hs⟩, hk⟩
          · exact hk.elim
        · cases hr
      · cases hr
    · -- clear
      rename_i hc
      split at hr
      · rename_i x t ha hat
        split at hr
        · rename_i e ht
          simp only [Option.bind_eq_bind, Option.bind_eq_some_iff] at hr
          obtain ⟨⟨sz, b⟩, hinf, z, hz, hr⟩ := hr
          split at hr <;> cases hr
          rename_i hq
          simp only [Bool.and_eq_true] at hq
          simp only [wpI] at hk
          split at hk
          · rename_i h' hs
            exact ⟨_, _, .inr ⟨by simp [kindI], op_clr ho hc ha hat ht hz hq.2 hq.1 hs⟩, hk⟩
          · exact hk.elim
        · cases hr
      · cases hr
    · -- max
      rename_i hc
      split at hr
      · rename_i x y ha
        split at hr <;> cases hr
        rename_i hq
        simp only [Bool.and_eq_true] at hq
        simp only [wpI] at hk
        split at hk
        · obtain ⟨rfl, hk⟩ := hk
          exact ⟨_, _, .inl ⟨rfl, fun _ => op_mm (mx := true) ho hc ha hq.1 hq.2 (by assumption) (by assumption), rfl⟩, hk⟩
        · exact hk.elim
      · cases hr
    · -- min
      rename_i hc
      split at hr
      · rename_i x y ha
        split at hr <;> cases hr
        rename_i hq
        simp only [Bool.and_eq_true] at hq
        simp only [wpI] at hk
        split at hk
        · obtain ⟨rfl, hk⟩ := hk
          exact ⟨_, _, .inl ⟨rfl, fun _ => op_mm (mx := false) ho hc ha hq.1 hq.2 (by assumption) (by assumption), rfl⟩, hk⟩
        · exact hk.elim
      · cases hr
    · cases hr
  · cases hr

end Go.Proofs.YtpnpccnbpgckhabGreat.B
