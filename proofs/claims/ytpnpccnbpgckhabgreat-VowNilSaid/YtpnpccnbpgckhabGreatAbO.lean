/-
  An argument of any shape (numbers, bools, strings, structs, arrays, slices of these), opened: what the abstract heap holds for it.
-/
import Derived.Test.YtpnpccnbpgckhabGreatArL
import Derived.Test.YtpnpccnbpgckhabGreatAbR
import Derived.Deep.Slices
import Derived.ChangeShapes
import Derived.WideShapes
import Derived.OpenShut
namespace Go.Proofs.YtpnpccnbpgckhabGreat.B
open Go Go.RowKit Go.ChangeShapes Go.WideShapes
set_option linter.unusedVariables false
set_option linter.unusedSimpArgs false

inductive Sh where
  | bool
  | int (k : IntKind)
  | str
  | slice (sz by_ : Nat) (e : Sh)
  | nil
  | fld (n : Nat) (a r : Sh)
  | arr (n sz : Nat) (e : Sh)

def shFs (P : Program) (k : TypeId → Option Sh) : List Field → Nat → Option Sh
  | [], _ => some .nil
  | f :: r, o => if f.offset = o then (k f.type).bind fun a => (shFs P k r (o + P.cellsOf f.type)).map fun b => .fld (P.cellsOf f.type) a b else none

def shOf (P : Program) : Nat → TypeId → Option Sh
  | 0, _ => none
  | d + 1, t => match P.underlying t with
    | some .bool => some .bool
    | some (.int k) => some (.int k)
    | some .string => some .str
    | some (.slice e) => if P.cellsOf e = 0 then none else (shOf P d e).map (.slice (P.cellsOf e) (P.bytesOf e))
    | some (.struct fs) => shFs P (shOf P d) fs.toList 0
    | some (.array n e) => (shOf P d e).map (.arr n (P.cellsOf e))
    | _ => none

def Sh.ok (h : AHeap) : Sh → List Value → Prop
  | .bool, c => ∃ b, c = [.bool b]
  | .int k, c => ∃ n, c = [.int k n] ∧ (Lit.int k n).wf = true
  | .str, c => ∃ s : ByteArray, c = [.string s] ∧ s.size ≤ reachBytes
  | .slice sz by_ e, c => ∃ v n cs, c = [v] ∧ Sl h sz v n cs ∧ n * by_ ≤ reachBytes ∧ ∀ i, i < n → e.ok h ((cs.drop (i * sz)).take sz)
  | .nil, _ => True
  | .fld n a r, c => a.ok h (c.take n) ∧ r.ok h (c.drop n)
  | .arr n sz e, c => ∀ i, i < n → e.ok h ((c.drop (i * sz)).take sz)

section
variable {H : Type} {enc : TypeId × Value → H} {P : Program} {W : World}

theorem maxLen_eq : maxLen = maxI := rfl

theorem weights_all {e : TypeId} : ∀ {l : List (DataW H)} {d : DataW H}, d ∈ l → ∀ n ∈ d.weights P e, n ∈ DataW.weightsAll P e l
  | [], d, h, n, hn => by cases h
  | x :: l, d, h, n, hn => by
    simp only [DataW.weightsAll, List.mem_append]
    cases h with
    | head => exact .inl hn
    | tail _ h => exact .inr (weights_all h n hn)

theorem cells_lt {a : Addr} {n : Nat} {cs : List Value} (h : W.cells? 0 a n = some cs) (hn : n ≠ 0) : a.spot = none ∧ a.block < W.heap.size ∧ cs.length = n ∧ ∀ i : Nat, i < n → W.cell? ⟨a.block, a.off + i, none⟩ = cs[i]? := by
  obtain ⟨_, hlen, hc⟩ := World.cells?_some h
  obtain ⟨b, o, sp⟩ := a
  have h0 := hc 0 (by omega)
  rw [List.getElem?_eq_getElem (by omega)] at h0
  have hsp : sp = none := by simpa [Addr.add] using World.cell?_spot h0
  subst hsp
  refine ⟨rfl, ?_, hlen, fun i hi => by rw [← hc i hi, add_none]⟩
  rw [add_none] at h0
  simp only [World.cell?] at h0
  cases q : W.heap[b]? with
  | none => simp [q] at h0
  | some x => exact (Array.getElem?_eq_some_iff.1 q).1

theorem abs1_string (n : Nat) (s : ByteArray) : abs1 n (.string s) = .string s := rfl

theorem open_fs {k : TypeId → Option Sh} {W : World} {n : Nat} {cs : List Value}
    (hk : ∀ (t : TypeId) (cs : List Value) (x : DataW H × List MemPlace) (s : Sh), k t = some s → DataW.trod enc P W 0 (fun _ => true) true n t cs = some x → (∀ n ∈ x.1.weights P t, n ≤ reachBytes) → s.ok (absH W) (cs.map (abs1 W.heap.size))) :
    ∀ (fs : List Field) (o : Nat) (s : Sh) (xs : List (DataW H × List MemPlace)), shFs P k fs o = some s → xs.length = fs.length →
      (∀ (i : Nat) (f : Field), fs[i]? = some f → DataW.trod enc P W 0 (fun _ => true) true n f.type ((cs.drop f.offset).take (P.cellsOf f.type)) = xs[i]?) →
      (∀ n ∈ DataW.weightsEach P (fs.map (·.type)) (xs.map (·.1)), n ≤ reachBytes) → s.ok (absH W) ((cs.map (abs1 W.heap.size)).drop o)
  | [], o, s, xs, hs, hl, hf, hw => by cases hs; trivial
  | f :: fs, o, s, xs, hs, hl, hf, hw => by
    unfold shFs at hs
    split at hs
    · rename_i ho
      obtain ⟨a, ha, hs⟩ := Option.bind_eq_some_iff.1 hs
      obtain ⟨b, hb, rfl⟩ := Option.map_eq_some_iff.1 hs
      match xs, hl with
      | x :: xs, hl =>
        have h0 := hf 0 f rfl
        simp only [List.getElem?_cons_zero] at h0
        refine ⟨?_, ?_⟩
        · have := hk _ _ _ _ ha h0 (fun n hn => hw n (by simp only [List.map_cons, DataW.weightsEach, List.mem_append]; exact .inl hn))
          rw [ho, List.map_take, List.map_drop] at this
          exact this
        · rw [List.drop_drop]
          exact open_fs hk fs _ b xs hb (by simpa using hl) (fun i g hg => by have := hf (i + 1) g (by simpa using hg); simpa using this)
            (fun n hn => hw n (by simp only [List.map_cons, DataW.weightsEach, List.mem_append]; exact .inr hn))
    · cases hs

theorem open_sh : ∀ (d fuel : Nat) (t : TypeId) (cs : List Value) (x : DataW H × List MemPlace) (s : Sh), shOf P d t = some s → DataW.trod enc P W 0 (fun _ => true) true fuel t cs = some x →
    (∀ n ∈ x.1.weights P t, n ≤ reachBytes) → s.ok (absH W) (cs.map (abs1 W.heap.size)) := by
  intro d
  induction d with
  | zero => intro fuel t cs x s hs; cases hs
  | succ d ih =>
    intro fuel t cs x s hs hx hw
    unfold shOf at hs
    split at hs
    · rename_i hu; cases hs
      obtain ⟨b, rfl, rfl⟩ := DataW.trod_bool hu hx
      exact ⟨b, rfl⟩
    · rename_i k hu; cases hs
      obtain ⟨n, rfl, rfl, hwf⟩ := DataW.trod_int hu hx
      exact ⟨n, rfl, hwf⟩
    · rename_i hu; cases hs
      obtain ⟨s, rfl, rfl, hle⟩ := DataW.trod_string hu hx
      exact ⟨s, rfl, by simpa [DataW.weights] using hw⟩
    · rename_i e hu
      split at hs
      · cases hs
      rename_i hne
      obtain ⟨se, he, rfl⟩ := Option.map_eq_some_iff.1 hs
      rcases Go.Deep.open_slice hu hx with ⟨rfl, rfl⟩ | ⟨a, len, cap, m, n, D, Pl, rfl, hb, hl, hm, hmm, rfl, hel⟩
      · exact ⟨_, 0, [], rfl, .nil, by omega, fun i hi => by omega⟩
      · simp only [if_true] at hmm
        subst hmm
        have hw0 : m * P.bytesOf e ≤ reachBytes := by
          have := hw (m * P.bytesOf e) (by simp only [DataW.weights, hu, List.mem_cons]; left; simp [show len + (m - len) = m by omega])
          exact this
        have hlw : len * P.bytesOf e ≤ reachBytes := Nat.le_trans (Nat.mul_le_mul_right _ hl) hw0
        by_cases hm0 : m = 0
        · subst hm0
          obtain rfl : len = 0 := by omega
          obtain ⟨b, o, sp⟩ := a
          refine ⟨abs1 W.heap.size (.slice (some ⟨b, o, sp⟩) 0 0), 0, [], rfl, ?_, hlw, fun i hi => by omega⟩
          cases sp with
          | none =>
            simp only [abs1]
            split
            · rename_i hlt
              exact .row (by simp) (fun q => absurd rfl q) (Nat.le_refl _) (by simpa [absH] using hlt) (by
                unfold slOK; rw [absH_get, Array.getElem?_eq_getElem hlt]
                cases W.heap[b] <;> simp [absO]) (by unfold maxI; omega)
            · exact .void
          | some q => exact .void
        · -- the cells, all of them
          have each : ∀ i, i < m → ∃ cs', W.cells? 0 (a.add (i * P.cellsOf e)) (P.cellsOf e) = some cs' ∧ DataW.trod enc P W 0 (fun _ => true) true n e cs' = some (D i, Pl i) := hel
          obtain ⟨c0, hc0, _⟩ := each 0 (by omega)
          obtain ⟨b, o, sp⟩ := a
          have hq := cells_lt hc0 hne
          have hsp : sp = none := by simpa [Addr.add] using hq.1
          subst hsp
          have hlt : b < W.heap.size := by simpa [Addr.add] using hq.2.1
          obtain ⟨F, hF⟩ := Go.Deep.choose_lt each
          have hFl : ∀ i, i < m → (F i).length = P.cellsOf e ∧ ∀ j : Nat, j < P.cellsOf e → W.cell? ⟨b, o + (i * P.cellsOf e + j), none⟩ = (F i)[j]? := fun i hi => by
            have := cells_lt (hF i hi).1 hne
            rw [add_none] at this
            exact ⟨this.2.2.1, fun j hj => by rw [← Nat.add_assoc]; exact this.2.2.2 j hj⟩
          have hlen0 : ∀ k, k ≤ m → ((List.range k).flatMap F).length = k * P.cellsOf e := by
            intro k
            induction k with
            | zero => intro _; simp
            | succ k ihk => intro hk; rw [List.range_succ, List.flatMap_append, List.length_append, ihk (by omega)]; simp [(hFl k (by omega)).1, Nat.succ_mul]
          have hget : ∀ k, k ≤ m → ∀ i, i < k → ∀ j, j < P.cellsOf e → ((List.range k).flatMap F)[i * P.cellsOf e + j]? = (F i)[j]? := by
            intro k
            induction k with
            | zero => intro _ i hi; omega
            | succ k ihk =>
              intro hk i hi j hj
              rw [List.range_succ, List.flatMap_append]
              by_cases hik : i < k
              · have h2 := Nat.mul_le_mul_right (P.cellsOf e) hik
                rw [Nat.succ_mul] at h2
                rw [List.getElem?_append_left (by rw [hlen0 k (by omega)]; omega)]
                exact ihk (by omega) i hik j hj
              · obtain rfl : i = k := by omega
                rw [List.getElem?_append_right (by rw [hlen0 i (by omega)]; omega), hlen0 i (by omega)]
                simp
          have hrds : len ≠ 0 → rds (absH W) b o (len * P.cellsOf e) = some ((((List.range len).flatMap F)).map (abs1 W.heap.size)) := fun hl0 => by
            refine root_rds (hlen0 len hl) hlt (fun i hi => ?_) (by rw [hlen0 len hl]; exact Nat.mul_ne_zero hl0 hne)
            rw [hlen0 len hl] at hi
            have hpos : 0 < P.cellsOf e := Nat.pos_of_ne_zero hne
            have hdm := Nat.div_add_mod i (P.cellsOf e)
            rw [Nat.mul_comm] at hdm
            have hi1 : i / P.cellsOf e < len := by rw [Nat.div_lt_iff_lt_mul hpos]; exact hi
            have hj1 := Nat.mod_lt i hpos
            have e1 := (hFl (i / P.cellsOf e) (by omega)).2 (i % P.cellsOf e) hj1
            have e2 := hget len hl (i / P.cellsOf e) hi1 (i % P.cellsOf e) hj1
            rw [hdm] at e1 e2
            rw [e1, e2]
          refine ⟨.slice (some ⟨b, o, none⟩) len m, len, _, by simp [abs1, hlt], .row (by rw [List.length_map, hlen0 len hl]) hrds hl (by simpa [absH] using hlt) (by
              unfold slOK; rw [absH_get, Array.getElem?_eq_getElem hlt]
              cases W.heap[b] <;> simp [absO]) (by rw [maxLen_eq] at hm; omega), hlw, fun i hi => ?_⟩
          have hF2 := (hF i (by omega)).2
          have hsub : (((List.range len).flatMap F).drop (i * P.cellsOf e)).take (P.cellsOf e) = F i := by
            apply List.ext_getElem?
            intro j
            rw [List.getElem?_take]
            split
            · rename_i hj; rw [List.getElem?_drop]; exact hget len hl i hi j hj
            · rename_i hj; rw [List.getElem?_eq_none (by rw [(hFl i (by omega)).1]; omega)]
          rw [← List.map_drop, ← List.map_take, hsub]
          refine ih _ _ _ _ _ he hF2 fun w hwm => hw w ?_
          simp only [DataW.weights, hu, List.mem_cons, List.mem_append]
          exact .inr (.inl (weights_all (d := D i) (List.mem_map.2 ⟨i, by simpa using hi, rfl⟩) w hwm))
    · rename_i fs hu
      obtain ⟨xs, n, rfl, rfl, hlen, hxl, hf⟩ := DataW.trod_struct hu hx
      have := open_fs (enc := enc) (W := W) (cs := cs) (fun t cs x s h1 h2 h3 => ih n t cs x s h1 h2 h3) fs.toList 0 s xs hs (by simpa using hxl) (fun i f hf' => hf i f (by simpa using hf')) (fun w hwm => hw w (by simp only [DataW.weights, hu]; exact hwm))
      simpa using this
    · rename_i n e hu
      obtain ⟨se, he, rfl⟩ := Option.map_eq_some_iff.1 hs
      obtain ⟨xs, m, rfl, rfl, hlen, hxl, hf⟩ := DataW.trod_array hu hx
      intro i hi
      have hx := hf i hi
      rw [List.getElem?_eq_getElem (by omega)] at hx
      rw [← List.map_drop, ← List.map_take]
      refine ih _ _ _ _ _ he hx fun w hwm => hw w ?_
      simp only [DataW.weights, hu]
      exact weights_all (d := xs[i].1) (List.mem_map.2 ⟨xs[i], List.getElem_mem _, rfl⟩) w hwm
    · cases hs
end

/-! ### From shapes to lists -/
theorem Sh.ls {α : Type} {h : AHeap} {sz by_ : Nat} {e : Sh} {R : List Value → α → Prop} (he : ∀ c, c.length = sz → e.ok h c → ∃ a, R c a) {c : List Value} (k : (Sh.slice sz by_ e).ok h c) : ∃ v l, c = [v] ∧ Ls h sz R v l ∧ l.length * by_ ≤ reachBytes := by
  obtain ⟨v, n, cs, rfl, hs, hw, hel⟩ := k
  have hlen := hs.len
  have each : ∀ i, i < n → ∃ a, R ((cs.drop (i * sz)).take sz) a := fun i hi => he _ (by
    have := Nat.mul_le_mul_right sz hi
    rw [Nat.succ_mul] at this
    simp; omega) (hel i hi)
  have : ∃ l : List α, l.length = n ∧ ∀ i (hi : i < l.length), R ((cs.drop (i * sz)).take sz) l[i] := by
    clear hs hw hlen hel
    induction n with
    | zero => exact ⟨[], rfl, fun i hi => by simp at hi⟩
    | succ n ih =>
      obtain ⟨l, hl, hr⟩ := ih fun i hi => each i (by omega)
      obtain ⟨a, ha⟩ := each n (by omega)
      refine ⟨l ++ [a], by simp [hl], fun i hi => ?_⟩
      rw [List.getElem_append]
      split
      · exact hr i _
      · have : i = n := by simp at hi; omega
        subst this; simpa using ha
  obtain ⟨l, hl, hr⟩ := this
  exact ⟨v, l, rfl, ⟨cs, hl ▸ hs, hr⟩, hl ▸ hw⟩

/-- The abstract value of an argument. -/
def absV (n : Nat) : Value → Value
  | .agg cs => .agg (cs.map (abs1 n))
  | v => abs1 n v
theorem absV_one (n : Nat) {v : Value} (h : ∀ cs, v ≠ .agg cs) : absV n v = abs1 n v := by
  unfold absV; split
  · rename_i cs; exact absurd rfl (h cs)
  · rfl
theorem absV_vr (W : World) (v : Value) : VR (rid W) (absH W) (absV W.heap.size v) v := by
  by_cases h : ∃ cs, v = .agg cs
  · obtain ⟨cs, rfl⟩ := h
    refine .agg (by simp) fun i => ?_
    simp only [Array.getD_eq_getD_getElem?, Array.getElem?_map]
    cases cs[i]? with
    | none => exact .any _
    | some v => exact abs1_vr W v
  · rw [absV_one _ fun cs hc => h ⟨cs, hc⟩]
    exact abs1_vr W v
end Go.Proofs.YtpnpccnbpgckhabGreat.B
