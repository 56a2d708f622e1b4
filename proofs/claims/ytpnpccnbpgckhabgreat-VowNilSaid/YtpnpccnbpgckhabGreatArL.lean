/-
  Slices over an abstract heap: what lies in them; those that are read, and those that are being built.
-/
import Derived.Test.YtpnpccnbpgckhabGreatAbW
import Derived.IntWalk
namespace Go.Proofs.YtpnpccnbpgckhabGreat.B
open Go Go.IntWalk
set_option linter.unusedVariables false
set_option linter.unusedSimpArgs false
variable {G : Nat} {P : Program}

abbrev maxI : Nat := 9223372036854775807

theorem wrap_i64 {a : Int} (h : -9223372036854775808 ≤ a ∧ a ≤ 9223372036854775807) : IntKind.i64.wrap a = a := i64_in a h
theorem wrap_nat {n : Nat} (h : n ≤ maxI) : IntKind.i64.wrap (n : Int) = n := i64_in _ (by unfold maxI at h; omega)
theorem wrap_succ {n m : Nat} (h : n < m) (hm : m ≤ maxI) : IntKind.i64.wrap ((n : Int) + 1) = ((n + 1 : Nat) : Int) := by
  rw [i64_in _ (by unfold maxI at hm; omega)]; rfl

/-- So many zero cells. -/
def zrep (n : Nat) (v : Value) : List Value := List.replicate n v

/-- The block and the place of a slice. -/
def sb : Value → Nat
  | .slice (some ⟨b, _, _⟩) _ _ => b
  | _ => 0
def so : Value → Nat
  | .slice (some ⟨_, o, _⟩) _ _ => o
  | _ => 0

theorem setC_eq {cells : List Value} {off : Nat} {vs : List Value} (h : off + vs.length ≤ cells.length) : setC cells off vs = cells.take off ++ (vs ++ cells.drop (off + vs.length)) := by
  apply List.ext_getElem?
  intro i
  rw [setC_get _ _ _ _ h]
  split
  · rename_i q
    rw [List.getElem?_append_right (by simp; omega), List.getElem?_append_left (by simp; omega)]
    congr 1; simp; omega
  · rename_i q
    by_cases e : i < off
    · rw [List.getElem?_append_left (by simp; omega), List.getElem?_take, if_pos e]
    · rw [List.getElem?_append_right (by simp; omega), List.getElem?_append_right (by simp; omega), List.getElem?_drop]
      congr 1; simp; omega

theorem rds_pre {h h' : AHeap} (p : Pre h h') {b off n : Nat} {cs : List Value} (k : rds h b off n = some cs) : rds h' b off n = some cs := by
  obtain ⟨g, rfl⟩ := p; exact rds_old k g
theorem rds_lt {h : AHeap} {b off n : Nat} {cs : List Value} (k : rds h b off n = some cs) : b < h.length := by
  unfold rds at k
  split at k
  · rename_i hb; exact (List.getElem?_eq_some_iff.1 hb).1
  · cases k
theorem rds_len {h : AHeap} {b off n : Nat} {cs : List Value} (k : rds h b off n = some cs) : cs.length = n := by
  unfold rds at k
  split at k
  · split at k
    · cases k; simp; omega
    · cases k
  · cases k
theorem rds_sub {h : AHeap} {b off n : Nat} {cs : List Value} (k : rds h b off n = some cs) {i m : Nat} (hi : i + m ≤ n) : rds h b (off + i) m = some ((cs.drop i).take m) := by
  unfold rds at *
  split at k
  · split at k
    · cases k
      rename_i cells hb hle
      simp only [if_pos (show off + i + m ≤ cells.length by omega), List.drop_take, List.drop_drop, List.take_take]
      congr 2; omega
    · cases k
  · cases k
theorem slOK_pre {h h' : AHeap} (p : Pre h h') {b sz : Nat} (hb : b < h.length) (k : slOK h b sz) : slOK h' b sz := by
  unfold slOK at *; rw [p.get hb]; exact k

/-- v is a slice of n elements of sz cells each, which hold cs. -/
inductive Sl (h : AHeap) (sz : Nat) : Value → Nat → List Value → Prop where
  | nil : Sl h sz (.slice none 0 0) 0 []
  | void : Sl h sz (.slice (some voidA) 0 0) 0 []
  | row {b off n cap : Nat} {cs : List Value} (hl : cs.length = n * sz) (hr : n ≠ 0 → rds h b off (n * sz) = some cs) (hc : n ≤ cap) (hb : b < h.length) (ho : slOK h b sz) (hm : n ≤ maxI) : Sl h sz (.slice (some ⟨b, off, none⟩) n cap) n cs

theorem Sl.pre {h h' : AHeap} (p : Pre h h') {sz n : Nat} {v : Value} {cs : List Value} (k : Sl h sz v n cs) : Sl h' sz v n cs := by
  cases k with
  | nil => exact .nil
  | void => exact .void
  | row hl hr hc hb ho hm => exact .row hl (fun q => rds_pre p (hr q)) hc (Nat.lt_of_lt_of_le hb p.len) (slOK_pre p hb ho) hm

section
variable {h : AHeap} {sz n : Nat} {v : Value} {cs : List Value}
theorem Sl.le (k : Sl h sz v n cs) : n ≤ maxI := by cases k <;> first | assumption | exact Nat.zero_le _
theorem Sl.len (k : Sl h sz v n cs) : cs.length = n * sz := by cases k <;> first | assumption | simp
theorem Sl.is (k : Sl h sz v n cs) : ∃ a c, v = .slice a n c ∧ n ≤ c := by cases k <;> first | exact ⟨_, _, rfl, by assumption⟩ | exact ⟨_, _, rfl, Nat.le_refl _⟩
theorem Sl.rd (k : Sl h sz v n cs) {i : Nat} (hi : i < n) : rds h (sb v) (so v + i * sz) sz = some ((cs.drop (i * sz)).take sz) := by
  cases k with
  | nil => omega
  | void => omega
  | row hl hr hc hb ho hm =>
    refine rds_sub (hr (by omega)) ?_
    have := Nat.mul_le_mul_right sz hi
    rw [Nat.succ_mul] at this; exact this
theorem Sl.lenV (k : Sl h sz v n cs) {h2 : AHeap} {K : Value → AHeap → Prop} {u : Hold K} : lenV false v h2 K u = mvV (.int .i64 n) h2 K u := by
  obtain ⟨a, c, rfl, _⟩ := k.is; rfl
theorem Sl.cellsA (k : Sl h sz v n cs) : cellsA v = some [v] := by
  obtain ⟨a, c, rfl, _⟩ := k.is; rfl
theorem Sl.oneA (k : Sl h sz v n cs) : oneA v = true := by
  obtain ⟨a, c, rfl, _⟩ := k.is; rfl
theorem Sl.ixs (k : Sl h sz v n cs) {h2 : AHeap} {K : Value → AHeap → Prop} {u : Hold K} {q : IntKind} {i : Int} (h0 : 0 ≤ i) (h1 : i < n) : ixsV sz v (.int q i) h2 K u = mvV (.pointer (some ⟨sb v, so v + i.toNat * sz, none⟩)) h2 K u := by
  cases k with
  | nil => omega
  | void => omega
  | row hl hr hc hb ho hm => simp only [ixsV_slice, sb, so, h0, h1, and_self, true_and]
theorem Sl.ixsN (k : Sl h sz v n cs) {h2 : AHeap} {K : Value → AHeap → Prop} {u : Hold K} {q : IntKind} {i : Nat} (h1 : i < n) : ixsV sz v (.int q (i : Int)) h2 K u = mvV (.pointer (some ⟨sb v, so v + i * sz, none⟩)) h2 K u := by
  rw [k.ixs (by omega) (by omega)]; simp
theorem Sl.blk (k : Sl h sz v n cs) (hn : n ≠ 0) : sb v < h.length := by
  cases k with
  | nil => exact absurd rfl hn
  | void => exact absurd rfl hn
  | row hl hr hc hb ho hm => exact hb
/-- A part of a slice, from its begin. -/
theorem Sl.front (k : Sl h sz v n cs) {m : Nat} (hm : m ≤ n) : Sl h sz (match v with | .slice a _ c => .slice a m c | v => v) m (cs.take (m * sz)) := by
  cases k with
  | nil => obtain rfl : m = 0 := by omega
           simpa using Sl.nil
  | void => obtain rfl : m = 0 := by omega
            simpa using Sl.void
  | row hl hr hc hb ho hx =>
    have hle : m * sz ≤ n * sz := Nat.mul_le_mul_right _ hm
    refine .row (by simp; omega) (fun q => ?_) (by omega) hb ho (by omega)
    have := rds_sub (hr (by omega)) (i := 0) (m := m * sz) (by omega)
    simpa using this
end

/-- A slice of things, each of sz cells of which R tells. -/
def Ls {α : Type} (h : AHeap) (sz : Nat) (R : List Value → α → Prop) (v : Value) (l : List α) : Prop :=
  ∃ cs, Sl h sz v l.length cs ∧ ∀ i (hi : i < l.length), R ((cs.drop (i * sz)).take sz) l[i]

section
variable {α : Type} {h : AHeap} {sz : Nat} {R : List Value → α → Prop} {v : Value} {l : List α}
theorem Ls.pre {h' : AHeap} (p : Pre h h') (k : Ls h sz R v l) : Ls h' sz R v l := let ⟨cs, a, b⟩ := k; ⟨cs, a.pre p, b⟩
theorem Ls.mono {R' : List Value → α → Prop} (k : Ls h sz R v l) (m : ∀ c a, R c a → R' c a) : Ls h sz R' v l := let ⟨cs, a, b⟩ := k; ⟨cs, a, fun i hi => m _ _ (b i hi)⟩
theorem Ls.le (k : Ls h sz R v l) : l.length ≤ maxI := let ⟨_, a, _⟩ := k; a.le
theorem Ls.rd (k : Ls h sz R v l) {i : Nat} (hi : i < l.length) : ∃ c, c.length = sz ∧ R c l[i] ∧ ∀ h', Pre h h' → rds h' (sb v) (so v + i * sz) sz = some c :=
  let ⟨_, a, b⟩ := k; ⟨_, rds_len (a.rd hi), b i hi, fun _ p => rds_pre p (a.rd hi)⟩
theorem Ls.rd2 (k : Ls h sz R v l) {h2 : AHeap} (p : Pre h h2) {i : Nat} (hi : i < l.length) : ∃ c, c.length = sz ∧ R c l[i] ∧ rds h2 (sb v) (so v + i * sz) sz = some c ∧ ∀ g, rds (h2 ++ g) (sb v) (so v + i * sz) sz = some c :=
  let ⟨c, a, b, d⟩ := k.rd hi; ⟨c, a, b, d _ p, fun g => d _ (p.app' g)⟩
theorem Ls.lenV (k : Ls h sz R v l) {h2 : AHeap} {K : Value → AHeap → Prop} {u : Hold K} : lenV false v h2 K u = mvV (.int .i64 l.length) h2 K u := let ⟨_, a, _⟩ := k; a.lenV
theorem Ls.cellsA (k : Ls h sz R v l) : cellsA v = some [v] := let ⟨_, a, _⟩ := k; a.cellsA
theorem Ls.oneA (k : Ls h sz R v l) : oneA v = true := let ⟨_, a, _⟩ := k; a.oneA
theorem Ls.ixsN (k : Ls h sz R v l) {i : Nat} (h1 : i < l.length) {h2 : AHeap} {K : Value → AHeap → Prop} {u : Hold K} {q : IntKind} : ixsV sz v (.int q (i : Int)) h2 K u = mvV (.pointer (some ⟨sb v, so v + i * sz, none⟩)) h2 K u := let ⟨_, a, _⟩ := k; a.ixsN h1
theorem Ls.ixs (k : Ls h sz R v l) {i : Int} (h0 : 0 ≤ i) (h1 : i < l.length) {h2 : AHeap} {K : Value → AHeap → Prop} {u : Hold K} {q : IntKind} : ixsV sz v (.int q i) h2 K u = mvV (.pointer (some ⟨sb v, so v + i.toNat * sz, none⟩)) h2 K u := let ⟨_, a, _⟩ := k; a.ixs h0 h1
theorem Ls.is (k : Ls h sz R v l) : ∃ a c, v = .slice a l.length c ∧ l.length ≤ c := let ⟨_, a, _⟩ := k; a.is
/-- l[:m] -/
def sliceTo (m : Nat) : Value → Value
  | .slice a _ c => .slice a m c
  | v => v
theorem Ls.front (k : Ls h sz R v l) {m : Nat} (hm : m ≤ l.length) : Ls h sz R (sliceTo m v) (l.take m) := by
  obtain ⟨cs, a, b⟩ := k
  refine ⟨cs.take (m * sz), ?_, fun i hi => ?_⟩
  · have := a.front hm
    rw [List.length_take, Nat.min_eq_left hm]
    obtain ⟨x, c, rfl, _⟩ := a.is
    exact this
  · have hi' : i < m := by simp at hi; omega
    have := b i (by simp at hi; omega)
    simp only [List.getElem_take]
    rw [List.drop_take, List.take_take]
    have h3 : sz ≤ m * sz - i * sz := by
      have := Nat.mul_le_mul_right sz hi'
      rw [Nat.succ_mul] at this; omega
    rw [Nat.min_eq_left h3]; exact this
theorem Ls.slTo (k : Ls h sz R v l) {m : Nat} (hm : m ≤ l.length) (h0 : 0 < l.length) {h2 : AHeap} (p : Pre h h2) {K : Value → AHeap → Prop} {u : Hold K} : slV sz v (some none) (some (some (m : Int))) h2 K u = K (sliceTo m v) h2 := by
  obtain ⟨cs, a, b⟩ := k
  clear b
  generalize l.length = n at *
  cases a with
  | nil =>
    obtain rfl : m = 0 := by omega
    simp [slV_slice, slK_none, sliceTo]
  | void => omega
  | row hl hr hc hb ho hx =>
    have := slOK_pre p hb ho
    simp [slV_slice, slK_some, sliceTo, this]
    intro q; omega
theorem Ls.slToI (k : Ls h sz R v l) {m : Int} (h0 : 0 ≤ m) (hm : m ≤ l.length) (hl : 0 < l.length) {h2 : AHeap} (p : Pre h h2) {K : Value → AHeap → Prop} {u : Hold K} : slV sz v (some none) (some (some m)) h2 K u = K (sliceTo m.toNat v) h2 := by
  have := k.slTo (m := m.toNat) (by omega) hl p (K := K) (u := u)
  rwa [Int.toNat_of_nonneg h0] at this
end

/-- l[m:] -/
def sliceFrom (sz m : Nat) : Value → Value
  | .slice (some ⟨b, o, s⟩) n c => .slice (some ⟨b, if m < c then o + m * sz else o, s⟩) (n - m) (c - m)
  | v => v
section
variable {α : Type} {h : AHeap} {sz : Nat} {R : List Value → α → Prop} {v : Value} {l : List α}
theorem Ls.back (k : Ls h sz R v l) {m : Nat} (hm : m ≤ l.length) (h0 : 0 < l.length) : Ls h sz R (sliceFrom sz m v) (l.drop m) := by
  obtain ⟨cs, a, b⟩ := k
  refine ⟨cs.drop (m * sz), ?_, fun i hi => ?_⟩
  · rw [List.length_drop]
    clear b
    generalize l.length = n at *
    cases a with
    | nil => omega
    | void => omega
    | row hl hr hc hb ho hx =>
      rename_i b off cap
      have hmul : m * sz ≤ n * sz := Nat.mul_le_mul_right _ hm
      have key : (n - m) * sz + m * sz = n * sz := by rw [← Nat.add_mul]; congr 1; omega
      refine .row (by simp; omega) (fun q => ?_) (by omega) hb ho (by omega)
      rw [if_pos (by omega)]
      have := rds_sub (hr (by omega)) (i := m * sz) (m := (n - m) * sz) (by omega)
      rw [List.take_of_length_le (by simp; omega)] at this
      exact this
  · have := b (m + i) (by simp at hi; omega)
    rw [List.getElem_drop, List.drop_drop, ← Nat.add_mul]
    exact this
theorem Ls.slFrom (k : Ls h sz R v l) {m : Int} (h0 : 0 ≤ m) (hm : m ≤ l.length) (hl : 0 < l.length) {h2 : AHeap} (p : Pre h h2) {K : Value → AHeap → Prop} {u : Hold K} : slV sz v (some (some m)) (some none) h2 K u = K (sliceFrom sz m.toNat v) h2 := by
  obtain ⟨cs, a, b⟩ := k
  clear b
  generalize l.length = n at *
  cases a with
  | nil => omega
  | void => omega
  | row hl hr hc hb ho hx =>
    have := slOK_pre p hb ho
    simp [slV_slice, slK_some, sliceFrom, this]
    intro q; omega
end

theorem flatMap_get {α : Type} {enc : α → List Value} {sz : Nat} (he : ∀ a, (enc a).length = sz) : ∀ (l : List α) (i : Nat) (hi : i < l.length), ((l.flatMap enc).drop (i * sz)).take sz = enc l[i]
  | [], i, hi => by simp at hi
  | a :: l, 0, hi => by simp [← he a]
  | a :: l, i + 1, hi => by
    rw [List.flatMap_cons, Nat.succ_mul, Nat.add_comm, ← List.drop_drop, ← he a, List.drop_left]
    have := flatMap_get he l i (by simpa using hi)
    rw [← he a] at this
    rw [this]; rfl
theorem flatMap_len {α : Type} {enc : α → List Value} {sz : Nat} (he : ∀ a, (enc a).length = sz) : ∀ (l : List α), (l.flatMap enc).length = l.length * sz
  | [] => by simp
  | a :: l => by rw [List.flatMap_cons, List.length_append, he, flatMap_len he l, List.length_cons, Nat.succ_mul, Nat.add_comm]
theorem Sl.ls {α : Type} {h : AHeap} {sz n : Nat} {v : Value} {l : List α} {enc : α → List Value} (he : ∀ a, (enc a).length = sz) (k : Sl h sz v n (l.flatMap enc)) (hn : n = l.length) : Ls h sz (fun c a => c = enc a) v l := by
  subst hn; exact ⟨_, k, fun i hi => flatMap_get he l i hi⟩

/-- A slice that is being built in new memory, and is known by this one name. -/
inductive Ow (h0 h : AHeap) (sz : Nat) : Value → Nat → List Value → Prop where
  | nil : Ow h0 h sz (.slice none 0 0) 0 []
  | row {b off n cap : Nat} {cells : List Value} (hb : h0.length ≤ b) (hr : h[b]? = some (.row (.grow sz) cells)) (hl : off + cap * sz ≤ cells.length) (hc : n ≤ cap) (hm : cap ≤ maxI) :
      Ow h0 h sz (.slice (some ⟨b, off, none⟩) n cap) n ((cells.drop off).take (n * sz))

section
variable {h0 h : AHeap} {sz n : Nat} {v : Value} {cs : List Value}
theorem Ow.len (k : Ow h0 h sz v n cs) : cs.length = n * sz := by
  cases k with
  | nil => simp
  | row hb hr hl hc hm => have := Nat.mul_le_mul_right sz hc; simp; omega
theorem Ow.sl (k : Ow h0 h sz v n cs) : Sl h sz v n cs := by
  have hlen := k.len
  cases k with
  | nil => exact .nil
  | row hb hr hl hc hm =>
    have := Nat.mul_le_mul_right sz hc
    refine .row hlen (fun _ => ?_) hc (List.getElem?_eq_some_iff.1 hr).1 ?_ (by omega)
    · simp only [rds, hr]; rw [if_pos (by omega)]
    · unfold slOK; rw [hr]
theorem Ow.pre {h' : AHeap} (p : Pre h h') (k : Ow h0 h sz v n cs) : Ow h0 h' sz v n cs := by
  cases k with
  | nil => exact .nil
  | row hb hr hl hc hm => exact .row hb (by rw [p.get (List.getElem?_eq_some_iff.1 hr).1]; exact hr) hl hc hm
/-- It stands where nothing else is written. -/
theorem Ow.frame {h' : AHeap} (k : Ow h0 h sz v n cs) (e : h'[sb v]? = h[sb v]?) : Ow h0 h' sz v n cs := by
  cases k with
  | nil => exact .nil
  | row hb hr hl hc hm => exact .row hb (by simp only [sb] at e; rw [e]; exact hr) hl hc hm
theorem Ow.old {h1 : AHeap} (p : h1.length ≤ h0.length) (k : Ow h0 h sz v n cs) : Ow h1 h sz v n cs := by
  cases k with
  | nil => exact .nil
  | row hb hr hl hc hm => exact .row (by omega) hr hl hc hm

/-- All blocks but one, and all that are older, are as they were. -/
def But (h0 : AHeap) (b : Nat) (h h' : AHeap) : Prop := h.length ≤ h'.length ∧ ∀ i, i < h.length → (i = b → i < h0.length) → h'[i]? = h[i]?

theorem But.pre {b : Nat} {h' : AHeap} (p : Pre h0 h) (k : But h0 b h h') : Pre h0 h' := by
  refine ⟨h'.drop h0.length, ?_⟩
  have : h0 = h'.take h0.length := by
    apply List.ext_getElem?
    intro i
    rw [List.getElem?_take]
    split
    · rename_i hi
      rw [k.2 i (by have := p.len; omega) (fun _ => hi), p.get hi]
    · rename_i hi; exact List.getElem?_eq_none (by omega)
  conv => lhs; rw [← List.take_append_drop h0.length h']
  rw [← this]

abbrev nilS : Value := .slice none 0 0
/-- What an append to a slice may turn. -/
def Chg (h0 : AHeap) (u : Value) (h h' : AHeap) : Prop := But h0 (sb u) h h' ∧ (u = nilS → Pre h h')
theorem Chg.pre {u : Value} {h' : AHeap} (p : Pre h0 h) (k : Chg h0 u h h') : Pre h0 h' := k.1.pre p

theorem Ow.place (k : Ow h0 h sz v n cs) : v = nilS ∨ (h0.length ≤ sb v ∧ sb v < h.length) := by
  cases k with
  | nil => exact .inl rfl
  | row hb hr hl hc hm => exact .inr ⟨hb, (List.getElem?_eq_some_iff.1 hr).1⟩

/-- What an append comes to. -/
theorem Ow.app (k : Ow h0 h sz v n cs) {m bytes : Nat} {vs : List Value} (hvs : vs.length = m * sz) (h1 : vs.all B.oneA = true) (hroom : room (n + m) bytes) {K : Value → AHeap → Prop} {u : Hold K}
    (hk : ∀ v' h', Ow h0 h' sz v' (n + m) (cs ++ vs) → Chg h0 v h h' → (n + m ≠ 0 → sb v' = h.length ∨ (sb v' = sb v ∧ v ≠ nilS)) → (n ≠ 0 → sb v' = sb v → h'.length = h.length) → K v' h') (hp : Pre h0 h) : appV sz bytes v (some (m, vs)) h K u := by
  have hroom2 := hroom.2
  cases k with
  | nil =>
    rw [appV_nil]
    simp only [Nat.zero_add] at *
    refine ⟨h1, hroom, ?_⟩
    split
    · rename_i hm
      subst hm
      obtain rfl : vs = [] := List.eq_nil_of_length_eq_zero (by omega)
      exact hk _ _ .nil ⟨⟨Nat.le_refl _, fun _ _ _ => rfl⟩, fun _ => .refl _⟩ (fun h => absurd rfl h) (fun h => absurd rfl h)
    · rename_i hm
      refine hk _ _ ?_ ⟨⟨by simp, fun i hi _ => List.getElem?_append_left hi⟩, fun _ => .app _ _⟩ (fun _ => .inl rfl) (fun h => absurd rfl h)
      have := Ow.row (h0 := h0) (h := h ++ [.row (.grow sz) vs]) (sz := sz) (b := h.length) (off := 0) (n := m) (cap := m) (cells := vs) hp.len (by simp) (by omega) (Nat.le_refl _) hroom2
      rw [List.drop_zero, List.take_of_length_le (by omega)] at this
      simpa using this
  | row hb hr hl hc hm =>
    rename_i b off cap cells
    have hbl := (List.getElem?_eq_some_iff.1 hr).1
    have hn : off + n * sz ≤ cells.length := by have := Nat.mul_le_mul_right sz hc; omega
    simp only [appV, hr, true_and]
    refine ⟨h1, hroom, hc, ?_⟩
    split
    · rename_i hle
      have hle2 : n * sz + m * sz ≤ cap * sz := by rw [← Nat.add_mul]; exact Nat.mul_le_mul_right _ hle
      refine ⟨by rw [Nat.add_mul]; omega, ?_⟩
      refine hk _ _ ?_ ⟨⟨by simp, fun i hi e => ?_⟩, fun q => (by cases q)⟩ (fun _ => .inr ⟨rfl, by intro q; cases q⟩) (fun _ _ => by simp)
      · have hset : (setC cells (off + n * sz) vs).length = cells.length := by rw [setC_length]
        have := Ow.row (h0 := h0) (h := h.set b (.row (.grow sz) (setC cells (off + n * sz) vs))) (sz := sz) (b := b) (off := off) (n := n + m) (cap := cap) (cells := setC cells (off + n * sz) vs) hb (by simp [hbl]) (by omega) hle hm
        have e2 : ((setC cells (off + n * sz) vs).drop off).take ((n + m) * sz) = (cells.drop off).take (n * sz) ++ vs := by
          rw [setC_eq (by omega), List.drop_append_of_le_length (by simp; omega), Nat.add_mul, ← hvs, List.drop_take, Nat.add_sub_cancel_left]
          rw [← List.append_assoc, List.take_left' (by simp; omega)]
        rw [e2] at this
        exact this
      · rw [List.getElem?_set_ne]
        intro e3; have := e e3.symm; omega
    · rename_i hle
      refine ⟨by omega, ?_⟩
      refine hk _ _ ?_ ⟨⟨by simp, fun i hi e => ?_⟩, fun q => (by cases q)⟩ (fun _ => .inl rfl) (fun _ e => by simp only [sb] at e; omega)
      · have := Ow.row (h0 := h0) (h := h.set b .dead ++ [.row (.grow sz) ((cells.drop off).take (n * sz) ++ vs)]) (sz := sz) (b := h.length) (off := 0) (n := n + m) (cap := n + m) (cells := (cells.drop off).take (n * sz) ++ vs) hp.len (by simp) (by simp [Nat.add_mul]; omega) (Nat.le_refl _) hroom2
        rw [List.drop_zero, List.take_of_length_le (l := (cells.drop off).take (n * sz) ++ vs) (by simp [Nat.add_mul]; omega)] at this
        exact this
      · rw [List.getElem?_append_left (by simp; exact hi), List.getElem?_set_ne]
        intro e3; have := e e3.symm; omega

/-- v[m:] -/
theorem Ow.back (k : Ow h0 h sz v n cs) {m : Nat} (hm : m ≤ n) (h0' : 0 < n) : Ow h0 h sz (sliceFrom sz m v) (n - m) (cs.drop (m * sz)) ∧ sb (sliceFrom sz m v) = sb v := by
  cases k with
  | nil => omega
  | row hb hr hl hc hx =>
    rename_i b off cap cells
    refine ⟨?_, rfl⟩
    have e : (cap - m) * sz = cap * sz - m * sz := Nat.sub_mul ..
    have hmc := Nat.mul_le_mul_right sz (show m ≤ cap by omega)
    simp only [sliceFrom]
    by_cases hlt : m < cap
    · rw [if_pos hlt]
      have := Ow.row (h0 := h0) (h := h) (sz := sz) (b := b) (off := off + m * sz) (n := n - m) (cap := cap - m) (cells := cells) hb hr (by omega) (by omega) (by omega)
      rw [← List.drop_drop] at this
      rw [List.drop_take, ← Nat.sub_mul]
      exact this
    · rw [if_neg hlt]
      obtain rfl : m = n := by omega
      obtain rfl : m = cap := by omega
      have := Ow.row (h0 := h0) (h := h) (sz := sz) (b := b) (off := off) (n := m - m) (cap := m - m) (cells := cells) hb hr (by simp; omega) (by omega) (by omega)
      have e2 : ((cells.drop off).take (m * sz)).drop (m * sz) = (cells.drop off).take ((m - m) * sz) := by
        rw [List.drop_of_length_le (by simp; omega)]; simp
      rw [e2]
      exact this
/-- A store into it. -/
theorem Ow.store {l : List Int} {v : Value} (k : Ow h0 h 1 v l.length (l.flatMap fun n => [.int .i64 n])) {i : Nat} (hi : i < l.length) (x : Int) : ∃ h', wrs h (sb v) (so v + i * 1) [.int .i64 x] = some h' ∧ Ow h0 h' 1 v (l.set i x).length ((l.set i x).flatMap fun n => [.int .i64 n]) ∧
    But h0 (sb v) h h' ∧ (∀ c, c ≠ sb v → h'[c]? = h[c]?) ∧ h'.length = h.length := by
  generalize hn : l.length = n at k
  generalize hcs : (l.flatMap fun n => [Value.int .i64 n]) = cs at k
  cases k with
  | nil => omega
  | row hb hr hl hc hm =>
    rename_i b off cap cells
    have hbl := (List.getElem?_eq_some_iff.1 hr).1
    simp only [Nat.mul_one] at *
    have hfl : ∀ (l : List Int), (l.flatMap fun n => [Value.int .i64 n]) = l.map (Value.int .i64) := fun l => by
      induction l with
      | nil => rfl
      | cons a l ih => simp [List.flatMap_cons, ih]
    refine ⟨h.set b (.row (.grow 1) (cells.set (off + i) (.int .i64 x))), ?_, ?_, ⟨by simp, fun j hj e => ?_⟩, fun c hc' => ?_, by simp⟩
    · simp only [wrs, sb, so, hr, setC]
      exact if_pos (show off + i + 1 ≤ cells.length by omega)
    · have := Ow.row (h0 := h0) (h := h.set b (.row (.grow 1) (cells.set (off + i) (.int .i64 x)))) (sz := 1) (b := b) (off := off) (n := n) (cap := cap) (cells := cells.set (off + i) (.int .i64 x)) hb (by simp [hbl]) (by simp; omega) hc hm
      have e2 : ((cells.set (off + i) (.int .i64 x)).drop off).take (n * 1) = ((l.set i x).flatMap fun n => [Value.int .i64 n]) := by
        rw [hfl, List.map_set, ← hfl l, hcs, Nat.mul_one]
        apply List.ext_getElem?
        intro j
        simp only [List.getElem?_take, List.getElem?_drop, List.getElem?_set, List.length_take, List.length_drop, List.length_set]
        by_cases hj : j < n
        · simp only [hj, if_true]
          by_cases e : i = j
          · subst e; simp only [if_true]; rw [if_pos (by omega), if_pos (by omega)]
          · rw [if_neg (by omega), if_neg e]
        · simp only [hj, if_false]
          by_cases e : i = j
          · subst e; omega
          · rw [if_neg e]
      rw [e2] at this
      simpa [hn] using this
    · rw [List.getElem?_set_ne]
      intro e3; have := e e3.symm; omega
    · rw [List.getElem?_set_ne]
      intro e3; exact hc' e3.symm
end
/-- A row that was written out. -/
theorem litS {h : AHeap} {b n sz : Nat} {cells : List Value} (hb : h[b]? = some (.row (.grow sz) cells)) (hl : cells.length = n * sz) (hn : n ≤ maxI) : Sl h sz (.slice (some ⟨b, 0, none⟩) n n) n cells :=
  .row hl (fun _ => by simp [rds, hb, ← hl]) (Nat.le_refl _) (List.getElem?_eq_some_iff.1 hb).1 (by unfold slOK; rw [hb]) hn

/-! ### Slices of slices -/
theorem Sl.chg {h0 h h' : AHeap} {u : Value} {sz n : Nat} {v : Value} {cs : List Value} (k : Sl h sz v n cs) (hb : Chg h0 u h h') (hne : v = nilS ∨ u = nilS ∨ sb v ≠ sb u) : Sl h' sz v n cs := by
  rcases hne with rfl | hu | hne
  · cases k with
    | nil => exact .nil
  · exact k.pre (hb.2 hu)
  · cases k with
    | nil => exact .nil
    | void => exact .void
    | row hl hr hc hlt ho hm =>
      rename_i b' off cap
      have e := hb.1.2 b' hlt fun q => absurd q hne
      refine .row hl (fun q => ?_) hc (Nat.lt_of_lt_of_le hlt hb.1.1) (by unfold slOK at *; rw [e]; exact ho) hm
      have := hr q
      unfold rds at *
      rw [e]; exact this
theorem Ls.chg {α : Type} {R : List Value → α → Prop} {l : List α} {h0 h h' : AHeap} {u : Value} {sz : Nat} {v : Value} (k : Ls h sz R v l) (hb : Chg h0 u h h') (hne : v = nilS ∨ u = nilS ∨ sb v ≠ sb u) : Ls h' sz R v l :=
  let ⟨cs, a, c⟩ := k; ⟨cs, a.chg hb hne, c⟩
abbrev isL {α : Type} (sz : Nat) (R : List Value → α → Prop) (h : AHeap) (c : List Value) (t : List α) : Prop := ∃ tv, c = [tv] ∧ Ls h sz R tv t

/-- A row that may grow. -/
def Gr (h : AHeap) (b : Nat) : Prop := ∃ m cells, h[b]? = some (.row (.grow m) cells)
theorem Gr.lt {h : AHeap} {b : Nat} (k : Gr h b) : b < h.length := by obtain ⟨m, c, k⟩ := k; exact (List.getElem?_eq_some_iff.1 k).1
theorem Gr.same {h h' : AHeap} {b : Nat} (k : Gr h b) (e : h'[b]? = h[b]?) : Gr h' b := by obtain ⟨m, c, k⟩ := k; exact ⟨m, c, by rw [e]; exact k⟩
theorem Gr.pre {h h' : AHeap} {b : Nat} (p : Pre h h') (k : Gr h b) : Gr h' b := k.same (p.get k.lt)
theorem Gr.chg {h0 h h' : AHeap} {u : Value} {b : Nat} (k : Gr h b) (c : Chg h0 u h h') (hne : u = nilS ∨ b ≠ sb u) : Gr h' b := by
  rcases hne with q | q
  · exact k.pre (c.2 q)
  · exact k.same (c.1.2 b k.lt fun e => absurd e q)
theorem Ow.gr {h0 h : AHeap} {sz n : Nat} {v : Value} {cs : List Value} (k : Ow h0 h sz v n cs) : v = nilS ∨ (h0.length ≤ sb v ∧ Gr h (sb v)) := by
  cases k with
  | nil => exact .inl rfl
  | row hb hr hl hc hm => exact .inr ⟨hb, _, _, hr⟩
/-- A slice of slices that is being built. -/
def OwN {α : Type} (h0 h : AHeap) (sz : Nat) (R : List Value → α → Prop) (u : Value) (T : List (List α)) : Prop :=
  ∃ vs, Ow h0 h 1 u T.length vs ∧ ∀ i (hi : i < T.length), ∃ tv, vs[i]? = some tv ∧ Ls h sz R tv T[i] ∧ (tv = nilS ∨ (sb tv ≠ sb u ∧ Gr h (sb tv)))

section
variable {α : Type} {R : List Value → α → Prop} {h0 h : AHeap} {sz : Nat} {u : Value} {T : List (List α)}
theorem OwN.nil : OwN h0 h sz R nilS ([] : List (List α)) := ⟨[], .nil, fun i hi => by simp at hi⟩
theorem OwN.pre {h' : AHeap} (p : Pre h h') (k : OwN h0 h sz R u T) : OwN h0 h' sz R u T := by
  obtain ⟨vs, a, b⟩ := k
  refine ⟨vs, a.pre p, fun i hi => ?_⟩
  obtain ⟨tv, h1, h2, h3⟩ := b i hi
  exact ⟨tv, h1, h2.pre p, h3.imp id fun q => ⟨q.1, q.2.pre p⟩⟩
theorem OwN.ls (k : OwN h0 h sz R u T) : Ls h 1 (isL sz R h) u T := by
  obtain ⟨vs, a, b⟩ := k
  refine ⟨vs, a.sl, fun i hi => ?_⟩
  obtain ⟨tv, h1, h2, h3⟩ := b i hi
  refine ⟨tv, ?_, h2⟩
  rw [Nat.mul_one]
  obtain ⟨q1, q2⟩ := List.getElem?_eq_some_iff.1 h1
  rw [List.drop_eq_getElem_cons q1, q2]; rfl
theorem OwN.snoc (k : OwN h0 h sz R u T) (hp : Pre h0 h) {hx hb : AHeap} (px : Pre h hx) {tv : Value} {t : List α} {n : Nat} {cs : List Value} (ho : Ow hb hx sz tv n cs) (hbl : h.length ≤ hb.length) (hl : Ls hx sz R tv t) {bytes : Nat} (hroom : room (T.length + 1) bytes)
    {K : Value → AHeap → Prop} {uu : Hold K} (hk : ∀ u' h', OwN h0 h' sz R u' (T ++ [t]) → Pre h0 h' → Chg h0 u hx h' → K u' h') : appV 1 bytes u (some (1, [tv])) hx K uu := by
  obtain ⟨vs, a, b⟩ := k
  have hul := a.place
  have hlen := a.len
  have hpl := ho.gr
  refine (a.pre px).app rfl (by simp only [List.all_cons, List.all_nil, Bool.and_true]; exact hl.oneA) hroom (fun u' h' a' hbut hsb _ => ?_) (hp.trans px)
  have hpre := hbut.pre (hp.trans px)
  refine hk u' h' ⟨vs ++ [tv], by simpa using a', fun i hi => ?_⟩ hpre hbut
  have hcase := hsb (by omega)
  have hge : hx.length ≤ h'.length := hbut.1.1
  by_cases hiT : i < T.length
  · obtain ⟨w, h1, h2, h3⟩ := b i hiT
    refine ⟨w, by rw [List.getElem?_append_left (List.getElem?_eq_some_iff.1 h1).1]; exact h1, ?_, h3.imp id fun q => ⟨?_, ?_⟩⟩
    · rw [List.getElem_append_left hiT]
      exact (h2.pre px).chg hbut (h3.imp id fun q => .inr q.1)
    · have := px.len
      have := q.2.lt
      rcases hcase with e | ⟨e, _⟩
      · rw [e]; omega
      · rw [e]; exact q.1
    · exact (q.2.pre px).chg hbut (.inr q.1)
  · obtain rfl : i = T.length := by simp at hi; omega
    have hne : tv = nilS ∨ u = nilS ∨ sb tv ≠ sb u := by
      refine hpl.imp id fun q => ?_
      rcases hul with z | hul
      · exact .inl z
      · exact .inr (by omega)
    refine ⟨tv, by rw [List.getElem?_append_right (by omega)]; simp [hlen], ?_, hpl.imp id fun q => ⟨?_, ?_⟩⟩
    · rw [List.getElem_append_right (Nat.le_refl _)]
      simp only [Nat.sub_self, List.getElem_cons_zero]
      exact hl.chg hbut hne
    · have := q.2.lt
      rcases hcase with e | ⟨e, hn⟩
      · rw [e]; omega
      · rw [e]
        rcases hul with z | hul
        · exact absurd z hn
        · omega
    · refine q.2.chg hbut ?_
      rcases hul with z | hul
      · exact .inl z
      · exact .inr (by omega)
end
end Go.Proofs.YtpnpccnbpgckhabGreat.B
