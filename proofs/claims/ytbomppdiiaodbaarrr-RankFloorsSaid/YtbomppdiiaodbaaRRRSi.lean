/-
  Rows of whole numbers of one kind, in fixed blocks and in slices.
-/
import Derived.Test.YtbomppdiiaodbaaRRRAbZ
import Derived.Test.YtbomppdiiaodbaaRRRSu
namespace Go.Proofs.YtbomppdiiaodbaaRRR.B
open Go
set_option linter.unusedVariables false
set_option linter.unusedSimpArgs false
variable {G : Nat} {P : Program}
abbrev ik (k : IntKind) (L : List Int) : List Value := L.map (Value.int k)
def irep (n : Nat) (x : Int) : List Int := List.replicate n x
theorem irep_len (n : Nat) (x : Int) : (irep n x).length = n := by simp [irep]
theorem zrep_ik (n : Nat) (k : IntKind) (x : Int) : zrep n (.int k x) = ik k (irep n x) := by simp [zrep, ik, irep]
theorem ik_rd {k : IntKind} {L : List Int} {i : Nat} (hi : i < L.length) : ((ik k L).drop i).take 1 = [.int k (L.getD i 0)] := by
  rw [List.drop_eq_getElem_cons (by simpa using hi)]
  simp [List.getD, hi]
theorem ik_set (k : IntKind) (L : List Int) (i : Nat) (x : Int) : setC (ik k L) i [.int k x] = ik k (L.set i x) := by
  show (L.map (Value.int k)).set i (.int k x) = (L.set i x).map (Value.int k)
  rw [List.map_set]
section
variable {h : AHeap} {b : Nat} {k : IntKind} {L : List Int}
theorem Fx.krdA (f : Fx h b (ik k L)) {i : Nat} (hi : i < L.length) (g : AHeap) : rds (h ++ g) b i 1 = some [.int k (L.getD i 0)] := f.rdA (ik_rd hi) (by simp; omega) g
theorem Fx.krd (f : Fx h b (ik k L)) {i : Nat} (hi : i < L.length) : rds h b i 1 = some [.int k (L.getD i 0)] := f.rd (ik_rd hi) (by simp; omega)
theorem Fx.kwr (f : Fx h b (ik k L)) {i : Nat} (hi : i < L.length) (x : Int) : wrs h b i [.int k x] = some (h.set b (.row .fix (ik k (L.set i x)))) := by
  rw [f.wr (by simp; omega), ik_set]
theorem Fx.kwrA (f : Fx h b (ik k L)) {i : Nat} (hi : i < L.length) (x : Int) (g : AHeap) : wrs (h ++ g) b i [.int k x] = some (h.set b (.row .fix (ik k (L.set i x))) ++ g) := by
  rw [f.wrA (by simp; omega), ik_set]
end
theorem ik_scalar (k : IntKind) (L : List Int) : (ik k L).all scalarB = true := by
  simp [ik, scalarB]
theorem ik_one (k : IntKind) (L : List Int) : (ik k L).all oneA = true := by
  simp [ik, oneA]
theorem unV_not32 (n : Int) (h : AHeap) (K : Value → AHeap → Prop) (u : Hold K) : unV .xor (.int .u32 n) h K u = mvV (.int .u32 (notU n)) h K u := rfl
theorem setC_all {cs vs : List Value} (hl : cs.length = vs.length) : setC cs 0 vs = vs := by
  rw [setC_eq (by omega)]
  simp [← hl]
theorem wrs_new {h : AHeap} {cs vs : List Value} (hl : cs.length = vs.length) : wrs (h ++ [.row .fix cs]) h.length 0 vs = some (h ++ [.row .fix vs]) := by
  have := (Fx.here h cs []).wr (off := 0) (vs := vs) (by omega)
  rw [this, setC_all hl]
  simp
/-- A slot of a slice that holds a byte. -/
abbrev by8 (c : List Value) (n : Int) : Prop := c = [.int .u8 n]
abbrev isK (k : IntKind) (c : List Value) (n : Int) : Prop := c = [.int k n]
def IsB (l : List Int) : Prop := ∀ x ∈ l, 0 ≤ x ∧ x < 256
theorem IsB.append {a b : List Int} (ha : IsB a) (hb : IsB b) : IsB (a ++ b) := fun x hx => (List.mem_append.1 hx).elim (ha x) (hb x)
theorem IsB.left {a b : List Int} (h : IsB (a ++ b)) : IsB a := fun x hx => h x (List.mem_append_left _ hx)
theorem IsB.right {a b : List Int} (h : IsB (a ++ b)) : IsB b := fun x hx => h x (List.mem_append_right _ hx)
theorem IsB.nil : IsB [] := fun x hx => by cases hx
theorem IsB.cons {x : Int} {l : List Int} (h0 : 0 ≤ x) (h1 : x < 256) (h : IsB l) : IsB (x :: l) := fun y hy => (List.mem_cons.1 hy).elim (fun e => by subst e; exact ⟨h0, h1⟩) (h y)
theorem IsB.take {l : List Int} (h : IsB l) (n : Nat) : IsB (l.take n) := fun x hx => h x (List.mem_of_mem_take hx)
theorem IsB.drop {l : List Int} (h : IsB l) (n : Nat) : IsB (l.drop n) := fun x hx => h x (List.mem_of_mem_drop hx)
theorem IsB.rep (n : Nat) {x : Int} (h0 : 0 ≤ x) (h1 : x < 256) : IsB (List.replicate n x) := fun y hy => by rw [List.eq_of_mem_replicate hy]; exact ⟨h0, h1⟩
theorem IsB.be (k : Nat) (x : Int) : IsB (beF k x) := fun y hy => by
  unfold beF at hy
  obtain ⟨i, _, rfl⟩ := List.mem_map.1 hy
  omega
theorem IsB.getD {l : List Int} (h : IsB l) (i : Nat) : 0 ≤ l.getD i 0 ∧ l.getD i 0 < 256 := by
  rw [List.getD_eq_getElem?_getD]
  cases q : l[i]? with
  | none => simp
  | some x => exact h x (List.mem_of_getElem? q)
theorem IsB.nat {l : List Int} (h : IsB l) (i : Nat) : ∃ n : Nat, l.getD i 0 = n ∧ n < 256 := by
  obtain ⟨a, b⟩ := h.getD i
  exact ⟨(l.getD i 0).toNat, by omega, by omega⟩
theorem Spec.dropA {f : FuncId} {args : List Value} {h h2 : AHeap} {l : List Value} (hs : Spec P G f args h (.agg ⟨l⟩) h2) (p : Pre h h2) (hv : l.all scalarB = true) : Spec P G f args h (.agg ⟨l⟩) h := by
  obtain ⟨g, rfl⟩ := p
  exact hs.fin (Fin.agg hv rfl)
theorem SpecX.ag {f : FuncId} {args : List Value} {h : AHeap} {l : List Value} (hv : l.all scalarB = true) (hs : SpecX P G f args h fun v' h' => Pre h h' ∧ v' = .agg ⟨l⟩) : Spec P G f args h (.agg ⟨l⟩) h := by
  obtain ⟨v', h', k, p, rfl⟩ := hs
  exact k.dropA p hv
theorem SpecX.sc {f : FuncId} {args : List Value} {h : AHeap} {v : Value} (hv : scalarB v = true) (hs : SpecX P G f args h fun v' h' => Pre h h' ∧ v' = v) : Spec P G f args h v h := by
  obtain ⟨v', h', k, p, rfl⟩ := hs
  exact k.drop p hv
theorem Ls.rdK {k : IntKind} {h : AHeap} {v : Value} {l : List Int} (hv : Ls h 1 (isK k) v l) {h2 : AHeap} (p : Pre h h2) {i : Nat} (hi : i < l.length) (g : AHeap) : rds (h2 ++ g) (sb v) (so v + i) 1 = some [.int k (l.getD i 0)] := by
  obtain ⟨c, _, hc, hr⟩ := hv.rd hi
  subst hc
  have := hr _ (p.app' g)
  rw [Nat.mul_one] at this
  rw [this]; simp [List.getD, hi]
theorem Ls.rdK0 {k : IntKind} {h : AHeap} {v : Value} {l : List Int} (hv : Ls h 1 (isK k) v l) {h2 : AHeap} (p : Pre h h2) {i : Nat} (hi : i < l.length) : rds h2 (sb v) (so v + i) 1 = some [.int k (l.getD i 0)] := by
  have := hv.rdK p hi []
  rwa [List.append_nil] at this
theorem sub_nat {n m : Nat} (h : m ≤ n) (hn : n ≤ maxI) : IntKind.i64.wrap ((n : Int) - (m : Int)) = ((n - m : Nat) : Int) := by
  rw [wrap_i64 (by unfold maxI at hn; omega)]; omega
theorem mul_nat {n m : Nat} (h : n * m ≤ maxI) : IntKind.i64.wrap ((n : Int) * (m : Int)) = ((n * m : Nat) : Int) := by
  rw [← Int.natCast_mul, wrap_nat h]
theorem add_nat {n m : Nat} (h : n + m ≤ maxI) : IntKind.i64.wrap ((n : Int) + (m : Int)) = ((n + m : Nat) : Int) := by
  rw [← Int.natCast_add, wrap_nat h]
end Go.Proofs.YtbomppdiiaodbaaRRR.B
