/-
  Floors (layer 1): which destinations have one; what a raise keeps.
-/
import Derived.Test.YtbomppdiiaodbaaRRRRf2
import Derived.Test.YtbomppdiiaodbaaRRRKE
namespace Go.Proofs.YtbomppdiiaodbaaRRR.B
open Go
set_option linter.unusedVariables false
set_option linter.unusedSimpArgs false
theorem Ow.lsF {h0 h : AHeap} {k : IntKind} {v : Value} {l : List Int} (o : Ow h0 h 1 v l.length (ik k l)) : Ls h 1 (isK k) v l :=
  ⟨_, o.sl, fun i hi => by rw [Nat.mul_one, ik_rd hi]; simp [List.getD, hi]⟩
structure OpR where
  d : Int
  e : Int
  s : Int
  m : Int
abbrev OpR.c (o : OpR) : List Value := [.int .i64 o.d, .int .u32 o.e, .int .u32 o.s, .int .i64 o.m]
abbrev isOp (c : List Value) (o : OpR) : Prop := c = o.c
theorem putM_ks (x : Int) (v : Value) : ∀ kc : List (Int × Value), (putM x v kc).map (·.1) = if x ∈ kc.map (·.1) then kc.map (·.1) else kc.map (·.1) ++ [x]
  | [] => by simp [putM_nil]
  | p :: r => by
    rw [putM_cons]
    by_cases e : x = p.1
    · rw [if_pos e]; simp [e]
    · rw [if_neg e, List.map_cons, putM_ks x v r]
      by_cases f : x ∈ r.map (·.1)
      · rw [if_pos f, if_pos (by simp [f]), List.map_cons]
      · rw [if_neg f, if_neg (show x ∉ (p :: r).map (·.1) from fun q => (List.mem_cons.1 q).elim e f), List.map_cons, List.cons_append]
theorem mem_keys (x : Int) : ∀ kc : List (Int × Value), x ∈ kc.map (·.1) ↔ (getM x kc).isSome = true
  | [] => by simp [getM_nil]
  | p :: r => by
    rw [getM_cons, List.map_cons, List.mem_cons, mem_keys x r]
    by_cases e : x = p.1
    · simp [e]
    · simp [e]
/-- What holds of floors, along the law. -/
structure Good (kc : List (Int × Value)) : Prop where
  k : AllM isKV kc
  i : InM kc
  n : (kc.map (·.1)).Nodup
theorem Good.nil : Good [] := ⟨fun p hp => (by cases hp), fun p hp => (by cases hp), List.nodup_nil⟩
theorem Good.put {kc : List (Int × Value)} (g : Good kc) {d : Int} (h0 : 0 ≤ d) (h1 : d < 8) (e s m : Int) : Good (putM d (keyV e s m) kc) := by
  refine ⟨g.k.put ⟨e, s, m, rfl⟩, fun p hp => ?_, ?_⟩
  · have hm : p.1 ∈ (putM d (keyV e s m) kc).map (·.1) := List.mem_map.2 ⟨p, hp, rfl⟩
    rw [putM_ks] at hm
    have old : p.1 ∈ kc.map (·.1) → 0 ≤ p.1 ∧ p.1 < 8 := fun q => by
      obtain ⟨r, hr, e⟩ := List.mem_map.1 q
      rw [← e]; exact g.i r hr
    split at hm
    · exact old hm
    · rcases List.mem_append.1 hm with q | q
      · exact old q
      · simp at q; omega
  · rw [putM_ks]
    split
    · exact g.n
    · rename_i q
      refine List.nodup_append.2 ⟨g.n, by simp, fun a ha b hb e => ?_⟩
      simp at hb
      subst hb e
      exact q ha
theorem Good.raise {kc kc' : List (Int × Value)} (g : Good kc) {e s m d : Int} {up : Bool} {er : Int} (h : (up, er, kc') = raiseF e s m d kc) : Good kc' := by
  unfold raiseF at h
  split at h
  · cases h; exact g
  · rename_i q
    have hd : 0 ≤ d ∧ d < 8 := by omega
    split at h
    · split at h
      · cases h; exact g
      · cases h; exact g.put hd.1 hd.2 e s m
    · cases h; exact g.put hd.1 hd.2 e s m
def hasN (kc : List (Int × Value)) : Nat → List Int
  | 0 => []
  | j + 1 => hasN kc j ++ if (getM ((j : Int) - 1) kc).isSome then [(j : Int) - 1] else []
theorem hasN_mem (kc : List (Int × Value)) (x : Int) : ∀ j : Nat, x ∈ hasN kc j ↔ -1 ≤ x ∧ x < (j : Int) - 1 ∧ (getM x kc).isSome = true
  | 0 => by simp [hasN]; omega
  | j + 1 => by
    rw [hasN, List.mem_append, hasN_mem kc x j]
    by_cases q : (getM ((j : Int) - 1) kc).isSome = true
    · rw [if_pos q, List.mem_singleton]
      constructor
      · rintro (⟨a, b, c⟩ | rfl)
        · exact ⟨a, by omega, c⟩
        · exact ⟨by omega, by omega, q⟩
      · rintro ⟨a, b, c⟩
        by_cases e : x = (j : Int) - 1
        · exact .inr e
        · exact .inl ⟨a, by omega, c⟩
    · rw [if_neg q]
      constructor
      · rintro (⟨a, b, c⟩ | h)
        · exact ⟨a, by omega, c⟩
        · cases h
      · rintro ⟨a, b, c⟩
        by_cases e : x = (j : Int) - 1
        · subst e; exact absurd c q
        · exact .inl ⟨a, by omega, c⟩
theorem hasN_lt (kc : List (Int × Value)) : ∀ j : Nat, (hasN kc j).Pairwise (· < ·)
  | 0 => List.Pairwise.nil
  | j + 1 => by
    rw [hasN]
    refine List.pairwise_append.2 ⟨hasN_lt kc j, ?_, fun a ha b hb => ?_⟩
    · split <;> simp
    · have := ((hasN_mem kc a j).1 ha).2.1
      split at hb
      · simp at hb; omega
      · cases hb
theorem hasN_len (kc : List (Int × Value)) : ∀ j : Nat, (hasN kc j).length ≤ j
  | 0 => Nat.le_refl _
  | j + 1 => by
    have := hasN_len kc j
    rw [hasN, List.length_append]
    split <;> simp <;> omega
theorem Good.keys {kc : List (Int × Value)} (g : Good kc) : (kc.map (·.1)).Perm (hasN kc 10) := by
  refine (List.perm_ext_iff_of_nodup g.n ((hasN_lt kc 10).imp fun h => by omega)).2 fun x => ?_
  rw [hasN_mem, mem_keys]
  constructor
  · intro h
    have := (mem_keys x kc).2 h
    obtain ⟨p, hp, rfl⟩ := List.mem_map.1 this
    have := g.i p hp
    exact ⟨by omega, by omega, h⟩
  · exact fun h => h.2.2
theorem Good.keysS {kc : List (Int × Value)} (g : Good kc) : keysS kc = hasN kc 10 :=
  sorted_eq (keysS_sorted kc) ((hasN_lt kc 10).imp fun h => Int.le_of_lt h) ((keysS_perm kc).trans g.keys)
theorem Good.len {kc : List (Int × Value)} (g : Good kc) : kc.length ≤ 10 := by
  have := g.keys.length_eq
  have := hasN_len kc 10
  simp at *; omega
theorem from_spec (h : AHeap) (e s m : Int) : Spec Try.prog nG fn.law01_From [keyV e s m] h (keyV e s m) h := by
  apply ir.law01_From.spec (Nat.le_of_ble_eq_true rfl)
  simp only [↓ir.law01_From.bw, ir.law01_From.rs]
  simp (dsimp := false) only [keyV, go_sem, Nat.reduceAdd, Nat.reduceEqDiff, Nat.reduceMul, Nat.reduceLeDiff, Nat.reduceSub, Nat.reduceLT, ↓reduceIte, reduceCtorEq, List.reduceReplicate, List.flatten_cons, List.flatten_nil, List.append_nil, eq_self, Int.reduceLE, Int.reduceLT, Int.reduceToNat, Nat.min_eq_left, Int.reducePow, Int.reduceNeg, Int.reduceEq]
  exact Fin.keyV h e s m _
end Go.Proofs.YtbomppdiiaodbaaRRR.B
