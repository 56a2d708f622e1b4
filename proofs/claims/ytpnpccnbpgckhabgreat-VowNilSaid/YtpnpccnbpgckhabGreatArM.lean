/-
  Maps over an abstract heap: what is found in them, and what is put there.
-/
import Derived.Test.YtpnpccnbpgckhabGreatArL
namespace Go.Proofs.YtpnpccnbpgckhabGreat.B
open Go
set_option linter.unusedVariables false
set_option linter.unusedSimpArgs false
variable {G : Nat} {P : Program}

/-- Entries of a map from numbers. -/
def encM (kc : List (Int × Value)) : List (Value × Value) := kc.map fun p => (.int .i64 p.1, p.2)
/-- Where a number stands among keys. -/
def ixM (x : Int) : List (Int × Value) → Option Nat
  | [] => none
  | p :: r => if x = p.1 then some 0 else (ixM x r).map (· + 1)
theorem findIx_enc (x : Int) : ∀ kc : List (Int × Value), findIx 0 (.int .i64 x) (encM kc) = some (ixM x kc)
  | [] => rfl
  | p :: r => by
    have ih := findIx_enc x r
    simp only [encM, List.map_cons, findIx, keyEqI] at ih ⊢
    by_cases e : x = p.1
    · simp [e, ixM]
    · have : (x == p.1) = false := by simpa using e
      rw [this]
      simp only
      rw [ih]
      simp [ixM, e]
theorem ixM_none {x : Int} : ∀ {kc : List (Int × Value)}, x ∉ kc.map (·.1) → ixM x kc = none
  | [], _ => rfl
  | p :: r, h => by
    simp only [List.map_cons, List.mem_cons, not_or] at h
    rw [ixM, if_neg h.1, ixM_none h.2]; rfl
theorem ixM_some {x : Int} : ∀ {kc : List (Int × Value)}, x ∈ kc.map (·.1) → ∃ i p, ixM x kc = some i ∧ kc[i]? = some p ∧ p.1 = x
  | [], h => by simp at h
  | p :: r, h => by
    by_cases e : x = p.1
    · exact ⟨0, p, by rw [ixM, if_pos e], rfl, e.symm⟩
    · simp only [List.map_cons, List.mem_cons] at h
      obtain ⟨i, q, h1, h2, h3⟩ := ixM_some (h.resolve_left e)
      exact ⟨i + 1, q, by rw [ixM, if_neg e, h1]; rfl, h2, h3⟩
/-- What a number's entry holds. -/
def getM (x : Int) (kc : List (Int × Value)) : Option Value := (ixM x kc).bind fun i => (kc[i]?).map (·.2)
theorem findV_enc (x : Int) (kc : List (Int × Value)) : findV 0 (.int .i64 x) (encM kc) = some (getM x kc) := by
  unfold findV getM
  rw [findIx_enc]
  simp only [Option.map_some, encM, List.getElem?_map]
  cases ixM x kc with
  | none => rfl
  | some i => simp only [Option.bind_some]; cases kc[i]? <;> rfl
/-- A number's entry, put. -/
def putM (x : Int) (v : Value) (kc : List (Int × Value)) : List (Int × Value) := match ixM x kc with
  | some i => kc.set i (x, v)
  | none => kc ++ [(x, v)]
theorem setEs_enc (x : Int) (v : Value) (kc : List (Int × Value)) : setEs 0 (.int .i64 x) v (encM kc) = some (encM (putM x v kc)) := by
  unfold setEs putM
  rw [findIx_enc]
  cases ixM x kc with
  | none => simp [encM]
  | some i => simp [encM]
theorem putM_keys (x : Int) (v : Value) (kc : List (Int × Value)) : (putM x v kc).map (·.1) = if x ∈ kc.map (·.1) then kc.map (·.1) else kc.map (·.1) ++ [x] := by
  unfold putM
  split
  · rename_i i hi
    by_cases hm : x ∈ kc.map (·.1)
    · obtain ⟨j, p, h1, h2, h3⟩ := ixM_some hm
      rw [if_pos hm]
      rw [h1] at hi; cases hi
      rw [List.map_set]
      apply List.ext_getElem?
      intro k
      rw [List.getElem?_set]
      split
      · rename_i e; subst e
        obtain ⟨q1, q2⟩ := List.getElem?_eq_some_iff.1 h2
        simp [q1, q2, h3]
      · rfl
    · rw [ixM_none hm] at hi; cases hi
  · rename_i hi
    by_cases hm : x ∈ kc.map (·.1)
    · obtain ⟨j, p, h1, h2, h3⟩ := ixM_some hm
      rw [h1] at hi; cases hi
    · rw [if_neg hm]; simp

theorem mapEs_at {h : AHeap} {b : Nat} {rw' : Bool} {es : List (Value × Value)} (hb : h[b]? = some (.map rw' es)) : mapEs h (.map (some b)) = some es := by simp [mapEs, hb]
theorem mapAt_at {h : AHeap} {b : Nat} {es : List (Value × Value)} (hb : h[b]? = some (.map true es)) : mapAt h b = some es := by simp [mapAt, hb]

/-- The different ones of some numbers, in the order of their first places. -/
def firsts (l : List Int) : List Int := l.foldl (fun ks x => if x ∈ ks then ks else ks ++ [x]) []
theorem firsts_snoc (l : List Int) (x : Int) : firsts (l ++ [x]) = if x ∈ firsts l then firsts l else firsts l ++ [x] := by
  unfold firsts; rw [List.foldl_append]; rfl
theorem firsts_nodup_aux : ∀ (n : Nat) (l : List Int), l.length = n → l.Nodup → firsts l = l
  | 0, l, hl, _ => by obtain rfl := List.eq_nil_of_length_eq_zero hl; rfl
  | n + 1, l, hl, hn => by
    have hne : l ≠ [] := by intro q; subst q; simp at hl
    have e := List.dropLast_concat_getLast hne
    rw [← e] at hn ⊢
    rw [List.nodup_append] at hn
    have ih := firsts_nodup_aux n l.dropLast (by simp [hl]) hn.1
    rw [firsts_snoc, ih, if_neg]
    intro hm
    exact hn.2.2 _ hm _ (by simp) rfl
theorem firsts_nodup {l : List Int} (h : l.Nodup) : firsts l = l := firsts_nodup_aux _ l rfl h
end Go.Proofs.YtpnpccnbpgckhabGreat.B
