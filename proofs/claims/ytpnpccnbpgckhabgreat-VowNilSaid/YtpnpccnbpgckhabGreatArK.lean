/-
  Maps from numbers over an abstract heap: what is there after a put.
-/
import Derived.Test.YtpnpccnbpgckhabGreatArM
namespace Go.Proofs.YtpnpccnbpgckhabGreat.B
open Go
set_option linter.unusedVariables false
set_option linter.unusedSimpArgs false

theorem getM_nil (x : Int) : getM x [] = none := rfl
theorem getM_cons (x : Int) (p : Int × Value) (r : List (Int × Value)) : getM x (p :: r) = if x = p.1 then some p.2 else getM x r := by
  unfold getM
  rw [ixM]
  split
  · rfl
  · cases ixM x r <;> simp
theorem putM_nil (x : Int) (v : Value) : putM x v [] = [(x, v)] := rfl
theorem putM_cons (x : Int) (v : Value) (p : Int × Value) (r : List (Int × Value)) : putM x v (p :: r) = if x = p.1 then (x, v) :: r else p :: putM x v r := by
  unfold putM
  rw [ixM]
  by_cases e : x = p.1
  · rw [if_pos e, if_pos e]; rfl
  · rw [if_neg e, if_neg e]
    cases ixM x r <;> simp
theorem getM_put (x y : Int) (v : Value) : ∀ kc : List (Int × Value), getM y (putM x v kc) = if y = x then some v else getM y kc
  | [] => by rw [putM_nil, getM_cons]
  | p :: r => by
    rw [putM_cons]
    by_cases e : x = p.1
    · rw [if_pos e, getM_cons, getM_cons]
      by_cases f : y = x
      · simp [f]
      · rw [if_neg f, if_neg f, if_neg (by rw [← e]; exact f)]
    · rw [if_neg e, getM_cons, getM_cons, getM_put x y v r]
      by_cases f : y = p.1
      · rw [if_pos f, if_pos f, if_neg (by rw [f]; exact fun q => e q.symm)]
      · rw [if_neg f, if_neg f]
/-- All entries hold what is told of. -/
def AllM (Q : Value → Prop) (kc : List (Int × Value)) : Prop := ∀ p ∈ kc, Q p.2
theorem AllM.get {Q : Value → Prop} {x : Int} {v : Value} : ∀ {kc : List (Int × Value)}, AllM Q kc → getM x kc = some v → Q v
  | [], _, h => by cases h
  | p :: r, k, h => by
    rw [getM_cons] at h
    split at h
    · cases h; exact k p (by simp)
    · exact AllM.get (fun q hq => k q (by simp [hq])) h
theorem AllM.put {Q : Value → Prop} {x : Int} {v : Value} (hv : Q v) : ∀ {kc : List (Int × Value)}, AllM Q kc → AllM Q (putM x v kc)
  | [], _ => fun p hp => by simp [putM_nil] at hp; subst hp; exact hv
  | p :: r, k => by
    rw [putM_cons]
    split
    · intro q hq
      rw [List.mem_cons] at hq
      rcases hq with rfl | hq
      · exact hv
      · exact k q (by simp [hq])
    · intro q hq
      rw [List.mem_cons] at hq
      rcases hq with rfl | hq
      · exact k _ (by simp)
      · exact AllM.put hv (fun q hq => k q (by simp [hq])) q hq
end Go.Proofs.YtpnpccnbpgckhabGreat.B
