/-
  Layer 22 (fib) over the abstract heap: the way by some tables.
-/
import Derived.Test.YtmeojocmngbpaaaDoorF2
namespace Go.Proofs.YtmeojocmngbpaaaDoor.B
open Go Go.IntWalk
set_option linter.unusedVariables false
set_option linter.unusedSimpArgs false

abbrev intC (n : Int) : List Value := [.int .i64 n]
abbrev isT (h : AHeap) (c : List Value) (t : List Hop) : Prop := ∃ tv, c = [tv] ∧ Ls h 3 isH tv t

/-- Different numbers below a bound. -/
theorem nodup_len : ∀ (n : Nat) (l : List Int), l.Nodup → (∀ x ∈ l, 0 ≤ x ∧ x < n) → l.length ≤ n
  | 0, l, _, hb => by
    cases l with
    | nil => simp
    | cons a l => have := hb a (by simp); omega
  | n + 1, l, hn, hb => by
    by_cases hm : (n : Int) ∈ l
    · have h1 := nodup_len n (l.erase n) (hn.erase _) fun x hx => by
        rw [hn.mem_erase_iff] at hx
        have := hb x hx.2
        omega
      have h2 := List.length_erase_of_mem hm
      omega
    · have := nodup_len n l hn fun x hx => by
        have := hb x hx
        have : x ≠ n := fun q => hm (q ▸ hx)
        omega
      omega

def walkF (T : List (List Hop)) (dest : Int) : Nat → List Int → Int → List Int × Bool
  | 0, way, _ => (way, false)
  | n + 1, way, at_ => if at_ ∈ way then (way ++ [at_], true) else
    if at_ = dest ∨ at_ < 0 ∨ (T.length : Int) ≤ at_ then (way ++ [at_], false) else
      if lookL (T.getD at_.toNat []) dest < 0 then (way ++ [at_], false) else walkF T dest n (way ++ [at_]) (lookL (T.getD at_.toNat []) dest)

/-- The way so far. -/
def OnWay (T : List (List Hop)) (way : List Int) : Prop := way.Nodup ∧ ∀ x ∈ way, 0 ≤ x ∧ x < T.length
theorem OnWay.len {T : List (List Hop)} {way : List Int} (h : OnWay T way) : way.length ≤ T.length := nodup_len _ _ h.1 h.2
theorem OnWay.snoc {T : List (List Hop)} {way : List Int} {x : Int} (h : OnWay T way) (hx : x ∉ way) (h0 : 0 ≤ x) (h1 : x < T.length) : OnWay T (way ++ [x]) := by
  refine ⟨?_, fun y hy => ?_⟩
  · rw [List.nodup_append]
    exact ⟨h.1, by simp, fun a ha b hb => by simp at hb; subst hb; exact fun q => hx (q ▸ ha)⟩
  · rw [List.mem_append, List.mem_singleton] at hy
    rcases hy with hy | rfl
    · exact h.2 y hy
    · exact ⟨h0, h1⟩

theorem Ow.ints {h0 h : AHeap} {v : Value} {l : List Int} (k : Ow h0 h 1 v l.length (l.flatMap intC)) : Ls h 1 isI v l := k.sl.ls (fun _ => rfl) rfl
theorem Ow.snoc {h0 h : AHeap} {v : Value} {l : List Int} {x : Int} (k : Ow h0 h 1 v (l.length + 1) (l.flatMap intC ++ [.int .i64 x])) : Ow h0 h 1 v (l ++ [x]).length ((l ++ [x]).flatMap intC) := by
  simpa using k

theorem Ls.isTpre {h h2 : AHeap} {v : Value} {T : List (List Hop)} (k : Ls h 1 (isT h) v T) (p : Pre h h2) : Ls h2 1 (isT h2) v T := (k.pre p).mono fun c t ⟨tv, q1, q2⟩ => ⟨tv, q1, q2.pre p⟩
abbrev isB (c : List Value) (b : Bool) : Prop := c = [.bool b]
abbrev isR (h : AHeap) (c : List Value) (r : List Bool) : Prop := ∃ rv, c = [rv] ∧ Ls h 1 isB rv r
theorem Ls.isRpre {h h' : AHeap} (p : Pre h h') {v : Value} {L : List (List Bool)} (k : Ls h 1 (isR h) v L) : Ls h' 1 (isR h') v L := (k.pre p).mono fun _ _ ⟨rv, a, b⟩ => ⟨rv, a, b.pre p⟩

end Go.Proofs.YtmeojocmngbpaaaDoor.B
