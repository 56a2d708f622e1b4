/-
  A method behind an interface value: the method tables say which function it is.
-/
import Derived.Test.YtoiihalnbdehkaaDoorAbV
namespace Go.Proofs.YtoiihalnbdehkaaDoor.B
open Go
set_option linter.unusedVariables false
set_option linter.unusedSimpArgs false
variable {P : Program} {G : Nat}
/-- A method of a type that is no pointer, with a value as its receiver. -/
theorem method_run {T : TypeId} {name : String} {f : FuncId} {v : Value} {w : World} {j : TypeInfo} {m : Method} {d : TypeDesc} (hj : P.info? T = some j) (hm : j.methods.find? (·.name == name) = some m) (hp : m.path.toList = []) (hf : m.func = some (f, false))
    (hd : P.underlying T = some d) (hdp : ∀ e, d ≠ .pointer e) (n : Nat) : (method (n + 1) T v name).run P w = .ok (f, v) w := by
  have hr : ∀ q, (receiverAt T (.val v) false q).run P w = .ok v w := by
    intro q
    unfold receiverAt
    cases d <;> simp [run_underlying hd, Place.get]
    exact absurd rfl (hdp _)
  unfold method
  simp [typeInfo, hj, hm, hp, follow, hf, hr]
theorem XSpec.meth {T : TypeId} {name : String} {f : FuncId} {v r : Value} {args : List Value} {h h' : AHeap} {j : TypeInfo} {m : Method} {d : TypeDesc} (hj : P.info? T = some j) (hm : j.methods.find? (·.name == name) = some m) (hp : m.path.toList = []) (hf : m.func = some (f, false))
    (hd : P.underlying T = some d) (hdp : ∀ e, d ≠ .pointer e) {n : Nat} (hn : P.types.size + Made.depth = n + 1) (hg : goodFn P f = true) (hs : Spec P G f (v :: args) h r h') : XSpec P G (some name) 0 (.iface T v :: args) h r h' := by
  intro μ w args' s vl o a next Q hk
  obtain ⟨l1, l2⟩ := vl
  obtain ⟨x, xs, hx⟩ : ∃ x xs, args'.toList = x :: xs := by
    cases q : args'.toList with
    | nil => rw [q] at l1; simp at l1
    | cons x xs => exact ⟨x, xs, rfl⟩
  have ha : args' = ⟨x :: xs⟩ := by apply Array.toList_inj.1; exact hx
  subst ha
  have hv := l2 0 _ _ rfl rfl
  cases hv with
  | iface _ hv =>
    rename_i v'
    have hl : VL μ h (v :: args) (v' :: xs) := ⟨by simpa using l1, fun i a b p q => by
      cases i with
      | zero => simp at p q; subst p; subst q; exact hv
      | succ i => exact l2 (i + 1) a b (by simpa using p) (by simpa using q)⟩
    have he : (runX (some name) 0 ⟨.iface T v' :: xs⟩).run P w = .ok (.enter f ⟨v' :: xs⟩) w := by
      have hargs : (#[v'] ++ (Array.extract (⟨.iface T v' :: xs⟩ : Array Value) 1 (⟨.iface T v' :: xs⟩ : Array Value).size)) = (⟨v' :: xs⟩ : Array Value) := by
        apply Array.toList_inj.1
        simp [List.extract]
      simp only [runX]
      show (callMethod (.iface T v') name _).run P w = _
      simp only [callMethod]
      simp [run_program, hn, method_run hj hm hp hf hd hdp n, hargs, callFunc_run hg]
    rw [he, Oper.upon_enter]
    refine (hs μ w ⟨v' :: xs⟩ s hl).mono fun e w' ⟨v2, μ', h1, h2, h3⟩ => ?_
    subst h1
    exact hk v2 μ' w' h2 h3
/-- The method tables of a type: the method of that name is that function, with the value itself as its receiver. -/
def methB (j : TypeInfo) (name : String) (f : FuncId) : Bool := match j.methods.find? (·.name == name) with
  | some m => m.path.toList.isEmpty && (match m.func with | some (g, b) => decide (g = f) && !b | none => false)
  | none => false
def noPtr : TypeDesc → Bool
  | .pointer _ => false
  | _ => true
theorem XSpec.methB {T : TypeId} {name : String} {f : FuncId} {v r : Value} {args : List Value} {h h' : AHeap} {j : TypeInfo} {d : TypeDesc} (hj : P.info? T = some j) (hm : methB j name f = true)
    (hd : P.underlying T = some d) (hdp : noPtr d = true) (hg : goodFn P f = true) (hs : Spec P G f (v :: args) h r h') : XSpec P G (some name) 0 (.iface T v :: args) h r h' := by
  unfold B.methB at hm
  cases q : j.methods.find? (·.name == name) with
  | none => rw [q] at hm; cases hm
  | some m =>
    rw [q] at hm
    simp only [Bool.and_eq_true] at hm
    obtain ⟨h1, h2⟩ := hm
    cases q2 : m.func with
    | none => rw [q2] at h2; cases h2
    | some gb =>
      obtain ⟨g, b⟩ := gb
      rw [q2] at h2
      simp only [Bool.and_eq_true, decide_eq_true_eq, Bool.not_eq_true'] at h2
      obtain ⟨rfl, rfl⟩ := h2
      exact XSpec.meth hj q (by simpa using h1) q2 hd (fun e he => by subst he; cases hdp) (n := P.types.size + 99) (by show _ + 100 = _; omega) hg hs
end Go.Proofs.YtoiihalnbdehkaaDoor.B
