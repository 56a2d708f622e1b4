/-
  What the rows of layer 22 share: hops, tables, lists of numbers.
-/
import Derived.Test.YtmeojocmngbpaaaDoorRows
import Derived.Test.YtmeojocmngbpaaaDoorAbQ
import Derived.Test.YtmeojocmngbpaaaDoorF3
import Derived.OpenShut
import Derived.ShutString
import Derived.Lib.SmallJoins
namespace Go.Proofs.YtmeojocmngbpaaaDoor.B
open Go Go.ChangeShapes Go.WideShapes Go.RowKit
set_option linter.unusedVariables false
theorem own : ownKnob Tryd.prog.godebug = none := by kernel_rfl
theorem laidOut : laidOutB Tryd.prog = true := by kernel_rfl

abbrev hopSh : Sh := .fld 1 (.int .i64) (.fld 1 (.int .i64) (.fld 1 (.int .i64) .nil))
theorem hop_cells {h : AHeap} {c : List Value} (hl : c.length = 3) (k : hopSh.ok h c) : ∃ a : Hop, isH c a := by
  obtain ⟨⟨e, h1, w1⟩, ⟨s, h2, w2⟩, ⟨m, h3, w3⟩, _⟩ := k
  match c, hl with
  | [x, y, z], _ =>
    simp at h1 h2 h3
    subst h1 h2 h3
    exact ⟨⟨e, s, m⟩, rfl⟩
theorem int_cells {h : AHeap} {c : List Value} (hl : c.length = 1) (k : (Sh.int .i64).ok h c) : ∃ a : Int, isI c a := by
  obtain ⟨n, rfl, _⟩ := k
  exact ⟨n, rfl⟩
theorem table_cells {h : AHeap} {c : List Value} (hl : c.length = 1) (k : (Sh.slice 3 24 hopSh).ok h c) : ∃ t : List Hop, isT h c t ∧ Fits t := by
  obtain ⟨v, l, rfl, h1, h2⟩ := Sh.ls (fun c h1 h2 => hop_cells h1 h2) k
  exact ⟨l, ⟨v, rfl, h1⟩, h2⟩
theorem Ls.split {α : Type} {h : AHeap} {sz : Nat} {R : List Value → α → Prop} {Q : α → Prop} {v : Value} {l : List α} (k : Ls h sz (fun c a => R c a ∧ Q a) v l) : Ls h sz R v l ∧ ∀ a ∈ l, Q a := by
  refine ⟨k.mono fun c a q => q.1, fun a ha => ?_⟩
  obtain ⟨cs, _, hq⟩ := k
  obtain ⟨i, hi, rfl⟩ := List.getElem_of_mem ha
  exact (hq i hi).2
end Go.Proofs.YtmeojocmngbpaaaDoor.B
