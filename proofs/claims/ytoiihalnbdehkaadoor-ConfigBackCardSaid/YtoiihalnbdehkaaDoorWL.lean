/-
  Package variables that a row lists: what the list says of them, as rows of the abstract heap.
-/
import Derived.Test.YtoiihalnbdehkaaDoorAbQ
import Derived.Test.YtoiihalnbdehkaaDoorAbV
import Derived.Lib.LaidTab
import Derived.Lay
import Derived.SevenTiedAt
namespace Go.Proofs.YtoiihalnbdehkaaDoor.B
open Go Go.RowKit
set_option linter.unusedVariables false
set_option linter.unusedSimpArgs false
variable {P : Program} {W : World}

theorem laid_at : ∀ {laid : List (String × DataW Unit)} {q : List MemPlace}, DataW.LaidVars P W laid q → ∀ {name : String} {d : DataW Unit}, (name, d) ∈ laid →
    ∃ g t cs fuel p, P.globalNamed name = some g ∧ (P.globals[g]?).map (·.type) = some t ∧ W.var? P name = some cs ∧ DataW.trod (fun _ => ()) P W 0 (fun _ => true) false fuel t cs.toList = some (d, p)
  | [], q, _, name, d, hm => by cases hm
  | (n, e) :: r, q, hl, name, d, hm => by
    obtain ⟨g, t, cs, fuel, p, q2, h1, h2, h3, h4, h5, _⟩ := hl
    rcases List.mem_cons.1 hm with hm | hm
    · cases hm; exact ⟨g, t, cs, fuel, p, h1, h2, h3, h4⟩
    · exact laid_at h5 hm

def DataW_parts {H : Type} : DataW H → List (DataW H)
  | .agg ds => ds
  | _ => []
/-- A plain datum's value. -/
def litV : DataW Unit → Option Value
  | .lit (.int k n) => some (.int k n)
  | .lit (.bool b) => some (.bool b)
  | .lit (.string s) => some (.string ⟨s.toArray⟩)
  | _ => none
def litVs (ds : List (DataW Unit)) : List Value := (ds.mapM litV).getD []
theorem trod_lit {t : TypeId} {c v : Value} {d : DataW Unit} {p : List MemPlace} {fuel base : Nat} {sp : Nat → Bool} {held : Bool} (ht : P.underlying t = some .string ∨ ∃ k, P.underlying t = some (.int k))
    (h : DataW.trod (fun _ => ()) P W base sp held fuel t [c] = some (d, p)) (hv : litV d = some v) : c = v := by
  cases fuel with
  | zero => simp [DataW.trod] at h
  | succ fuel =>
    rcases ht with ht | ⟨k, ht⟩
    · cases c <;> simp [DataW.trod, ht] at h
      obtain ⟨_, rfl, _⟩ := h
      simpa [litV] using hv
    · cases c <;> simp [DataW.trod, ht] at h
      obtain ⟨⟨rfl, _⟩, rfl, _⟩ := h
      simpa [litV] using hv
theorem mapM_atW {α β : Type} {f : α → Option β} {l : List α} {r : List β} (h : l.mapM f = some r) {i : Nat} {a : α} (hi : l[i]? = some a) : ∃ b, r[i]? = some b ∧ f a = some b := Lib.mapM_at h i a hi
theorem cells_of_lits {t e : TypeId} {n fuel base : Nat} {cs vs : List Value} {ds : List (DataW Unit)} {p : List MemPlace} {sp : Nat → Bool} {held : Bool} (ht : P.underlying t = some (.array n e))
    (he : P.underlying e = some .string ∨ ∃ k, P.underlying e = some (.int k)) (hce : P.cellsOf e = 1) (hct : P.cellsOf t = n) (h : DataW.trod (fun _ => ()) P W base sp held fuel t cs = some (.agg ds, p)) (hv : ds.mapM litV = some vs) : cs = vs := by
  cases fuel with
  | zero => simp [DataW.trod] at h
  | succ fuel =>
    simp only [DataW.trod, ht, hce, hct, Nat.mul_one] at h
    split at h
    · rename_i hl
      obtain ⟨xs, hm, hx⟩ := Option.map_eq_some_iff.1 h
      have hxs : xs.map (·.1) = ds := by
        have := congrArg Prod.fst hx
        simpa using this
      have hxl : xs.length = n := by simpa using Lib.mapM_length hm
      have hdl : ds.length = n := by rw [← hxs]; simpa using hxl
      have hvl : vs.length = n := by rw [← hdl]; exact Lib.mapM_length hv
      apply List.ext_getElem?
      intro i
      by_cases hi : i < n
      · obtain ⟨b, hb, hf⟩ := mapM_atW hm (i := i) (a := i) (by simp [hi])
        have h2 : ds[i]? = some b.1 := by rw [← hxs]; simp [hb]
        obtain ⟨v, hv1, hv2⟩ := mapM_atW hv h2
        have hc : (cs.drop i).take 1 = [cs[i]'(by omega)] := by rw [List.drop_eq_getElem_cons (by omega)]; rfl
        rw [hc] at hf
        rw [hv1, List.getElem?_eq_getElem (by omega), trod_lit he hf hv2]
      · rw [List.getElem?_eq_none (by omega), List.getElem?_eq_none (by omega)]
    · cases h
theorem abs1_plain {n : Nat} {v : Value} (h : plain v = true) : abs1 n v = v := by
  unfold plain at h
  split at h
  all_goals first | rfl | cases h
/-- A listed variable: its row. -/
theorem laid_row {laid : List (String × DataW Unit)} {name : String} {ds : List (DataW Unit)} {vs : List Value} {g : Nat} {t e : TypeId} {n : Nat} (h : laidMet P laid W) (hm : (name, .agg ds) ∈ laid) (hg : P.globalNamed name = some g)
    (hty : (P.globals[g]?).map (·.type) = some t) (ht : P.underlying t = some (.array n e)) (he : P.underlying e = some .string ∨ ∃ k, P.underlying e = some (.int k)) (hce : P.cellsOf e = 1) (hct : P.cellsOf t = n)
    (hv : ds.mapM litV = some vs) (hp : vs.all plain = true) : (absH W)[g]? = some (.row .ro vs) ∧ g < W.heap.size := by
  obtain ⟨ps, hl, _⟩ := h
  obtain ⟨g', t', cs, fuel, p, h1, h2, h3, h4⟩ := laid_at hl hm
  obtain rfl := Option.some.inj (hg.symm.trans h1)
  obtain rfl := Option.some.inj (hty.symm.trans h2)
  have hcs := cells_of_lits ht he hce hct h4 hv
  unfold World.var? at h3
  rw [hg, Option.bind_some] at h3
  rw [absH_get]
  split at h3
  · rename_i cs' t1 f1 hq
    cases h3
    rw [hq]
    refine ⟨?_, (Array.getElem?_eq_some_iff.1 hq).1⟩
    simp only [Option.map_some, absO, hcs]
    congr 2
    conv => rhs; rw [← List.map_id vs]
    exact List.map_congr_left fun v hv => abs1_plain (List.all_eq_true.1 hp v hv)
  · cases h3
/-- A listed variable that holds an error: that it does. -/
theorem laid_iface {laid : List (String × DataW Unit)} {name nm : String} {d : DataW Unit} {g : Nat} {t : TypeId} (h : laidMet P laid W) (hm : (name, .iface nm d) ∈ laid) (hg : P.globalNamed name = some g)
    (hty : (P.globals[g]?).map (·.type) = some t) (ht : ∃ x, P.underlying t = some (.interface x)) : (∃ te, (absH W)[g]? = some (.row .ro [.iface te undef])) ∧ g < W.heap.size := by
  obtain ⟨x, ht⟩ := ht
  obtain ⟨ps, hl, _⟩ := h
  obtain ⟨g', t', cs, fuel, p, h1, h2, h3, h4⟩ := laid_at hl hm
  obtain rfl := Option.some.inj (hg.symm.trans h1)
  obtain rfl := Option.some.inj (hty.symm.trans h2)
  have hcs : ∃ te v, cs.toList = [.iface te v] := by
    cases fuel with
    | zero => simp [DataW.trod] at h4
    | succ fuel =>
      match hq : cs.toList with
      | [] => rw [hq] at h4; simp [DataW.trod, ht] at h4
      | a :: b :: r => rw [hq] at h4; simp [DataW.trod, ht] at h4
      | [v] => rw [hq] at h4; cases v <;> first | exact ⟨_, _, rfl⟩ | simp [DataW.trod, ht] at h4
  obtain ⟨te, v, hcs⟩ := hcs
  unfold World.var? at h3
  rw [hg, Option.bind_some] at h3
  rw [absH_get]
  split at h3
  · rename_i cs' t1 f1 hq
    cases h3
    rw [hq]
    refine ⟨⟨te, ?_⟩, (Array.getElem?_eq_some_iff.1 hq).1⟩
    simp only [Option.map_some, absO, hcs]
    rfl
  · cases h3
end Go.Proofs.YtoiihalnbdehkaaDoor.B
