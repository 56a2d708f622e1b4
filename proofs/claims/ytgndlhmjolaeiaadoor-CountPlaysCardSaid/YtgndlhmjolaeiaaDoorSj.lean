/-
  strings.Join over the abstract heap (the kit's contract, bridged); atomic counters.
-/
import Derived.Test.YtgndlhmjolaeiaaDoorSjL
import Derived.Test.YtgndlhmjolaeiaaDoorSr
import Derived.Conc.AtomicLaws2
namespace Go.Proofs.YtgndlhmjolaeiaaDoor.B
open Go Go.RowKit
set_option linter.unusedVariables false
set_option linter.unusedSimpArgs false
variable {G : Nat}
def strR (c : List Value) (s : ByteArray) : Prop := c = [.string s]
def joinS (l : List ByteArray) (sep : ByteArray) : ByteArray := ⟨(Lib.join (l.map (·.data.toList)) sep.data.toList).toArray⟩
theorem args_two {μ : Ren} {h : AHeap} {a b : Value} {args' : Array Value} (vl : VL μ h [a, b] args'.toList) : ∃ x y, args' = #[x, y] ∧ VR μ h a x ∧ VR μ h b y := by
  obtain ⟨l1, l2⟩ := vl
  obtain ⟨x, y, he⟩ : ∃ x y, args'.toList = [x, y] := by
    match hq : args'.toList, l1 with
    | [x, y], _ => exact ⟨x, y, rfl⟩
  have ha : args' = #[x, y] := by apply Array.toList_inj.1; simpa using he
  rw [he] at l2
  exact ⟨x, y, ha, l2 0 _ _ rfl rfl, l2 1 _ _ rfl rfl⟩
theorem args_one {μ : Ren} {h : AHeap} {a : Value} {args' : Array Value} (vl : VL μ h [a] args'.toList) : ∃ x, args' = #[x] ∧ VR μ h a x := by
  obtain ⟨l1, l2⟩ := vl
  obtain ⟨x, he⟩ : ∃ x, args'.toList = [x] := by
    match hq : args'.toList, l1 with
    | [x], _ => exact ⟨x, rfl⟩
  have ha : args' = #[x] := by apply Array.toList_inj.1; simpa using he
  rw [he] at l2
  exact ⟨x, ha, l2 0 _ _ rfl rfl⟩
theorem join_spec {h : AHeap} {v : Value} {l : List ByteArray} {sep : ByteArray} (k : Ls h 1 strR v l) (hn : l.length ≤ 140737488355328) (hs : (joinS l sep).size ≤ 140737488355328) : Spec Tryd.prog G fn.strings_Join [v, .string sep] h (.string (joinS l sep)) h := by
  obtain ⟨cs, a, b⟩ := k
  intro μ w args' s vl
  obtain ⟨v', u', rfl, h1, h2⟩ := args_two vl
  cases h2
  have hnil : ∀ (ad : Option Addr) (c : Nat), l = [] → v' = .slice ad 0 c → Calls Tryd.prog fn.strings_Join #[v', .string sep] w fun e w' => ∃ v' μ', e = .returned v' ∧ VR μ' h (.string (joinS l sep)) v' ∧ Step G μ h w μ' h w' := fun ad c hl he => by
    subst hl he
    refine (Any.strings_Join_none Tryd.lays156 Tryd.Builder_Extra_156 ad c sep w).mono fun e w' ⟨he, hw⟩ => ⟨_, μ, he, VR.string _, ?_⟩
    subst hw
    exact Step.of_below s (Below.refl _ _)
  have hl0 : ∀ {n}, n = l.length → n = 0 → l = [] := fun e z => List.eq_nil_of_length_eq_zero (by omega)
  obtain ⟨n, hln⟩ : ∃ n, n = l.length := ⟨_, rfl⟩
  rw [← hln] at a
  cases a with
  | nil => cases h1; exact hnil _ _ (hl0 hln rfl) rfl
  | void => cases h1 <;> exact hnil _ _ (hl0 hln rfl) rfl
  | row hl hr hc hb ho hm =>
    rename_i bk off cap
    cases h1 with
    | empty => exact hnil _ _ (hl0 hln rfl) rfl
    | slice _ _ _ cap' hb' hc' =>
      rename_i x
      by_cases hz : n = 0
      · subst hz; exact hnil _ _ (hl0 hln rfl) rfl
      have hr' := hr hz
      unfold rds at hr'
      split at hr'
      · rename_i m cells hrow
        split at hr'
        · rename_i hle
          cases hr'
          have ob := s.obj bk x _ hb' hrow
          have hbk := ob.bound (by simp)
          obtain ⟨cs', t, fz, k1, k2, k3, k4⟩ := ob
          have hcap : n ≤ cap' := by
            unfold capOK at hc'
            rw [hrow] at hc'
            split at hc' <;> first | omega | (subst hc'; exact hc) | skip
          have hcells : ∀ (j : Nat) y, l[j]? = some y → w.cell? ⟨x.blk, x.off + off + j, none⟩ = some (.string y) := fun j y hj => by
            obtain ⟨hj1, hj2⟩ := List.getElem?_eq_some_iff.1 hj
            have q := b j hj1
            rw [hj2] at q
            have q2 : cells[off + j]? = some (.string y) := by
              have : (((cells.drop off).take (n * 1)).drop (j * 1)).take 1 = [.string y] := q
              have q3 : ((((cells.drop off).take (n * 1)).drop (j * 1)).take 1)[0]? = some (.string y) := by rw [this]; rfl
              rw [List.getElem?_take_of_lt (by omega), List.getElem?_drop, List.getElem?_take_of_lt (by omega), List.getElem?_drop] at q3
              simpa using q3
            obtain ⟨z, z1, z2⟩ := k4 _ _ q2
            cases z2
            rw [cell_at k1, ← z1]; congr 1; omega
          subst hln
          refine (Any.strings_Join Tryd.lays156 Tryd.Builder_Extra_156 x.blk (x.off + off) cap' l sep w hcells hbk hn hcap (by simpa [joinS, ByteArray.size] using hs)).mono fun e w' ⟨he, hw⟩ => ⟨_, μ, he, VR.string _, Step.of_below s hw⟩
        · cases hr'
      · cases hr'
end Go.Proofs.YtgndlhmjolaeiaaDoor.B
