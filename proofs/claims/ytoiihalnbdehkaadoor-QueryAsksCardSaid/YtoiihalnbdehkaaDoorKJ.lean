/-
  DERIVED: THE SHELF's CONTRACTS AT THIS DUMP, IN PLAIN WORDS (tools/lay-plain.mjs out of 'YtoiihalnbdehkaaDoorKJ0.lean', which tools/lay-shelf.mjs wrote): THE SAME DECLARATIONS UNDER THE SAME NAMES: 'import', 'namespace', 'open', 'def', 'theorem' AND NOTHING ELSE: no command of the shelf's: FOR A HAND-IN. Each laying: the table of numbers ('.._ren') and one theorem, a field a fact of the dump's own or the kernel's comparison; each contract: ONE APPLICATION.
-/
import Derived.Shelf.Strings.Builder1
import Derived.Shelf.Strings.Builder2
import Derived.Shelf.Strings.OnBuilder
import Derived.Shelf.LaysM
import Derived.Test.YtoiihalnbdehkaaDoorProg
import Derived.Test.YtoiihalnbdehkaaDoorQk
namespace Go.Proofs
open Go.Shelf
def Tryd.lays156_ren : Go.Shelf.Ren := ⟨fun | 156 => 89 | 165 => 110 | 166 => 76 | 169 => 77 | 240 => 105 | 241 => 128 | 276 => 126 | 277 => 150 | n => n, fun | 31 => 80 | 9 => 9 | 3 => 3 | 4 => 4 | 0 => 0 | 20 => 20 | 72 => 155 | 76 => 158 | 70 => 153 | 37 => 110 | 75 => 157 | 127 => 195 | 164 => 212 | 5 => 5 | 80 => 160 | n => n, fun | n => n⟩
theorem Tryd.lays156 : Go.Proofs.Lays.n156 Tryd.prog Tryd.lays156_ren := {
  mixed := by kernel_rfl
  f156 := Tryd.func89.trans (congrArg some (by kernel_rfl))
  f165 := Tryd.func110.trans (congrArg some (by kernel_rfl))
  f166 := Tryd.func76.trans (congrArg some (by kernel_rfl))
  f169 := Tryd.func77.trans (congrArg some (by kernel_rfl))
  f240 := Tryd.func105.trans (congrArg some (by kernel_rfl))
  f241 := Tryd.func128.trans (congrArg some (by kernel_rfl))
  f276 := Tryd.func126.trans (congrArg some (by kernel_rfl))
  f277 := Tryd.func150.trans (congrArg some (by kernel_rfl))
  t0 := Tryd.underlying0
  a0 := Tryd.isAgg0
  z0 := Tryd.sizeOf0
  v0 := Tryd.zeroValue0
  t3 := Tryd.underlying3
  a3 := Tryd.isAgg3
  z3 := Tryd.sizeOf3
  v3 := Tryd.zeroValue3
  t4 := Tryd.underlying4
  a4 := Tryd.isAgg4
  z4 := Tryd.sizeOf4
  v4 := Tryd.zeroValue4
  t9 := Tryd.underlying9
  a9 := Tryd.isAgg9
  z9 := Tryd.sizeOf9
  v9 := Tryd.zeroValue9
  t20 := Tryd.underlying20
  a20 := Tryd.isAgg20
  z20 := Tryd.sizeOf20
  v20 := Tryd.zeroValue20
  t31 := Tryd.underlying80
  a31 := Tryd.isAgg80
  z31 := Tryd.sizeOf80
  v31 := Tryd.zeroValue80
  t37 := Tryd.underlying110
  a37 := Tryd.isAgg110
  z37 := Tryd.sizeOf110
  v37 := Tryd.zeroValue110
  t70 := Tryd.underlying153
  a70 := Tryd.isAgg153
  z70 := Tryd.sizeOf153
  v70 := Tryd.zeroValue153
  t72 := Tryd.underlying155
  a72 := Tryd.isAgg155
  z72 := Tryd.sizeOf155
  v72 := Tryd.zeroValue155
  t75 := Tryd.underlying157
  a75 := Tryd.isAgg157
  z75 := Tryd.sizeOf157
  v75 := Tryd.zeroValue157
  t76 := Tryd.underlying158
  a76 := Tryd.isAgg158
  z76 := Tryd.sizeOf158
  v76 := Tryd.zeroValue158
  t127 := Tryd.underlying195
  a127 := Tryd.isAgg195
  z127 := Tryd.sizeOf195
  v127 := Tryd.zeroValue195
  t164 := Tryd.underlying212
  a164 := Tryd.isAgg212
  z164 := Tryd.sizeOf212
  v164 := Tryd.zeroValue212 }
theorem Tryd.Builder_Extra_156 : Builder.Extra Tryd.prog Tryd.lays156_ren := {
  sizeBuilder := by kernel_rfl
  liesBuilder := by kernel_rfl
  t5 := Tryd.underlying5
  a5 := Tryd.isAgg5
  z5 := Tryd.sizeOf5
  v5 := Tryd.zeroValue5
  infoByte := by kernel_rfl
  cellsByte := by kernel_rfl
  sizeByte := by kernel_rfl
  neB5 := by decide }
end Go.Proofs
/-
  strings.Join over the abstract heap (the kit's contract, bridged).
-/
namespace Go.Proofs.YtoiihalnbdehkaaDoor.B
open Go Go.RowKit
set_option linter.unusedVariables false
set_option linter.unusedSimpArgs false
variable {G : Nat}
def strR (c : List Value) (s : ByteArray) : Prop := c = [.string s]
def joinS (l : List ByteArray) (sep : ByteArray) : ByteArray := ⟨(Lib.join (l.map (·.data.toList)) sep.data.toList).toArray⟩
theorem args_one {μ : Ren} {h : AHeap} {a : Value} {args' : Array Value} (vl : VL μ h [a] args'.toList) : ∃ x, args' = #[x] ∧ VR μ h a x := by
  obtain ⟨l1, l2⟩ := vl
  obtain ⟨x, he⟩ : ∃ x, args'.toList = [x] := by
    match hq : args'.toList, l1 with
    | [x], _ => exact ⟨x, rfl⟩
  have ha : args' = #[x] := by apply Array.toList_inj.1; simpa using he
  rw [he] at l2
  exact ⟨x, ha, l2 0 _ _ rfl rfl⟩
theorem join_spec {h : AHeap} {v : Value} {l : List ByteArray} {sep : ByteArray} (k : Ls h 1 strR v l) (hn : l.length ≤ 140737488355328) (hs : (joinS l sep).size ≤ 140737488355328) : Spec Tryd.prog G fn.strings_Join [v, .string sep] h (.string (joinS l sep)) h := by
  obtain ⟨cs, a, b⟩ := k
  intro μ w args' s vl
  obtain ⟨v', u', rfl, h1, h2⟩ := args_two vl
  cases h2
  have hnil : ∀ (ad : Option Addr) (c : Nat), l = [] → v' = .slice ad 0 c → Calls Tryd.prog fn.strings_Join #[v', .string sep] w fun e w' => ∃ v' μ', e = .returned v' ∧ VR μ' h (.string (joinS l sep)) v' ∧ Step G μ h w μ' h w' := fun ad c hl he => by
    subst hl he
    refine (Any.strings_Join_none Tryd.lays156 Tryd.Builder_Extra_156 ad c sep w).mono fun e w' ⟨he, hw⟩ => ⟨_, μ, he, VR.string _, ?_⟩
    subst hw
    exact Step.of_below s (Below.refl _ _)
  have hl0 : ∀ {n}, n = l.length → n = 0 → l = [] := fun e z => List.eq_nil_of_length_eq_zero (by omega)
  obtain ⟨n, hln⟩ : ∃ n, n = l.length := ⟨_, rfl⟩
  rw [← hln] at a
  cases a with
  | nil => cases h1; exact hnil _ _ (hl0 hln rfl) rfl
  | void => cases h1 <;> exact hnil _ _ (hl0 hln rfl) rfl
  | row hl hr hc hb ho hm =>
    rename_i bk off cap
    cases h1 with
    | empty => exact hnil _ _ (hl0 hln rfl) rfl
    | slice _ _ _ cap' hb' hc' =>
      rename_i x
      by_cases hz : n = 0
      · subst hz; exact hnil _ _ (hl0 hln rfl) rfl
      have hr' := hr hz
      unfold rds at hr'
      split at hr'
      · rename_i m cells hrow
        split at hr'
        · rename_i hle
          cases hr'
          have ob := s.obj bk x _ hb' hrow
          have hbk := ob.bound (by simp)
          obtain ⟨cs', t, fz, k1, k2, k3, k4⟩ := ob
          have hcap : n ≤ cap' := by
            unfold capOK at hc'
            rw [hrow] at hc'
            split at hc' <;> first | omega | (subst hc'; exact hc) | skip
          have hcells : ∀ (j : Nat) y, l[j]? = some y → w.cell? ⟨x.blk, x.off + off + j, none⟩ = some (.string y) := fun j y hj => by
            obtain ⟨hj1, hj2⟩ := List.getElem?_eq_some_iff.1 hj
            have q := b j hj1
            rw [hj2] at q
            have q2 : cells[off + j]? = some (.string y) := by
              have : (((cells.drop off).take (n * 1)).drop (j * 1)).take 1 = [.string y] := q
              have q3 : ((((cells.drop off).take (n * 1)).drop (j * 1)).take 1)[0]? = some (.string y) := by rw [this]; rfl
              rw [List.getElem?_take_of_lt (by omega), List.getElem?_drop, List.getElem?_take_of_lt (by omega), List.getElem?_drop] at q3
              simpa using q3
            obtain ⟨z, z1, z2⟩ := k4 _ _ q2
            cases z2
            rw [cell_at k1, ← z1]; congr 1; omega
          subst hln
          refine (Any.strings_Join Tryd.lays156 Tryd.Builder_Extra_156 x.blk (x.off + off) cap' l sep w hcells hbk hn hcap (by simpa [joinS, ByteArray.size] using hs)).mono fun e w' ⟨he, hw⟩ => ⟨_, μ, he, VR.string _, Step.of_below s hw⟩
        · cases hr'
      · cases hr'
end Go.Proofs.YtoiihalnbdehkaaDoor.B
