/-
  The destinations of floors over the abstract heap.
-/
import Derived.Test.YtpnpccnbpgckhabGreatKDz
import Derived.Test.YtpnpccnbpgckhabGreatIr16
import Derived.Test.YtpnpccnbpgckhabGreatArF
import Derived.Test.YtpnpccnbpgckhabGreatArK
namespace Go.Proofs.YtpnpccnbpgckhabGreat.B
open Go Go.RowKit Go.Maps Go.Sort Go.Shelf Go.Proofs Go.WideShapes
open Go.WideElems (Fit rd rg)
set_option linter.unusedVariables false
set_option linter.unusedSimpArgs false
abbrev keyV (e s m : Int) : Value := .agg #[.int .u32 e, .int .u32 s, .int .i64 m]
abbrev isKV (v : Value) : Prop := ∃ e s m, v = keyV e s m
/-- Floors: a struct that holds a map. -/
structure FloorsV (h : AHeap) (fp mb : Nat) (kc : List (Int × Value)) : Prop where
  f : Fx h fp [.map (some mb)]
  m : h[mb]? = some (.map true (encM kc))
  k : AllM isKV kc
theorem FloorsV.pre {h h' : AHeap} {fp mb : Nat} {kc : List (Int × Value)} (p : Pre h h') (k : FloorsV h fp mb kc) : FloorsV h' fp mb kc := ⟨k.f.pre p, by rw [p.get (List.getElem?_eq_some_iff.1 k.m).1]; exact k.m, k.k⟩
/-- The keys of floors, rising. -/
def keysS (kc : List (Int × Value)) : List Int := (kc.map (·.1)).mergeSort (fun x y => decide (x ≤ y))
theorem keysS_perm (kc : List (Int × Value)) : (keysS kc).Perm (kc.map (·.1)) := List.mergeSort_perm _ _
theorem keysS_sorted (kc : List (Int × Value)) : (keysS kc).Pairwise (· ≤ ·) :=
  (List.pairwise_mergeSort (le := fun x y : Int => decide (x ≤ y)) (fun a b c h1 h2 => by simp at *; omega) (fun a b => by simp; omega) _).imp fun h => by simpa using h
theorem sorted_eq {a b : List Int} (ha : a.Pairwise (· ≤ ·)) (hb : b.Pairwise (· ≤ ·)) (p : a.Perm b) : a = b :=
  p.eq_of_pairwise (fun x y _ _ h1 h2 => Int.le_antisymm h1 h2) ha hb
abbrev Rn0 : Value → Option (DataW Unit × List MemPlace) := fun _ => some (.nil, [])
theorem key3 {n : Int} (h0 : -9223372036854775808 ≤ n) (h1 : n < 9223372036854775808) : keyOf Tryz.prog 3 (.int .i64 n) = some (.int .i64 n) := by
  unfold keyOf
  rw [Tryz.underlying3]
  unfold mapKey
  rw [Tryz.underlying3]
  have : (Lit.int .i64 n).wf = true := by
    simp only [Lit.wf, Bool.and_eq_true, decide_eq_true_eq]
    have e0 : IntKind.i64.min = -9223372036854775808 := rfl
    have e1 : IntKind.i64.max = 9223372036854775807 := rfl
    omega
  simp [this]
def kI : Value → Int
  | .int _ n => n
  | _ => 0
theorem dests_core {h : AHeap} {fp mb : Nat} {kc : List (Int × Value)} (F : FloorsV h fp mb kc) (hn : (kc.map (·.1)).Nodup) (hl : kc.length ≤ 1000) (hr : ∀ x ∈ kc.map (·.1), 0 ≤ x ∧ x < 1000) (μ : Ren) (w : World) (args' : Array Value) (s : Sim nG μ h w) (vl : VL μ h [.pointer (some ⟨fp, 0, none⟩)] args'.toList) :
    Calls Tryz.prog fn.rank_Floors_Dests args' w fun e w' => ∃ (v : Value), e = .returned v ∧ w'.ownsRow w.heap.size 3 1 v kc.length ((keysS kc).map (Value.int .i64)) ∧ (v = .slice none 0 0 ↔ kc = []) ∧ RowKit.Below w.heap.size w w' := by
  obtain ⟨l1, l2⟩ := vl
  obtain ⟨y, hy⟩ : ∃ y, args'.toList = [y] := by
    match hq : args'.toList, l1 with
    | [y], _ => exact ⟨y, rfl⟩
  have ha : args' = #[y] := by apply Array.toList_inj.1; simpa using hy
  rw [hy] at l2
  have hv := l2 0 _ _ rfl rfl
  subst ha
  cases hv with
  | ptr _ hb =>
    rename_i x
    obtain ⟨cs, t, fz, k1, k2, k3, k4⟩ := s.obj fp x _ hb F.f
    obtain ⟨mv, m1, m2⟩ := k4 0 _ rfl
    cases m2 with
    | map hm =>
      rename_i y
      obtain ⟨fs, clock, g1, ⟨g2, g3⟩, g4⟩ := s.obj mb y _ hm F.m
      have hfl : fs.size = kc.length := by rw [g2]; simp [encM]
      have hkey : ∀ i (hi : i < kc.length), ∃ e, fs[i]? = some e ∧ e.key = .int .i64 (kc[i]).1 := fun i hi => by
        obtain ⟨e, e1, e2, _⟩ := g4 i (.int .i64 (kc[i]).1, (kc[i]).2) (by simp [encM, hi])
        refine ⟨e, e1, ?_⟩
        generalize e.key = k at e2
        cases e2; rfl
      have hkeys : fs.toList.map (·.key) = kc.map fun p => Value.int .i64 p.1 := by
        apply List.ext_getElem?
        intro i
        by_cases hi : i < kc.length
        · obtain ⟨e, e1, e2⟩ := hkey i hi
          simp [e1, e2, hi]
        · rw [List.getElem?_eq_none (by simp; omega), List.getElem?_eq_none (by simp; omega)]
      have hent : ∀ e ∈ fs.toList, ∃ n : Int, e.key = .int .i64 n ∧ n ∈ kc.map (·.1) := fun e he => by
        have : e.key ∈ fs.toList.map (·.key) := List.mem_map.2 ⟨e, he, rfl⟩
        rw [hkeys] at this
        obtain ⟨p, hp, e2⟩ := List.mem_map.1 this
        exact ⟨p.1, e2.symm, List.mem_map.2 ⟨p, hp, rfl⟩⟩
      have hrd : ∀ e ∈ fs.toList, ∀ n : Int, e.key = .int .i64 n → n ∈ kc.map (·.1) → rd Tryz.prog 3 Rn0 e = some (.int .i64 n, .nil) := fun e he n h1 h2 => by
        have := hr n h2
        unfold Go.WideElems.rd
        rw [h1, key3 (by omega) (by omega)]
        rfl
      have Ft : Fit Tryz.prog 3 Rn0 fs clock := by
        refine ⟨by rw [hfl]; unfold maxLen; omega, ⟨(g3 rfl).1, (g3 rfl).2, ?_⟩, fun e he => ?_⟩
        · rw [hkeys]
          have : kc.map (fun p => Value.int .i64 p.1) = (kc.map (·.1)).map (Value.int .i64) := by simp
          rw [this]
          exact List.Pairwise.map _ (fun a b hab q => hab (by injection q)) hn
        · obtain ⟨n, h1, h2⟩ := hent e he
          exact ⟨_, hrd e he n h1 h2⟩
      have hik : (intKeys (DataW.map ((fs.toList.map (rg Tryz.prog 3 Rn0)).foldr DataW.insert [])) : List Int).Perm (kc.map (·.1)) := by
        refine ((sorted_perm _).map _).trans ?_
        rw [List.map_map]
        have : fs.toList.map ((fun p : Lit × DataW Unit => Go.intOf p.1) ∘ rg Tryz.prog 3 Rn0) = kc.map (·.1) := by
          have e1 : fs.toList.map ((fun p : Lit × DataW Unit => Go.intOf p.1) ∘ rg Tryz.prog 3 Rn0) = (fs.toList.map (·.key)).map kI := by
            rw [List.map_map]
            refine List.map_congr_left fun e he => ?_
            obtain ⟨n, h1, h2⟩ := hent e he
            simp only [Function.comp_apply, rg, hrd e he n h1 h2, h1, kI, Option.getD_some, Go.intOf]
          rw [e1, hkeys, List.map_map]
          rfl
        exact List.Perm.of_eq this
      have hsz : Maps.size (DataW.map ((fs.toList.map (rg Tryz.prog 3 Rn0)).foldr DataW.insert [])) = kc.length := by
        show ((fs.toList.map (rg Tryz.prog 3 Rn0)).foldr DataW.insert []).length = _
        rw [(sorted_perm _).length_eq, List.length_map, Array.length_toList, hfl]
      have hc : w.cell? ⟨x.blk, x.off + 0, none⟩ = some (.map (some y.blk)) := by rw [cell_at k1]; exact m1
      refine (dests_world _ y.blk fs.size _ Rn0 w hc ⟨fs, clock, g1, Ft, Nat.le_refl _, rfl⟩ (by rw [hsz]; unfold maxLen; omega) (by rw [hsz]; omega)).mono ?_
      rintro e w' ⟨v, ss, rfl, hp, hrow, hnil, hb⟩
      have pk := hp.trans hik
      have hss : ss.length = kc.length := by rw [pk.length_eq, List.length_map]
      have hms : ss.mergeSort (fun x y => decide (x ≤ y)) = keysS kc := by
        refine sorted_eq ?_ (keysS_sorted kc) (((List.mergeSort_perm _ _).trans pk).trans (keysS_perm kc).symm)
        exact (List.pairwise_mergeSort (le := fun x y : Int => decide (x ≤ y)) (fun a b c h1 h2 => by simp at *; omega) (fun a b => by simp; omega) _).imp fun h => by simpa using h
      rw [hss, hms] at hrow
      refine ⟨v, rfl, hrow, ?_, hb⟩
      rw [hnil]
      constructor
      · rintro rfl; exact List.eq_nil_of_length_eq_zero (by simpa using hss.symm)
      · rintro rfl; exact List.eq_nil_of_length_eq_zero (by simpa using hss)
/-- Floors of nothing have no destinations. -/
theorem dests0 {h : AHeap} {fp mb : Nat} (F : FloorsV h fp mb []) : Spec Tryz.prog nG fn.rank_Floors_Dests [.pointer (some ⟨fp, 0, none⟩)] h nilS h := by
  intro μ w args' s vl
  refine (dests_core F List.nodup_nil (Nat.zero_le _) (fun x hx => by cases hx) μ w args' s vl).mono ?_
  rintro e w' ⟨v, rfl, _, hnil, hb⟩
  obtain rfl := hnil.2 rfl
  exact ⟨_, μ, rfl, .nilSlice, Step.of_below s hb⟩
end Go.Proofs.YtpnpccnbpgckhabGreat.B
