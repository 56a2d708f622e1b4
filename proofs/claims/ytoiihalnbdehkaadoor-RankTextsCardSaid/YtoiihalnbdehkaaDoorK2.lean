/-
  The program's reading of a number.
-/
import Derived.Test.YtoiihalnbdehkaaDoorKL
import Derived.Test.YtoiihalnbdehkaaDoorK1
namespace Go.Proofs.YtoiihalnbdehkaaDoor.B
open Go Go.RowKit
set_option linter.unusedVariables false
set_option linter.unusedSimpArgs false
set_option maxRecDepth 100000
structure ErrV (h : AHeap) : Prop where
  syn : ∃ m te, h[gv.strconv_ErrSyntax]? = some (.row m [.iface te undef])
  rng : ∃ m te, h[gv.strconv_ErrRange]? = some (.row m [.iface te undef])
theorem get_pre {h h' : AHeap} (p : Pre h h') {b : Nat} {o : AObj} (k : h[b]? = some o) : h'[b]? = some o := by rw [p.get (List.getElem?_eq_some_iff.1 k).1]; exact k
theorem ErrV.pre {h h' : AHeap} (p : Pre h h') (k : ErrV h) : ErrV h' := ⟨let ⟨m, te, q⟩ := k.syn; ⟨m, te, get_pre p q⟩, let ⟨m, te, q⟩ := k.rng; ⟨m, te, get_pre p q⟩⟩
theorem iface_cell {μ : Ren} {h : AHeap} {w : World} {g : Nat} {m : Mode} {te : TypeId} (s : Sim nG μ h w) (hg : g < nG) (k : h[g]? = some (.row m [.iface te undef])) : ∃ ev, w.cell? ⟨g, 0, none⟩ = some ev ∧ (ev = .nilIface ∨ ∃ te pe, ev = .iface te pe) := by
  obtain ⟨n, hn⟩ := s.glob g hg
  obtain ⟨cs, t, fz, k1, k2, k3, k4⟩ := s.obj g _ _ hn k
  obtain ⟨z, z1, z2⟩ := k4 0 _ rfl
  cases z2
  exact ⟨_, by rw [cell_at k1]; exact z1, .inr ⟨_, _, rfl⟩⟩
theorem vr_pair {μ : Ren} {h : AHeap} {a b a' b' : Value} (h1 : VR μ h a a') (h2 : VR μ h b b') : VR μ h (.tuple #[a, b]) (.tuple #[a', b']) := by
  refine VR.tuple rfl fun i => ?_
  match i with
  | 0 => exact h1
  | 1 => exact h2
  | n + 2 => exact .any _
theorem bytesWorld_below (w : World) (e : TypeId) (s : ByteArray) : Below w.heap.size w (Lib.bytesWorld w e s) := ⟨rfl, rfl, rfl, by rw [Lib.bytesWorld_size]; omega, fun j hj => Lib.bytesWorld_at_old w e s j hj⟩
theorem parseUint_spec {h : AHeap} (k : ErrV h) {t : ByteArray} (hm : t.size ≤ 140737488351232) :
    ∃ (n : Nat) (err : Value), Spec Tryd.prog nG fn.strconv_ParseUint [.string t, .int .i64 10, .int .i64 32] h (.tuple #[.int .u64 (n : Int), err]) h ∧ ((err = .nilIface ∧ Lib.parseUintB 32 t.data.toList = .ok n) ∨ ((∃ te, err = .iface te undef) ∧ ∀ u, Lib.parseUintB 32 t.data.toList ≠ .ok u)) := by
  have plainA : ∀ {μ : Ren} {args' : Array Value}, VL μ h [.string t, .int .i64 10, .int .i64 32] args'.toList → args' = #[.string t, .int .i64 10, .int .i64 32] := fun l => by
    apply Array.toList_inj.1
    exact l.plain_inv rfl
  cases hp : Lib.parseUintB 32 t.data.toList with
  | ok u =>
    refine ⟨u, .nilIface, fun μ w args' s l => ?_, .inl ⟨rfl, rfl⟩⟩
    rw [plainA l]
    refine (Any.strconv_ParseUint_10_at32_ok Tryd.laysPu14 t (by omega) u hp w).mono fun e w' ⟨he, hw⟩ => ⟨_, μ, he, vr_pair (.int _ _) .nilIface, Step.of_below s ?_⟩
    rcases hw with rfl | rfl
    · exact Below.refl _ _
    · exact bytesWorld_below _ _ _
  | «syntax» =>
    refine ⟨0, .iface (Tryd.laysPu14_ren.t 39) undef, fun μ w args' s l => ?_, .inr ⟨⟨_, rfl⟩, fun u q => by cases q⟩⟩
    rw [plainA l]
    obtain ⟨m, te, q⟩ := k.syn
    obtain ⟨ev, hv, hev⟩ := iface_cell s (by decide) q
    exact (Any.strconv_ParseUint_10_at32_syntax Tryd.laysPu14 t (by omega) hp ev w hv hev).mono fun e w' ⟨N, he, _, _, hw⟩ => ⟨_, μ, he, vr_pair (.int _ _) (.iface _ (.any _)), Step.of_below s hw⟩
  | range =>
    refine ⟨4294967295, .iface (Tryd.laysPu14_ren.t 39) undef, fun μ w args' s l => ?_, .inr ⟨⟨_, rfl⟩, fun u q => by cases q⟩⟩
    rw [plainA l]
    obtain ⟨m, te, q⟩ := k.rng
    obtain ⟨ev, hv, hev⟩ := iface_cell s (by decide) q
    exact (Any.strconv_ParseUint_10_at32_range Tryd.laysPu14 t (by omega) hp ev w hv hev).mono fun e w' ⟨N, he, _, _, hw⟩ => ⟨_, μ, he, vr_pair (.int _ _) (.iface _ (.any _)), Step.of_below s hw⟩
open Classical in
theorem part_spec {h : AHeap} (k : ErrV h) (hg : PowV h) {t : ByteArray} (hm : t.size ≤ 140737488351232) :
    ∃ (n : Nat) (ok : Bool), Spec Tryd.prog nG fn.rank_part [.string t] h (.tuple #[.int .u64 (n : Int), .bool ok]) h ∧ numL 4294967295 t.data.toList = if ok then some n else none := by
  obtain ⟨n, err, hs, hq⟩ := parseUint_spec k hm
  have hno : (∀ u, ¬ (Lib.parseUintB 32 t.data.toList = .ok u ∧ decL u = t.data.toList)) → numL 4294967295 t.data.toList = none := fun h => by
    unfold numL
    exact if_neg fun ⟨q1, q2⟩ => h _ ((part_iff _ _).2 ⟨q1, rfl, q2⟩)
  rcases hq with ⟨rfl, hp⟩ | ⟨⟨te, rfl⟩, hp⟩
  · have hn : n < 18446744073709551616 := by
      unfold Lib.parseUintB at hp
      split at hp
      · cases hp
      · rename_i hne
        obtain ⟨_, _, h3⟩ := parseM_ok _ _ _ _ hp
        have hM : 2 ^ 32 - 1 = 4294967295 := rfl
        exact h3.elim (fun q => absurd q hne) (fun q => by omega)
    refine ⟨n, ((decS n).toList == t.toList), ?_, ?_⟩
    · apply ir.rank_part.spec (Nat.le_of_ble_eq_true rfl)
      simp (dsimp := false) only [↓ir.rank_part.bw, ir.rank_part.rs, go_sem, Nat.reduceAdd, Nat.reduceEqDiff, Nat.reduceMul, Nat.reduceLeDiff, Nat.reduceSub, Nat.reduceLT, ↓reduceIte, reduceCtorEq, List.reduceReplicate, List.flatten_cons, List.flatten_nil, List.append_nil, eq_self, Int.reduceLE, Int.reduceLT, Int.reduceToNat, Nat.min_eq_left, Int.reducePow, Int.reduceNeg, Int.reduceEq]
      refine callV_of hs ?_
      simp (dsimp := false) only [go_sem, Nat.reduceAdd, Nat.reduceEqDiff, Nat.reduceMul, Nat.reduceLeDiff, Nat.reduceSub, Nat.reduceLT, ↓reduceIte, reduceCtorEq, List.reduceReplicate, List.flatten_cons, List.flatten_nil, List.append_nil, eq_self, Int.reduceLE, Int.reduceLT, Int.reduceToNat, Nat.min_eq_left, Int.reducePow, Int.reduceNeg, Int.reduceEq]
      refine callV_of (formatUint_spec hg hn) ?_
      simp (dsimp := false) only [go_sem, Nat.reduceAdd, Nat.reduceEqDiff, Nat.reduceMul, Nat.reduceLeDiff, Nat.reduceSub, Nat.reduceLT, ↓reduceIte, reduceCtorEq, List.reduceReplicate, List.flatten_cons, List.flatten_nil, List.append_nil, eq_self, Int.reduceLE, Int.reduceLT, Int.reduceToNat, Nat.min_eq_left, Int.reducePow, Int.reduceNeg, Int.reduceEq]
      exact .inl ⟨rfl, rfl⟩
    · rw [ByteArray.toList_eq, ByteArray.toList_eq]
      by_cases e : decL n = t.data.toList
      · obtain ⟨q1, q2, q3⟩ := (part_iff _ _).1 ⟨hp, e⟩
        rw [if_pos (by simpa using e), ← e, numL_dec q3]
      · rw [if_neg (by simpa using e)]
        exact hno fun u q => by
          rw [hp] at q
          obtain rfl : n = u := by simpa using q.1
          exact e q.2
  · refine ⟨n, false, ?_, by rw [hno fun u q => hp u q.1]; rfl⟩
    apply ir.rank_part.spec (Nat.le_of_ble_eq_true rfl)
    simp (dsimp := false) only [↓ir.rank_part.bw, ir.rank_part.rs, go_sem, Nat.reduceAdd, Nat.reduceEqDiff, Nat.reduceMul, Nat.reduceLeDiff, Nat.reduceSub, Nat.reduceLT, ↓reduceIte, reduceCtorEq, List.reduceReplicate, List.flatten_cons, List.flatten_nil, List.append_nil, eq_self, Int.reduceLE, Int.reduceLT, Int.reduceToNat, Nat.min_eq_left, Int.reducePow, Int.reduceNeg, Int.reduceEq]
    refine callV_of hs ?_
    simp (dsimp := false) only [go_sem, Nat.reduceAdd, Nat.reduceEqDiff, Nat.reduceMul, Nat.reduceLeDiff, Nat.reduceSub, Nat.reduceLT, ↓reduceIte, reduceCtorEq, List.reduceReplicate, List.flatten_cons, List.flatten_nil, List.append_nil, eq_self, Int.reduceLE, Int.reduceLT, Int.reduceToNat, Nat.min_eq_left, Int.reducePow, Int.reduceNeg, Int.reduceEq]
    exact .inl ⟨rfl, rfl⟩
end Go.Proofs.YtoiihalnbdehkaaDoor.B
