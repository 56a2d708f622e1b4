/-
  Layer 32 (packet) over the abstract heap: networks as the program's; all packets.
-/
import Derived.Test.YtmeojocmngbpaaaDoorP3
namespace Go.Proofs.YtmeojocmngbpaaaDoor.B
open Go Go.IntWalk
set_option linter.unusedVariables false
set_option linter.unusedSimpArgs false

theorem to_spec {h : AHeap} {tv hv uv kv : Value} {N : Net} (k : NetV h tv hv uv kv N) (hT : N.T.length ≤ 10) (hF : ∀ t ∈ N.T, Fits t) : SpecX Tryd.prog nG fn.law32_to [.agg ⟨[tv, hv, uv, kv]⟩] h fun v' h' =>
    Pre h h' ∧ ∃ tv', v' = .agg ⟨[tv', hv, uv, kv]⟩ ∧ NetV h' tv' hv uv kv N := by
  refine SpecX.of_body (ir.law32_to.spec (Nat.le_of_ble_eq_true rfl)) ?_
  have o1 := k.H.oneA
  have o2 := k.U.oneA
  have o3 := k.K.oneA
  have l1 := k.H.cellsA
  have l2 := k.U.cellsA
  have l3 := k.K.cellsA
  simp (dsimp := false) only [↓ir.law32_to.bw, ir.law32_to.rs, ↓ir.law32_to.r0.w, ↓ir.law32_to.r1.w, ↓ir.law32_to.r2.w, ↓ir.law32_to.r3.w, ↓ir.law32_to.r4.w, ↓ir.law32_to.r5.w, ↓ir.law32_to.r6.w, ↓ir.law32_to.l1.w, ↓ir.law32_to.r7.w, ir.law32_to.rs, go_sem, Nat.reduceAdd, Nat.reduceEqDiff, Nat.reduceMul, Nat.reduceLeDiff, Nat.reduceSub, Nat.reduceLT, ↓reduceIte, reduceCtorEq, List.reduceReplicate, List.flatten_cons, List.flatten_nil, List.append_nil, eq_self, Int.reduceLE, Int.reduceLT, Int.reduceToNat, Nat.min_eq_left, Int.reducePow, Int.reduceNeg, Int.reduceEq, k.T.lenV, o1, o2, o3, l1, l2, l3]
  obtain ⟨X, hX⟩ : ∃ X, h.length + 1 = X := ⟨_, rfl⟩
  obtain ⟨B, hB⟩ : ∃ B, h.length + 2 = B := ⟨_, rfl⟩
  have hx1 : Fx (h ++ [.row .fix [tv, hv, uv, kv], .row .fix [nilS, nilS, nilS, nilS], .row .fix [nilS, hv, uv, kv]]) X [nilS, nilS, nilS, nilS] := by subst hX; simp [Fx]
  have hx2 : Fx (h ++ [.row .fix [tv, hv, uv, kv], .row .fix [nilS, nilS, nilS, nilS], .row .fix [nilS, hv, uv, kv]]) B [nilS, hv, uv, kv] := by subst hB; simp [Fx]
  rw [hX, hB]
  refine loopV_of (fun m e h2 => ∃ (i : Nat) (u : Value), m = N.T.length - i ∧ i ≤ N.T.length ∧ Pre h h2 ∧ Fx h2 X [nilS, nilS, nilS, nilS] ∧ Fx h2 B [u, hv, uv, kv] ∧ OwN h h2 3 isH u (N.T.take i) ∧
    e = [(2, .pointer (some ⟨X, 0, none⟩)), (3, .pointer (some ⟨B, 0, none⟩)), (14, tv), (15, .int .i64 N.T.length), (16, .int .i64 i)]) _ ⟨0, nilS, rfl, Nat.zero_le _, .app _ _, hx1, hx2, .nil, rfl⟩ ?_
  clear hx1 hx2
  rintro m e h2 ⟨i, u, rfl, hi, hp, hx1, hx2, ho, rfl⟩
  rcases Nat.lt_or_ge i N.T.length with hlt | hge
  case inr =>
    rw [List.take_of_length_le hge] at ho
    have o0 := ho.ls.oneA
    have r0 := hx2.rd (off := 0) (n := 4) (vs := [u, hv, uv, kv]) rfl (Nat.le_of_ble_eq_true rfl)
    have w0 : wrs h2 X 0 [u, hv, uv, kv] = some (h2.set X (.row .fix [u, hv, uv, kv])) := hx1.wr (vs := [u, hv, uv, kv]) (Nat.le_of_ble_eq_true rfl)
    have r1 := (hx1.set [u, hv, uv, kv]).rd (off := 0) (n := 4) (vs := [u, hv, uv, kv]) rfl (Nat.le_of_ble_eq_true rfl)
    simp (dsimp := false) only [↓ir.law32_to.l1.bw, ↓ir.law32_to.r0.w, ↓ir.law32_to.r1.w, ↓ir.law32_to.r2.w, ↓ir.law32_to.r3.w, ↓ir.law32_to.r4.w, ↓ir.law32_to.r5.w, ↓ir.law32_to.r6.w, ↓ir.law32_to.l1.w, ↓ir.law32_to.r7.w, ir.law32_to.rs, go_sem, Nat.reduceAdd, Nat.reduceEqDiff, Nat.reduceMul, Nat.reduceLeDiff, Nat.reduceSub, Nat.reduceLT, ↓reduceIte, reduceCtorEq, List.reduceReplicate, List.flatten_cons, List.flatten_nil, List.append_nil, eq_self, Int.reduceLE, Int.reduceLT, Int.reduceToNat, Nat.min_eq_left, Int.reducePow, Int.reduceNeg, Int.reduceEq, Int.ofNat_lt, show ¬ i < N.T.length by omega, decide_false, r0, o0, o1, o2, o3, w0, r1]
    have hpp := hp.put (b := X) (by omega) (.row .fix [u, hv, uv, kv])
    exact ⟨hpp, u, rfl, (ho.put hx1 _).ls, k.H.pre hpp, k.U.pre hpp, k.K.isRpre hpp⟩
  obtain ⟨_, _, ⟨w, t, hw⟩, r0, r1⟩ := k.T.rd2 hp hlt
  subst t
  simp (dsimp := false) only [↓ir.law32_to.l1.bw, ↓ir.law32_to.r0.w, ↓ir.law32_to.r1.w, ↓ir.law32_to.r2.w, ↓ir.law32_to.r3.w, ↓ir.law32_to.r4.w, ↓ir.law32_to.r5.w, ↓ir.law32_to.r6.w, ↓ir.law32_to.l1.w, ↓ir.law32_to.r7.w, ir.law32_to.rs, go_sem, Nat.reduceAdd, Nat.reduceEqDiff, Nat.reduceMul, Nat.reduceLeDiff, Nat.reduceSub, Nat.reduceLT, ↓reduceIte, reduceCtorEq, List.reduceReplicate, List.flatten_cons, List.flatten_nil, List.append_nil, eq_self, Int.reduceLE, Int.reduceLT, Int.reduceToNat, Nat.min_eq_left, Int.reducePow, Int.reduceNeg, Int.reduceEq, Int.ofNat_lt, hlt, decide_true, k.T.ixsN hlt, r0, hx2.rd (off := 0) (n := 1) (vs := [u]) rfl (Nat.le_of_ble_eq_true rfl)]
  refine callV_x (tohops_spec (hw.pre hp) (hF _ (List.getElem_mem hlt))) ?_
  rintro x h4 ⟨hp4, ox⟩
  refine ⟨hp4, ?_⟩
  simp (dsimp := false) only [↓ir.law32_to.r0.w, ↓ir.law32_to.r1.w, ↓ir.law32_to.r2.w, ↓ir.law32_to.r3.w, ↓ir.law32_to.r4.w, ↓ir.law32_to.r5.w, ↓ir.law32_to.r6.w, ↓ir.law32_to.l1.w, ↓ir.law32_to.r7.w, ir.law32_to.rs, go_sem, Nat.reduceAdd, Nat.reduceEqDiff, Nat.reduceMul, Nat.reduceLeDiff, Nat.reduceSub, Nat.reduceLT, ↓reduceIte, reduceCtorEq, List.reduceReplicate, List.flatten_cons, List.flatten_nil, List.append_nil, eq_self, Int.reduceLE, Int.reduceLT, Int.reduceToNat, Nat.min_eq_left, Int.reducePow, Int.reduceNeg, Int.reduceEq, ox.hops.cellsA]
  refine ho.snoc hp (hp4.app' _) (ox.pre (.app _ _)) (Nat.le_refl _) (ox.hops.pre (.app _ _)) ⟨by simp; omega, by simp; omega⟩ (fun u' h' ho' hp' hchg => ?_)
  have hx1' := ((hx1.pre hp4).app _).chg hchg (ho.nfix hx1)
  have hx2' := ((hx2.pre hp4).app _).chg hchg (ho.nfix hx2)
  have c0 := ho'.ls.cellsA
  have o0 := ho'.ls.oneA
  have w0 : wrs h' B 0 [u'] = some (h'.set B (.row .fix [u', hv, uv, kv])) := hx2'.wr (vs := [u']) (Nat.le_of_ble_eq_true rfl)
  simp (dsimp := false) only [↓ir.law32_to.r0.w, ↓ir.law32_to.r1.w, ↓ir.law32_to.r2.w, ↓ir.law32_to.r3.w, ↓ir.law32_to.r4.w, ↓ir.law32_to.r5.w, ↓ir.law32_to.r6.w, ↓ir.law32_to.l1.w, ↓ir.law32_to.r7.w, ir.law32_to.rs, go_sem, Nat.reduceAdd, Nat.reduceEqDiff, Nat.reduceMul, Nat.reduceLeDiff, Nat.reduceSub, Nat.reduceLT, ↓reduceIte, reduceCtorEq, List.reduceReplicate, List.flatten_cons, List.flatten_nil, List.append_nil, eq_self, Int.reduceLE, Int.reduceLT, Int.reduceToNat, Nat.min_eq_left, Int.reducePow, Int.reduceNeg, Int.reduceEq, c0, o0, w0, wrap_succ hlt k.T.le]
  refine ⟨N.T.length - (i + 1), by omega, i + 1, u', rfl, hlt, hp'.put (b := B) (by omega) _, hx1'.other (by omega) _, hx2'.set _, ?_, rfl⟩
  rw [List.take_succ_eq_append_getElem hlt]
  exact ho'.put hx2' _
end Go.Proofs.YtmeojocmngbpaaaDoor.B
