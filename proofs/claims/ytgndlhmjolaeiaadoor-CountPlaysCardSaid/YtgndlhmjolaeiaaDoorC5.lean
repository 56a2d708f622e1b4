/-
  Layer 24: the texts of all counters; names.
-/
import Derived.Test.YtgndlhmjolaeiaaDoorC4
namespace Go.Proofs.YtgndlhmjolaeiaaDoor.B
open Go
set_option linter.unusedVariables false
set_option linter.unusedSimpArgs false
set_option maxRecDepth 100000
section
variable {h : AHeap} {b : Nat} {L : List Int}
theorem getD_at {i : Nat} (hi : i < L.length) : L.getD i 0 = L[i] := by rw [List.getD_eq_getElem?_getD, List.getElem?_eq_getElem hi]; rfl
theorem text24_spec (k : CountV h) (kb : Fx h b (ints L)) (hl : L.length = 19) (ho : lok L) : Spec Tryd.prog nG fn.count_Counters_Text [.pointer (some ⟨b, 0, none⟩)] h (.string (rtS L 19)) h := by
  obtain ⟨s, hs, rfl⟩ : ∃ s, Spec Tryd.prog nG fn.count_Counters_Text [.pointer (some ⟨b, 0, none⟩)] h (.string s) h ∧ s = rtS L 19 := by
    refine SpecX.str ?_
    refine SpecX.of_body (ir.count_Counters_Text.spec (Nat.le_of_ble_eq_true rfl)) ?_
    simp (dsimp := false) only [↓ir.count_Counters_Text.bw, ir.count_Counters_Text.rs, ↓ir.count_Counters_Text.r0.w, ↓ir.count_Counters_Text.r1.w, ↓ir.count_Counters_Text.r2.w, ↓ir.count_Counters_Text.r3.w, ↓ir.count_Counters_Text.r4.w, ↓ir.count_Counters_Text.r5.w, ↓ir.count_Counters_Text.r6.w, ↓ir.count_Counters_Text.r7.w, ↓ir.count_Counters_Text.l1.w, ↓ir.count_Counters_Text.r8.w, ir.count_Counters_Text.rs, go_sem, Nat.reduceAdd, Nat.reduceEqDiff, Nat.reduceMul, Nat.reduceLeDiff, Nat.reduceSub, Nat.reduceLT, ↓reduceIte, reduceCtorEq, List.reduceReplicate, List.flatten_cons, List.flatten_nil, List.append_nil, eq_self, Int.reduceLE, Int.reduceLT, Int.reduceToNat, Nat.min_eq_left, Int.reducePow, Int.reduceNeg, Int.reduceEq]
    refine callV_x (all24_spec kb hl) ?_
    rintro v h1 ⟨hp1, hv⟩
    simp (dsimp := false) only [↓ir.count_Counters_Text.r0.w, ↓ir.count_Counters_Text.r1.w, ↓ir.count_Counters_Text.r2.w, ↓ir.count_Counters_Text.r3.w, ↓ir.count_Counters_Text.r4.w, ↓ir.count_Counters_Text.r5.w, ↓ir.count_Counters_Text.r6.w, ↓ir.count_Counters_Text.r7.w, ↓ir.count_Counters_Text.l1.w, ↓ir.count_Counters_Text.r8.w, ir.count_Counters_Text.rs, go_sem, Nat.reduceAdd, Nat.reduceEqDiff, Nat.reduceMul, Nat.reduceLeDiff, Nat.reduceSub, Nat.reduceLT, ↓reduceIte, reduceCtorEq, List.reduceReplicate, List.flatten_cons, List.flatten_nil, List.append_nil, eq_self, Int.reduceLE, Int.reduceLT, Int.reduceToNat, Nat.min_eq_left, Int.reducePow, Int.reduceNeg, Int.reduceEq, hv.lenV, hl]
    refine loopV_of (fun m e h2 => ∃ (i : Nat) (u : Value), m = 19 - i ∧ i ≤ 19 ∧ Pre h1 h2 ∧ Ow h1 h2 1 u (cpS L i).length ((cpS L i).map Value.string) ∧ e = [(3, u), (7, v), (8, .int .i64 19), (9, .int .i64 i)]) _
      ⟨0, _, rfl, Nat.zero_le _, .refl _, .nil, rfl⟩ ?_
    rintro m e h2 ⟨i, u, rfl, hi, hp, hw, rfl⟩
    have k2 : CountV h2 := k.pre (hp1.trans hp)
    rcases Nat.lt_or_ge i 19 with hlt | hge
    · have hd : decide ((i : Int) < 19) = true := by simpa using (by omega : (i : Int) < 19)
      have e1 : IntKind.i64.wrap ((i : Int) + 1) = ((i + 1 : Nat) : Int) := wrap_succ hlt (by unfold maxI; omega)
      have hil : i < L.length := by omega
      obtain ⟨c, hc, hc2, r0, r1⟩ := hv.rd2 hp hil
      subst hc2
      have eL := getD_at hil
      have hok := ho i
      rw [eL] at hok
      simp (dsimp := false) only [↓ir.count_Counters_Text.l1.bw, ↓ir.count_Counters_Text.r0.w, ↓ir.count_Counters_Text.r1.w, ↓ir.count_Counters_Text.r2.w, ↓ir.count_Counters_Text.r3.w, ↓ir.count_Counters_Text.r4.w, ↓ir.count_Counters_Text.r5.w, ↓ir.count_Counters_Text.r6.w, ↓ir.count_Counters_Text.r7.w, ↓ir.count_Counters_Text.l1.w, ↓ir.count_Counters_Text.r8.w, ir.count_Counters_Text.rs, go_sem, Nat.reduceAdd, Nat.reduceEqDiff, Nat.reduceMul, Nat.reduceLeDiff, Nat.reduceSub, Nat.reduceLT, ↓reduceIte, reduceCtorEq, List.reduceReplicate, List.flatten_cons, List.flatten_nil, List.append_nil, eq_self, Int.reduceLE, Int.reduceLT, Int.reduceToNat, Nat.min_eq_left, Int.reducePow, Int.reduceNeg, Int.reduceEq, hd, hv.ixsN hil, r0]
      refine cVn (fun c => ?_) (fun c => ?_)
      · have rn : rds h2 1 i 1 = some [.string (nmS countB i)] := by
          have := nm_rds k2.names (n := (i : Int)) (by rw [countB_len]; omega)
          rwa [Int.toNat_natCast] at this
        have z1 := nmS_size (L := countB) (c := 9) (by decide) i
        have z2 := wholeS_size hok
        obtain ⟨q, hq⟩ : ∃ q, nmS countB i = q := ⟨_, rfl⟩
        rw [hq] at z1 rn
        have hx : (0 ≤ (i : Int) ∧ (i : Int) < 19) := by omega
        simp (dsimp := false) only [↓ir.count_Counters_Text.r0.w, ↓ir.count_Counters_Text.r1.w, ↓ir.count_Counters_Text.r2.w, ↓ir.count_Counters_Text.r3.w, ↓ir.count_Counters_Text.r4.w, ↓ir.count_Counters_Text.r5.w, ↓ir.count_Counters_Text.r6.w, ↓ir.count_Counters_Text.r7.w, ↓ir.count_Counters_Text.l1.w, ↓ir.count_Counters_Text.r8.w, ir.count_Counters_Text.rs, go_sem, Nat.reduceAdd, Nat.reduceEqDiff, Nat.reduceMul, Nat.reduceLeDiff, Nat.reduceSub, Nat.reduceLT, ↓reduceIte, reduceCtorEq, List.reduceReplicate, List.flatten_cons, List.flatten_nil, List.append_nil, eq_self, Int.reduceLE, Int.reduceLT, Int.reduceToNat, Nat.min_eq_left, Int.reducePow, Int.reduceNeg, Int.reduceEq, ixaV_ptr, Nat.zero_add, Nat.mul_one, Int.toNat_natCast, rn, hx]
        refine ⟨by omega, ?_⟩
        refine ⟨by simp only [ByteArray.size_append, size_mk, List.size_toArray, List.length_cons, List.length_nil]; omega, ?_⟩
        refine callV_of (formatInt_spec (k2.powV) hok) ?_
        simp (dsimp := false) only [↓ir.count_Counters_Text.r0.w, ↓ir.count_Counters_Text.r1.w, ↓ir.count_Counters_Text.r2.w, ↓ir.count_Counters_Text.r3.w, ↓ir.count_Counters_Text.r4.w, ↓ir.count_Counters_Text.r5.w, ↓ir.count_Counters_Text.r6.w, ↓ir.count_Counters_Text.r7.w, ↓ir.count_Counters_Text.l1.w, ↓ir.count_Counters_Text.r8.w, ir.count_Counters_Text.rs, go_sem, Nat.reduceAdd, Nat.reduceEqDiff, Nat.reduceMul, Nat.reduceLeDiff, Nat.reduceSub, Nat.reduceLT, ↓reduceIte, reduceCtorEq, List.reduceReplicate, List.flatten_cons, List.flatten_nil, List.append_nil, eq_self, Int.reduceLE, Int.reduceLT, Int.reduceToNat, Nat.min_eq_left, Int.reducePow, Int.reduceNeg, Int.reduceEq]
        refine ⟨by simp only [ByteArray.size_append, size_mk, List.size_toArray, List.length_cons, List.length_nil]; omega, ?_⟩
        refine (hw.pre (.app _ _)).app (m := 1) rfl rfl ⟨by have := cpS_len L i; omega, by have := cpS_len L i; omega⟩ (fun u' h' ho' hc _ _ => ?_) (hp.app' _)
        simp (dsimp := false) only [↓ir.count_Counters_Text.r0.w, ↓ir.count_Counters_Text.r1.w, ↓ir.count_Counters_Text.r2.w, ↓ir.count_Counters_Text.r3.w, ↓ir.count_Counters_Text.r4.w, ↓ir.count_Counters_Text.r5.w, ↓ir.count_Counters_Text.r6.w, ↓ir.count_Counters_Text.r7.w, ↓ir.count_Counters_Text.l1.w, ↓ir.count_Counters_Text.r8.w, ir.count_Counters_Text.rs, go_sem, Nat.reduceAdd, Nat.reduceEqDiff, Nat.reduceMul, Nat.reduceLeDiff, Nat.reduceSub, Nat.reduceLT, ↓reduceIte, reduceCtorEq, List.reduceReplicate, List.flatten_cons, List.flatten_nil, List.append_nil, eq_self, Int.reduceLE, Int.reduceLT, Int.reduceToNat, Nat.min_eq_left, Int.reducePow, Int.reduceNeg, Int.reduceEq, e1]
        refine ⟨_, by omega, i + 1, u', rfl, by omega, hc.pre (hp.app' _), ?_, rfl⟩
        rw [cpS, if_neg (by rw [eL]; exact c), List.length_append, List.map_append, partS, hq, eL]
        exact ho'
      · simp (dsimp := false) only [↓ir.count_Counters_Text.r0.w, ↓ir.count_Counters_Text.r1.w, ↓ir.count_Counters_Text.r2.w, ↓ir.count_Counters_Text.r3.w, ↓ir.count_Counters_Text.r4.w, ↓ir.count_Counters_Text.r5.w, ↓ir.count_Counters_Text.r6.w, ↓ir.count_Counters_Text.r7.w, ↓ir.count_Counters_Text.l1.w, ↓ir.count_Counters_Text.r8.w, ir.count_Counters_Text.rs, go_sem, Nat.reduceAdd, Nat.reduceEqDiff, Nat.reduceMul, Nat.reduceLeDiff, Nat.reduceSub, Nat.reduceLT, ↓reduceIte, reduceCtorEq, List.reduceReplicate, List.flatten_cons, List.flatten_nil, List.append_nil, eq_self, Int.reduceLE, Int.reduceLT, Int.reduceToNat, Nat.min_eq_left, Int.reducePow, Int.reduceNeg, Int.reduceEq, e1]
        refine ⟨_, by omega, i + 1, u, rfl, by omega, hp, ?_, rfl⟩
        rw [cpS, if_pos (by rw [eL]; exact c)]
        exact hw
    · have hd : decide ((i : Int) < 19) = false := by simpa using (by omega : ¬ (i : Int) < 19)
      obtain rfl : i = 19 := by omega
      simp (dsimp := false) only [↓ir.count_Counters_Text.l1.bw, ↓ir.count_Counters_Text.r0.w, ↓ir.count_Counters_Text.r1.w, ↓ir.count_Counters_Text.r2.w, ↓ir.count_Counters_Text.r3.w, ↓ir.count_Counters_Text.r4.w, ↓ir.count_Counters_Text.r5.w, ↓ir.count_Counters_Text.r6.w, ↓ir.count_Counters_Text.r7.w, ↓ir.count_Counters_Text.l1.w, ↓ir.count_Counters_Text.r8.w, ir.count_Counters_Text.rs, go_sem, Nat.reduceAdd, Nat.reduceEqDiff, Nat.reduceMul, Nat.reduceLeDiff, Nat.reduceSub, Nat.reduceLT, ↓reduceIte, reduceCtorEq, List.reduceReplicate, List.flatten_cons, List.flatten_nil, List.append_nil, eq_self, Int.reduceLE, Int.reduceLT, Int.reduceToNat, Nat.min_eq_left, Int.reducePow, Int.reduceNeg, Int.reduceEq, hd]
      have hs := hw.sl
      rw [show (cpS L 19).map Value.string = (cpS L 19).flatMap (fun x => [Value.string x]) from List.map_eq_flatMap] at hs
      have hj := Sl.ls (enc := fun x : ByteArray => [Value.string x]) (fun _ => rfl) hs rfl
      have h5 := cpS_len L 19
      have h6 := joinS_size (fun x hx => (parts_mem ho 19 x hx).2)
      refine callV_of (join_spec (sep := spS) hj (by omega) (by omega)) ?_
      simp (dsimp := false) only [↓ir.count_Counters_Text.r0.w, ↓ir.count_Counters_Text.r1.w, ↓ir.count_Counters_Text.r2.w, ↓ir.count_Counters_Text.r3.w, ↓ir.count_Counters_Text.r4.w, ↓ir.count_Counters_Text.r5.w, ↓ir.count_Counters_Text.r6.w, ↓ir.count_Counters_Text.r7.w, ↓ir.count_Counters_Text.l1.w, ↓ir.count_Counters_Text.r8.w, ir.count_Counters_Text.rs, go_sem, Nat.reduceAdd, Nat.reduceEqDiff, Nat.reduceMul, Nat.reduceLeDiff, Nat.reduceSub, Nat.reduceLT, ↓reduceIte, reduceCtorEq, List.reduceReplicate, List.flatten_cons, List.flatten_nil, List.append_nil, eq_self, Int.reduceLE, Int.reduceLT, Int.reduceToNat, Nat.min_eq_left, Int.reducePow, Int.reduceNeg, Int.reduceEq]
      exact ⟨hp1.trans hp, _, rfl, (cp_text ho 19).1.symm⟩
  exact hs
theorem loop_len (bs : ByteArray) : ∀ (n i : Nat) (r : List UInt8), bs.size - i = n → (ByteArray.toList.loop bs i r).length = r.length + n
  | 0, i, r, e => by
    rw [ByteArray.toList.loop, if_neg (by omega)]; simp
  | n + 1, i, r, e => by
    rw [ByteArray.toList.loop, if_pos (by omega), loop_len bs n (i + 1) _ (by omega)]
    simp; omega
theorem toL_len (bs : ByteArray) : bs.toList.length = bs.size := by
  rw [ByteArray.toList, loop_len bs bs.size 0 [] (by omega)]; simp
theorem empty_iff (s : ByteArray) : (s.toList == (⟨#[]⟩ : ByteArray).toList) = true ↔ s = ⟨#[]⟩ := by
  constructor
  · intro e
    have e2 : s.toList = (⟨#[]⟩ : ByteArray).toList := by simpa using e
    have e3 := congrArg List.length e2
    rw [toL_len, toL_len] at e3
    apply ByteArray.ext
    apply Array.eq_empty_of_size_eq_zero
    exact e3
  · rintro rfl; simp
theorem rtS_size {L : List Int} (ho : lok L) (i : Nat) (hi : i ≤ 19) : (rtS L i).size ≤ 800 := by
  rw [(cp_text ho i).1]
  have h5 := cpS_len L i
  have h6 := joinS_size (fun x hx => (parts_mem ho i x hx).2)
  omega
theorem rtext24_spec (hl : L.length = 19) (ho : lok L) (h : AHeap) : Spec Tryd.prog nG fn.ref24_Text [.agg ⟨ints L⟩] h (.string (rtS L 19)) h := by
  obtain ⟨s, hs, rfl⟩ : ∃ s, Spec Tryd.prog nG fn.ref24_Text [.agg ⟨ints L⟩] h (.string s) h ∧ s = rtS L 19 := by
    refine SpecX.str ?_
    refine SpecX.of_body (ir.ref24_Text.spec (Nat.le_of_ble_eq_true rfl)) ?_
    simp (dsimp := false) only [↓ir.ref24_Text.bw, ir.ref24_Text.rs, ↓ir.ref24_Text.r0.w, ↓ir.ref24_Text.r1.w, ↓ir.ref24_Text.r2.w, ↓ir.ref24_Text.r3.w, ↓ir.ref24_Text.r5.w, ↓ir.ref24_Text.r6.w, ↓ir.ref24_Text.r7.w, ↓ir.ref24_Text.r8.w, ↓ir.ref24_Text.r4.w, ↓ir.ref24_Text.l1.w, ↓ir.ref24_Text.r9.w, ir.ref24_Text.rs, go_sem, Nat.reduceAdd, Nat.reduceEqDiff, Nat.reduceMul, Nat.reduceLeDiff, Nat.reduceSub, Nat.reduceLT, ↓reduceIte, reduceCtorEq, List.reduceReplicate, List.flatten_cons, List.flatten_nil, List.append_nil, eq_self, Int.reduceLE, Int.reduceLT, Int.reduceToNat, Nat.min_eq_left, Int.reducePow, Int.reduceNeg, Int.reduceEq]
    obtain ⟨h1, eh1⟩ : ∃ h1, h ++ [AObj.row Mode.fix (ints L)] = h1 := ⟨_, rfl⟩
    have hp1 : Pre h h1 := eh1 ▸ .app _ _
    have kb : Fx h1 h.length (ints L) := by rw [← eh1]; simp [Fx]
    rw [eh1]
    refine loopV_of (fun m e h2 => ∃ (i : Nat), m = 19 - i ∧ i ≤ 19 ∧ h2 = h1 ∧ e = [(1, .pointer (some ⟨h.length, 0, none⟩)), (3, .string (rtS L i)), (4, .int .i64 i)]) _
      ⟨0, rfl, Nat.zero_le _, rfl, rfl⟩ ?_
    rintro m e h2 ⟨i, rfl, hi, rfl, rfl⟩
    rcases Nat.lt_or_ge i 19 with hlt | hge
    · have hd : decide ((i : Int) < 19) = true := by simpa using (by omega : (i : Int) < 19)
      have e1 : IntKind.i64.wrap ((i : Int) + 1) = ((i + 1 : Nat) : Int) := wrap_succ hlt (by unfold maxI; omega)
      have hil : i < L.length := by omega
      have r0 := kb.ird hil
      have z0 := rtS_size ho i (by omega)
      have z1 := nmS_size (L := countB) (c := 9) (by decide) i
      have z2 := wholeS_size (ho i)
      have hx : (0 ≤ (i : Int) ∧ (i : Int) < 19) := by omega
      simp (dsimp := false) only [↓ir.ref24_Text.l1.bw, ↓ir.ref24_Text.r0.w, ↓ir.ref24_Text.r1.w, ↓ir.ref24_Text.r2.w, ↓ir.ref24_Text.r3.w, ↓ir.ref24_Text.r5.w, ↓ir.ref24_Text.r6.w, ↓ir.ref24_Text.r7.w, ↓ir.ref24_Text.r8.w, ↓ir.ref24_Text.r4.w, ↓ir.ref24_Text.l1.w, ↓ir.ref24_Text.r9.w, ir.ref24_Text.rs, go_sem, Nat.reduceAdd, Nat.reduceEqDiff, Nat.reduceMul, Nat.reduceLeDiff, Nat.reduceSub, Nat.reduceLT, ↓reduceIte, reduceCtorEq, List.reduceReplicate, List.flatten_cons, List.flatten_nil, List.append_nil, eq_self, Int.reduceLE, Int.reduceLT, Int.reduceToNat, Nat.min_eq_left, Int.reducePow, Int.reduceNeg, Int.reduceEq, hd, ixaV_ptr, Nat.zero_add, Nat.mul_one, Int.toNat_natCast, r0]
      refine ⟨hx, ?_⟩
      refine cVe (fun c => ?_) (fun c => ?_)
      · simp (dsimp := false) only [↓ir.ref24_Text.r0.w, ↓ir.ref24_Text.r1.w, ↓ir.ref24_Text.r2.w, ↓ir.ref24_Text.r3.w, ↓ir.ref24_Text.r5.w, ↓ir.ref24_Text.r6.w, ↓ir.ref24_Text.r7.w, ↓ir.ref24_Text.r8.w, ↓ir.ref24_Text.r4.w, ↓ir.ref24_Text.l1.w, ↓ir.ref24_Text.r9.w, ir.ref24_Text.rs, go_sem, Nat.reduceAdd, Nat.reduceEqDiff, Nat.reduceMul, Nat.reduceLeDiff, Nat.reduceSub, Nat.reduceLT, ↓reduceIte, reduceCtorEq, List.reduceReplicate, List.flatten_cons, List.flatten_nil, List.append_nil, eq_self, Int.reduceLE, Int.reduceLT, Int.reduceToNat, Nat.min_eq_left, Int.reducePow, Int.reduceNeg, Int.reduceEq, e1]
        exact ⟨_, by omega, i + 1, rfl, by omega, by rw [rtS, if_pos c]⟩
      · simp (dsimp := false) only [↓ir.ref24_Text.r0.w, ↓ir.ref24_Text.r1.w, ↓ir.ref24_Text.r2.w, ↓ir.ref24_Text.r3.w, ↓ir.ref24_Text.r5.w, ↓ir.ref24_Text.r6.w, ↓ir.ref24_Text.r7.w, ↓ir.ref24_Text.r8.w, ↓ir.ref24_Text.r4.w, ↓ir.ref24_Text.l1.w, ↓ir.ref24_Text.r9.w, ir.ref24_Text.rs, go_sem, Nat.reduceAdd, Nat.reduceEqDiff, Nat.reduceMul, Nat.reduceLeDiff, Nat.reduceSub, Nat.reduceLT, ↓reduceIte, reduceCtorEq, List.reduceReplicate, List.flatten_cons, List.flatten_nil, List.append_nil, eq_self, Int.reduceLE, Int.reduceLT, Int.reduceToNat, Nat.min_eq_left, Int.reducePow, Int.reduceNeg, Int.reduceEq]
        have fin : ∀ s, (if rtS L i = ⟨#[]⟩ then rtS L i else rtS L i ++ spS) = s → s ++ nmS countB i ++ ⟨#[61]⟩ ++ wholeS (L.getD i 0) = rtS L (i + 1) := fun s e => by
          rw [rtS, if_neg c, e, partS]; simp only [ByteArray.append_assoc]
        obtain ⟨q, hq⟩ : ∃ q, nmS countB i = q := ⟨_, rfl⟩
        rw [hq] at z1 fin
        refine cV (fun c2 => ?_) (fun c2 => ?_)
        · have c3 : ¬ rtS L i = ⟨#[]⟩ := fun e => by rw [(empty_iff _).2 e] at c2; simp at c2
          have f := fin _ (if_neg c3)
          simp (dsimp := false) only [↓ir.ref24_Text.r0.w, ↓ir.ref24_Text.r1.w, ↓ir.ref24_Text.r2.w, ↓ir.ref24_Text.r3.w, ↓ir.ref24_Text.r5.w, ↓ir.ref24_Text.r6.w, ↓ir.ref24_Text.r7.w, ↓ir.ref24_Text.r8.w, ↓ir.ref24_Text.r4.w, ↓ir.ref24_Text.l1.w, ↓ir.ref24_Text.r9.w, ir.ref24_Text.rs, go_sem, Nat.reduceAdd, Nat.reduceEqDiff, Nat.reduceMul, Nat.reduceLeDiff, Nat.reduceSub, Nat.reduceLT, ↓reduceIte, reduceCtorEq, List.reduceReplicate, List.flatten_cons, List.flatten_nil, List.append_nil, eq_self, Int.reduceLE, Int.reduceLT, Int.reduceToNat, Nat.min_eq_left, Int.reducePow, Int.reduceNeg, Int.reduceEq]
          refine ⟨by simp only [ByteArray.size_append, size_mk, List.size_toArray, List.length_cons, List.length_nil]; omega, ?_⟩
          refine callV_of (rname24_spec _ _) ?_
          rw [hq]
          simp (dsimp := false) only [↓ir.ref24_Text.r0.w, ↓ir.ref24_Text.r1.w, ↓ir.ref24_Text.r2.w, ↓ir.ref24_Text.r3.w, ↓ir.ref24_Text.r5.w, ↓ir.ref24_Text.r6.w, ↓ir.ref24_Text.r7.w, ↓ir.ref24_Text.r8.w, ↓ir.ref24_Text.r4.w, ↓ir.ref24_Text.l1.w, ↓ir.ref24_Text.r9.w, ir.ref24_Text.rs, go_sem, Nat.reduceAdd, Nat.reduceEqDiff, Nat.reduceMul, Nat.reduceLeDiff, Nat.reduceSub, Nat.reduceLT, ↓reduceIte, reduceCtorEq, List.reduceReplicate, List.flatten_cons, List.flatten_nil, List.append_nil, eq_self, Int.reduceLE, Int.reduceLT, Int.reduceToNat, Nat.min_eq_left, Int.reducePow, Int.reduceNeg, Int.reduceEq, ixaV_ptr, Nat.zero_add, Nat.mul_one, Int.toNat_natCast, r0]
          refine ⟨by simp only [ByteArray.size_append, size_mk, List.size_toArray, List.length_cons, List.length_nil]; omega, ?_⟩
          refine ⟨by simp only [ByteArray.size_append, size_mk, List.size_toArray, List.length_cons, List.length_nil]; omega, ?_⟩
          refine ⟨hx, ?_⟩
          refine callV_of (rwhole_spec _ (ho i)) ?_
          simp (dsimp := false) only [↓ir.ref24_Text.r0.w, ↓ir.ref24_Text.r1.w, ↓ir.ref24_Text.r2.w, ↓ir.ref24_Text.r3.w, ↓ir.ref24_Text.r5.w, ↓ir.ref24_Text.r6.w, ↓ir.ref24_Text.r7.w, ↓ir.ref24_Text.r8.w, ↓ir.ref24_Text.r4.w, ↓ir.ref24_Text.l1.w, ↓ir.ref24_Text.r9.w, ir.ref24_Text.rs, go_sem, Nat.reduceAdd, Nat.reduceEqDiff, Nat.reduceMul, Nat.reduceLeDiff, Nat.reduceSub, Nat.reduceLT, ↓reduceIte, reduceCtorEq, List.reduceReplicate, List.flatten_cons, List.flatten_nil, List.append_nil, eq_self, Int.reduceLE, Int.reduceLT, Int.reduceToNat, Nat.min_eq_left, Int.reducePow, Int.reduceNeg, Int.reduceEq, e1]
          refine ⟨by simp only [ByteArray.size_append, size_mk, List.size_toArray, List.length_cons, List.length_nil]; omega, ?_⟩
          exact ⟨_, by omega, i + 1, rfl, by omega, by rw [← f]⟩
        · have c3 : rtS L i = ⟨#[]⟩ := (empty_iff _).1 (by simpa using c2)
          have f := fin _ (if_pos c3)
          simp (dsimp := false) only [↓ir.ref24_Text.r0.w, ↓ir.ref24_Text.r1.w, ↓ir.ref24_Text.r2.w, ↓ir.ref24_Text.r3.w, ↓ir.ref24_Text.r5.w, ↓ir.ref24_Text.r6.w, ↓ir.ref24_Text.r7.w, ↓ir.ref24_Text.r8.w, ↓ir.ref24_Text.r4.w, ↓ir.ref24_Text.l1.w, ↓ir.ref24_Text.r9.w, ir.ref24_Text.rs, go_sem, Nat.reduceAdd, Nat.reduceEqDiff, Nat.reduceMul, Nat.reduceLeDiff, Nat.reduceSub, Nat.reduceLT, ↓reduceIte, reduceCtorEq, List.reduceReplicate, List.flatten_cons, List.flatten_nil, List.append_nil, eq_self, Int.reduceLE, Int.reduceLT, Int.reduceToNat, Nat.min_eq_left, Int.reducePow, Int.reduceNeg, Int.reduceEq]
          refine callV_of (rname24_spec _ _) ?_
          rw [hq]
          simp (dsimp := false) only [↓ir.ref24_Text.r0.w, ↓ir.ref24_Text.r1.w, ↓ir.ref24_Text.r2.w, ↓ir.ref24_Text.r3.w, ↓ir.ref24_Text.r5.w, ↓ir.ref24_Text.r6.w, ↓ir.ref24_Text.r7.w, ↓ir.ref24_Text.r8.w, ↓ir.ref24_Text.r4.w, ↓ir.ref24_Text.l1.w, ↓ir.ref24_Text.r9.w, ir.ref24_Text.rs, go_sem, Nat.reduceAdd, Nat.reduceEqDiff, Nat.reduceMul, Nat.reduceLeDiff, Nat.reduceSub, Nat.reduceLT, ↓reduceIte, reduceCtorEq, List.reduceReplicate, List.flatten_cons, List.flatten_nil, List.append_nil, eq_self, Int.reduceLE, Int.reduceLT, Int.reduceToNat, Nat.min_eq_left, Int.reducePow, Int.reduceNeg, Int.reduceEq, ixaV_ptr, Nat.zero_add, Nat.mul_one, Int.toNat_natCast, r0]
          refine ⟨by first | exact Nat.le_trans (Nat.add_le_add (Nat.zero_le 0) z1) (by decide) | (simp only [c3, ByteArray.size_append, size_mk, List.size_toArray, List.length_cons, List.length_nil]; omega), ?_⟩
          refine ⟨by simp only [ByteArray.size_append, size_mk, List.size_toArray, List.length_cons, List.length_nil]; omega, ?_⟩
          refine ⟨hx, ?_⟩
          refine callV_of (rwhole_spec _ (ho i)) ?_
          simp (dsimp := false) only [↓ir.ref24_Text.r0.w, ↓ir.ref24_Text.r1.w, ↓ir.ref24_Text.r2.w, ↓ir.ref24_Text.r3.w, ↓ir.ref24_Text.r5.w, ↓ir.ref24_Text.r6.w, ↓ir.ref24_Text.r7.w, ↓ir.ref24_Text.r8.w, ↓ir.ref24_Text.r4.w, ↓ir.ref24_Text.l1.w, ↓ir.ref24_Text.r9.w, ir.ref24_Text.rs, go_sem, Nat.reduceAdd, Nat.reduceEqDiff, Nat.reduceMul, Nat.reduceLeDiff, Nat.reduceSub, Nat.reduceLT, ↓reduceIte, reduceCtorEq, List.reduceReplicate, List.flatten_cons, List.flatten_nil, List.append_nil, eq_self, Int.reduceLE, Int.reduceLT, Int.reduceToNat, Nat.min_eq_left, Int.reducePow, Int.reduceNeg, Int.reduceEq, e1]
          refine ⟨by simp only [ByteArray.size_append, size_mk, List.size_toArray, List.length_cons, List.length_nil]; omega, ?_⟩
          exact ⟨_, by omega, i + 1, rfl, by omega, by rw [← f]⟩
    · have hd : decide ((i : Int) < 19) = false := by simpa using (by omega : ¬ (i : Int) < 19)
      obtain rfl : i = 19 := by omega
      simp (dsimp := false) only [↓ir.ref24_Text.l1.bw, ↓ir.ref24_Text.r0.w, ↓ir.ref24_Text.r1.w, ↓ir.ref24_Text.r2.w, ↓ir.ref24_Text.r3.w, ↓ir.ref24_Text.r5.w, ↓ir.ref24_Text.r6.w, ↓ir.ref24_Text.r7.w, ↓ir.ref24_Text.r8.w, ↓ir.ref24_Text.r4.w, ↓ir.ref24_Text.l1.w, ↓ir.ref24_Text.r9.w, ir.ref24_Text.rs, go_sem, Nat.reduceAdd, Nat.reduceEqDiff, Nat.reduceMul, Nat.reduceLeDiff, Nat.reduceSub, Nat.reduceLT, ↓reduceIte, reduceCtorEq, List.reduceReplicate, List.flatten_cons, List.flatten_nil, List.append_nil, eq_self, Int.reduceLE, Int.reduceLT, Int.reduceToNat, Nat.min_eq_left, Int.reducePow, Int.reduceNeg, Int.reduceEq, hd]
      exact ⟨hp1, _, rfl, rfl⟩
  exact hs
end
end Go.Proofs.YtgndlhmjolaeiaaDoor.B
