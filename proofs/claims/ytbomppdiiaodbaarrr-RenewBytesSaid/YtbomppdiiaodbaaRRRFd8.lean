/-
  Signed records (layer 11): a record is written, by the program; its message.
-/
import Derived.Test.YtbomppdiiaodbaaRRRFd7
namespace Go.Proofs.YtbomppdiiaodbaaRRR.B
open Go
set_option linter.unusedVariables false
set_option linter.unusedSimpArgs false
set_option maxRecDepth 100000
theorem and255 (d : Int) : IntKind.u64.wrap ((BitVec.ofInt IntKind.u64.bits (IntKind.u64.wrap d) &&& BitVec.ofInt IntKind.u64.bits 255).toNat) = d % 256 := by
  obtain ⟨n, hn⟩ : ∃ n : Nat, IntKind.u64.wrap d = n ∧ n < 2 ^ 64 := ⟨(d % 18446744073709551616).toNat, by rw [IntKind.wrap_u64]; omega, by omega⟩
  have e1 : (BitVec.ofInt IntKind.u64.bits (n : Int) &&& BitVec.ofInt IntKind.u64.bits 255).toNat = n &&& 255 := by
    show (BitVec.ofInt 64 (n : Int) &&& BitVec.ofInt 64 255).toNat = _
    rw [BitVec.toNat_and, BitVec.toNat_ofInt, BitVec.toNat_ofInt]
    congr 1
    omega
  rw [hn.1, e1, show 255 = 2 ^ 8 - 1 from rfl, Nat.and_two_pow_sub_one_eq_mod, IntKind.wrap_u64]
  have := hn.1
  rw [IntKind.wrap_u64] at this
  omega
theorem be1 (x : Int) : beF 1 (x % 256) = [x % 256] := by simp [beF]
/-- A record's bytes. -/
def recF (d e : Int) (B : List Int) : List Int := (d % 256) :: (beF 4 e ++ B)
theorem recF_len (d e : Int) (B : List Int) : (recF d e B).length = 5 + B.length := by simp [recF, beF_len]; omega
theorem recF_isB {d e : Int} {B : List Int} (h : IsB B) : IsB (recF d e B) := IsB.cons (by omega) (by omega) ((IsB.be _ _).append h)
theorem sg_rdB {h : AHeap} {b : Nat} {d e : Int} {B : List Int} (f : Fx h b (sgC d e B)) {k n : Nat} (hk : k + n ≤ B.length) : rds h b (2 + k) n = some (ik .u8 ((B.drop k).take n)) := by
  refine f.rd ?_ (by rw [sgC_len]; omega)
  have : (sgC d e B).drop (2 + k) = ik .u8 (B.drop k) := by
    rw [Nat.add_comm]
    show (ik .u8 B).drop k = _
    simp
  rw [this]; simp
theorem rput_spec {h0 h : AHeap} {b : Nat} {l B : List Int} {d e : Int} (H : OutV h0 h b l) (hp : Pre h0 h) (hB : IsB B) (hBl : B.length = 1120) (he0 : 0 ≤ e) (he1 : e < 4294967296) (hl : l.length ≤ 70368744100000) :
    SpecX Try.prog nG fn.renew_Put [.pointer (some ⟨b, 0, none⟩), .agg ⟨sgC d e B⟩] h fun _ h' => OutV h0 h' b (l ++ recF d e B) ∧ Pre h0 h' := by
  refine SpecX.of_body (ir.renew_Put.spec (Nat.le_of_ble_eq_true rfl)) ?_
  have ca : cellsA (.agg ⟨sgC d e B⟩) = some (sgC d e B) := rfl
  have H1 := H.pre (.app h [.row .fix (sgC d e B)])
  have hp1 := hp.app' [.row .fix (sgC d e B)]
  have fb : Fx (h ++ [.row .fix (sgC d e B)]) h.length (sgC d e B) := Fx.here _ _ _
  have r0 := fb.rd (off := 0) (n := 1) (vs := [.int .i64 d]) rfl (by rw [sgC_len]; omega)
  have hbl : b < h.length := by obtain ⟨v, f, _⟩ := H.is; exact f.lt
  have wa := and255 d
  simp (dsimp := false) only [↓ir.renew_Put.bw, ir.renew_Put.rs, go_sem, Nat.reduceAdd, Nat.reduceEqDiff, Nat.reduceMul, Nat.reduceLeDiff, Nat.reduceSub, Nat.reduceLT, ↓reduceIte, reduceCtorEq, List.reduceReplicate, List.flatten_cons, List.flatten_nil, List.append_nil, eq_self, Int.reduceLE, Int.reduceLT, Int.reduceToNat, Nat.min_eq_left, Int.reducePow, Int.reduceNeg, Int.reduceEq, ca, r0, wa]
  refine callV_x (u8_spec H1 hp1 (by omega) (by omega) (by omega)) ?_
  rintro _ h2 ⟨H2, hp2, k2⟩
  have fb2 := k2.2 _ _ (by omega) fb
  have r1 := fb2.rd (off := 1) (n := 1) (vs := [.int .u32 e]) rfl (by rw [sgC_len]; omega)
  have w1 : IntKind.u64.wrap e = e := by rw [IntKind.wrap_u64]; omega
  rw [be1] at H2
  simp (dsimp := false) only [go_sem, Nat.reduceAdd, Nat.reduceEqDiff, Nat.reduceMul, Nat.reduceLeDiff, Nat.reduceSub, Nat.reduceLT, ↓reduceIte, reduceCtorEq, List.reduceReplicate, List.flatten_cons, List.flatten_nil, List.append_nil, eq_self, Int.reduceLE, Int.reduceLT, Int.reduceToNat, Nat.min_eq_left, Int.reducePow, Int.reduceNeg, Int.reduceEq, r1, w1]
  refine callV_x (u32_spec H2 hp2 he0 he1 (by simp; omega)) ?_
  rintro _ h3 ⟨H3, hp3, k3⟩
  have fb3 := k3.2 _ _ (by omega) fb2
  have r2 := sg_rdB fb3 (k := 0) (n := 16) (by omega)
  have ag2 : aggOf true (ik .u8 ((B.drop 0).take 16)) = some (.agg ⟨ik .u8 ((B.drop 0).take 16)⟩) := rfl
  simp (dsimp := false) only [go_sem, Nat.reduceAdd, Nat.reduceEqDiff, Nat.reduceMul, Nat.reduceLeDiff, Nat.reduceSub, Nat.reduceLT, ↓reduceIte, reduceCtorEq, List.reduceReplicate, List.flatten_cons, List.flatten_nil, List.append_nil, eq_self, Int.reduceLE, Int.reduceLT, Int.reduceToNat, Nat.min_eq_left, Int.reducePow, Int.reduceNeg, Int.reduceEq, r2, ag2]
  refine callV_x (osum_spec (D := B.take 16) H3 hp3 (by rw [List.length_take]; omega) (hB.take _) (by simp [beF_len]; omega)) ?_
  rintro _ h4 ⟨H4, hp4, k4⟩
  have fb4 := k4.2 _ _ (by omega) fb3
  have r3 := sg_rdB fb4 (k := 16) (n := 16) (by omega)
  have ag3 : aggOf true (ik .u8 ((B.drop 16).take 16)) = some (.agg ⟨ik .u8 ((B.drop 16).take 16)⟩) := rfl
  simp (dsimp := false) only [go_sem, Nat.reduceAdd, Nat.reduceEqDiff, Nat.reduceMul, Nat.reduceLeDiff, Nat.reduceSub, Nat.reduceLT, ↓reduceIte, reduceCtorEq, List.reduceReplicate, List.flatten_cons, List.flatten_nil, List.append_nil, eq_self, Int.reduceLE, Int.reduceLT, Int.reduceToNat, Nat.min_eq_left, Int.reducePow, Int.reduceNeg, Int.reduceEq, r3, ag3]
  refine callV_x (osum_spec (D := (B.drop 16).take 16) H4 hp4 (by rw [List.length_take, List.length_drop]; omega) ((hB.drop _).take _) (by simp [beF_len]; omega)) ?_
  rintro _ h5 ⟨H5, hp5, k5⟩
  have fb5 := k5.2 _ _ (by omega) fb4
  have r4 := sg_rdB fb5 (k := 32) (n := 1088) (by omega)
  have ag4 : aggOf true (ik .u8 ((B.drop 32).take 1088)) = some (.agg ⟨ik .u8 ((B.drop 32).take 1088)⟩) := rfl
  have e5 : l ++ [d % 256] ++ beF 4 e ++ B.take 16 ++ (B.drop 16).take 16 = l ++ recF d e (B.take (32 + 16 * 0)) := by
    have : B.take (32 + 16 * 0) = B.take 16 ++ (B.drop 16).take 16 := by
      rw [show 32 + 16 * 0 = 16 + 16 from rfl, List.take_add]
    rw [this]; simp [recF]
  rw [e5] at H5
  simp (dsimp := false) only [go_sem, Nat.reduceAdd, Nat.reduceEqDiff, Nat.reduceMul, Nat.reduceLeDiff, Nat.reduceSub, Nat.reduceLT, ↓reduceIte, reduceCtorEq, List.reduceReplicate, List.flatten_cons, List.flatten_nil, List.append_nil, eq_self, Int.reduceLE, Int.reduceLT, Int.reduceToNat, Nat.min_eq_left, Int.reducePow, Int.reduceNeg, Int.reduceEq, r4, ag4]
  clear r0 r1 r2 r3 r4 ag2 ag3 ag4 H1 H2 H3 H4 hp1 hp2 hp3 hp4 fb fb2 fb3 fb4 fb5
  have hk5 : h.length ≤ h5.length := by
    have := k2.1; have := k3.1; have := k4.1; have := k5.1
    simp only [List.length_append] at *; omega
  clear k2 k3 k4 k5
  refine loopV_of (fun m' e' h6 => ∃ i : Nat, m' = 68 - i ∧ i ≤ 68 ∧ OutV h0 h6 b (l ++ recF d e (B.take (32 + 16 * i))) ∧ Pre h0 h6 ∧
    e' = [(0, .pointer (some ⟨b, 0, none⟩)), (30, .agg ⟨ik .u8 ((B.drop 32).take 1088)⟩), (31, .int .i64 (i : Int))]) _ ⟨0, rfl, Nat.zero_le _, H5, hp5, rfl⟩ ?_
  clear H5 hp5
  rintro m' e' h6 ⟨i, rfl, hi, H6, hp6, rfl⟩
  rcases Nat.lt_or_ge i 68 with hlt | hge
  case inl =>
    have d0 : decide ((i : Int) < 68) = true := decide_eq_true (by omega)
    have i5 : IntKind.i64.wrap ((i : Int) + 1) = ((i + 1 : Nat) : Int) := wrap_succ hlt (by unfold maxI; omega)
    have hsz : (⟨ik .u8 ((B.drop 32).take 1088)⟩ : Array Value).size = 1088 := by simp; omega
    have el : (List.drop (i * 16) (ik .u8 ((B.drop 32).take 1088))).take 16 = ik .u8 ((B.drop (32 + 16 * i)).take 16) := by
      rw [← List.map_drop, ← List.map_take, List.drop_take, List.take_take, List.drop_drop, Nat.min_eq_left (by omega), Nat.mul_comm i 16]
    have ag : aggOf true (ik .u8 ((B.drop (32 + 16 * i)).take 16)) = some (.agg ⟨ik .u8 ((B.drop (32 + 16 * i)).take 16)⟩) := rfl
    obtain ⟨V, hV⟩ : ∃ V, (B.drop (32 + 16 * i)).take 16 = V := ⟨_, rfl⟩
    have hVl : V.length = 16 := by rw [← hV]; simp; omega
    have hVB : IsB V := by rw [← hV]; exact (hB.drop _).take _
    rw [hV] at el ag
    have ca2 : cellsA (.agg ⟨ik .u8 V⟩) = some (ik .u8 V) := rfl
    have hw := wrs_new (h := h6) (cs := ik .u8 (irep 16 0)) (vs := ik .u8 V) (by rw [List.length_map, List.length_map, irep_len, hVl])
    have rs := (Fx.here h6 (ik .u8 V) []).whole (n := 16) (by rw [List.length_map, hVl])
    simp (dsimp := false) only [↓ir.renew_Put.l1.bw, go_sem, Nat.reduceAdd, Nat.reduceEqDiff, Nat.reduceMul, Nat.reduceLeDiff, Nat.reduceSub, Nat.reduceLT, ↓reduceIte, reduceCtorEq, List.reduceReplicate, List.flatten_cons, List.flatten_nil, List.append_nil, eq_self, Int.reduceLE, Int.reduceLT, Int.reduceToNat, Nat.min_eq_left, Int.reducePow, Int.reduceNeg, Int.reduceEq, d0, Int.toNat_natCast, el, ag, zrep_ik, ca2, hw, hsz]
    refine ⟨by omega, by omega, by rw [List.length_map, hVl], ik_one _ _, ?_⟩
    rw [if_pos (by rw [List.length_map, hVl]; exact Nat.le_refl _), List.take_of_length_le (by rw [List.length_map, hVl]; exact Nat.le_refl _)]
    simp (dsimp := false) only [Option.bind_some, ag, go_sem, Nat.reduceAdd, Nat.reduceEqDiff, Nat.reduceMul, Nat.reduceLeDiff, Nat.reduceSub, Nat.reduceLT, ↓reduceIte, reduceCtorEq, List.reduceReplicate, List.flatten_cons, List.flatten_nil, List.append_nil, eq_self, Int.reduceLE, Int.reduceLT, Int.reduceToNat, Nat.min_eq_left, Int.reducePow, Int.reduceNeg, Int.reduceEq]
    refine callV_x (osum_spec (D := V) (H6.pre (.app h6 [.row .fix (ik .u8 V)])) (hp6.app' _) hVl hVB (by rw [List.length_append, recF_len, List.length_take]; omega)) ?_
    rintro _ h7 ⟨H7, hp7, _⟩
    simp (dsimp := false) only [go_sem, Nat.reduceAdd, Nat.reduceEqDiff, Nat.reduceMul, Nat.reduceLeDiff, Nat.reduceSub, Nat.reduceLT, ↓reduceIte, reduceCtorEq, List.reduceReplicate, List.flatten_cons, List.flatten_nil, List.append_nil, eq_self, Int.reduceLE, Int.reduceLT, Int.reduceToNat, Nat.min_eq_left, Int.reducePow, Int.reduceNeg, Int.reduceEq, i5]
    refine ⟨68 - (i + 1), by omega, i + 1, rfl, hlt, ?_, hp7, rfl⟩
    have e6 : l ++ recF d e (B.take (32 + 16 * i)) ++ V = l ++ recF d e (B.take (32 + 16 * (i + 1))) := by
      have e7 : B.take (32 + 16 * i + 16) = B.take (32 + 16 * i) ++ V := by rw [← hV]; exact List.take_add
      rw [show 32 + 16 * (i + 1) = (32 + 16 * i) + 16 by omega, e7]; simp [recF]
    rw [← e6]; exact H7
  obtain rfl : i = 68 := by omega
  have d0 : decide (((68 : Nat) : Int) < 68) = false := rfl
  rw [List.take_of_length_le (by omega)] at H6
  simp (dsimp := false) only [↓ir.renew_Put.l1.bw, go_sem, Nat.reduceAdd, Nat.reduceEqDiff, Nat.reduceMul, Nat.reduceLeDiff, Nat.reduceSub, Nat.reduceLT, ↓reduceIte, reduceCtorEq, List.reduceReplicate, List.flatten_cons, List.flatten_nil, List.append_nil, eq_self, Int.reduceLE, Int.reduceLT, Int.reduceToNat, Nat.min_eq_left, Int.reducePow, Int.reduceNeg, Int.reduceEq, d0]
  exact ⟨H6, hp6⟩
theorem rbytes_spec {h : AHeap} {X : List Int} {d e : Int} (hB : IsB X) (hBl : X.length = 32) (he0 : 0 ≤ e) (he1 : e < 4294967296) :
    SpecX Try.prog nG fn.renew_Record_bytes [.agg ⟨sgC d e X⟩] h fun v' h' => Pre h h' ∧ Ls h' 1 by8 v' (recF d e X) := by
  refine SpecX.of_body (ir.renew_Record_bytes.spec (Nat.le_of_ble_eq_true rfl)) ?_
  have ca : cellsA (.agg ⟨sgC d e X⟩) = some (sgC d e X) := rfl
  simp (dsimp := false) only [↓ir.renew_Record_bytes.bw, ir.renew_Record_bytes.rs, go_sem, Nat.reduceAdd, Nat.reduceEqDiff, Nat.reduceMul, Nat.reduceLeDiff, Nat.reduceSub, Nat.reduceLT, ↓reduceIte, reduceCtorEq, List.reduceReplicate, List.flatten_cons, List.flatten_nil, List.append_nil, eq_self, Int.reduceLE, Int.reduceLT, Int.reduceToNat, Nat.min_eq_left, Int.reducePow, Int.reduceNeg, Int.reduceEq, ca]
  have fb : Fx (h ++ [.row .fix (sgC d e X)]) h.length (sgC d e X) := Fx.here _ _ _
  have p0 := Pre.app h [.row .fix (sgC d e X)]
  generalize (h ++ [AObj.row .fix (sgC d e X)]) = h1 at fb p0 ⊢
  refine callV_x lay_spec ?_
  rintro _ h2 ⟨b, rfl, p2, H⟩
  have hb1 : h1.length ≤ b := H.new
  have fb1 := fb.lt
  have fb2 := fb.pre p2
  have r0 := fb2.rd (off := 0) (n := 1) (vs := [.int .i64 d]) rfl (by rw [sgC_len]; omega)
  have wa := and255 d
  simp (dsimp := false) only [go_sem, Nat.reduceAdd, Nat.reduceEqDiff, Nat.reduceMul, Nat.reduceLeDiff, Nat.reduceSub, Nat.reduceLT, ↓reduceIte, reduceCtorEq, List.reduceReplicate, List.flatten_cons, List.flatten_nil, List.append_nil, eq_self, Int.reduceLE, Int.reduceLT, Int.reduceToNat, Nat.min_eq_left, Int.reducePow, Int.reduceNeg, Int.reduceEq, r0, wa]
  refine callV_x (u8_spec H p2 (by omega) (by omega) (by simp)) ?_
  rintro _ h3 ⟨H3, p3, k3⟩
  have fb3 := k3.2 _ _ (by omega) fb2
  have r1 := fb3.rd (off := 1) (n := 1) (vs := [.int .u32 e]) rfl (by rw [sgC_len]; omega)
  have w1 : IntKind.u64.wrap e = e := by rw [IntKind.wrap_u64]; omega
  rw [be1] at H3
  simp (dsimp := false) only [go_sem, Nat.reduceAdd, Nat.reduceEqDiff, Nat.reduceMul, Nat.reduceLeDiff, Nat.reduceSub, Nat.reduceLT, ↓reduceIte, reduceCtorEq, List.reduceReplicate, List.flatten_cons, List.flatten_nil, List.append_nil, eq_self, Int.reduceLE, Int.reduceLT, Int.reduceToNat, Nat.min_eq_left, Int.reducePow, Int.reduceNeg, Int.reduceEq, r1, w1]
  refine callV_x (u32_spec H3 p3 he0 he1 (by simp)) ?_
  rintro _ h4 ⟨H4, p4, k4⟩
  have fb4 := k4.2 _ _ (by omega) fb3
  have r2 := sg_rdB fb4 (k := 0) (n := 16) (by omega)
  have ag2 : aggOf true (ik .u8 ((X.drop 0).take 16)) = some (.agg ⟨ik .u8 ((X.drop 0).take 16)⟩) := rfl
  simp (dsimp := false) only [go_sem, Nat.reduceAdd, Nat.reduceEqDiff, Nat.reduceMul, Nat.reduceLeDiff, Nat.reduceSub, Nat.reduceLT, ↓reduceIte, reduceCtorEq, List.reduceReplicate, List.flatten_cons, List.flatten_nil, List.append_nil, eq_self, Int.reduceLE, Int.reduceLT, Int.reduceToNat, Nat.min_eq_left, Int.reducePow, Int.reduceNeg, Int.reduceEq, r2, ag2]
  refine callV_x (osum_spec (D := X.take 16) H4 p4 (by rw [List.length_take]; omega) (hB.take _) (by simp [beF_len])) ?_
  rintro _ h5 ⟨H5, p5, k5⟩
  have fb5 := k5.2 _ _ (by omega) fb4
  have r3 := sg_rdB fb5 (k := 16) (n := 16) (by omega)
  have ag3 : aggOf true (ik .u8 ((X.drop 16).take 16)) = some (.agg ⟨ik .u8 ((X.drop 16).take 16)⟩) := rfl
  simp (dsimp := false) only [go_sem, Nat.reduceAdd, Nat.reduceEqDiff, Nat.reduceMul, Nat.reduceLeDiff, Nat.reduceSub, Nat.reduceLT, ↓reduceIte, reduceCtorEq, List.reduceReplicate, List.flatten_cons, List.flatten_nil, List.append_nil, eq_self, Int.reduceLE, Int.reduceLT, Int.reduceToNat, Nat.min_eq_left, Int.reducePow, Int.reduceNeg, Int.reduceEq, r3, ag3]
  refine callV_x (osum_spec (D := (X.drop 16).take 16) H5 p5 (by rw [List.length_take, List.length_drop]; omega) ((hB.drop _).take _) (by simp [beF_len]; omega)) ?_
  rintro _ h6 ⟨H6, p6, k6⟩
  have e6 : [] ++ [d % 256] ++ beF 4 e ++ X.take 16 ++ (X.drop 16).take 16 = recF d e X := by
    have : X = X.take 16 ++ (X.drop 16).take 16 := by
      rw [← List.take_add, List.take_of_length_le (by omega)]
    conv => rhs; rw [this]
    simp [recF]
  rw [e6] at H6
  simp (dsimp := false) only [go_sem, Nat.reduceAdd, Nat.reduceEqDiff, Nat.reduceMul, Nat.reduceLeDiff, Nat.reduceSub, Nat.reduceLT, ↓reduceIte, reduceCtorEq, List.reduceReplicate, List.flatten_cons, List.flatten_nil, List.append_nil, eq_self, Int.reduceLE, Int.reduceLT, Int.reduceToNat, Nat.min_eq_left, Int.reducePow, Int.reduceNeg, Int.reduceEq]
  refine callV_x (obytes_spec H6 (by rw [recF_len]; omega)) ?_
  rintro _ h7 ⟨p7, v7, rfl, l7⟩
  simp (dsimp := false) only [go_sem, Nat.reduceAdd, Nat.reduceEqDiff, Nat.reduceMul, Nat.reduceLeDiff, Nat.reduceSub, Nat.reduceLT, ↓reduceIte, reduceCtorEq, List.reduceReplicate, List.flatten_cons, List.flatten_nil, List.append_nil, eq_self, Int.reduceLE, Int.reduceLT, Int.reduceToNat, Nat.min_eq_left, Int.reducePow, Int.reduceNeg, Int.reduceEq]
  exact ⟨(p0.trans p6).trans p7, l7⟩
end Go.Proofs.YtbomppdiiaodbaaRRR.B
