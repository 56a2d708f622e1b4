/-
  Signed records, as the program's and as the document's: one and the same cells.
-/
import Derived.Test.YtbomppdiiaodbaaRRRFd10
import Derived.Test.YtbomppdiiaodbaaRRRIr12
namespace Go.Proofs.YtbomppdiiaodbaaRRR.B
open Go
set_option linter.unusedVariables false
set_option linter.unusedSimpArgs false
set_option maxRecDepth 100000
theorem build34 {d e : Int} {R N : List Int} (hR : R.length = 16) (hN : N.length = 16) : (if 1 ≤ (sgC 0 0 (irep 32 0)).length then
      if 2 ≤ ((sgC 0 0 (irep 32 0)).set 0 (Value.int IntKind.i64 d)).length then
        if (ik IntKind.u8 R).length = 16 ∧ 18 ≤ (((sgC 0 0 (irep 32 0)).set 0 (Value.int IntKind.i64 d)).set 1 (Value.int IntKind.u32 e)).length then
          if (ik IntKind.u8 N).length = 16 ∧ 34 ≤ (setC (((sgC 0 0 (irep 32 0)).set 0 (Value.int IntKind.i64 d)).set 1 (Value.int IntKind.u32 e)) 2 (ik IntKind.u8 R)).length then
            some (setC (setC (((sgC 0 0 (irep 32 0)).set 0 (Value.int IntKind.i64 d)).set 1 (Value.int IntKind.u32 e)) 2 (ik IntKind.u8 R)) 18 (ik IntKind.u8 N))
          else none
        else none
      else none
    else none) = some (sgC d e (R ++ N)) := by
  have e0 : ((sgC 0 0 (irep 32 0)).set 0 (.int .i64 d)).set 1 (.int .u32 e) = .int .i64 d :: .int .u32 e :: zrep 32 (.int .u8 0) := rfl
  have l0 : (Value.int .i64 d :: .int .u32 e :: zrep 32 (.int .u8 0)).length = 34 := by simp [zrep]
  have lR : (ik .u8 R).length = 16 := by rw [List.length_map, hR]
  rw [if_pos (by simp [sgC]), if_pos (by simp [sgC, irep]), e0, if_pos ⟨lR, by rw [l0]; decide⟩, if_pos ⟨by rw [List.length_map, hN], by rw [setC_length, l0]; decide⟩, rec_fill hR hN]
  rfl
theorem build1122 {d e : Int} {X S : List Int} (hX : X.length = 32) (hS : S.length = 1088) : (if (sgC d e X).length = 34 ∧ 34 ≤ (sgC 0 0 (irep 1120 0)).length then
      if (ik IntKind.u8 S).length = 1088 ∧ 1122 ≤ (setC (sgC 0 0 (irep 1120 0)) 0 (sgC d e X)).length then some (setC (setC (sgC 0 0 (irep 1120 0)) 0 (sgC d e X)) 34 (ik IntKind.u8 S)) else none
    else none) = some (sgC d e (X ++ S)) := by
  have l0 : (sgC 0 0 (irep 1120 0)).length = 1122 := by rw [sgC_len, irep_len]
  have e1 : setC (sgC 0 0 (irep 1120 0)) 0 (sgC d e X) = sgC d e (X ++ irep 1088 0) := sg_first hX
  rw [if_pos ⟨by rw [sgC_len, hX], by rw [l0]; decide⟩, if_pos ⟨by rw [List.length_map, hS], by rw [setC_length, l0]; exact Nat.le_refl _⟩, e1]
  have := sgC_set (d := d) (e := e) (X := X) (Y := irep 1088 0) (Z := []) (V := S) (k := 34) (by rw [hX]) (by rw [irep_len, hS])
  rw [List.append_nil, List.append_nil] at this
  rw [this]
theorem fill16 {B V : List Int} {i : Nat} (hl : B.length = 1088) (hlt : i < 68) (hV : (B.drop (16 * i)).take 16 = V) : setC (ik .u8 (B.take (16 * i) ++ irep (1088 - 16 * i) 0)) (i * 16) (ik .u8 V) = ik .u8 (B.take (16 * (i + 1)) ++ irep (1088 - 16 * (i + 1)) 0) := by
  have hVl : V.length = 16 := by rw [← hV, List.length_take, List.length_drop]; omega
  have e1 : irep (1088 - 16 * i) 0 = irep 16 0 ++ irep (1088 - 16 * (i + 1)) 0 := by rw [← irep_add]; congr 1; omega
  have := setC_mid (a := ik .u8 (B.take (16 * i))) (b := ik .u8 (irep 16 0)) (c := ik .u8 (irep (1088 - 16 * (i + 1)) 0)) (v := ik .u8 V) (by rw [List.length_map, List.length_map, irep_len, hVl])
  rw [List.length_map, List.length_take, Nat.min_eq_left (by omega), Nat.mul_comm 16 i] at this
  have e2 : B.take (16 * (i + 1)) = B.take (16 * i) ++ V := by rw [← hV, ← List.take_add]; congr 1
  rw [e1, e2, ik, List.map_append, List.map_append, ← List.append_assoc, Nat.mul_comm 16 i, this]
  simp
theorem toSig_spec {h : AHeap} {B : List Int} (hl : B.length = 1088) : Spec Try.prog nG fn.law10_ToSig [.agg ⟨ik .u8 B⟩] h (.agg ⟨ik .u8 B⟩) h := by
  refine SpecX.ag (ik_scalar _ _) (SpecX.of_body (ir.law10_ToSig.spec (Nat.le_of_ble_eq_true rfl)) ?_)
  have ca : cellsA (.agg ⟨ik .u8 B⟩) = some (ik .u8 B) := rfl
  simp (dsimp := false) only [↓ir.law10_ToSig.bw, ir.law10_ToSig.rs, go_sem, Nat.reduceAdd, Nat.reduceEqDiff, Nat.reduceMul, Nat.reduceLeDiff, Nat.reduceSub, Nat.reduceLT, ↓reduceIte, reduceCtorEq, List.reduceReplicate, List.flatten_cons, List.flatten_nil, List.append_nil, eq_self, Int.reduceLE, Int.reduceLT, Int.reduceToNat, Nat.min_eq_left, Int.reducePow, Int.reduceNeg, Int.reduceEq, ca, zrep_ik]
  have p0 := Pre.app h [.row .fix (ik .u8 B), .row .fix (ik .u8 (irep 1088 0)), .row .fix (ik .u8 (irep 1088 0))]
  have f1 : Fx (h ++ [.row .fix (ik .u8 B), .row .fix (ik .u8 (irep 1088 0)), .row .fix (ik .u8 (irep 1088 0))]) h.length (ik .u8 B) := by simp [Fx]
  have f2 : Fx (h ++ [.row .fix (ik .u8 B), .row .fix (ik .u8 (irep 1088 0)), .row .fix (ik .u8 (irep 1088 0))]) (h.length + 1) (ik .u8 (irep 1088 0)) := by simp [Fx]
  have f3 : Fx (h ++ [.row .fix (ik .u8 B), .row .fix (ik .u8 (irep 1088 0)), .row .fix (ik .u8 (irep 1088 0))]) (h.length + 2) (ik .u8 (B.take (16 * 0) ++ irep (1088 - 16 * 0) 0)) := by simp [Fx]
  generalize (h ++ [AObj.row .fix (ik .u8 B), .row .fix (ik .u8 (irep 1088 0)), .row .fix (ik .u8 (irep 1088 0))]) = h1 at p0 f1 f2 f3 ⊢
  refine loopV_of (fun m' e h2 => ∃ i : Nat, m' = 68 - i ∧ i ≤ 68 ∧ Pre h h2 ∧ Fx h2 h.length (ik .u8 B) ∧ Fx h2 (h.length + 1) (ik .u8 (irep 1088 0)) ∧ Fx h2 (h.length + 2) (ik .u8 (B.take (16 * i) ++ irep (1088 - 16 * i) 0)) ∧
    e = [(1, .pointer (some ⟨h.length, 0, none⟩)), (2, .pointer (some ⟨h.length + 1, 0, none⟩)), (3, .pointer (some ⟨h.length + 2, 0, none⟩)), (5, .int .i64 (i : Int))]) _ ⟨0, rfl, Nat.zero_le _, p0, f1, f2, f3, rfl⟩ ?_
  clear p0 f1 f2 f3
  rintro m' e h2 ⟨i, rfl, hi, p0, f1, f2, f3, rfl⟩
  rcases Nat.lt_or_ge i 68 with hlt | hge
  case inl =>
    have d0 : decide ((i : Int) < 68) = true := decide_eq_true (by omega)
    have i5 : IntKind.i64.wrap ((i : Int) + 1) = ((i + 1 : Nat) : Int) := wrap_succ hlt (by unfold maxI; omega)
    obtain ⟨V, hV⟩ : ∃ V, (B.drop (16 * i)).take 16 = V := ⟨_, rfl⟩
    have hVl : V.length = 16 := by rw [← hV, List.length_take, List.length_drop]; omega
    have rm := f1.rd (off := i * 16) (n := 16) (vs := ik .u8 V) (by rw [← hV, ← List.map_drop, ← List.map_take, Nat.mul_comm]) (by rw [List.length_map]; omega)
    have ag : aggOf true (ik .u8 V) = some (.agg ⟨ik .u8 V⟩) := rfl
    have ca2 : cellsA (.agg ⟨ik .u8 V⟩) = some (ik .u8 V) := rfl
    have hw := f3.wr (off := i * 16) (vs := ik .u8 V) (by rw [List.length_map, List.length_map, List.length_append, List.length_take, irep_len]; omega)
    rw [fill16 hl hlt hV] at hw
    simp (dsimp := false) only [↓ir.law10_ToSig.l1.bw, go_sem, Nat.reduceAdd, Nat.reduceEqDiff, Nat.reduceMul, Nat.reduceLeDiff, Nat.reduceSub, Nat.reduceLT, ↓reduceIte, reduceCtorEq, List.reduceReplicate, List.flatten_cons, List.flatten_nil, List.append_nil, eq_self, Int.reduceLE, Int.reduceLT, Int.reduceToNat, Nat.min_eq_left, Int.reducePow, Int.reduceNeg, Int.reduceEq, d0, Int.toNat_natCast, rm, ag, ca2, hw, i5]
    (repeat (with_reducible refine And.intro (by omega) ?_))
    refine ⟨by rw [List.length_map, hVl], ik_one _ _, ?_⟩
    exact ⟨68 - (i + 1), by omega, i + 1, rfl, hlt, p0.put (Nat.le_add_right _ _) _, f1.other (by omega) _, f2.other (by omega) _, f3.set _, rfl⟩
  obtain rfl : i = 68 := by omega
  have d0 : decide (((68 : Nat) : Int) < 68) = false := rfl
  have e4 : B.take (16 * 68) ++ irep (1088 - 16 * 68) 0 = B := by
    rw [List.take_of_length_le (by omega)]; simp [irep]
  rw [e4] at f3
  have hlF : (ik .u8 B).length = 1088 := by rw [List.length_map, hl]
  have r3 := f3.whole hlF
  have ag : aggOf true (ik .u8 B) = some (.agg ⟨ik .u8 B⟩) := rfl
  have hw := f2.over (vs := ik .u8 B) (by rw [hlF, List.length_map, irep_len])
  have rr := (f2.set (ik .u8 B)).whole hlF
  simp (dsimp := false) only [↓ir.law10_ToSig.l1.bw, go_sem, Nat.reduceAdd, Nat.reduceEqDiff, Nat.reduceMul, Nat.reduceLeDiff, Nat.reduceSub, Nat.reduceLT, ↓reduceIte, reduceCtorEq, List.reduceReplicate, List.flatten_cons, List.flatten_nil, List.append_nil, eq_self, Int.reduceLE, Int.reduceLT, Int.reduceToNat, Nat.min_eq_left, Int.reducePow, Int.reduceNeg, Int.reduceEq, d0, r3, ag, ca, hw, rr]
  exact ⟨hlF, ik_one _ _, p0.put (Nat.le_add_right _ _) _⟩
theorem fromSig_spec {h : AHeap} {B : List Int} (hl : B.length = 1088) : Spec Try.prog nG fn.law10_From [.agg ⟨ik .u8 B⟩] h (.agg ⟨ik .u8 B⟩) h := by
  refine SpecX.ag (ik_scalar _ _) (SpecX.of_body (ir.law10_From.spec (Nat.le_of_ble_eq_true rfl)) ?_)
  have ca : cellsA (.agg ⟨ik .u8 B⟩) = some (ik .u8 B) := rfl
  simp (dsimp := false) only [↓ir.law10_From.bw, ir.law10_From.rs, go_sem, Nat.reduceAdd, Nat.reduceEqDiff, Nat.reduceMul, Nat.reduceLeDiff, Nat.reduceSub, Nat.reduceLT, ↓reduceIte, reduceCtorEq, List.reduceReplicate, List.flatten_cons, List.flatten_nil, List.append_nil, eq_self, Int.reduceLE, Int.reduceLT, Int.reduceToNat, Nat.min_eq_left, Int.reducePow, Int.reduceNeg, Int.reduceEq, ca, zrep_ik]
  have p0 := Pre.app h [.row .fix (ik .u8 B), .row .fix (ik .u8 (irep 1088 0)), .row .fix (ik .u8 (irep 1088 0))]
  have f1 : Fx (h ++ [.row .fix (ik .u8 B), .row .fix (ik .u8 (irep 1088 0)), .row .fix (ik .u8 (irep 1088 0))]) h.length (ik .u8 B) := by simp [Fx]
  have f2 : Fx (h ++ [.row .fix (ik .u8 B), .row .fix (ik .u8 (irep 1088 0)), .row .fix (ik .u8 (irep 1088 0))]) (h.length + 1) (ik .u8 (irep 1088 0)) := by simp [Fx]
  have f3 : Fx (h ++ [.row .fix (ik .u8 B), .row .fix (ik .u8 (irep 1088 0)), .row .fix (ik .u8 (irep 1088 0))]) (h.length + 2) (ik .u8 (B.take (16 * 0) ++ irep (1088 - 16 * 0) 0)) := by simp [Fx]
  generalize (h ++ [AObj.row .fix (ik .u8 B), .row .fix (ik .u8 (irep 1088 0)), .row .fix (ik .u8 (irep 1088 0))]) = h1 at p0 f1 f2 f3 ⊢
  refine loopV_of (fun m' e h2 => ∃ i : Nat, m' = 68 - i ∧ i ≤ 68 ∧ Pre h h2 ∧ Fx h2 h.length (ik .u8 B) ∧ Fx h2 (h.length + 1) (ik .u8 (irep 1088 0)) ∧ Fx h2 (h.length + 2) (ik .u8 (B.take (16 * i) ++ irep (1088 - 16 * i) 0)) ∧
    e = [(1, .pointer (some ⟨h.length, 0, none⟩)), (2, .pointer (some ⟨h.length + 1, 0, none⟩)), (3, .pointer (some ⟨h.length + 2, 0, none⟩)), (5, .int .i64 (i : Int))]) _ ⟨0, rfl, Nat.zero_le _, p0, f1, f2, f3, rfl⟩ ?_
  clear p0 f1 f2 f3
  rintro m' e h2 ⟨i, rfl, hi, p0, f1, f2, f3, rfl⟩
  rcases Nat.lt_or_ge i 68 with hlt | hge
  case inl =>
    have d0 : decide ((i : Int) < 68) = true := decide_eq_true (by omega)
    have i5 : IntKind.i64.wrap ((i : Int) + 1) = ((i + 1 : Nat) : Int) := wrap_succ hlt (by unfold maxI; omega)
    obtain ⟨V, hV⟩ : ∃ V, (B.drop (16 * i)).take 16 = V := ⟨_, rfl⟩
    have hVl : V.length = 16 := by rw [← hV, List.length_take, List.length_drop]; omega
    have rm := f1.rd (off := i * 16) (n := 16) (vs := ik .u8 V) (by rw [← hV, ← List.map_drop, ← List.map_take, Nat.mul_comm]) (by rw [List.length_map]; omega)
    have ag : aggOf true (ik .u8 V) = some (.agg ⟨ik .u8 V⟩) := rfl
    have ca2 : cellsA (.agg ⟨ik .u8 V⟩) = some (ik .u8 V) := rfl
    have hw := f3.wr (off := i * 16) (vs := ik .u8 V) (by rw [List.length_map, List.length_map, List.length_append, List.length_take, irep_len]; omega)
    rw [fill16 hl hlt hV] at hw
    simp (dsimp := false) only [↓ir.law10_From.l1.bw, go_sem, Nat.reduceAdd, Nat.reduceEqDiff, Nat.reduceMul, Nat.reduceLeDiff, Nat.reduceSub, Nat.reduceLT, ↓reduceIte, reduceCtorEq, List.reduceReplicate, List.flatten_cons, List.flatten_nil, List.append_nil, eq_self, Int.reduceLE, Int.reduceLT, Int.reduceToNat, Nat.min_eq_left, Int.reducePow, Int.reduceNeg, Int.reduceEq, d0, Int.toNat_natCast, rm, ag, ca2, hw, i5]
    (repeat (with_reducible refine And.intro (by omega) ?_))
    refine ⟨by rw [List.length_map, hVl], ik_one _ _, ?_⟩
    exact ⟨68 - (i + 1), by omega, i + 1, rfl, hlt, p0.put (Nat.le_add_right _ _) _, f1.other (by omega) _, f2.other (by omega) _, f3.set _, rfl⟩
  obtain rfl : i = 68 := by omega
  have d0 : decide (((68 : Nat) : Int) < 68) = false := rfl
  have e4 : B.take (16 * 68) ++ irep (1088 - 16 * 68) 0 = B := by
    rw [List.take_of_length_le (by omega)]; simp [irep]
  rw [e4] at f3
  have hlF : (ik .u8 B).length = 1088 := by rw [List.length_map, hl]
  have r3 := f3.whole hlF
  have ag : aggOf true (ik .u8 B) = some (.agg ⟨ik .u8 B⟩) := rfl
  have hw := f2.over (vs := ik .u8 B) (by rw [hlF, List.length_map, irep_len])
  have rr := (f2.set (ik .u8 B)).whole hlF
  simp (dsimp := false) only [↓ir.law10_From.l1.bw, go_sem, Nat.reduceAdd, Nat.reduceEqDiff, Nat.reduceMul, Nat.reduceLeDiff, Nat.reduceSub, Nat.reduceLT, ↓reduceIte, reduceCtorEq, List.reduceReplicate, List.flatten_cons, List.flatten_nil, List.append_nil, eq_self, Int.reduceLE, Int.reduceLT, Int.reduceToNat, Nat.min_eq_left, Int.reducePow, Int.reduceNeg, Int.reduceEq, d0, r3, ag, ca, hw, rr]
  exact ⟨hlF, ik_one _ _, p0.put (Nat.le_add_right _ _) _⟩
theorem to_spec {h : AHeap} {B : List Int} {d e : Int} (hl : B.length = 1120) : Spec Try.prog nG fn.law11_To [.agg ⟨sgC d e B⟩] h (.agg ⟨sgC d e B⟩) h := by
  refine SpecX.ag (sgC_scalar _ _ _) (SpecX.of_body (ir.law11_To.spec (Nat.le_of_ble_eq_true rfl)) ?_)
  have ca : cellsA (.agg ⟨sgC d e B⟩) = some (sgC d e B) := rfl
  have hsl : (sgC d e B).length = 1122 := by rw [sgC_len, hl]
  have f0 : Fx (h ++ [.row .fix (sgC d e B), .row .fix (sgC 0 0 (irep 1120 0))]) h.length (sgC d e B) := Fx.here _ _ _
  have f2 : Fx (h ++ [.row .fix (sgC d e B), .row .fix (sgC 0 0 (irep 1120 0))]) (h.length + 1) (sgC 0 0 (irep 1120 0)) := by simp [Fx]
  have p0 := Pre.app h [.row .fix (sgC d e B), .row .fix (sgC 0 0 (irep 1120 0))]
  have r0 := f0.rd (off := 0) (n := 1) (vs := [.int .i64 d]) rfl (by rw [sgC_len]; omega)
  have r1 := f0.rd (off := 1) (n := 1) (vs := [.int .u32 e]) rfl (by rw [sgC_len]; omega)
  have r2 := sg_rdB f0 (k := 0) (n := 16) (by omega)
  have r3 := sg_rdB f0 (k := 16) (n := 16) (by omega)
  have r4 := sg_rdB f0 (k := 32) (n := 1088) (by omega)
  have ev : sgC d e B = sgC d e ((B.drop 0).take 16 ++ (B.drop 16).take 16 ++ (B.drop 32).take 1088) := by
    congr 1
    rw [List.drop_zero, ← List.take_add, List.take_of_length_le (l := B.drop 32) (by rw [List.length_drop]; omega), List.take_append_drop]
  obtain ⟨R, hR⟩ : ∃ R, (B.drop 0).take 16 = R := ⟨_, rfl⟩
  obtain ⟨N, hN⟩ : ∃ N, (B.drop 16).take 16 = N := ⟨_, rfl⟩
  obtain ⟨S, hS⟩ : ∃ S, (B.drop 32).take 1088 = S := ⟨_, rfl⟩
  have hRl : R.length = 16 := by rw [← hR, List.length_take, List.length_drop]; omega
  have hNl : N.length = 16 := by rw [← hN, List.length_take, List.length_drop]; omega
  have hSl : S.length = 1088 := by rw [← hS, List.length_take, List.length_drop]; omega
  rw [hR] at r2; rw [hN] at r3; rw [hS] at r4; rw [hR, hN, hS] at ev
  have agR : aggOf true (ik .u8 R) = some (.agg ⟨ik .u8 R⟩) := rfl
  have agN : aggOf true (ik .u8 N) = some (.agg ⟨ik .u8 N⟩) := rfl
  have agS : aggOf true (ik .u8 S) = some (.agg ⟨ik .u8 S⟩) := rfl
  have caR : cellsA (.agg ⟨ik .u8 R⟩) = some (ik .u8 R) := rfl
  have caN : cellsA (.agg ⟨ik .u8 N⟩) = some (ik .u8 N) := rfl
  have caS : cellsA (.agg ⟨ik .u8 S⟩) = some (ik .u8 S) := rfl
  have q1 : (if 1 ≤ (sgC d e B).length then some (List.take 1 (sgC d e B)) else none).bind (aggOf false) = some (.int .i64 d) := by
    rw [if_pos (by omega)]; rfl
  have q2 : (if 2 ≤ (sgC d e B).length then some (List.take 1 (List.drop 1 (sgC d e B))) else none).bind (aggOf false) = some (.int .u32 e) := by
    rw [if_pos (by omega)]; rfl
  have hdr : ∀ k : Nat, (sgC d e B).drop (2 + k) = ik .u8 (B.drop k) := fun k => by
    rw [Nat.add_comm]
    show (ik .u8 B).drop k = _
    simp
  have q3 : (if 18 ≤ (sgC d e B).length then some (List.take 16 (List.drop 2 (sgC d e B))) else none).bind (aggOf true) = some (.agg ⟨ik .u8 R⟩) := by
    rw [if_pos (by omega), hdr 0, ← List.map_take, hR]; rfl
  have q4 : (if 34 ≤ (sgC d e B).length then some (List.take 16 (List.drop 18 (sgC d e B))) else none).bind (aggOf true) = some (.agg ⟨ik .u8 N⟩) := by
    rw [if_pos (by omega), hdr 16, ← List.map_take, hN]; rfl
  have q5 : (if 1122 ≤ (sgC d e B).length then some (List.take 1088 (List.drop 34 (sgC d e B))) else none).bind (aggOf true) = some (.agg ⟨ik .u8 S⟩) := by
    rw [if_pos (by omega), hdr 32, ← List.map_take, hS]; rfl
  simp (dsimp := false) only [↓ir.law11_To.bw, ir.law11_To.rs, go_sem, Nat.reduceAdd, Nat.reduceEqDiff, Nat.reduceMul, Nat.reduceLeDiff, Nat.reduceSub, Nat.reduceLT, ↓reduceIte, reduceCtorEq, List.reduceReplicate, List.flatten_cons, List.flatten_nil, List.append_nil, eq_self, Int.reduceLE, Int.reduceLT, Int.reduceToNat, Nat.min_eq_left, Int.reducePow, Int.reduceNeg, Int.reduceEq, ca, zsg, q1, q2, q3, q4, q5, caR, caN, caS]
  rw [build34 hRl hNl]
  simp (dsimp := false) only [go_sem, Nat.reduceAdd, Nat.reduceEqDiff, Nat.reduceMul, Nat.reduceLeDiff, Nat.reduceSub, Nat.reduceLT, ↓reduceIte, reduceCtorEq, List.reduceReplicate, List.flatten_cons, List.flatten_nil, List.append_nil, eq_self, Int.reduceLE, Int.reduceLT, Int.reduceToNat, Nat.min_eq_left, Int.reducePow, Int.reduceNeg, Int.reduceEq, q5]
  have p1 := p0
  generalize (h ++ [AObj.row .fix (sgC d e B), .row .fix (sgC 0 0 (irep 1120 0))]) = h1 at f0 f2 p0 ⊢
  refine callV_of (toSig_spec hSl) ?_
  refine ⟨.refl _, ?_⟩
  have ca34 : cellsA (.agg ⟨sgC d e (R ++ N)⟩) = some (sgC d e (R ++ N)) := rfl
  simp (dsimp := false) only [go_sem, Nat.reduceAdd, Nat.reduceEqDiff, Nat.reduceMul, Nat.reduceLeDiff, Nat.reduceSub, Nat.reduceLT, ↓reduceIte, reduceCtorEq, List.reduceReplicate, List.flatten_cons, List.flatten_nil, List.append_nil, eq_self, Int.reduceLE, Int.reduceLT, Int.reduceToNat, Nat.min_eq_left, Int.reducePow, Int.reduceNeg, Int.reduceEq, zsg, ca34, caS]
  rw [build1122 (by rw [List.length_append, hRl, hNl]) hSl, ← ev]
  have hw := f2.over (vs := sgC d e B) (by rw [sgC_len, irep_len, hsl])
  have rr := (f2.set (sgC d e B)).whole hsl
  simp (dsimp := false) only [go_sem, Nat.reduceAdd, Nat.reduceEqDiff, Nat.reduceMul, Nat.reduceLeDiff, Nat.reduceSub, Nat.reduceLT, ↓reduceIte, reduceCtorEq, List.reduceReplicate, List.flatten_cons, List.flatten_nil, List.append_nil, eq_self, Int.reduceLE, Int.reduceLT, Int.reduceToNat, Nat.min_eq_left, Int.reducePow, Int.reduceNeg, Int.reduceEq, ca, hw, rr, aggOf, hsl]
  exact ⟨sgC_one _ _ _, p0.put (by omega) _⟩
theorem from_spec {h : AHeap} {B : List Int} {d e : Int} (hl : B.length = 1120) : Spec Try.prog nG fn.law11_From [.agg ⟨sgC d e B⟩] h (.agg ⟨sgC d e B⟩) h := by
  refine SpecX.ag (sgC_scalar _ _ _) (SpecX.of_body (ir.law11_From.spec (Nat.le_of_ble_eq_true rfl)) ?_)
  have ca : cellsA (.agg ⟨sgC d e B⟩) = some (sgC d e B) := rfl
  have hsl : (sgC d e B).length = 1122 := by rw [sgC_len, hl]
  have f0 : Fx (h ++ [.row .fix (sgC d e B), .row .fix (sgC 0 0 (irep 1120 0))]) h.length (sgC d e B) := Fx.here _ _ _
  have f2 : Fx (h ++ [.row .fix (sgC d e B), .row .fix (sgC 0 0 (irep 1120 0))]) (h.length + 1) (sgC 0 0 (irep 1120 0)) := by simp [Fx]
  have p0 := Pre.app h [.row .fix (sgC d e B), .row .fix (sgC 0 0 (irep 1120 0))]
  have r0 := f0.rd (off := 0) (n := 1) (vs := [.int .i64 d]) rfl (by rw [sgC_len]; omega)
  have r1 := f0.rd (off := 1) (n := 1) (vs := [.int .u32 e]) rfl (by rw [sgC_len]; omega)
  have r2 := sg_rdB f0 (k := 0) (n := 16) (by omega)
  have r3 := sg_rdB f0 (k := 16) (n := 16) (by omega)
  have r4 := sg_rdB f0 (k := 32) (n := 1088) (by omega)
  have ev : sgC d e B = sgC d e ((B.drop 0).take 16 ++ (B.drop 16).take 16 ++ (B.drop 32).take 1088) := by
    congr 1
    rw [List.drop_zero, ← List.take_add, List.take_of_length_le (l := B.drop 32) (by rw [List.length_drop]; omega), List.take_append_drop]
  obtain ⟨R, hR⟩ : ∃ R, (B.drop 0).take 16 = R := ⟨_, rfl⟩
  obtain ⟨N, hN⟩ : ∃ N, (B.drop 16).take 16 = N := ⟨_, rfl⟩
  obtain ⟨S, hS⟩ : ∃ S, (B.drop 32).take 1088 = S := ⟨_, rfl⟩
  have hRl : R.length = 16 := by rw [← hR, List.length_take, List.length_drop]; omega
  have hNl : N.length = 16 := by rw [← hN, List.length_take, List.length_drop]; omega
  have hSl : S.length = 1088 := by rw [← hS, List.length_take, List.length_drop]; omega
  rw [hR] at r2; rw [hN] at r3; rw [hS] at r4; rw [hR, hN, hS] at ev
  have agR : aggOf true (ik .u8 R) = some (.agg ⟨ik .u8 R⟩) := rfl
  have agN : aggOf true (ik .u8 N) = some (.agg ⟨ik .u8 N⟩) := rfl
  have agS : aggOf true (ik .u8 S) = some (.agg ⟨ik .u8 S⟩) := rfl
  have caR : cellsA (.agg ⟨ik .u8 R⟩) = some (ik .u8 R) := rfl
  have caN : cellsA (.agg ⟨ik .u8 N⟩) = some (ik .u8 N) := rfl
  have caS : cellsA (.agg ⟨ik .u8 S⟩) = some (ik .u8 S) := rfl
  have q1 : (if 1 ≤ (sgC d e B).length then some (List.take 1 (sgC d e B)) else none).bind (aggOf false) = some (.int .i64 d) := by
    rw [if_pos (by omega)]; rfl
  have q2 : (if 2 ≤ (sgC d e B).length then some (List.take 1 (List.drop 1 (sgC d e B))) else none).bind (aggOf false) = some (.int .u32 e) := by
    rw [if_pos (by omega)]; rfl
  have hdr : ∀ k : Nat, (sgC d e B).drop (2 + k) = ik .u8 (B.drop k) := fun k => by
    rw [Nat.add_comm]
    show (ik .u8 B).drop k = _
    simp
  have q3 : (if 18 ≤ (sgC d e B).length then some (List.take 16 (List.drop 2 (sgC d e B))) else none).bind (aggOf true) = some (.agg ⟨ik .u8 R⟩) := by
    rw [if_pos (by omega), hdr 0, ← List.map_take, hR]; rfl
  have q4 : (if 34 ≤ (sgC d e B).length then some (List.take 16 (List.drop 18 (sgC d e B))) else none).bind (aggOf true) = some (.agg ⟨ik .u8 N⟩) := by
    rw [if_pos (by omega), hdr 16, ← List.map_take, hN]; rfl
  have q5 : (if 1122 ≤ (sgC d e B).length then some (List.take 1088 (List.drop 34 (sgC d e B))) else none).bind (aggOf true) = some (.agg ⟨ik .u8 S⟩) := by
    rw [if_pos (by omega), hdr 32, ← List.map_take, hS]; rfl
  simp (dsimp := false) only [↓ir.law11_From.bw, ir.law11_From.rs, go_sem, Nat.reduceAdd, Nat.reduceEqDiff, Nat.reduceMul, Nat.reduceLeDiff, Nat.reduceSub, Nat.reduceLT, ↓reduceIte, reduceCtorEq, List.reduceReplicate, List.flatten_cons, List.flatten_nil, List.append_nil, eq_self, Int.reduceLE, Int.reduceLT, Int.reduceToNat, Nat.min_eq_left, Int.reducePow, Int.reduceNeg, Int.reduceEq, ca, zsg, q1, q2, q3, q4, q5, caR, caN, caS]
  rw [build34 hRl hNl]
  simp (dsimp := false) only [go_sem, Nat.reduceAdd, Nat.reduceEqDiff, Nat.reduceMul, Nat.reduceLeDiff, Nat.reduceSub, Nat.reduceLT, ↓reduceIte, reduceCtorEq, List.reduceReplicate, List.flatten_cons, List.flatten_nil, List.append_nil, eq_self, Int.reduceLE, Int.reduceLT, Int.reduceToNat, Nat.min_eq_left, Int.reducePow, Int.reduceNeg, Int.reduceEq, q5]
  have p1 := p0
  generalize (h ++ [AObj.row .fix (sgC d e B), .row .fix (sgC 0 0 (irep 1120 0))]) = h1 at f0 f2 p0 ⊢
  refine callV_of (fromSig_spec hSl) ?_
  refine ⟨.refl _, ?_⟩
  have ca34 : cellsA (.agg ⟨sgC d e (R ++ N)⟩) = some (sgC d e (R ++ N)) := rfl
  simp (dsimp := false) only [go_sem, Nat.reduceAdd, Nat.reduceEqDiff, Nat.reduceMul, Nat.reduceLeDiff, Nat.reduceSub, Nat.reduceLT, ↓reduceIte, reduceCtorEq, List.reduceReplicate, List.flatten_cons, List.flatten_nil, List.append_nil, eq_self, Int.reduceLE, Int.reduceLT, Int.reduceToNat, Nat.min_eq_left, Int.reducePow, Int.reduceNeg, Int.reduceEq, zsg, ca34, caS]
  rw [build1122 (by rw [List.length_append, hRl, hNl]) hSl, ← ev]
  have hw := f2.over (vs := sgC d e B) (by rw [sgC_len, irep_len, hsl])
  have rr := (f2.set (sgC d e B)).whole hsl
  simp (dsimp := false) only [go_sem, Nat.reduceAdd, Nat.reduceEqDiff, Nat.reduceMul, Nat.reduceLeDiff, Nat.reduceSub, Nat.reduceLT, ↓reduceIte, reduceCtorEq, List.reduceReplicate, List.flatten_cons, List.flatten_nil, List.append_nil, eq_self, Int.reduceLE, Int.reduceLT, Int.reduceToNat, Nat.min_eq_left, Int.reducePow, Int.reduceNeg, Int.reduceEq, ca, hw, rr, aggOf, hsl]
  exact ⟨sgC_one _ _ _, p0.put (by omega) _⟩
end Go.Proofs.YtbomppdiiaodbaaRRR.B
