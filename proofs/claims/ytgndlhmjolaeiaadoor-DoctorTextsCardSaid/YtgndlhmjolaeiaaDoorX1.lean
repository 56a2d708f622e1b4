/-
  Layer 33: complaints' names and texts.
-/
import Derived.Test.YtgndlhmjolaeiaaDoorIr33
import Derived.Test.YtgndlhmjolaeiaaDoorSn
namespace Go.Proofs.YtgndlhmjolaeiaaDoor.B
open Go
set_option linter.unusedVariables false
set_option linter.unusedSimpArgs false
/-- The complaints' names. -/
def doctorB : List ByteArray := [⟨#[108, 111, 111, 112]⟩, lit_7b13b58c, lit_7c9fc865, ⟨#[110, 111, 32, 108, 105, 110, 107]⟩, ⟨#[116, 111, 111, 32, 110, 101, 97, 114]⟩, lit_b9a18a03, ⟨#[116, 111, 32, 105, 116, 115, 101, 108, 102]⟩]
abbrev doctorNames : List Value := doctorB.map Value.string
def powRow : List Value := (List.range 20).map fun i => .int .u64 ((10 ^ i : Nat) : Int)
def hD : AHeap := [.dead, .dead, .row .ro doctorNames, .row .ro powRow, .dead, .dead, .dead]
structure DoctorV (h : AHeap) : Prop where
  names : h[gv.doctor_names]? = some (.row .ro doctorNames)
  pow : h[gv.internal_strconv_uint64pow10]? = some (.row .ro powRow)
theorem get_pre {h h' : AHeap} (p : Pre h h') {b : Nat} {o : AObj} (k : h[b]? = some o) : h'[b]? = some o := by rw [p.get (List.getElem?_eq_some_iff.1 k).1]; exact k
theorem DoctorV.pre {h h' : AHeap} (p : Pre h h') (k : DoctorV h) : DoctorV h' := ⟨get_pre p k.names, get_pre p k.pow⟩
theorem DoctorV.powV {h : AHeap} (k : DoctorV h) : PowV h := by
  have := k.pow
  unfold PowV rds
  rw [this]; rfl
set_option maxRecDepth 100000 in
theorem awake33_spec {h : AHeap} (k : DoctorV h) : Spec Tryd.prog nG fn.law33_awake [] h (.bool true) h := by
  refine Spec.of_run (h0 := hD) (m := 1000) (n := 20) tbl.law33_awake.ok rfl rfl (by kernel_rfl) rfl (fun b o hb ho => ?_) (by kernel_rfl)
  match b, hb with
  | 2, hb => cases hb; exact k.names
  | 3, hb => cases hb; exact k.pow
  | 0, hb => cases hb; exact absurd rfl ho
  | 1, hb => cases hb; exact absurd rfl ho
  | 4, hb => cases hb; exact absurd rfl ho
  | 5, hb => cases hb; exact absurd rfl ho
  | 6, hb => cases hb; exact absurd rfl ho
theorem dname_spec {h : AHeap} (k : DoctorV h) (n : Int) : Spec Tryd.prog nG fn.doctor_Name [.int .i64 n] h (.string (nmS doctorB n)) h := by
  apply ir.doctor_Name.spec (Nat.le_of_ble_eq_true rfl)
  have hl : doctorB.length = 7 := rfl
  have r0 : 0 ≤ n ∧ n < 7 → rds h 2 n.toNat 1 = some [.string (nmS doctorB n)] := fun hn => nm_rds k.names (by omega)
  simp (dsimp := false) only [↓ir.doctor_Name.bw, ir.doctor_Name.rs, ↓ir.doctor_Name.r0.w, ↓ir.doctor_Name.r1.w, ↓ir.doctor_Name.r2.w, ↓ir.doctor_Name.r3.w, ir.doctor_Name.rs, go_sem, Nat.reduceAdd, Nat.reduceEqDiff, Nat.reduceMul, Nat.reduceLeDiff, Nat.reduceSub, Nat.reduceLT, ↓reduceIte, reduceCtorEq, List.reduceReplicate, List.flatten_cons, List.flatten_nil, List.append_nil, eq_self, Int.reduceLE, Int.reduceLT, Int.reduceToNat, Nat.min_eq_left, Int.reducePow, Int.reduceNeg, Int.reduceEq]
  refine gFd (fun c => ?_) (fun c => ?_)
  · simp (dsimp := false) only [↓ir.doctor_Name.r0.w, ↓ir.doctor_Name.r1.w, ↓ir.doctor_Name.r2.w, ↓ir.doctor_Name.r3.w, ir.doctor_Name.rs, go_sem, Nat.reduceAdd, Nat.reduceEqDiff, Nat.reduceMul, Nat.reduceLeDiff, Nat.reduceSub, Nat.reduceLT, ↓reduceIte, reduceCtorEq, List.reduceReplicate, List.flatten_cons, List.flatten_nil, List.append_nil, eq_self, Int.reduceLE, Int.reduceLT, Int.reduceToNat, Nat.min_eq_left, Int.reducePow, Int.reduceNeg, Int.reduceEq]
    exact Fin.sc0 (by rw [nmS_out (by omega)])
  · simp (dsimp := false) only [↓ir.doctor_Name.r0.w, ↓ir.doctor_Name.r1.w, ↓ir.doctor_Name.r2.w, ↓ir.doctor_Name.r3.w, ir.doctor_Name.rs, go_sem, Nat.reduceAdd, Nat.reduceEqDiff, Nat.reduceMul, Nat.reduceLeDiff, Nat.reduceSub, Nat.reduceLT, ↓reduceIte, reduceCtorEq, List.reduceReplicate, List.flatten_cons, List.flatten_nil, List.append_nil, eq_self, Int.reduceLE, Int.reduceLT, Int.reduceToNat, Nat.min_eq_left, Int.reducePow, Int.reduceNeg, Int.reduceEq]
    refine cVd (fun c2 => ?_) (fun c2 => ?_)
    · simp (dsimp := false) only [↓ir.doctor_Name.r0.w, ↓ir.doctor_Name.r1.w, ↓ir.doctor_Name.r2.w, ↓ir.doctor_Name.r3.w, ir.doctor_Name.rs, go_sem, Nat.reduceAdd, Nat.reduceEqDiff, Nat.reduceMul, Nat.reduceLeDiff, Nat.reduceSub, Nat.reduceLT, ↓reduceIte, reduceCtorEq, List.reduceReplicate, List.flatten_cons, List.flatten_nil, List.append_nil, eq_self, Int.reduceLE, Int.reduceLT, Int.reduceToNat, Nat.min_eq_left, Int.reducePow, Int.reduceNeg, Int.reduceEq]
      exact Fin.sc0 (by rw [nmS_out (by omega)])
    · simp (dsimp := false) only [↓ir.doctor_Name.r0.w, ↓ir.doctor_Name.r1.w, ↓ir.doctor_Name.r2.w, ↓ir.doctor_Name.r3.w, ir.doctor_Name.rs, go_sem, Nat.reduceAdd, Nat.reduceEqDiff, Nat.reduceMul, Nat.reduceLeDiff, Nat.reduceSub, Nat.reduceLT, ↓reduceIte, reduceCtorEq, List.reduceReplicate, List.flatten_cons, List.flatten_nil, List.append_nil, eq_self, Int.reduceLE, Int.reduceLT, Int.reduceToNat, Nat.min_eq_left, Int.reducePow, Int.reduceNeg, Int.reduceEq, ixaV_ptr, r0 (by omega), Nat.zero_add, Nat.mul_one]
      exact ⟨by omega, .inl ⟨rfl, rfl⟩⟩
theorem rname33_spec (h : AHeap) (n : Int) : Spec Tryd.prog nG fn.ref33_Name [.int .i64 n] h (.string (nmS doctorB n)) h := by
  apply ir.ref33_Name.spec (Nat.le_of_ble_eq_true rfl)
  have hl : doctorB.length = 7 := rfl
  have hd : doctorNames = [.string ⟨#[108, 111, 111, 112]⟩, .string lit_7b13b58c, .string lit_7c9fc865, .string ⟨#[110, 111, 32, 108, 105, 110, 107]⟩, .string ⟨#[116, 111, 111, 32, 110, 101, 97, 114]⟩, .string lit_b9a18a03, .string ⟨#[116, 111, 32, 105, 116, 115, 101, 108, 102]⟩] := rfl
  have r0 : 0 ≤ n ∧ n < 7 → rds (h ++ [.row (.grow 1) doctorNames]) h.length n.toNat 1 = some [.string (nmS doctorB n)] := fun hn => nm_rds (m := .grow 1) (by simp) (by omega)
  rw [hd] at r0
  simp (dsimp := false) only [↓ir.ref33_Name.bw, ir.ref33_Name.rs, ↓ir.ref33_Name.r0.w, ↓ir.ref33_Name.r1.w, ↓ir.ref33_Name.r2.w, ↓ir.ref33_Name.r3.w, ↓ir.ref33_Name.r4.w, ir.ref33_Name.rs, go_sem, Nat.reduceAdd, Nat.reduceEqDiff, Nat.reduceMul, Nat.reduceLeDiff, Nat.reduceSub, Nat.reduceLT, ↓reduceIte, reduceCtorEq, List.reduceReplicate, List.flatten_cons, List.flatten_nil, List.append_nil, eq_self, Int.reduceLE, Int.reduceLT, Int.reduceToNat, Nat.min_eq_left, Int.reducePow, Int.reduceNeg, Int.reduceEq]
  refine gFd (fun c => ?_) (fun c => ?_)
  · simp (dsimp := false) only [↓ir.ref33_Name.r0.w, ↓ir.ref33_Name.r1.w, ↓ir.ref33_Name.r2.w, ↓ir.ref33_Name.r3.w, ↓ir.ref33_Name.r4.w, ir.ref33_Name.rs, go_sem, Nat.reduceAdd, Nat.reduceEqDiff, Nat.reduceMul, Nat.reduceLeDiff, Nat.reduceSub, Nat.reduceLT, ↓reduceIte, reduceCtorEq, List.reduceReplicate, List.flatten_cons, List.flatten_nil, List.append_nil, eq_self, Int.reduceLE, Int.reduceLT, Int.reduceToNat, Nat.min_eq_left, Int.reducePow, Int.reduceNeg, Int.reduceEq]
    exact Fin.sc rfl (by rw [nmS_out (by omega)])
  · simp (dsimp := false) only [↓ir.ref33_Name.r0.w, ↓ir.ref33_Name.r1.w, ↓ir.ref33_Name.r2.w, ↓ir.ref33_Name.r3.w, ↓ir.ref33_Name.r4.w, ir.ref33_Name.rs, go_sem, Nat.reduceAdd, Nat.reduceEqDiff, Nat.reduceMul, Nat.reduceLeDiff, Nat.reduceSub, Nat.reduceLT, ↓reduceIte, reduceCtorEq, List.reduceReplicate, List.flatten_cons, List.flatten_nil, List.append_nil, eq_self, Int.reduceLE, Int.reduceLT, Int.reduceToNat, Nat.min_eq_left, Int.reducePow, Int.reduceNeg, Int.reduceEq]
    refine cVd (fun c2 => ?_) (fun c2 => ?_)
    · simp (dsimp := false) only [↓ir.ref33_Name.r0.w, ↓ir.ref33_Name.r1.w, ↓ir.ref33_Name.r2.w, ↓ir.ref33_Name.r3.w, ↓ir.ref33_Name.r4.w, ir.ref33_Name.rs, go_sem, Nat.reduceAdd, Nat.reduceEqDiff, Nat.reduceMul, Nat.reduceLeDiff, Nat.reduceSub, Nat.reduceLT, ↓reduceIte, reduceCtorEq, List.reduceReplicate, List.flatten_cons, List.flatten_nil, List.append_nil, eq_self, Int.reduceLE, Int.reduceLT, Int.reduceToNat, Nat.min_eq_left, Int.reducePow, Int.reduceNeg, Int.reduceEq]
      exact Fin.sc rfl (by rw [nmS_out (by omega)])
    · simp (dsimp := false) only [↓ir.ref33_Name.r0.w, ↓ir.ref33_Name.r1.w, ↓ir.ref33_Name.r2.w, ↓ir.ref33_Name.r3.w, ↓ir.ref33_Name.r4.w, ir.ref33_Name.rs, go_sem, Nat.reduceAdd, Nat.reduceEqDiff, Nat.reduceMul, Nat.reduceLeDiff, Nat.reduceSub, Nat.reduceLT, ↓reduceIte, reduceCtorEq, List.reduceReplicate, List.flatten_cons, List.flatten_nil, List.append_nil, eq_self, Int.reduceLE, Int.reduceLT, Int.reduceToNat, Nat.min_eq_left, Int.reducePow, Int.reduceNeg, Int.reduceEq, ixsV_slice, r0 (by omega), Nat.zero_add, Nat.mul_one]
      exact ⟨by omega, Fin.sc rfl rfl⟩
def dtextS (w node dest : Int) : ByteArray := nmS doctorB w ++ ⟨#[58, 32]⟩ ++ wholeS node ++ ⟨#[32, 116, 111, 32]⟩ ++ wholeS dest
theorem dtext_spec {h : AHeap} (k : DoctorV h) {w node dest : Int} (h1 : -9223372036854775808 ≤ node ∧ node ≤ 9223372036854775807) (h2 : -9223372036854775808 ≤ dest ∧ dest ≤ 9223372036854775807) :
    Spec Tryd.prog nG fn.doctor_Text [.agg #[.int .i64 w, .int .i64 node, .int .i64 dest]] h (.string (dtextS w node dest)) h := by
  apply ir.doctor_Text.spec (Nat.le_of_ble_eq_true rfl)
  have k2 : ∀ g, DoctorV (h ++ g) := fun g => k.pre (.app _ _)
  obtain ⟨q, hq, z1⟩ : ∃ q, nmS doctorB w = q ∧ q.size ≤ 30 := ⟨_, rfl, nmS_size (by decide) w⟩
  have z2 := wholeS_size h1
  have z3 := wholeS_size h2
  simp (dsimp := false) only [↓ir.doctor_Text.bw, ir.doctor_Text.rs, ↓ir.doctor_Text.r0.w, ↓ir.doctor_Text.r1.w, ir.doctor_Text.rs, go_sem, Nat.reduceAdd, Nat.reduceEqDiff, Nat.reduceMul, Nat.reduceLeDiff, Nat.reduceSub, Nat.reduceLT, ↓reduceIte, reduceCtorEq, List.reduceReplicate, List.flatten_cons, List.flatten_nil, List.append_nil, eq_self, Int.reduceLE, Int.reduceLT, Int.reduceToNat, Nat.min_eq_left, Int.reducePow, Int.reduceNeg, Int.reduceEq]
  refine callV_of (dname_spec (k2 _) _) ?_
  rw [hq]
  simp (dsimp := false) only [↓ir.doctor_Text.r0.w, ↓ir.doctor_Text.r1.w, ir.doctor_Text.rs, go_sem, Nat.reduceAdd, Nat.reduceEqDiff, Nat.reduceMul, Nat.reduceLeDiff, Nat.reduceSub, Nat.reduceLT, ↓reduceIte, reduceCtorEq, List.reduceReplicate, List.flatten_cons, List.flatten_nil, List.append_nil, eq_self, Int.reduceLE, Int.reduceLT, Int.reduceToNat, Nat.min_eq_left, Int.reducePow, Int.reduceNeg, Int.reduceEq]
  repeat (refine ⟨by first | omega | exact Pre.two _ _ _ | (simp only [ByteArray.size_append, size_mk, List.size_toArray, List.length_cons, List.length_nil]; omega), ?_⟩)
  refine callV_of (itoa_spec (k2 _).powV h1) ?_
  simp (dsimp := false) only [↓ir.doctor_Text.r0.w, ↓ir.doctor_Text.r1.w, ir.doctor_Text.rs, go_sem, Nat.reduceAdd, Nat.reduceEqDiff, Nat.reduceMul, Nat.reduceLeDiff, Nat.reduceSub, Nat.reduceLT, ↓reduceIte, reduceCtorEq, List.reduceReplicate, List.flatten_cons, List.flatten_nil, List.append_nil, eq_self, Int.reduceLE, Int.reduceLT, Int.reduceToNat, Nat.min_eq_left, Int.reducePow, Int.reduceNeg, Int.reduceEq]
  repeat (refine ⟨by first | omega | exact Pre.two _ _ _ | (simp only [ByteArray.size_append, size_mk, List.size_toArray, List.length_cons, List.length_nil]; omega), ?_⟩)
  refine callV_of (itoa_spec (k2 _).powV h2) ?_
  simp (dsimp := false) only [↓ir.doctor_Text.r0.w, ↓ir.doctor_Text.r1.w, ir.doctor_Text.rs, go_sem, Nat.reduceAdd, Nat.reduceEqDiff, Nat.reduceMul, Nat.reduceLeDiff, Nat.reduceSub, Nat.reduceLT, ↓reduceIte, reduceCtorEq, List.reduceReplicate, List.flatten_cons, List.flatten_nil, List.append_nil, eq_self, Int.reduceLE, Int.reduceLT, Int.reduceToNat, Nat.min_eq_left, Int.reducePow, Int.reduceNeg, Int.reduceEq]
  repeat (refine ⟨by first | omega | exact Pre.two _ _ _ | (simp only [ByteArray.size_append, size_mk, List.size_toArray, List.length_cons, List.length_nil]; omega), ?_⟩)
  exact Fin.sc rfl (by simp only [dtextS, hq])
theorem doctorTexts_spec {h : AHeap} (k : DoctorV h) {w node dest : Int} (h1 : -9223372036854775808 ≤ node ∧ node ≤ 9223372036854775807) (h2 : -9223372036854775808 ≤ dest ∧ dest ≤ 9223372036854775807) :
    SpecX Tryd.prog nG fn.law33_DoctorTexts [.int .i64 w, .int .i64 node, .int .i64 dest] h fun v' _ => v' = .bool true := by
  refine SpecX.of_body (ir.law33_DoctorTexts.spec (Nat.le_of_ble_eq_true rfl)) ?_
  have k2 : ∀ g, DoctorV (h ++ g) := fun g => k.pre (.app _ _)
  obtain ⟨q, hq, z1⟩ : ∃ q, nmS doctorB w = q ∧ q.size ≤ 30 := ⟨_, rfl, nmS_size (by decide) w⟩
  have z2 := wholeS_size h1
  have z3 := wholeS_size h2
  simp (dsimp := false) only [↓ir.law33_DoctorTexts.bw, ir.law33_DoctorTexts.rs, ↓ir.law33_DoctorTexts.r0.w, ↓ir.law33_DoctorTexts.r1.w, ↓ir.law33_DoctorTexts.r2.w, ir.law33_DoctorTexts.rs, go_sem, Nat.reduceAdd, Nat.reduceEqDiff, Nat.reduceMul, Nat.reduceLeDiff, Nat.reduceSub, Nat.reduceLT, ↓reduceIte, reduceCtorEq, List.reduceReplicate, List.flatten_cons, List.flatten_nil, List.append_nil, eq_self, Int.reduceLE, Int.reduceLT, Int.reduceToNat, Nat.min_eq_left, Int.reducePow, Int.reduceNeg, Int.reduceEq]
  refine callV_of (awake33_spec (k2 _)) ?_
  simp (dsimp := false) only [↓ir.law33_DoctorTexts.r0.w, ↓ir.law33_DoctorTexts.r1.w, ↓ir.law33_DoctorTexts.r2.w, ir.law33_DoctorTexts.rs, go_sem, Nat.reduceAdd, Nat.reduceEqDiff, Nat.reduceMul, Nat.reduceLeDiff, Nat.reduceSub, Nat.reduceLT, ↓reduceIte, reduceCtorEq, List.reduceReplicate, List.flatten_cons, List.flatten_nil, List.append_nil, eq_self, Int.reduceLE, Int.reduceLT, Int.reduceToNat, Nat.min_eq_left, Int.reducePow, Int.reduceNeg, Int.reduceEq]
  refine callV_of (dname_spec (k2 _) _) ?_
  rw [hq]
  simp (dsimp := false) only [↓ir.law33_DoctorTexts.r0.w, ↓ir.law33_DoctorTexts.r1.w, ↓ir.law33_DoctorTexts.r2.w, ir.law33_DoctorTexts.rs, go_sem, Nat.reduceAdd, Nat.reduceEqDiff, Nat.reduceMul, Nat.reduceLeDiff, Nat.reduceSub, Nat.reduceLT, ↓reduceIte, reduceCtorEq, List.reduceReplicate, List.flatten_cons, List.flatten_nil, List.append_nil, eq_self, Int.reduceLE, Int.reduceLT, Int.reduceToNat, Nat.min_eq_left, Int.reducePow, Int.reduceNeg, Int.reduceEq]
  refine callV_of (rname33_spec _ _) ?_
  rw [hq]
  simp (dsimp := false) only [↓ir.law33_DoctorTexts.r0.w, ↓ir.law33_DoctorTexts.r1.w, ↓ir.law33_DoctorTexts.r2.w, ir.law33_DoctorTexts.rs, go_sem, Nat.reduceAdd, Nat.reduceEqDiff, Nat.reduceMul, Nat.reduceLeDiff, Nat.reduceSub, Nat.reduceLT, ↓reduceIte, reduceCtorEq, List.reduceReplicate, List.flatten_cons, List.flatten_nil, List.append_nil, eq_self, Int.reduceLE, Int.reduceLT, Int.reduceToNat, Nat.min_eq_left, Int.reducePow, Int.reduceNeg, Int.reduceEq, beq_self_eq_true]
  refine callV_of (dtext_spec (k2 _) h1 h2) ?_
  simp (dsimp := false) only [↓ir.law33_DoctorTexts.r0.w, ↓ir.law33_DoctorTexts.r1.w, ↓ir.law33_DoctorTexts.r2.w, ir.law33_DoctorTexts.rs, go_sem, Nat.reduceAdd, Nat.reduceEqDiff, Nat.reduceMul, Nat.reduceLeDiff, Nat.reduceSub, Nat.reduceLT, ↓reduceIte, reduceCtorEq, List.reduceReplicate, List.flatten_cons, List.flatten_nil, List.append_nil, eq_self, Int.reduceLE, Int.reduceLT, Int.reduceToNat, Nat.min_eq_left, Int.reducePow, Int.reduceNeg, Int.reduceEq]
  refine callV_of (rname33_spec _ _) ?_
  rw [hq]
  simp (dsimp := false) only [↓ir.law33_DoctorTexts.r0.w, ↓ir.law33_DoctorTexts.r1.w, ↓ir.law33_DoctorTexts.r2.w, ir.law33_DoctorTexts.rs, go_sem, Nat.reduceAdd, Nat.reduceEqDiff, Nat.reduceMul, Nat.reduceLeDiff, Nat.reduceSub, Nat.reduceLT, ↓reduceIte, reduceCtorEq, List.reduceReplicate, List.flatten_cons, List.flatten_nil, List.append_nil, eq_self, Int.reduceLE, Int.reduceLT, Int.reduceToNat, Nat.min_eq_left, Int.reducePow, Int.reduceNeg, Int.reduceEq]
  repeat (refine ⟨by first | omega | exact Pre.two _ _ _ | (simp only [ByteArray.size_append, size_mk, List.size_toArray, List.length_cons, List.length_nil]; omega), ?_⟩)
  refine callV_of (rwhole_spec _ h1) ?_
  simp (dsimp := false) only [↓ir.law33_DoctorTexts.r0.w, ↓ir.law33_DoctorTexts.r1.w, ↓ir.law33_DoctorTexts.r2.w, ir.law33_DoctorTexts.rs, go_sem, Nat.reduceAdd, Nat.reduceEqDiff, Nat.reduceMul, Nat.reduceLeDiff, Nat.reduceSub, Nat.reduceLT, ↓reduceIte, reduceCtorEq, List.reduceReplicate, List.flatten_cons, List.flatten_nil, List.append_nil, eq_self, Int.reduceLE, Int.reduceLT, Int.reduceToNat, Nat.min_eq_left, Int.reducePow, Int.reduceNeg, Int.reduceEq]
  repeat (refine ⟨by first | omega | exact Pre.two _ _ _ | (simp only [ByteArray.size_append, size_mk, List.size_toArray, List.length_cons, List.length_nil]; omega), ?_⟩)
  refine callV_of (rwhole_spec _ h2) ?_
  simp (dsimp := false) only [↓ir.law33_DoctorTexts.r0.w, ↓ir.law33_DoctorTexts.r1.w, ↓ir.law33_DoctorTexts.r2.w, ir.law33_DoctorTexts.rs, go_sem, Nat.reduceAdd, Nat.reduceEqDiff, Nat.reduceMul, Nat.reduceLeDiff, Nat.reduceSub, Nat.reduceLT, ↓reduceIte, reduceCtorEq, List.reduceReplicate, List.flatten_cons, List.flatten_nil, List.append_nil, eq_self, Int.reduceLE, Int.reduceLT, Int.reduceToNat, Nat.min_eq_left, Int.reducePow, Int.reduceNeg, Int.reduceEq]
  repeat (refine ⟨by first | omega | exact Pre.two _ _ _ | (simp only [ByteArray.size_append, size_mk, List.size_toArray, List.length_cons, List.length_nil]; omega), ?_⟩)
  simp (dsimp := false) only [↓ir.law33_DoctorTexts.r0.w, ↓ir.law33_DoctorTexts.r1.w, ↓ir.law33_DoctorTexts.r2.w, ir.law33_DoctorTexts.rs, go_sem, Nat.reduceAdd, Nat.reduceEqDiff, Nat.reduceMul, Nat.reduceLeDiff, Nat.reduceSub, Nat.reduceLT, ↓reduceIte, reduceCtorEq, List.reduceReplicate, List.flatten_cons, List.flatten_nil, List.append_nil, eq_self, Int.reduceLE, Int.reduceLT, Int.reduceToNat, Nat.min_eq_left, Int.reducePow, Int.reduceNeg, Int.reduceEq, dtextS, hq, beq_self_eq_true]
end Go.Proofs.YtgndlhmjolaeiaaDoor.B
