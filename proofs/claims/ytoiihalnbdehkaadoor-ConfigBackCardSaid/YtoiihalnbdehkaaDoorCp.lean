/-
  Layer 23: rules as a text, of both sides; P23.1, P23.2 and P23.3 as the laws say them.
-/
import Derived.Test.YtoiihalnbdehkaaDoorCl
import Derived.Test.YtoiihalnbdehkaaDoorCh
namespace Go.Proofs.YtoiihalnbdehkaaDoor.B
open Go Go.RowKit
set_option linter.unusedVariables false
set_option linter.unusedSimpArgs false
set_option maxRecDepth 100000
theorem rulC_plain (L : List Int) : (rulC L).all plain = true := by
  rw [List.all_eq_true]
  intro v hv
  obtain ⟨n, _, rfl⟩ := List.mem_map.1 hv
  rfl
theorem rulC_scalar (L : List Int) : (rulC L).all scalarB = true := by
  rw [List.all_eq_true]
  intro v hv
  obtain ⟨n, _, rfl⟩ := List.mem_map.1 hv
  rfl
theorem args_rul {μ : Ren} {h : AHeap} {L : List Int} {args' : Array Value} (l : VL μ h [.agg ⟨rulC L⟩] args'.toList) : args' = #[.agg ⟨rulC L⟩] := by
  obtain ⟨l1, l2⟩ := l
  obtain ⟨x, hx⟩ : ∃ x, args'.toList = [x] := by
    match hq : args'.toList, l1 with
    | [x], _ => exact ⟨x, rfl⟩
  have h0 := l2 0 _ x rfl (by rw [hx]; rfl)
  cases h0 with
  | agg hs hv =>
    rename_i bs
    have := (VR.agg_list hs hv).plain_inv (rulC_plain L)
    have hbs : bs = ⟨rulC L⟩ := by apply Array.toList_inj.1; exact this
    subst hbs
    apply Array.toList_inj.1
    exact hx
/-- config.Text. -/
theorem text_spec {h : AHeap} (k : PowG h) {L : List Int} (hL : L.length = 15) (hn : ∀ i, i < 15 → in64 (L.getD i 0)) : Spec Tryd.prog nG fn.config_Text [.agg ⟨rulC L⟩] h (sV (headT L 15)) h := by
  intro μ w args' s l
  rw [args_rul l]
  have hp : PowW w := by
    obtain ⟨n, hb⟩ := s.glob 3 (by decide)
    obtain ⟨cs, t, fz, h1, h2, h3, h4⟩ := s.obj 3 _ _ hb k
    refine ⟨cs, t, fz, h1, fun i v hi => ?_⟩
    obtain ⟨v', a, b⟩ := h4 i v hi
    rw [b.plain_inv (List.all_eq_true.1 powRow_plain _ (List.mem_of_getElem? hi)), Nat.zero_add] at a
    exact a
  exact (text_world hL hn hp).mono fun e w' ⟨he, hb⟩ => ⟨_, μ, he, .string _, Step.of_below s hb⟩
/-- The document's text. -/
theorem rtext_spec {h : AHeap} {L : List Int} (hL : L.length = 15) (hn : ∀ i, i < 15 → in64 (L.getD i 0)) : Spec Tryd.prog nG fn.ref23_Text [.agg ⟨rulC L⟩] h (sV (headT L 15)) h := by
  suffices H : SpecX Tryd.prog nG fn.ref23_Text [.agg ⟨rulC L⟩] h fun v' h' => Pre h h' ∧ ∃ s : ByteArray, v' = .string s ∧ s = ⟨(headT L 15).toArray⟩ by
    obtain ⟨s, hs, rfl⟩ := SpecX.str H
    exact hs
  refine SpecX.of_body (ir.ref23_Text.spec (Nat.le_of_ble_eq_true rfl)) ?_
  have e1 : (rulC L).length = 15 := by rw [rulC_len, hL]
  simp (dsimp := false) only [↓ir.ref23_Text.bw, ir.ref23_Text.rs, go_sem, Nat.reduceAdd, Nat.reduceEqDiff, Nat.reduceMul, Nat.reduceLeDiff, Nat.reduceSub, Nat.reduceLT, ↓reduceIte, reduceCtorEq, List.reduceReplicate, List.flatten_cons, List.flatten_nil, List.append_nil, eq_self, Int.reduceLE, Int.reduceLT, Int.reduceToNat, Nat.min_eq_left, Int.reducePow, Int.reduceNeg, Int.reduceEq]
  refine callV_x (names_spec _) ?_
  rintro v h1 ⟨hp1, hno⟩
  have f1 : Fx h1 h.length (rulC L) := (Fx.here h _ []).pre hp1
  have hl15 : idx15.length = 15 := rfl
  have hlen := fun i (hi : i ≤ 15) => headT_len hn i hi
  simp (dsimp := false) only [go_sem, Nat.reduceAdd, Nat.reduceEqDiff, Nat.reduceMul, Nat.reduceLeDiff, Nat.reduceSub, Nat.reduceLT, ↓reduceIte, reduceCtorEq, List.reduceReplicate, List.flatten_cons, List.flatten_nil, List.append_nil, eq_self, Int.reduceLE, Int.reduceLT, Int.reduceToNat, Nat.min_eq_left, Int.reducePow, Int.reduceNeg, Int.reduceEq]
  refine loopV_of (fun m e h2 => ∃ (i : Nat) (s : ByteArray), m = 15 - i ∧ i ≤ 15 ∧ Pre h1 h2 ∧ s.data.toList = headT L i ∧ e = [(1, .pointer (some ⟨h.length, 0, none⟩)), (3, .string s), (4, v), (5, .int .i64 i)]) _
    ⟨0, ⟨#[]⟩, rfl, Nat.zero_le _, .refl _, rfl, rfl⟩ ?_
  rintro m e h2 ⟨i, s, rfl, hi, hp, hs, rfl⟩
  have lw : Ls h2 1 (fun c i => c = [.string (slotN i)]) v idx15 := (Sl.ls (enc := fun i => [Value.string (slotN i)]) (fun _ => rfl) hno.sl rfl).pre hp
  have hss : s.size ≤ 34 * i := by
    have := hlen i hi
    rw [← hs] at this
    have e : s.data.toList.length = s.size := Array.length_toList
    omega
  rcases Nat.lt_or_ge i 15 with hlt | hge
  · have e0 : (i : Int) < 15 := by omega
    have wi : IntKind.i64.wrap ((i : Int) + 1) = ((i + 1 : Nat) : Int) := wrap_succ hlt (by unfold maxI; omega)
    obtain ⟨_, _, t0, n0, _⟩ := lw.rd2 (.refl _) (i := i) (by rw [hl15]; exact hlt)
    rw [idx15_at] at t0
    subst t0
    rw [Nat.mul_one] at n0
    have r1 : rds h2 h.length i 1 = some [.int .i64 (L.getD i 0)] := (f1.pre hp).rd (rulC_rd (by omega)) (by rw [rulC_len, hL]; omega)
    obtain ⟨N, hN⟩ : ∃ N, L.getD i 0 = N := ⟨_, rfl⟩
    have hNb : in64 N := hN ▸ hn i hlt
    rw [hN] at r1
    have hz1 := slotN_size hlt
    have hz2 : (wholeS N).size ≤ 21 := wholeS_size hNb
    have z1 : (⟨#[32]⟩ : ByteArray).size = 1 := rfl
    have z2 : (⟨#[10]⟩ : ByteArray).size = 1 := rfl
    have c0 : (0 : Int) ≤ (i : Int) := by omega
    simp (dsimp := false) only [↓ir.ref23_Text.l1.bw, go_sem, Nat.reduceAdd, Nat.reduceEqDiff, Nat.reduceMul, Nat.reduceLeDiff, Nat.reduceSub, Nat.reduceLT, ↓reduceIte, reduceCtorEq, List.reduceReplicate, List.flatten_cons, List.flatten_nil, List.append_nil, eq_self, Int.reduceLE, Int.reduceLT, Int.reduceToNat, Nat.min_eq_left, Int.reducePow, Int.reduceNeg, Int.reduceEq, e0, decide_true, lw.ixsN (show i < idx15.length by rw [hl15]; exact hlt), n0, c0, true_and, Int.toNat_natCast, Nat.mul_one, Nat.zero_add, r1]
    have z3 : (#[32] : Array UInt8).size = 1 := rfl
    refine ⟨by omega, by omega, by omega, callV_of (rwhole_spec _ hNb) ⟨.refl _, ?_⟩⟩
    simp (dsimp := false) only [go_sem, Nat.reduceAdd, Nat.reduceEqDiff, Nat.reduceMul, Nat.reduceLeDiff, Nat.reduceSub, Nat.reduceLT, ↓reduceIte, reduceCtorEq, List.reduceReplicate, List.flatten_cons, List.flatten_nil, List.append_nil, eq_self, Int.reduceLE, Int.reduceLT, Int.reduceToNat, Nat.min_eq_left, Int.reducePow, Int.reduceNeg, Int.reduceEq, ByteArray.size_append, z1, z2]
    refine ⟨by omega, by omega, ?_⟩
    simp (dsimp := false) only [go_sem, Nat.reduceAdd, Nat.reduceEqDiff, Nat.reduceMul, Nat.reduceLeDiff, Nat.reduceSub, Nat.reduceLT, ↓reduceIte, reduceCtorEq, List.reduceReplicate, List.flatten_cons, List.flatten_nil, List.append_nil, eq_self, Int.reduceLE, Int.reduceLT, Int.reduceToNat, Nat.min_eq_left, Int.reducePow, Int.reduceNeg, Int.reduceEq, wi]
    refine ⟨15 - (i + 1), by omega, i + 1, _, rfl, hlt, hp, ?_, rfl⟩
    rw [headT, lineT, hN]
    simp only [ByteArray.data_append, Array.toList_append, hs, List.append_assoc, List.cons_append, List.nil_append]
  · obtain rfl : i = 15 := by omega
    simp (dsimp := false) only [↓ir.ref23_Text.l1.bw, go_sem, Nat.reduceAdd, Nat.reduceEqDiff, Nat.reduceMul, Nat.reduceLeDiff, Nat.reduceSub, Nat.reduceLT, ↓reduceIte, reduceCtorEq, List.reduceReplicate, List.flatten_cons, List.flatten_nil, List.append_nil, eq_self, Int.reduceLE, Int.reduceLT, Int.reduceToNat, Nat.min_eq_left, Int.reducePow, Int.reduceNeg, Int.reduceEq, show ¬ ((15 : Nat) : Int) < 15 by omega, decide_false]
    refine ⟨((Pre.app _ _).trans hp1).trans hp, s, rfl, ?_⟩
    rw [← hs]
theorem vn_agg {n : Nat} {l : List Value} (hv : l.all scalarB = true) : VN id n (.agg ⟨l⟩) (.agg ⟨l⟩) := by
  refine .agg rfl fun i => ?_
  rcases Nat.lt_or_ge i l.length with hi | hi
  · have e : (Array.mk l).getD i (.tuple #[]) = l[i] := by simp [Array.getD, hi]
    rw [e]
    exact .scalar (List.all_eq_true.1 hv _ (List.getElem_mem hi))
  · have e : (Array.mk l).getD i (.tuple #[]) = .tuple #[] := by simp [Array.getD]; omega
    rw [e]
    exact .any _
/-- config.Parse leaves the heap as it was. -/
theorem parse_exact {h : AHeap} (k : ErrV h) (hg : PowG h) {t : ByteArray} (hm : t.size ≤ 140737488351232) : Spec Tryd.prog nG fn.config_Parse [.string t] h (resV (parseF t.data.toList)) h := by
  obtain ⟨v', h', hs, ⟨g, rfl⟩, rfl⟩ := parse_spec k hg hm
  refine hs.fin (Fin.plain (.tuple rfl fun i => ?_) g)
  match i with
  | 0 => exact vn_agg (rulC_scalar _)
  | 1 => exact vn_agg rfl
  | n + 2 => exact .any _
/-- What is wrong with rules, of both sides. -/
theorem checks_spec (h h2 : AHeap) {L : List Int} (hL : L.length = 15) : ∃ (n : ByteArray) (e r : Int), Spec Tryd.prog nG fn.config_Check [.agg ⟨rulC L⟩] h (.tuple #[.string n, .int .i64 e]) h ∧ Spec Tryd.prog nG fn.ref23_Check [.agg ⟨rulC L⟩] h2 (.int .i64 r) h2 ∧
    ((e = 0 ∧ n = ⟨#[]⟩ ∧ r = -1) ∨ (e = 30 ∧ ∃ i : Nat, i < 15 ∧ n = slotN i ∧ r = i)) := by
  obtain ⟨n, e, hs, hq⟩ := check_spec (h := h) hL
  obtain ⟨r, hs2, hq2⟩ := rcheck_spec (h := h2) hL
  refine ⟨n, e, r, hs, hs2, ?_⟩
  rcases hq with ⟨rfl, rfl, hg⟩ | ⟨rfl, i, hi, rfl, hb, hg⟩
  · rcases hq2 with ⟨rfl, _⟩ | ⟨j, hj, rfl, hb, _⟩
    · exact .inl ⟨rfl, rfl, rfl⟩
    · exact absurd (hg j hj) hb
  · rcases hq2 with ⟨rfl, hg2⟩ | ⟨j, hj, rfl, hb2, hg2⟩
    · exact absurd (hg2 i hi) hb
    · refine .inr ⟨rfl, i, hi, rfl, ?_⟩
      rcases Nat.lt_trichotomy i j with q | q | q
      · exact absurd (hg2 i q) hb
      · rw [q]
      · exact absurd (hg j q) hb2
theorem in64_of {L : List Int} (hL : L.length = 15) (b : ∀ x ∈ L, -9223372036854775808 ≤ x ∧ x ≤ 9223372036854775807) : ∀ i, i < 15 → in64 (L.getD i 0) := fun i hi => by
  have h : i < L.length := by omega
  rw [List.getD_eq_getElem?_getD, List.getElem?_eq_getElem h]
  exact b _ (List.getElem_mem h)
theorem configWrites_spec {h : AHeap} (hg : PowG h) {L : List Int} (hL : L.length = 15) (hn : ∀ i, i < 15 → in64 (L.getD i 0)) : SpecX Tryd.prog nG fn.law23_ConfigWrites [.agg ⟨rulC L⟩] h fun v' _ => v' = .bool true := by
  refine SpecX.of_body (ir.law23_ConfigWrites.spec (Nat.le_of_ble_eq_true rfl)) ?_
  have e1 : (rulC L).length = 15 := by rw [rulC_len, hL]
  have ag : aggOf true (rulC L) = some (.agg ⟨rulC L⟩) := rfl
  obtain ⟨h1, eh1⟩ : ∃ h1, h ++ [AObj.row .fix (rulC L)] = h1 := ⟨_, rfl⟩
  have f1 : Fx h1 h.length (rulC L) := eh1 ▸ Fx.here h _ []
  have hp1 : Pre h h1 := eh1 ▸ Pre.app _ _
  have fullR : ∀ {h' : AHeap}, Fx h' h.length (rulC L) → rds h' h.length 0 15 = some (rulC L) := fun f => f.rd (by rw [List.drop_zero, List.take_of_length_le (by rw [e1]; exact Nat.le_refl _)]) (by rw [e1]; exact Nat.le_refl _)
  have r1 := fullR f1
  simp (dsimp := false) only [↓ir.law23_ConfigWrites.bw, ir.law23_ConfigWrites.rs, go_sem, Nat.reduceAdd, Nat.reduceEqDiff, Nat.reduceMul, Nat.reduceLeDiff, Nat.reduceSub, Nat.reduceLT, ↓reduceIte, reduceCtorEq, List.reduceReplicate, List.flatten_cons, List.flatten_nil, List.append_nil, eq_self, Int.reduceLE, Int.reduceLT, Int.reduceToNat, Nat.min_eq_left, Int.reducePow, Int.reduceNeg, Int.reduceEq, eh1, r1, ag]
  refine callV_of (cTo_spec _ hL) ?_
  obtain ⟨n, e, r, hs, hs2, hq⟩ := checks_spec h1 h1 hL
  simp (dsimp := false) only [go_sem, Nat.reduceAdd, Nat.reduceEqDiff, Nat.reduceMul, Nat.reduceLeDiff, Nat.reduceSub, Nat.reduceLT, ↓reduceIte, reduceCtorEq, List.reduceReplicate, List.flatten_cons, List.flatten_nil, List.append_nil, eq_self, Int.reduceLE, Int.reduceLT, Int.reduceToNat, Nat.min_eq_left, Int.reducePow, Int.reduceNeg, Int.reduceEq]
  refine callV_of hs ?_
  simp (dsimp := false) only [go_sem, Nat.reduceAdd, Nat.reduceEqDiff, Nat.reduceMul, Nat.reduceLeDiff, Nat.reduceSub, Nat.reduceLT, ↓reduceIte, reduceCtorEq, List.reduceReplicate, List.flatten_cons, List.flatten_nil, List.append_nil, eq_self, Int.reduceLE, Int.reduceLT, Int.reduceToNat, Nat.min_eq_left, Int.reducePow, Int.reduceNeg, Int.reduceEq, r1, ag]
  refine callV_of hs2 ?_
  have ee := eqs15 (L := rulD) rfl
  obtain ⟨T, hsv⟩ : ∃ T, sV (headT L 15) = .string T := ⟨_, rfl⟩
  rcases hq with ⟨rfl, rfl, rfl⟩ | ⟨rfl, i, hi, rfl, rfl⟩
  · simp (dsimp := false) only [go_sem, Nat.reduceAdd, Nat.reduceEqDiff, Nat.reduceMul, Nat.reduceLeDiff, Nat.reduceSub, Nat.reduceLT, ↓reduceIte, reduceCtorEq, List.reduceReplicate, List.flatten_cons, List.flatten_nil, List.append_nil, eq_self, Int.reduceLE, Int.reduceLT, Int.reduceToNat, Nat.min_eq_left, Int.reducePow, Int.reduceNeg, Int.reduceEq, decide_true, decide_false, beq_self_eq_true, Bool.not_true, (show ((0 : Int) != 0) = false from rfl), (show decide ((0 : Int) ≤ -1) = false from rfl), (show decide ((-1 : Int) ≥ 0) = false from rfl)]
    have kh1 : PowG h1 := hg.pre (hp1)
    have gh1 : rds h1 h.length 0 15 = some (rulC L) := fullR (f1)
    refine callV_of (cawake_spec kh1) ⟨.refl _, ?_⟩
    simp (dsimp := false) only [go_sem, Nat.reduceAdd, Nat.reduceEqDiff, Nat.reduceMul, Nat.reduceLeDiff, Nat.reduceSub, Nat.reduceLT, ↓reduceIte, reduceCtorEq, List.reduceReplicate, List.flatten_cons, List.flatten_nil, List.append_nil, eq_self, Int.reduceLE, Int.reduceLT, Int.reduceToNat, Nat.min_eq_left, Int.reducePow, Int.reduceNeg, Int.reduceEq, gh1, ag]
    refine callV_of (cTo_spec _ hL) ⟨.refl _, ?_⟩
    simp (dsimp := false) only [go_sem, Nat.reduceAdd, Nat.reduceEqDiff, Nat.reduceMul, Nat.reduceLeDiff, Nat.reduceSub, Nat.reduceLT, ↓reduceIte, reduceCtorEq, List.reduceReplicate, List.flatten_cons, List.flatten_nil, List.append_nil, eq_self, Int.reduceLE, Int.reduceLT, Int.reduceToNat, Nat.min_eq_left, Int.reducePow, Int.reduceNeg, Int.reduceEq, gh1, ag]
    refine callV_of (text_spec kh1 hL hn) ⟨.refl _, ?_⟩
    simp (dsimp := false) only [go_sem, Nat.reduceAdd, Nat.reduceEqDiff, Nat.reduceMul, Nat.reduceLeDiff, Nat.reduceSub, Nat.reduceLT, ↓reduceIte, reduceCtorEq, List.reduceReplicate, List.flatten_cons, List.flatten_nil, List.append_nil, eq_self, Int.reduceLE, Int.reduceLT, Int.reduceToNat, Nat.min_eq_left, Int.reducePow, Int.reduceNeg, Int.reduceEq, gh1, ag]
    refine callV_of (rtext_spec hL hn) ⟨.refl _, ?_⟩
    simp (dsimp := false) only [go_sem, Nat.reduceAdd, Nat.reduceEqDiff, Nat.reduceMul, Nat.reduceLeDiff, Nat.reduceSub, Nat.reduceLT, ↓reduceIte, reduceCtorEq, List.reduceReplicate, List.flatten_cons, List.flatten_nil, List.append_nil, eq_self, Int.reduceLE, Int.reduceLT, Int.reduceToNat, Nat.min_eq_left, Int.reducePow, Int.reduceNeg, Int.reduceEq, hsv, beq_self_eq_true]
    refine callV_of (default_spec _) ⟨.refl _, ?_⟩
    simp (dsimp := false) only [go_sem, Nat.reduceAdd, Nat.reduceEqDiff, Nat.reduceMul, Nat.reduceLeDiff, Nat.reduceSub, Nat.reduceLT, ↓reduceIte, reduceCtorEq, List.reduceReplicate, List.flatten_cons, List.flatten_nil, List.append_nil, eq_self, Int.reduceLE, Int.reduceLT, Int.reduceToNat, Nat.min_eq_left, Int.reducePow, Int.reduceNeg, Int.reduceEq]
    refine callV_of (cFrom_spec _ rfl) ⟨.refl _, ?_⟩
    simp (dsimp := false) only [go_sem, Nat.reduceAdd, Nat.reduceEqDiff, Nat.reduceMul, Nat.reduceLeDiff, Nat.reduceSub, Nat.reduceLT, ↓reduceIte, reduceCtorEq, List.reduceReplicate, List.flatten_cons, List.flatten_nil, List.append_nil, eq_self, Int.reduceLE, Int.reduceLT, Int.reduceToNat, Nat.min_eq_left, Int.reducePow, Int.reduceNeg, Int.reduceEq]
    refine callV_of (rdefault_spec _) ⟨.refl _, ?_⟩
    simp (dsimp := false) only [go_sem, Nat.reduceAdd, Nat.reduceEqDiff, Nat.reduceMul, Nat.reduceLeDiff, Nat.reduceSub, Nat.reduceLT, ↓reduceIte, reduceCtorEq, List.reduceReplicate, List.flatten_cons, List.flatten_nil, List.append_nil, eq_self, Int.reduceLE, Int.reduceLT, Int.reduceToNat, Nat.min_eq_left, Int.reducePow, Int.reduceNeg, Int.reduceEq, ee]
  · have c1 : decide ((i : Int) < 0) = false := decide_eq_false (by omega)
    have c2 : decide ((0 : Int) ≤ (i : Int)) = true := decide_eq_true (by omega)
    simp (dsimp := false) only [go_sem, Nat.reduceAdd, Nat.reduceEqDiff, Nat.reduceMul, Nat.reduceLeDiff, Nat.reduceSub, Nat.reduceLT, ↓reduceIte, reduceCtorEq, List.reduceReplicate, List.flatten_cons, List.flatten_nil, List.append_nil, eq_self, Int.reduceLE, Int.reduceLT, Int.reduceToNat, Nat.min_eq_left, Int.reducePow, Int.reduceNeg, Int.reduceEq, c1, c2, ge_iff_le]
    refine callV_x (names_spec _) ?_
    rintro v h2 ⟨hp2, hno⟩
    have lw : Ls h2 1 (fun c i => c = [.string (slotN i)]) v idx15 := Sl.ls (enc := fun i => [Value.string (slotN i)]) (fun _ => rfl) hno.sl rfl
    obtain ⟨_, _, t0, n0, _⟩ := lw.rd2 (.refl _) (i := i) (by rw [idx15_len]; exact hi)
    rw [idx15_at] at t0
    subst t0
    simp (dsimp := false) only [go_sem, Nat.reduceAdd, Nat.reduceEqDiff, Nat.reduceMul, Nat.reduceLeDiff, Nat.reduceSub, Nat.reduceLT, ↓reduceIte, reduceCtorEq, List.reduceReplicate, List.flatten_cons, List.flatten_nil, List.append_nil, eq_self, Int.reduceLE, Int.reduceLT, Int.reduceToNat, Nat.min_eq_left, Int.reducePow, Int.reduceNeg, Int.reduceEq, lw.ixsN (show i < idx15.length by rw [idx15_len]; exact hi), n0, beq_self_eq_true, Bool.not_true, (show ((30 : Int) != 30) = false from rfl)]
    have kh2 : PowG h2 := hg.pre (hp1.trans hp2)
    have gh2 : rds h2 h.length 0 15 = some (rulC L) := fullR (f1.pre hp2)
    refine callV_of (cawake_spec kh2) ⟨.refl _, ?_⟩
    simp (dsimp := false) only [go_sem, Nat.reduceAdd, Nat.reduceEqDiff, Nat.reduceMul, Nat.reduceLeDiff, Nat.reduceSub, Nat.reduceLT, ↓reduceIte, reduceCtorEq, List.reduceReplicate, List.flatten_cons, List.flatten_nil, List.append_nil, eq_self, Int.reduceLE, Int.reduceLT, Int.reduceToNat, Nat.min_eq_left, Int.reducePow, Int.reduceNeg, Int.reduceEq, gh2, ag]
    refine callV_of (cTo_spec _ hL) ⟨.refl _, ?_⟩
    simp (dsimp := false) only [go_sem, Nat.reduceAdd, Nat.reduceEqDiff, Nat.reduceMul, Nat.reduceLeDiff, Nat.reduceSub, Nat.reduceLT, ↓reduceIte, reduceCtorEq, List.reduceReplicate, List.flatten_cons, List.flatten_nil, List.append_nil, eq_self, Int.reduceLE, Int.reduceLT, Int.reduceToNat, Nat.min_eq_left, Int.reducePow, Int.reduceNeg, Int.reduceEq, gh2, ag]
    refine callV_of (text_spec kh2 hL hn) ⟨.refl _, ?_⟩
    simp (dsimp := false) only [go_sem, Nat.reduceAdd, Nat.reduceEqDiff, Nat.reduceMul, Nat.reduceLeDiff, Nat.reduceSub, Nat.reduceLT, ↓reduceIte, reduceCtorEq, List.reduceReplicate, List.flatten_cons, List.flatten_nil, List.append_nil, eq_self, Int.reduceLE, Int.reduceLT, Int.reduceToNat, Nat.min_eq_left, Int.reducePow, Int.reduceNeg, Int.reduceEq, gh2, ag]
    refine callV_of (rtext_spec hL hn) ⟨.refl _, ?_⟩
    simp (dsimp := false) only [go_sem, Nat.reduceAdd, Nat.reduceEqDiff, Nat.reduceMul, Nat.reduceLeDiff, Nat.reduceSub, Nat.reduceLT, ↓reduceIte, reduceCtorEq, List.reduceReplicate, List.flatten_cons, List.flatten_nil, List.append_nil, eq_self, Int.reduceLE, Int.reduceLT, Int.reduceToNat, Nat.min_eq_left, Int.reducePow, Int.reduceNeg, Int.reduceEq, hsv, beq_self_eq_true]
    refine callV_of (default_spec _) ⟨.refl _, ?_⟩
    simp (dsimp := false) only [go_sem, Nat.reduceAdd, Nat.reduceEqDiff, Nat.reduceMul, Nat.reduceLeDiff, Nat.reduceSub, Nat.reduceLT, ↓reduceIte, reduceCtorEq, List.reduceReplicate, List.flatten_cons, List.flatten_nil, List.append_nil, eq_self, Int.reduceLE, Int.reduceLT, Int.reduceToNat, Nat.min_eq_left, Int.reducePow, Int.reduceNeg, Int.reduceEq]
    refine callV_of (cFrom_spec _ rfl) ⟨.refl _, ?_⟩
    simp (dsimp := false) only [go_sem, Nat.reduceAdd, Nat.reduceEqDiff, Nat.reduceMul, Nat.reduceLeDiff, Nat.reduceSub, Nat.reduceLT, ↓reduceIte, reduceCtorEq, List.reduceReplicate, List.flatten_cons, List.flatten_nil, List.append_nil, eq_self, Int.reduceLE, Int.reduceLT, Int.reduceToNat, Nat.min_eq_left, Int.reducePow, Int.reduceNeg, Int.reduceEq]
    refine callV_of (rdefault_spec _) ⟨.refl _, ?_⟩
    simp (dsimp := false) only [go_sem, Nat.reduceAdd, Nat.reduceEqDiff, Nat.reduceMul, Nat.reduceLeDiff, Nat.reduceSub, Nat.reduceLT, ↓reduceIte, reduceCtorEq, List.reduceReplicate, List.flatten_cons, List.flatten_nil, List.append_nil, eq_self, Int.reduceLE, Int.reduceLT, Int.reduceToNat, Nat.min_eq_left, Int.reducePow, Int.reduceNeg, Int.reduceEq, ee]
end Go.Proofs.YtoiihalnbdehkaaDoor.B
/-
  Layer 23: P23.3 as the law says it.
-/
namespace Go.Proofs.YtoiihalnbdehkaaDoor.B
open Go Go.RowKit
set_option linter.unusedVariables false
set_option linter.unusedSimpArgs false
set_option maxRecDepth 100000
theorem eqs15_ne {L : List Int} : ∀ (L M : List Int), L.length = 15 → M.length = 15 → ∃ r, eqCells [0, 0, 0, 0, 0, 0, 0, 0, 0, 0, 0, 0, 0, 0, 0] (rulC L) (rulC M) = some r := by
  intro L M hL hM
  obtain ⟨a0, a1, a2, a3, a4, a5, a6, a7, a8, a9, a10, a11, a12, a13, a14, rfl⟩ := list15 hL
  obtain ⟨b0, b1, b2, b3, b4, b5, b6, b7, b8, b9, b10, b11, b12, b13, b14, rfl⟩ := list15 hM
  exact ⟨_, rfl⟩
theorem setZ {R : List Int} (e1 : (rulC R).length = 15) : setC [Value.int .i64 0, .int .i64 0, .int .i64 0, .int .i64 0, .int .i64 0, .int .i64 0, .int .i64 0, .int .i64 0, .int .i64 0, .int .i64 0, .int .i64 0, .int .i64 0, .int .i64 0, .int .i64 0, .int .i64 0] 0 (rulC R) = rulC R := by
  rw [setC_eq (by rw [e1]; decide), List.take_zero, List.nil_append, List.drop_of_length_le (by rw [e1]; decide), List.append_nil]
theorem fullR {h : AHeap} {b : Nat} {R : List Int} (e1 : (rulC R).length = 15) (f : Fx h b (rulC R)) : rds h b 0 15 = some (rulC R) := f.rd (by rw [List.drop_zero, List.take_of_length_le (by rw [e1]; exact Nat.le_refl _)]) (by rw [e1]; exact Nat.le_refl _)
theorem tk15 {R : List Int} (e1 : (rulC R).length = 15) : (List.take 15 (rulC R)).toArray = ⟨rulC R⟩ := by rw [List.take_of_length_le (by rw [e1]; exact Nat.le_refl _)]
theorem text_size {L : List Int} (hn : ∀ i, i < 15 → in64 (L.getD i 0)) {T : ByteArray} (h : sV (headT L 15) = .string T) : T.size ≤ 140737488351232 ∧ T.data.toList = headT L 15 := by
  cases h
  have := headT_len hn 15 (Nat.le_refl _)
  refine ⟨?_, rfl⟩
  show (headT L 15).toArray.size ≤ _
  rw [List.size_toArray]
  omega
theorem configBack_spec {h : AHeap} (k : ErrV h) (hg : PowG h) {L : List Int} (hL : L.length = 15) (hn : ∀ i, i < 15 → in64 (L.getD i 0)) {t : ByteArray} (hm : t.size ≤ 140737488351232) :
    SpecX Tryd.prog nG fn.law23_ConfigBack [.agg ⟨rulC L⟩, .string t] h fun v' _ => v' = .bool true := by
  refine SpecX.of_body (ir.law23_ConfigBack.spec (Nat.le_of_ble_eq_true rfl)) ?_
  have e1 : (rulC L).length = 15 := by rw [rulC_len, hL]
  have ag : ∀ R, aggOf true (rulC R) = some (.agg ⟨rulC R⟩) := fun _ => rfl
  obtain ⟨T, hT⟩ : ∃ T, sV (headT L 15) = .string T := ⟨_, rfl⟩
  obtain ⟨hTs, hTl⟩ := text_size hn hT
  obtain ⟨pt1, pt2⟩ := parse_text hL hn
  obtain ⟨h1, eh1⟩ : ∃ h1, h ++ [AObj.row .fix (rulC L)] = h1 := ⟨_, rfl⟩
  have f1 : Fx h1 h.length (rulC L) := eh1 ▸ Fx.here h _ []
  have hp1 : Pre h h1 := eh1 ▸ Pre.app _ _
  have r1 := fullR e1 f1
  simp (dsimp := false) only [↓ir.law23_ConfigBack.bw, ir.law23_ConfigBack.rs, go_sem, Nat.reduceAdd, Nat.reduceEqDiff, Nat.reduceMul, Nat.reduceLeDiff, Nat.reduceSub, Nat.reduceLT, ↓reduceIte, reduceCtorEq, List.reduceReplicate, List.flatten_cons, List.flatten_nil, List.append_nil, eq_self, Int.reduceLE, Int.reduceLT, Int.reduceToNat, Nat.min_eq_left, Int.reducePow, Int.reduceNeg, Int.reduceEq, eh1, r1, ag]
  refine callV_of (cTo_spec _ hL) ?_
  simp (dsimp := false) only [go_sem, Nat.reduceAdd, Nat.reduceEqDiff, Nat.reduceMul, Nat.reduceLeDiff, Nat.reduceSub, Nat.reduceLT, ↓reduceIte, reduceCtorEq, List.reduceReplicate, List.flatten_cons, List.flatten_nil, List.append_nil, eq_self, Int.reduceLE, Int.reduceLT, Int.reduceToNat, Nat.min_eq_left, Int.reducePow, Int.reduceNeg, Int.reduceEq, e1, rulC_one, setZ e1, tk15 e1, ag, Option.map_some, Nat.le_refl]
  obtain ⟨h2, eh2⟩ : ∃ h2, h1 ++ [AObj.row .fix (rulC L)] = h2 := ⟨_, rfl⟩
  have f2 : Fx h2 h1.length (rulC L) := eh2 ▸ Fx.here h1 _ []
  have hp2 : Pre h h2 := hp1.trans (eh2 ▸ Pre.app _ _)
  have r2 := fullR e1 f2
  obtain ⟨n, e, hs, hq⟩ := check_spec (h := h2) hL
  simp (dsimp := false) only [go_sem, Nat.reduceAdd, Nat.reduceEqDiff, Nat.reduceMul, Nat.reduceLeDiff, Nat.reduceSub, Nat.reduceLT, ↓reduceIte, reduceCtorEq, List.reduceReplicate, List.flatten_cons, List.flatten_nil, List.append_nil, eq_self, Int.reduceLE, Int.reduceLT, Int.reduceToNat, Nat.min_eq_left, Int.reducePow, Int.reduceNeg, Int.reduceEq, eh2, r2, ag, tk15 e1]
  clear eh1 eh2 f1 r1
  refine callV_of hs ?_
  simp (dsimp := false) only [go_sem, Nat.reduceAdd, Nat.reduceEqDiff, Nat.reduceMul, Nat.reduceLeDiff, Nat.reduceSub, Nat.reduceLT, ↓reduceIte, reduceCtorEq, List.reduceReplicate, List.flatten_cons, List.flatten_nil, List.append_nil, eq_self, Int.reduceLE, Int.reduceLT, Int.reduceToNat, Nat.min_eq_left, Int.reducePow, Int.reduceNeg, Int.reduceEq, r2, ag]
  refine callV_of (text_spec (hg.pre hp2) hL hn) ?_
  rw [hT]
  have hps := parse_exact (k.pre hp2) (hg.pre hp2) hTs
  rw [hTl] at hps
  obtain ⟨⟨R, line, name, err⟩, hX⟩ : ∃ X, parseF (headT L 15) = X := ⟨_, rfl⟩
  have hRl : R.length = 15 := by have := parseF_len (headT L 15); rw [hX] at this; exact this
  rw [hX] at pt1 pt2 hps
  simp only at pt2
  obtain ⟨nm, hnm⟩ : ∃ nm, sV name = .string nm := ⟨_, rfl⟩
  simp only [resV, misC, hnm] at hps
  simp (dsimp := false) only [go_sem, Nat.reduceAdd, Nat.reduceEqDiff, Nat.reduceMul, Nat.reduceLeDiff, Nat.reduceSub, Nat.reduceLT, ↓reduceIte, reduceCtorEq, List.reduceReplicate, List.flatten_cons, List.flatten_nil, List.append_nil, eq_self, Int.reduceLE, Int.reduceLT, Int.reduceToNat, Nat.min_eq_left, Int.reducePow, Int.reduceNeg, Int.reduceEq]
  refine callV_of hps ?_
  have e2 : (rulC R).length = 15 := by rw [rulC_len, hRl]
  simp (dsimp := false) only [go_sem, Nat.reduceAdd, Nat.reduceEqDiff, Nat.reduceMul, Nat.reduceLeDiff, Nat.reduceSub, Nat.reduceLT, ↓reduceIte, reduceCtorEq, List.reduceReplicate, List.flatten_cons, List.flatten_nil, List.append_nil, eq_self, Int.reduceLE, Int.reduceLT, Int.reduceToNat, Nat.min_eq_left, Int.reducePow, Int.reduceNeg, Int.reduceEq, e2, rulC_one, setZ e2, tk15 e2, ag, Option.map_some, Nat.le_refl]
  obtain ⟨h3, eh3⟩ : ∃ h3, h2 ++ [AObj.row .fix (rulC R), .row .fix [.int .i64 line, .string nm, .int .i64 err]] = h3 := ⟨_, rfl⟩
  have g2 : Fx h3 h1.length (rulC L) := eh3 ▸ f2.app _
  have g3 : Fx h3 h2.length (rulC R) := eh3 ▸ Fx.here h2 _ _
  have hp3 : Pre h h3 := hp2.trans (eh3 ▸ Pre.app _ _)
  have q2 := fullR e1 g2
  have q3 := fullR e2 g3
  rw [eh3]
  clear eh3 f2 r2 hs hps
  have hpt := parse_exact (k.pre hp3) (hg.pre hp3) hm
  obtain ⟨⟨R2, line2, name2, err2⟩, hX2⟩ : ∃ X, parseF t.data.toList = X := ⟨_, rfl⟩
  have hRl2 : R2.length = 15 := by have := parseF_len t.data.toList; rw [hX2] at this; exact this
  have hpa := parse_any t.data.toList
  rw [hX2] at hpt hpa
  simp only at hpa
  obtain ⟨nm2, hnm2⟩ : ∃ nm, sV name2 = .string nm := ⟨_, rfl⟩
  simp only [resV, misC, hnm2] at hpt
  have e3 : (rulC R2).length = 15 := by rw [rulC_len, hRl2]
  have c0 : ((0 : Int) == 0) = true := rfl
  have c30 : ((30 : Int) == 0) = false := rfl
  have c10 : ((10 : Int) == 0) = false := rfl
  have ct : (true != true) = false := rfl
  have cf : (false != false) = false := rfl
  rcases hq with ⟨rfl, rfl, hgood⟩ | ⟨rfl, i, hi, rfl, hbad, _⟩
  case' inl =>
    have hpt1 := pt1 hgood
    cases hpt1
    have ee := eqs15 hL
    simp (dsimp := false) only [go_sem, Nat.reduceAdd, Nat.reduceEqDiff, Nat.reduceMul, Nat.reduceLeDiff, Nat.reduceSub, Nat.reduceLT, ↓reduceIte, reduceCtorEq, List.reduceReplicate, List.flatten_cons, List.flatten_nil, List.append_nil, eq_self, Int.reduceLE, Int.reduceLT, Int.reduceToNat, Nat.min_eq_left, Int.reducePow, Int.reduceNeg, Int.reduceEq, c0, ct, q2, q3, ag, ee, Bool.not_true]
  case' inr =>
    have hpt2 := pt2 i hi hbad
    have ce : (err == 0) = false := by rcases hpt2 with rfl | rfl <;> rfl
    simp (dsimp := false) only [go_sem, Nat.reduceAdd, Nat.reduceEqDiff, Nat.reduceMul, Nat.reduceLeDiff, Nat.reduceSub, Nat.reduceLT, ↓reduceIte, reduceCtorEq, List.reduceReplicate, List.flatten_cons, List.flatten_nil, List.append_nil, eq_self, Int.reduceLE, Int.reduceLT, Int.reduceToNat, Nat.min_eq_left, Int.reducePow, Int.reduceNeg, Int.reduceEq, c30, ce, cf]
  all_goals
    refine callV_of hpt ?_
    simp (dsimp := false) only [go_sem, Nat.reduceAdd, Nat.reduceEqDiff, Nat.reduceMul, Nat.reduceLeDiff, Nat.reduceSub, Nat.reduceLT, ↓reduceIte, reduceCtorEq, List.reduceReplicate, List.flatten_cons, List.flatten_nil, List.append_nil, eq_self, Int.reduceLE, Int.reduceLT, Int.reduceToNat, Nat.min_eq_left, Int.reducePow, Int.reduceNeg, Int.reduceEq, e3, rulC_one, setZ e3, tk15 e3, ag, Option.map_some, Nat.le_refl]
    obtain ⟨h4, eh4⟩ : ∃ h4, h3 ++ [AObj.row .fix (rulC R2), .row .fix [.int .i64 line2, .string nm2, .int .i64 err2]] = h4 := ⟨_, rfl⟩
    have g4 : Fx h4 h3.length (rulC R2) := eh4 ▸ Fx.here h3 _ _
    have hp4 : Pre h h4 := hp3.trans (eh4 ▸ Pre.app _ _)
    have q4 := fullR e3 g4
    have ee2 := eqs15 hRl2
    rw [eh4]
    clear eh4 hpt
    rcases hpa with ⟨hne, hR0⟩ | ⟨he0, hgood2⟩
    · have d0 : (err2 != 0) = true := by simpa using hne
      subst hR0
      simp (dsimp := false) only [go_sem, Nat.reduceAdd, Nat.reduceEqDiff, Nat.reduceMul, Nat.reduceLeDiff, Nat.reduceSub, Nat.reduceLT, ↓reduceIte, reduceCtorEq, List.reduceReplicate, List.flatten_cons, List.flatten_nil, List.append_nil, eq_self, Int.reduceLE, Int.reduceLT, Int.reduceToNat, Nat.min_eq_left, Int.reducePow, Int.reduceNeg, Int.reduceEq, d0]
      refine callV_of (cawake_spec (hg.pre hp4)) ?_
      simp (dsimp := false) only [go_sem, Nat.reduceAdd, Nat.reduceEqDiff, Nat.reduceMul, Nat.reduceLeDiff, Nat.reduceSub, Nat.reduceLT, ↓reduceIte, reduceCtorEq, List.reduceReplicate, List.flatten_cons, List.flatten_nil, List.append_nil, eq_self, Int.reduceLE, Int.reduceLT, Int.reduceToNat, Nat.min_eq_left, Int.reducePow, Int.reduceNeg, Int.reduceEq, q4, ag]
      rw [show eqCells [0, 0, 0, 0, 0, 0, 0, 0, 0, 0, 0, 0, 0, 0, 0] (rulC rul0) [Value.int .i64 0, .int .i64 0, .int .i64 0, .int .i64 0, .int .i64 0, .int .i64 0, .int .i64 0, .int .i64 0, .int .i64 0, .int .i64 0, .int .i64 0, .int .i64 0, .int .i64 0, .int .i64 0, .int .i64 0] = some true from rfl]
      simp (dsimp := false) only [go_sem, Nat.reduceAdd, Nat.reduceEqDiff, Nat.reduceMul, Nat.reduceLeDiff, Nat.reduceSub, Nat.reduceLT, ↓reduceIte, reduceCtorEq, List.reduceReplicate, List.flatten_cons, List.flatten_nil, List.append_nil, eq_self, Int.reduceLE, Int.reduceLT, Int.reduceToNat, Nat.min_eq_left, Int.reducePow, Int.reduceNeg, Int.reduceEq]
    · subst he0
      simp (dsimp := false) only [go_sem, Nat.reduceAdd, Nat.reduceEqDiff, Nat.reduceMul, Nat.reduceLeDiff, Nat.reduceSub, Nat.reduceLT, ↓reduceIte, reduceCtorEq, List.reduceReplicate, List.flatten_cons, List.flatten_nil, List.append_nil, eq_self, Int.reduceLE, Int.reduceLT, Int.reduceToNat, Nat.min_eq_left, Int.reducePow, Int.reduceNeg, Int.reduceEq, (show ((0 : Int) != 0) = false from rfl), q4, ag]
      have hn2 : ∀ i, i < 15 → in64 (R2.getD i 0) := fun i hi => good_in64 hi (hgood2 i hi)
      obtain ⟨T2, hT2⟩ : ∃ T, sV (headT R2 15) = .string T := ⟨_, rfl⟩
      obtain ⟨hTs2, hTl2⟩ := text_size hn2 hT2
      have hpu := (parse_text hRl2 hn2).1 hgood2
      have hps2 := parse_exact (k.pre hp4) (hg.pre hp4) hTs2
      rw [hTl2, hpu] at hps2
      simp only [resV, misC] at hps2
      refine callV_of (text_spec (hg.pre hp4) hRl2 hn2) ?_
      rw [hT2]
      simp (dsimp := false) only [go_sem, Nat.reduceAdd, Nat.reduceEqDiff, Nat.reduceMul, Nat.reduceLeDiff, Nat.reduceSub, Nat.reduceLT, ↓reduceIte, reduceCtorEq, List.reduceReplicate, List.flatten_cons, List.flatten_nil, List.append_nil, eq_self, Int.reduceLE, Int.reduceLT, Int.reduceToNat, Nat.min_eq_left, Int.reducePow, Int.reduceNeg, Int.reduceEq]
      refine callV_of hps2 ?_
      simp (dsimp := false) only [go_sem, Nat.reduceAdd, Nat.reduceEqDiff, Nat.reduceMul, Nat.reduceLeDiff, Nat.reduceSub, Nat.reduceLT, ↓reduceIte, reduceCtorEq, List.reduceReplicate, List.flatten_cons, List.flatten_nil, List.append_nil, eq_self, Int.reduceLE, Int.reduceLT, Int.reduceToNat, Nat.min_eq_left, Int.reducePow, Int.reduceNeg, Int.reduceEq, e3, rulC_one, setZ e3, tk15 e3, ag, Option.map_some, Nat.le_refl]
      refine ⟨rfl, ?_⟩
      obtain ⟨h5, eh5⟩ : ∃ h5, h4 ++ [AObj.row .fix (rulC R2), .row .fix [.int .i64 0, sV [], .int .i64 0]] = h5 := ⟨_, rfl⟩
      have g5 : Fx h5 h4.length (rulC R2) := eh5 ▸ Fx.here h4 _ _
      have g5b : Fx h5 h3.length (rulC R2) := eh5 ▸ g4.app _
      have g6 : Fx h5 (h4.length + 1) [.int .i64 0, sV [], .int .i64 0] := by rw [← eh5]; simp [Fx]
      have hp5 : Pre h h5 := hp4.trans (eh5 ▸ Pre.app _ _)
      have q5 := fullR e3 g5
      have q5b := fullR e3 g5b
      have q6 := g6.rd (off := 2) (n := 1) (vs := [.int .i64 0]) rfl (by simp)
      rw [eh5]
      clear eh5 hps2 q4
      obtain ⟨n2, x2, hs2, hcq⟩ := check_spec (h := h5) hRl2
      rcases hcq with ⟨rfl, rfl, _⟩ | ⟨rfl, j, hj, rfl, hb2, _⟩
      · simp (dsimp := false) only [go_sem, Nat.reduceAdd, Nat.reduceEqDiff, Nat.reduceMul, Nat.reduceLeDiff, Nat.reduceSub, Nat.reduceLT, ↓reduceIte, reduceCtorEq, List.reduceReplicate, List.flatten_cons, List.flatten_nil, List.append_nil, eq_self, Int.reduceLE, Int.reduceLT, Int.reduceToNat, Nat.min_eq_left, Int.reducePow, Int.reduceNeg, Int.reduceEq, q5b, ag]
        refine callV_of hs2 ?_
        simp (dsimp := false) only [go_sem, Nat.reduceAdd, Nat.reduceEqDiff, Nat.reduceMul, Nat.reduceLeDiff, Nat.reduceSub, Nat.reduceLT, ↓reduceIte, reduceCtorEq, List.reduceReplicate, List.flatten_cons, List.flatten_nil, List.append_nil, eq_self, Int.reduceLE, Int.reduceLT, Int.reduceToNat, Nat.min_eq_left, Int.reducePow, Int.reduceNeg, Int.reduceEq]
        refine callV_of (cawake_spec (hg.pre hp5)) ?_
        simp (dsimp := false) only [go_sem, Nat.reduceAdd, Nat.reduceEqDiff, Nat.reduceMul, Nat.reduceLeDiff, Nat.reduceSub, Nat.reduceLT, ↓reduceIte, reduceCtorEq, List.reduceReplicate, List.flatten_cons, List.flatten_nil, List.append_nil, eq_self, Int.reduceLE, Int.reduceLT, Int.reduceToNat, Nat.min_eq_left, Int.reducePow, Int.reduceNeg, Int.reduceEq, q5, q5b, q6, ag, ee2, c0]
      · exact absurd (hgood2 j hj) hb2
end Go.Proofs.YtoiihalnbdehkaaDoor.B
