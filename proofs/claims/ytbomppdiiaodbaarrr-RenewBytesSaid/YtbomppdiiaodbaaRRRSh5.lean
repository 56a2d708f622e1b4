/-
  Short sums (layer 5), as the program makes them.
-/
import Derived.Test.YtbomppdiiaodbaaRRRSh4
namespace Go.Proofs.YtbomppdiiaodbaaRRR.B
open Go
set_option linter.unusedVariables false
set_option linter.unusedSimpArgs false
set_option maxRecDepth 100000
theorem slaOK_at {h : AHeap} {b : Nat} {cs : List Value} (f : Fx h b cs) : slaOK h b := by
  unfold slaOK; unfold Fx at f; rw [f]; trivial
theorem cpyA_fix {h : AHeap} {b b2 k n m c c2 : Nat} {cs cs2 : List Value} (f : Fx h b cs) (f2 : Fx h b2 cs2) (h1 : cs.all oneA = true) (hk : min n m = k) (hk0 : 0 < k) (hc : k ≤ cs.length) (hc2 : cs2.length = k) :
    cpyA h 1 (.slice (some ⟨b2, 0, none⟩) m c2) (.slice (some ⟨b, 0, none⟩) n c) = some (k, h.set b2 (.row .fix (cs.take k))) := by
  have r := f.rd (off := 0) (n := k) (vs := cs.take k) (by simp) (by omega)
  have w := f2.wr (off := 0) (vs := cs.take k) (by rw [List.length_take]; omega)
  rw [setC_all (by rw [List.length_take]; omega)] at w
  have h1' : (cs.take k).all oneA = true := List.all_eq_true.2 fun v hv => List.all_eq_true.1 h1 v (List.mem_of_mem_take hv)
  simp only [cpyA, hk, Nat.mul_one, r, w, h1', if_true, Option.map_some]
  rw [if_neg (by omega)]
theorem first16_spec {h : AHeap} {D : List Int} (hD : D.length = 32) : Spec Try.prog nG fn.mac_first [.agg ⟨ik .u8 D⟩] h (.agg ⟨ik .u8 (D.take 16)⟩) h := by
  refine SpecX.ag (ik_scalar _ _) (SpecX.of_body (ir.mac_first.spec (Nat.le_of_ble_eq_true rfl)) ?_)
  have ca : cellsA (.agg ⟨ik .u8 D⟩) = some (ik .u8 D) := rfl
  simp (dsimp := false) only [↓ir.mac_first.bw, ir.mac_first.rs, go_sem, Nat.reduceAdd, Nat.reduceEqDiff, Nat.reduceMul, Nat.reduceLeDiff, Nat.reduceSub, Nat.reduceLT, ↓reduceIte, reduceCtorEq, List.reduceReplicate, List.flatten_cons, List.flatten_nil, List.append_nil, eq_self, Int.reduceLE, Int.reduceLT, Int.reduceToNat, Nat.min_eq_left, Int.reducePow, Int.reduceNeg, Int.reduceEq, ca, zrep_ik]
  have f0 : Fx (h ++ [AObj.row .fix (ik .u8 D), AObj.row .fix (ik .u8 (irep 16 0)), AObj.row .fix (ik .u8 (irep 16 0))]) h.length (ik .u8 D) := Fx.here _ _ _
  have f1 : Fx (h ++ [AObj.row .fix (ik .u8 D), AObj.row .fix (ik .u8 (irep 16 0)), AObj.row .fix (ik .u8 (irep 16 0))]) (h.length + 1) (ik .u8 (irep 16 0)) := by simp [Fx]
  have f2 : Fx (h ++ [AObj.row .fix (ik .u8 D), AObj.row .fix (ik .u8 (irep 16 0)), AObj.row .fix (ik .u8 (irep 16 0))]) (h.length + 2) (ik .u8 (irep 16 0)) := by simp [Fx]
  have p0 := Pre.app h [AObj.row .fix (ik .u8 D), AObj.row .fix (ik .u8 (irep 16 0)), AObj.row .fix (ik .u8 (irep 16 0))]
  generalize (h ++ [AObj.row .fix (ik .u8 D), AObj.row .fix (ik .u8 (irep 16 0)), AObj.row .fix (ik .u8 (irep 16 0))]) = h1 at f0 f1 f2 p0 ⊢
  have hcp := cpyA_fix (n := 32) (m := 16) (c := 32) (c2 := 16) (k := 16) f0 f2 (ik_one _ _) rfl (by omega) (by rw [List.length_map]; omega) (by rw [List.length_map, irep_len])
  refine ⟨by simp, slaOK_at f2, by simp, slaOK_at f0, ?_⟩
  rw [← List.map_take] at hcp
  have g2 := f2.set (ik .u8 (D.take 16))
  have g1 := f1.other (show h.length + 2 ≠ h.length + 1 by omega) (.row .fix (ik .u8 (D.take 16)))
  have hlt : (ik .u8 (D.take 16)).length = 16 := by rw [List.length_map, List.length_take]; omega
  have rs := g2.rd (off := 0) (n := 16) (vs := ik .u8 (D.take 16)) (by rw [List.drop_zero, List.take_of_length_le (by omega)]) (by omega)
  have hw := g1.wr (off := 0) (vs := ik .u8 (D.take 16)) (by rw [hlt, List.length_map, irep_len]; omega)
  rw [setC_all (by rw [hlt, List.length_map, irep_len])] at hw
  have g3 := g1.set (ik .u8 (D.take 16))
  have rr := g3.rd (off := 0) (n := 16) (vs := ik .u8 (D.take 16)) (by rw [List.drop_zero, List.take_of_length_le (by omega)]) (by omega)
  have ag : aggOf true (ik .u8 (D.take 16)) = some (.agg ⟨ik .u8 (D.take 16)⟩) := rfl
  have ca2 : cellsA (.agg ⟨ik .u8 (D.take 16)⟩) = some (ik .u8 (D.take 16)) := rfl
  simp only [Option.getD_none, Int.toNat_zero, Nat.zero_mul, ite_self, Nat.sub_zero, Int.toNat_natCast, cpyV, hcp]
  simp (dsimp := false) only [go_sem, Nat.reduceAdd, Nat.reduceEqDiff, Nat.reduceMul, Nat.reduceLeDiff, Nat.reduceSub, Nat.reduceLT, ↓reduceIte, reduceCtorEq, List.reduceReplicate, List.flatten_cons, List.flatten_nil, List.append_nil, eq_self, Int.reduceLE, Int.reduceLT, Int.reduceToNat, Nat.min_eq_left, Int.reducePow, Int.reduceNeg, Int.reduceEq, rs, ag, ca2, hw, rr]
  exact ⟨hlt, ik_one _ _, (p0.put (by omega) _).put (by omega) _⟩
theorem HashV.pre {h0 h h' : AHeap} {b : Nat} {m : List Int} (H : HashV h0 h b m) (p : Pre h h') : HashV h0 h' b m := by
  obtain ⟨v, f, o⟩ := H.is
  exact ⟨H.new, H.isb, v, f.pre p, o.pre p⟩
theorem Ls.blk {α : Type} {R : List Value → α → Prop} {h : AHeap} {sz : Nat} {v : Value} {l : List α} (k : Ls h sz R v l) (hn : l.length ≠ 0) : sb v < h.length := by
  obtain ⟨c, a, _⟩ := k
  exact a.blk hn
def shortF (x : Int) (parts : List (List Int)) : List Int := (shaF (x :: parts.flatten)).take 16
theorem shortF_len (x : Int) (parts : List (List Int)) : (shortF x parts).length = 16 := by simp [shortF, shaF_len]
theorem short_spec {h : AHeap} {pv : Value} {parts : List (List Int)} {x : Int} (hv : Ls h 1 (isL 1 by8 h) pv parts) (hx0 : 0 ≤ x) (hx1 : x < 256) (hb : ∀ p ∈ parts, IsB p) (hl : parts.flatten.length ≤ 70368744177000) :
    Spec Try.prog nG fn.mac_Short [.int .u8 x, pv] h (.agg ⟨ik .u8 (shortF x parts)⟩) h := by
  refine SpecX.ag (ik_scalar _ _) (SpecX.of_body (ir.mac_Short.spec (Nat.le_of_ble_eq_true rfl)) ?_)
  simp (dsimp := false) only [↓ir.mac_Short.bw, ir.mac_Short.rs, go_sem, Nat.reduceAdd, Nat.reduceEqDiff, Nat.reduceMul, Nat.reduceLeDiff, Nat.reduceSub, Nat.reduceLT, ↓reduceIte, reduceCtorEq, List.reduceReplicate, List.flatten_cons, List.flatten_nil, List.append_nil, eq_self, Int.reduceLE, Int.reduceLT, Int.reduceToNat, Nat.min_eq_left, Int.reducePow, Int.reduceNeg, Int.reduceEq, zrep_ik]
  have f0 : Fx (h ++ [AObj.row .fix (ik .u8 (irep 16 0))]) h.length (ik .u8 (irep 16 0)) := Fx.here _ _ _
  have p0 := Pre.app h [AObj.row .fix (ik .u8 (irep 16 0))]
  generalize (h ++ [AObj.row .fix (ik .u8 (irep 16 0))]) = h1 at f0 p0 ⊢
  refine callV_x new_spec ?_
  rintro _ h2 ⟨b, rfl, p2, H2⟩
  simp (dsimp := false) only [go_sem, Nat.reduceAdd, Nat.reduceEqDiff, Nat.reduceMul, Nat.reduceLeDiff, Nat.reduceSub, Nat.reduceLT, ↓reduceIte, reduceCtorEq, List.reduceReplicate, List.flatten_cons, List.flatten_nil, List.append_nil, eq_self, Int.reduceLE, Int.reduceLT, Int.reduceToNat, Nat.min_eq_left, Int.reducePow, Int.reduceNeg, Int.reduceEq]
  have p3 := p2.app' [AObj.row (.grow 1) [.int .u8 x]]
  have H3 : HashV h1 (h2 ++ [AObj.row (.grow 1) [.int .u8 x]]) b [] := H2.pre (.app _ _)
  have hk : Ls (h2 ++ [AObj.row (.grow 1) [.int .u8 x]]) 1 by8 (.slice (some ⟨h2.length, 0, none⟩) 1 1) [x] :=
    ⟨_, litS (h := h2 ++ [AObj.row (.grow 1) [.int .u8 x]]) (b := h2.length) (n := 1) (sz := 1) (cells := [.int .u8 x]) (by simp) rfl (by decide), fun i hi => by
      obtain rfl : i = 0 := by simpa using hi
      rfl⟩
  have hbl : b < h2.length := by obtain ⟨v, f, _⟩ := H2.is; exact f.lt
  refine callV_x (write_spec H3 p3 hk (IsB.cons hx0 hx1 IsB.nil) (fun _ => by simp only [sb]; omega) (by simp)) ?_
  rintro _ h3 ⟨H4, p4⟩
  simp (dsimp := false) only [go_sem, Nat.reduceAdd, Nat.reduceEqDiff, Nat.reduceMul, Nat.reduceLeDiff, Nat.reduceSub, Nat.reduceLT, ↓reduceIte, reduceCtorEq, List.reduceReplicate, List.flatten_cons, List.flatten_nil, List.append_nil, eq_self, Int.reduceLE, Int.reduceLT, Int.reduceToNat, Nat.min_eq_left, Int.reducePow, Int.reduceNeg, Int.reduceEq, hv.lenV]
  have hpl := hv.le
  have hbh : h1.length ≤ b := H2.new
  clear hk hbl H3 H2 p3 p2
  refine loopV_of (fun m' e h4 => ∃ i : Nat, m' = parts.length - i ∧ i ≤ parts.length ∧ Pre h1 h4 ∧ HashV h1 h4 b (x :: (parts.take i).flatten) ∧
    e = [(4, .pointer (some ⟨h.length, 0, none⟩)), (5, .pointer (some ⟨b, 0, none⟩)), (13, pv), (14, .int .i64 (parts.length : Int)), (15, .int .i64 (i : Int))]) _ ⟨0, rfl, Nat.zero_le _, p4, H4, rfl⟩ ?_
  clear p4 H4
  rintro m' e h4 ⟨i, rfl, hi, p4, H4, rfl⟩
  have p04 := p0.trans p4
  rcases Nat.lt_or_ge i parts.length with hlt | hge
  case inl =>
    have d0 : decide ((i : Int) < (parts.length : Int)) = true := decide_eq_true (by omega)
    have i5 : IntKind.i64.wrap ((i : Int) + 1) = ((i + 1 : Nat) : Int) := wrap_succ hlt hpl
    obtain ⟨_, _, ⟨tv, rfl, ht⟩, r0, _⟩ := hv.rd2 p04 hlt
    have hfl : (parts.take i).flatten.length + parts[i].length ≤ parts.flatten.length := by
      have := congrArg (fun l => (List.flatten l).length) (List.take_append_drop i parts)
      simp only [List.flatten_append, List.length_append, List.drop_eq_getElem_cons hlt, List.flatten_cons] at this
      omega
    simp (dsimp := false) only [↓ir.mac_Short.l1.bw, go_sem, Nat.reduceAdd, Nat.reduceEqDiff, Nat.reduceMul, Nat.reduceLeDiff, Nat.reduceSub, Nat.reduceLT, ↓reduceIte, reduceCtorEq, List.reduceReplicate, List.flatten_cons, List.flatten_nil, List.append_nil, eq_self, Int.reduceLE, Int.reduceLT, Int.reduceToNat, Nat.min_eq_left, Int.reducePow, Int.reduceNeg, Int.reduceEq, d0, hv.ixsN hlt, r0]
    refine callV_x (write_spec H4 p4 (ht.pre p04) (hb _ (List.getElem_mem hlt)) (fun hn => ?_) (by simp only [List.length_cons]; omega)) ?_
    · have := ht.blk hn
      have := p0.len
      omega
    rintro _ h5 ⟨H5, p5⟩
    simp (dsimp := false) only [go_sem, Nat.reduceAdd, Nat.reduceEqDiff, Nat.reduceMul, Nat.reduceLeDiff, Nat.reduceSub, Nat.reduceLT, ↓reduceIte, reduceCtorEq, List.reduceReplicate, List.flatten_cons, List.flatten_nil, List.append_nil, eq_self, Int.reduceLE, Int.reduceLT, Int.reduceToNat, Nat.min_eq_left, Int.reducePow, Int.reduceNeg, Int.reduceEq, i5]
    refine ⟨parts.length - (i + 1), by omega, i + 1, rfl, hlt, p5, ?_, rfl⟩
    rw [List.take_succ_eq_append_getElem hlt, List.flatten_append, List.flatten_cons, List.flatten_nil, List.append_nil]
    exact H5
  obtain rfl : i = parts.length := by omega
  rw [List.take_length] at H4
  have d0 : decide ((parts.length : Int) < (parts.length : Int)) = false := decide_eq_false (by omega)
  simp (dsimp := false) only [↓ir.mac_Short.l1.bw, go_sem, Nat.reduceAdd, Nat.reduceEqDiff, Nat.reduceMul, Nat.reduceLeDiff, Nat.reduceSub, Nat.reduceLT, ↓reduceIte, reduceCtorEq, List.reduceReplicate, List.flatten_cons, List.flatten_nil, List.append_nil, eq_self, Int.reduceLE, Int.reduceLT, Int.reduceToNat, Nat.min_eq_left, Int.reducePow, Int.reduceNeg, Int.reduceEq, d0]
  refine callV_of (sum_spec H4 (by simp only [List.length_cons]; omega)) ?_
  simp (dsimp := false) only [go_sem, Nat.reduceAdd, Nat.reduceEqDiff, Nat.reduceMul, Nat.reduceLeDiff, Nat.reduceSub, Nat.reduceLT, ↓reduceIte, reduceCtorEq, List.reduceReplicate, List.flatten_cons, List.flatten_nil, List.append_nil, eq_self, Int.reduceLE, Int.reduceLT, Int.reduceToNat, Nat.min_eq_left, Int.reducePow, Int.reduceNeg, Int.reduceEq]
  refine callV_of (first16_spec (shaF_len _)) ?_
  have g0 := f0.pre p4
  have hlt : (ik .u8 ((shaF (x :: parts.flatten)).take 16)).length = 16 := by rw [List.length_map, List.length_take, shaF_len]; omega
  have hw := g0.wr (off := 0) (vs := ik .u8 ((shaF (x :: parts.flatten)).take 16)) (by rw [hlt, List.length_map, irep_len]; omega)
  rw [setC_all (by rw [hlt, List.length_map, irep_len])] at hw
  have g3 := g0.set (ik .u8 ((shaF (x :: parts.flatten)).take 16))
  have rr := g3.rd (off := 0) (n := 16) (vs := ik .u8 ((shaF (x :: parts.flatten)).take 16)) (by rw [List.drop_zero, List.take_of_length_le (by omega)]) (by omega)
  have ag : aggOf true (ik .u8 ((shaF (x :: parts.flatten)).take 16)) = some (.agg ⟨ik .u8 ((shaF (x :: parts.flatten)).take 16)⟩) := rfl
  have ca2 : cellsA (.agg ⟨ik .u8 ((shaF (x :: parts.flatten)).take 16)⟩) = some (ik .u8 ((shaF (x :: parts.flatten)).take 16)) := rfl
  simp (dsimp := false) only [go_sem, Nat.reduceAdd, Nat.reduceEqDiff, Nat.reduceMul, Nat.reduceLeDiff, Nat.reduceSub, Nat.reduceLT, ↓reduceIte, reduceCtorEq, List.reduceReplicate, List.flatten_cons, List.flatten_nil, List.append_nil, eq_self, Int.reduceLE, Int.reduceLT, Int.reduceToNat, Nat.min_eq_left, Int.reducePow, Int.reduceNeg, Int.reduceEq, ca2, hw, rr, ag]
  exact ⟨hlt, ik_one _ _, p04.put (Nat.le_refl _) _, rfl⟩
end Go.Proofs.YtbomppdiiaodbaaRRR.B
