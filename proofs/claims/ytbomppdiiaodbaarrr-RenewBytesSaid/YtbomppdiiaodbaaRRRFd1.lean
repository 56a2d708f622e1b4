/-
  Fields (layer 3): what is written, by the program.
-/
import Derived.Test.YtbomppdiiaodbaaRRRIr11
import Derived.Test.YtbomppdiiaodbaaRRRSh7
namespace Go.Proofs.YtbomppdiiaodbaaRRR.B
open Go
set_option linter.unusedVariables false
set_option linter.unusedSimpArgs false
set_option maxRecDepth 100000
theorem be_takeG (k : Nat) (X : Int) {j : Nat} (h : j < k) : (beF k X).take (j + 1) = (beF k X).take j ++ [X / 256 ^ (k - 1 - j) % 256] := by
  rw [List.take_succ_eq_append_getElem (by rw [beF_len]; exact h)]
  congr 2
  simp [beF]
theorem byte_shG (x : Int) (k : Nat) : IntKind.u8.wrap (x.fdiv (2 ^ (8 * k))) = x / 256 ^ k % 256 := by
  have : (2 : Int) ^ (8 * k) = 256 ^ k := by rw [show (256 : Int) = 2 ^ 8 from rfl, ← Int.pow_mul]
  rw [this, byte_sh]
/-- What is written so far. -/
structure OutV (h0 h : AHeap) (b : Nat) (l : List Int) : Prop where
  new : h0.length ≤ b
  isb : IsB l
  is : ∃ v, Fx h b [v, .bool false] ∧ Ow h0 h 1 v l.length (ik .u8 l)
theorem OutV.pre {h0 h h' : AHeap} {b : Nat} {l : List Int} (H : OutV h0 h b l) (p : Pre h h') : OutV h0 h' b l := by
  obtain ⟨v, f, o⟩ := H.is
  exact ⟨H.new, H.isb, v, f.pre p, o.pre p⟩
/-- All blocks of fixed cells but one stand as they were. -/
def Keep (b : Nat) (h h' : AHeap) : Prop := h.length ≤ h'.length ∧ ∀ c cs, c ≠ b → Fx h c cs → Fx h' c cs
theorem Keep.refl (b : Nat) (h : AHeap) : Keep b h h := ⟨Nat.le_refl _, fun _ _ _ f => f⟩
theorem Keep.trans {b : Nat} {h1 h2 h3 : AHeap} (p : Keep b h1 h2) (q : Keep b h2 h3) : Keep b h1 h3 := ⟨Nat.le_trans p.1 q.1, fun c cs ne f => q.2 c cs ne (p.2 c cs ne f)⟩
theorem Keep.pre {b : Nat} {h h' : AHeap} (p : Pre h h') : Keep b h h' := ⟨p.len, fun _ _ _ f => f.pre p⟩
theorem Keep.set (b : Nat) (h : AHeap) (o : AObj) : Keep b h (h.set b o) := ⟨by simp, fun c cs ne f => f.other (fun e => ne e.symm) o⟩
theorem Keep.app {b : Nat} {h0 h h' : AHeap} {sz n : Nat} {v : Value} {cs : List Value} (o : Ow h0 h sz v n cs) (hc : Chg h0 v h h') : Keep b h h' := ⟨hc.1.1, fun c ds ne f => f.chg hc (o.nfix f)⟩
theorem lay_spec {h : AHeap} : SpecX Try.prog nG fn.field_Lay [] h fun v' h' => ∃ b, v' = .pointer (some ⟨b, 0, none⟩) ∧ Pre h h' ∧ OutV h h' b [] := by
  refine SpecX.of_body (ir.field_Lay.spec (Nat.le_of_ble_eq_true rfl)) ?_
  simp (dsimp := false) only [↓ir.field_Lay.bw, ir.field_Lay.rs, go_sem, Nat.reduceAdd, Nat.reduceEqDiff, Nat.reduceMul, Nat.reduceLeDiff, Nat.reduceSub, Nat.reduceLT, ↓reduceIte, reduceCtorEq, List.reduceReplicate, List.flatten_cons, List.flatten_nil, List.append_nil, eq_self, Int.reduceLE, Int.reduceLT, Int.reduceToNat, Nat.min_eq_left, Int.reducePow, Int.reduceNeg, Int.reduceEq]
  exact ⟨h.length, rfl, ⟨Nat.le_refl _, IsB.nil, nilS, Fx.here _ _ _, .nil⟩⟩
theorem put_spec {h0 h : AHeap} {b : Nat} {l : List Int} {x : Int} {s : Nat} (H : OutV h0 h b l) (hp : Pre h0 h) (hs : s < 8) (hx0 : 0 ≤ x) (hx1 : x < 256 ^ s) (hl : l.length ≤ 70368744177664) :
    SpecX Try.prog nG fn.field_Out_put [.pointer (some ⟨b, 0, none⟩), .int .u64 x, .int .i64 (s : Int)] h fun _ h' => OutV h0 h' b (l ++ beF s x) ∧ Pre h0 h' ∧ Keep b h h' := by
  refine SpecX.of_body (ir.field_Out_put.spec (Nat.le_of_ble_eq_true rfl)) ?_
  obtain ⟨v, f, o⟩ := H.is
  have d0 : decide ((s : Int) < 8) = true := decide_eq_true (by omega)
  have w1 : IntKind.i64.wrap (8 * (s : Int)) = ((8 * s : Nat) : Int) := by rw [wrap_i64 (by omega)]; omega
  have w2 : x.fdiv (2 ^ min (8 * s) 64) = 0 := by
    rw [Nat.min_eq_left (by omega), Int.fdiv_eq_ediv_of_nonneg _ (Int.le_of_lt (Int.pow_pos (by omega)))]
    have : (2 : Int) ^ (8 * s) = 256 ^ s := by rw [show (256 : Int) = 2 ^ 8 from rfl, ← Int.pow_mul]
    rw [this]
    exact Int.ediv_eq_zero_of_lt hx0 hx1
  have w3 : IntKind.i64.wrap ((s : Int) - 1) = (s : Int) - 1 - ((0 : Nat) : Int) := by rw [wrap_i64 (by omega)]; omega
  simp (dsimp := false) only [↓ir.field_Out_put.bw, ir.field_Out_put.rs, go_sem, Nat.reduceAdd, Nat.reduceEqDiff, Nat.reduceMul, Nat.reduceLeDiff, Nat.reduceSub, Nat.reduceLT, ↓reduceIte, reduceCtorEq, List.reduceReplicate, List.flatten_cons, List.flatten_nil, List.append_nil, eq_self, Int.reduceLE, Int.reduceLT, Int.reduceToNat, Nat.min_eq_left, Int.reducePow, Int.reduceNeg, Int.reduceEq, d0, w1, w2, w3, Int.toNat_natCast]
  refine ⟨by omega, ?_⟩
  have b0 : ((0 : Int) != 0) = false := rfl
  simp (dsimp := false) only [go_sem, Nat.reduceAdd, Nat.reduceEqDiff, Nat.reduceMul, Nat.reduceLeDiff, Nat.reduceSub, Nat.reduceLT, ↓reduceIte, reduceCtorEq, List.reduceReplicate, List.flatten_cons, List.flatten_nil, List.append_nil, eq_self, Int.reduceLE, Int.reduceLT, Int.reduceToNat, Nat.min_eq_left, Int.reducePow, Int.reduceNeg, Int.reduceEq, b0, w3]
  refine loopV_of (fun m' e h4 => ∃ (j : Nat) (v : Value), m' = s - j ∧ j ≤ s ∧ Pre h0 h4 ∧ Keep b h h4 ∧ Fx h4 b [v, .bool false] ∧ Ow h0 h4 1 v (l.length + j) (ik .u8 (l ++ (beF s x).take j)) ∧
    e = [(0, .pointer (some ⟨b, 0, none⟩)), (1, .int .u64 x), (2, .int .i64 ((s : Int) - 1 - (j : Int)))]) _ ⟨0, v, rfl, Nat.zero_le _, hp, Keep.refl _ _, f, by simpa using o, rfl⟩ ?_
  have hbl := H.new
  have hisb := H.isb
  clear f o hp
  rintro m' e h1 ⟨j, v1, rfl, hj, hp, kk, f, o, rfl⟩
  have rv : ∀ g, rds (h1 ++ g) b 0 1 = some [v1] := fun g => f.rdA (off := 0) (n := 1) (vs := [v1]) rfl (by simp) g
  have rv0 := f.rd (off := 0) (n := 1) (vs := [v1]) rfl (by simp)
  rcases Nat.lt_or_ge j s with hlt | hge
  case inl =>
    have d0 : decide (((s : Int) - 1 - (j : Int)) ≥ 0) = true := decide_eq_true (by omega)
    have d1 : decide (0 ≤ ((s : Int) - 1 - (j : Int))) = true := d0
    have w1 : IntKind.i64.wrap (8 * ((s : Int) - 1 - (j : Int))) = ((8 * (s - 1 - j) : Nat) : Int) := by rw [wrap_i64 (by omega)]; omega
    have w2 : IntKind.u8.wrap (x.fdiv (2 ^ min (8 * (s - 1 - j)) 64)) = x / 256 ^ (s - 1 - j) % 256 := by
      rw [Nat.min_eq_left (by omega), byte_shG]
    have w3 : IntKind.i64.wrap ((s : Int) - 1 - (j : Int) - 1) = (s : Int) - 1 - ((j + 1 : Nat) : Int) := by rw [wrap_i64 (by omega)]; omega
    simp (dsimp := false) only [↓ir.field_Out_put.l1.bw, go_sem, Nat.reduceAdd, Nat.reduceEqDiff, Nat.reduceMul, Nat.reduceLeDiff, Nat.reduceSub, Nat.reduceLT, ↓reduceIte, reduceCtorEq, List.reduceReplicate, List.flatten_cons, List.flatten_nil, List.append_nil, eq_self, Int.reduceLE, Int.reduceLT, Int.reduceToNat, Nat.min_eq_left, Int.reducePow, Int.reduceNeg, Int.reduceEq, d0, d1, rv0, w1, Int.toNat_natCast, w2]
    (repeat (with_reducible refine And.intro (by omega) ?_))
    have f1 := f.app [.row (.grow 1) [.int .u8 (x / 256 ^ (s - 1 - j) % 256)]]
    refine (o.pre (.app h1 [.row (.grow 1) [.int .u8 (x / 256 ^ (s - 1 - j) % 256)]])).app (m := 1) rfl rfl (show room (l.length + j + 1) 1 from ⟨by omega, by omega⟩) (fun v3 h3 o3 hc _ _ => ?_) (hp.app' _)
    have f3 := f1.chg hc ((o.pre (.app h1 [.row (.grow 1) [.int .u8 (x / 256 ^ (s - 1 - j) % 256)]])).nfix f1)
    have hp3 := hc.pre (hp.app' _)
    have ev : ik .u8 (l ++ (beF s x).take j) ++ [.int .u8 (x / 256 ^ (s - 1 - j) % 256)] = ik .u8 (l ++ (beF s x).take (j + 1)) := by
      rw [be_takeG s x hlt]; simp
    rw [ev] at o3
    have hw := f3.wr (off := 0) (vs := [v3]) (by simp)
    have e1 : setC [v1, .bool false] 0 [v3] = [v3, .bool false] := rfl
    rw [e1] at hw
    have c3 := o3.sl.cellsA
    have one3 := o3.sl.oneA
    simp (dsimp := false) only [go_sem, Nat.reduceAdd, Nat.reduceEqDiff, Nat.reduceMul, Nat.reduceLeDiff, Nat.reduceSub, Nat.reduceLT, ↓reduceIte, reduceCtorEq, List.reduceReplicate, List.flatten_cons, List.flatten_nil, List.append_nil, eq_self, Int.reduceLE, Int.reduceLT, Int.reduceToNat, Nat.min_eq_left, Int.reducePow, Int.reduceNeg, Int.reduceEq, c3, one3, hw, w3]
    have kk3 := ((kk.trans (.pre (.app h1 [.row (.grow 1) [.int .u8 (x / 256 ^ (s - 1 - j) % 256)]]))).trans (.app (o.pre (.app h1 [.row (.grow 1) [.int .u8 (x / 256 ^ (s - 1 - j) % 256)]])) hc)).trans (.set b h3 (.row .fix [v3, .bool false]))
    exact ⟨s - (j + 1), by omega, j + 1, v3, rfl, hlt, hp3.put hbl _, kk3, f3.set _, o3.put (o3.nfix f3) _, rfl⟩
  obtain rfl : j = s := by omega
  have d0 : decide (((j : Int) - 1 - (j : Int)) ≥ 0) = false := decide_eq_false (by omega)
  simp (dsimp := false) only [↓ir.field_Out_put.l1.bw, go_sem, Nat.reduceAdd, Nat.reduceEqDiff, Nat.reduceMul, Nat.reduceLeDiff, Nat.reduceSub, Nat.reduceLT, ↓reduceIte, reduceCtorEq, List.reduceReplicate, List.flatten_cons, List.flatten_nil, List.append_nil, eq_self, Int.reduceLE, Int.reduceLT, Int.reduceToNat, Nat.min_eq_left, Int.reducePow, Int.reduceNeg, Int.reduceEq, d0]
  rw [List.take_of_length_le (by rw [beF_len]; exact Nat.le_refl _)] at o
  exact ⟨⟨hbl, hisb.append (IsB.be _ _), v1, f, by rw [List.length_append, beF_len]; exact o⟩, hp, kk⟩
theorem u8_spec {h0 h : AHeap} {b : Nat} {l : List Int} {x : Int} (H : OutV h0 h b l) (hp : Pre h0 h) (hx0 : 0 ≤ x) (hx1 : x < 256) (hl : l.length ≤ 70368744177664) :
    SpecX Try.prog nG fn.field_Out_U8 [.pointer (some ⟨b, 0, none⟩), .int .u64 x] h fun _ h' => OutV h0 h' b (l ++ beF 1 x) ∧ Pre h0 h' ∧ Keep b h h' := by
  refine SpecX.of_body (ir.field_Out_U8.spec (Nat.le_of_ble_eq_true rfl)) ?_
  simp (dsimp := false) only [↓ir.field_Out_U8.bw, ir.field_Out_U8.rs, go_sem, Nat.reduceAdd, Nat.reduceEqDiff, Nat.reduceMul, Nat.reduceLeDiff, Nat.reduceSub, Nat.reduceLT, ↓reduceIte, reduceCtorEq, List.reduceReplicate, List.flatten_cons, List.flatten_nil, List.append_nil, eq_self, Int.reduceLE, Int.reduceLT, Int.reduceToNat, Nat.min_eq_left, Int.reducePow, Int.reduceNeg, Int.reduceEq]
  refine callV_x (put_spec (s := 1) H hp (by omega) hx0 (by omega) hl) ?_
  rintro _ h1 q
  simp (dsimp := false) only [go_sem, Nat.reduceAdd, Nat.reduceEqDiff, Nat.reduceMul, Nat.reduceLeDiff, Nat.reduceSub, Nat.reduceLT, ↓reduceIte, reduceCtorEq, List.reduceReplicate, List.flatten_cons, List.flatten_nil, List.append_nil, eq_self, Int.reduceLE, Int.reduceLT, Int.reduceToNat, Nat.min_eq_left, Int.reducePow, Int.reduceNeg, Int.reduceEq]
  exact q
theorem u32_spec {h0 h : AHeap} {b : Nat} {l : List Int} {x : Int} (H : OutV h0 h b l) (hp : Pre h0 h) (hx0 : 0 ≤ x) (hx1 : x < 4294967296) (hl : l.length ≤ 70368744177664) :
    SpecX Try.prog nG fn.field_Out_U32 [.pointer (some ⟨b, 0, none⟩), .int .u64 x] h fun _ h' => OutV h0 h' b (l ++ beF 4 x) ∧ Pre h0 h' ∧ Keep b h h' := by
  refine SpecX.of_body (ir.field_Out_U32.spec (Nat.le_of_ble_eq_true rfl)) ?_
  simp (dsimp := false) only [↓ir.field_Out_U32.bw, ir.field_Out_U32.rs, go_sem, Nat.reduceAdd, Nat.reduceEqDiff, Nat.reduceMul, Nat.reduceLeDiff, Nat.reduceSub, Nat.reduceLT, ↓reduceIte, reduceCtorEq, List.reduceReplicate, List.flatten_cons, List.flatten_nil, List.append_nil, eq_self, Int.reduceLE, Int.reduceLT, Int.reduceToNat, Nat.min_eq_left, Int.reducePow, Int.reduceNeg, Int.reduceEq]
  refine callV_x (put_spec (s := 4) H hp (by omega) hx0 (by omega) hl) ?_
  rintro _ h1 q
  simp (dsimp := false) only [go_sem, Nat.reduceAdd, Nat.reduceEqDiff, Nat.reduceMul, Nat.reduceLeDiff, Nat.reduceSub, Nat.reduceLT, ↓reduceIte, reduceCtorEq, List.reduceReplicate, List.flatten_cons, List.flatten_nil, List.append_nil, eq_self, Int.reduceLE, Int.reduceLT, Int.reduceToNat, Nat.min_eq_left, Int.reducePow, Int.reduceNeg, Int.reduceEq]
  exact q
theorem osum_spec {h0 h : AHeap} {b : Nat} {l D : List Int} (H : OutV h0 h b l) (hp : Pre h0 h) (hD : D.length = 16) (hB : IsB D) (hl : l.length ≤ 70368744177664) :
    SpecX Try.prog nG fn.field_Out_Sum [.pointer (some ⟨b, 0, none⟩), .agg ⟨ik .u8 D⟩] h fun _ h' => OutV h0 h' b (l ++ D) ∧ Pre h0 h' ∧ Keep b h h' := by
  refine SpecX.of_body (ir.field_Out_Sum.spec (Nat.le_of_ble_eq_true rfl)) ?_
  obtain ⟨v, f, o⟩ := H.is
  have ca : cellsA (.agg ⟨ik .u8 D⟩) = some (ik .u8 D) := rfl
  have f1 := f.app [.row .fix (ik .u8 D)]
  have o1 := o.pre (.app h [.row .fix (ik .u8 D)])
  have fd : Fx (h ++ [.row .fix (ik .u8 D)]) h.length (ik .u8 D) := Fx.here _ _ _
  have rv := f1.rd (off := 0) (n := 1) (vs := [v]) rfl (by simp)
  have src := (fd.sl (n := 16) (c := 16) hD (Nat.le_refl _) (by decide)).src (.refl _)
  simp (dsimp := false) only [↓ir.field_Out_Sum.bw, ir.field_Out_Sum.rs, go_sem, Nat.reduceAdd, Nat.reduceEqDiff, Nat.reduceMul, Nat.reduceLeDiff, Nat.reduceSub, Nat.reduceLT, ↓reduceIte, reduceCtorEq, List.reduceReplicate, List.flatten_cons, List.flatten_nil, List.append_nil, eq_self, Int.reduceLE, Int.reduceLT, Int.reduceToNat, Nat.min_eq_left, Int.reducePow, Int.reduceNeg, Int.reduceEq, ca, rv, Option.getD_none, Int.toNat_zero, Nat.zero_mul, ite_self, Nat.sub_zero, Int.toNat_natCast]
  refine ⟨by omega, slaOK_at fd, ?_⟩
  rw [if_pos (by rw [List.length_map, hD]; exact Nat.le_refl _), List.take_of_length_le (by rw [List.length_map, hD]; exact Nat.le_refl _), Option.map_some]
  refine o1.app (by rw [List.length_map, hD]) (ik_one _ _) (show room (l.length + 16) 1 from ⟨by omega, by omega⟩) (fun v3 h3 o3 hc _ _ => ?_) (hp.app' _)
  have f3 := f1.chg hc (o1.nfix f1)
  have hp3 := hc.pre (hp.app' _)
  rw [← List.map_append] at o3
  have hw := f3.wr (off := 0) (vs := [v3]) (by simp)
  have e1 : setC [v, .bool false] 0 [v3] = [v3, .bool false] := rfl
  rw [e1] at hw
  have c3 := o3.sl.cellsA
  have one3 := o3.sl.oneA
  simp (dsimp := false) only [go_sem, Nat.reduceAdd, Nat.reduceEqDiff, Nat.reduceMul, Nat.reduceLeDiff, Nat.reduceSub, Nat.reduceLT, ↓reduceIte, reduceCtorEq, List.reduceReplicate, List.flatten_cons, List.flatten_nil, List.append_nil, eq_self, Int.reduceLE, Int.reduceLT, Int.reduceToNat, Nat.min_eq_left, Int.reducePow, Int.reduceNeg, Int.reduceEq, c3, one3, hw]
  exact ⟨⟨H.new, H.isb.append hB, v3, f3.set _, by rw [List.length_append, hD]; exact o3.put (o3.nfix f3) _⟩, hp3.put H.new _, ((Keep.pre (.app h [.row .fix (ik .u8 D)])).trans (.app o1 hc)).trans (.set b h3 _)⟩
theorem obytes_spec {h0 h : AHeap} {b : Nat} {l : List Int} (H : OutV h0 h b l) (hl : l.length ≤ 70368744177664) :
    SpecX Try.prog nG fn.field_Out_Bytes [.pointer (some ⟨b, 0, none⟩)] h fun v' h' => Pre h h' ∧ ∃ v, v' = .tuple #[v, .int .i64 0] ∧ Ls h' 1 by8 v l := by
  refine SpecX.of_body (ir.field_Out_Bytes.spec (Nat.le_of_ble_eq_true rfl)) ?_
  obtain ⟨v, f, o⟩ := H.is
  have rb := f.rd (off := 1) (n := 1) (vs := [.bool false]) rfl (by simp)
  have rv := f.rdA (off := 0) (n := 1) (vs := [v]) rfl (by simp)
  have src := o.lsK.src (.app h [.row (.grow 1) []])
  simp (dsimp := false) only [↓ir.field_Out_Bytes.bw, ir.field_Out_Bytes.rs, go_sem, Nat.reduceAdd, Nat.reduceEqDiff, Nat.reduceMul, Nat.reduceLeDiff, Nat.reduceSub, Nat.reduceLT, ↓reduceIte, reduceCtorEq, List.reduceReplicate, List.flatten_cons, List.flatten_nil, List.append_nil, eq_self, Int.reduceLE, Int.reduceLT, Int.reduceToNat, Nat.min_eq_left, Int.reducePow, Int.reduceNeg, Int.reduceEq, rb, rv, src]
  refine (Ow.empty (h0 := h) (h := h) (sz := 1) (Nat.le_refl _)).app (by simp) (ik_one _ _) (show room (0 + l.length) 1 from ⟨by omega, by omega⟩) (fun v3 h3 o3 hc _ _ => ?_) (.app _ _)
  have hp3 := hc.pre (.app h [.row (.grow 1) []])
  simp only [Nat.zero_add, List.nil_append] at o3
  simp (dsimp := false) only [go_sem, Nat.reduceAdd, Nat.reduceEqDiff, Nat.reduceMul, Nat.reduceLeDiff, Nat.reduceSub, Nat.reduceLT, ↓reduceIte, reduceCtorEq, List.reduceReplicate, List.flatten_cons, List.flatten_nil, List.append_nil, eq_self, Int.reduceLE, Int.reduceLT, Int.reduceToNat, Nat.min_eq_left, Int.reducePow, Int.reduceNeg, Int.reduceEq]
  exact ⟨hp3, v3, rfl, o3.lsK⟩
end Go.Proofs.YtbomppdiiaodbaaRRR.B
