/-
  The document's reading of a key: its text's parts.
-/
import Derived.Test.YtoiihalnbdehkaaDoorK4
import Derived.Test.YtoiihalnbdehkaaDoorAbZ
namespace Go.Proofs.YtoiihalnbdehkaaDoor.B
open Go
set_option linter.unusedVariables false
set_option linter.unusedSimpArgs false
set_option maxRecDepth 100000
theorem kt_drop {f : FuncId} {args : List Value} {h : AHeap} {x : Option (Nat × Nat × Nat)} (hs : SpecX Tryd.prog nG f args h fun v' h' => Pre h h' ∧ v' = parV x) : Spec Tryd.prog nG f args h (parV x) h := by
  obtain ⟨v', h', k, ⟨g, rfl⟩, rfl⟩ := hs
  refine k.fin ?_
  cases x with
  | none => exact Fin.kt 0 0 0 10
  | some y => exact Fin.kt y.1 y.2.1 y.2.2 0
theorem numL_bound {M n : Nat} {l : List UInt8} (h : numL M l = some n) : n ≤ M := by
  unfold numL at h
  split at h
  · rename_i q; cases h; exact q.2
  · cases h
theorem ext_data (s : ByteArray) (a b : Nat) : (s.extract a b).data.toList = (s.data.toList.take b).drop a := by rw [extract_list]
theorem ext_size (s : ByteArray) (a b : Nat) : (s.extract a b).size ≤ s.size := by
  have h1 := dl_len (s.extract a b)
  rw [ext_data, List.length_drop, List.length_take, dl_len s] at h1
  omega
theorem rparse_spec (h : AHeap) {t : ByteArray} (hm : t.size ≤ 140737488351232) : Spec Tryd.prog nG fn.ref01_Parse [.string t] h (parV (prs 65536 63 15 t.data.toList)) h := by
  have dl := dl_len t
  refine kt_drop (SpecX.of_body (ir.ref01_Parse.spec (Nat.le_of_ble_eq_true rfl)) ?_)
  simp (dsimp := false) only [↓ir.ref01_Parse.bw, ir.ref01_Parse.rs, go_sem, Nat.reduceAdd, Nat.reduceEqDiff, Nat.reduceMul, Nat.reduceLeDiff, Nat.reduceSub, Nat.reduceLT, ↓reduceIte, reduceCtorEq, List.reduceReplicate, List.flatten_cons, List.flatten_nil, List.append_nil, eq_self, Int.reduceLE, Int.reduceLT, Int.reduceToNat, Nat.min_eq_left, Int.reducePow, Int.reduceNeg, Int.reduceEq]
  obtain ⟨h1, eh1⟩ : ∃ h1, h ++ [AObj.row Mode.fix [.int .u32 0, .int .u32 0, .int .i64 0]] = h1 := ⟨_, rfl⟩
  have hp1 : Pre h h1 := eh1 ▸ .app _ _
  have f2 : Fx h1 h.length [.int .u32 0, .int .u32 0, .int .i64 0] := eh1 ▸ Fx.here _ _ _
  rw [eh1]
  clear eh1
  refine loopV_of (fun m e h2 => ∃ (i : Nat) (d b : Int), m = t.size - i ∧ i ≤ t.size ∧ h2 = h1 ∧ DB t.data.toList i d b ∧ e = [(0, .string t), (2, .pointer (some ⟨h.length, 0, none⟩)), (4, .int .i64 d), (5, .int .i64 b), (6, .int .i64 i)]) _
    ⟨0, -1, -1, rfl, Nat.zero_le _, rfl, DB.begin _, rfl⟩ ?_
  rintro m e h2 ⟨i, d, b, rfl, hi, rfl, kd, rfl⟩
  rcases Nat.lt_or_ge i t.size with hlt | hge
  · have gi := ba_get t hlt
    have q := kd.step
    obtain ⟨c, hc⟩ : ∃ c, t.data.toList.getD i 0 = c := ⟨_, rfl⟩
    rw [hc] at gi q
    have hd : decide ((i : Int) < t.size) = true := decide_eq_true (by omega)
    have e2 : IntKind.i64.wrap ((i : Int) + 1) = ((i + 1 : Nat) : Int) := wrap_succ hlt (by unfold maxI; omega)
    have nx : ∀ d' b' : Int, DB t.data.toList (i + 1) d' b' → ∃ m', m' < t.size - i ∧ ∃ (i' : Nat) (d2 b2 : Int), m' = t.size - i' ∧ i' ≤ t.size ∧ DB t.data.toList i' d2 b2 ∧ [(0, Value.string t), (2, .pointer (some ⟨h.length, 0, none⟩)), (4, .int .i64 d'), (5, .int .i64 b'), (6, .int .i64 ((i + 1 : Nat) : Int))] = [(0, .string t), (2, .pointer (some ⟨h.length, 0, none⟩)), (4, .int .i64 d2), (5, .int .i64 b2), (6, .int .i64 i')] := fun d' b' kk =>
      ⟨_, by omega, i + 1, d', b', rfl, by omega, kk, rfl⟩
    have dg : ∀ x : Int, decide (x ≥ 0) = decide (0 ≤ x) := fun x => rfl
    have i0 : (0 : Int) ≤ i := by omega
    by_cases c46 : c = 46
    · have e46 : (((c.toNat : Nat) : Int) == 46) = true := by rw [c46]; rfl
      have e47 : (((c.toNat : Nat) : Int) == 47) = false := by rw [c46]; rfl
      have n47 : ¬ c = 47 := by rw [c46]; decide
      by_cases dn : d < 0
      · have x1 : decide (d < 0) = true := decide_eq_true dn
        rw [if_pos ⟨c46, dn⟩, if_neg (fun z => n47 z.1)] at q
        simp (dsimp := false) only [↓ir.ref01_Parse.l1.bw, go_sem, Nat.reduceAdd, Nat.reduceEqDiff, Nat.reduceMul, Nat.reduceLeDiff, Nat.reduceSub, Nat.reduceLT, ↓reduceIte, reduceCtorEq, List.reduceReplicate, List.flatten_cons, List.flatten_nil, List.append_nil, eq_self, Int.reduceLE, Int.reduceLT, Int.reduceToNat, Nat.min_eq_left, Int.reducePow, Int.reduceNeg, Int.reduceEq, hd, ixstrV_str, Int.toNat_natCast, gi, e46, e47, x1, e2]
        exact ⟨i0, i0, nx _ _ q⟩
      · have x1 : decide (d < 0) = false := decide_eq_false dn
        rw [if_neg (fun z => dn z.2), if_neg (fun z => n47 z.1)] at q
        simp (dsimp := false) only [↓ir.ref01_Parse.l1.bw, go_sem, Nat.reduceAdd, Nat.reduceEqDiff, Nat.reduceMul, Nat.reduceLeDiff, Nat.reduceSub, Nat.reduceLT, ↓reduceIte, reduceCtorEq, List.reduceReplicate, List.flatten_cons, List.flatten_nil, List.append_nil, eq_self, Int.reduceLE, Int.reduceLT, Int.reduceToNat, Nat.min_eq_left, Int.reducePow, Int.reduceNeg, Int.reduceEq, hd, ixstrV_str, Int.toNat_natCast, gi, e46, e47, x1, e2]
        exact ⟨i0, i0, nx _ _ q⟩
    · have n46 : c.toNat ≠ 46 := fun z => c46 (UInt8.toNat_inj.1 z)
      have e46 : (((c.toNat : Nat) : Int) == 46) = false := by simp; omega
      rw [if_neg (fun z => c46 z.1)] at q
      by_cases c47 : c = 47
      · have e47 : (((c.toNat : Nat) : Int) == 47) = true := by rw [c47]; rfl
        by_cases bn : b < 0
        · have x2 : decide (b < 0) = true := decide_eq_true bn
          by_cases dp : 0 ≤ d
          · have x3 : decide (0 ≤ d) = true := decide_eq_true dp
            rw [if_pos ⟨c47, bn, dp⟩] at q
            simp (dsimp := false) only [↓ir.ref01_Parse.l1.bw, go_sem, Nat.reduceAdd, Nat.reduceEqDiff, Nat.reduceMul, Nat.reduceLeDiff, Nat.reduceSub, Nat.reduceLT, ↓reduceIte, reduceCtorEq, List.reduceReplicate, List.flatten_cons, List.flatten_nil, List.append_nil, eq_self, Int.reduceLE, Int.reduceLT, Int.reduceToNat, Nat.min_eq_left, Int.reducePow, Int.reduceNeg, Int.reduceEq, hd, ixstrV_str, Int.toNat_natCast, gi, e46, e47, x2, dg, x3, e2]
            exact ⟨i0, i0, nx _ _ q⟩
          · have x3 : decide (0 ≤ d) = false := decide_eq_false dp
            rw [if_neg (fun z => dp z.2.2)] at q
            simp (dsimp := false) only [↓ir.ref01_Parse.l1.bw, go_sem, Nat.reduceAdd, Nat.reduceEqDiff, Nat.reduceMul, Nat.reduceLeDiff, Nat.reduceSub, Nat.reduceLT, ↓reduceIte, reduceCtorEq, List.reduceReplicate, List.flatten_cons, List.flatten_nil, List.append_nil, eq_self, Int.reduceLE, Int.reduceLT, Int.reduceToNat, Nat.min_eq_left, Int.reducePow, Int.reduceNeg, Int.reduceEq, hd, ixstrV_str, Int.toNat_natCast, gi, e46, e47, x2, dg, x3, e2]
            exact ⟨i0, i0, nx _ _ q⟩
        · have x2 : decide (b < 0) = false := decide_eq_false bn
          rw [if_neg (fun z => bn z.2.1)] at q
          simp (dsimp := false) only [↓ir.ref01_Parse.l1.bw, go_sem, Nat.reduceAdd, Nat.reduceEqDiff, Nat.reduceMul, Nat.reduceLeDiff, Nat.reduceSub, Nat.reduceLT, ↓reduceIte, reduceCtorEq, List.reduceReplicate, List.flatten_cons, List.flatten_nil, List.append_nil, eq_self, Int.reduceLE, Int.reduceLT, Int.reduceToNat, Nat.min_eq_left, Int.reducePow, Int.reduceNeg, Int.reduceEq, hd, ixstrV_str, Int.toNat_natCast, gi, e46, e47, x2, e2]
          exact ⟨i0, i0, nx _ _ q⟩
      · have n47 : c.toNat ≠ 47 := fun z => c47 (UInt8.toNat_inj.1 z)
        have e47 : (((c.toNat : Nat) : Int) == 47) = false := by simp; omega
        rw [if_neg (fun z => c47 z.1)] at q
        simp (dsimp := false) only [↓ir.ref01_Parse.l1.bw, go_sem, Nat.reduceAdd, Nat.reduceEqDiff, Nat.reduceMul, Nat.reduceLeDiff, Nat.reduceSub, Nat.reduceLT, ↓reduceIte, reduceCtorEq, List.reduceReplicate, List.flatten_cons, List.flatten_nil, List.append_nil, eq_self, Int.reduceLE, Int.reduceLT, Int.reduceToNat, Nat.min_eq_left, Int.reducePow, Int.reduceNeg, Int.reduceEq, hd, ixstrV_str, Int.toNat_natCast, gi, e46, e47, e2]
        exact ⟨i0, i0, nx _ _ q⟩
  · have hd : decide ((i : Int) < t.size) = false := decide_eq_false (by omega)
    obtain rfl : i = t.size := by omega
    rw [← dl] at kd
    have fin0 : wrs h2 h.length 0 [.int .u32 0, .int .u32 0, .int .i64 0] = some (h2.set h.length (.row .fix [.int .u32 0, .int .u32 0, .int .i64 0])) := by rw [f2.wr (by simp)]; rfl
    have rd0 : ∀ x y z : Value, rds (h2.set h.length (.row .fix [x, y, z])) h.length 0 3 = some [x, y, z] := fun x y z => (f2.set _).rd rfl (by simp)
    have ppre : ∀ o, Pre h (h2.set h.length o) := fun o => hp1.put (Nat.le_refl _) o
    rcases kd.last 65536 63 15 with ⟨hneg, hp⟩ | ⟨p, q, rfl, rfl, hpq, hql, hp⟩
    · rw [hp]
      by_cases dn : d < 0
      · have x1 : decide (d < 0) = true := decide_eq_true dn
        simp (dsimp := false) only [↓ir.ref01_Parse.l1.bw, go_sem, Nat.reduceAdd, Nat.reduceEqDiff, Nat.reduceMul, Nat.reduceLeDiff, Nat.reduceSub, Nat.reduceLT, ↓reduceIte, reduceCtorEq, List.reduceReplicate, List.flatten_cons, List.flatten_nil, List.append_nil, eq_self, Int.reduceLE, Int.reduceLT, Int.reduceToNat, Nat.min_eq_left, Int.reducePow, Int.reduceNeg, Int.reduceEq, hd, x1, fin0, rd0]
        exact ⟨ppre _, rfl⟩
      · have x1 : decide (d < 0) = false := decide_eq_false dn
        have x2 : decide (b < 0) = true := decide_eq_true (by omega)
        simp (dsimp := false) only [↓ir.ref01_Parse.l1.bw, go_sem, Nat.reduceAdd, Nat.reduceEqDiff, Nat.reduceMul, Nat.reduceLeDiff, Nat.reduceSub, Nat.reduceLT, ↓reduceIte, reduceCtorEq, List.reduceReplicate, List.flatten_cons, List.flatten_nil, List.append_nil, eq_self, Int.reduceLE, Int.reduceLT, Int.reduceToNat, Nat.min_eq_left, Int.reducePow, Int.reduceNeg, Int.reduceEq, hd, x1, x2, fin0, rd0]
        exact ⟨ppre _, rfl⟩
    · rw [hp]
      have x1 : decide ((p : Int) < 0) = false := decide_eq_false (by omega)
      have x2 : decide ((q : Int) < 0) = false := decide_eq_false (by omega)
      have w1 : IntKind.i64.wrap ((p : Int) + 1) = ((p + 1 : Nat) : Int) := wrap_succ (m := q) hpq (by unfold maxI; omega)
      have w2 : IntKind.i64.wrap ((q : Int) + 1) = ((q + 1 : Nat) : Int) := wrap_succ (m := t.size) (by omega) (by unfold maxI; omega)
      simp (dsimp := false) only [↓ir.ref01_Parse.l1.bw, go_sem, Nat.reduceAdd, Nat.reduceEqDiff, Nat.reduceMul, Nat.reduceLeDiff, Nat.reduceSub, Nat.reduceLT, ↓reduceIte, reduceCtorEq, List.reduceReplicate, List.flatten_cons, List.flatten_nil, List.append_nil, eq_self, Int.reduceLE, Int.reduceLT, Int.reduceToNat, Nat.min_eq_left, Int.reducePow, Int.reduceNeg, Int.reduceEq, hd, x1, x2, slstrV_str, Option.getD_some, Option.getD_none, Int.toNat_natCast, w1, w2]
      obtain ⟨n1, o1, s1, q1⟩ := number_spec h2 (t.extract 0 p) (M := 65536) (by decide) (Nat.le_trans (ext_size _ _ _) hm)
      obtain ⟨n2, o2, s2, q2⟩ := number_spec h2 (t.extract (p + 1) q) (M := 63) (by decide) (Nat.le_trans (ext_size _ _ _) hm)
      obtain ⟨n3, o3, s3, q3⟩ := number_spec h2 (t.extract (q + 1) t.size) (M := 15) (by decide) (Nat.le_trans (ext_size _ _ _) hm)
      rw [ext_data, List.drop_zero] at q1
      rw [ext_data] at q2
      rw [ext_data, List.take_of_length_le (by omega)] at q3
      rw [q1, q2, q3]
      refine ⟨by omega, ?_⟩
      refine callV_of s1 ?_
      simp (dsimp := false) only [go_sem, Nat.reduceAdd, Nat.reduceEqDiff, Nat.reduceMul, Nat.reduceLeDiff, Nat.reduceSub, Nat.reduceLT, ↓reduceIte, reduceCtorEq, List.reduceReplicate, List.flatten_cons, List.flatten_nil, List.append_nil, eq_self, Int.reduceLE, Int.reduceLT, Int.reduceToNat, Nat.min_eq_left, Int.reducePow, Int.reduceNeg, Int.reduceEq, x1, x2, slstrV_str, Option.getD_some, Option.getD_none, Int.toNat_natCast, w1, w2]
      refine ⟨by omega, ?_⟩
      refine callV_of s2 ?_
      simp (dsimp := false) only [go_sem, Nat.reduceAdd, Nat.reduceEqDiff, Nat.reduceMul, Nat.reduceLeDiff, Nat.reduceSub, Nat.reduceLT, ↓reduceIte, reduceCtorEq, List.reduceReplicate, List.flatten_cons, List.flatten_nil, List.append_nil, eq_self, Int.reduceLE, Int.reduceLT, Int.reduceToNat, Nat.min_eq_left, Int.reducePow, Int.reduceNeg, Int.reduceEq, x1, x2, slstrV_str, Option.getD_some, Option.getD_none, Int.toNat_natCast, w1, w2]
      refine ⟨by omega, ?_⟩
      refine callV_of s3 ?_
      cases o1
      · simp (dsimp := false) only [go_sem, Nat.reduceAdd, Nat.reduceEqDiff, Nat.reduceMul, Nat.reduceLeDiff, Nat.reduceSub, Nat.reduceLT, ↓reduceIte, reduceCtorEq, List.reduceReplicate, List.flatten_cons, List.flatten_nil, List.append_nil, eq_self, Int.reduceLE, Int.reduceLT, Int.reduceToNat, Nat.min_eq_left, Int.reducePow, Int.reduceNeg, Int.reduceEq, fin0, rd0]
        exact ⟨ppre _, rfl⟩
      cases o2
      · simp (dsimp := false) only [go_sem, Nat.reduceAdd, Nat.reduceEqDiff, Nat.reduceMul, Nat.reduceLeDiff, Nat.reduceSub, Nat.reduceLT, ↓reduceIte, reduceCtorEq, List.reduceReplicate, List.flatten_cons, List.flatten_nil, List.append_nil, eq_self, Int.reduceLE, Int.reduceLT, Int.reduceToNat, Nat.min_eq_left, Int.reducePow, Int.reduceNeg, Int.reduceEq, fin0, rd0]
        exact ⟨ppre _, rfl⟩
      cases o3
      · simp (dsimp := false) only [go_sem, Nat.reduceAdd, Nat.reduceEqDiff, Nat.reduceMul, Nat.reduceLeDiff, Nat.reduceSub, Nat.reduceLT, ↓reduceIte, reduceCtorEq, List.reduceReplicate, List.flatten_cons, List.flatten_nil, List.append_nil, eq_self, Int.reduceLE, Int.reduceLT, Int.reduceToNat, Nat.min_eq_left, Int.reducePow, Int.reduceNeg, Int.reduceEq, fin0, rd0]
        exact ⟨ppre _, rfl⟩
      have b1 := numL_bound q1
      have b2 := numL_bound q2
      have b3 := numL_bound q3
      have v1 := wrapU32 (n := n1) (by omega)
      have v2 := wrapU32 (n := n2) (by omega)
      have v3 : IntKind.i64.wrap (n3 : Int) = n3 := wrap_nat (by unfold maxI; omega)
      have fin1 : wrs h2 h.length 0 [.int .u32 (n1 : Int), .int .u32 (n2 : Int), .int .i64 (n3 : Int)] = some (h2.set h.length (.row .fix [.int .u32 (n1 : Int), .int .u32 (n2 : Int), .int .i64 (n3 : Int)])) := by rw [f2.wr (by simp)]; rfl
      simp (dsimp := false) only [go_sem, Nat.reduceAdd, Nat.reduceEqDiff, Nat.reduceMul, Nat.reduceLeDiff, Nat.reduceSub, Nat.reduceLT, ↓reduceIte, reduceCtorEq, List.reduceReplicate, List.flatten_cons, List.flatten_nil, List.append_nil, eq_self, Int.reduceLE, Int.reduceLT, Int.reduceToNat, Nat.min_eq_left, Int.reducePow, Int.reduceNeg, Int.reduceEq, v1, v2, v3, fin1, rd0]
      exact ⟨ppre _, rfl⟩
end Go.Proofs.YtoiihalnbdehkaaDoor.B
