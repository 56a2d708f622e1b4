/-
  Layer 16: a nil vow.
-/
import Derived.Test.YtpnpccnbpgckhabGreatIr16
import Derived.Test.YtpnpccnbpgckhabGreatAbI
import Derived.Test.YtpnpccnbpgckhabGreatArF
import Derived.Test.YtpnpccnbpgckhabGreatAbZ
namespace Go.Proofs.YtpnpccnbpgckhabGreat.B
open Go
set_option linter.unusedVariables false
set_option linter.unusedSimpArgs false
set_option maxRecDepth 100000
/-- A call of given values without places, shown from no memory at all. -/
theorem Spec.of_none2 {P : Program} {G : Nat} {f : FuncId} {args : List Value} {v : Value} {h h' : AHeap} (ha : ∀ {μ : Ren} {h : AHeap} {args' : Array Value}, VL μ h args args'.toList → args' = ⟨args⟩) (hal : ∀ (μ : Ren) (h : AHeap), VL μ h args args)
    (hvi : ∀ {μ : Ren} {h : AHeap} {v' : Value}, VR μ h v v' → v' = v) (hvv : ∀ (μ : Ren) (h : AHeap), VR μ h v v) (hs : Spec P 0 f args [] v h') : Spec P G f args h v h := by
  intro μ w args' s l
  rw [ha l]
  have s0 : Sim 0 (fun _ => none) [] w := ⟨fun g hg => absurd hg (Nat.not_lt_zero _), fun b x k => (by cases k), fun b x o k => (by cases k), fun b c x y k => (by cases k)⟩
  refine (hs _ w ⟨args⟩ s0 (hal _ _)).mono fun e w' ⟨v', μ', he, hr, st⟩ => ?_
  rw [hvi hr] at he
  exact ⟨v, μ, he, hvv _ _, Step.of_below s ⟨st.fr.os, st.fr.tape, st.fr.output, st.fr.size, fun k hk => st.fr.block k hk fun b x hb => by cases hb⟩⟩
def zC : List Value := [.int .i64 0, .int .u32 0] ++ zrep 1120 (.int .u8 0)
theorem zrep_plain (n : Nat) : (zrep n (.int .u8 0)).all plain = true := by
  rw [List.all_eq_true]
  intro v hv
  rw [List.eq_of_mem_replicate hv]; rfl
theorem zC_plain : zC.all plain = true := by
  rw [zC, List.all_append, zrep_plain]; rfl
theorem zC_inv {μ : Ren} {h : AHeap} {v' : Value} (k : VR μ h (.agg ⟨zC⟩) v') : v' = .agg ⟨zC⟩ := by
  cases k with
  | agg hs hv =>
    rename_i bs
    have := (VR.agg_list hs hv).plain_inv zC_plain
    have hbs : bs = ⟨zC⟩ := by apply Array.toList_inj.1; exact this
    rw [hbs]
theorem zC_vr (μ : Ren) (h : AHeap) : VR μ h (.agg ⟨zC⟩) (.agg ⟨zC⟩) := VL.agg (VL.plain zC_plain)
theorem toZ_spec {h : AHeap} : Spec Tryz.prog nG fn.law11_To [.agg ⟨zC⟩] h (.agg ⟨zC⟩) h := by
  have key : (match evF (lookT tbl.law16_VowNil) noOrc 3000 20 fn.law11_To [.agg ⟨zC⟩] [] with | some (.agg ⟨l⟩, _) => vsEq l zC | _ => false) = true := by kernel_rfl
  split at key
  · rename_i l h' hw
    rw [vsEq_ok key] at hw
    refine Spec.of_none2 (fun {μ h args'} l => ?_) (fun μ h => VL.cons (zC_vr μ h) .nil) zC_inv zC_vr (evF_sound tbl.law16_VowNil.ok noOrc_ok 20 _ _ _ _ _ hw).1
    obtain ⟨l1, l2⟩ := l
    obtain ⟨x, hx⟩ : ∃ x, args'.toList = [x] := by
      match hq : args'.toList, l1 with
      | [x], _ => exact ⟨x, rfl⟩
    have h0 := l2 0 _ x rfl (by rw [hx]; rfl)
    rw [zC_inv h0] at hx
    apply Array.toList_inj.1
    exact hx
  · cases key
variable (h : AHeap)
theorem up_nil : Spec Tryz.prog nG fn.vow_Vow_up [.pointer none] h (.int .i64 2) h := by
  apply ir.vow_Vow_up.spec (Nat.le_of_ble_eq_true rfl)
  simp (dsimp := false) only [↓ir.vow_Vow_up.bw, ir.vow_Vow_up.rs, go_sem, Nat.reduceAdd, Nat.reduceEqDiff, Nat.reduceMul, Nat.reduceLeDiff, Nat.reduceSub, Nat.reduceLT, ↓reduceIte, reduceCtorEq, List.reduceReplicate, List.flatten_cons, List.flatten_nil, List.append_nil, eq_self, Int.reduceLE, Int.reduceLT, Int.reduceToNat, Nat.min_eq_left, Int.reducePow, Int.reduceNeg, Int.reduceEq]
  first | done | exact .inl ⟨rfl, rfl⟩
theorem reserve_nil (e s m : Int) : Spec Tryz.prog nG fn.vow_Vow_Reserve [.pointer none, .agg #[.int .u32 e, .int .u32 s, .int .i64 m]] h (.int .i64 2) h := by
  apply ir.vow_Vow_Reserve.spec (Nat.le_of_ble_eq_true rfl)
  simp (dsimp := false) only [↓ir.vow_Vow_Reserve.bw, ir.vow_Vow_Reserve.rs, go_sem, Nat.reduceAdd, Nat.reduceEqDiff, Nat.reduceMul, Nat.reduceLeDiff, Nat.reduceSub, Nat.reduceLT, ↓reduceIte, reduceCtorEq, List.reduceReplicate, List.flatten_cons, List.flatten_nil, List.append_nil, eq_self, Int.reduceLE, Int.reduceLT, Int.reduceToNat, Nat.min_eq_left, Int.reducePow, Int.reduceNeg, Int.reduceEq]
  refine callV_of (up_nil _) ?_
  simp (dsimp := false) only [go_sem, Nat.reduceAdd, Nat.reduceEqDiff, Nat.reduceMul, Nat.reduceLeDiff, Nat.reduceSub, Nat.reduceLT, ↓reduceIte, reduceCtorEq, List.reduceReplicate, List.flatten_cons, List.flatten_nil, List.append_nil, eq_self, Int.reduceLE, Int.reduceLT, Int.reduceToNat, Nat.min_eq_left, Int.reducePow, Int.reduceNeg, Int.reduceEq, (show ((2 : Int) != 0) = true from rfl)]
  exact Fin.sc rfl rfl
theorem spend_nil (n : Int) : Spec Tryz.prog nG fn.vow_Vow_Spend [.pointer none, .int .u32 n] h (.int .i64 2) h := by
  apply ir.vow_Vow_Spend.spec (Nat.le_of_ble_eq_true rfl)
  simp (dsimp := false) only [↓ir.vow_Vow_Spend.bw, ir.vow_Vow_Spend.rs, go_sem, Nat.reduceAdd, Nat.reduceEqDiff, Nat.reduceMul, Nat.reduceLeDiff, Nat.reduceSub, Nat.reduceLT, ↓reduceIte, reduceCtorEq, List.reduceReplicate, List.flatten_cons, List.flatten_nil, List.append_nil, eq_self, Int.reduceLE, Int.reduceLT, Int.reduceToNat, Nat.min_eq_left, Int.reducePow, Int.reduceNeg, Int.reduceEq]
  refine callV_of (up_nil _) ?_
  simp (dsimp := false) only [go_sem, Nat.reduceAdd, Nat.reduceEqDiff, Nat.reduceMul, Nat.reduceLeDiff, Nat.reduceSub, Nat.reduceLT, ↓reduceIte, reduceCtorEq, List.reduceReplicate, List.flatten_cons, List.flatten_nil, List.append_nil, eq_self, Int.reduceLE, Int.reduceLT, Int.reduceToNat, Nat.min_eq_left, Int.reducePow, Int.reduceNeg, Int.reduceEq, (show ((2 : Int) != 0) = true from rfl)]
  exact .inl ⟨rfl, rfl⟩
theorem raise_nil (d e s m : Int) : Spec Tryz.prog nG fn.vow_Vow_Raise [.pointer none, .int .i64 d, .agg #[.int .u32 e, .int .u32 s, .int .i64 m]] h (.int .i64 2) h := by
  apply ir.vow_Vow_Raise.spec (Nat.le_of_ble_eq_true rfl)
  simp (dsimp := false) only [↓ir.vow_Vow_Raise.bw, ir.vow_Vow_Raise.rs, go_sem, Nat.reduceAdd, Nat.reduceEqDiff, Nat.reduceMul, Nat.reduceLeDiff, Nat.reduceSub, Nat.reduceLT, ↓reduceIte, reduceCtorEq, List.reduceReplicate, List.flatten_cons, List.flatten_nil, List.append_nil, eq_self, Int.reduceLE, Int.reduceLT, Int.reduceToNat, Nat.min_eq_left, Int.reducePow, Int.reduceNeg, Int.reduceEq]
  refine callV_of (up_nil _) ?_
  simp (dsimp := false) only [go_sem, Nat.reduceAdd, Nat.reduceEqDiff, Nat.reduceMul, Nat.reduceLeDiff, Nat.reduceSub, Nat.reduceLT, ↓reduceIte, reduceCtorEq, List.reduceReplicate, List.flatten_cons, List.flatten_nil, List.append_nil, eq_self, Int.reduceLE, Int.reduceLT, Int.reduceToNat, Nat.min_eq_left, Int.reducePow, Int.reduceNeg, Int.reduceEq, (show ((2 : Int) != 0) = true from rfl)]
  exact Fin.sc rfl rfl
theorem anchor_nil (L : List Value) : Spec Tryz.prog nG fn.vow_Vow_Anchor [.pointer none, .agg ⟨L⟩] h (.int .i64 2) h := by
  apply ir.vow_Vow_Anchor.spec (Nat.le_of_ble_eq_true rfl)
  simp (dsimp := false) only [↓ir.vow_Vow_Anchor.bw, ir.vow_Vow_Anchor.rs, go_sem, Nat.reduceAdd, Nat.reduceEqDiff, Nat.reduceMul, Nat.reduceLeDiff, Nat.reduceSub, Nat.reduceLT, ↓reduceIte, reduceCtorEq, List.reduceReplicate, List.flatten_cons, List.flatten_nil, List.append_nil, eq_self, Int.reduceLE, Int.reduceLT, Int.reduceToNat, Nat.min_eq_left, Int.reducePow, Int.reduceNeg, Int.reduceEq]
  refine callV_of (up_nil _) ?_
  simp (dsimp := false) only [go_sem, Nat.reduceAdd, Nat.reduceEqDiff, Nat.reduceMul, Nat.reduceLeDiff, Nat.reduceSub, Nat.reduceLT, ↓reduceIte, reduceCtorEq, List.reduceReplicate, List.flatten_cons, List.flatten_nil, List.append_nil, eq_self, Int.reduceLE, Int.reduceLT, Int.reduceToNat, Nat.min_eq_left, Int.reducePow, Int.reduceNeg, Int.reduceEq, (show ((2 : Int) != 0) = true from rfl)]
  exact Fin.sc rfl rfl
theorem boot_nil : Spec Tryz.prog nG fn.vow_Vow_Boot [.pointer none] h (.int .u64 0) h := by
  apply ir.vow_Vow_Boot.spec (Nat.le_of_ble_eq_true rfl)
  simp (dsimp := false) only [↓ir.vow_Vow_Boot.bw, ir.vow_Vow_Boot.rs, go_sem, Nat.reduceAdd, Nat.reduceEqDiff, Nat.reduceMul, Nat.reduceLeDiff, Nat.reduceSub, Nat.reduceLT, ↓reduceIte, reduceCtorEq, List.reduceReplicate, List.flatten_cons, List.flatten_nil, List.append_nil, eq_self, Int.reduceLE, Int.reduceLT, Int.reduceToNat, Nat.min_eq_left, Int.reducePow, Int.reduceNeg, Int.reduceEq]
  first | done | exact .inl ⟨rfl, rfl⟩
theorem index_nil : Spec Tryz.prog nG fn.vow_Vow_Index [.pointer none] h (.int .u32 0) h := by
  apply ir.vow_Vow_Index.spec (Nat.le_of_ble_eq_true rfl)
  simp (dsimp := false) only [↓ir.vow_Vow_Index.bw, ir.vow_Vow_Index.rs, go_sem, Nat.reduceAdd, Nat.reduceEqDiff, Nat.reduceMul, Nat.reduceLeDiff, Nat.reduceSub, Nat.reduceLT, ↓reduceIte, reduceCtorEq, List.reduceReplicate, List.flatten_cons, List.flatten_nil, List.append_nil, eq_self, Int.reduceLE, Int.reduceLT, Int.reduceToNat, Nat.min_eq_left, Int.reducePow, Int.reduceNeg, Int.reduceEq]
  first | done | exact .inl ⟨rfl, rfl⟩
theorem anchors_nil (d : Int) : Spec Tryz.prog nG fn.vow_Vow_Anchors [.pointer none, .int .i64 d] h (.slice none 0 0) h := by
  apply ir.vow_Vow_Anchors.spec (Nat.le_of_ble_eq_true rfl)
  simp (dsimp := false) only [↓ir.vow_Vow_Anchors.bw, ir.vow_Vow_Anchors.rs, go_sem, Nat.reduceAdd, Nat.reduceEqDiff, Nat.reduceMul, Nat.reduceLeDiff, Nat.reduceSub, Nat.reduceLT, ↓reduceIte, reduceCtorEq, List.reduceReplicate, List.flatten_cons, List.flatten_nil, List.append_nil, eq_self, Int.reduceLE, Int.reduceLT, Int.reduceToNat, Nat.min_eq_left, Int.reducePow, Int.reduceNeg, Int.reduceEq]
  first | done | exact .inl ⟨rfl, rfl⟩
theorem load_nil : Spec Tryz.prog nG fn.diary_Load [.pointer none] h (.tuple #[.slice none 0 0, .int .u32 0, .int .i64 2]) h := by
  apply ir.diary_Load.spec (Nat.le_of_ble_eq_true rfl)
  simp (dsimp := false) only [↓ir.diary_Load.bw, ir.diary_Load.rs, go_sem, Nat.reduceAdd, Nat.reduceEqDiff, Nat.reduceMul, Nat.reduceLeDiff, Nat.reduceSub, Nat.reduceLT, ↓reduceIte, reduceCtorEq, List.reduceReplicate, List.flatten_cons, List.flatten_nil, List.append_nil, eq_self, Int.reduceLE, Int.reduceLT, Int.reduceToNat, Nat.min_eq_left, Int.reducePow, Int.reduceNeg, Int.reduceEq]
  first | done | exact .inl ⟨rfl, rfl⟩
theorem open_nil : Spec Tryz.prog nG fn.vow_Open [.pointer none] h (.tuple #[.pointer none, .int .i64 2]) h := by
  apply ir.vow_Open.spec (Nat.le_of_ble_eq_true rfl)
  simp (dsimp := false) only [↓ir.vow_Open.bw, ir.vow_Open.rs, go_sem, Nat.reduceAdd, Nat.reduceEqDiff, Nat.reduceMul, Nat.reduceLeDiff, Nat.reduceSub, Nat.reduceLT, ↓reduceIte, reduceCtorEq, List.reduceReplicate, List.flatten_cons, List.flatten_nil, List.append_nil, eq_self, Int.reduceLE, Int.reduceLT, Int.reduceToNat, Nat.min_eq_left, Int.reducePow, Int.reduceNeg, Int.reduceEq]
  refine callV_of (load_nil _) ?_
  simp (dsimp := false) only [go_sem, Nat.reduceAdd, Nat.reduceEqDiff, Nat.reduceMul, Nat.reduceLeDiff, Nat.reduceSub, Nat.reduceLT, ↓reduceIte, reduceCtorEq, List.reduceReplicate, List.flatten_cons, List.flatten_nil, List.append_nil, eq_self, Int.reduceLE, Int.reduceLT, Int.reduceToNat, Nat.min_eq_left, Int.reducePow, Int.reduceNeg, Int.reduceEq, (show ((2 : Int) != 0) = true from rfl)]
  exact .inl ⟨rfl, rfl⟩
abbrev zkV : Value := .agg #[.int .u32 0, .int .u32 0, .int .i64 0]
theorem vn_zk {n : Nat} : VN id n zkV zkV := by
  refine .agg rfl fun j => ?_
  match j with
  | 0 => exact .scalar rfl
  | 1 => exact .scalar rfl
  | 2 => exact .scalar rfl
  | k + 3 => exact .any _
theorem vn_pair {n : Nat} {b : Bool} : VN id n (.tuple #[zkV, .bool b]) (.tuple #[zkV, .bool b]) := by
  refine .tuple rfl fun i => ?_
  match i with
  | 0 => exact vn_zk
  | 1 => exact .scalar rfl
  | n + 2 => exact .any _
theorem reserved_nil : Spec Tryz.prog nG fn.vow_Vow_Reserved [.pointer none] h (.tuple #[zkV, .bool false]) h := by
  apply ir.vow_Vow_Reserved.spec (Nat.le_of_ble_eq_true rfl)
  simp (dsimp := false) only [↓ir.vow_Vow_Reserved.bw, ir.vow_Vow_Reserved.rs, go_sem, Nat.reduceAdd, Nat.reduceEqDiff, Nat.reduceMul, Nat.reduceLeDiff, Nat.reduceSub, Nat.reduceLT, ↓reduceIte, reduceCtorEq, List.reduceReplicate, List.flatten_cons, List.flatten_nil, List.append_nil, eq_self, Int.reduceLE, Int.reduceLT, Int.reduceToNat, Nat.min_eq_left, Int.reducePow, Int.reduceNeg, Int.reduceEq]
  exact Fin.plain vn_pair _
theorem floor_nil (d : Int) : Spec Tryz.prog nG fn.vow_Vow_Floor [.pointer none, .int .i64 d] h (.tuple #[zkV, .bool false]) h := by
  apply ir.vow_Vow_Floor.spec (Nat.le_of_ble_eq_true rfl)
  simp (dsimp := false) only [↓ir.vow_Vow_Floor.bw, ir.vow_Vow_Floor.rs, go_sem, Nat.reduceAdd, Nat.reduceEqDiff, Nat.reduceMul, Nat.reduceLeDiff, Nat.reduceSub, Nat.reduceLT, ↓reduceIte, reduceCtorEq, List.reduceReplicate, List.flatten_cons, List.flatten_nil, List.append_nil, eq_self, Int.reduceLE, Int.reduceLT, Int.reduceToNat, Nat.min_eq_left, Int.reducePow, Int.reduceNeg, Int.reduceEq]
  exact Fin.plain vn_pair _
theorem to01_spec (e s m : Int) : Spec Tryz.prog nG fn.law01_To [.agg #[.int .u32 e, .int .u32 s, .int .i64 m]] h (.agg #[.int .u32 e, .int .u32 s, .int .i64 m]) h := by
  apply ir.law01_To.spec (Nat.le_of_ble_eq_true rfl)
  simp (dsimp := false) only [↓ir.law01_To.bw, ir.law01_To.rs, go_sem, Nat.reduceAdd, Nat.reduceEqDiff, Nat.reduceMul, Nat.reduceLeDiff, Nat.reduceSub, Nat.reduceLT, ↓reduceIte, reduceCtorEq, List.reduceReplicate, List.flatten_cons, List.flatten_nil, List.append_nil, eq_self, Int.reduceLE, Int.reduceLT, Int.reduceToNat, Nat.min_eq_left, Int.reducePow, Int.reduceNeg, Int.reduceEq]
  exact Fin.agg (l := [.int .u32 e, .int .u32 s, .int .i64 m]) rfl rfl
end Go.Proofs.YtpnpccnbpgckhabGreat.B
