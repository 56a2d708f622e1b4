/-
  Layer 24: atomic counters.
-/
import Derived.Test.YtgndlhmjolaeiaaDoorSj
import Derived.Test.YtgndlhmjolaeiaaDoorSn
import Derived.Test.YtgndlhmjolaeiaaDoorIr24
namespace Go.Proofs.YtgndlhmjolaeiaaDoor.B
open Go Go.RowKit
set_option linter.unusedVariables false
set_option linter.unusedSimpArgs false
set_option maxRecDepth 100000
variable {G : Nat} {P : Program} {μ : Ren} {h : AHeap} {w : World}
theorem rds_cell {b off : Nat} {x : Pl} {k : IntKind} {n : Int} (s : Sim G μ h w) (hb : μ b = some x) (hr : rds h b off 1 = some [.int k n]) : w.cell? ⟨x.blk, x.off + off, none⟩ = some (.int k n) := by
  unfold rds at hr
  split at hr
  · rename_i m cells ho
    split at hr
    · rename_i hle
      obtain ⟨cs, t, fz, k1, k2, k3, k4⟩ := s.obj b x _ hb ho
      have q2 : cells[off]? = some (.int k n) := by
        have q3 : ((cells.drop off).take 1)[0]? = some (.int k n) := by rw [Option.some.inj hr]; rfl
        rw [List.getElem?_take_of_lt (by omega), List.getElem?_drop] at q3
        simpa using q3
      obtain ⟨z, z1, z2⟩ := k4 _ _ q2
      cases z2
      rw [cell_at k1, z1]
    · cases hr
  · cases hr
theorem xload {b off : Nat} {x : Int} (hr : rds h b off 1 = some [.int .i64 x]) : XSpec Tryd.prog G none fn.sync_atomic_LoadInt64 [.pointer (some ⟨b, off, none⟩)] h (.int .i64 x) h := by
  intro μ w args' s vl o a next Q hn
  obtain ⟨p, rfl, h1⟩ := args_one vl
  obtain ⟨z, k1, rfl⟩ := h1.ptr_inv
  have hc := rds_cell s k1 hr
  have hrun : (Extern.Atomic.loadT (.int .i64) #[.pointer (some ⟨z.blk, z.off + off, none⟩)]).run Tryd.prog w = .ok (.int .i64 x) w := by
    change Sem.run Tryd.prog (do Extern.Atomic.read (.int .i64) (← asAddr (.pointer (some ⟨z.blk, z.off + off, none⟩)))) w = _
    simp [Extern.Atomic.read, asAddr, hc]
  have := run_callFunc_extern (f := fn.sync_atomic_LoadInt64) (e := Extern.Atomic.loadT (.int .i64)) Tryd.func59 (by kernel_rfl) (by kernel_rfl) (by kernel_rfl) (by kernel_rfl) #[.pointer (some ⟨z.blk, z.off + off, none⟩)] w
  simp only [runX, this, hrun, Result.andThen]
  rw [Oper.upon_value]
  exact hn _ _ _ (.int _ _) (Step.refl s)
theorem xadd {b off : Nat} {x d : Int} {h' : AHeap} (hr : rds h b off 1 = some [.int .i64 x]) (hw : wrs h b off [.int .i64 (IntKind.i64.wrap (x + d))] = some h') : XSpec Tryd.prog G none fn.sync_atomic_AddInt64 [.pointer (some ⟨b, off, none⟩), .int .i64 d] h (.int .i64 (IntKind.i64.wrap (x + d))) h' := by
  intro μ w args' s vl o a next Q hn
  obtain ⟨p, u, rfl, h1, h2⟩ := args_two vl
  cases h2
  obtain ⟨z, k1, rfl⟩ := h1.ptr_inv
  have hc := rds_cell s k1 hr
  obtain ⟨w', q1, q2⟩ := wrs_sim (P := Tryd.prog) s k1 hw (vs' := [.int .i64 (IntKind.i64.wrap (x + d))]) (VL.plain (by rfl)) (by rfl)
  have hz : w.frozen? ⟨z.blk, z.off + off, none⟩ = false := by
    unfold wrs at hw
    split at hw
    · cases hw
    · rename_i m cells hnr ho
      split at hw
      · rename_i hle
        obtain ⟨cs, t, fz, j1, j2, j3, j4⟩ := s.obj b z _ k1 ho
        simp only [World.frozen?, j1]
        have hlt : z.off + off < cs.size := by
          have := (Array.getElem?_eq_some_iff.1 ((cell_at j1).symm.trans hc)).1
          exact this
        have := j3 (by cases m <;> simp_all [AObj.rw]) (z.off + off) hlt
        simpa using this
      · cases hw
    · cases hw
  have hrun := Go.Conc.run_add_entry (P := Tryd.prog) (d := d) hc hz
  have e : w.setCell ⟨z.blk, z.off + off, none⟩ (.int .i64 (IntKind.i64.wrap (x + d))) = w' := by
    have q3 := run_storeCells_cells (P := Tryd.prog) z.blk (z.off + off) [.int .i64 (IntKind.i64.wrap (x + d))] 0 w (fun j hj => by
      have : j = 0 := by simpa using hj
      subst this
      simp [hc]) (fun j hj => by
      have : j = 0 := by simpa using hj
      subst this
      simpa using hz) (by simp [Value.oneCell'])
    rw [q1] at q3
    injection q3 with _ q4
    rw [q4]; rfl
  have := run_callFunc_extern (f := fn.sync_atomic_AddInt64) (e := Extern.Atomic.update (Op.intArith .add) .i64 true) Tryd.func58 (by kernel_rfl) (by kernel_rfl) (by kernel_rfl) (by kernel_rfl) #[.pointer (some ⟨z.blk, z.off + off, none⟩), .int .i64 d] w
  simp only [runX, this, hrun, Result.andThen]
  rw [Oper.upon_value, e]
  exact hn _ _ _ (.int _ _) q2
end Go.Proofs.YtgndlhmjolaeiaaDoor.B
