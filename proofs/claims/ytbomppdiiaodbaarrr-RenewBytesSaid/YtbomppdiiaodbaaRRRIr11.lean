/-
  The instructions of the program's functions, printed by genir.py; each is checked against the program by the kernel.
-/
import Derived.Test.YtbomppdiiaodbaaRRRProg
import Derived.Test.YtbomppdiiaodbaaRRRArL
import Derived.Test.YtbomppdiiaodbaaRRRAbI
import Derived.Test.YtbomppdiiaodbaaRRRIr04
import Derived.KernelRfl
namespace Go.Proofs.YtbomppdiiaodbaaRRR.B
open Go
set_option maxRecDepth 100000
set_option linter.unusedVariables false


/-! ### fingerpost/field.Lay: function 5 -/
def ir.field_Lay.ks : Nat → List Nat := fun
  | 0 => []
  | 1 => [0]
  | _ => []
def ir.field_Lay.r0 : C := .region [] [⟨some 0, .mv (.const (.pointer none)), none⟩]
theorem ir.field_Lay.r0.w (e : Env) (h : AHeap) (Q : Post) : wpC Try.prog nG ir.field_Lay.r0 e h Q = wI Try.prog nG (.mv (.const (.pointer none))) h fun v0 h => Q .normal [] h := wR (Rn rfl fun v0 h => rfl)
def ir.field_Lay.r1 : C := .region [0] [⟨some 1, .build [.slice none 0 0, .bool false] [], none⟩, ⟨some 2, .box (.tmp 1), none⟩, ⟨some 0, .mv (.tmp 2), none⟩]
theorem ir.field_Lay.r1.w (e : Env) (h : AHeap) (Q : Post) : wpC Try.prog nG ir.field_Lay.r1 e h Q = wI Try.prog nG (.build [.slice none 0 0, .bool false] []) h fun v1 h => wI Try.prog nG (.box (.const v1)) h fun v2 h => wI Try.prog nG (.mv (.const v2)) h fun v0 h => Q .normal [(0, v0)] h := wR (Rn rfl fun v1 h => Rn rfl fun v2 h => Rn rfl fun v0 h => rfl)
def ir.field_Lay : C := (.seq ir.field_Lay.r0 (.seq ir.field_Lay.r1 .ret))
theorem ir.field_Lay.bw (e : Env) (h : AHeap) (Q : Post) : wpC Try.prog nG ir.field_Lay e h Q = wpC Try.prog nG (.seq ir.field_Lay.r0 (.seq ir.field_Lay.r1 .ret)) e h Q := (rfl)
def ir.field_Lay.rs : List RV := [.tmp 0]
theorem ir.field_Lay.ok : resC Try.prog nG 3 ir.field_Lay.ks (Try.f5.body.getD .skip) = some ir.field_Lay := by kernel_rfl
theorem ir.field_Lay.rok : Try.f5.results.toList.mapM (resR Try.prog) = some ir.field_Lay.rs := by kernel_rfl
theorem ir.field_Lay.spec {args : List Value} {h : AHeap} {v : Value} {h' : AHeap} (hn : args.length ≤ 3) :
    (wpC Try.prog nG ir.field_Lay (args.zipIdx.map fun p => (p.2, p.1)) h (retQ ir.field_Lay.rs h v h')) → Spec Try.prog nG fn.field_Lay args h v h' :=
  Spec.intro (fn := Try.f5) Try.func5 (c := Try.f5.body.getD .skip) (by kernel_rfl) ir.field_Lay.ok ir.field_Lay.rok hn
attribute [go_sem ↓] ir.field_Lay.r0.w ir.field_Lay.r1.w
attribute [go_sem] ir.field_Lay.rs

/-! ### fingerpost/renew.Put: function 6 -/
def ir.renew_Put.ks : Nat → List Nat := fun
  | 0 => [0, 3]
  | 1 => [0, 3]
  | 2 => [0, 3]
  | 3 => [0, 3]
  | 4 => [0, 3]
  | 5 => [0, 30, 31]
  | 6 => [0, 30, 31, 32]
  | 7 => [0, 5, 30, 31]
  | 8 => [0, 30, 31]
  | 9 => [0, 30, 31]
  | _ => []
def ir.renew_Put.r0 : C := .region [0, 3] [⟨some 3, .box (.tmp 1), none⟩]
theorem ir.renew_Put.r0.w (e : Env) (h : AHeap) (Q : Post) : wpC Try.prog nG ir.renew_Put.r0 e h Q = lk (look e 0) (fun v0 => lk (look e 1) (fun v1 => wI Try.prog nG (.box (.const v1)) h fun v3 h => Q .normal [(0, v0), (3, v3)] h) ()) () := lkm (lkm (wR (Rn rfl fun v3 h => rfl)))
def ir.renew_Put.r1 : C := .region [0, 3] [⟨some 6, .mv (.tmp 0), none⟩, ⟨some 7, .fld 0 (.tmp 3), none⟩, ⟨some 8, .fld 0 (.tmp 7), none⟩, ⟨some 9, .load false 1 (.tmp 8), none⟩, ⟨some 10, .conv .u64 (.tmp 9), none⟩, ⟨some 11, .bin .and (.tmp 10) (.const (.int .u64 255)), none⟩, ⟨some 12, .call fn.field_Out_U8 [.tmp 6, .tmp 11], none⟩]
theorem ir.renew_Put.r1.w (e : Env) (h : AHeap) (Q : Post) : wpC Try.prog nG ir.renew_Put.r1 e h Q = lk (look e 0) (fun v0 => lk (look e 3) (fun v3 => wI Try.prog nG (.mv (.const v0)) h fun v6 h => wI Try.prog nG (.fld 0 (.const v3)) h fun v7 h => wI Try.prog nG (.fld 0 (.const v7)) h fun v8 h => wI Try.prog nG (.load false 1 (.const v8)) h fun v9 h => wI Try.prog nG (.conv .u64 (.const v9)) h fun v10 h => wI Try.prog nG (.bin .and (.const v10) (.const (.int .u64 255))) h fun v11 h => wI Try.prog nG (.call fn.field_Out_U8 [.const v6, .const v11]) h fun v12 h => Q .normal [(0, v0), (3, v3)] h) ()) () := lkm (lkm (wR (Rn rfl fun v6 h => Rn rfl fun v7 h => Rn rfl fun v8 h => Rn rfl fun v9 h => Rn rfl fun v10 h => Rn rfl fun v11 h => Rn rfl fun v12 h => rfl)))
def ir.renew_Put.r2 : C := .region [0, 3] [⟨some 13, .mv (.tmp 0), none⟩, ⟨some 14, .fld 0 (.tmp 3), none⟩, ⟨some 15, .fld 1 (.tmp 14), none⟩, ⟨some 16, .load false 1 (.tmp 15), none⟩, ⟨some 17, .conv .u64 (.tmp 16), none⟩, ⟨some 18, .call fn.field_Out_U32 [.tmp 13, .tmp 17], none⟩]
theorem ir.renew_Put.r2.w (e : Env) (h : AHeap) (Q : Post) : wpC Try.prog nG ir.renew_Put.r2 e h Q = lk (look e 0) (fun v0 => lk (look e 3) (fun v3 => wI Try.prog nG (.mv (.const v0)) h fun v13 h => wI Try.prog nG (.fld 0 (.const v3)) h fun v14 h => wI Try.prog nG (.fld 1 (.const v14)) h fun v15 h => wI Try.prog nG (.load false 1 (.const v15)) h fun v16 h => wI Try.prog nG (.conv .u64 (.const v16)) h fun v17 h => wI Try.prog nG (.call fn.field_Out_U32 [.const v13, .const v17]) h fun v18 h => Q .normal [(0, v0), (3, v3)] h) ()) () := lkm (lkm (wR (Rn rfl fun v13 h => Rn rfl fun v14 h => Rn rfl fun v15 h => Rn rfl fun v16 h => Rn rfl fun v17 h => Rn rfl fun v18 h => rfl)))
def ir.renew_Put.r3 : C := .region [0, 3] [⟨some 19, .mv (.tmp 0), none⟩, ⟨some 20, .fld 0 (.tmp 3), none⟩, ⟨some 21, .fld 2 (.tmp 20), none⟩, ⟨some 22, .load true 16 (.tmp 21), none⟩, ⟨some 23, .call fn.field_Out_Sum [.tmp 19, .tmp 22], none⟩]
theorem ir.renew_Put.r3.w (e : Env) (h : AHeap) (Q : Post) : wpC Try.prog nG ir.renew_Put.r3 e h Q = lk (look e 0) (fun v0 => lk (look e 3) (fun v3 => wI Try.prog nG (.mv (.const v0)) h fun v19 h => wI Try.prog nG (.fld 0 (.const v3)) h fun v20 h => wI Try.prog nG (.fld 2 (.const v20)) h fun v21 h => wI Try.prog nG (.load true 16 (.const v21)) h fun v22 h => wI Try.prog nG (.call fn.field_Out_Sum [.const v19, .const v22]) h fun v23 h => Q .normal [(0, v0), (3, v3)] h) ()) () := lkm (lkm (wR (Rn rfl fun v19 h => Rn rfl fun v20 h => Rn rfl fun v21 h => Rn rfl fun v22 h => Rn rfl fun v23 h => rfl)))
def ir.renew_Put.r4 : C := .region [0, 3] [⟨some 24, .mv (.tmp 0), none⟩, ⟨some 25, .fld 0 (.tmp 3), none⟩, ⟨some 26, .fld 18 (.tmp 25), none⟩, ⟨some 27, .load true 16 (.tmp 26), none⟩, ⟨some 28, .call fn.field_Out_Sum [.tmp 24, .tmp 27], none⟩]
theorem ir.renew_Put.r4.w (e : Env) (h : AHeap) (Q : Post) : wpC Try.prog nG ir.renew_Put.r4 e h Q = lk (look e 0) (fun v0 => lk (look e 3) (fun v3 => wI Try.prog nG (.mv (.const v0)) h fun v24 h => wI Try.prog nG (.fld 0 (.const v3)) h fun v25 h => wI Try.prog nG (.fld 18 (.const v25)) h fun v26 h => wI Try.prog nG (.load true 16 (.const v26)) h fun v27 h => wI Try.prog nG (.call fn.field_Out_Sum [.const v24, .const v27]) h fun v28 h => Q .normal [(0, v0), (3, v3)] h) ()) () := lkm (lkm (wR (Rn rfl fun v24 h => Rn rfl fun v25 h => Rn rfl fun v26 h => Rn rfl fun v27 h => Rn rfl fun v28 h => rfl)))
def ir.renew_Put.r5 : C := .region [0, 30, 31] [⟨some 29, .fld 34 (.tmp 3), none⟩, ⟨some 30, .load true 1088 (.tmp 29), none⟩, ⟨some 31, .mv (.const (.int .i64 0)), none⟩]
theorem ir.renew_Put.r5.w (e : Env) (h : AHeap) (Q : Post) : wpC Try.prog nG ir.renew_Put.r5 e h Q = lk (look e 0) (fun v0 => lk (look e 3) (fun v3 => wI Try.prog nG (.fld 34 (.const v3)) h fun v29 h => wI Try.prog nG (.load true 1088 (.const v29)) h fun v30 h => wI Try.prog nG (.mv (.const (.int .i64 0))) h fun v31 h => Q .normal [(0, v0), (30, v30), (31, v31)] h) ()) () := lkm (lkm (wR (Rn rfl fun v29 h => Rn rfl fun v30 h => Rn rfl fun v31 h => rfl)))
def ir.renew_Put.r6 : C := .region [0, 30, 31, 32] [⟨some 32, .bin .lss (.tmp 31) (.const (.int .i64 68)), none⟩]
theorem ir.renew_Put.r6.w (e : Env) (h : AHeap) (Q : Post) : wpC Try.prog nG ir.renew_Put.r6 e h Q = lk (look e 0) (fun v0 => lk (look e 30) (fun v30 => lk (look e 31) (fun v31 => wI Try.prog nG (.bin .lss (.const v31) (.const (.int .i64 68))) h fun v32 h => Q .normal [(0, v0), (30, v30), (31, v31), (32, v32)] h) ()) ()) () := lkm (lkm (lkm (wR (Rn rfl fun v32 h => rfl))))
def ir.renew_Put.r7 : C := .region [0, 5, 30, 31] [⟨some 33, .ixv true 68 16 (.tmp 30) (.tmp 31), none⟩, ⟨some 5, .new (zrep 16 (.int .u8 0)), none⟩, ⟨none, .store 16 (.tmp 5) (.tmp 33), none⟩]
theorem ir.renew_Put.r7.w (e : Env) (h : AHeap) (Q : Post) : wpC Try.prog nG ir.renew_Put.r7 e h Q = lk (look e 0) (fun v0 => lk (look e 30) (fun v30 => lk (look e 31) (fun v31 => wI Try.prog nG (.ixv true 68 16 (.const v30) (.const v31)) h fun v33 h => wI Try.prog nG (.new (zrep 16 (.int .u8 0))) h fun v5 h => wI Try.prog nG (.store 16 (.const v5) (.const v33)) h fun _ h => Q .normal [(0, v0), (5, v5), (30, v30), (31, v31)] h) ()) ()) () := lkm (lkm (lkm (wR (Rn rfl fun v33 h => Rn rfl fun v5 h => Rz rfl fun v_ h => rfl))))
def ir.renew_Put.r8 : C := .region [0, 30, 31] [⟨some 34, .mv (.tmp 0), none⟩, ⟨some 35, .load true 16 (.tmp 5), none⟩, ⟨some 36, .call fn.field_Out_Sum [.tmp 34, .tmp 35], none⟩]
theorem ir.renew_Put.r8.w (e : Env) (h : AHeap) (Q : Post) : wpC Try.prog nG ir.renew_Put.r8 e h Q = lk (look e 0) (fun v0 => lk (look e 5) (fun v5 => lk (look e 30) (fun v30 => lk (look e 31) (fun v31 => wI Try.prog nG (.mv (.const v0)) h fun v34 h => wI Try.prog nG (.load true 16 (.const v5)) h fun v35 h => wI Try.prog nG (.call fn.field_Out_Sum [.const v34, .const v35]) h fun v36 h => Q .normal [(0, v0), (30, v30), (31, v31)] h) ()) ()) ()) () := lkm (lkm (lkm (lkm (wR (Rn rfl fun v34 h => Rn rfl fun v35 h => Rn rfl fun v36 h => rfl)))))
def ir.renew_Put.r9 : C := .region [0, 30, 31] [⟨some 37, .bin .add (.tmp 31) (.const (.int .i64 1)), none⟩, ⟨some 31, .mv (.tmp 37), none⟩]
theorem ir.renew_Put.r9.w (e : Env) (h : AHeap) (Q : Post) : wpC Try.prog nG ir.renew_Put.r9 e h Q = lk (look e 0) (fun v0 => lk (look e 30) (fun v30 => lk (look e 31) (fun v31 => wI Try.prog nG (.bin .add (.const v31) (.const (.int .i64 1))) h fun v37 h => wI Try.prog nG (.mv (.const v37)) h fun v31 h => Q .normal [(0, v0), (30, v30), (31, v31)] h) ()) ()) () := lkm (lkm (lkm (wR (Rn rfl fun v37 h => Rn rfl fun v31 h => rfl))))
def ir.renew_Put.l1.b : C := (.seq ir.renew_Put.r6 (.seq (.cond (.tmp 32) .skip (.exit 0)) (.seq (.block 1 (.seq ir.renew_Put.r7 ir.renew_Put.r8)) ir.renew_Put.r9)))
theorem ir.renew_Put.l1.bw (e : Env) (h : AHeap) (Q : Post) : wpC Try.prog nG ir.renew_Put.l1.b e h Q = wpC Try.prog nG (.seq ir.renew_Put.r6 (.seq (.cond (.tmp 32) .skip (.exit 0)) (.seq (.block 1 (.seq ir.renew_Put.r7 ir.renew_Put.r8)) ir.renew_Put.r9))) e h Q := (rfl)
def ir.renew_Put.l1 : C := .loop ir.renew_Put.l1.b
theorem ir.renew_Put.l1.w (e : Env) (h : AHeap) (Q : Post) : wpC Try.prog nG ir.renew_Put.l1 e h Q = loopV Try.prog nG ir.renew_Put.l1.b e h Q () := (rfl)
def ir.renew_Put : C := (.seq ir.renew_Put.r0 (.seq ir.renew_Put.r1 (.seq ir.renew_Put.r2 (.seq ir.renew_Put.r3 (.seq ir.renew_Put.r4 (.seq ir.renew_Put.r5 (.block 0 ir.renew_Put.l1)))))))
theorem ir.renew_Put.bw (e : Env) (h : AHeap) (Q : Post) : wpC Try.prog nG ir.renew_Put e h Q = wpC Try.prog nG (.seq ir.renew_Put.r0 (.seq ir.renew_Put.r1 (.seq ir.renew_Put.r2 (.seq ir.renew_Put.r3 (.seq ir.renew_Put.r4 (.seq ir.renew_Put.r5 (.block 0 ir.renew_Put.l1))))))) e h Q := (rfl)
def ir.renew_Put.rs : List RV := []
theorem ir.renew_Put.ok : resC Try.prog nG 38 ir.renew_Put.ks (Try.f6.body.getD .skip) = some ir.renew_Put := by kernel_rfl
theorem ir.renew_Put.rok : Try.f6.results.toList.mapM (resR Try.prog) = some ir.renew_Put.rs := by kernel_rfl
theorem ir.renew_Put.spec {args : List Value} {h : AHeap} {v : Value} {h' : AHeap} (hn : args.length ≤ 38) :
    (wpC Try.prog nG ir.renew_Put (args.zipIdx.map fun p => (p.2, p.1)) h (retQ ir.renew_Put.rs h v h')) → Spec Try.prog nG fn.renew_Put args h v h' :=
  Spec.intro (fn := Try.f6) Try.func6 (c := Try.f6.body.getD .skip) (by kernel_rfl) ir.renew_Put.ok ir.renew_Put.rok hn
attribute [go_sem ↓] ir.renew_Put.r0.w ir.renew_Put.r1.w ir.renew_Put.r2.w ir.renew_Put.r3.w ir.renew_Put.r4.w ir.renew_Put.r5.w ir.renew_Put.r6.w ir.renew_Put.r7.w ir.renew_Put.r8.w ir.renew_Put.r9.w ir.renew_Put.l1.w
attribute [go_sem] ir.renew_Put.rs

/-! ### (*fingerpost/field.Out).Bytes: function 8 -/
def ir.field_Out_Bytes.ks : Nat → List Nat := fun
  | 0 => [0]
  | 1 => [0, 4]
  | 2 => [2, 3]
  | 3 => [0, 7]
  | 4 => [2, 3]
  | 5 => [2, 3]
  | _ => []
def ir.field_Out_Bytes.r0 : C := .region [0] [⟨some 2, .mv (.const (.slice none 0 0)), none⟩, ⟨some 3, .mv (.const (.int .i64 0)), none⟩]
theorem ir.field_Out_Bytes.r0.w (e : Env) (h : AHeap) (Q : Post) : wpC Try.prog nG ir.field_Out_Bytes.r0 e h Q = lk (look e 0) (fun v0 => wI Try.prog nG (.mv (.const (.slice none 0 0))) h fun v2 h => wI Try.prog nG (.mv (.const (.int .i64 0))) h fun v3 h => Q .normal [(0, v0)] h) () := lkm (wR (Rn rfl fun v2 h => Rn rfl fun v3 h => rfl))
def ir.field_Out_Bytes.r1 : C := .region [0, 4] [⟨some 5, .mv (.tmp 0), none⟩, ⟨some 6, .eqn 0 false (.tmp 5), none⟩, ⟨some 4, .mv (.tmp 6), none⟩]
theorem ir.field_Out_Bytes.r1.w (e : Env) (h : AHeap) (Q : Post) : wpC Try.prog nG ir.field_Out_Bytes.r1 e h Q = lk (look e 0) (fun v0 => wI Try.prog nG (.mv (.const v0)) h fun v5 h => wI Try.prog nG (.eqn 0 false (.const v5)) h fun v6 h => wI Try.prog nG (.mv (.const v6)) h fun v4 h => Q .normal [(0, v0), (4, v4)] h) () := lkm (wR (Rn rfl fun v5 h => Rn rfl fun v6 h => Rn rfl fun v4 h => rfl))
def ir.field_Out_Bytes.r2 : C := .region [2, 3] [⟨some 2, .mv (.const (.slice none 0 0)), none⟩, ⟨some 3, .mv (.const (.int .i64 2)), none⟩]
theorem ir.field_Out_Bytes.r2.w (e : Env) (h : AHeap) (Q : Post) : wpC Try.prog nG ir.field_Out_Bytes.r2 e h Q = wI Try.prog nG (.mv (.const (.slice none 0 0))) h fun v2 h => wI Try.prog nG (.mv (.const (.int .i64 2))) h fun v3 h => Q .normal [(2, v2), (3, v3)] h := wR (Rn rfl fun v2 h => Rn rfl fun v3 h => rfl)
def ir.field_Out_Bytes.r3 : C := .region [0, 7] [⟨some 8, .mv (.tmp 0), none⟩, ⟨some 9, .nilck (.tmp 8), none⟩, ⟨some 10, .fld 1 (.tmp 9), none⟩, ⟨some 11, .load false 1 (.tmp 10), none⟩, ⟨some 7, .mv (.tmp 11), none⟩]
theorem ir.field_Out_Bytes.r3.w (e : Env) (h : AHeap) (Q : Post) : wpC Try.prog nG ir.field_Out_Bytes.r3 e h Q = lk (look e 0) (fun v0 => wI Try.prog nG (.mv (.const v0)) h fun v8 h => wI Try.prog nG (.nilck (.const v8)) h fun v9 h => wI Try.prog nG (.fld 1 (.const v9)) h fun v10 h => wI Try.prog nG (.load false 1 (.const v10)) h fun v11 h => wI Try.prog nG (.mv (.const v11)) h fun v7 h => Q .normal [(0, v0), (7, v7)] h) () := lkm (wR (Rn rfl fun v8 h => Rn rfl fun v9 h => Rn rfl fun v10 h => Rn rfl fun v11 h => Rn rfl fun v7 h => rfl))
def ir.field_Out_Bytes.r4 : C := .region [2, 3] [⟨some 2, .mv (.const (.slice none 0 0)), none⟩, ⟨some 3, .mv (.const (.int .i64 8)), none⟩]
theorem ir.field_Out_Bytes.r4.w (e : Env) (h : AHeap) (Q : Post) : wpC Try.prog nG ir.field_Out_Bytes.r4 e h Q = wI Try.prog nG (.mv (.const (.slice none 0 0))) h fun v2 h => wI Try.prog nG (.mv (.const (.int .i64 8))) h fun v3 h => Q .normal [(2, v2), (3, v3)] h := wR (Rn rfl fun v2 h => Rn rfl fun v3 h => rfl)
def ir.field_Out_Bytes.r5 : C := .region [2, 3] [⟨some 12, .row 1 0 [.int .u8 0] [], none⟩, ⟨some 13, .mv (.tmp 0), none⟩, ⟨some 14, .nilck (.tmp 13), none⟩, ⟨some 15, .fld 0 (.tmp 14), none⟩, ⟨some 16, .load false 1 (.tmp 15), none⟩, ⟨some 17, .app false 1 1 (.tmp 12) (.tmp 16), none⟩, ⟨some 2, .mv (.tmp 17), none⟩, ⟨some 3, .mv (.const (.int .i64 0)), none⟩]
theorem ir.field_Out_Bytes.r5.w (e : Env) (h : AHeap) (Q : Post) : wpC Try.prog nG ir.field_Out_Bytes.r5 e h Q = lk (look e 0) (fun v0 => wI Try.prog nG (.row 1 0 [.int .u8 0] []) h fun v12 h => wI Try.prog nG (.mv (.const v0)) h fun v13 h => wI Try.prog nG (.nilck (.const v13)) h fun v14 h => wI Try.prog nG (.fld 0 (.const v14)) h fun v15 h => wI Try.prog nG (.load false 1 (.const v15)) h fun v16 h => wI Try.prog nG (.app false 1 1 (.const v12) (.const v16)) h fun v17 h => wI Try.prog nG (.mv (.const v17)) h fun v2 h => wI Try.prog nG (.mv (.const (.int .i64 0))) h fun v3 h => Q .normal [(2, v2), (3, v3)] h) () := lkm (wR (Rn rfl fun v12 h => Rn rfl fun v13 h => Rn rfl fun v14 h => Rn rfl fun v15 h => Rn rfl fun v16 h => Rn rfl fun v17 h => Rn rfl fun v2 h => Rn rfl fun v3 h => rfl))
def ir.field_Out_Bytes : C := (.seq ir.field_Out_Bytes.r0 (.seq (.block 0 (.seq ir.field_Out_Bytes.r1 (.cond (.tmp 4) (.seq ir.field_Out_Bytes.r2 .ret) (.seq ir.field_Out_Bytes.r3 (.cond (.tmp 7) (.seq ir.field_Out_Bytes.r4 .ret) .skip))))) (.seq ir.field_Out_Bytes.r5 .ret)))
theorem ir.field_Out_Bytes.bw (e : Env) (h : AHeap) (Q : Post) : wpC Try.prog nG ir.field_Out_Bytes e h Q = wpC Try.prog nG (.seq ir.field_Out_Bytes.r0 (.seq (.block 0 (.seq ir.field_Out_Bytes.r1 (.cond (.tmp 4) (.seq ir.field_Out_Bytes.r2 .ret) (.seq ir.field_Out_Bytes.r3 (.cond (.tmp 7) (.seq ir.field_Out_Bytes.r4 .ret) .skip))))) (.seq ir.field_Out_Bytes.r5 .ret))) e h Q := (rfl)
def ir.field_Out_Bytes.rs : List RV := [.tmp 2, .tmp 3]
theorem ir.field_Out_Bytes.ok : resC Try.prog nG 18 ir.field_Out_Bytes.ks (Try.f8.body.getD .skip) = some ir.field_Out_Bytes := by kernel_rfl
theorem ir.field_Out_Bytes.rok : Try.f8.results.toList.mapM (resR Try.prog) = some ir.field_Out_Bytes.rs := by kernel_rfl
theorem ir.field_Out_Bytes.spec {args : List Value} {h : AHeap} {v : Value} {h' : AHeap} (hn : args.length ≤ 18) :
    (wpC Try.prog nG ir.field_Out_Bytes (args.zipIdx.map fun p => (p.2, p.1)) h (retQ ir.field_Out_Bytes.rs h v h')) → Spec Try.prog nG fn.field_Out_Bytes args h v h' :=
  Spec.intro (fn := Try.f8) Try.func8 (c := Try.f8.body.getD .skip) (by kernel_rfl) ir.field_Out_Bytes.ok ir.field_Out_Bytes.rok hn
attribute [go_sem ↓] ir.field_Out_Bytes.r0.w ir.field_Out_Bytes.r1.w ir.field_Out_Bytes.r2.w ir.field_Out_Bytes.r3.w ir.field_Out_Bytes.r4.w ir.field_Out_Bytes.r5.w
attribute [go_sem] ir.field_Out_Bytes.rs

/-! ### fingerpost/field.Take: function 9 -/
def ir.field_Take.ks : Nat → List Nat := fun
  | 0 => [0]
  | 1 => [2]
  | _ => []
def ir.field_Take.r0 : C := .region [0] [⟨some 2, .mv (.const (.pointer none)), none⟩]
theorem ir.field_Take.r0.w (e : Env) (h : AHeap) (Q : Post) : wpC Try.prog nG ir.field_Take.r0 e h Q = lk (look e 0) (fun v0 => wI Try.prog nG (.mv (.const (.pointer none))) h fun v2 h => Q .normal [(0, v0)] h) () := lkm (wR (Rn rfl fun v2 h => rfl))
def ir.field_Take.r1 : C := .region [2] [⟨some 3, .row 1 0 [.int .u8 0] [], none⟩, ⟨some 4, .mv (.tmp 0), none⟩, ⟨some 5, .app false 1 1 (.tmp 3) (.tmp 4), none⟩, ⟨some 6, .build [.slice none 0 0, .int .i64 0] [(0, 1, .tmp 5)], none⟩, ⟨some 7, .box (.tmp 6), none⟩, ⟨some 2, .mv (.tmp 7), none⟩]
theorem ir.field_Take.r1.w (e : Env) (h : AHeap) (Q : Post) : wpC Try.prog nG ir.field_Take.r1 e h Q = lk (look e 0) (fun v0 => wI Try.prog nG (.row 1 0 [.int .u8 0] []) h fun v3 h => wI Try.prog nG (.mv (.const v0)) h fun v4 h => wI Try.prog nG (.app false 1 1 (.const v3) (.const v4)) h fun v5 h => wI Try.prog nG (.build [.slice none 0 0, .int .i64 0] [(0, 1, .const v5)]) h fun v6 h => wI Try.prog nG (.box (.const v6)) h fun v7 h => wI Try.prog nG (.mv (.const v7)) h fun v2 h => Q .normal [(2, v2)] h) () := lkm (wR (Rn rfl fun v3 h => Rn rfl fun v4 h => Rn rfl fun v5 h => Rn rfl fun v6 h => Rn rfl fun v7 h => Rn rfl fun v2 h => rfl))
def ir.field_Take : C := (.seq ir.field_Take.r0 (.seq ir.field_Take.r1 .ret))
theorem ir.field_Take.bw (e : Env) (h : AHeap) (Q : Post) : wpC Try.prog nG ir.field_Take e h Q = wpC Try.prog nG (.seq ir.field_Take.r0 (.seq ir.field_Take.r1 .ret)) e h Q := (rfl)
def ir.field_Take.rs : List RV := [.tmp 2]
theorem ir.field_Take.ok : resC Try.prog nG 8 ir.field_Take.ks (Try.f9.body.getD .skip) = some ir.field_Take := by kernel_rfl
theorem ir.field_Take.rok : Try.f9.results.toList.mapM (resR Try.prog) = some ir.field_Take.rs := by kernel_rfl
theorem ir.field_Take.spec {args : List Value} {h : AHeap} {v : Value} {h' : AHeap} (hn : args.length ≤ 8) :
    (wpC Try.prog nG ir.field_Take (args.zipIdx.map fun p => (p.2, p.1)) h (retQ ir.field_Take.rs h v h')) → Spec Try.prog nG fn.field_Take args h v h' :=
  Spec.intro (fn := Try.f9) Try.func9 (c := Try.f9.body.getD .skip) (by kernel_rfl) ir.field_Take.ok ir.field_Take.rok hn
attribute [go_sem ↓] ir.field_Take.r0.w ir.field_Take.r1.w
attribute [go_sem] ir.field_Take.rs

/-! ### fingerpost/renew.Get: function 10 -/
def ir.renew_Get.ks : Nat → List Nat := fun
  | 0 => [0, 2]
  | 1 => [0, 2, 3]
  | 2 => [0, 2, 3]
  | 3 => [0, 2, 3, 17]
  | 4 => [0, 2, 3, 17, 18]
  | 5 => [0, 2, 3, 4, 17]
  | 6 => [0, 2, 3, 17]
  | 7 => [0, 2, 3, 17]
  | 8 => [2, 3, 28]
  | 9 => [2]
  | 10 => [2]
  | _ => []
def ir.renew_Get.r0 : C := .region [0, 2] [⟨some 2, .new ([.int .i64 0, .int .u32 0] ++ zrep 1120 (.int .u8 0)), none⟩]
theorem ir.renew_Get.r0.w (e : Env) (h : AHeap) (Q : Post) : wpC Try.prog nG ir.renew_Get.r0 e h Q = lk (look e 0) (fun v0 => wI Try.prog nG (.new ([.int .i64 0, .int .u32 0] ++ zrep 1120 (.int .u8 0))) h fun v2 h => Q .normal [(0, v0), (2, v2)] h) () := lkm (wR (Rn rfl fun v2 h => rfl))
def ir.renew_Get.r1 : C := .region [0, 2, 3] [⟨some 3, .new ([.int .i64 0, .int .u32 0] ++ zrep 1120 (.int .u8 0)), none⟩]
theorem ir.renew_Get.r1.w (e : Env) (h : AHeap) (Q : Post) : wpC Try.prog nG ir.renew_Get.r1 e h Q = lk (look e 0) (fun v0 => lk (look e 2) (fun v2 => wI Try.prog nG (.new ([.int .i64 0, .int .u32 0] ++ zrep 1120 (.int .u8 0))) h fun v3 h => Q .normal [(0, v0), (2, v2), (3, v3)] h) ()) () := lkm (lkm (wR (Rn rfl fun v3 h => rfl)))
def ir.renew_Get.r2 : C := .region [0, 2, 3] [⟨some 5, .mv (.tmp 0), none⟩, ⟨some 6, .call fn.field_In_U8 [.tmp 5], none⟩, ⟨some 7, .conv .i64 (.tmp 6), none⟩, ⟨some 8, .mv (.tmp 0), none⟩, ⟨some 9, .call fn.field_In_U32 [.tmp 8], none⟩, ⟨some 10, .conv .u32 (.tmp 9), none⟩, ⟨some 11, .mv (.tmp 0), none⟩, ⟨some 12, .call fn.field_In_Sum [.tmp 11], none⟩, ⟨some 13, .mv (.tmp 0), none⟩, ⟨some 14, .call fn.field_In_Sum [.tmp 13], none⟩, ⟨some 15, .build ([.int .i64 0, .int .u32 0] ++ zrep 32 (.int .u8 0)) [(0, 1, .tmp 7), (1, 1, .tmp 10), (2, 16, .tmp 12), (18, 16, .tmp 14)], none⟩, ⟨some 16, .fld 0 (.tmp 3), none⟩, ⟨none, .store 34 (.tmp 16) (.tmp 15), none⟩]
theorem ir.renew_Get.r2.w (e : Env) (h : AHeap) (Q : Post) : wpC Try.prog nG ir.renew_Get.r2 e h Q = lk (look e 0) (fun v0 => lk (look e 2) (fun v2 => lk (look e 3) (fun v3 => wI Try.prog nG (.mv (.const v0)) h fun v5 h => wI Try.prog nG (.call fn.field_In_U8 [.const v5]) h fun v6 h => wI Try.prog nG (.conv .i64 (.const v6)) h fun v7 h => wI Try.prog nG (.mv (.const v0)) h fun v8 h => wI Try.prog nG (.call fn.field_In_U32 [.const v8]) h fun v9 h => wI Try.prog nG (.conv .u32 (.const v9)) h fun v10 h => wI Try.prog nG (.mv (.const v0)) h fun v11 h => wI Try.prog nG (.call fn.field_In_Sum [.const v11]) h fun v12 h => wI Try.prog nG (.mv (.const v0)) h fun v13 h => wI Try.prog nG (.call fn.field_In_Sum [.const v13]) h fun v14 h => wI Try.prog nG (.build ([.int .i64 0, .int .u32 0] ++ zrep 32 (.int .u8 0)) [(0, 1, .const v7), (1, 1, .const v10), (2, 16, .const v12), (18, 16, .const v14)]) h fun v15 h => wI Try.prog nG (.fld 0 (.const v3)) h fun v16 h => wI Try.prog nG (.store 34 (.const v16) (.const v15)) h fun _ h => Q .normal [(0, v0), (2, v2), (3, v3)] h) ()) ()) () := lkm (lkm (lkm (wR (Rn rfl fun v5 h => Rn rfl fun v6 h => Rn rfl fun v7 h => Rn rfl fun v8 h => Rn rfl fun v9 h => Rn rfl fun v10 h => Rn rfl fun v11 h => Rn rfl fun v12 h => Rn rfl fun v13 h => Rn rfl fun v14 h => Rn rfl fun v15 h => Rn rfl fun v16 h => Rz rfl fun v_ h => rfl))))
def ir.renew_Get.r3 : C := .region [0, 2, 3, 17] [⟨some 17, .mv (.const (.int .i64 0)), none⟩]
theorem ir.renew_Get.r3.w (e : Env) (h : AHeap) (Q : Post) : wpC Try.prog nG ir.renew_Get.r3 e h Q = lk (look e 0) (fun v0 => lk (look e 2) (fun v2 => lk (look e 3) (fun v3 => wI Try.prog nG (.mv (.const (.int .i64 0))) h fun v17 h => Q .normal [(0, v0), (2, v2), (3, v3), (17, v17)] h) ()) ()) () := lkm (lkm (lkm (wR (Rn rfl fun v17 h => rfl))))
def ir.renew_Get.r4 : C := .region [0, 2, 3, 17, 18] [⟨some 18, .bin .lss (.tmp 17) (.const (.int .i64 68)), none⟩]
theorem ir.renew_Get.r4.w (e : Env) (h : AHeap) (Q : Post) : wpC Try.prog nG ir.renew_Get.r4 e h Q = lk (look e 0) (fun v0 => lk (look e 2) (fun v2 => lk (look e 3) (fun v3 => lk (look e 17) (fun v17 => wI Try.prog nG (.bin .lss (.const v17) (.const (.int .i64 68))) h fun v18 h => Q .normal [(0, v0), (2, v2), (3, v3), (17, v17), (18, v18)] h) ()) ()) ()) () := lkm (lkm (lkm (lkm (wR (Rn rfl fun v18 h => rfl)))))
def ir.renew_Get.r5 : C := .region [0, 2, 3, 4, 17] [⟨some 19, .mv (.tmp 17), none⟩, ⟨some 4, .mv (.tmp 19), none⟩]
theorem ir.renew_Get.r5.w (e : Env) (h : AHeap) (Q : Post) : wpC Try.prog nG ir.renew_Get.r5 e h Q = lk (look e 0) (fun v0 => lk (look e 2) (fun v2 => lk (look e 3) (fun v3 => lk (look e 17) (fun v17 => wI Try.prog nG (.mv (.const v17)) h fun v19 h => wI Try.prog nG (.mv (.const v19)) h fun v4 h => Q .normal [(0, v0), (2, v2), (3, v3), (4, v4), (17, v17)] h) ()) ()) ()) () := lkm (lkm (lkm (lkm (wR (Rn rfl fun v19 h => Rn rfl fun v4 h => rfl)))))
def ir.renew_Get.r6 : C := .region [0, 2, 3, 17] [⟨some 20, .mv (.tmp 4), none⟩, ⟨some 21, .mv (.tmp 0), none⟩, ⟨some 22, .call fn.field_In_Sum [.tmp 21], none⟩, ⟨some 23, .fld 34 (.tmp 3), none⟩, ⟨some 24, .ixa 68 16 (.tmp 23) (.tmp 20), none⟩, ⟨none, .store 16 (.tmp 24) (.tmp 22), none⟩]
theorem ir.renew_Get.r6.w (e : Env) (h : AHeap) (Q : Post) : wpC Try.prog nG ir.renew_Get.r6 e h Q = lk (look e 0) (fun v0 => lk (look e 2) (fun v2 => lk (look e 3) (fun v3 => lk (look e 4) (fun v4 => lk (look e 17) (fun v17 => wI Try.prog nG (.mv (.const v4)) h fun v20 h => wI Try.prog nG (.mv (.const v0)) h fun v21 h => wI Try.prog nG (.call fn.field_In_Sum [.const v21]) h fun v22 h => wI Try.prog nG (.fld 34 (.const v3)) h fun v23 h => wI Try.prog nG (.ixa 68 16 (.const v23) (.const v20)) h fun v24 h => wI Try.prog nG (.store 16 (.const v24) (.const v22)) h fun _ h => Q .normal [(0, v0), (2, v2), (3, v3), (17, v17)] h) ()) ()) ()) ()) () := lkm (lkm (lkm (lkm (lkm (wR (Rn rfl fun v20 h => Rn rfl fun v21 h => Rn rfl fun v22 h => Rn rfl fun v23 h => Rn rfl fun v24 h => Rz rfl fun v_ h => rfl))))))
def ir.renew_Get.r7 : C := .region [0, 2, 3, 17] [⟨some 25, .bin .add (.tmp 17) (.const (.int .i64 1)), none⟩, ⟨some 17, .mv (.tmp 25), none⟩]
theorem ir.renew_Get.r7.w (e : Env) (h : AHeap) (Q : Post) : wpC Try.prog nG ir.renew_Get.r7 e h Q = lk (look e 0) (fun v0 => lk (look e 2) (fun v2 => lk (look e 3) (fun v3 => lk (look e 17) (fun v17 => wI Try.prog nG (.bin .add (.const v17) (.const (.int .i64 1))) h fun v25 h => wI Try.prog nG (.mv (.const v25)) h fun v17 h => Q .normal [(0, v0), (2, v2), (3, v3), (17, v17)] h) ()) ()) ()) () := lkm (lkm (lkm (lkm (wR (Rn rfl fun v25 h => Rn rfl fun v17 h => rfl)))))
def ir.renew_Get.l1.b : C := (.seq ir.renew_Get.r4 (.seq (.cond (.tmp 18) .skip (.exit 0)) (.seq (.block 1 (.seq ir.renew_Get.r5 ir.renew_Get.r6)) ir.renew_Get.r7)))
theorem ir.renew_Get.l1.bw (e : Env) (h : AHeap) (Q : Post) : wpC Try.prog nG ir.renew_Get.l1.b e h Q = wpC Try.prog nG (.seq ir.renew_Get.r4 (.seq (.cond (.tmp 18) .skip (.exit 0)) (.seq (.block 1 (.seq ir.renew_Get.r5 ir.renew_Get.r6)) ir.renew_Get.r7))) e h Q := (rfl)
def ir.renew_Get.l1 : C := .loop ir.renew_Get.l1.b
theorem ir.renew_Get.l1.w (e : Env) (h : AHeap) (Q : Post) : wpC Try.prog nG ir.renew_Get.l1 e h Q = loopV Try.prog nG ir.renew_Get.l1.b e h Q () := (rfl)
def ir.renew_Get.r8 : C := .region [2, 3, 28] [⟨some 26, .mv (.tmp 0), none⟩, ⟨some 27, .call fn.field_In_Err [.tmp 26], none⟩, ⟨some 28, .bin .neq (.tmp 27) (.const (.int .i64 0)), none⟩]
theorem ir.renew_Get.r8.w (e : Env) (h : AHeap) (Q : Post) : wpC Try.prog nG ir.renew_Get.r8 e h Q = lk (look e 0) (fun v0 => lk (look e 2) (fun v2 => lk (look e 3) (fun v3 => wI Try.prog nG (.mv (.const v0)) h fun v26 h => wI Try.prog nG (.call fn.field_In_Err [.const v26]) h fun v27 h => wI Try.prog nG (.bin .neq (.const v27) (.const (.int .i64 0))) h fun v28 h => Q .normal [(2, v2), (3, v3), (28, v28)] h) ()) ()) () := lkm (lkm (lkm (wR (Rn rfl fun v26 h => Rn rfl fun v27 h => Rn rfl fun v28 h => rfl))))
def ir.renew_Get.r9 : C := .region [2] [⟨some 29, .build ([.int .i64 0, .int .u32 0] ++ zrep 1120 (.int .u8 0)) [], none⟩, ⟨none, .store 1122 (.tmp 2) (.tmp 29), none⟩]
theorem ir.renew_Get.r9.w (e : Env) (h : AHeap) (Q : Post) : wpC Try.prog nG ir.renew_Get.r9 e h Q = lk (look e 2) (fun v2 => wI Try.prog nG (.build ([.int .i64 0, .int .u32 0] ++ zrep 1120 (.int .u8 0)) []) h fun v29 h => wI Try.prog nG (.store 1122 (.const v2) (.const v29)) h fun _ h => Q .normal [(2, v2)] h) () := lkm (wR (Rn rfl fun v29 h => Rz rfl fun v_ h => rfl))
def ir.renew_Get.r10 : C := .region [2] [⟨some 30, .load true 1122 (.tmp 3), none⟩, ⟨none, .store 1122 (.tmp 2) (.tmp 30), none⟩]
theorem ir.renew_Get.r10.w (e : Env) (h : AHeap) (Q : Post) : wpC Try.prog nG ir.renew_Get.r10 e h Q = lk (look e 2) (fun v2 => lk (look e 3) (fun v3 => wI Try.prog nG (.load true 1122 (.const v3)) h fun v30 h => wI Try.prog nG (.store 1122 (.const v2) (.const v30)) h fun _ h => Q .normal [(2, v2)] h) ()) () := lkm (lkm (wR (Rn rfl fun v30 h => Rz rfl fun v_ h => rfl)))
def ir.renew_Get : C := (.seq ir.renew_Get.r0 (.seq ir.renew_Get.r1 (.seq ir.renew_Get.r2 (.seq (.seq ir.renew_Get.r3 (.block 0 ir.renew_Get.l1)) (.seq (.seq ir.renew_Get.r8 (.cond (.tmp 28) (.seq ir.renew_Get.r9 .ret) .skip)) (.seq ir.renew_Get.r10 .ret))))))
theorem ir.renew_Get.bw (e : Env) (h : AHeap) (Q : Post) : wpC Try.prog nG ir.renew_Get e h Q = wpC Try.prog nG (.seq ir.renew_Get.r0 (.seq ir.renew_Get.r1 (.seq ir.renew_Get.r2 (.seq (.seq ir.renew_Get.r3 (.block 0 ir.renew_Get.l1)) (.seq (.seq ir.renew_Get.r8 (.cond (.tmp 28) (.seq ir.renew_Get.r9 .ret) .skip)) (.seq ir.renew_Get.r10 .ret)))))) e h Q := (rfl)
def ir.renew_Get.rs : List RV := [.cell 2 true 1122]
theorem ir.renew_Get.ok : resC Try.prog nG 31 ir.renew_Get.ks (Try.f10.body.getD .skip) = some ir.renew_Get := by kernel_rfl
theorem ir.renew_Get.rok : Try.f10.results.toList.mapM (resR Try.prog) = some ir.renew_Get.rs := by kernel_rfl
theorem ir.renew_Get.spec {args : List Value} {h : AHeap} {v : Value} {h' : AHeap} (hn : args.length ≤ 31) :
    (wpC Try.prog nG ir.renew_Get (args.zipIdx.map fun p => (p.2, p.1)) h (retQ ir.renew_Get.rs h v h')) → Spec Try.prog nG fn.renew_Get args h v h' :=
  Spec.intro (fn := Try.f10) Try.func10 (c := Try.f10.body.getD .skip) (by kernel_rfl) ir.renew_Get.ok ir.renew_Get.rok hn
attribute [go_sem ↓] ir.renew_Get.r0.w ir.renew_Get.r1.w ir.renew_Get.r2.w ir.renew_Get.r3.w ir.renew_Get.r4.w ir.renew_Get.r5.w ir.renew_Get.r6.w ir.renew_Get.r7.w ir.renew_Get.l1.w ir.renew_Get.r8.w ir.renew_Get.r9.w ir.renew_Get.r10.w
attribute [go_sem] ir.renew_Get.rs

/-! ### fingerpost/fingerpostref11.Get: function 11 -/
def ir.ref11_Get.ks : Nat → List Nat := fun
  | 0 => [0, 2]
  | 1 => [0, 2, 3]
  | 2 => [0, 2, 3]
  | 3 => [0, 2, 3]
  | 4 => [0, 2, 3]
  | 5 => [0, 2, 3]
  | 6 => [0, 2, 3, 4]
  | 7 => [0, 2, 3, 4, 24]
  | 8 => [0, 2, 3, 4]
  | 9 => [0, 2, 3, 4]
  | 10 => [2, 3, 36]
  | 11 => [2]
  | 12 => [2]
  | _ => []
def ir.ref11_Get.r0 : C := .region [0, 2] [⟨some 2, .new ([.int .i64 0, .int .u32 0] ++ zrep 1120 (.int .u8 0)), none⟩]
theorem ir.ref11_Get.r0.w (e : Env) (h : AHeap) (Q : Post) : wpC Try.prog nG ir.ref11_Get.r0 e h Q = lk (look e 0) (fun v0 => wI Try.prog nG (.new ([.int .i64 0, .int .u32 0] ++ zrep 1120 (.int .u8 0))) h fun v2 h => Q .normal [(0, v0), (2, v2)] h) () := lkm (wR (Rn rfl fun v2 h => rfl))
def ir.ref11_Get.r1 : C := .region [0, 2, 3] [⟨some 3, .new ([.int .i64 0, .int .u32 0] ++ zrep 1120 (.int .u8 0)), none⟩]
theorem ir.ref11_Get.r1.w (e : Env) (h : AHeap) (Q : Post) : wpC Try.prog nG ir.ref11_Get.r1 e h Q = lk (look e 0) (fun v0 => lk (look e 2) (fun v2 => wI Try.prog nG (.new ([.int .i64 0, .int .u32 0] ++ zrep 1120 (.int .u8 0))) h fun v3 h => Q .normal [(0, v0), (2, v2), (3, v3)] h) ()) () := lkm (lkm (wR (Rn rfl fun v3 h => rfl)))
def ir.ref11_Get.r2 : C := .region [0, 2, 3] [⟨some 5, .mv (.tmp 0), none⟩, ⟨some 6, .call fn.ref03_In_Num [.tmp 5, .const (.int .i64 1)], none⟩, ⟨some 7, .conv .i64 (.tmp 6), none⟩, ⟨some 8, .fld 0 (.tmp 3), none⟩, ⟨some 9, .fld 0 (.tmp 8), none⟩, ⟨none, .store 1 (.tmp 9) (.tmp 7), none⟩]
theorem ir.ref11_Get.r2.w (e : Env) (h : AHeap) (Q : Post) : wpC Try.prog nG ir.ref11_Get.r2 e h Q = lk (look e 0) (fun v0 => lk (look e 2) (fun v2 => lk (look e 3) (fun v3 => wI Try.prog nG (.mv (.const v0)) h fun v5 h => wI Try.prog nG (.call fn.ref03_In_Num [.const v5, .const (.int .i64 1)]) h fun v6 h => wI Try.prog nG (.conv .i64 (.const v6)) h fun v7 h => wI Try.prog nG (.fld 0 (.const v3)) h fun v8 h => wI Try.prog nG (.fld 0 (.const v8)) h fun v9 h => wI Try.prog nG (.store 1 (.const v9) (.const v7)) h fun _ h => Q .normal [(0, v0), (2, v2), (3, v3)] h) ()) ()) () := lkm (lkm (lkm (wR (Rn rfl fun v5 h => Rn rfl fun v6 h => Rn rfl fun v7 h => Rn rfl fun v8 h => Rn rfl fun v9 h => Rz rfl fun v_ h => rfl))))
def ir.ref11_Get.r3 : C := .region [0, 2, 3] [⟨some 10, .mv (.tmp 0), none⟩, ⟨some 11, .call fn.ref03_In_Num [.tmp 10, .const (.int .i64 4)], none⟩, ⟨some 12, .conv .u32 (.tmp 11), none⟩, ⟨some 13, .fld 0 (.tmp 3), none⟩, ⟨some 14, .fld 1 (.tmp 13), none⟩, ⟨none, .store 1 (.tmp 14) (.tmp 12), none⟩]
theorem ir.ref11_Get.r3.w (e : Env) (h : AHeap) (Q : Post) : wpC Try.prog nG ir.ref11_Get.r3 e h Q = lk (look e 0) (fun v0 => lk (look e 2) (fun v2 => lk (look e 3) (fun v3 => wI Try.prog nG (.mv (.const v0)) h fun v10 h => wI Try.prog nG (.call fn.ref03_In_Num [.const v10, .const (.int .i64 4)]) h fun v11 h => wI Try.prog nG (.conv .u32 (.const v11)) h fun v12 h => wI Try.prog nG (.fld 0 (.const v3)) h fun v13 h => wI Try.prog nG (.fld 1 (.const v13)) h fun v14 h => wI Try.prog nG (.store 1 (.const v14) (.const v12)) h fun _ h => Q .normal [(0, v0), (2, v2), (3, v3)] h) ()) ()) () := lkm (lkm (lkm (wR (Rn rfl fun v10 h => Rn rfl fun v11 h => Rn rfl fun v12 h => Rn rfl fun v13 h => Rn rfl fun v14 h => Rz rfl fun v_ h => rfl))))
def ir.ref11_Get.r4 : C := .region [0, 2, 3] [⟨some 15, .mv (.tmp 0), none⟩, ⟨some 16, .call fn.ref03_In_Sum [.tmp 15], none⟩, ⟨some 17, .fld 0 (.tmp 3), none⟩, ⟨some 18, .fld 2 (.tmp 17), none⟩, ⟨none, .store 16 (.tmp 18) (.tmp 16), none⟩]
theorem ir.ref11_Get.r4.w (e : Env) (h : AHeap) (Q : Post) : wpC Try.prog nG ir.ref11_Get.r4 e h Q = lk (look e 0) (fun v0 => lk (look e 2) (fun v2 => lk (look e 3) (fun v3 => wI Try.prog nG (.mv (.const v0)) h fun v15 h => wI Try.prog nG (.call fn.ref03_In_Sum [.const v15]) h fun v16 h => wI Try.prog nG (.fld 0 (.const v3)) h fun v17 h => wI Try.prog nG (.fld 2 (.const v17)) h fun v18 h => wI Try.prog nG (.store 16 (.const v18) (.const v16)) h fun _ h => Q .normal [(0, v0), (2, v2), (3, v3)] h) ()) ()) () := lkm (lkm (lkm (wR (Rn rfl fun v15 h => Rn rfl fun v16 h => Rn rfl fun v17 h => Rn rfl fun v18 h => Rz rfl fun v_ h => rfl))))
def ir.ref11_Get.r5 : C := .region [0, 2, 3] [⟨some 19, .mv (.tmp 0), none⟩, ⟨some 20, .call fn.ref03_In_Sum [.tmp 19], none⟩, ⟨some 21, .fld 0 (.tmp 3), none⟩, ⟨some 22, .fld 18 (.tmp 21), none⟩, ⟨none, .store 16 (.tmp 22) (.tmp 20), none⟩]
theorem ir.ref11_Get.r5.w (e : Env) (h : AHeap) (Q : Post) : wpC Try.prog nG ir.ref11_Get.r5 e h Q = lk (look e 0) (fun v0 => lk (look e 2) (fun v2 => lk (look e 3) (fun v3 => wI Try.prog nG (.mv (.const v0)) h fun v19 h => wI Try.prog nG (.call fn.ref03_In_Sum [.const v19]) h fun v20 h => wI Try.prog nG (.fld 0 (.const v3)) h fun v21 h => wI Try.prog nG (.fld 18 (.const v21)) h fun v22 h => wI Try.prog nG (.store 16 (.const v22) (.const v20)) h fun _ h => Q .normal [(0, v0), (2, v2), (3, v3)] h) ()) ()) () := lkm (lkm (lkm (wR (Rn rfl fun v19 h => Rn rfl fun v20 h => Rn rfl fun v21 h => Rn rfl fun v22 h => Rz rfl fun v_ h => rfl))))
def ir.ref11_Get.r6 : C := .region [0, 2, 3, 4] [⟨some 4, .mv (.const (.int .i64 0)), none⟩]
theorem ir.ref11_Get.r6.w (e : Env) (h : AHeap) (Q : Post) : wpC Try.prog nG ir.ref11_Get.r6 e h Q = lk (look e 0) (fun v0 => lk (look e 2) (fun v2 => lk (look e 3) (fun v3 => wI Try.prog nG (.mv (.const (.int .i64 0))) h fun v4 h => Q .normal [(0, v0), (2, v2), (3, v3), (4, v4)] h) ()) ()) () := lkm (lkm (lkm (wR (Rn rfl fun v4 h => rfl))))
def ir.ref11_Get.r7 : C := .region [0, 2, 3, 4, 24] [⟨some 23, .mv (.tmp 4), none⟩, ⟨some 24, .bin .lss (.tmp 23) (.const (.int .i64 68)), none⟩]
theorem ir.ref11_Get.r7.w (e : Env) (h : AHeap) (Q : Post) : wpC Try.prog nG ir.ref11_Get.r7 e h Q = lk (look e 0) (fun v0 => lk (look e 2) (fun v2 => lk (look e 3) (fun v3 => lk (look e 4) (fun v4 => wI Try.prog nG (.mv (.const v4)) h fun v23 h => wI Try.prog nG (.bin .lss (.const v23) (.const (.int .i64 68))) h fun v24 h => Q .normal [(0, v0), (2, v2), (3, v3), (4, v4), (24, v24)] h) ()) ()) ()) () := lkm (lkm (lkm (lkm (wR (Rn rfl fun v23 h => Rn rfl fun v24 h => rfl)))))
def ir.ref11_Get.r9 : C := .region [0, 2, 3, 4] [⟨some 27, .mv (.tmp 4), none⟩, ⟨some 28, .mv (.tmp 0), none⟩, ⟨some 29, .call fn.ref03_In_Sum [.tmp 28], none⟩, ⟨some 30, .fld 34 (.tmp 3), none⟩, ⟨some 31, .ixa 68 16 (.tmp 30) (.tmp 27), none⟩, ⟨none, .store 16 (.tmp 31) (.tmp 29), none⟩]
theorem ir.ref11_Get.r9.w (e : Env) (h : AHeap) (Q : Post) : wpC Try.prog nG ir.ref11_Get.r9 e h Q = lk (look e 0) (fun v0 => lk (look e 2) (fun v2 => lk (look e 3) (fun v3 => lk (look e 4) (fun v4 => wI Try.prog nG (.mv (.const v4)) h fun v27 h => wI Try.prog nG (.mv (.const v0)) h fun v28 h => wI Try.prog nG (.call fn.ref03_In_Sum [.const v28]) h fun v29 h => wI Try.prog nG (.fld 34 (.const v3)) h fun v30 h => wI Try.prog nG (.ixa 68 16 (.const v30) (.const v27)) h fun v31 h => wI Try.prog nG (.store 16 (.const v31) (.const v29)) h fun _ h => Q .normal [(0, v0), (2, v2), (3, v3), (4, v4)] h) ()) ()) ()) () := lkm (lkm (lkm (lkm (wR (Rn rfl fun v27 h => Rn rfl fun v28 h => Rn rfl fun v29 h => Rn rfl fun v30 h => Rn rfl fun v31 h => Rz rfl fun v_ h => rfl)))))
def ir.ref11_Get.r8 : C := .region [0, 2, 3, 4] [⟨some 25, .mv (.tmp 4), none⟩, ⟨some 26, .bin .add (.tmp 25) (.const (.int .i64 1)), none⟩, ⟨some 4, .mv (.tmp 26), none⟩]
theorem ir.ref11_Get.r8.w (e : Env) (h : AHeap) (Q : Post) : wpC Try.prog nG ir.ref11_Get.r8 e h Q = lk (look e 0) (fun v0 => lk (look e 2) (fun v2 => lk (look e 3) (fun v3 => lk (look e 4) (fun v4 => wI Try.prog nG (.mv (.const v4)) h fun v25 h => wI Try.prog nG (.bin .add (.const v25) (.const (.int .i64 1))) h fun v26 h => wI Try.prog nG (.mv (.const v26)) h fun v4 h => Q .normal [(0, v0), (2, v2), (3, v3), (4, v4)] h) ()) ()) ()) () := lkm (lkm (lkm (lkm (wR (Rn rfl fun v25 h => Rn rfl fun v26 h => Rn rfl fun v4 h => rfl)))))
def ir.ref11_Get.l1.b : C := (.seq (.seq ir.ref11_Get.r7 (.cond (.tmp 24) .skip (.exit 0))) (.seq (.block 1 ir.ref11_Get.r9) ir.ref11_Get.r8))
theorem ir.ref11_Get.l1.bw (e : Env) (h : AHeap) (Q : Post) : wpC Try.prog nG ir.ref11_Get.l1.b e h Q = wpC Try.prog nG (.seq (.seq ir.ref11_Get.r7 (.cond (.tmp 24) .skip (.exit 0))) (.seq (.block 1 ir.ref11_Get.r9) ir.ref11_Get.r8)) e h Q := (rfl)
def ir.ref11_Get.l1 : C := .loop ir.ref11_Get.l1.b
theorem ir.ref11_Get.l1.w (e : Env) (h : AHeap) (Q : Post) : wpC Try.prog nG ir.ref11_Get.l1 e h Q = loopV Try.prog nG ir.ref11_Get.l1.b e h Q () := (rfl)
def ir.ref11_Get.r10 : C := .region [2, 3, 36] [⟨some 32, .mv (.tmp 0), none⟩, ⟨some 33, .nilck (.tmp 32), none⟩, ⟨some 34, .fld 2 (.tmp 33), none⟩, ⟨some 35, .load false 1 (.tmp 34), none⟩, ⟨some 36, .bin .neq (.tmp 35) (.const (.int .i64 0)), none⟩]
theorem ir.ref11_Get.r10.w (e : Env) (h : AHeap) (Q : Post) : wpC Try.prog nG ir.ref11_Get.r10 e h Q = lk (look e 0) (fun v0 => lk (look e 2) (fun v2 => lk (look e 3) (fun v3 => wI Try.prog nG (.mv (.const v0)) h fun v32 h => wI Try.prog nG (.nilck (.const v32)) h fun v33 h => wI Try.prog nG (.fld 2 (.const v33)) h fun v34 h => wI Try.prog nG (.load false 1 (.const v34)) h fun v35 h => wI Try.prog nG (.bin .neq (.const v35) (.const (.int .i64 0))) h fun v36 h => Q .normal [(2, v2), (3, v3), (36, v36)] h) ()) ()) () := lkm (lkm (lkm (wR (Rn rfl fun v32 h => Rn rfl fun v33 h => Rn rfl fun v34 h => Rn rfl fun v35 h => Rn rfl fun v36 h => rfl))))
def ir.ref11_Get.r11 : C := .region [2] [⟨some 37, .build ([.int .i64 0, .int .u32 0] ++ zrep 1120 (.int .u8 0)) [], none⟩, ⟨none, .store 1122 (.tmp 2) (.tmp 37), none⟩]
theorem ir.ref11_Get.r11.w (e : Env) (h : AHeap) (Q : Post) : wpC Try.prog nG ir.ref11_Get.r11 e h Q = lk (look e 2) (fun v2 => wI Try.prog nG (.build ([.int .i64 0, .int .u32 0] ++ zrep 1120 (.int .u8 0)) []) h fun v37 h => wI Try.prog nG (.store 1122 (.const v2) (.const v37)) h fun _ h => Q .normal [(2, v2)] h) () := lkm (wR (Rn rfl fun v37 h => Rz rfl fun v_ h => rfl))
def ir.ref11_Get.r12 : C := .region [2] [⟨some 38, .load true 1122 (.tmp 3), none⟩, ⟨none, .store 1122 (.tmp 2) (.tmp 38), none⟩]
theorem ir.ref11_Get.r12.w (e : Env) (h : AHeap) (Q : Post) : wpC Try.prog nG ir.ref11_Get.r12 e h Q = lk (look e 2) (fun v2 => lk (look e 3) (fun v3 => wI Try.prog nG (.load true 1122 (.const v3)) h fun v38 h => wI Try.prog nG (.store 1122 (.const v2) (.const v38)) h fun _ h => Q .normal [(2, v2)] h) ()) () := lkm (lkm (wR (Rn rfl fun v38 h => Rz rfl fun v_ h => rfl)))
def ir.ref11_Get : C := (.seq ir.ref11_Get.r0 (.seq ir.ref11_Get.r1 (.seq ir.ref11_Get.r2 (.seq ir.ref11_Get.r3 (.seq ir.ref11_Get.r4 (.seq ir.ref11_Get.r5 (.seq (.seq ir.ref11_Get.r6 (.block 0 ir.ref11_Get.l1)) (.seq (.seq ir.ref11_Get.r10 (.cond (.tmp 36) (.seq ir.ref11_Get.r11 .ret) .skip)) (.seq ir.ref11_Get.r12 .ret)))))))))
theorem ir.ref11_Get.bw (e : Env) (h : AHeap) (Q : Post) : wpC Try.prog nG ir.ref11_Get e h Q = wpC Try.prog nG (.seq ir.ref11_Get.r0 (.seq ir.ref11_Get.r1 (.seq ir.ref11_Get.r2 (.seq ir.ref11_Get.r3 (.seq ir.ref11_Get.r4 (.seq ir.ref11_Get.r5 (.seq (.seq ir.ref11_Get.r6 (.block 0 ir.ref11_Get.l1)) (.seq (.seq ir.ref11_Get.r10 (.cond (.tmp 36) (.seq ir.ref11_Get.r11 .ret) .skip)) (.seq ir.ref11_Get.r12 .ret))))))))) e h Q := (rfl)
def ir.ref11_Get.rs : List RV := [.cell 2 true 1122]
theorem ir.ref11_Get.ok : resC Try.prog nG 39 ir.ref11_Get.ks (Try.f11.body.getD .skip) = some ir.ref11_Get := by kernel_rfl
theorem ir.ref11_Get.rok : Try.f11.results.toList.mapM (resR Try.prog) = some ir.ref11_Get.rs := by kernel_rfl
theorem ir.ref11_Get.spec {args : List Value} {h : AHeap} {v : Value} {h' : AHeap} (hn : args.length ≤ 39) :
    (wpC Try.prog nG ir.ref11_Get (args.zipIdx.map fun p => (p.2, p.1)) h (retQ ir.ref11_Get.rs h v h')) → Spec Try.prog nG fn.ref11_Get args h v h' :=
  Spec.intro (fn := Try.f11) Try.func11 (c := Try.f11.body.getD .skip) (by kernel_rfl) ir.ref11_Get.ok ir.ref11_Get.rok hn
attribute [go_sem ↓] ir.ref11_Get.r0.w ir.ref11_Get.r1.w ir.ref11_Get.r2.w ir.ref11_Get.r3.w ir.ref11_Get.r4.w ir.ref11_Get.r5.w ir.ref11_Get.r6.w ir.ref11_Get.r7.w ir.ref11_Get.r9.w ir.ref11_Get.r8.w ir.ref11_Get.l1.w ir.ref11_Get.r10.w ir.ref11_Get.r11.w ir.ref11_Get.r12.w
attribute [go_sem] ir.ref11_Get.rs

/-! ### fingerpost/fingerpostref11.Put: function 13 -/
def ir.ref11_Put.ks : Nat → List Nat := fun
  | 0 => [1]
  | 1 => [1, 3]
  | 2 => [1, 3, 4]
  | 3 => [1, 3, 4, 10]
  | 4 => [1, 3, 4]
  | 5 => [1, 3, 4, 5]
  | 6 => [1, 3, 4]
  | 7 => [2]
  | _ => []
def ir.ref11_Put.r0 : C := .region [1] [⟨some 1, .box (.tmp 0), none⟩, ⟨some 2, .mv (.const (.slice none 0 0)), none⟩]
theorem ir.ref11_Put.r0.w (e : Env) (h : AHeap) (Q : Post) : wpC Try.prog nG ir.ref11_Put.r0 e h Q = lk (look e 0) (fun v0 => wI Try.prog nG (.box (.const v0)) h fun v1 h => wI Try.prog nG (.mv (.const (.slice none 0 0))) h fun v2 h => Q .normal [(1, v1)] h) () := lkm (wR (Rn rfl fun v1 h => Rn rfl fun v2 h => rfl))
def ir.ref11_Put.r1 : C := .region [1, 3] [⟨some 6, .fld 0 (.tmp 1), none⟩, ⟨some 7, .load true 34 (.tmp 6), none⟩, ⟨some 8, .call fn.ref11_Bytes [.tmp 7], none⟩, ⟨some 3, .mv (.tmp 8), none⟩]
theorem ir.ref11_Put.r1.w (e : Env) (h : AHeap) (Q : Post) : wpC Try.prog nG ir.ref11_Put.r1 e h Q = lk (look e 1) (fun v1 => wI Try.prog nG (.fld 0 (.const v1)) h fun v6 h => wI Try.prog nG (.load true 34 (.const v6)) h fun v7 h => wI Try.prog nG (.call fn.ref11_Bytes [.const v7]) h fun v8 h => wI Try.prog nG (.mv (.const v8)) h fun v3 h => Q .normal [(1, v1), (3, v3)] h) () := lkm (wR (Rn rfl fun v6 h => Rn rfl fun v7 h => Rn rfl fun v8 h => Rn rfl fun v3 h => rfl))
def ir.ref11_Put.r2 : C := .region [1, 3, 4] [⟨some 4, .mv (.const (.int .i64 0)), none⟩]
theorem ir.ref11_Put.r2.w (e : Env) (h : AHeap) (Q : Post) : wpC Try.prog nG ir.ref11_Put.r2 e h Q = lk (look e 1) (fun v1 => lk (look e 3) (fun v3 => wI Try.prog nG (.mv (.const (.int .i64 0))) h fun v4 h => Q .normal [(1, v1), (3, v3), (4, v4)] h) ()) () := lkm (lkm (wR (Rn rfl fun v4 h => rfl)))
def ir.ref11_Put.r3 : C := .region [1, 3, 4, 10] [⟨some 9, .mv (.tmp 4), none⟩, ⟨some 10, .bin .lss (.tmp 9) (.const (.int .i64 68)), none⟩]
theorem ir.ref11_Put.r3.w (e : Env) (h : AHeap) (Q : Post) : wpC Try.prog nG ir.ref11_Put.r3 e h Q = lk (look e 1) (fun v1 => lk (look e 3) (fun v3 => lk (look e 4) (fun v4 => wI Try.prog nG (.mv (.const v4)) h fun v9 h => wI Try.prog nG (.bin .lss (.const v9) (.const (.int .i64 68))) h fun v10 h => Q .normal [(1, v1), (3, v3), (4, v4), (10, v10)] h) ()) ()) () := lkm (lkm (lkm (wR (Rn rfl fun v9 h => Rn rfl fun v10 h => rfl))))
def ir.ref11_Put.r5 : C := .region [1, 3, 4, 5] [⟨some 13, .mv (.tmp 4), none⟩, ⟨some 14, .fld 34 (.tmp 1), none⟩, ⟨some 15, .ixa 68 16 (.tmp 14) (.tmp 13), none⟩, ⟨some 16, .load true 16 (.tmp 15), none⟩, ⟨some 5, .new (zrep 16 (.int .u8 0)), none⟩, ⟨none, .store 16 (.tmp 5) (.tmp 16), none⟩]
theorem ir.ref11_Put.r5.w (e : Env) (h : AHeap) (Q : Post) : wpC Try.prog nG ir.ref11_Put.r5 e h Q = lk (look e 1) (fun v1 => lk (look e 3) (fun v3 => lk (look e 4) (fun v4 => wI Try.prog nG (.mv (.const v4)) h fun v13 h => wI Try.prog nG (.fld 34 (.const v1)) h fun v14 h => wI Try.prog nG (.ixa 68 16 (.const v14) (.const v13)) h fun v15 h => wI Try.prog nG (.load true 16 (.const v15)) h fun v16 h => wI Try.prog nG (.new (zrep 16 (.int .u8 0))) h fun v5 h => wI Try.prog nG (.store 16 (.const v5) (.const v16)) h fun _ h => Q .normal [(1, v1), (3, v3), (4, v4), (5, v5)] h) ()) ()) () := lkm (lkm (lkm (wR (Rn rfl fun v13 h => Rn rfl fun v14 h => Rn rfl fun v15 h => Rn rfl fun v16 h => Rn rfl fun v5 h => Rz rfl fun v_ h => rfl))))
def ir.ref11_Put.r6 : C := .region [1, 3, 4] [⟨some 17, .mv (.tmp 3), none⟩, ⟨some 18, .sla 16 1 (.tmp 5) none none, none⟩, ⟨some 19, .app false 1 1 (.tmp 17) (.tmp 18), none⟩, ⟨some 3, .mv (.tmp 19), none⟩]
theorem ir.ref11_Put.r6.w (e : Env) (h : AHeap) (Q : Post) : wpC Try.prog nG ir.ref11_Put.r6 e h Q = lk (look e 1) (fun v1 => lk (look e 3) (fun v3 => lk (look e 4) (fun v4 => lk (look e 5) (fun v5 => wI Try.prog nG (.mv (.const v3)) h fun v17 h => wI Try.prog nG (.sla 16 1 (.const v5) none none) h fun v18 h => wI Try.prog nG (.app false 1 1 (.const v17) (.const v18)) h fun v19 h => wI Try.prog nG (.mv (.const v19)) h fun v3 h => Q .normal [(1, v1), (3, v3), (4, v4)] h) ()) ()) ()) () := lkm (lkm (lkm (lkm (wR (Rn rfl fun v17 h => Rn rfl fun v18 h => Rn rfl fun v19 h => Rn rfl fun v3 h => rfl)))))
def ir.ref11_Put.r4 : C := .region [1, 3, 4] [⟨some 11, .mv (.tmp 4), none⟩, ⟨some 12, .bin .add (.tmp 11) (.const (.int .i64 1)), none⟩, ⟨some 4, .mv (.tmp 12), none⟩]
theorem ir.ref11_Put.r4.w (e : Env) (h : AHeap) (Q : Post) : wpC Try.prog nG ir.ref11_Put.r4 e h Q = lk (look e 1) (fun v1 => lk (look e 3) (fun v3 => lk (look e 4) (fun v4 => wI Try.prog nG (.mv (.const v4)) h fun v11 h => wI Try.prog nG (.bin .add (.const v11) (.const (.int .i64 1))) h fun v12 h => wI Try.prog nG (.mv (.const v12)) h fun v4 h => Q .normal [(1, v1), (3, v3), (4, v4)] h) ()) ()) () := lkm (lkm (lkm (wR (Rn rfl fun v11 h => Rn rfl fun v12 h => Rn rfl fun v4 h => rfl))))
def ir.ref11_Put.l1.b : C := (.seq (.seq ir.ref11_Put.r3 (.cond (.tmp 10) .skip (.exit 0))) (.seq (.block 1 (.seq ir.ref11_Put.r5 ir.ref11_Put.r6)) ir.ref11_Put.r4))
theorem ir.ref11_Put.l1.bw (e : Env) (h : AHeap) (Q : Post) : wpC Try.prog nG ir.ref11_Put.l1.b e h Q = wpC Try.prog nG (.seq (.seq ir.ref11_Put.r3 (.cond (.tmp 10) .skip (.exit 0))) (.seq (.block 1 (.seq ir.ref11_Put.r5 ir.ref11_Put.r6)) ir.ref11_Put.r4)) e h Q := (rfl)
def ir.ref11_Put.l1 : C := .loop ir.ref11_Put.l1.b
theorem ir.ref11_Put.l1.w (e : Env) (h : AHeap) (Q : Post) : wpC Try.prog nG ir.ref11_Put.l1 e h Q = loopV Try.prog nG ir.ref11_Put.l1.b e h Q () := (rfl)
def ir.ref11_Put.r7 : C := .region [2] [⟨some 20, .mv (.tmp 3), none⟩, ⟨some 2, .mv (.tmp 20), none⟩]
theorem ir.ref11_Put.r7.w (e : Env) (h : AHeap) (Q : Post) : wpC Try.prog nG ir.ref11_Put.r7 e h Q = lk (look e 3) (fun v3 => wI Try.prog nG (.mv (.const v3)) h fun v20 h => wI Try.prog nG (.mv (.const v20)) h fun v2 h => Q .normal [(2, v2)] h) () := lkm (wR (Rn rfl fun v20 h => Rn rfl fun v2 h => rfl))
def ir.ref11_Put : C := (.seq ir.ref11_Put.r0 (.seq ir.ref11_Put.r1 (.seq (.seq ir.ref11_Put.r2 (.block 0 ir.ref11_Put.l1)) (.seq ir.ref11_Put.r7 .ret))))
theorem ir.ref11_Put.bw (e : Env) (h : AHeap) (Q : Post) : wpC Try.prog nG ir.ref11_Put e h Q = wpC Try.prog nG (.seq ir.ref11_Put.r0 (.seq ir.ref11_Put.r1 (.seq (.seq ir.ref11_Put.r2 (.block 0 ir.ref11_Put.l1)) (.seq ir.ref11_Put.r7 .ret)))) e h Q := (rfl)
def ir.ref11_Put.rs : List RV := [.tmp 2]
theorem ir.ref11_Put.ok : resC Try.prog nG 21 ir.ref11_Put.ks (Try.f13.body.getD .skip) = some ir.ref11_Put := by kernel_rfl
theorem ir.ref11_Put.rok : Try.f13.results.toList.mapM (resR Try.prog) = some ir.ref11_Put.rs := by kernel_rfl
theorem ir.ref11_Put.spec {args : List Value} {h : AHeap} {v : Value} {h' : AHeap} (hn : args.length ≤ 21) :
    (wpC Try.prog nG ir.ref11_Put (args.zipIdx.map fun p => (p.2, p.1)) h (retQ ir.ref11_Put.rs h v h')) → Spec Try.prog nG fn.ref11_Put args h v h' :=
  Spec.intro (fn := Try.f13) Try.func13 (c := Try.f13.body.getD .skip) (by kernel_rfl) ir.ref11_Put.ok ir.ref11_Put.rok hn
attribute [go_sem ↓] ir.ref11_Put.r0.w ir.ref11_Put.r1.w ir.ref11_Put.r2.w ir.ref11_Put.r3.w ir.ref11_Put.r5.w ir.ref11_Put.r6.w ir.ref11_Put.r4.w ir.ref11_Put.l1.w ir.ref11_Put.r7.w
attribute [go_sem] ir.ref11_Put.rs

/-! ### (*fingerpost/field.In).End: function 15 -/
def ir.field_In_End.ks : Nat → List Nat := fun
  | 0 => [0]
  | 1 => [0, 5]
  | 2 => [0]
  | 3 => [2]
  | _ => []
def ir.field_In_End.r0 : C := .region [0] [⟨some 2, .mv (.const (.int .i64 0)), none⟩]
theorem ir.field_In_End.r0.w (e : Env) (h : AHeap) (Q : Post) : wpC Try.prog nG ir.field_In_End.r0 e h Q = lk (look e 0) (fun v0 => wI Try.prog nG (.mv (.const (.int .i64 0))) h fun v2 h => Q .normal [(0, v0)] h) () := lkm (wR (Rn rfl fun v2 h => rfl))
def ir.field_In_End.r1 : C := .region [0, 5] [⟨some 3, .mv (.tmp 0), none⟩, ⟨some 4, .call fn.field_In_Left [.tmp 3], none⟩, ⟨some 5, .bin .gtr (.tmp 4) (.const (.int .i64 0)), none⟩]
theorem ir.field_In_End.r1.w (e : Env) (h : AHeap) (Q : Post) : wpC Try.prog nG ir.field_In_End.r1 e h Q = lk (look e 0) (fun v0 => wI Try.prog nG (.mv (.const v0)) h fun v3 h => wI Try.prog nG (.call fn.field_In_Left [.const v3]) h fun v4 h => wI Try.prog nG (.bin .gtr (.const v4) (.const (.int .i64 0))) h fun v5 h => Q .normal [(0, v0), (5, v5)] h) () := lkm (wR (Rn rfl fun v3 h => Rn rfl fun v4 h => Rn rfl fun v5 h => rfl))
def ir.field_In_End.r2 : C := .region [0] [⟨some 6, .mv (.tmp 0), none⟩, ⟨some 7, .call fn.field_In_Fail [.tmp 6, .const (.int .i64 10)], none⟩]
theorem ir.field_In_End.r2.w (e : Env) (h : AHeap) (Q : Post) : wpC Try.prog nG ir.field_In_End.r2 e h Q = lk (look e 0) (fun v0 => wI Try.prog nG (.mv (.const v0)) h fun v6 h => wI Try.prog nG (.call fn.field_In_Fail [.const v6, .const (.int .i64 10)]) h fun v7 h => Q .normal [(0, v0)] h) () := lkm (wR (Rn rfl fun v6 h => Rn rfl fun v7 h => rfl))
def ir.field_In_End.r3 : C := .region [2] [⟨some 8, .mv (.tmp 0), none⟩, ⟨some 9, .call fn.field_In_Err [.tmp 8], none⟩, ⟨some 2, .mv (.tmp 9), none⟩]
theorem ir.field_In_End.r3.w (e : Env) (h : AHeap) (Q : Post) : wpC Try.prog nG ir.field_In_End.r3 e h Q = lk (look e 0) (fun v0 => wI Try.prog nG (.mv (.const v0)) h fun v8 h => wI Try.prog nG (.call fn.field_In_Err [.const v8]) h fun v9 h => wI Try.prog nG (.mv (.const v9)) h fun v2 h => Q .normal [(2, v2)] h) () := lkm (wR (Rn rfl fun v8 h => Rn rfl fun v9 h => Rn rfl fun v2 h => rfl))
def ir.field_In_End : C := (.seq ir.field_In_End.r0 (.seq (.seq ir.field_In_End.r1 (.cond (.tmp 5) ir.field_In_End.r2 .skip)) (.seq ir.field_In_End.r3 .ret)))
theorem ir.field_In_End.bw (e : Env) (h : AHeap) (Q : Post) : wpC Try.prog nG ir.field_In_End e h Q = wpC Try.prog nG (.seq ir.field_In_End.r0 (.seq (.seq ir.field_In_End.r1 (.cond (.tmp 5) ir.field_In_End.r2 .skip)) (.seq ir.field_In_End.r3 .ret))) e h Q := (rfl)
def ir.field_In_End.rs : List RV := [.tmp 2]
theorem ir.field_In_End.ok : resC Try.prog nG 10 ir.field_In_End.ks (Try.f15.body.getD .skip) = some ir.field_In_End := by kernel_rfl
theorem ir.field_In_End.rok : Try.f15.results.toList.mapM (resR Try.prog) = some ir.field_In_End.rs := by kernel_rfl
theorem ir.field_In_End.spec {args : List Value} {h : AHeap} {v : Value} {h' : AHeap} (hn : args.length ≤ 10) :
    (wpC Try.prog nG ir.field_In_End (args.zipIdx.map fun p => (p.2, p.1)) h (retQ ir.field_In_End.rs h v h')) → Spec Try.prog nG fn.field_In_End args h v h' :=
  Spec.intro (fn := Try.f15) Try.func15 (c := Try.f15.body.getD .skip) (by kernel_rfl) ir.field_In_End.ok ir.field_In_End.rok hn
attribute [go_sem ↓] ir.field_In_End.r0.w ir.field_In_End.r1.w ir.field_In_End.r2.w ir.field_In_End.r3.w
attribute [go_sem] ir.field_In_End.rs

/-! ### (*fingerpost/fingerpostref03.In).End: function 16 -/
def ir.ref03_In_End.ks : Nat → List Nat := fun
  | 0 => [0]
  | 1 => [0, 5]
  | 2 => [0]
  | 3 => [2]
  | _ => []
def ir.ref03_In_End.r0 : C := .region [0] [⟨some 2, .mv (.const (.int .i64 0)), none⟩]
theorem ir.ref03_In_End.r0.w (e : Env) (h : AHeap) (Q : Post) : wpC Try.prog nG ir.ref03_In_End.r0 e h Q = lk (look e 0) (fun v0 => wI Try.prog nG (.mv (.const (.int .i64 0))) h fun v2 h => Q .normal [(0, v0)] h) () := lkm (wR (Rn rfl fun v2 h => rfl))
def ir.ref03_In_End.r1 : C := .region [0, 5] [⟨some 3, .mv (.tmp 0), none⟩, ⟨some 4, .call fn.ref03_In_Left [.tmp 3], none⟩, ⟨some 5, .bin .gtr (.tmp 4) (.const (.int .i64 0)), none⟩]
theorem ir.ref03_In_End.r1.w (e : Env) (h : AHeap) (Q : Post) : wpC Try.prog nG ir.ref03_In_End.r1 e h Q = lk (look e 0) (fun v0 => wI Try.prog nG (.mv (.const v0)) h fun v3 h => wI Try.prog nG (.call fn.ref03_In_Left [.const v3]) h fun v4 h => wI Try.prog nG (.bin .gtr (.const v4) (.const (.int .i64 0))) h fun v5 h => Q .normal [(0, v0), (5, v5)] h) () := lkm (wR (Rn rfl fun v3 h => Rn rfl fun v4 h => Rn rfl fun v5 h => rfl))
def ir.ref03_In_End.r2 : C := .region [0] [⟨some 6, .mv (.tmp 0), none⟩, ⟨some 7, .nilck (.tmp 6), none⟩, ⟨some 8, .fld 2 (.tmp 7), none⟩, ⟨none, .store 1 (.tmp 8) (.const (.int .i64 10)), none⟩]
theorem ir.ref03_In_End.r2.w (e : Env) (h : AHeap) (Q : Post) : wpC Try.prog nG ir.ref03_In_End.r2 e h Q = lk (look e 0) (fun v0 => wI Try.prog nG (.mv (.const v0)) h fun v6 h => wI Try.prog nG (.nilck (.const v6)) h fun v7 h => wI Try.prog nG (.fld 2 (.const v7)) h fun v8 h => wI Try.prog nG (.store 1 (.const v8) (.const (.int .i64 10))) h fun _ h => Q .normal [(0, v0)] h) () := lkm (wR (Rn rfl fun v6 h => Rn rfl fun v7 h => Rn rfl fun v8 h => Rz rfl fun v_ h => rfl))
def ir.ref03_In_End.r3 : C := .region [2] [⟨some 9, .mv (.tmp 0), none⟩, ⟨some 10, .nilck (.tmp 9), none⟩, ⟨some 11, .fld 2 (.tmp 10), none⟩, ⟨some 12, .load false 1 (.tmp 11), none⟩, ⟨some 2, .mv (.tmp 12), none⟩]
theorem ir.ref03_In_End.r3.w (e : Env) (h : AHeap) (Q : Post) : wpC Try.prog nG ir.ref03_In_End.r3 e h Q = lk (look e 0) (fun v0 => wI Try.prog nG (.mv (.const v0)) h fun v9 h => wI Try.prog nG (.nilck (.const v9)) h fun v10 h => wI Try.prog nG (.fld 2 (.const v10)) h fun v11 h => wI Try.prog nG (.load false 1 (.const v11)) h fun v12 h => wI Try.prog nG (.mv (.const v12)) h fun v2 h => Q .normal [(2, v2)] h) () := lkm (wR (Rn rfl fun v9 h => Rn rfl fun v10 h => Rn rfl fun v11 h => Rn rfl fun v12 h => Rn rfl fun v2 h => rfl))
def ir.ref03_In_End : C := (.seq ir.ref03_In_End.r0 (.seq (.seq ir.ref03_In_End.r1 (.cond (.tmp 5) ir.ref03_In_End.r2 .skip)) (.seq ir.ref03_In_End.r3 .ret)))
theorem ir.ref03_In_End.bw (e : Env) (h : AHeap) (Q : Post) : wpC Try.prog nG ir.ref03_In_End e h Q = wpC Try.prog nG (.seq ir.ref03_In_End.r0 (.seq (.seq ir.ref03_In_End.r1 (.cond (.tmp 5) ir.ref03_In_End.r2 .skip)) (.seq ir.ref03_In_End.r3 .ret))) e h Q := (rfl)
def ir.ref03_In_End.rs : List RV := [.tmp 2]
theorem ir.ref03_In_End.ok : resC Try.prog nG 13 ir.ref03_In_End.ks (Try.f16.body.getD .skip) = some ir.ref03_In_End := by kernel_rfl
theorem ir.ref03_In_End.rok : Try.f16.results.toList.mapM (resR Try.prog) = some ir.ref03_In_End.rs := by kernel_rfl
theorem ir.ref03_In_End.spec {args : List Value} {h : AHeap} {v : Value} {h' : AHeap} (hn : args.length ≤ 13) :
    (wpC Try.prog nG ir.ref03_In_End (args.zipIdx.map fun p => (p.2, p.1)) h (retQ ir.ref03_In_End.rs h v h')) → Spec Try.prog nG fn.ref03_In_End args h v h' :=
  Spec.intro (fn := Try.f16) Try.func16 (c := Try.f16.body.getD .skip) (by kernel_rfl) ir.ref03_In_End.ok ir.ref03_In_End.rok hn
attribute [go_sem ↓] ir.ref03_In_End.r0.w ir.ref03_In_End.r1.w ir.ref03_In_End.r2.w ir.ref03_In_End.r3.w
attribute [go_sem] ir.ref03_In_End.rs

/-! ### fingerpost/renew.Message: function 17 -/
def ir.renew_Message.ks : Nat → List Nat := fun
  | 0 => [1, 2]
  | 1 => [2]
  | _ => []
def ir.renew_Message.r0 : C := .region [1, 2] [⟨some 1, .box (.tmp 0), none⟩, ⟨some 2, .new (zrep 16 (.int .u8 0)), none⟩]
theorem ir.renew_Message.r0.w (e : Env) (h : AHeap) (Q : Post) : wpC Try.prog nG ir.renew_Message.r0 e h Q = lk (look e 0) (fun v0 => wI Try.prog nG (.box (.const v0)) h fun v1 h => wI Try.prog nG (.new (zrep 16 (.int .u8 0))) h fun v2 h => Q .normal [(1, v1), (2, v2)] h) () := lkm (wR (Rn rfl fun v1 h => Rn rfl fun v2 h => rfl))
def ir.renew_Message.r1 : C := .region [2] [⟨some 3, .load true 34 (.tmp 1), none⟩, ⟨some 4, .call fn.renew_Record_bytes [.tmp 3], none⟩, ⟨some 5, .row 1 1 [.slice none 0 0] [(0, 1, .tmp 4)], none⟩, ⟨some 6, .call fn.mac_Short [.const (.int .u8 82), .tmp 5], none⟩, ⟨none, .store 16 (.tmp 2) (.tmp 6), none⟩]
theorem ir.renew_Message.r1.w (e : Env) (h : AHeap) (Q : Post) : wpC Try.prog nG ir.renew_Message.r1 e h Q = lk (look e 1) (fun v1 => lk (look e 2) (fun v2 => wI Try.prog nG (.load true 34 (.const v1)) h fun v3 h => wI Try.prog nG (.call fn.renew_Record_bytes [.const v3]) h fun v4 h => wI Try.prog nG (.row 1 1 [.slice none 0 0] [(0, 1, .const v4)]) h fun v5 h => wI Try.prog nG (.call fn.mac_Short [.const (.int .u8 82), .const v5]) h fun v6 h => wI Try.prog nG (.store 16 (.const v2) (.const v6)) h fun _ h => Q .normal [(2, v2)] h) ()) () := lkm (lkm (wR (Rn rfl fun v3 h => Rn rfl fun v4 h => Rn rfl fun v5 h => Rn rfl fun v6 h => Rz rfl fun v_ h => rfl)))
def ir.renew_Message : C := (.seq ir.renew_Message.r0 (.seq ir.renew_Message.r1 .ret))
theorem ir.renew_Message.bw (e : Env) (h : AHeap) (Q : Post) : wpC Try.prog nG ir.renew_Message e h Q = wpC Try.prog nG (.seq ir.renew_Message.r0 (.seq ir.renew_Message.r1 .ret)) e h Q := (rfl)
def ir.renew_Message.rs : List RV := [.cell 2 true 16]
theorem ir.renew_Message.ok : resC Try.prog nG 7 ir.renew_Message.ks (Try.f17.body.getD .skip) = some ir.renew_Message := by kernel_rfl
theorem ir.renew_Message.rok : Try.f17.results.toList.mapM (resR Try.prog) = some ir.renew_Message.rs := by kernel_rfl
theorem ir.renew_Message.spec {args : List Value} {h : AHeap} {v : Value} {h' : AHeap} (hn : args.length ≤ 7) :
    (wpC Try.prog nG ir.renew_Message (args.zipIdx.map fun p => (p.2, p.1)) h (retQ ir.renew_Message.rs h v h')) → Spec Try.prog nG fn.renew_Message args h v h' :=
  Spec.intro (fn := Try.f17) Try.func17 (c := Try.f17.body.getD .skip) (by kernel_rfl) ir.renew_Message.ok ir.renew_Message.rok hn
attribute [go_sem ↓] ir.renew_Message.r0.w ir.renew_Message.r1.w
attribute [go_sem] ir.renew_Message.rs

/-! ### fingerpost/fingerpostref11.Message: function 18 -/
def ir.ref11_Message.ks : Nat → List Nat := fun
  | 0 => [1, 2]
  | 1 => [2]
  | _ => []
def ir.ref11_Message.r0 : C := .region [1, 2] [⟨some 1, .box (.tmp 0), none⟩, ⟨some 2, .new (zrep 16 (.int .u8 0)), none⟩]
theorem ir.ref11_Message.r0.w (e : Env) (h : AHeap) (Q : Post) : wpC Try.prog nG ir.ref11_Message.r0 e h Q = lk (look e 0) (fun v0 => wI Try.prog nG (.box (.const v0)) h fun v1 h => wI Try.prog nG (.new (zrep 16 (.int .u8 0))) h fun v2 h => Q .normal [(1, v1), (2, v2)] h) () := lkm (wR (Rn rfl fun v1 h => Rn rfl fun v2 h => rfl))
def ir.ref11_Message.r1 : C := .region [2] [⟨some 3, .load true 34 (.tmp 1), none⟩, ⟨some 4, .call fn.ref11_Bytes [.tmp 3], none⟩, ⟨some 5, .row 1 1 [.slice none 0 0] [(0, 1, .tmp 4)], none⟩, ⟨some 6, .call fn.ref05_Short [.const (.int .u8 82), .tmp 5], none⟩, ⟨none, .store 16 (.tmp 2) (.tmp 6), none⟩]
theorem ir.ref11_Message.r1.w (e : Env) (h : AHeap) (Q : Post) : wpC Try.prog nG ir.ref11_Message.r1 e h Q = lk (look e 1) (fun v1 => lk (look e 2) (fun v2 => wI Try.prog nG (.load true 34 (.const v1)) h fun v3 h => wI Try.prog nG (.call fn.ref11_Bytes [.const v3]) h fun v4 h => wI Try.prog nG (.row 1 1 [.slice none 0 0] [(0, 1, .const v4)]) h fun v5 h => wI Try.prog nG (.call fn.ref05_Short [.const (.int .u8 82), .const v5]) h fun v6 h => wI Try.prog nG (.store 16 (.const v2) (.const v6)) h fun _ h => Q .normal [(2, v2)] h) ()) () := lkm (lkm (wR (Rn rfl fun v3 h => Rn rfl fun v4 h => Rn rfl fun v5 h => Rn rfl fun v6 h => Rz rfl fun v_ h => rfl)))
def ir.ref11_Message : C := (.seq ir.ref11_Message.r0 (.seq ir.ref11_Message.r1 .ret))
theorem ir.ref11_Message.bw (e : Env) (h : AHeap) (Q : Post) : wpC Try.prog nG ir.ref11_Message e h Q = wpC Try.prog nG (.seq ir.ref11_Message.r0 (.seq ir.ref11_Message.r1 .ret)) e h Q := (rfl)
def ir.ref11_Message.rs : List RV := [.cell 2 true 16]
theorem ir.ref11_Message.ok : resC Try.prog nG 7 ir.ref11_Message.ks (Try.f18.body.getD .skip) = some ir.ref11_Message := by kernel_rfl
theorem ir.ref11_Message.rok : Try.f18.results.toList.mapM (resR Try.prog) = some ir.ref11_Message.rs := by kernel_rfl
theorem ir.ref11_Message.spec {args : List Value} {h : AHeap} {v : Value} {h' : AHeap} (hn : args.length ≤ 7) :
    (wpC Try.prog nG ir.ref11_Message (args.zipIdx.map fun p => (p.2, p.1)) h (retQ ir.ref11_Message.rs h v h')) → Spec Try.prog nG fn.ref11_Message args h v h' :=
  Spec.intro (fn := Try.f18) Try.func18 (c := Try.f18.body.getD .skip) (by kernel_rfl) ir.ref11_Message.ok ir.ref11_Message.rok hn
attribute [go_sem ↓] ir.ref11_Message.r0.w ir.ref11_Message.r1.w
attribute [go_sem] ir.ref11_Message.rs

/-! ### fingerpost/renew.Cost: function 19 -/
def ir.renew_Cost.ks : Nat → List Nat := fun
  | 0 => [1]
  | 1 => [2]
  | _ => []
def ir.renew_Cost.r0 : C := .region [1] [⟨some 1, .box (.tmp 0), none⟩, ⟨some 2, .mv (.const (.int .i64 0)), none⟩]
theorem ir.renew_Cost.r0.w (e : Env) (h : AHeap) (Q : Post) : wpC Try.prog nG ir.renew_Cost.r0 e h Q = lk (look e 0) (fun v0 => wI Try.prog nG (.box (.const v0)) h fun v1 h => wI Try.prog nG (.mv (.const (.int .i64 0))) h fun v2 h => Q .normal [(1, v1)] h) () := lkm (wR (Rn rfl fun v1 h => Rn rfl fun v2 h => rfl))
def ir.renew_Cost.r1 : C := .region [2] [⟨some 3, .load true 34 (.tmp 1), none⟩, ⟨some 4, .call fn.renew_Message [.tmp 3], none⟩, ⟨some 5, .call fn.ots_Cost [.tmp 4], none⟩, ⟨some 6, .bin .add (.const (.int .i64 1)) (.tmp 5), none⟩, ⟨some 2, .mv (.tmp 6), none⟩]
theorem ir.renew_Cost.r1.w (e : Env) (h : AHeap) (Q : Post) : wpC Try.prog nG ir.renew_Cost.r1 e h Q = lk (look e 1) (fun v1 => wI Try.prog nG (.load true 34 (.const v1)) h fun v3 h => wI Try.prog nG (.call fn.renew_Message [.const v3]) h fun v4 h => wI Try.prog nG (.call fn.ots_Cost [.const v4]) h fun v5 h => wI Try.prog nG (.bin .add (.const (.int .i64 1)) (.const v5)) h fun v6 h => wI Try.prog nG (.mv (.const v6)) h fun v2 h => Q .normal [(2, v2)] h) () := lkm (wR (Rn rfl fun v3 h => Rn rfl fun v4 h => Rn rfl fun v5 h => Rn rfl fun v6 h => Rn rfl fun v2 h => rfl))
def ir.renew_Cost : C := (.seq ir.renew_Cost.r0 (.seq ir.renew_Cost.r1 .ret))
theorem ir.renew_Cost.bw (e : Env) (h : AHeap) (Q : Post) : wpC Try.prog nG ir.renew_Cost e h Q = wpC Try.prog nG (.seq ir.renew_Cost.r0 (.seq ir.renew_Cost.r1 .ret)) e h Q := (rfl)
def ir.renew_Cost.rs : List RV := [.tmp 2]
theorem ir.renew_Cost.ok : resC Try.prog nG 7 ir.renew_Cost.ks (Try.f19.body.getD .skip) = some ir.renew_Cost := by kernel_rfl
theorem ir.renew_Cost.rok : Try.f19.results.toList.mapM (resR Try.prog) = some ir.renew_Cost.rs := by kernel_rfl
theorem ir.renew_Cost.spec {args : List Value} {h : AHeap} {v : Value} {h' : AHeap} (hn : args.length ≤ 7) :
    (wpC Try.prog nG ir.renew_Cost (args.zipIdx.map fun p => (p.2, p.1)) h (retQ ir.renew_Cost.rs h v h')) → Spec Try.prog nG fn.renew_Cost args h v h' :=
  Spec.intro (fn := Try.f19) Try.func19 (c := Try.f19.body.getD .skip) (by kernel_rfl) ir.renew_Cost.ok ir.renew_Cost.rok hn
attribute [go_sem ↓] ir.renew_Cost.r0.w ir.renew_Cost.r1.w
attribute [go_sem] ir.renew_Cost.rs

/-! ### fingerpost/fingerpostref10.Cost: function 20 -/
def ir.ref10_Cost.ks : Nat → List Nat := fun
  | 0 => [1]
  | 1 => [3]
  | 2 => [3, 4]
  | 3 => [3, 4, 5]
  | 4 => [3, 4, 5, 9]
  | 5 => [3, 4, 5]
  | 6 => [3, 4, 5]
  | 7 => [2]
  | _ => []
def ir.ref10_Cost.r0 : C := .region [1] [⟨some 1, .box (.tmp 0), none⟩, ⟨some 2, .mv (.const (.int .i64 0)), none⟩]
theorem ir.ref10_Cost.r0.w (e : Env) (h : AHeap) (Q : Post) : wpC Try.prog nG ir.ref10_Cost.r0 e h Q = lk (look e 0) (fun v0 => wI Try.prog nG (.box (.const v0)) h fun v1 h => wI Try.prog nG (.mv (.const (.int .i64 0))) h fun v2 h => Q .normal [(1, v1)] h) () := lkm (wR (Rn rfl fun v1 h => Rn rfl fun v2 h => rfl))
def ir.ref10_Cost.r1 : C := .region [3] [⟨some 6, .load true 16 (.tmp 1), none⟩, ⟨some 7, .call fn.ref10_Digits [.tmp 6], none⟩, ⟨some 3, .new (zrep 68 (.int .u8 0)), none⟩, ⟨none, .store 68 (.tmp 3) (.tmp 7), none⟩]
theorem ir.ref10_Cost.r1.w (e : Env) (h : AHeap) (Q : Post) : wpC Try.prog nG ir.ref10_Cost.r1 e h Q = lk (look e 1) (fun v1 => wI Try.prog nG (.load true 16 (.const v1)) h fun v6 h => wI Try.prog nG (.call fn.ref10_Digits [.const v6]) h fun v7 h => wI Try.prog nG (.new (zrep 68 (.int .u8 0))) h fun v3 h => wI Try.prog nG (.store 68 (.const v3) (.const v7)) h fun _ h => Q .normal [(3, v3)] h) () := lkm (wR (Rn rfl fun v6 h => Rn rfl fun v7 h => Rn rfl fun v3 h => Rz rfl fun v_ h => rfl))
def ir.ref10_Cost.r2 : C := .region [3, 4] [⟨some 4, .mv (.const (.int .i64 18)), none⟩]
theorem ir.ref10_Cost.r2.w (e : Env) (h : AHeap) (Q : Post) : wpC Try.prog nG ir.ref10_Cost.r2 e h Q = lk (look e 3) (fun v3 => wI Try.prog nG (.mv (.const (.int .i64 18))) h fun v4 h => Q .normal [(3, v3), (4, v4)] h) () := lkm (wR (Rn rfl fun v4 h => rfl))
def ir.ref10_Cost.r3 : C := .region [3, 4, 5] [⟨some 5, .mv (.const (.int .i64 0)), none⟩]
theorem ir.ref10_Cost.r3.w (e : Env) (h : AHeap) (Q : Post) : wpC Try.prog nG ir.ref10_Cost.r3 e h Q = lk (look e 3) (fun v3 => lk (look e 4) (fun v4 => wI Try.prog nG (.mv (.const (.int .i64 0))) h fun v5 h => Q .normal [(3, v3), (4, v4), (5, v5)] h) ()) () := lkm (lkm (wR (Rn rfl fun v5 h => rfl)))
def ir.ref10_Cost.r4 : C := .region [3, 4, 5, 9] [⟨some 8, .mv (.tmp 5), none⟩, ⟨some 9, .bin .lss (.tmp 8) (.const (.int .i64 68)), none⟩]
theorem ir.ref10_Cost.r4.w (e : Env) (h : AHeap) (Q : Post) : wpC Try.prog nG ir.ref10_Cost.r4 e h Q = lk (look e 3) (fun v3 => lk (look e 4) (fun v4 => lk (look e 5) (fun v5 => wI Try.prog nG (.mv (.const v5)) h fun v8 h => wI Try.prog nG (.bin .lss (.const v8) (.const (.int .i64 68))) h fun v9 h => Q .normal [(3, v3), (4, v4), (5, v5), (9, v9)] h) ()) ()) () := lkm (lkm (lkm (wR (Rn rfl fun v8 h => Rn rfl fun v9 h => rfl))))
def ir.ref10_Cost.r6 : C := .region [3, 4, 5] [⟨some 12, .mv (.tmp 4), none⟩, ⟨some 13, .bin .add (.tmp 12) (.const (.int .i64 3)), none⟩, ⟨some 14, .mv (.tmp 5), none⟩, ⟨some 15, .ixa 68 1 (.tmp 3) (.tmp 14), none⟩, ⟨some 16, .load false 1 (.tmp 15), none⟩, ⟨some 17, .conv .i64 (.tmp 16), none⟩, ⟨some 18, .bin .sub (.tmp 13) (.tmp 17), none⟩, ⟨some 4, .mv (.tmp 18), none⟩]
theorem ir.ref10_Cost.r6.w (e : Env) (h : AHeap) (Q : Post) : wpC Try.prog nG ir.ref10_Cost.r6 e h Q = lk (look e 3) (fun v3 => lk (look e 4) (fun v4 => lk (look e 5) (fun v5 => wI Try.prog nG (.mv (.const v4)) h fun v12 h => wI Try.prog nG (.bin .add (.const v12) (.const (.int .i64 3))) h fun v13 h => wI Try.prog nG (.mv (.const v5)) h fun v14 h => wI Try.prog nG (.ixa 68 1 (.const v3) (.const v14)) h fun v15 h => wI Try.prog nG (.load false 1 (.const v15)) h fun v16 h => wI Try.prog nG (.conv .i64 (.const v16)) h fun v17 h => wI Try.prog nG (.bin .sub (.const v13) (.const v17)) h fun v18 h => wI Try.prog nG (.mv (.const v18)) h fun v4 h => Q .normal [(3, v3), (4, v4), (5, v5)] h) ()) ()) () := lkm (lkm (lkm (wR (Rn rfl fun v12 h => Rn rfl fun v13 h => Rn rfl fun v14 h => Rn rfl fun v15 h => Rn rfl fun v16 h => Rn rfl fun v17 h => Rn rfl fun v18 h => Rn rfl fun v4 h => rfl))))
def ir.ref10_Cost.r5 : C := .region [3, 4, 5] [⟨some 10, .mv (.tmp 5), none⟩, ⟨some 11, .bin .add (.tmp 10) (.const (.int .i64 1)), none⟩, ⟨some 5, .mv (.tmp 11), none⟩]
theorem ir.ref10_Cost.r5.w (e : Env) (h : AHeap) (Q : Post) : wpC Try.prog nG ir.ref10_Cost.r5 e h Q = lk (look e 3) (fun v3 => lk (look e 4) (fun v4 => lk (look e 5) (fun v5 => wI Try.prog nG (.mv (.const v5)) h fun v10 h => wI Try.prog nG (.bin .add (.const v10) (.const (.int .i64 1))) h fun v11 h => wI Try.prog nG (.mv (.const v11)) h fun v5 h => Q .normal [(3, v3), (4, v4), (5, v5)] h) ()) ()) () := lkm (lkm (lkm (wR (Rn rfl fun v10 h => Rn rfl fun v11 h => Rn rfl fun v5 h => rfl))))
def ir.ref10_Cost.l1.b : C := (.seq (.seq ir.ref10_Cost.r4 (.cond (.tmp 9) .skip (.exit 0))) (.seq (.block 1 ir.ref10_Cost.r6) ir.ref10_Cost.r5))
theorem ir.ref10_Cost.l1.bw (e : Env) (h : AHeap) (Q : Post) : wpC Try.prog nG ir.ref10_Cost.l1.b e h Q = wpC Try.prog nG (.seq (.seq ir.ref10_Cost.r4 (.cond (.tmp 9) .skip (.exit 0))) (.seq (.block 1 ir.ref10_Cost.r6) ir.ref10_Cost.r5)) e h Q := (rfl)
def ir.ref10_Cost.l1 : C := .loop ir.ref10_Cost.l1.b
theorem ir.ref10_Cost.l1.w (e : Env) (h : AHeap) (Q : Post) : wpC Try.prog nG ir.ref10_Cost.l1 e h Q = loopV Try.prog nG ir.ref10_Cost.l1.b e h Q () := (rfl)
def ir.ref10_Cost.r7 : C := .region [2] [⟨some 19, .mv (.tmp 4), none⟩, ⟨some 2, .mv (.tmp 19), none⟩]
theorem ir.ref10_Cost.r7.w (e : Env) (h : AHeap) (Q : Post) : wpC Try.prog nG ir.ref10_Cost.r7 e h Q = lk (look e 4) (fun v4 => wI Try.prog nG (.mv (.const v4)) h fun v19 h => wI Try.prog nG (.mv (.const v19)) h fun v2 h => Q .normal [(2, v2)] h) () := lkm (wR (Rn rfl fun v19 h => Rn rfl fun v2 h => rfl))
def ir.ref10_Cost : C := (.seq ir.ref10_Cost.r0 (.seq ir.ref10_Cost.r1 (.seq ir.ref10_Cost.r2 (.seq (.seq ir.ref10_Cost.r3 (.block 0 ir.ref10_Cost.l1)) (.seq ir.ref10_Cost.r7 .ret)))))
theorem ir.ref10_Cost.bw (e : Env) (h : AHeap) (Q : Post) : wpC Try.prog nG ir.ref10_Cost e h Q = wpC Try.prog nG (.seq ir.ref10_Cost.r0 (.seq ir.ref10_Cost.r1 (.seq ir.ref10_Cost.r2 (.seq (.seq ir.ref10_Cost.r3 (.block 0 ir.ref10_Cost.l1)) (.seq ir.ref10_Cost.r7 .ret))))) e h Q := (rfl)
def ir.ref10_Cost.rs : List RV := [.tmp 2]
theorem ir.ref10_Cost.ok : resC Try.prog nG 20 ir.ref10_Cost.ks (Try.f20.body.getD .skip) = some ir.ref10_Cost := by kernel_rfl
theorem ir.ref10_Cost.rok : Try.f20.results.toList.mapM (resR Try.prog) = some ir.ref10_Cost.rs := by kernel_rfl
theorem ir.ref10_Cost.spec {args : List Value} {h : AHeap} {v : Value} {h' : AHeap} (hn : args.length ≤ 20) :
    (wpC Try.prog nG ir.ref10_Cost (args.zipIdx.map fun p => (p.2, p.1)) h (retQ ir.ref10_Cost.rs h v h')) → Spec Try.prog nG fn.ref10_Cost args h v h' :=
  Spec.intro (fn := Try.f20) Try.func20 (c := Try.f20.body.getD .skip) (by kernel_rfl) ir.ref10_Cost.ok ir.ref10_Cost.rok hn
attribute [go_sem ↓] ir.ref10_Cost.r0.w ir.ref10_Cost.r1.w ir.ref10_Cost.r2.w ir.ref10_Cost.r3.w ir.ref10_Cost.r4.w ir.ref10_Cost.r6.w ir.ref10_Cost.r5.w ir.ref10_Cost.l1.w ir.ref10_Cost.r7.w
attribute [go_sem] ir.ref10_Cost.rs

/-! ### (*fingerpost/field.Out).U8: function 32 -/
def ir.field_Out_U8.ks : Nat → List Nat := fun
  | 0 => []
  | _ => []
def ir.field_Out_U8.r0 : C := .region [] [⟨some 4, .mv (.tmp 0), none⟩, ⟨some 5, .mv (.tmp 1), none⟩, ⟨some 6, .call fn.field_Out_put [.tmp 4, .tmp 5, .const (.int .i64 1)], none⟩]
theorem ir.field_Out_U8.r0.w (e : Env) (h : AHeap) (Q : Post) : wpC Try.prog nG ir.field_Out_U8.r0 e h Q = lk (look e 0) (fun v0 => lk (look e 1) (fun v1 => wI Try.prog nG (.mv (.const v0)) h fun v4 h => wI Try.prog nG (.mv (.const v1)) h fun v5 h => wI Try.prog nG (.call fn.field_Out_put [.const v4, .const v5, .const (.int .i64 1)]) h fun v6 h => Q .normal [] h) ()) () := lkm (lkm (wR (Rn rfl fun v4 h => Rn rfl fun v5 h => Rn rfl fun v6 h => rfl)))
def ir.field_Out_U8 : C := ir.field_Out_U8.r0
theorem ir.field_Out_U8.bw (e : Env) (h : AHeap) (Q : Post) : wpC Try.prog nG ir.field_Out_U8 e h Q = wpC Try.prog nG ir.field_Out_U8.r0 e h Q := (rfl)
def ir.field_Out_U8.rs : List RV := []
theorem ir.field_Out_U8.ok : resC Try.prog nG 7 ir.field_Out_U8.ks (Try.f32.body.getD .skip) = some ir.field_Out_U8 := by kernel_rfl
theorem ir.field_Out_U8.rok : Try.f32.results.toList.mapM (resR Try.prog) = some ir.field_Out_U8.rs := by kernel_rfl
theorem ir.field_Out_U8.spec {args : List Value} {h : AHeap} {v : Value} {h' : AHeap} (hn : args.length ≤ 7) :
    (wpC Try.prog nG ir.field_Out_U8 (args.zipIdx.map fun p => (p.2, p.1)) h (retQ ir.field_Out_U8.rs h v h')) → Spec Try.prog nG fn.field_Out_U8 args h v h' :=
  Spec.intro (fn := Try.f32) Try.func32 (c := Try.f32.body.getD .skip) (by kernel_rfl) ir.field_Out_U8.ok ir.field_Out_U8.rok hn
attribute [go_sem ↓] ir.field_Out_U8.r0.w
attribute [go_sem] ir.field_Out_U8.rs

/-! ### (*fingerpost/field.Out).U32: function 33 -/
def ir.field_Out_U32.ks : Nat → List Nat := fun
  | 0 => []
  | _ => []
def ir.field_Out_U32.r0 : C := .region [] [⟨some 4, .mv (.tmp 0), none⟩, ⟨some 5, .mv (.tmp 1), none⟩, ⟨some 6, .call fn.field_Out_put [.tmp 4, .tmp 5, .const (.int .i64 4)], none⟩]
theorem ir.field_Out_U32.r0.w (e : Env) (h : AHeap) (Q : Post) : wpC Try.prog nG ir.field_Out_U32.r0 e h Q = lk (look e 0) (fun v0 => lk (look e 1) (fun v1 => wI Try.prog nG (.mv (.const v0)) h fun v4 h => wI Try.prog nG (.mv (.const v1)) h fun v5 h => wI Try.prog nG (.call fn.field_Out_put [.const v4, .const v5, .const (.int .i64 4)]) h fun v6 h => Q .normal [] h) ()) () := lkm (lkm (wR (Rn rfl fun v4 h => Rn rfl fun v5 h => Rn rfl fun v6 h => rfl)))
def ir.field_Out_U32 : C := ir.field_Out_U32.r0
theorem ir.field_Out_U32.bw (e : Env) (h : AHeap) (Q : Post) : wpC Try.prog nG ir.field_Out_U32 e h Q = wpC Try.prog nG ir.field_Out_U32.r0 e h Q := (rfl)
def ir.field_Out_U32.rs : List RV := []
theorem ir.field_Out_U32.ok : resC Try.prog nG 7 ir.field_Out_U32.ks (Try.f33.body.getD .skip) = some ir.field_Out_U32 := by kernel_rfl
theorem ir.field_Out_U32.rok : Try.f33.results.toList.mapM (resR Try.prog) = some ir.field_Out_U32.rs := by kernel_rfl
theorem ir.field_Out_U32.spec {args : List Value} {h : AHeap} {v : Value} {h' : AHeap} (hn : args.length ≤ 7) :
    (wpC Try.prog nG ir.field_Out_U32 (args.zipIdx.map fun p => (p.2, p.1)) h (retQ ir.field_Out_U32.rs h v h')) → Spec Try.prog nG fn.field_Out_U32 args h v h' :=
  Spec.intro (fn := Try.f33) Try.func33 (c := Try.f33.body.getD .skip) (by kernel_rfl) ir.field_Out_U32.ok ir.field_Out_U32.rok hn
attribute [go_sem ↓] ir.field_Out_U32.r0.w
attribute [go_sem] ir.field_Out_U32.rs

/-! ### (*fingerpost/field.Out).Sum: function 34 -/
def ir.field_Out_Sum.ks : Nat → List Nat := fun
  | 0 => [0, 3]
  | 1 => [0, 3, 5]
  | 2 => []
  | _ => []
def ir.field_Out_Sum.r0 : C := .region [0, 3] [⟨some 3, .box (.tmp 1), none⟩]
theorem ir.field_Out_Sum.r0.w (e : Env) (h : AHeap) (Q : Post) : wpC Try.prog nG ir.field_Out_Sum.r0 e h Q = lk (look e 0) (fun v0 => lk (look e 1) (fun v1 => wI Try.prog nG (.box (.const v1)) h fun v3 h => Q .normal [(0, v0), (3, v3)] h) ()) () := lkm (lkm (wR (Rn rfl fun v3 h => rfl)))
def ir.field_Out_Sum.r1 : C := .region [0, 3, 5] [⟨some 4, .mv (.tmp 0), none⟩, ⟨some 5, .eqn 0 true (.tmp 4), none⟩]
theorem ir.field_Out_Sum.r1.w (e : Env) (h : AHeap) (Q : Post) : wpC Try.prog nG ir.field_Out_Sum.r1 e h Q = lk (look e 0) (fun v0 => lk (look e 3) (fun v3 => wI Try.prog nG (.mv (.const v0)) h fun v4 h => wI Try.prog nG (.eqn 0 true (.const v4)) h fun v5 h => Q .normal [(0, v0), (3, v3), (5, v5)] h) ()) () := lkm (lkm (wR (Rn rfl fun v4 h => Rn rfl fun v5 h => rfl)))
def ir.field_Out_Sum.r2 : C := .draw [] [⟨some 6, .mv (.tmp 0), none⟩, ⟨some 7, .mv (.tmp 0), none⟩, ⟨some 8, .nilck (.tmp 7), none⟩, ⟨some 9, .fld 0 (.tmp 8), none⟩, ⟨some 10, .load false 1 (.tmp 9), none⟩, ⟨some 11, .sla 16 1 (.tmp 3) none none, none⟩, ⟨some 12, .app false 1 1 (.tmp 10) (.tmp 11), none⟩, ⟨some 13, .nilck (.tmp 6), none⟩, ⟨some 14, .fld 0 (.tmp 13), none⟩, ⟨none, .store 1 (.tmp 14) (.tmp 12), none⟩]
theorem ir.field_Out_Sum.r2.w (e : Env) (h : AHeap) (Q : Post) : wpC Try.prog nG ir.field_Out_Sum.r2 e h Q = lk (look e 0) (fun v0 => lk (look e 3) (fun v3 => wI Try.prog nG (.mv (.const v0)) h fun v6 h => wI Try.prog nG (.mv (.const v0)) h fun v7 h => wI Try.prog nG (.nilck (.const v7)) h fun v8 h => wI Try.prog nG (.fld 0 (.const v8)) h fun v9 h => wI Try.prog nG (.load false 1 (.const v9)) h fun v10 h => wI Try.prog nG (.sla 16 1 (.const v3) none none) h fun v11 h => wI Try.prog nG (.app false 1 1 (.const v10) (.const v11)) h fun v12 h => wI Try.prog nG (.nilck (.const v6)) h fun v13 h => wI Try.prog nG (.fld 0 (.const v13)) h fun v14 h => wI Try.prog nG (.store 1 (.const v14) (.const v12)) h fun _ h => Q .normal [] h) ()) () := lkm (lkm (wDr (Dn rfl rfl fun v6 h => Dn rfl rfl fun v7 h => Dn rfl rfl fun v8 h => Dn rfl rfl fun v9 h => Dn rfl rfl fun v10 h => Dn rfl rfl fun v11 h => Dn rfl rfl fun v12 h => Dn rfl rfl fun v13 h => Dn rfl rfl fun v14 h => Dz rfl rfl fun v_ h => rfl)))
def ir.field_Out_Sum : C := (.seq ir.field_Out_Sum.r0 (.seq ir.field_Out_Sum.r1 (.cond (.tmp 5) ir.field_Out_Sum.r2 .skip)))
theorem ir.field_Out_Sum.bw (e : Env) (h : AHeap) (Q : Post) : wpC Try.prog nG ir.field_Out_Sum e h Q = wpC Try.prog nG (.seq ir.field_Out_Sum.r0 (.seq ir.field_Out_Sum.r1 (.cond (.tmp 5) ir.field_Out_Sum.r2 .skip))) e h Q := (rfl)
def ir.field_Out_Sum.rs : List RV := []
theorem ir.field_Out_Sum.ok : resC Try.prog nG 15 ir.field_Out_Sum.ks (Try.f34.body.getD .skip) = some ir.field_Out_Sum := by kernel_rfl
theorem ir.field_Out_Sum.rok : Try.f34.results.toList.mapM (resR Try.prog) = some ir.field_Out_Sum.rs := by kernel_rfl
theorem ir.field_Out_Sum.spec {args : List Value} {h : AHeap} {v : Value} {h' : AHeap} (hn : args.length ≤ 15) :
    (wpC Try.prog nG ir.field_Out_Sum (args.zipIdx.map fun p => (p.2, p.1)) h (retQ ir.field_Out_Sum.rs h v h')) → Spec Try.prog nG fn.field_Out_Sum args h v h' :=
  Spec.intro (fn := Try.f34) Try.func34 (c := Try.f34.body.getD .skip) (by kernel_rfl) ir.field_Out_Sum.ok ir.field_Out_Sum.rok hn
attribute [go_sem ↓] ir.field_Out_Sum.r0.w ir.field_Out_Sum.r1.w ir.field_Out_Sum.r2.w
attribute [go_sem] ir.field_Out_Sum.rs

/-! ### (*fingerpost/field.In).U8: function 36 -/
def ir.field_In_U8.ks : Nat → List Nat := fun
  | 0 => [0]
  | 1 => [2]
  | _ => []
def ir.field_In_U8.r0 : C := .region [0] [⟨some 2, .mv (.const (.int .u64 0)), none⟩]
theorem ir.field_In_U8.r0.w (e : Env) (h : AHeap) (Q : Post) : wpC Try.prog nG ir.field_In_U8.r0 e h Q = lk (look e 0) (fun v0 => wI Try.prog nG (.mv (.const (.int .u64 0))) h fun v2 h => Q .normal [(0, v0)] h) () := lkm (wR (Rn rfl fun v2 h => rfl))
def ir.field_In_U8.r1 : C := .region [2] [⟨some 3, .mv (.tmp 0), none⟩, ⟨some 4, .call fn.field_In_num [.tmp 3, .const (.int .i64 1)], none⟩, ⟨some 2, .mv (.tmp 4), none⟩]
theorem ir.field_In_U8.r1.w (e : Env) (h : AHeap) (Q : Post) : wpC Try.prog nG ir.field_In_U8.r1 e h Q = lk (look e 0) (fun v0 => wI Try.prog nG (.mv (.const v0)) h fun v3 h => wI Try.prog nG (.call fn.field_In_num [.const v3, .const (.int .i64 1)]) h fun v4 h => wI Try.prog nG (.mv (.const v4)) h fun v2 h => Q .normal [(2, v2)] h) () := lkm (wR (Rn rfl fun v3 h => Rn rfl fun v4 h => Rn rfl fun v2 h => rfl))
def ir.field_In_U8 : C := (.seq ir.field_In_U8.r0 (.seq ir.field_In_U8.r1 .ret))
theorem ir.field_In_U8.bw (e : Env) (h : AHeap) (Q : Post) : wpC Try.prog nG ir.field_In_U8 e h Q = wpC Try.prog nG (.seq ir.field_In_U8.r0 (.seq ir.field_In_U8.r1 .ret)) e h Q := (rfl)
def ir.field_In_U8.rs : List RV := [.tmp 2]
theorem ir.field_In_U8.ok : resC Try.prog nG 5 ir.field_In_U8.ks (Try.f36.body.getD .skip) = some ir.field_In_U8 := by kernel_rfl
theorem ir.field_In_U8.rok : Try.f36.results.toList.mapM (resR Try.prog) = some ir.field_In_U8.rs := by kernel_rfl
theorem ir.field_In_U8.spec {args : List Value} {h : AHeap} {v : Value} {h' : AHeap} (hn : args.length ≤ 5) :
    (wpC Try.prog nG ir.field_In_U8 (args.zipIdx.map fun p => (p.2, p.1)) h (retQ ir.field_In_U8.rs h v h')) → Spec Try.prog nG fn.field_In_U8 args h v h' :=
  Spec.intro (fn := Try.f36) Try.func36 (c := Try.f36.body.getD .skip) (by kernel_rfl) ir.field_In_U8.ok ir.field_In_U8.rok hn
attribute [go_sem ↓] ir.field_In_U8.r0.w ir.field_In_U8.r1.w
attribute [go_sem] ir.field_In_U8.rs

/-! ### (*fingerpost/field.In).U32: function 37 -/
def ir.field_In_U32.ks : Nat → List Nat := fun
  | 0 => [0]
  | 1 => [2]
  | _ => []
def ir.field_In_U32.r0 : C := .region [0] [⟨some 2, .mv (.const (.int .u64 0)), none⟩]
theorem ir.field_In_U32.r0.w (e : Env) (h : AHeap) (Q : Post) : wpC Try.prog nG ir.field_In_U32.r0 e h Q = lk (look e 0) (fun v0 => wI Try.prog nG (.mv (.const (.int .u64 0))) h fun v2 h => Q .normal [(0, v0)] h) () := lkm (wR (Rn rfl fun v2 h => rfl))
def ir.field_In_U32.r1 : C := .region [2] [⟨some 3, .mv (.tmp 0), none⟩, ⟨some 4, .call fn.field_In_num [.tmp 3, .const (.int .i64 4)], none⟩, ⟨some 2, .mv (.tmp 4), none⟩]
theorem ir.field_In_U32.r1.w (e : Env) (h : AHeap) (Q : Post) : wpC Try.prog nG ir.field_In_U32.r1 e h Q = lk (look e 0) (fun v0 => wI Try.prog nG (.mv (.const v0)) h fun v3 h => wI Try.prog nG (.call fn.field_In_num [.const v3, .const (.int .i64 4)]) h fun v4 h => wI Try.prog nG (.mv (.const v4)) h fun v2 h => Q .normal [(2, v2)] h) () := lkm (wR (Rn rfl fun v3 h => Rn rfl fun v4 h => Rn rfl fun v2 h => rfl))
def ir.field_In_U32 : C := (.seq ir.field_In_U32.r0 (.seq ir.field_In_U32.r1 .ret))
theorem ir.field_In_U32.bw (e : Env) (h : AHeap) (Q : Post) : wpC Try.prog nG ir.field_In_U32 e h Q = wpC Try.prog nG (.seq ir.field_In_U32.r0 (.seq ir.field_In_U32.r1 .ret)) e h Q := (rfl)
def ir.field_In_U32.rs : List RV := [.tmp 2]
theorem ir.field_In_U32.ok : resC Try.prog nG 5 ir.field_In_U32.ks (Try.f37.body.getD .skip) = some ir.field_In_U32 := by kernel_rfl
theorem ir.field_In_U32.rok : Try.f37.results.toList.mapM (resR Try.prog) = some ir.field_In_U32.rs := by kernel_rfl
theorem ir.field_In_U32.spec {args : List Value} {h : AHeap} {v : Value} {h' : AHeap} (hn : args.length ≤ 5) :
    (wpC Try.prog nG ir.field_In_U32 (args.zipIdx.map fun p => (p.2, p.1)) h (retQ ir.field_In_U32.rs h v h')) → Spec Try.prog nG fn.field_In_U32 args h v h' :=
  Spec.intro (fn := Try.f37) Try.func37 (c := Try.f37.body.getD .skip) (by kernel_rfl) ir.field_In_U32.ok ir.field_In_U32.rok hn
attribute [go_sem ↓] ir.field_In_U32.r0.w ir.field_In_U32.r1.w
attribute [go_sem] ir.field_In_U32.rs

/-! ### (*fingerpost/field.In).Sum: function 38 -/
def ir.field_In_Sum.ks : Nat → List Nat := fun
  | 0 => [0, 2]
  | 1 => [0, 2, 3]
  | 2 => [2, 3]
  | 3 => [2]
  | 300002 => [1]
  | _ => []
def ir.field_In_Sum.r0 : C := .region [0, 2] [⟨some 2, .new (zrep 16 (.int .u8 0)), none⟩]
theorem ir.field_In_Sum.r0.w (e : Env) (h : AHeap) (Q : Post) : wpC Try.prog nG ir.field_In_Sum.r0 e h Q = lk (look e 0) (fun v0 => wI Try.prog nG (.new (zrep 16 (.int .u8 0))) h fun v2 h => Q .normal [(0, v0), (2, v2)] h) () := lkm (wR (Rn rfl fun v2 h => rfl))
def ir.field_In_Sum.r1 : C := .region [0, 2, 3] [⟨some 3, .new (zrep 16 (.int .u8 0)), none⟩]
theorem ir.field_In_Sum.r1.w (e : Env) (h : AHeap) (Q : Post) : wpC Try.prog nG ir.field_In_Sum.r1 e h Q = lk (look e 0) (fun v0 => lk (look e 2) (fun v2 => wI Try.prog nG (.new (zrep 16 (.int .u8 0))) h fun v3 h => Q .normal [(0, v0), (2, v2), (3, v3)] h) ()) () := lkm (lkm (wR (Rn rfl fun v3 h => rfl)))
def ir.field_In_Sum.r2 : C := .any [2, 3] [⟨some 4, .sla 16 1 (.tmp 3) none none, none⟩, ⟨some 5, .mv (.tmp 0), none⟩, ⟨some 6, .call fn.field_In_next [.tmp 5, .const (.int .i64 16)], none⟩, ⟨some 7, .cpy 1 (.tmp 4) (.tmp 6), none⟩] [[], [], [1], [0, 2, 2]]
theorem ir.field_In_Sum.r2.w (e : Env) (h : AHeap) (Q : Post) : wpC Try.prog nG ir.field_In_Sum.r2 e h Q = anyV Try.prog nG [2, 3] [⟨some 4, .sla 16 1 (.tmp 3) none none, none⟩, ⟨some 5, .mv (.tmp 0), none⟩, ⟨some 6, .call fn.field_In_next [.tmp 5, .const (.int .i64 16)], none⟩, ⟨some 7, .cpy 1 (.tmp 4) (.tmp 6), none⟩] [[], [], [1], [0, 2, 2]] e h Q () := (rfl)
def ir.field_In_Sum.r3 : C := .region [2] [⟨some 8, .load true 16 (.tmp 3), none⟩, ⟨none, .store 16 (.tmp 2) (.tmp 8), none⟩]
theorem ir.field_In_Sum.r3.w (e : Env) (h : AHeap) (Q : Post) : wpC Try.prog nG ir.field_In_Sum.r3 e h Q = lk (look e 2) (fun v2 => lk (look e 3) (fun v3 => wI Try.prog nG (.load true 16 (.const v3)) h fun v8 h => wI Try.prog nG (.store 16 (.const v2) (.const v8)) h fun _ h => Q .normal [(2, v2)] h) ()) () := lkm (lkm (wR (Rn rfl fun v8 h => Rz rfl fun v_ h => rfl)))
def ir.field_In_Sum : C := (.seq ir.field_In_Sum.r0 (.seq ir.field_In_Sum.r1 (.seq ir.field_In_Sum.r2 (.seq ir.field_In_Sum.r3 .ret))))
theorem ir.field_In_Sum.bw (e : Env) (h : AHeap) (Q : Post) : wpC Try.prog nG ir.field_In_Sum e h Q = wpC Try.prog nG (.seq ir.field_In_Sum.r0 (.seq ir.field_In_Sum.r1 (.seq ir.field_In_Sum.r2 (.seq ir.field_In_Sum.r3 .ret)))) e h Q := (rfl)
def ir.field_In_Sum.rs : List RV := [.cell 2 true 16]
theorem ir.field_In_Sum.ok : resC Try.prog nG 9 ir.field_In_Sum.ks (Try.f38.body.getD .skip) = some ir.field_In_Sum := by kernel_rfl
theorem ir.field_In_Sum.rok : Try.f38.results.toList.mapM (resR Try.prog) = some ir.field_In_Sum.rs := by kernel_rfl
theorem ir.field_In_Sum.spec {args : List Value} {h : AHeap} {v : Value} {h' : AHeap} (hn : args.length ≤ 9) :
    (wpC Try.prog nG ir.field_In_Sum (args.zipIdx.map fun p => (p.2, p.1)) h (retQ ir.field_In_Sum.rs h v h')) → Spec Try.prog nG fn.field_In_Sum args h v h' :=
  Spec.intro (fn := Try.f38) Try.func38 (c := Try.f38.body.getD .skip) (by kernel_rfl) ir.field_In_Sum.ok ir.field_In_Sum.rok hn
attribute [go_sem ↓] ir.field_In_Sum.r0.w ir.field_In_Sum.r1.w ir.field_In_Sum.r2.w ir.field_In_Sum.r3.w
attribute [go_sem] ir.field_In_Sum.rs

/-! ### (*fingerpost/field.In).Err: function 39 -/
def ir.field_In_Err.ks : Nat → List Nat := fun
  | 0 => [0]
  | 1 => [0, 4]
  | 2 => [2]
  | 3 => [2]
  | _ => []
def ir.field_In_Err.r0 : C := .region [0] [⟨some 2, .mv (.const (.int .i64 0)), none⟩]
theorem ir.field_In_Err.r0.w (e : Env) (h : AHeap) (Q : Post) : wpC Try.prog nG ir.field_In_Err.r0 e h Q = lk (look e 0) (fun v0 => wI Try.prog nG (.mv (.const (.int .i64 0))) h fun v2 h => Q .normal [(0, v0)] h) () := lkm (wR (Rn rfl fun v2 h => rfl))
def ir.field_In_Err.r1 : C := .region [0, 4] [⟨some 3, .mv (.tmp 0), none⟩, ⟨some 4, .eqn 0 false (.tmp 3), none⟩]
theorem ir.field_In_Err.r1.w (e : Env) (h : AHeap) (Q : Post) : wpC Try.prog nG ir.field_In_Err.r1 e h Q = lk (look e 0) (fun v0 => wI Try.prog nG (.mv (.const v0)) h fun v3 h => wI Try.prog nG (.eqn 0 false (.const v3)) h fun v4 h => Q .normal [(0, v0), (4, v4)] h) () := lkm (wR (Rn rfl fun v3 h => Rn rfl fun v4 h => rfl))
def ir.field_In_Err.r2 : C := .region [2] [⟨some 2, .mv (.const (.int .i64 2)), none⟩]
theorem ir.field_In_Err.r2.w (e : Env) (h : AHeap) (Q : Post) : wpC Try.prog nG ir.field_In_Err.r2 e h Q = wI Try.prog nG (.mv (.const (.int .i64 2))) h fun v2 h => Q .normal [(2, v2)] h := wR (Rn rfl fun v2 h => rfl)
def ir.field_In_Err.r3 : C := .region [2] [⟨some 5, .mv (.tmp 0), none⟩, ⟨some 6, .nilck (.tmp 5), none⟩, ⟨some 7, .fld 1 (.tmp 6), none⟩, ⟨some 8, .load false 1 (.tmp 7), none⟩, ⟨some 2, .mv (.tmp 8), none⟩]
theorem ir.field_In_Err.r3.w (e : Env) (h : AHeap) (Q : Post) : wpC Try.prog nG ir.field_In_Err.r3 e h Q = lk (look e 0) (fun v0 => wI Try.prog nG (.mv (.const v0)) h fun v5 h => wI Try.prog nG (.nilck (.const v5)) h fun v6 h => wI Try.prog nG (.fld 1 (.const v6)) h fun v7 h => wI Try.prog nG (.load false 1 (.const v7)) h fun v8 h => wI Try.prog nG (.mv (.const v8)) h fun v2 h => Q .normal [(2, v2)] h) () := lkm (wR (Rn rfl fun v5 h => Rn rfl fun v6 h => Rn rfl fun v7 h => Rn rfl fun v8 h => Rn rfl fun v2 h => rfl))
def ir.field_In_Err : C := (.seq ir.field_In_Err.r0 (.seq (.seq ir.field_In_Err.r1 (.cond (.tmp 4) (.seq ir.field_In_Err.r2 .ret) .skip)) (.seq ir.field_In_Err.r3 .ret)))
theorem ir.field_In_Err.bw (e : Env) (h : AHeap) (Q : Post) : wpC Try.prog nG ir.field_In_Err e h Q = wpC Try.prog nG (.seq ir.field_In_Err.r0 (.seq (.seq ir.field_In_Err.r1 (.cond (.tmp 4) (.seq ir.field_In_Err.r2 .ret) .skip)) (.seq ir.field_In_Err.r3 .ret))) e h Q := (rfl)
def ir.field_In_Err.rs : List RV := [.tmp 2]
theorem ir.field_In_Err.ok : resC Try.prog nG 9 ir.field_In_Err.ks (Try.f39.body.getD .skip) = some ir.field_In_Err := by kernel_rfl
theorem ir.field_In_Err.rok : Try.f39.results.toList.mapM (resR Try.prog) = some ir.field_In_Err.rs := by kernel_rfl
theorem ir.field_In_Err.spec {args : List Value} {h : AHeap} {v : Value} {h' : AHeap} (hn : args.length ≤ 9) :
    (wpC Try.prog nG ir.field_In_Err (args.zipIdx.map fun p => (p.2, p.1)) h (retQ ir.field_In_Err.rs h v h')) → Spec Try.prog nG fn.field_In_Err args h v h' :=
  Spec.intro (fn := Try.f39) Try.func39 (c := Try.f39.body.getD .skip) (by kernel_rfl) ir.field_In_Err.ok ir.field_In_Err.rok hn
attribute [go_sem ↓] ir.field_In_Err.r0.w ir.field_In_Err.r1.w ir.field_In_Err.r2.w ir.field_In_Err.r3.w
attribute [go_sem] ir.field_In_Err.rs

/-! ### (*fingerpost/fingerpostref03.In).Num: function 40 -/
def ir.ref03_In_Num.ks : Nat → List Nat := fun
  | 0 => [0, 1]
  | 1 => [5]
  | 2 => [5, 6]
  | 3 => [5, 6, 7]
  | 4 => [5, 6, 7, 14]
  | 5 => [5, 6, 7]
  | 6 => [5, 6, 7]
  | 7 => [4]
  | _ => []
def ir.ref03_In_Num.r0 : C := .region [0, 1] [⟨some 4, .mv (.const (.int .u64 0)), none⟩]
theorem ir.ref03_In_Num.r0.w (e : Env) (h : AHeap) (Q : Post) : wpC Try.prog nG ir.ref03_In_Num.r0 e h Q = lk (look e 0) (fun v0 => lk (look e 1) (fun v1 => wI Try.prog nG (.mv (.const (.int .u64 0))) h fun v4 h => Q .normal [(0, v0), (1, v1)] h) ()) () := lkm (lkm (wR (Rn rfl fun v4 h => rfl)))
def ir.ref03_In_Num.r1 : C := .region [5] [⟨some 8, .mv (.tmp 0), none⟩, ⟨some 9, .mv (.tmp 1), none⟩, ⟨some 10, .call fn.ref03_In_Raw [.tmp 8, .tmp 9], none⟩, ⟨some 5, .mv (.tmp 10), none⟩]
theorem ir.ref03_In_Num.r1.w (e : Env) (h : AHeap) (Q : Post) : wpC Try.prog nG ir.ref03_In_Num.r1 e h Q = lk (look e 0) (fun v0 => lk (look e 1) (fun v1 => wI Try.prog nG (.mv (.const v0)) h fun v8 h => wI Try.prog nG (.mv (.const v1)) h fun v9 h => wI Try.prog nG (.call fn.ref03_In_Raw [.const v8, .const v9]) h fun v10 h => wI Try.prog nG (.mv (.const v10)) h fun v5 h => Q .normal [(5, v5)] h) ()) () := lkm (lkm (wR (Rn rfl fun v8 h => Rn rfl fun v9 h => Rn rfl fun v10 h => Rn rfl fun v5 h => rfl)))
def ir.ref03_In_Num.r2 : C := .region [5, 6] [⟨some 6, .mv (.const (.int .u64 0)), none⟩]
theorem ir.ref03_In_Num.r2.w (e : Env) (h : AHeap) (Q : Post) : wpC Try.prog nG ir.ref03_In_Num.r2 e h Q = lk (look e 5) (fun v5 => wI Try.prog nG (.mv (.const (.int .u64 0))) h fun v6 h => Q .normal [(5, v5), (6, v6)] h) () := lkm (wR (Rn rfl fun v6 h => rfl))
def ir.ref03_In_Num.r3 : C := .region [5, 6, 7] [⟨some 7, .mv (.const (.int .i64 0)), none⟩]
theorem ir.ref03_In_Num.r3.w (e : Env) (h : AHeap) (Q : Post) : wpC Try.prog nG ir.ref03_In_Num.r3 e h Q = lk (look e 5) (fun v5 => lk (look e 6) (fun v6 => wI Try.prog nG (.mv (.const (.int .i64 0))) h fun v7 h => Q .normal [(5, v5), (6, v6), (7, v7)] h) ()) () := lkm (lkm (wR (Rn rfl fun v7 h => rfl)))
def ir.ref03_In_Num.r4 : C := .region [5, 6, 7, 14] [⟨some 11, .mv (.tmp 7), none⟩, ⟨some 12, .mv (.tmp 5), none⟩, ⟨some 13, .len false (.tmp 12), none⟩, ⟨some 14, .bin .lss (.tmp 11) (.tmp 13), none⟩]
theorem ir.ref03_In_Num.r4.w (e : Env) (h : AHeap) (Q : Post) : wpC Try.prog nG ir.ref03_In_Num.r4 e h Q = lk (look e 5) (fun v5 => lk (look e 6) (fun v6 => lk (look e 7) (fun v7 => wI Try.prog nG (.mv (.const v7)) h fun v11 h => wI Try.prog nG (.mv (.const v5)) h fun v12 h => wI Try.prog nG (.len false (.const v12)) h fun v13 h => wI Try.prog nG (.bin .lss (.const v11) (.const v13)) h fun v14 h => Q .normal [(5, v5), (6, v6), (7, v7), (14, v14)] h) ()) ()) () := lkm (lkm (lkm (wR (Rn rfl fun v11 h => Rn rfl fun v12 h => Rn rfl fun v13 h => Rn rfl fun v14 h => rfl))))
def ir.ref03_In_Num.r6 : C := .region [5, 6, 7] [⟨some 17, .mv (.tmp 6), none⟩, ⟨some 18, .bin .mul (.tmp 17) (.const (.int .u64 256)), none⟩, ⟨some 19, .mv (.tmp 5), none⟩, ⟨some 20, .mv (.tmp 7), none⟩, ⟨some 21, .ixs 1 (.tmp 19) (.tmp 20), none⟩, ⟨some 22, .load false 1 (.tmp 21), none⟩, ⟨some 23, .conv .u64 (.tmp 22), none⟩, ⟨some 24, .bin .add (.tmp 18) (.tmp 23), none⟩, ⟨some 6, .mv (.tmp 24), none⟩]
theorem ir.ref03_In_Num.r6.w (e : Env) (h : AHeap) (Q : Post) : wpC Try.prog nG ir.ref03_In_Num.r6 e h Q = lk (look e 5) (fun v5 => lk (look e 6) (fun v6 => lk (look e 7) (fun v7 => wI Try.prog nG (.mv (.const v6)) h fun v17 h => wI Try.prog nG (.bin .mul (.const v17) (.const (.int .u64 256))) h fun v18 h => wI Try.prog nG (.mv (.const v5)) h fun v19 h => wI Try.prog nG (.mv (.const v7)) h fun v20 h => wI Try.prog nG (.ixs 1 (.const v19) (.const v20)) h fun v21 h => wI Try.prog nG (.load false 1 (.const v21)) h fun v22 h => wI Try.prog nG (.conv .u64 (.const v22)) h fun v23 h => wI Try.prog nG (.bin .add (.const v18) (.const v23)) h fun v24 h => wI Try.prog nG (.mv (.const v24)) h fun v6 h => Q .normal [(5, v5), (6, v6), (7, v7)] h) ()) ()) () := lkm (lkm (lkm (wR (Rn rfl fun v17 h => Rn rfl fun v18 h => Rn rfl fun v19 h => Rn rfl fun v20 h => Rn rfl fun v21 h => Rn rfl fun v22 h => Rn rfl fun v23 h => Rn rfl fun v24 h => Rn rfl fun v6 h => rfl))))
def ir.ref03_In_Num.r5 : C := .region [5, 6, 7] [⟨some 15, .mv (.tmp 7), none⟩, ⟨some 16, .bin .add (.tmp 15) (.const (.int .i64 1)), none⟩, ⟨some 7, .mv (.tmp 16), none⟩]
theorem ir.ref03_In_Num.r5.w (e : Env) (h : AHeap) (Q : Post) : wpC Try.prog nG ir.ref03_In_Num.r5 e h Q = lk (look e 5) (fun v5 => lk (look e 6) (fun v6 => lk (look e 7) (fun v7 => wI Try.prog nG (.mv (.const v7)) h fun v15 h => wI Try.prog nG (.bin .add (.const v15) (.const (.int .i64 1))) h fun v16 h => wI Try.prog nG (.mv (.const v16)) h fun v7 h => Q .normal [(5, v5), (6, v6), (7, v7)] h) ()) ()) () := lkm (lkm (lkm (wR (Rn rfl fun v15 h => Rn rfl fun v16 h => Rn rfl fun v7 h => rfl))))
def ir.ref03_In_Num.l1.b : C := (.seq (.seq ir.ref03_In_Num.r4 (.cond (.tmp 14) .skip (.exit 0))) (.seq (.block 1 ir.ref03_In_Num.r6) ir.ref03_In_Num.r5))
theorem ir.ref03_In_Num.l1.bw (e : Env) (h : AHeap) (Q : Post) : wpC Try.prog nG ir.ref03_In_Num.l1.b e h Q = wpC Try.prog nG (.seq (.seq ir.ref03_In_Num.r4 (.cond (.tmp 14) .skip (.exit 0))) (.seq (.block 1 ir.ref03_In_Num.r6) ir.ref03_In_Num.r5)) e h Q := (rfl)
def ir.ref03_In_Num.l1 : C := .loop ir.ref03_In_Num.l1.b
theorem ir.ref03_In_Num.l1.w (e : Env) (h : AHeap) (Q : Post) : wpC Try.prog nG ir.ref03_In_Num.l1 e h Q = loopV Try.prog nG ir.ref03_In_Num.l1.b e h Q () := (rfl)
def ir.ref03_In_Num.r7 : C := .region [4] [⟨some 25, .mv (.tmp 6), none⟩, ⟨some 4, .mv (.tmp 25), none⟩]
theorem ir.ref03_In_Num.r7.w (e : Env) (h : AHeap) (Q : Post) : wpC Try.prog nG ir.ref03_In_Num.r7 e h Q = lk (look e 6) (fun v6 => wI Try.prog nG (.mv (.const v6)) h fun v25 h => wI Try.prog nG (.mv (.const v25)) h fun v4 h => Q .normal [(4, v4)] h) () := lkm (wR (Rn rfl fun v25 h => Rn rfl fun v4 h => rfl))
def ir.ref03_In_Num : C := (.seq ir.ref03_In_Num.r0 (.seq ir.ref03_In_Num.r1 (.seq ir.ref03_In_Num.r2 (.seq (.seq ir.ref03_In_Num.r3 (.block 0 ir.ref03_In_Num.l1)) (.seq ir.ref03_In_Num.r7 .ret)))))
theorem ir.ref03_In_Num.bw (e : Env) (h : AHeap) (Q : Post) : wpC Try.prog nG ir.ref03_In_Num e h Q = wpC Try.prog nG (.seq ir.ref03_In_Num.r0 (.seq ir.ref03_In_Num.r1 (.seq ir.ref03_In_Num.r2 (.seq (.seq ir.ref03_In_Num.r3 (.block 0 ir.ref03_In_Num.l1)) (.seq ir.ref03_In_Num.r7 .ret))))) e h Q := (rfl)
def ir.ref03_In_Num.rs : List RV := [.tmp 4]
theorem ir.ref03_In_Num.ok : resC Try.prog nG 26 ir.ref03_In_Num.ks (Try.f40.body.getD .skip) = some ir.ref03_In_Num := by kernel_rfl
theorem ir.ref03_In_Num.rok : Try.f40.results.toList.mapM (resR Try.prog) = some ir.ref03_In_Num.rs := by kernel_rfl
theorem ir.ref03_In_Num.spec {args : List Value} {h : AHeap} {v : Value} {h' : AHeap} (hn : args.length ≤ 26) :
    (wpC Try.prog nG ir.ref03_In_Num (args.zipIdx.map fun p => (p.2, p.1)) h (retQ ir.ref03_In_Num.rs h v h')) → Spec Try.prog nG fn.ref03_In_Num args h v h' :=
  Spec.intro (fn := Try.f40) Try.func40 (c := Try.f40.body.getD .skip) (by kernel_rfl) ir.ref03_In_Num.ok ir.ref03_In_Num.rok hn
attribute [go_sem ↓] ir.ref03_In_Num.r0.w ir.ref03_In_Num.r1.w ir.ref03_In_Num.r2.w ir.ref03_In_Num.r3.w ir.ref03_In_Num.r4.w ir.ref03_In_Num.r6.w ir.ref03_In_Num.r5.w ir.ref03_In_Num.l1.w ir.ref03_In_Num.r7.w
attribute [go_sem] ir.ref03_In_Num.rs

/-! ### (*fingerpost/fingerpostref03.In).Sum: function 41 -/
def ir.ref03_In_Sum.ks : Nat → List Nat := fun
  | 0 => [0, 2]
  | 1 => [0, 2, 3]
  | 2 => [2, 3, 4]
  | 3 => [2, 3, 4, 5]
  | 4 => [2, 3, 4, 5, 11]
  | 5 => [2, 3, 4, 5]
  | 6 => [2, 3, 4, 5]
  | 7 => [2]
  | _ => []
def ir.ref03_In_Sum.r0 : C := .region [0, 2] [⟨some 2, .new (zrep 16 (.int .u8 0)), none⟩]
theorem ir.ref03_In_Sum.r0.w (e : Env) (h : AHeap) (Q : Post) : wpC Try.prog nG ir.ref03_In_Sum.r0 e h Q = lk (look e 0) (fun v0 => wI Try.prog nG (.new (zrep 16 (.int .u8 0))) h fun v2 h => Q .normal [(0, v0), (2, v2)] h) () := lkm (wR (Rn rfl fun v2 h => rfl))
def ir.ref03_In_Sum.r1 : C := .region [0, 2, 3] [⟨some 3, .new (zrep 16 (.int .u8 0)), none⟩]
theorem ir.ref03_In_Sum.r1.w (e : Env) (h : AHeap) (Q : Post) : wpC Try.prog nG ir.ref03_In_Sum.r1 e h Q = lk (look e 0) (fun v0 => lk (look e 2) (fun v2 => wI Try.prog nG (.new (zrep 16 (.int .u8 0))) h fun v3 h => Q .normal [(0, v0), (2, v2), (3, v3)] h) ()) () := lkm (lkm (wR (Rn rfl fun v3 h => rfl)))
def ir.ref03_In_Sum.r2 : C := .region [2, 3, 4] [⟨some 6, .mv (.tmp 0), none⟩, ⟨some 7, .call fn.ref03_In_Raw [.tmp 6, .const (.int .i64 16)], none⟩, ⟨some 4, .mv (.tmp 7), none⟩]
theorem ir.ref03_In_Sum.r2.w (e : Env) (h : AHeap) (Q : Post) : wpC Try.prog nG ir.ref03_In_Sum.r2 e h Q = lk (look e 0) (fun v0 => lk (look e 2) (fun v2 => lk (look e 3) (fun v3 => wI Try.prog nG (.mv (.const v0)) h fun v6 h => wI Try.prog nG (.call fn.ref03_In_Raw [.const v6, .const (.int .i64 16)]) h fun v7 h => wI Try.prog nG (.mv (.const v7)) h fun v4 h => Q .normal [(2, v2), (3, v3), (4, v4)] h) ()) ()) () := lkm (lkm (lkm (wR (Rn rfl fun v6 h => Rn rfl fun v7 h => Rn rfl fun v4 h => rfl))))
def ir.ref03_In_Sum.r3 : C := .region [2, 3, 4, 5] [⟨some 5, .mv (.const (.int .i64 0)), none⟩]
theorem ir.ref03_In_Sum.r3.w (e : Env) (h : AHeap) (Q : Post) : wpC Try.prog nG ir.ref03_In_Sum.r3 e h Q = lk (look e 2) (fun v2 => lk (look e 3) (fun v3 => lk (look e 4) (fun v4 => wI Try.prog nG (.mv (.const (.int .i64 0))) h fun v5 h => Q .normal [(2, v2), (3, v3), (4, v4), (5, v5)] h) ()) ()) () := lkm (lkm (lkm (wR (Rn rfl fun v5 h => rfl))))
def ir.ref03_In_Sum.r4 : C := .region [2, 3, 4, 5, 11] [⟨some 8, .mv (.tmp 5), none⟩, ⟨some 9, .mv (.tmp 4), none⟩, ⟨some 10, .len false (.tmp 9), none⟩, ⟨some 11, .bin .lss (.tmp 8) (.tmp 10), none⟩]
theorem ir.ref03_In_Sum.r4.w (e : Env) (h : AHeap) (Q : Post) : wpC Try.prog nG ir.ref03_In_Sum.r4 e h Q = lk (look e 2) (fun v2 => lk (look e 3) (fun v3 => lk (look e 4) (fun v4 => lk (look e 5) (fun v5 => wI Try.prog nG (.mv (.const v5)) h fun v8 h => wI Try.prog nG (.mv (.const v4)) h fun v9 h => wI Try.prog nG (.len false (.const v9)) h fun v10 h => wI Try.prog nG (.bin .lss (.const v8) (.const v10)) h fun v11 h => Q .normal [(2, v2), (3, v3), (4, v4), (5, v5), (11, v11)] h) ()) ()) ()) () := lkm (lkm (lkm (lkm (wR (Rn rfl fun v8 h => Rn rfl fun v9 h => Rn rfl fun v10 h => Rn rfl fun v11 h => rfl)))))
def ir.ref03_In_Sum.r6 : C := .region [2, 3, 4, 5] [⟨some 14, .mv (.tmp 5), none⟩, ⟨some 15, .mv (.tmp 4), none⟩, ⟨some 16, .mv (.tmp 5), none⟩, ⟨some 17, .ixs 1 (.tmp 15) (.tmp 16), none⟩, ⟨some 18, .load false 1 (.tmp 17), none⟩, ⟨some 19, .ixa 16 1 (.tmp 3) (.tmp 14), none⟩, ⟨none, .store 1 (.tmp 19) (.tmp 18), none⟩]
theorem ir.ref03_In_Sum.r6.w (e : Env) (h : AHeap) (Q : Post) : wpC Try.prog nG ir.ref03_In_Sum.r6 e h Q = lk (look e 2) (fun v2 => lk (look e 3) (fun v3 => lk (look e 4) (fun v4 => lk (look e 5) (fun v5 => wI Try.prog nG (.mv (.const v5)) h fun v14 h => wI Try.prog nG (.mv (.const v4)) h fun v15 h => wI Try.prog nG (.mv (.const v5)) h fun v16 h => wI Try.prog nG (.ixs 1 (.const v15) (.const v16)) h fun v17 h => wI Try.prog nG (.load false 1 (.const v17)) h fun v18 h => wI Try.prog nG (.ixa 16 1 (.const v3) (.const v14)) h fun v19 h => wI Try.prog nG (.store 1 (.const v19) (.const v18)) h fun _ h => Q .normal [(2, v2), (3, v3), (4, v4), (5, v5)] h) ()) ()) ()) () := lkm (lkm (lkm (lkm (wR (Rn rfl fun v14 h => Rn rfl fun v15 h => Rn rfl fun v16 h => Rn rfl fun v17 h => Rn rfl fun v18 h => Rn rfl fun v19 h => Rz rfl fun v_ h => rfl)))))
def ir.ref03_In_Sum.r5 : C := .region [2, 3, 4, 5] [⟨some 12, .mv (.tmp 5), none⟩, ⟨some 13, .bin .add (.tmp 12) (.const (.int .i64 1)), none⟩, ⟨some 5, .mv (.tmp 13), none⟩]
theorem ir.ref03_In_Sum.r5.w (e : Env) (h : AHeap) (Q : Post) : wpC Try.prog nG ir.ref03_In_Sum.r5 e h Q = lk (look e 2) (fun v2 => lk (look e 3) (fun v3 => lk (look e 4) (fun v4 => lk (look e 5) (fun v5 => wI Try.prog nG (.mv (.const v5)) h fun v12 h => wI Try.prog nG (.bin .add (.const v12) (.const (.int .i64 1))) h fun v13 h => wI Try.prog nG (.mv (.const v13)) h fun v5 h => Q .normal [(2, v2), (3, v3), (4, v4), (5, v5)] h) ()) ()) ()) () := lkm (lkm (lkm (lkm (wR (Rn rfl fun v12 h => Rn rfl fun v13 h => Rn rfl fun v5 h => rfl)))))
def ir.ref03_In_Sum.l1.b : C := (.seq (.seq ir.ref03_In_Sum.r4 (.cond (.tmp 11) .skip (.exit 0))) (.seq (.block 1 ir.ref03_In_Sum.r6) ir.ref03_In_Sum.r5))
theorem ir.ref03_In_Sum.l1.bw (e : Env) (h : AHeap) (Q : Post) : wpC Try.prog nG ir.ref03_In_Sum.l1.b e h Q = wpC Try.prog nG (.seq (.seq ir.ref03_In_Sum.r4 (.cond (.tmp 11) .skip (.exit 0))) (.seq (.block 1 ir.ref03_In_Sum.r6) ir.ref03_In_Sum.r5)) e h Q := (rfl)
def ir.ref03_In_Sum.l1 : C := .loop ir.ref03_In_Sum.l1.b
theorem ir.ref03_In_Sum.l1.w (e : Env) (h : AHeap) (Q : Post) : wpC Try.prog nG ir.ref03_In_Sum.l1 e h Q = loopV Try.prog nG ir.ref03_In_Sum.l1.b e h Q () := (rfl)
def ir.ref03_In_Sum.r7 : C := .region [2] [⟨some 20, .load true 16 (.tmp 3), none⟩, ⟨none, .store 16 (.tmp 2) (.tmp 20), none⟩]
theorem ir.ref03_In_Sum.r7.w (e : Env) (h : AHeap) (Q : Post) : wpC Try.prog nG ir.ref03_In_Sum.r7 e h Q = lk (look e 2) (fun v2 => lk (look e 3) (fun v3 => wI Try.prog nG (.load true 16 (.const v3)) h fun v20 h => wI Try.prog nG (.store 16 (.const v2) (.const v20)) h fun _ h => Q .normal [(2, v2)] h) ()) () := lkm (lkm (wR (Rn rfl fun v20 h => Rz rfl fun v_ h => rfl)))
def ir.ref03_In_Sum : C := (.seq ir.ref03_In_Sum.r0 (.seq ir.ref03_In_Sum.r1 (.seq ir.ref03_In_Sum.r2 (.seq (.seq ir.ref03_In_Sum.r3 (.block 0 ir.ref03_In_Sum.l1)) (.seq ir.ref03_In_Sum.r7 .ret)))))
theorem ir.ref03_In_Sum.bw (e : Env) (h : AHeap) (Q : Post) : wpC Try.prog nG ir.ref03_In_Sum e h Q = wpC Try.prog nG (.seq ir.ref03_In_Sum.r0 (.seq ir.ref03_In_Sum.r1 (.seq ir.ref03_In_Sum.r2 (.seq (.seq ir.ref03_In_Sum.r3 (.block 0 ir.ref03_In_Sum.l1)) (.seq ir.ref03_In_Sum.r7 .ret))))) e h Q := (rfl)
def ir.ref03_In_Sum.rs : List RV := [.cell 2 true 16]
theorem ir.ref03_In_Sum.ok : resC Try.prog nG 21 ir.ref03_In_Sum.ks (Try.f41.body.getD .skip) = some ir.ref03_In_Sum := by kernel_rfl
theorem ir.ref03_In_Sum.rok : Try.f41.results.toList.mapM (resR Try.prog) = some ir.ref03_In_Sum.rs := by kernel_rfl
theorem ir.ref03_In_Sum.spec {args : List Value} {h : AHeap} {v : Value} {h' : AHeap} (hn : args.length ≤ 21) :
    (wpC Try.prog nG ir.ref03_In_Sum (args.zipIdx.map fun p => (p.2, p.1)) h (retQ ir.ref03_In_Sum.rs h v h')) → Spec Try.prog nG fn.ref03_In_Sum args h v h' :=
  Spec.intro (fn := Try.f41) Try.func41 (c := Try.f41.body.getD .skip) (by kernel_rfl) ir.ref03_In_Sum.ok ir.ref03_In_Sum.rok hn
attribute [go_sem ↓] ir.ref03_In_Sum.r0.w ir.ref03_In_Sum.r1.w ir.ref03_In_Sum.r2.w ir.ref03_In_Sum.r3.w ir.ref03_In_Sum.r4.w ir.ref03_In_Sum.r6.w ir.ref03_In_Sum.r5.w ir.ref03_In_Sum.l1.w ir.ref03_In_Sum.r7.w
attribute [go_sem] ir.ref03_In_Sum.rs

/-! ### fingerpost/fingerpostref11.Bytes: function 44 -/
def ir.ref11_Bytes.ks : Nat → List Nat := fun
  | 0 => [1]
  | 1 => [1, 3]
  | 2 => [1, 3]
  | 3 => [1, 3]
  | 4 => [1, 3]
  | 5 => [2]
  | _ => []
def ir.ref11_Bytes.r0 : C := .region [1] [⟨some 1, .box (.tmp 0), none⟩, ⟨some 2, .mv (.const (.slice none 0 0)), none⟩]
theorem ir.ref11_Bytes.r0.w (e : Env) (h : AHeap) (Q : Post) : wpC Try.prog nG ir.ref11_Bytes.r0 e h Q = lk (look e 0) (fun v0 => wI Try.prog nG (.box (.const v0)) h fun v1 h => wI Try.prog nG (.mv (.const (.slice none 0 0))) h fun v2 h => Q .normal [(1, v1)] h) () := lkm (wR (Rn rfl fun v1 h => Rn rfl fun v2 h => rfl))
def ir.ref11_Bytes.r1 : C := .region [1, 3] [⟨some 3, .mv (.const (.slice none 0 0)), none⟩]
theorem ir.ref11_Bytes.r1.w (e : Env) (h : AHeap) (Q : Post) : wpC Try.prog nG ir.ref11_Bytes.r1 e h Q = lk (look e 1) (fun v1 => wI Try.prog nG (.mv (.const (.slice none 0 0))) h fun v3 h => Q .normal [(1, v1), (3, v3)] h) () := lkm (wR (Rn rfl fun v3 h => rfl))
def ir.ref11_Bytes.r2 : C := .region [1, 3] [⟨some 4, .mv (.tmp 3), none⟩, ⟨some 5, .fld 0 (.tmp 1), none⟩, ⟨some 6, .load false 1 (.tmp 5), none⟩, ⟨some 7, .conv .u8 (.tmp 6), none⟩, ⟨some 8, .row 1 1 [.int .u8 0] [(0, 1, .tmp 7)], none⟩, ⟨some 9, .app false 1 1 (.tmp 4) (.tmp 8), none⟩, ⟨some 3, .mv (.tmp 9), none⟩]
theorem ir.ref11_Bytes.r2.w (e : Env) (h : AHeap) (Q : Post) : wpC Try.prog nG ir.ref11_Bytes.r2 e h Q = lk (look e 1) (fun v1 => lk (look e 3) (fun v3 => wI Try.prog nG (.mv (.const v3)) h fun v4 h => wI Try.prog nG (.fld 0 (.const v1)) h fun v5 h => wI Try.prog nG (.load false 1 (.const v5)) h fun v6 h => wI Try.prog nG (.conv .u8 (.const v6)) h fun v7 h => wI Try.prog nG (.row 1 1 [.int .u8 0] [(0, 1, .const v7)]) h fun v8 h => wI Try.prog nG (.app false 1 1 (.const v4) (.const v8)) h fun v9 h => wI Try.prog nG (.mv (.const v9)) h fun v3 h => Q .normal [(1, v1), (3, v3)] h) ()) () := lkm (lkm (wR (Rn rfl fun v4 h => Rn rfl fun v5 h => Rn rfl fun v6 h => Rn rfl fun v7 h => Rn rfl fun v8 h => Rn rfl fun v9 h => Rn rfl fun v3 h => rfl)))
def ir.ref11_Bytes.r3 : C := .region [1, 3] [⟨some 10, .mv (.tmp 3), none⟩, ⟨some 11, .fld 1 (.tmp 1), none⟩, ⟨some 12, .load false 1 (.tmp 11), none⟩, ⟨some 13, .conv .u64 (.tmp 12), none⟩, ⟨some 14, .call fn.ref05_Num [.tmp 13, .const (.int .i64 4)], none⟩, ⟨some 15, .app false 1 1 (.tmp 10) (.tmp 14), none⟩, ⟨some 3, .mv (.tmp 15), none⟩]
theorem ir.ref11_Bytes.r3.w (e : Env) (h : AHeap) (Q : Post) : wpC Try.prog nG ir.ref11_Bytes.r3 e h Q = lk (look e 1) (fun v1 => lk (look e 3) (fun v3 => wI Try.prog nG (.mv (.const v3)) h fun v10 h => wI Try.prog nG (.fld 1 (.const v1)) h fun v11 h => wI Try.prog nG (.load false 1 (.const v11)) h fun v12 h => wI Try.prog nG (.conv .u64 (.const v12)) h fun v13 h => wI Try.prog nG (.call fn.ref05_Num [.const v13, .const (.int .i64 4)]) h fun v14 h => wI Try.prog nG (.app false 1 1 (.const v10) (.const v14)) h fun v15 h => wI Try.prog nG (.mv (.const v15)) h fun v3 h => Q .normal [(1, v1), (3, v3)] h) ()) () := lkm (lkm (wR (Rn rfl fun v10 h => Rn rfl fun v11 h => Rn rfl fun v12 h => Rn rfl fun v13 h => Rn rfl fun v14 h => Rn rfl fun v15 h => Rn rfl fun v3 h => rfl)))
def ir.ref11_Bytes.r4 : C := .region [1, 3] [⟨some 16, .mv (.tmp 3), none⟩, ⟨some 17, .fld 2 (.tmp 1), none⟩, ⟨some 18, .sla 16 1 (.tmp 17) none none, none⟩, ⟨some 19, .app false 1 1 (.tmp 16) (.tmp 18), none⟩, ⟨some 3, .mv (.tmp 19), none⟩]
theorem ir.ref11_Bytes.r4.w (e : Env) (h : AHeap) (Q : Post) : wpC Try.prog nG ir.ref11_Bytes.r4 e h Q = lk (look e 1) (fun v1 => lk (look e 3) (fun v3 => wI Try.prog nG (.mv (.const v3)) h fun v16 h => wI Try.prog nG (.fld 2 (.const v1)) h fun v17 h => wI Try.prog nG (.sla 16 1 (.const v17) none none) h fun v18 h => wI Try.prog nG (.app false 1 1 (.const v16) (.const v18)) h fun v19 h => wI Try.prog nG (.mv (.const v19)) h fun v3 h => Q .normal [(1, v1), (3, v3)] h) ()) () := lkm (lkm (wR (Rn rfl fun v16 h => Rn rfl fun v17 h => Rn rfl fun v18 h => Rn rfl fun v19 h => Rn rfl fun v3 h => rfl)))
def ir.ref11_Bytes.r5 : C := .region [2] [⟨some 20, .mv (.tmp 3), none⟩, ⟨some 21, .fld 18 (.tmp 1), none⟩, ⟨some 22, .sla 16 1 (.tmp 21) none none, none⟩, ⟨some 23, .app false 1 1 (.tmp 20) (.tmp 22), none⟩, ⟨some 2, .mv (.tmp 23), none⟩]
theorem ir.ref11_Bytes.r5.w (e : Env) (h : AHeap) (Q : Post) : wpC Try.prog nG ir.ref11_Bytes.r5 e h Q = lk (look e 1) (fun v1 => lk (look e 3) (fun v3 => wI Try.prog nG (.mv (.const v3)) h fun v20 h => wI Try.prog nG (.fld 18 (.const v1)) h fun v21 h => wI Try.prog nG (.sla 16 1 (.const v21) none none) h fun v22 h => wI Try.prog nG (.app false 1 1 (.const v20) (.const v22)) h fun v23 h => wI Try.prog nG (.mv (.const v23)) h fun v2 h => Q .normal [(2, v2)] h) ()) () := lkm (lkm (wR (Rn rfl fun v20 h => Rn rfl fun v21 h => Rn rfl fun v22 h => Rn rfl fun v23 h => Rn rfl fun v2 h => rfl)))
def ir.ref11_Bytes : C := (.seq ir.ref11_Bytes.r0 (.seq ir.ref11_Bytes.r1 (.seq ir.ref11_Bytes.r2 (.seq ir.ref11_Bytes.r3 (.seq ir.ref11_Bytes.r4 (.seq ir.ref11_Bytes.r5 .ret))))))
theorem ir.ref11_Bytes.bw (e : Env) (h : AHeap) (Q : Post) : wpC Try.prog nG ir.ref11_Bytes e h Q = wpC Try.prog nG (.seq ir.ref11_Bytes.r0 (.seq ir.ref11_Bytes.r1 (.seq ir.ref11_Bytes.r2 (.seq ir.ref11_Bytes.r3 (.seq ir.ref11_Bytes.r4 (.seq ir.ref11_Bytes.r5 .ret)))))) e h Q := (rfl)
def ir.ref11_Bytes.rs : List RV := [.tmp 2]
theorem ir.ref11_Bytes.ok : resC Try.prog nG 24 ir.ref11_Bytes.ks (Try.f44.body.getD .skip) = some ir.ref11_Bytes := by kernel_rfl
theorem ir.ref11_Bytes.rok : Try.f44.results.toList.mapM (resR Try.prog) = some ir.ref11_Bytes.rs := by kernel_rfl
theorem ir.ref11_Bytes.spec {args : List Value} {h : AHeap} {v : Value} {h' : AHeap} (hn : args.length ≤ 24) :
    (wpC Try.prog nG ir.ref11_Bytes (args.zipIdx.map fun p => (p.2, p.1)) h (retQ ir.ref11_Bytes.rs h v h')) → Spec Try.prog nG fn.ref11_Bytes args h v h' :=
  Spec.intro (fn := Try.f44) Try.func44 (c := Try.f44.body.getD .skip) (by kernel_rfl) ir.ref11_Bytes.ok ir.ref11_Bytes.rok hn
attribute [go_sem ↓] ir.ref11_Bytes.r0.w ir.ref11_Bytes.r1.w ir.ref11_Bytes.r2.w ir.ref11_Bytes.r3.w ir.ref11_Bytes.r4.w ir.ref11_Bytes.r5.w
attribute [go_sem] ir.ref11_Bytes.rs

/-! ### (*fingerpost/field.In).Left: function 46 -/
def ir.field_In_Left.ks : Nat → List Nat := fun
  | 0 => [0]
  | 1 => [0, 4]
  | 2 => [2]
  | 3 => [2]
  | _ => []
def ir.field_In_Left.r0 : C := .region [0] [⟨some 2, .mv (.const (.int .i64 0)), none⟩]
theorem ir.field_In_Left.r0.w (e : Env) (h : AHeap) (Q : Post) : wpC Try.prog nG ir.field_In_Left.r0 e h Q = lk (look e 0) (fun v0 => wI Try.prog nG (.mv (.const (.int .i64 0))) h fun v2 h => Q .normal [(0, v0)] h) () := lkm (wR (Rn rfl fun v2 h => rfl))
def ir.field_In_Left.r1 : C := .region [0, 4] [⟨some 3, .mv (.tmp 0), none⟩, ⟨some 4, .eqn 0 false (.tmp 3), none⟩]
theorem ir.field_In_Left.r1.w (e : Env) (h : AHeap) (Q : Post) : wpC Try.prog nG ir.field_In_Left.r1 e h Q = lk (look e 0) (fun v0 => wI Try.prog nG (.mv (.const v0)) h fun v3 h => wI Try.prog nG (.eqn 0 false (.const v3)) h fun v4 h => Q .normal [(0, v0), (4, v4)] h) () := lkm (wR (Rn rfl fun v3 h => Rn rfl fun v4 h => rfl))
def ir.field_In_Left.r2 : C := .region [2] [⟨some 2, .mv (.const (.int .i64 0)), none⟩]
theorem ir.field_In_Left.r2.w (e : Env) (h : AHeap) (Q : Post) : wpC Try.prog nG ir.field_In_Left.r2 e h Q = wI Try.prog nG (.mv (.const (.int .i64 0))) h fun v2 h => Q .normal [(2, v2)] h := wR (Rn rfl fun v2 h => rfl)
def ir.field_In_Left.r3 : C := .region [2] [⟨some 5, .mv (.tmp 0), none⟩, ⟨some 6, .nilck (.tmp 5), none⟩, ⟨some 7, .fld 0 (.tmp 6), none⟩, ⟨some 8, .load false 1 (.tmp 7), none⟩, ⟨some 9, .len false (.tmp 8), none⟩, ⟨some 2, .mv (.tmp 9), none⟩]
theorem ir.field_In_Left.r3.w (e : Env) (h : AHeap) (Q : Post) : wpC Try.prog nG ir.field_In_Left.r3 e h Q = lk (look e 0) (fun v0 => wI Try.prog nG (.mv (.const v0)) h fun v5 h => wI Try.prog nG (.nilck (.const v5)) h fun v6 h => wI Try.prog nG (.fld 0 (.const v6)) h fun v7 h => wI Try.prog nG (.load false 1 (.const v7)) h fun v8 h => wI Try.prog nG (.len false (.const v8)) h fun v9 h => wI Try.prog nG (.mv (.const v9)) h fun v2 h => Q .normal [(2, v2)] h) () := lkm (wR (Rn rfl fun v5 h => Rn rfl fun v6 h => Rn rfl fun v7 h => Rn rfl fun v8 h => Rn rfl fun v9 h => Rn rfl fun v2 h => rfl))
def ir.field_In_Left : C := (.seq ir.field_In_Left.r0 (.seq (.seq ir.field_In_Left.r1 (.cond (.tmp 4) (.seq ir.field_In_Left.r2 .ret) .skip)) (.seq ir.field_In_Left.r3 .ret)))
theorem ir.field_In_Left.bw (e : Env) (h : AHeap) (Q : Post) : wpC Try.prog nG ir.field_In_Left e h Q = wpC Try.prog nG (.seq ir.field_In_Left.r0 (.seq (.seq ir.field_In_Left.r1 (.cond (.tmp 4) (.seq ir.field_In_Left.r2 .ret) .skip)) (.seq ir.field_In_Left.r3 .ret))) e h Q := (rfl)
def ir.field_In_Left.rs : List RV := [.tmp 2]
theorem ir.field_In_Left.ok : resC Try.prog nG 10 ir.field_In_Left.ks (Try.f46.body.getD .skip) = some ir.field_In_Left := by kernel_rfl
theorem ir.field_In_Left.rok : Try.f46.results.toList.mapM (resR Try.prog) = some ir.field_In_Left.rs := by kernel_rfl
theorem ir.field_In_Left.spec {args : List Value} {h : AHeap} {v : Value} {h' : AHeap} (hn : args.length ≤ 10) :
    (wpC Try.prog nG ir.field_In_Left (args.zipIdx.map fun p => (p.2, p.1)) h (retQ ir.field_In_Left.rs h v h')) → Spec Try.prog nG fn.field_In_Left args h v h' :=
  Spec.intro (fn := Try.f46) Try.func46 (c := Try.f46.body.getD .skip) (by kernel_rfl) ir.field_In_Left.ok ir.field_In_Left.rok hn
attribute [go_sem ↓] ir.field_In_Left.r0.w ir.field_In_Left.r1.w ir.field_In_Left.r2.w ir.field_In_Left.r3.w
attribute [go_sem] ir.field_In_Left.rs

/-! ### (*fingerpost/field.In).Fail: function 47 -/
def ir.field_In_Fail.ks : Nat → List Nat := fun
  | 0 => [0, 1, 16]
  | 1 => []
  | _ => []
def ir.field_In_Fail.r0 : C := .region [0, 1, 16] [⟨some 4, .mv (.tmp 0), none⟩, ⟨some 5, .eqn 0 true (.tmp 4), none⟩, ⟨some 6, .mv (.tmp 5), none⟩, ⟨some 7, .mv (.tmp 0), some (6, true)⟩, ⟨some 8, .nilck (.tmp 7), some (6, true)⟩, ⟨some 9, .fld 1 (.tmp 8), some (6, true)⟩, ⟨some 10, .load false 1 (.tmp 9), some (6, true)⟩, ⟨some 11, .bin .eql (.tmp 10) (.const (.int .i64 0)), some (6, true)⟩, ⟨some 12, .pick (.tmp 6) (.tmp 11) (.const (.bool false)), none⟩, ⟨some 13, .mv (.tmp 12), none⟩, ⟨some 14, .mv (.tmp 1), some (13, true)⟩, ⟨some 15, .bin .neq (.tmp 14) (.const (.int .i64 0)), some (13, true)⟩, ⟨some 16, .pick (.tmp 13) (.tmp 15) (.const (.bool false)), none⟩]
theorem ir.field_In_Fail.r0.w (e : Env) (h : AHeap) (Q : Post) : wpC Try.prog nG ir.field_In_Fail.r0 e h Q = lk (look e 0) (fun v0 => lk (look e 1) (fun v1 => wI Try.prog nG (.mv (.const v0)) h fun v4 h => wI Try.prog nG (.eqn 0 true (.const v4)) h fun v5 h => wI Try.prog nG (.mv (.const v5)) h fun v6 h => gdK v6 true (wI Try.prog nG (.mv (.const v0)) h) (fun v6 v7 h => gdK v6 true (wI Try.prog nG (.nilck (.const v7)) h) (fun v6 v8 h => gdK v6 true (wI Try.prog nG (.fld 1 (.const v8)) h) (fun v6 v9 h => gdK v6 true (wI Try.prog nG (.load false 1 (.const v9)) h) (fun v6 v10 h => gdK v6 true (wI Try.prog nG (.bin .eql (.const v10) (.const (.int .i64 0))) h) (fun v6 v11 h => wI Try.prog nG (.pick (.const v6) (.const v11) (.const (.bool false))) h fun v12 h => wI Try.prog nG (.mv (.const v12)) h fun v13 h => gdK v13 true (wI Try.prog nG (.mv (.const v1)) h) (fun v13 v14 h => gdK v13 true (wI Try.prog nG (.bin .neq (.const v14) (.const (.int .i64 0))) h) (fun v13 v15 h => wI Try.prog nG (.pick (.const v13) (.const v15) (.const (.bool false))) h fun v16 h => Q .normal [(0, v0), (1, v1), (16, v16)] h) h () ()) h () ()) h () ()) h () ()) h () ()) h () ()) h () ()) ()) () := lkm (lkm (wR (Rn rfl fun v4 h => Rn rfl fun v5 h => Rn rfl fun v6 h => Rg rfl rfl fun v6 v7 h => Rg rfl rfl fun v6 v8 h => Rg rfl rfl fun v6 v9 h => Rg rfl rfl fun v6 v10 h => Rg rfl rfl fun v6 v11 h => Rn rfl fun v12 h => Rn rfl fun v13 h => Rg rfl rfl fun v13 v14 h => Rg rfl rfl fun v13 v15 h => Rn rfl fun v16 h => rfl)))
def ir.field_In_Fail.r1 : C := .region [] [⟨some 17, .mv (.tmp 0), none⟩, ⟨some 18, .mv (.tmp 0), none⟩, ⟨some 19, .mv (.tmp 1), none⟩, ⟨some 20, .nilck (.tmp 17), none⟩, ⟨some 21, .fld 1 (.tmp 20), none⟩, ⟨none, .store 1 (.tmp 21) (.tmp 19), none⟩, ⟨some 22, .nilck (.tmp 18), none⟩, ⟨some 23, .fld 0 (.tmp 22), none⟩, ⟨none, .store 1 (.tmp 23) (.const (.slice none 0 0)), none⟩]
theorem ir.field_In_Fail.r1.w (e : Env) (h : AHeap) (Q : Post) : wpC Try.prog nG ir.field_In_Fail.r1 e h Q = lk (look e 0) (fun v0 => lk (look e 1) (fun v1 => wI Try.prog nG (.mv (.const v0)) h fun v17 h => wI Try.prog nG (.mv (.const v0)) h fun v18 h => wI Try.prog nG (.mv (.const v1)) h fun v19 h => wI Try.prog nG (.nilck (.const v17)) h fun v20 h => wI Try.prog nG (.fld 1 (.const v20)) h fun v21 h => wI Try.prog nG (.store 1 (.const v21) (.const v19)) h fun _ h => wI Try.prog nG (.nilck (.const v18)) h fun v22 h => wI Try.prog nG (.fld 0 (.const v22)) h fun v23 h => wI Try.prog nG (.store 1 (.const v23) (.const (.slice none 0 0))) h fun _ h => Q .normal [] h) ()) () := lkm (lkm (wR (Rn rfl fun v17 h => Rn rfl fun v18 h => Rn rfl fun v19 h => Rn rfl fun v20 h => Rn rfl fun v21 h => Rz rfl fun v_ h => Rn rfl fun v22 h => Rn rfl fun v23 h => Rz rfl fun v_ h => rfl)))
def ir.field_In_Fail : C := (.seq ir.field_In_Fail.r0 (.cond (.tmp 16) ir.field_In_Fail.r1 .skip))
theorem ir.field_In_Fail.bw (e : Env) (h : AHeap) (Q : Post) : wpC Try.prog nG ir.field_In_Fail e h Q = wpC Try.prog nG (.seq ir.field_In_Fail.r0 (.cond (.tmp 16) ir.field_In_Fail.r1 .skip)) e h Q := (rfl)
def ir.field_In_Fail.rs : List RV := []
theorem ir.field_In_Fail.ok : resC Try.prog nG 24 ir.field_In_Fail.ks (Try.f47.body.getD .skip) = some ir.field_In_Fail := by kernel_rfl
theorem ir.field_In_Fail.rok : Try.f47.results.toList.mapM (resR Try.prog) = some ir.field_In_Fail.rs := by kernel_rfl
theorem ir.field_In_Fail.spec {args : List Value} {h : AHeap} {v : Value} {h' : AHeap} (hn : args.length ≤ 24) :
    (wpC Try.prog nG ir.field_In_Fail (args.zipIdx.map fun p => (p.2, p.1)) h (retQ ir.field_In_Fail.rs h v h')) → Spec Try.prog nG fn.field_In_Fail args h v h' :=
  Spec.intro (fn := Try.f47) Try.func47 (c := Try.f47.body.getD .skip) (by kernel_rfl) ir.field_In_Fail.ok ir.field_In_Fail.rok hn
attribute [go_sem ↓] ir.field_In_Fail.r0.w ir.field_In_Fail.r1.w
attribute [go_sem] ir.field_In_Fail.rs

/-! ### (*fingerpost/fingerpostref03.In).Left: function 48 -/
def ir.ref03_In_Left.ks : Nat → List Nat := fun
  | 0 => [0]
  | 1 => [0, 7]
  | 2 => [2]
  | 3 => [2]
  | _ => []
def ir.ref03_In_Left.r0 : C := .region [0] [⟨some 2, .mv (.const (.int .i64 0)), none⟩]
theorem ir.ref03_In_Left.r0.w (e : Env) (h : AHeap) (Q : Post) : wpC Try.prog nG ir.ref03_In_Left.r0 e h Q = lk (look e 0) (fun v0 => wI Try.prog nG (.mv (.const (.int .i64 0))) h fun v2 h => Q .normal [(0, v0)] h) () := lkm (wR (Rn rfl fun v2 h => rfl))
def ir.ref03_In_Left.r1 : C := .region [0, 7] [⟨some 3, .mv (.tmp 0), none⟩, ⟨some 4, .nilck (.tmp 3), none⟩, ⟨some 5, .fld 2 (.tmp 4), none⟩, ⟨some 6, .load false 1 (.tmp 5), none⟩, ⟨some 7, .bin .neq (.tmp 6) (.const (.int .i64 0)), none⟩]
theorem ir.ref03_In_Left.r1.w (e : Env) (h : AHeap) (Q : Post) : wpC Try.prog nG ir.ref03_In_Left.r1 e h Q = lk (look e 0) (fun v0 => wI Try.prog nG (.mv (.const v0)) h fun v3 h => wI Try.prog nG (.nilck (.const v3)) h fun v4 h => wI Try.prog nG (.fld 2 (.const v4)) h fun v5 h => wI Try.prog nG (.load false 1 (.const v5)) h fun v6 h => wI Try.prog nG (.bin .neq (.const v6) (.const (.int .i64 0))) h fun v7 h => Q .normal [(0, v0), (7, v7)] h) () := lkm (wR (Rn rfl fun v3 h => Rn rfl fun v4 h => Rn rfl fun v5 h => Rn rfl fun v6 h => Rn rfl fun v7 h => rfl))
def ir.ref03_In_Left.r2 : C := .region [2] [⟨some 2, .mv (.const (.int .i64 0)), none⟩]
theorem ir.ref03_In_Left.r2.w (e : Env) (h : AHeap) (Q : Post) : wpC Try.prog nG ir.ref03_In_Left.r2 e h Q = wI Try.prog nG (.mv (.const (.int .i64 0))) h fun v2 h => Q .normal [(2, v2)] h := wR (Rn rfl fun v2 h => rfl)
def ir.ref03_In_Left.r3 : C := .draw [2] [⟨some 8, .mv (.tmp 0), none⟩, ⟨some 9, .nilck (.tmp 8), none⟩, ⟨some 10, .fld 0 (.tmp 9), none⟩, ⟨some 11, .load false 1 (.tmp 10), none⟩, ⟨some 12, .len false (.tmp 11), none⟩, ⟨some 13, .mv (.tmp 0), none⟩, ⟨some 14, .nilck (.tmp 13), none⟩, ⟨some 15, .fld 1 (.tmp 14), none⟩, ⟨some 16, .load false 1 (.tmp 15), none⟩, ⟨some 17, .bin .sub (.tmp 12) (.tmp 16), none⟩, ⟨some 2, .mv (.tmp 17), none⟩]
theorem ir.ref03_In_Left.r3.w (e : Env) (h : AHeap) (Q : Post) : wpC Try.prog nG ir.ref03_In_Left.r3 e h Q = lk (look e 0) (fun v0 => wI Try.prog nG (.mv (.const v0)) h fun v8 h => wI Try.prog nG (.nilck (.const v8)) h fun v9 h => wI Try.prog nG (.fld 0 (.const v9)) h fun v10 h => wI Try.prog nG (.load false 1 (.const v10)) h fun v11 h => wI Try.prog nG (.len false (.const v11)) h fun v12 h => wI Try.prog nG (.mv (.const v0)) h fun v13 h => wI Try.prog nG (.nilck (.const v13)) h fun v14 h => wI Try.prog nG (.fld 1 (.const v14)) h fun v15 h => wI Try.prog nG (.load false 1 (.const v15)) h fun v16 h => wI Try.prog nG (.bin .sub (.const v12) (.const v16)) h fun v17 h => wI Try.prog nG (.mv (.const v17)) h fun v2 h => Q .normal [(2, v2)] h) () := lkm (wDr (Dn rfl rfl fun v8 h => Dn rfl rfl fun v9 h => Dn rfl rfl fun v10 h => Dn rfl rfl fun v11 h => Dn rfl rfl fun v12 h => Dn rfl rfl fun v13 h => Dn rfl rfl fun v14 h => Dn rfl rfl fun v15 h => Dn rfl rfl fun v16 h => Dn rfl rfl fun v17 h => Dn rfl rfl fun v2 h => rfl))
def ir.ref03_In_Left : C := (.seq ir.ref03_In_Left.r0 (.seq (.seq ir.ref03_In_Left.r1 (.cond (.tmp 7) (.seq ir.ref03_In_Left.r2 .ret) .skip)) (.seq ir.ref03_In_Left.r3 .ret)))
theorem ir.ref03_In_Left.bw (e : Env) (h : AHeap) (Q : Post) : wpC Try.prog nG ir.ref03_In_Left e h Q = wpC Try.prog nG (.seq ir.ref03_In_Left.r0 (.seq (.seq ir.ref03_In_Left.r1 (.cond (.tmp 7) (.seq ir.ref03_In_Left.r2 .ret) .skip)) (.seq ir.ref03_In_Left.r3 .ret))) e h Q := (rfl)
def ir.ref03_In_Left.rs : List RV := [.tmp 2]
theorem ir.ref03_In_Left.ok : resC Try.prog nG 18 ir.ref03_In_Left.ks (Try.f48.body.getD .skip) = some ir.ref03_In_Left := by kernel_rfl
theorem ir.ref03_In_Left.rok : Try.f48.results.toList.mapM (resR Try.prog) = some ir.ref03_In_Left.rs := by kernel_rfl
theorem ir.ref03_In_Left.spec {args : List Value} {h : AHeap} {v : Value} {h' : AHeap} (hn : args.length ≤ 18) :
    (wpC Try.prog nG ir.ref03_In_Left (args.zipIdx.map fun p => (p.2, p.1)) h (retQ ir.ref03_In_Left.rs h v h')) → Spec Try.prog nG fn.ref03_In_Left args h v h' :=
  Spec.intro (fn := Try.f48) Try.func48 (c := Try.f48.body.getD .skip) (by kernel_rfl) ir.ref03_In_Left.ok ir.ref03_In_Left.rok hn
attribute [go_sem ↓] ir.ref03_In_Left.r0.w ir.ref03_In_Left.r1.w ir.ref03_In_Left.r2.w ir.ref03_In_Left.r3.w
attribute [go_sem] ir.ref03_In_Left.rs

/-! ### (fingerpost/renew.Record).bytes: function 50 -/
def ir.renew_Record_bytes.ks : Nat → List Nat := fun
  | 0 => [1]
  | 1 => [1, 3]
  | 2 => [1, 3]
  | 3 => [1, 3]
  | 4 => [1, 3]
  | 5 => [3]
  | 6 => [4]
  | 7 => [2]
  | _ => []
def ir.renew_Record_bytes.r0 : C := .region [1] [⟨some 1, .box (.tmp 0), none⟩, ⟨some 2, .mv (.const (.slice none 0 0)), none⟩]
theorem ir.renew_Record_bytes.r0.w (e : Env) (h : AHeap) (Q : Post) : wpC Try.prog nG ir.renew_Record_bytes.r0 e h Q = lk (look e 0) (fun v0 => wI Try.prog nG (.box (.const v0)) h fun v1 h => wI Try.prog nG (.mv (.const (.slice none 0 0))) h fun v2 h => Q .normal [(1, v1)] h) () := lkm (wR (Rn rfl fun v1 h => Rn rfl fun v2 h => rfl))
def ir.renew_Record_bytes.r1 : C := .region [1, 3] [⟨some 6, .call fn.field_Lay [], none⟩, ⟨some 3, .mv (.tmp 6), none⟩]
theorem ir.renew_Record_bytes.r1.w (e : Env) (h : AHeap) (Q : Post) : wpC Try.prog nG ir.renew_Record_bytes.r1 e h Q = lk (look e 1) (fun v1 => wI Try.prog nG (.call fn.field_Lay []) h fun v6 h => wI Try.prog nG (.mv (.const v6)) h fun v3 h => Q .normal [(1, v1), (3, v3)] h) () := lkm (wR (Rn rfl fun v6 h => Rn rfl fun v3 h => rfl))
def ir.renew_Record_bytes.r2 : C := .region [1, 3] [⟨some 7, .mv (.tmp 3), none⟩, ⟨some 8, .fld 0 (.tmp 1), none⟩, ⟨some 9, .load false 1 (.tmp 8), none⟩, ⟨some 10, .conv .u64 (.tmp 9), none⟩, ⟨some 11, .bin .and (.tmp 10) (.const (.int .u64 255)), none⟩, ⟨some 12, .call fn.field_Out_U8 [.tmp 7, .tmp 11], none⟩]
theorem ir.renew_Record_bytes.r2.w (e : Env) (h : AHeap) (Q : Post) : wpC Try.prog nG ir.renew_Record_bytes.r2 e h Q = lk (look e 1) (fun v1 => lk (look e 3) (fun v3 => wI Try.prog nG (.mv (.const v3)) h fun v7 h => wI Try.prog nG (.fld 0 (.const v1)) h fun v8 h => wI Try.prog nG (.load false 1 (.const v8)) h fun v9 h => wI Try.prog nG (.conv .u64 (.const v9)) h fun v10 h => wI Try.prog nG (.bin .and (.const v10) (.const (.int .u64 255))) h fun v11 h => wI Try.prog nG (.call fn.field_Out_U8 [.const v7, .const v11]) h fun v12 h => Q .normal [(1, v1), (3, v3)] h) ()) () := lkm (lkm (wR (Rn rfl fun v7 h => Rn rfl fun v8 h => Rn rfl fun v9 h => Rn rfl fun v10 h => Rn rfl fun v11 h => Rn rfl fun v12 h => rfl)))
def ir.renew_Record_bytes.r3 : C := .region [1, 3] [⟨some 13, .mv (.tmp 3), none⟩, ⟨some 14, .fld 1 (.tmp 1), none⟩, ⟨some 15, .load false 1 (.tmp 14), none⟩, ⟨some 16, .conv .u64 (.tmp 15), none⟩, ⟨some 17, .call fn.field_Out_U32 [.tmp 13, .tmp 16], none⟩]
theorem ir.renew_Record_bytes.r3.w (e : Env) (h : AHeap) (Q : Post) : wpC Try.prog nG ir.renew_Record_bytes.r3 e h Q = lk (look e 1) (fun v1 => lk (look e 3) (fun v3 => wI Try.prog nG (.mv (.const v3)) h fun v13 h => wI Try.prog nG (.fld 1 (.const v1)) h fun v14 h => wI Try.prog nG (.load false 1 (.const v14)) h fun v15 h => wI Try.prog nG (.conv .u64 (.const v15)) h fun v16 h => wI Try.prog nG (.call fn.field_Out_U32 [.const v13, .const v16]) h fun v17 h => Q .normal [(1, v1), (3, v3)] h) ()) () := lkm (lkm (wR (Rn rfl fun v13 h => Rn rfl fun v14 h => Rn rfl fun v15 h => Rn rfl fun v16 h => Rn rfl fun v17 h => rfl)))
def ir.renew_Record_bytes.r4 : C := .region [1, 3] [⟨some 18, .mv (.tmp 3), none⟩, ⟨some 19, .fld 2 (.tmp 1), none⟩, ⟨some 20, .load true 16 (.tmp 19), none⟩, ⟨some 21, .call fn.field_Out_Sum [.tmp 18, .tmp 20], none⟩]
theorem ir.renew_Record_bytes.r4.w (e : Env) (h : AHeap) (Q : Post) : wpC Try.prog nG ir.renew_Record_bytes.r4 e h Q = lk (look e 1) (fun v1 => lk (look e 3) (fun v3 => wI Try.prog nG (.mv (.const v3)) h fun v18 h => wI Try.prog nG (.fld 2 (.const v1)) h fun v19 h => wI Try.prog nG (.load true 16 (.const v19)) h fun v20 h => wI Try.prog nG (.call fn.field_Out_Sum [.const v18, .const v20]) h fun v21 h => Q .normal [(1, v1), (3, v3)] h) ()) () := lkm (lkm (wR (Rn rfl fun v18 h => Rn rfl fun v19 h => Rn rfl fun v20 h => Rn rfl fun v21 h => rfl)))
def ir.renew_Record_bytes.r5 : C := .region [3] [⟨some 22, .mv (.tmp 3), none⟩, ⟨some 23, .fld 18 (.tmp 1), none⟩, ⟨some 24, .load true 16 (.tmp 23), none⟩, ⟨some 25, .call fn.field_Out_Sum [.tmp 22, .tmp 24], none⟩]
theorem ir.renew_Record_bytes.r5.w (e : Env) (h : AHeap) (Q : Post) : wpC Try.prog nG ir.renew_Record_bytes.r5 e h Q = lk (look e 1) (fun v1 => lk (look e 3) (fun v3 => wI Try.prog nG (.mv (.const v3)) h fun v22 h => wI Try.prog nG (.fld 18 (.const v1)) h fun v23 h => wI Try.prog nG (.load true 16 (.const v23)) h fun v24 h => wI Try.prog nG (.call fn.field_Out_Sum [.const v22, .const v24]) h fun v25 h => Q .normal [(3, v3)] h) ()) () := lkm (lkm (wR (Rn rfl fun v22 h => Rn rfl fun v23 h => Rn rfl fun v24 h => Rn rfl fun v25 h => rfl)))
def ir.renew_Record_bytes.r6 : C := .region [4] [⟨some 27, .mv (.tmp 3), none⟩, ⟨some 28, .call fn.field_Out_Bytes [.tmp 27], none⟩, ⟨some 26, .mv (.tmp 28), none⟩, ⟨some 29, .ext (.tmp 26) 0, none⟩, ⟨some 30, .ext (.tmp 26) 1, none⟩, ⟨some 4, .mv (.tmp 29), none⟩, ⟨some 5, .mv (.tmp 30), none⟩]
theorem ir.renew_Record_bytes.r6.w (e : Env) (h : AHeap) (Q : Post) : wpC Try.prog nG ir.renew_Record_bytes.r6 e h Q = lk (look e 3) (fun v3 => wI Try.prog nG (.mv (.const v3)) h fun v27 h => wI Try.prog nG (.call fn.field_Out_Bytes [.const v27]) h fun v28 h => wI Try.prog nG (.mv (.const v28)) h fun v26 h => wI Try.prog nG (.ext (.const v26) 0) h fun v29 h => wI Try.prog nG (.ext (.const v26) 1) h fun v30 h => wI Try.prog nG (.mv (.const v29)) h fun v4 h => wI Try.prog nG (.mv (.const v30)) h fun v5 h => Q .normal [(4, v4)] h) () := lkm (wR (Rn rfl fun v27 h => Rn rfl fun v28 h => Rn rfl fun v26 h => Rn rfl fun v29 h => Rn rfl fun v30 h => Rn rfl fun v4 h => Rn rfl fun v5 h => rfl))
def ir.renew_Record_bytes.r7 : C := .region [2] [⟨some 31, .mv (.tmp 4), none⟩, ⟨some 2, .mv (.tmp 31), none⟩]
theorem ir.renew_Record_bytes.r7.w (e : Env) (h : AHeap) (Q : Post) : wpC Try.prog nG ir.renew_Record_bytes.r7 e h Q = lk (look e 4) (fun v4 => wI Try.prog nG (.mv (.const v4)) h fun v31 h => wI Try.prog nG (.mv (.const v31)) h fun v2 h => Q .normal [(2, v2)] h) () := lkm (wR (Rn rfl fun v31 h => Rn rfl fun v2 h => rfl))
def ir.renew_Record_bytes : C := (.seq ir.renew_Record_bytes.r0 (.seq ir.renew_Record_bytes.r1 (.seq ir.renew_Record_bytes.r2 (.seq ir.renew_Record_bytes.r3 (.seq ir.renew_Record_bytes.r4 (.seq ir.renew_Record_bytes.r5 (.seq ir.renew_Record_bytes.r6 (.seq ir.renew_Record_bytes.r7 .ret))))))))
theorem ir.renew_Record_bytes.bw (e : Env) (h : AHeap) (Q : Post) : wpC Try.prog nG ir.renew_Record_bytes e h Q = wpC Try.prog nG (.seq ir.renew_Record_bytes.r0 (.seq ir.renew_Record_bytes.r1 (.seq ir.renew_Record_bytes.r2 (.seq ir.renew_Record_bytes.r3 (.seq ir.renew_Record_bytes.r4 (.seq ir.renew_Record_bytes.r5 (.seq ir.renew_Record_bytes.r6 (.seq ir.renew_Record_bytes.r7 .ret)))))))) e h Q := (rfl)
def ir.renew_Record_bytes.rs : List RV := [.tmp 2]
theorem ir.renew_Record_bytes.ok : resC Try.prog nG 32 ir.renew_Record_bytes.ks (Try.f50.body.getD .skip) = some ir.renew_Record_bytes := by kernel_rfl
theorem ir.renew_Record_bytes.rok : Try.f50.results.toList.mapM (resR Try.prog) = some ir.renew_Record_bytes.rs := by kernel_rfl
theorem ir.renew_Record_bytes.spec {args : List Value} {h : AHeap} {v : Value} {h' : AHeap} (hn : args.length ≤ 32) :
    (wpC Try.prog nG ir.renew_Record_bytes (args.zipIdx.map fun p => (p.2, p.1)) h (retQ ir.renew_Record_bytes.rs h v h')) → Spec Try.prog nG fn.renew_Record_bytes args h v h' :=
  Spec.intro (fn := Try.f50) Try.func50 (c := Try.f50.body.getD .skip) (by kernel_rfl) ir.renew_Record_bytes.ok ir.renew_Record_bytes.rok hn
attribute [go_sem ↓] ir.renew_Record_bytes.r0.w ir.renew_Record_bytes.r1.w ir.renew_Record_bytes.r2.w ir.renew_Record_bytes.r3.w ir.renew_Record_bytes.r4.w ir.renew_Record_bytes.r5.w ir.renew_Record_bytes.r6.w ir.renew_Record_bytes.r7.w
attribute [go_sem] ir.renew_Record_bytes.rs

/-! ### fingerpost/ots.Cost: function 52 -/
def ir.ots_Cost.ks : Nat → List Nat := fun
  | 0 => [1]
  | 1 => [1, 3]
  | 2 => [3, 7, 8]
  | 3 => [3, 7, 8, 9]
  | 4 => [3, 5, 7, 8]
  | 5 => [3, 7, 8]
  | 6 => [3, 7, 8]
  | 7 => [2]
  | _ => []
def ir.ots_Cost.r0 : C := .region [1] [⟨some 1, .box (.tmp 0), none⟩, ⟨some 2, .mv (.const (.int .i64 0)), none⟩]
theorem ir.ots_Cost.r0.w (e : Env) (h : AHeap) (Q : Post) : wpC Try.prog nG ir.ots_Cost.r0 e h Q = lk (look e 0) (fun v0 => wI Try.prog nG (.box (.const v0)) h fun v1 h => wI Try.prog nG (.mv (.const (.int .i64 0))) h fun v2 h => Q .normal [(1, v1)] h) () := lkm (wR (Rn rfl fun v1 h => Rn rfl fun v2 h => rfl))
def ir.ots_Cost.r1 : C := .region [1, 3] [⟨some 3, .mv (.const (.int .i64 0)), none⟩]
theorem ir.ots_Cost.r1.w (e : Env) (h : AHeap) (Q : Post) : wpC Try.prog nG ir.ots_Cost.r1 e h Q = lk (look e 1) (fun v1 => wI Try.prog nG (.mv (.const (.int .i64 0))) h fun v3 h => Q .normal [(1, v1), (3, v3)] h) () := lkm (wR (Rn rfl fun v3 h => rfl))
def ir.ots_Cost.r2 : C := .region [3, 7, 8] [⟨some 6, .load true 16 (.tmp 1), none⟩, ⟨some 7, .call fn.ots_Digits [.tmp 6], none⟩, ⟨some 8, .mv (.const (.int .i64 0)), none⟩]
theorem ir.ots_Cost.r2.w (e : Env) (h : AHeap) (Q : Post) : wpC Try.prog nG ir.ots_Cost.r2 e h Q = lk (look e 1) (fun v1 => lk (look e 3) (fun v3 => wI Try.prog nG (.load true 16 (.const v1)) h fun v6 h => wI Try.prog nG (.call fn.ots_Digits [.const v6]) h fun v7 h => wI Try.prog nG (.mv (.const (.int .i64 0))) h fun v8 h => Q .normal [(3, v3), (7, v7), (8, v8)] h) ()) () := lkm (lkm (wR (Rn rfl fun v6 h => Rn rfl fun v7 h => Rn rfl fun v8 h => rfl)))
def ir.ots_Cost.r3 : C := .region [3, 7, 8, 9] [⟨some 9, .bin .lss (.tmp 8) (.const (.int .i64 68)), none⟩]
theorem ir.ots_Cost.r3.w (e : Env) (h : AHeap) (Q : Post) : wpC Try.prog nG ir.ots_Cost.r3 e h Q = lk (look e 3) (fun v3 => lk (look e 7) (fun v7 => lk (look e 8) (fun v8 => wI Try.prog nG (.bin .lss (.const v8) (.const (.int .i64 68))) h fun v9 h => Q .normal [(3, v3), (7, v7), (8, v8), (9, v9)] h) ()) ()) () := lkm (lkm (lkm (wR (Rn rfl fun v9 h => rfl))))
def ir.ots_Cost.r4 : C := .region [3, 5, 7, 8] [⟨some 10, .ixv false 68 1 (.tmp 7) (.tmp 8), none⟩, ⟨some 5, .mv (.tmp 10), none⟩]
theorem ir.ots_Cost.r4.w (e : Env) (h : AHeap) (Q : Post) : wpC Try.prog nG ir.ots_Cost.r4 e h Q = lk (look e 3) (fun v3 => lk (look e 7) (fun v7 => lk (look e 8) (fun v8 => wI Try.prog nG (.ixv false 68 1 (.const v7) (.const v8)) h fun v10 h => wI Try.prog nG (.mv (.const v10)) h fun v5 h => Q .normal [(3, v3), (5, v5), (7, v7), (8, v8)] h) ()) ()) () := lkm (lkm (lkm (wR (Rn rfl fun v10 h => Rn rfl fun v5 h => rfl))))
def ir.ots_Cost.r5 : C := .region [3, 7, 8] [⟨some 11, .mv (.tmp 3), none⟩, ⟨some 12, .mv (.tmp 5), none⟩, ⟨some 13, .conv .i64 (.tmp 12), none⟩, ⟨some 14, .bin .sub (.const (.int .i64 3)) (.tmp 13), none⟩, ⟨some 15, .bin .add (.tmp 11) (.tmp 14), none⟩, ⟨some 3, .mv (.tmp 15), none⟩]
theorem ir.ots_Cost.r5.w (e : Env) (h : AHeap) (Q : Post) : wpC Try.prog nG ir.ots_Cost.r5 e h Q = lk (look e 3) (fun v3 => lk (look e 5) (fun v5 => lk (look e 7) (fun v7 => lk (look e 8) (fun v8 => wI Try.prog nG (.mv (.const v3)) h fun v11 h => wI Try.prog nG (.mv (.const v5)) h fun v12 h => wI Try.prog nG (.conv .i64 (.const v12)) h fun v13 h => wI Try.prog nG (.bin .sub (.const (.int .i64 3)) (.const v13)) h fun v14 h => wI Try.prog nG (.bin .add (.const v11) (.const v14)) h fun v15 h => wI Try.prog nG (.mv (.const v15)) h fun v3 h => Q .normal [(3, v3), (7, v7), (8, v8)] h) ()) ()) ()) () := lkm (lkm (lkm (lkm (wR (Rn rfl fun v11 h => Rn rfl fun v12 h => Rn rfl fun v13 h => Rn rfl fun v14 h => Rn rfl fun v15 h => Rn rfl fun v3 h => rfl)))))
def ir.ots_Cost.r6 : C := .region [3, 7, 8] [⟨some 16, .bin .add (.tmp 8) (.const (.int .i64 1)), none⟩, ⟨some 8, .mv (.tmp 16), none⟩]
theorem ir.ots_Cost.r6.w (e : Env) (h : AHeap) (Q : Post) : wpC Try.prog nG ir.ots_Cost.r6 e h Q = lk (look e 3) (fun v3 => lk (look e 7) (fun v7 => lk (look e 8) (fun v8 => wI Try.prog nG (.bin .add (.const v8) (.const (.int .i64 1))) h fun v16 h => wI Try.prog nG (.mv (.const v16)) h fun v8 h => Q .normal [(3, v3), (7, v7), (8, v8)] h) ()) ()) () := lkm (lkm (lkm (wR (Rn rfl fun v16 h => Rn rfl fun v8 h => rfl))))
def ir.ots_Cost.l1.b : C := (.seq ir.ots_Cost.r3 (.seq (.cond (.tmp 9) .skip (.exit 0)) (.seq (.block 1 (.seq ir.ots_Cost.r4 ir.ots_Cost.r5)) ir.ots_Cost.r6)))
theorem ir.ots_Cost.l1.bw (e : Env) (h : AHeap) (Q : Post) : wpC Try.prog nG ir.ots_Cost.l1.b e h Q = wpC Try.prog nG (.seq ir.ots_Cost.r3 (.seq (.cond (.tmp 9) .skip (.exit 0)) (.seq (.block 1 (.seq ir.ots_Cost.r4 ir.ots_Cost.r5)) ir.ots_Cost.r6))) e h Q := (rfl)
def ir.ots_Cost.l1 : C := .loop ir.ots_Cost.l1.b
theorem ir.ots_Cost.l1.w (e : Env) (h : AHeap) (Q : Post) : wpC Try.prog nG ir.ots_Cost.l1 e h Q = loopV Try.prog nG ir.ots_Cost.l1.b e h Q () := (rfl)
def ir.ots_Cost.r7 : C := .region [2] [⟨some 17, .mv (.tmp 3), none⟩, ⟨some 18, .bin .add (.tmp 17) (.const (.int .i64 18)), none⟩, ⟨some 2, .mv (.tmp 18), none⟩]
theorem ir.ots_Cost.r7.w (e : Env) (h : AHeap) (Q : Post) : wpC Try.prog nG ir.ots_Cost.r7 e h Q = lk (look e 3) (fun v3 => wI Try.prog nG (.mv (.const v3)) h fun v17 h => wI Try.prog nG (.bin .add (.const v17) (.const (.int .i64 18))) h fun v18 h => wI Try.prog nG (.mv (.const v18)) h fun v2 h => Q .normal [(2, v2)] h) () := lkm (wR (Rn rfl fun v17 h => Rn rfl fun v18 h => Rn rfl fun v2 h => rfl))
def ir.ots_Cost : C := (.seq ir.ots_Cost.r0 (.seq ir.ots_Cost.r1 (.seq (.seq ir.ots_Cost.r2 (.block 0 ir.ots_Cost.l1)) (.seq ir.ots_Cost.r7 .ret))))
theorem ir.ots_Cost.bw (e : Env) (h : AHeap) (Q : Post) : wpC Try.prog nG ir.ots_Cost e h Q = wpC Try.prog nG (.seq ir.ots_Cost.r0 (.seq ir.ots_Cost.r1 (.seq (.seq ir.ots_Cost.r2 (.block 0 ir.ots_Cost.l1)) (.seq ir.ots_Cost.r7 .ret)))) e h Q := (rfl)
def ir.ots_Cost.rs : List RV := [.tmp 2]
theorem ir.ots_Cost.ok : resC Try.prog nG 19 ir.ots_Cost.ks (Try.f52.body.getD .skip) = some ir.ots_Cost := by kernel_rfl
theorem ir.ots_Cost.rok : Try.f52.results.toList.mapM (resR Try.prog) = some ir.ots_Cost.rs := by kernel_rfl
theorem ir.ots_Cost.spec {args : List Value} {h : AHeap} {v : Value} {h' : AHeap} (hn : args.length ≤ 19) :
    (wpC Try.prog nG ir.ots_Cost (args.zipIdx.map fun p => (p.2, p.1)) h (retQ ir.ots_Cost.rs h v h')) → Spec Try.prog nG fn.ots_Cost args h v h' :=
  Spec.intro (fn := Try.f52) Try.func52 (c := Try.f52.body.getD .skip) (by kernel_rfl) ir.ots_Cost.ok ir.ots_Cost.rok hn
attribute [go_sem ↓] ir.ots_Cost.r0.w ir.ots_Cost.r1.w ir.ots_Cost.r2.w ir.ots_Cost.r3.w ir.ots_Cost.r4.w ir.ots_Cost.r5.w ir.ots_Cost.r6.w ir.ots_Cost.l1.w ir.ots_Cost.r7.w
attribute [go_sem] ir.ots_Cost.rs

/-! ### fingerpost/fingerpostref10.Digits: function 53 -/
def ir.ref10_Digits.ks : Nat → List Nat := fun
  | 0 => [1, 2]
  | 1 => [1, 2, 3]
  | 2 => [1, 2, 3, 4]
  | 3 => [1, 2, 3, 4, 5]
  | 4 => [1, 2, 3, 4, 5, 10]
  | 5 => [1, 2, 3, 4, 5]
  | 6 => [1, 2, 3, 4, 5, 6]
  | 7 => [1, 2, 3, 4, 5, 6, 7]
  | 8 => [1, 2, 3, 4, 5, 6, 7, 17]
  | 9 => [1, 2, 3, 4, 5, 6, 7]
  | 10 => [1, 2, 3, 4, 5, 6, 7]
  | 11 => [1, 2, 3, 4, 5, 6, 7]
  | 12 => [1, 2, 3, 4, 5, 6, 7]
  | 13 => [2, 3, 4, 8]
  | 14 => [2, 3, 4, 8, 36]
  | 15 => [2, 3, 4, 8]
  | 16 => [2, 3, 4, 8]
  | 17 => [2, 3, 4, 8]
  | 18 => [2]
  | _ => []
def ir.ref10_Digits.r0 : C := .region [1, 2] [⟨some 1, .box (.tmp 0), none⟩, ⟨some 2, .new (zrep 68 (.int .u8 0)), none⟩]
theorem ir.ref10_Digits.r0.w (e : Env) (h : AHeap) (Q : Post) : wpC Try.prog nG ir.ref10_Digits.r0 e h Q = lk (look e 0) (fun v0 => wI Try.prog nG (.box (.const v0)) h fun v1 h => wI Try.prog nG (.new (zrep 68 (.int .u8 0))) h fun v2 h => Q .normal [(1, v1), (2, v2)] h) () := lkm (wR (Rn rfl fun v1 h => Rn rfl fun v2 h => rfl))
def ir.ref10_Digits.r1 : C := .region [1, 2, 3] [⟨some 3, .new (zrep 68 (.int .u8 0)), none⟩]
theorem ir.ref10_Digits.r1.w (e : Env) (h : AHeap) (Q : Post) : wpC Try.prog nG ir.ref10_Digits.r1 e h Q = lk (look e 1) (fun v1 => lk (look e 2) (fun v2 => wI Try.prog nG (.new (zrep 68 (.int .u8 0))) h fun v3 h => Q .normal [(1, v1), (2, v2), (3, v3)] h) ()) () := lkm (lkm (wR (Rn rfl fun v3 h => rfl)))
def ir.ref10_Digits.r2 : C := .region [1, 2, 3, 4] [⟨some 4, .mv (.const (.int .i64 0)), none⟩]
theorem ir.ref10_Digits.r2.w (e : Env) (h : AHeap) (Q : Post) : wpC Try.prog nG ir.ref10_Digits.r2 e h Q = lk (look e 1) (fun v1 => lk (look e 2) (fun v2 => lk (look e 3) (fun v3 => wI Try.prog nG (.mv (.const (.int .i64 0))) h fun v4 h => Q .normal [(1, v1), (2, v2), (3, v3), (4, v4)] h) ()) ()) () := lkm (lkm (lkm (wR (Rn rfl fun v4 h => rfl))))
def ir.ref10_Digits.r3 : C := .region [1, 2, 3, 4, 5] [⟨some 5, .mv (.const (.int .i64 0)), none⟩]
theorem ir.ref10_Digits.r3.w (e : Env) (h : AHeap) (Q : Post) : wpC Try.prog nG ir.ref10_Digits.r3 e h Q = lk (look e 1) (fun v1 => lk (look e 2) (fun v2 => lk (look e 3) (fun v3 => lk (look e 4) (fun v4 => wI Try.prog nG (.mv (.const (.int .i64 0))) h fun v5 h => Q .normal [(1, v1), (2, v2), (3, v3), (4, v4), (5, v5)] h) ()) ()) ()) () := lkm (lkm (lkm (lkm (wR (Rn rfl fun v5 h => rfl)))))
def ir.ref10_Digits.r4 : C := .region [1, 2, 3, 4, 5, 10] [⟨some 9, .mv (.tmp 5), none⟩, ⟨some 10, .bin .lss (.tmp 9) (.const (.int .i64 16)), none⟩]
theorem ir.ref10_Digits.r4.w (e : Env) (h : AHeap) (Q : Post) : wpC Try.prog nG ir.ref10_Digits.r4 e h Q = lk (look e 1) (fun v1 => lk (look e 2) (fun v2 => lk (look e 3) (fun v3 => lk (look e 4) (fun v4 => lk (look e 5) (fun v5 => wI Try.prog nG (.mv (.const v5)) h fun v9 h => wI Try.prog nG (.bin .lss (.const v9) (.const (.int .i64 16))) h fun v10 h => Q .normal [(1, v1), (2, v2), (3, v3), (4, v4), (5, v5), (10, v10)] h) ()) ()) ()) ()) () := lkm (lkm (lkm (lkm (lkm (wR (Rn rfl fun v9 h => Rn rfl fun v10 h => rfl))))))
def ir.ref10_Digits.r6 : C := .region [1, 2, 3, 4, 5, 6] [⟨some 13, .mv (.tmp 5), none⟩, ⟨some 14, .ixa 16 1 (.tmp 1) (.tmp 13), none⟩, ⟨some 15, .load false 1 (.tmp 14), none⟩, ⟨some 6, .mv (.tmp 15), none⟩]
theorem ir.ref10_Digits.r6.w (e : Env) (h : AHeap) (Q : Post) : wpC Try.prog nG ir.ref10_Digits.r6 e h Q = lk (look e 1) (fun v1 => lk (look e 2) (fun v2 => lk (look e 3) (fun v3 => lk (look e 4) (fun v4 => lk (look e 5) (fun v5 => wI Try.prog nG (.mv (.const v5)) h fun v13 h => wI Try.prog nG (.ixa 16 1 (.const v1) (.const v13)) h fun v14 h => wI Try.prog nG (.load false 1 (.const v14)) h fun v15 h => wI Try.prog nG (.mv (.const v15)) h fun v6 h => Q .normal [(1, v1), (2, v2), (3, v3), (4, v4), (5, v5), (6, v6)] h) ()) ()) ()) ()) () := lkm (lkm (lkm (lkm (lkm (wR (Rn rfl fun v13 h => Rn rfl fun v14 h => Rn rfl fun v15 h => Rn rfl fun v6 h => rfl))))))
def ir.ref10_Digits.r7 : C := .region [1, 2, 3, 4, 5, 6, 7] [⟨some 7, .mv (.const (.int .i64 3)), none⟩]
theorem ir.ref10_Digits.r7.w (e : Env) (h : AHeap) (Q : Post) : wpC Try.prog nG ir.ref10_Digits.r7 e h Q = lk (look e 1) (fun v1 => lk (look e 2) (fun v2 => lk (look e 3) (fun v3 => lk (look e 4) (fun v4 => lk (look e 5) (fun v5 => lk (look e 6) (fun v6 => wI Try.prog nG (.mv (.const (.int .i64 3))) h fun v7 h => Q .normal [(1, v1), (2, v2), (3, v3), (4, v4), (5, v5), (6, v6), (7, v7)] h) ()) ()) ()) ()) ()) () := lkm (lkm (lkm (lkm (lkm (lkm (wR (Rn rfl fun v7 h => rfl)))))))
def ir.ref10_Digits.r8 : C := .region [1, 2, 3, 4, 5, 6, 7, 17] [⟨some 16, .mv (.tmp 7), none⟩, ⟨some 17, .bin .geq (.tmp 16) (.const (.int .i64 0)), none⟩]
theorem ir.ref10_Digits.r8.w (e : Env) (h : AHeap) (Q : Post) : wpC Try.prog nG ir.ref10_Digits.r8 e h Q = lk (look e 1) (fun v1 => lk (look e 2) (fun v2 => lk (look e 3) (fun v3 => lk (look e 4) (fun v4 => lk (look e 5) (fun v5 => lk (look e 6) (fun v6 => lk (look e 7) (fun v7 => wI Try.prog nG (.mv (.const v7)) h fun v16 h => wI Try.prog nG (.bin .geq (.const v16) (.const (.int .i64 0))) h fun v17 h => Q .normal [(1, v1), (2, v2), (3, v3), (4, v4), (5, v5), (6, v6), (7, v7), (17, v17)] h) ()) ()) ()) ()) ()) ()) () := lkm (lkm (lkm (lkm (lkm (lkm (lkm (wR (Rn rfl fun v16 h => Rn rfl fun v17 h => rfl))))))))
def ir.ref10_Digits.r10 : C := .region [1, 2, 3, 4, 5, 6, 7] [⟨some 20, .mv (.tmp 5), none⟩, ⟨some 21, .bin .mul (.const (.int .i64 4)) (.tmp 20), none⟩, ⟨some 22, .mv (.tmp 7), none⟩, ⟨some 23, .bin .add (.tmp 21) (.tmp 22), none⟩, ⟨some 24, .mv (.tmp 6), none⟩, ⟨some 25, .bin .rem (.tmp 24) (.const (.int .u8 4)), none⟩, ⟨some 26, .ixa 68 1 (.tmp 3) (.tmp 23), none⟩, ⟨none, .store 1 (.tmp 26) (.tmp 25), none⟩]
theorem ir.ref10_Digits.r10.w (e : Env) (h : AHeap) (Q : Post) : wpC Try.prog nG ir.ref10_Digits.r10 e h Q = lk (look e 1) (fun v1 => lk (look e 2) (fun v2 => lk (look e 3) (fun v3 => lk (look e 4) (fun v4 => lk (look e 5) (fun v5 => lk (look e 6) (fun v6 => lk (look e 7) (fun v7 => wI Try.prog nG (.mv (.const v5)) h fun v20 h => wI Try.prog nG (.bin .mul (.const (.int .i64 4)) (.const v20)) h fun v21 h => wI Try.prog nG (.mv (.const v7)) h fun v22 h => wI Try.prog nG (.bin .add (.const v21) (.const v22)) h fun v23 h => wI Try.prog nG (.mv (.const v6)) h fun v24 h => wI Try.prog nG (.bin .rem (.const v24) (.const (.int .u8 4))) h fun v25 h => wI Try.prog nG (.ixa 68 1 (.const v3) (.const v23)) h fun v26 h => wI Try.prog nG (.store 1 (.const v26) (.const v25)) h fun _ h => Q .normal [(1, v1), (2, v2), (3, v3), (4, v4), (5, v5), (6, v6), (7, v7)] h) ()) ()) ()) ()) ()) ()) () := lkm (lkm (lkm (lkm (lkm (lkm (lkm (wR (Rn rfl fun v20 h => Rn rfl fun v21 h => Rn rfl fun v22 h => Rn rfl fun v23 h => Rn rfl fun v24 h => Rn rfl fun v25 h => Rn rfl fun v26 h => Rz rfl fun v_ h => rfl))))))))
def ir.ref10_Digits.r11 : C := .region [1, 2, 3, 4, 5, 6, 7] [⟨some 27, .mv (.tmp 4), none⟩, ⟨some 28, .bin .add (.tmp 27) (.const (.int .i64 3)), none⟩, ⟨some 29, .mv (.tmp 6), none⟩, ⟨some 30, .bin .rem (.tmp 29) (.const (.int .u8 4)), none⟩, ⟨some 31, .conv .i64 (.tmp 30), none⟩, ⟨some 32, .bin .sub (.tmp 28) (.tmp 31), none⟩, ⟨some 4, .mv (.tmp 32), none⟩]
theorem ir.ref10_Digits.r11.w (e : Env) (h : AHeap) (Q : Post) : wpC Try.prog nG ir.ref10_Digits.r11 e h Q = lk (look e 1) (fun v1 => lk (look e 2) (fun v2 => lk (look e 3) (fun v3 => lk (look e 4) (fun v4 => lk (look e 5) (fun v5 => lk (look e 6) (fun v6 => lk (look e 7) (fun v7 => wI Try.prog nG (.mv (.const v4)) h fun v27 h => wI Try.prog nG (.bin .add (.const v27) (.const (.int .i64 3))) h fun v28 h => wI Try.prog nG (.mv (.const v6)) h fun v29 h => wI Try.prog nG (.bin .rem (.const v29) (.const (.int .u8 4))) h fun v30 h => wI Try.prog nG (.conv .i64 (.const v30)) h fun v31 h => wI Try.prog nG (.bin .sub (.const v28) (.const v31)) h fun v32 h => wI Try.prog nG (.mv (.const v32)) h fun v4 h => Q .normal [(1, v1), (2, v2), (3, v3), (4, v4), (5, v5), (6, v6), (7, v7)] h) ()) ()) ()) ()) ()) ()) () := lkm (lkm (lkm (lkm (lkm (lkm (lkm (wR (Rn rfl fun v27 h => Rn rfl fun v28 h => Rn rfl fun v29 h => Rn rfl fun v30 h => Rn rfl fun v31 h => Rn rfl fun v32 h => Rn rfl fun v4 h => rfl))))))))
def ir.ref10_Digits.r12 : C := .region [1, 2, 3, 4, 5, 6, 7] [⟨some 33, .mv (.tmp 6), none⟩, ⟨some 34, .bin .quo (.tmp 33) (.const (.int .u8 4)), none⟩, ⟨some 6, .mv (.tmp 34), none⟩]
theorem ir.ref10_Digits.r12.w (e : Env) (h : AHeap) (Q : Post) : wpC Try.prog nG ir.ref10_Digits.r12 e h Q = lk (look e 1) (fun v1 => lk (look e 2) (fun v2 => lk (look e 3) (fun v3 => lk (look e 4) (fun v4 => lk (look e 5) (fun v5 => lk (look e 6) (fun v6 => lk (look e 7) (fun v7 => wI Try.prog nG (.mv (.const v6)) h fun v33 h => wI Try.prog nG (.bin .quo (.const v33) (.const (.int .u8 4))) h fun v34 h => wI Try.prog nG (.mv (.const v34)) h fun v6 h => Q .normal [(1, v1), (2, v2), (3, v3), (4, v4), (5, v5), (6, v6), (7, v7)] h) ()) ()) ()) ()) ()) ()) () := lkm (lkm (lkm (lkm (lkm (lkm (lkm (wR (Rn rfl fun v33 h => Rn rfl fun v34 h => Rn rfl fun v6 h => rfl))))))))
def ir.ref10_Digits.r9 : C := .region [1, 2, 3, 4, 5, 6, 7] [⟨some 18, .mv (.tmp 7), none⟩, ⟨some 19, .bin .sub (.tmp 18) (.const (.int .i64 1)), none⟩, ⟨some 7, .mv (.tmp 19), none⟩]
theorem ir.ref10_Digits.r9.w (e : Env) (h : AHeap) (Q : Post) : wpC Try.prog nG ir.ref10_Digits.r9 e h Q = lk (look e 1) (fun v1 => lk (look e 2) (fun v2 => lk (look e 3) (fun v3 => lk (look e 4) (fun v4 => lk (look e 5) (fun v5 => lk (look e 6) (fun v6 => lk (look e 7) (fun v7 => wI Try.prog nG (.mv (.const v7)) h fun v18 h => wI Try.prog nG (.bin .sub (.const v18) (.const (.int .i64 1))) h fun v19 h => wI Try.prog nG (.mv (.const v19)) h fun v7 h => Q .normal [(1, v1), (2, v2), (3, v3), (4, v4), (5, v5), (6, v6), (7, v7)] h) ()) ()) ()) ()) ()) ()) () := lkm (lkm (lkm (lkm (lkm (lkm (lkm (wR (Rn rfl fun v18 h => Rn rfl fun v19 h => Rn rfl fun v7 h => rfl))))))))
def ir.ref10_Digits.l1.b : C := (.seq (.seq ir.ref10_Digits.r8 (.cond (.tmp 17) .skip (.exit 2))) (.seq (.block 3 (.seq ir.ref10_Digits.r10 (.seq ir.ref10_Digits.r11 ir.ref10_Digits.r12))) ir.ref10_Digits.r9))
theorem ir.ref10_Digits.l1.bw (e : Env) (h : AHeap) (Q : Post) : wpC Try.prog nG ir.ref10_Digits.l1.b e h Q = wpC Try.prog nG (.seq (.seq ir.ref10_Digits.r8 (.cond (.tmp 17) .skip (.exit 2))) (.seq (.block 3 (.seq ir.ref10_Digits.r10 (.seq ir.ref10_Digits.r11 ir.ref10_Digits.r12))) ir.ref10_Digits.r9)) e h Q := (rfl)
def ir.ref10_Digits.l1 : C := .loop ir.ref10_Digits.l1.b
theorem ir.ref10_Digits.l1.w (e : Env) (h : AHeap) (Q : Post) : wpC Try.prog nG ir.ref10_Digits.l1 e h Q = loopV Try.prog nG ir.ref10_Digits.l1.b e h Q () := (rfl)
def ir.ref10_Digits.r5 : C := .region [1, 2, 3, 4, 5] [⟨some 11, .mv (.tmp 5), none⟩, ⟨some 12, .bin .add (.tmp 11) (.const (.int .i64 1)), none⟩, ⟨some 5, .mv (.tmp 12), none⟩]
theorem ir.ref10_Digits.r5.w (e : Env) (h : AHeap) (Q : Post) : wpC Try.prog nG ir.ref10_Digits.r5 e h Q = lk (look e 1) (fun v1 => lk (look e 2) (fun v2 => lk (look e 3) (fun v3 => lk (look e 4) (fun v4 => lk (look e 5) (fun v5 => wI Try.prog nG (.mv (.const v5)) h fun v11 h => wI Try.prog nG (.bin .add (.const v11) (.const (.int .i64 1))) h fun v12 h => wI Try.prog nG (.mv (.const v12)) h fun v5 h => Q .normal [(1, v1), (2, v2), (3, v3), (4, v4), (5, v5)] h) ()) ()) ()) ()) () := lkm (lkm (lkm (lkm (lkm (wR (Rn rfl fun v11 h => Rn rfl fun v12 h => Rn rfl fun v5 h => rfl))))))
def ir.ref10_Digits.l2.b : C := (.seq (.seq ir.ref10_Digits.r4 (.cond (.tmp 10) .skip (.exit 0))) (.seq (.block 1 (.seq ir.ref10_Digits.r6 (.seq ir.ref10_Digits.r7 (.block 2 ir.ref10_Digits.l1)))) ir.ref10_Digits.r5))
theorem ir.ref10_Digits.l2.bw (e : Env) (h : AHeap) (Q : Post) : wpC Try.prog nG ir.ref10_Digits.l2.b e h Q = wpC Try.prog nG (.seq (.seq ir.ref10_Digits.r4 (.cond (.tmp 10) .skip (.exit 0))) (.seq (.block 1 (.seq ir.ref10_Digits.r6 (.seq ir.ref10_Digits.r7 (.block 2 ir.ref10_Digits.l1)))) ir.ref10_Digits.r5)) e h Q := (rfl)
def ir.ref10_Digits.l2 : C := .loop ir.ref10_Digits.l2.b
theorem ir.ref10_Digits.l2.w (e : Env) (h : AHeap) (Q : Post) : wpC Try.prog nG ir.ref10_Digits.l2 e h Q = loopV Try.prog nG ir.ref10_Digits.l2.b e h Q () := (rfl)
def ir.ref10_Digits.r13 : C := .region [2, 3, 4, 8] [⟨some 8, .mv (.const (.int .i64 3)), none⟩]
theorem ir.ref10_Digits.r13.w (e : Env) (h : AHeap) (Q : Post) : wpC Try.prog nG ir.ref10_Digits.r13 e h Q = lk (look e 2) (fun v2 => lk (look e 3) (fun v3 => lk (look e 4) (fun v4 => wI Try.prog nG (.mv (.const (.int .i64 3))) h fun v8 h => Q .normal [(2, v2), (3, v3), (4, v4), (8, v8)] h) ()) ()) () := lkm (lkm (lkm (wR (Rn rfl fun v8 h => rfl))))
def ir.ref10_Digits.r14 : C := .region [2, 3, 4, 8, 36] [⟨some 35, .mv (.tmp 8), none⟩, ⟨some 36, .bin .geq (.tmp 35) (.const (.int .i64 0)), none⟩]
theorem ir.ref10_Digits.r14.w (e : Env) (h : AHeap) (Q : Post) : wpC Try.prog nG ir.ref10_Digits.r14 e h Q = lk (look e 2) (fun v2 => lk (look e 3) (fun v3 => lk (look e 4) (fun v4 => lk (look e 8) (fun v8 => wI Try.prog nG (.mv (.const v8)) h fun v35 h => wI Try.prog nG (.bin .geq (.const v35) (.const (.int .i64 0))) h fun v36 h => Q .normal [(2, v2), (3, v3), (4, v4), (8, v8), (36, v36)] h) ()) ()) ()) () := lkm (lkm (lkm (lkm (wR (Rn rfl fun v35 h => Rn rfl fun v36 h => rfl)))))
def ir.ref10_Digits.r16 : C := .region [2, 3, 4, 8] [⟨some 39, .mv (.tmp 8), none⟩, ⟨some 40, .bin .add (.const (.int .i64 64)) (.tmp 39), none⟩, ⟨some 41, .mv (.tmp 4), none⟩, ⟨some 42, .bin .rem (.tmp 41) (.const (.int .i64 4)), none⟩, ⟨some 43, .conv .u8 (.tmp 42), none⟩, ⟨some 44, .ixa 68 1 (.tmp 3) (.tmp 40), none⟩, ⟨none, .store 1 (.tmp 44) (.tmp 43), none⟩]
theorem ir.ref10_Digits.r16.w (e : Env) (h : AHeap) (Q : Post) : wpC Try.prog nG ir.ref10_Digits.r16 e h Q = lk (look e 2) (fun v2 => lk (look e 3) (fun v3 => lk (look e 4) (fun v4 => lk (look e 8) (fun v8 => wI Try.prog nG (.mv (.const v8)) h fun v39 h => wI Try.prog nG (.bin .add (.const (.int .i64 64)) (.const v39)) h fun v40 h => wI Try.prog nG (.mv (.const v4)) h fun v41 h => wI Try.prog nG (.bin .rem (.const v41) (.const (.int .i64 4))) h fun v42 h => wI Try.prog nG (.conv .u8 (.const v42)) h fun v43 h => wI Try.prog nG (.ixa 68 1 (.const v3) (.const v40)) h fun v44 h => wI Try.prog nG (.store 1 (.const v44) (.const v43)) h fun _ h => Q .normal [(2, v2), (3, v3), (4, v4), (8, v8)] h) ()) ()) ()) () := lkm (lkm (lkm (lkm (wR (Rn rfl fun v39 h => Rn rfl fun v40 h => Rn rfl fun v41 h => Rn rfl fun v42 h => Rn rfl fun v43 h => Rn rfl fun v44 h => Rz rfl fun v_ h => rfl)))))
def ir.ref10_Digits.r17 : C := .region [2, 3, 4, 8] [⟨some 45, .mv (.tmp 4), none⟩, ⟨some 46, .bin .quo (.tmp 45) (.const (.int .i64 4)), none⟩, ⟨some 4, .mv (.tmp 46), none⟩]
theorem ir.ref10_Digits.r17.w (e : Env) (h : AHeap) (Q : Post) : wpC Try.prog nG ir.ref10_Digits.r17 e h Q = lk (look e 2) (fun v2 => lk (look e 3) (fun v3 => lk (look e 4) (fun v4 => lk (look e 8) (fun v8 => wI Try.prog nG (.mv (.const v4)) h fun v45 h => wI Try.prog nG (.bin .quo (.const v45) (.const (.int .i64 4))) h fun v46 h => wI Try.prog nG (.mv (.const v46)) h fun v4 h => Q .normal [(2, v2), (3, v3), (4, v4), (8, v8)] h) ()) ()) ()) () := lkm (lkm (lkm (lkm (wR (Rn rfl fun v45 h => Rn rfl fun v46 h => Rn rfl fun v4 h => rfl)))))
def ir.ref10_Digits.r15 : C := .region [2, 3, 4, 8] [⟨some 37, .mv (.tmp 8), none⟩, ⟨some 38, .bin .sub (.tmp 37) (.const (.int .i64 1)), none⟩, ⟨some 8, .mv (.tmp 38), none⟩]
theorem ir.ref10_Digits.r15.w (e : Env) (h : AHeap) (Q : Post) : wpC Try.prog nG ir.ref10_Digits.r15 e h Q = lk (look e 2) (fun v2 => lk (look e 3) (fun v3 => lk (look e 4) (fun v4 => lk (look e 8) (fun v8 => wI Try.prog nG (.mv (.const v8)) h fun v37 h => wI Try.prog nG (.bin .sub (.const v37) (.const (.int .i64 1))) h fun v38 h => wI Try.prog nG (.mv (.const v38)) h fun v8 h => Q .normal [(2, v2), (3, v3), (4, v4), (8, v8)] h) ()) ()) ()) () := lkm (lkm (lkm (lkm (wR (Rn rfl fun v37 h => Rn rfl fun v38 h => Rn rfl fun v8 h => rfl)))))
def ir.ref10_Digits.l3.b : C := (.seq (.seq ir.ref10_Digits.r14 (.cond (.tmp 36) .skip (.exit 4))) (.seq (.block 5 (.seq ir.ref10_Digits.r16 ir.ref10_Digits.r17)) ir.ref10_Digits.r15))
theorem ir.ref10_Digits.l3.bw (e : Env) (h : AHeap) (Q : Post) : wpC Try.prog nG ir.ref10_Digits.l3.b e h Q = wpC Try.prog nG (.seq (.seq ir.ref10_Digits.r14 (.cond (.tmp 36) .skip (.exit 4))) (.seq (.block 5 (.seq ir.ref10_Digits.r16 ir.ref10_Digits.r17)) ir.ref10_Digits.r15)) e h Q := (rfl)
def ir.ref10_Digits.l3 : C := .loop ir.ref10_Digits.l3.b
theorem ir.ref10_Digits.l3.w (e : Env) (h : AHeap) (Q : Post) : wpC Try.prog nG ir.ref10_Digits.l3 e h Q = loopV Try.prog nG ir.ref10_Digits.l3.b e h Q () := (rfl)
def ir.ref10_Digits.r18 : C := .region [2] [⟨some 47, .load true 68 (.tmp 3), none⟩, ⟨none, .store 68 (.tmp 2) (.tmp 47), none⟩]
theorem ir.ref10_Digits.r18.w (e : Env) (h : AHeap) (Q : Post) : wpC Try.prog nG ir.ref10_Digits.r18 e h Q = lk (look e 2) (fun v2 => lk (look e 3) (fun v3 => wI Try.prog nG (.load true 68 (.const v3)) h fun v47 h => wI Try.prog nG (.store 68 (.const v2) (.const v47)) h fun _ h => Q .normal [(2, v2)] h) ()) () := lkm (lkm (wR (Rn rfl fun v47 h => Rz rfl fun v_ h => rfl)))
def ir.ref10_Digits : C := (.seq ir.ref10_Digits.r0 (.seq ir.ref10_Digits.r1 (.seq ir.ref10_Digits.r2 (.seq (.seq ir.ref10_Digits.r3 (.block 0 ir.ref10_Digits.l2)) (.seq (.seq ir.ref10_Digits.r13 (.block 4 ir.ref10_Digits.l3)) (.seq ir.ref10_Digits.r18 .ret))))))
theorem ir.ref10_Digits.bw (e : Env) (h : AHeap) (Q : Post) : wpC Try.prog nG ir.ref10_Digits e h Q = wpC Try.prog nG (.seq ir.ref10_Digits.r0 (.seq ir.ref10_Digits.r1 (.seq ir.ref10_Digits.r2 (.seq (.seq ir.ref10_Digits.r3 (.block 0 ir.ref10_Digits.l2)) (.seq (.seq ir.ref10_Digits.r13 (.block 4 ir.ref10_Digits.l3)) (.seq ir.ref10_Digits.r18 .ret)))))) e h Q := (rfl)
def ir.ref10_Digits.rs : List RV := [.cell 2 true 68]
theorem ir.ref10_Digits.ok : resC Try.prog nG 48 ir.ref10_Digits.ks (Try.f53.body.getD .skip) = some ir.ref10_Digits := by kernel_rfl
theorem ir.ref10_Digits.rok : Try.f53.results.toList.mapM (resR Try.prog) = some ir.ref10_Digits.rs := by kernel_rfl
theorem ir.ref10_Digits.spec {args : List Value} {h : AHeap} {v : Value} {h' : AHeap} (hn : args.length ≤ 48) :
    (wpC Try.prog nG ir.ref10_Digits (args.zipIdx.map fun p => (p.2, p.1)) h (retQ ir.ref10_Digits.rs h v h')) → Spec Try.prog nG fn.ref10_Digits args h v h' :=
  Spec.intro (fn := Try.f53) Try.func53 (c := Try.f53.body.getD .skip) (by kernel_rfl) ir.ref10_Digits.ok ir.ref10_Digits.rok hn
attribute [go_sem ↓] ir.ref10_Digits.r0.w ir.ref10_Digits.r1.w ir.ref10_Digits.r2.w ir.ref10_Digits.r3.w ir.ref10_Digits.r4.w ir.ref10_Digits.r6.w ir.ref10_Digits.r7.w ir.ref10_Digits.r8.w ir.ref10_Digits.r10.w ir.ref10_Digits.r11.w ir.ref10_Digits.r12.w ir.ref10_Digits.r9.w ir.ref10_Digits.l1.w ir.ref10_Digits.r5.w ir.ref10_Digits.l2.w ir.ref10_Digits.r13.w ir.ref10_Digits.r14.w ir.ref10_Digits.r16.w ir.ref10_Digits.r17.w ir.ref10_Digits.r15.w ir.ref10_Digits.l3.w ir.ref10_Digits.r18.w
attribute [go_sem] ir.ref10_Digits.rs

/-! ### (*fingerpost/field.Out).put: function 59 -/
def ir.field_Out_put.ks : Nat → List Nat := fun
  | 0 => [0, 1, 2, 7]
  | 1 => [0, 1, 2, 16]
  | 2 => []
  | 3 => [0, 1, 2]
  | 4 => [0, 1, 2, 23]
  | 5 => [0, 1, 2]
  | 6 => [0, 1, 2]
  | _ => []
def ir.field_Out_put.r0 : C := .region [0, 1, 2, 7] [⟨some 6, .mv (.tmp 0), none⟩, ⟨some 7, .eqn 0 false (.tmp 6), none⟩]
theorem ir.field_Out_put.r0.w (e : Env) (h : AHeap) (Q : Post) : wpC Try.prog nG ir.field_Out_put.r0 e h Q = lk (look e 0) (fun v0 => lk (look e 1) (fun v1 => lk (look e 2) (fun v2 => wI Try.prog nG (.mv (.const v0)) h fun v6 h => wI Try.prog nG (.eqn 0 false (.const v6)) h fun v7 h => Q .normal [(0, v0), (1, v1), (2, v2), (7, v7)] h) ()) ()) () := lkm (lkm (lkm (wR (Rn rfl fun v6 h => Rn rfl fun v7 h => rfl))))
def ir.field_Out_put.r1 : C := .region [0, 1, 2, 16] [⟨some 8, .mv (.tmp 2), none⟩, ⟨some 9, .bin .lss (.tmp 8) (.const (.int .i64 8)), none⟩, ⟨some 10, .mv (.tmp 9), none⟩, ⟨some 11, .mv (.tmp 1), some (10, true)⟩, ⟨some 12, .mv (.tmp 2), some (10, true)⟩, ⟨some 13, .bin .mul (.const (.int .i64 8)) (.tmp 12), some (10, true)⟩, ⟨some 14, .bin .shr (.tmp 11) (.tmp 13), some (10, true)⟩, ⟨some 15, .bin .neq (.tmp 14) (.const (.int .u64 0)), some (10, true)⟩, ⟨some 16, .pick (.tmp 10) (.tmp 15) (.const (.bool false)), none⟩]
theorem ir.field_Out_put.r1.w (e : Env) (h : AHeap) (Q : Post) : wpC Try.prog nG ir.field_Out_put.r1 e h Q = lk (look e 0) (fun v0 => lk (look e 1) (fun v1 => lk (look e 2) (fun v2 => wI Try.prog nG (.mv (.const v2)) h fun v8 h => wI Try.prog nG (.bin .lss (.const v8) (.const (.int .i64 8))) h fun v9 h => wI Try.prog nG (.mv (.const v9)) h fun v10 h => gdK v10 true (wI Try.prog nG (.mv (.const v1)) h) (fun v10 v11 h => gdK v10 true (wI Try.prog nG (.mv (.const v2)) h) (fun v10 v12 h => gdK v10 true (wI Try.prog nG (.bin .mul (.const (.int .i64 8)) (.const v12)) h) (fun v10 v13 h => gdK v10 true (wI Try.prog nG (.bin .shr (.const v11) (.const v13)) h) (fun v10 v14 h => gdK v10 true (wI Try.prog nG (.bin .neq (.const v14) (.const (.int .u64 0))) h) (fun v10 v15 h => wI Try.prog nG (.pick (.const v10) (.const v15) (.const (.bool false))) h fun v16 h => Q .normal [(0, v0), (1, v1), (2, v2), (16, v16)] h) h () ()) h () ()) h () ()) h () ()) h () ()) ()) ()) () := lkm (lkm (lkm (wR (Rn rfl fun v8 h => Rn rfl fun v9 h => Rn rfl fun v10 h => Rg rfl rfl fun v10 v11 h => Rg rfl rfl fun v10 v12 h => Rg rfl rfl fun v10 v13 h => Rg rfl rfl fun v10 v14 h => Rg rfl rfl fun v10 v15 h => Rn rfl fun v16 h => rfl))))
def ir.field_Out_put.r2 : C := .region [] [⟨some 17, .mv (.tmp 0), none⟩, ⟨some 18, .nilck (.tmp 17), none⟩, ⟨some 19, .fld 1 (.tmp 18), none⟩, ⟨none, .store 1 (.tmp 19) (.const (.bool true)), none⟩]
theorem ir.field_Out_put.r2.w (e : Env) (h : AHeap) (Q : Post) : wpC Try.prog nG ir.field_Out_put.r2 e h Q = lk (look e 0) (fun v0 => wI Try.prog nG (.mv (.const v0)) h fun v17 h => wI Try.prog nG (.nilck (.const v17)) h fun v18 h => wI Try.prog nG (.fld 1 (.const v18)) h fun v19 h => wI Try.prog nG (.store 1 (.const v19) (.const (.bool true))) h fun _ h => Q .normal [] h) () := lkm (wR (Rn rfl fun v17 h => Rn rfl fun v18 h => Rn rfl fun v19 h => Rz rfl fun v_ h => rfl))
def ir.field_Out_put.r3 : C := .region [0, 1, 2] [⟨some 20, .mv (.tmp 2), none⟩, ⟨some 21, .bin .sub (.tmp 20) (.const (.int .i64 1)), none⟩, ⟨some 2, .mv (.tmp 21), none⟩]
theorem ir.field_Out_put.r3.w (e : Env) (h : AHeap) (Q : Post) : wpC Try.prog nG ir.field_Out_put.r3 e h Q = lk (look e 0) (fun v0 => lk (look e 1) (fun v1 => lk (look e 2) (fun v2 => wI Try.prog nG (.mv (.const v2)) h fun v20 h => wI Try.prog nG (.bin .sub (.const v20) (.const (.int .i64 1))) h fun v21 h => wI Try.prog nG (.mv (.const v21)) h fun v2 h => Q .normal [(0, v0), (1, v1), (2, v2)] h) ()) ()) () := lkm (lkm (lkm (wR (Rn rfl fun v20 h => Rn rfl fun v21 h => Rn rfl fun v2 h => rfl))))
def ir.field_Out_put.r4 : C := .region [0, 1, 2, 23] [⟨some 22, .mv (.tmp 2), none⟩, ⟨some 23, .bin .geq (.tmp 22) (.const (.int .i64 0)), none⟩]
theorem ir.field_Out_put.r4.w (e : Env) (h : AHeap) (Q : Post) : wpC Try.prog nG ir.field_Out_put.r4 e h Q = lk (look e 0) (fun v0 => lk (look e 1) (fun v1 => lk (look e 2) (fun v2 => wI Try.prog nG (.mv (.const v2)) h fun v22 h => wI Try.prog nG (.bin .geq (.const v22) (.const (.int .i64 0))) h fun v23 h => Q .normal [(0, v0), (1, v1), (2, v2), (23, v23)] h) ()) ()) () := lkm (lkm (lkm (wR (Rn rfl fun v22 h => Rn rfl fun v23 h => rfl))))
def ir.field_Out_put.r6 : C := .draw [0, 1, 2] [⟨some 26, .mv (.tmp 0), none⟩, ⟨some 27, .mv (.tmp 0), none⟩, ⟨some 28, .nilck (.tmp 27), none⟩, ⟨some 29, .fld 0 (.tmp 28), none⟩, ⟨some 30, .load false 1 (.tmp 29), none⟩, ⟨some 31, .mv (.tmp 1), none⟩, ⟨some 32, .mv (.tmp 2), none⟩, ⟨some 33, .bin .mul (.const (.int .i64 8)) (.tmp 32), none⟩, ⟨some 34, .bin .shr (.tmp 31) (.tmp 33), none⟩, ⟨some 35, .conv .u8 (.tmp 34), none⟩, ⟨some 36, .row 1 1 [.int .u8 0] [(0, 1, .tmp 35)], none⟩, ⟨some 37, .app false 1 1 (.tmp 30) (.tmp 36), none⟩, ⟨some 38, .nilck (.tmp 26), none⟩, ⟨some 39, .fld 0 (.tmp 38), none⟩, ⟨none, .store 1 (.tmp 39) (.tmp 37), none⟩]
theorem ir.field_Out_put.r6.w (e : Env) (h : AHeap) (Q : Post) : wpC Try.prog nG ir.field_Out_put.r6 e h Q = lk (look e 0) (fun v0 => lk (look e 1) (fun v1 => lk (look e 2) (fun v2 => wI Try.prog nG (.mv (.const v0)) h fun v26 h => wI Try.prog nG (.mv (.const v0)) h fun v27 h => wI Try.prog nG (.nilck (.const v27)) h fun v28 h => wI Try.prog nG (.fld 0 (.const v28)) h fun v29 h => wI Try.prog nG (.load false 1 (.const v29)) h fun v30 h => wI Try.prog nG (.mv (.const v1)) h fun v31 h => wI Try.prog nG (.mv (.const v2)) h fun v32 h => wI Try.prog nG (.bin .mul (.const (.int .i64 8)) (.const v32)) h fun v33 h => wI Try.prog nG (.bin .shr (.const v31) (.const v33)) h fun v34 h => wI Try.prog nG (.conv .u8 (.const v34)) h fun v35 h => wI Try.prog nG (.row 1 1 [.int .u8 0] [(0, 1, .const v35)]) h fun v36 h => wI Try.prog nG (.app false 1 1 (.const v30) (.const v36)) h fun v37 h => wI Try.prog nG (.nilck (.const v26)) h fun v38 h => wI Try.prog nG (.fld 0 (.const v38)) h fun v39 h => wI Try.prog nG (.store 1 (.const v39) (.const v37)) h fun _ h => Q .normal [(0, v0), (1, v1), (2, v2)] h) ()) ()) () := lkm (lkm (lkm (wDr (Dn rfl rfl fun v26 h => Dn rfl rfl fun v27 h => Dn rfl rfl fun v28 h => Dn rfl rfl fun v29 h => Dn rfl rfl fun v30 h => Dn rfl rfl fun v31 h => Dn rfl rfl fun v32 h => Dn rfl rfl fun v33 h => Dn rfl rfl fun v34 h => Dn rfl rfl fun v35 h => Dn rfl rfl fun v36 h => Dn rfl rfl fun v37 h => Dn rfl rfl fun v38 h => Dn rfl rfl fun v39 h => Dz rfl rfl fun v_ h => rfl))))
def ir.field_Out_put.r5 : C := .region [0, 1, 2] [⟨some 24, .mv (.tmp 2), none⟩, ⟨some 25, .bin .sub (.tmp 24) (.const (.int .i64 1)), none⟩, ⟨some 2, .mv (.tmp 25), none⟩]
theorem ir.field_Out_put.r5.w (e : Env) (h : AHeap) (Q : Post) : wpC Try.prog nG ir.field_Out_put.r5 e h Q = lk (look e 0) (fun v0 => lk (look e 1) (fun v1 => lk (look e 2) (fun v2 => wI Try.prog nG (.mv (.const v2)) h fun v24 h => wI Try.prog nG (.bin .sub (.const v24) (.const (.int .i64 1))) h fun v25 h => wI Try.prog nG (.mv (.const v25)) h fun v2 h => Q .normal [(0, v0), (1, v1), (2, v2)] h) ()) ()) () := lkm (lkm (lkm (wR (Rn rfl fun v24 h => Rn rfl fun v25 h => Rn rfl fun v2 h => rfl))))
def ir.field_Out_put.l1.b : C := (.seq (.seq ir.field_Out_put.r4 (.cond (.tmp 23) .skip (.exit 0))) (.seq (.block 1 ir.field_Out_put.r6) ir.field_Out_put.r5))
theorem ir.field_Out_put.l1.bw (e : Env) (h : AHeap) (Q : Post) : wpC Try.prog nG ir.field_Out_put.l1.b e h Q = wpC Try.prog nG (.seq (.seq ir.field_Out_put.r4 (.cond (.tmp 23) .skip (.exit 0))) (.seq (.block 1 ir.field_Out_put.r6) ir.field_Out_put.r5)) e h Q := (rfl)
def ir.field_Out_put.l1 : C := .loop ir.field_Out_put.l1.b
theorem ir.field_Out_put.l1.w (e : Env) (h : AHeap) (Q : Post) : wpC Try.prog nG ir.field_Out_put.l1 e h Q = loopV Try.prog nG ir.field_Out_put.l1.b e h Q () := (rfl)
def ir.field_Out_put : C := (.seq (.seq ir.field_Out_put.r0 (.cond (.tmp 7) .ret .skip)) (.seq (.seq ir.field_Out_put.r1 (.cond (.tmp 16) (.seq ir.field_Out_put.r2 .ret) .skip)) (.seq ir.field_Out_put.r3 (.block 0 ir.field_Out_put.l1))))
theorem ir.field_Out_put.bw (e : Env) (h : AHeap) (Q : Post) : wpC Try.prog nG ir.field_Out_put e h Q = wpC Try.prog nG (.seq (.seq ir.field_Out_put.r0 (.cond (.tmp 7) .ret .skip)) (.seq (.seq ir.field_Out_put.r1 (.cond (.tmp 16) (.seq ir.field_Out_put.r2 .ret) .skip)) (.seq ir.field_Out_put.r3 (.block 0 ir.field_Out_put.l1)))) e h Q := (rfl)
def ir.field_Out_put.rs : List RV := []
theorem ir.field_Out_put.ok : resC Try.prog nG 40 ir.field_Out_put.ks (Try.f59.body.getD .skip) = some ir.field_Out_put := by kernel_rfl
theorem ir.field_Out_put.rok : Try.f59.results.toList.mapM (resR Try.prog) = some ir.field_Out_put.rs := by kernel_rfl
theorem ir.field_Out_put.spec {args : List Value} {h : AHeap} {v : Value} {h' : AHeap} (hn : args.length ≤ 40) :
    (wpC Try.prog nG ir.field_Out_put (args.zipIdx.map fun p => (p.2, p.1)) h (retQ ir.field_Out_put.rs h v h')) → Spec Try.prog nG fn.field_Out_put args h v h' :=
  Spec.intro (fn := Try.f59) Try.func59 (c := Try.f59.body.getD .skip) (by kernel_rfl) ir.field_Out_put.ok ir.field_Out_put.rok hn
attribute [go_sem ↓] ir.field_Out_put.r0.w ir.field_Out_put.r1.w ir.field_Out_put.r2.w ir.field_Out_put.r3.w ir.field_Out_put.r4.w ir.field_Out_put.r6.w ir.field_Out_put.r5.w ir.field_Out_put.l1.w
attribute [go_sem] ir.field_Out_put.rs

/-! ### (*fingerpost/field.In).num: function 60 -/
def ir.field_In_num.ks : Nat → List Nat := fun
  | 0 => [0, 1]
  | 1 => [0, 1, 5]
  | 2 => [5, 10, 11, 12]
  | 3 => [5, 10, 11, 12, 13]
  | 4 => [5, 7, 10, 11, 12]
  | 5 => [5, 10, 11, 12]
  | 6 => [5, 10, 11, 12]
  | 7 => [4]
  | _ => []
def ir.field_In_num.r0 : C := .region [0, 1] [⟨some 4, .mv (.const (.int .u64 0)), none⟩]
theorem ir.field_In_num.r0.w (e : Env) (h : AHeap) (Q : Post) : wpC Try.prog nG ir.field_In_num.r0 e h Q = lk (look e 0) (fun v0 => lk (look e 1) (fun v1 => wI Try.prog nG (.mv (.const (.int .u64 0))) h fun v4 h => Q .normal [(0, v0), (1, v1)] h) ()) () := lkm (lkm (wR (Rn rfl fun v4 h => rfl)))
def ir.field_In_num.r1 : C := .region [0, 1, 5] [⟨some 5, .mv (.const (.int .u64 0)), none⟩]
theorem ir.field_In_num.r1.w (e : Env) (h : AHeap) (Q : Post) : wpC Try.prog nG ir.field_In_num.r1 e h Q = lk (look e 0) (fun v0 => lk (look e 1) (fun v1 => wI Try.prog nG (.mv (.const (.int .u64 0))) h fun v5 h => Q .normal [(0, v0), (1, v1), (5, v5)] h) ()) () := lkm (lkm (wR (Rn rfl fun v5 h => rfl)))
def ir.field_In_num.r2 : C := .region [5, 10, 11, 12] [⟨some 8, .mv (.tmp 0), none⟩, ⟨some 9, .mv (.tmp 1), none⟩, ⟨some 10, .call fn.field_In_next [.tmp 8, .tmp 9], none⟩, ⟨some 11, .len false (.tmp 10), none⟩, ⟨some 12, .mv (.const (.int .i64 0)), none⟩]
theorem ir.field_In_num.r2.w (e : Env) (h : AHeap) (Q : Post) : wpC Try.prog nG ir.field_In_num.r2 e h Q = lk (look e 0) (fun v0 => lk (look e 1) (fun v1 => lk (look e 5) (fun v5 => wI Try.prog nG (.mv (.const v0)) h fun v8 h => wI Try.prog nG (.mv (.const v1)) h fun v9 h => wI Try.prog nG (.call fn.field_In_next [.const v8, .const v9]) h fun v10 h => wI Try.prog nG (.len false (.const v10)) h fun v11 h => wI Try.prog nG (.mv (.const (.int .i64 0))) h fun v12 h => Q .normal [(5, v5), (10, v10), (11, v11), (12, v12)] h) ()) ()) () := lkm (lkm (lkm (wR (Rn rfl fun v8 h => Rn rfl fun v9 h => Rn rfl fun v10 h => Rn rfl fun v11 h => Rn rfl fun v12 h => rfl))))
def ir.field_In_num.r3 : C := .region [5, 10, 11, 12, 13] [⟨some 13, .bin .lss (.tmp 12) (.tmp 11), none⟩]
theorem ir.field_In_num.r3.w (e : Env) (h : AHeap) (Q : Post) : wpC Try.prog nG ir.field_In_num.r3 e h Q = lk (look e 5) (fun v5 => lk (look e 10) (fun v10 => lk (look e 11) (fun v11 => lk (look e 12) (fun v12 => wI Try.prog nG (.bin .lss (.const v12) (.const v11)) h fun v13 h => Q .normal [(5, v5), (10, v10), (11, v11), (12, v12), (13, v13)] h) ()) ()) ()) () := lkm (lkm (lkm (lkm (wR (Rn rfl fun v13 h => rfl)))))
def ir.field_In_num.r4 : C := .region [5, 7, 10, 11, 12] [⟨some 14, .ixs 1 (.tmp 10) (.tmp 12), none⟩, ⟨some 15, .load false 1 (.tmp 14), none⟩, ⟨some 7, .mv (.tmp 15), none⟩]
theorem ir.field_In_num.r4.w (e : Env) (h : AHeap) (Q : Post) : wpC Try.prog nG ir.field_In_num.r4 e h Q = lk (look e 5) (fun v5 => lk (look e 10) (fun v10 => lk (look e 11) (fun v11 => lk (look e 12) (fun v12 => wI Try.prog nG (.ixs 1 (.const v10) (.const v12)) h fun v14 h => wI Try.prog nG (.load false 1 (.const v14)) h fun v15 h => wI Try.prog nG (.mv (.const v15)) h fun v7 h => Q .normal [(5, v5), (7, v7), (10, v10), (11, v11), (12, v12)] h) ()) ()) ()) () := lkm (lkm (lkm (lkm (wR (Rn rfl fun v14 h => Rn rfl fun v15 h => Rn rfl fun v7 h => rfl)))))
def ir.field_In_num.r5 : C := .region [5, 10, 11, 12] [⟨some 16, .mv (.tmp 5), none⟩, ⟨some 17, .bin .shl (.tmp 16) (.const (.int .u64 8)), none⟩, ⟨some 18, .mv (.tmp 7), none⟩, ⟨some 19, .conv .u64 (.tmp 18), none⟩, ⟨some 20, .bin .or (.tmp 17) (.tmp 19), none⟩, ⟨some 5, .mv (.tmp 20), none⟩]
theorem ir.field_In_num.r5.w (e : Env) (h : AHeap) (Q : Post) : wpC Try.prog nG ir.field_In_num.r5 e h Q = lk (look e 5) (fun v5 => lk (look e 7) (fun v7 => lk (look e 10) (fun v10 => lk (look e 11) (fun v11 => lk (look e 12) (fun v12 => wI Try.prog nG (.mv (.const v5)) h fun v16 h => wI Try.prog nG (.bin .shl (.const v16) (.const (.int .u64 8))) h fun v17 h => wI Try.prog nG (.mv (.const v7)) h fun v18 h => wI Try.prog nG (.conv .u64 (.const v18)) h fun v19 h => wI Try.prog nG (.bin .or (.const v17) (.const v19)) h fun v20 h => wI Try.prog nG (.mv (.const v20)) h fun v5 h => Q .normal [(5, v5), (10, v10), (11, v11), (12, v12)] h) ()) ()) ()) ()) () := lkm (lkm (lkm (lkm (lkm (wR (Rn rfl fun v16 h => Rn rfl fun v17 h => Rn rfl fun v18 h => Rn rfl fun v19 h => Rn rfl fun v20 h => Rn rfl fun v5 h => rfl))))))
def ir.field_In_num.r6 : C := .region [5, 10, 11, 12] [⟨some 21, .bin .add (.tmp 12) (.const (.int .i64 1)), none⟩, ⟨some 12, .mv (.tmp 21), none⟩]
theorem ir.field_In_num.r6.w (e : Env) (h : AHeap) (Q : Post) : wpC Try.prog nG ir.field_In_num.r6 e h Q = lk (look e 5) (fun v5 => lk (look e 10) (fun v10 => lk (look e 11) (fun v11 => lk (look e 12) (fun v12 => wI Try.prog nG (.bin .add (.const v12) (.const (.int .i64 1))) h fun v21 h => wI Try.prog nG (.mv (.const v21)) h fun v12 h => Q .normal [(5, v5), (10, v10), (11, v11), (12, v12)] h) ()) ()) ()) () := lkm (lkm (lkm (lkm (wR (Rn rfl fun v21 h => Rn rfl fun v12 h => rfl)))))
def ir.field_In_num.l1.b : C := (.seq ir.field_In_num.r3 (.seq (.cond (.tmp 13) .skip (.exit 0)) (.seq (.block 1 (.seq ir.field_In_num.r4 ir.field_In_num.r5)) ir.field_In_num.r6)))
theorem ir.field_In_num.l1.bw (e : Env) (h : AHeap) (Q : Post) : wpC Try.prog nG ir.field_In_num.l1.b e h Q = wpC Try.prog nG (.seq ir.field_In_num.r3 (.seq (.cond (.tmp 13) .skip (.exit 0)) (.seq (.block 1 (.seq ir.field_In_num.r4 ir.field_In_num.r5)) ir.field_In_num.r6))) e h Q := (rfl)
def ir.field_In_num.l1 : C := .loop ir.field_In_num.l1.b
theorem ir.field_In_num.l1.w (e : Env) (h : AHeap) (Q : Post) : wpC Try.prog nG ir.field_In_num.l1 e h Q = loopV Try.prog nG ir.field_In_num.l1.b e h Q () := (rfl)
def ir.field_In_num.r7 : C := .region [4] [⟨some 22, .mv (.tmp 5), none⟩, ⟨some 4, .mv (.tmp 22), none⟩]
theorem ir.field_In_num.r7.w (e : Env) (h : AHeap) (Q : Post) : wpC Try.prog nG ir.field_In_num.r7 e h Q = lk (look e 5) (fun v5 => wI Try.prog nG (.mv (.const v5)) h fun v22 h => wI Try.prog nG (.mv (.const v22)) h fun v4 h => Q .normal [(4, v4)] h) () := lkm (wR (Rn rfl fun v22 h => Rn rfl fun v4 h => rfl))
def ir.field_In_num : C := (.seq ir.field_In_num.r0 (.seq ir.field_In_num.r1 (.seq (.seq ir.field_In_num.r2 (.block 0 ir.field_In_num.l1)) (.seq ir.field_In_num.r7 .ret))))
theorem ir.field_In_num.bw (e : Env) (h : AHeap) (Q : Post) : wpC Try.prog nG ir.field_In_num e h Q = wpC Try.prog nG (.seq ir.field_In_num.r0 (.seq ir.field_In_num.r1 (.seq (.seq ir.field_In_num.r2 (.block 0 ir.field_In_num.l1)) (.seq ir.field_In_num.r7 .ret)))) e h Q := (rfl)
def ir.field_In_num.rs : List RV := [.tmp 4]
theorem ir.field_In_num.ok : resC Try.prog nG 23 ir.field_In_num.ks (Try.f60.body.getD .skip) = some ir.field_In_num := by kernel_rfl
theorem ir.field_In_num.rok : Try.f60.results.toList.mapM (resR Try.prog) = some ir.field_In_num.rs := by kernel_rfl
theorem ir.field_In_num.spec {args : List Value} {h : AHeap} {v : Value} {h' : AHeap} (hn : args.length ≤ 23) :
    (wpC Try.prog nG ir.field_In_num (args.zipIdx.map fun p => (p.2, p.1)) h (retQ ir.field_In_num.rs h v h')) → Spec Try.prog nG fn.field_In_num args h v h' :=
  Spec.intro (fn := Try.f60) Try.func60 (c := Try.f60.body.getD .skip) (by kernel_rfl) ir.field_In_num.ok ir.field_In_num.rok hn
attribute [go_sem ↓] ir.field_In_num.r0.w ir.field_In_num.r1.w ir.field_In_num.r2.w ir.field_In_num.r3.w ir.field_In_num.r4.w ir.field_In_num.r5.w ir.field_In_num.r6.w ir.field_In_num.l1.w ir.field_In_num.r7.w
attribute [go_sem] ir.field_In_num.rs

/-! ### (*fingerpost/field.In).next: function 61 -/
def ir.field_In_next.ks : Nat → List Nat := fun
  | 0 => [0, 1]
  | 1 => [0, 1, 14]
  | 2 => [4]
  | 3 => [0, 1, 21]
  | 4 => []
  | 5 => [4]
  | 6 => [0, 1, 5]
  | 7 => [5]
  | 8 => [4]
  | _ => []
def ir.field_In_next.r0 : C := .region [0, 1] [⟨some 4, .mv (.const (.slice none 0 0)), none⟩]
theorem ir.field_In_next.r0.w (e : Env) (h : AHeap) (Q : Post) : wpC Try.prog nG ir.field_In_next.r0 e h Q = lk (look e 0) (fun v0 => lk (look e 1) (fun v1 => wI Try.prog nG (.mv (.const (.slice none 0 0))) h fun v4 h => Q .normal [(0, v0), (1, v1)] h) ()) () := lkm (lkm (wR (Rn rfl fun v4 h => rfl)))
def ir.field_In_next.r1 : C := .region [0, 1, 14] [⟨some 6, .mv (.tmp 0), none⟩, ⟨some 7, .eqn 0 false (.tmp 6), none⟩, ⟨some 8, .mv (.tmp 7), none⟩, ⟨some 9, .mv (.tmp 0), some (8, false)⟩, ⟨some 10, .nilck (.tmp 9), some (8, false)⟩, ⟨some 11, .fld 1 (.tmp 10), some (8, false)⟩, ⟨some 12, .load false 1 (.tmp 11), some (8, false)⟩, ⟨some 13, .bin .neq (.tmp 12) (.const (.int .i64 0)), some (8, false)⟩, ⟨some 14, .pick (.tmp 8) (.const (.bool true)) (.tmp 13), none⟩]
theorem ir.field_In_next.r1.w (e : Env) (h : AHeap) (Q : Post) : wpC Try.prog nG ir.field_In_next.r1 e h Q = lk (look e 0) (fun v0 => lk (look e 1) (fun v1 => wI Try.prog nG (.mv (.const v0)) h fun v6 h => wI Try.prog nG (.eqn 0 false (.const v6)) h fun v7 h => wI Try.prog nG (.mv (.const v7)) h fun v8 h => gdK v8 false (wI Try.prog nG (.mv (.const v0)) h) (fun v8 v9 h => gdK v8 false (wI Try.prog nG (.nilck (.const v9)) h) (fun v8 v10 h => gdK v8 false (wI Try.prog nG (.fld 1 (.const v10)) h) (fun v8 v11 h => gdK v8 false (wI Try.prog nG (.load false 1 (.const v11)) h) (fun v8 v12 h => gdK v8 false (wI Try.prog nG (.bin .neq (.const v12) (.const (.int .i64 0))) h) (fun v8 v13 h => wI Try.prog nG (.pick (.const v8) (.const (.bool true)) (.const v13)) h fun v14 h => Q .normal [(0, v0), (1, v1), (14, v14)] h) h () ()) h () ()) h () ()) h () ()) h () ()) ()) () := lkm (lkm (wR (Rn rfl fun v6 h => Rn rfl fun v7 h => Rn rfl fun v8 h => Rg rfl rfl fun v8 v9 h => Rg rfl rfl fun v8 v10 h => Rg rfl rfl fun v8 v11 h => Rg rfl rfl fun v8 v12 h => Rg rfl rfl fun v8 v13 h => Rn rfl fun v14 h => rfl)))
def ir.field_In_next.r2 : C := .region [4] [⟨some 4, .mv (.const (.slice none 0 0)), none⟩]
theorem ir.field_In_next.r2.w (e : Env) (h : AHeap) (Q : Post) : wpC Try.prog nG ir.field_In_next.r2 e h Q = wI Try.prog nG (.mv (.const (.slice none 0 0))) h fun v4 h => Q .normal [(4, v4)] h := wR (Rn rfl fun v4 h => rfl)
def ir.field_In_next.r3 : C := .region [0, 1, 21] [⟨some 15, .mv (.tmp 0), none⟩, ⟨some 16, .nilck (.tmp 15), none⟩, ⟨some 17, .fld 0 (.tmp 16), none⟩, ⟨some 18, .load false 1 (.tmp 17), none⟩, ⟨some 19, .len false (.tmp 18), none⟩, ⟨some 20, .mv (.tmp 1), none⟩, ⟨some 21, .bin .lss (.tmp 19) (.tmp 20), none⟩]
theorem ir.field_In_next.r3.w (e : Env) (h : AHeap) (Q : Post) : wpC Try.prog nG ir.field_In_next.r3 e h Q = lk (look e 0) (fun v0 => lk (look e 1) (fun v1 => wI Try.prog nG (.mv (.const v0)) h fun v15 h => wI Try.prog nG (.nilck (.const v15)) h fun v16 h => wI Try.prog nG (.fld 0 (.const v16)) h fun v17 h => wI Try.prog nG (.load false 1 (.const v17)) h fun v18 h => wI Try.prog nG (.len false (.const v18)) h fun v19 h => wI Try.prog nG (.mv (.const v1)) h fun v20 h => wI Try.prog nG (.bin .lss (.const v19) (.const v20)) h fun v21 h => Q .normal [(0, v0), (1, v1), (21, v21)] h) ()) () := lkm (lkm (wR (Rn rfl fun v15 h => Rn rfl fun v16 h => Rn rfl fun v17 h => Rn rfl fun v18 h => Rn rfl fun v19 h => Rn rfl fun v20 h => Rn rfl fun v21 h => rfl)))
def ir.field_In_next.r4 : C := .region [] [⟨some 22, .mv (.tmp 0), none⟩, ⟨some 23, .call fn.field_In_Fail [.tmp 22, .const (.int .i64 9)], none⟩]
theorem ir.field_In_next.r4.w (e : Env) (h : AHeap) (Q : Post) : wpC Try.prog nG ir.field_In_next.r4 e h Q = lk (look e 0) (fun v0 => wI Try.prog nG (.mv (.const v0)) h fun v22 h => wI Try.prog nG (.call fn.field_In_Fail [.const v22, .const (.int .i64 9)]) h fun v23 h => Q .normal [] h) () := lkm (wR (Rn rfl fun v22 h => Rn rfl fun v23 h => rfl))
def ir.field_In_next.r5 : C := .region [4] [⟨some 4, .mv (.const (.slice none 0 0)), none⟩]
theorem ir.field_In_next.r5.w (e : Env) (h : AHeap) (Q : Post) : wpC Try.prog nG ir.field_In_next.r5 e h Q = wI Try.prog nG (.mv (.const (.slice none 0 0))) h fun v4 h => Q .normal [(4, v4)] h := wR (Rn rfl fun v4 h => rfl)
def ir.field_In_next.r6 : C := .region [0, 1, 5] [⟨some 24, .mv (.tmp 0), none⟩, ⟨some 25, .nilck (.tmp 24), none⟩, ⟨some 26, .fld 0 (.tmp 25), none⟩, ⟨some 27, .load false 1 (.tmp 26), none⟩, ⟨some 28, .mv (.tmp 1), none⟩, ⟨some 29, .sl 1 (.tmp 27) none (some (.tmp 28)), none⟩, ⟨some 5, .mv (.tmp 29), none⟩]
theorem ir.field_In_next.r6.w (e : Env) (h : AHeap) (Q : Post) : wpC Try.prog nG ir.field_In_next.r6 e h Q = lk (look e 0) (fun v0 => lk (look e 1) (fun v1 => wI Try.prog nG (.mv (.const v0)) h fun v24 h => wI Try.prog nG (.nilck (.const v24)) h fun v25 h => wI Try.prog nG (.fld 0 (.const v25)) h fun v26 h => wI Try.prog nG (.load false 1 (.const v26)) h fun v27 h => wI Try.prog nG (.mv (.const v1)) h fun v28 h => wI Try.prog nG (.sl 1 (.const v27) none (some (.const v28))) h fun v29 h => wI Try.prog nG (.mv (.const v29)) h fun v5 h => Q .normal [(0, v0), (1, v1), (5, v5)] h) ()) () := lkm (lkm (wR (Rn rfl fun v24 h => Rn rfl fun v25 h => Rn rfl fun v26 h => Rn rfl fun v27 h => Rn rfl fun v28 h => Rn rfl fun v29 h => Rn rfl fun v5 h => rfl)))
def ir.field_In_next.r7 : C := .region [5] [⟨some 30, .mv (.tmp 0), none⟩, ⟨some 31, .mv (.tmp 0), none⟩, ⟨some 32, .nilck (.tmp 31), none⟩, ⟨some 33, .fld 0 (.tmp 32), none⟩, ⟨some 34, .load false 1 (.tmp 33), none⟩, ⟨some 35, .mv (.tmp 1), none⟩, ⟨some 36, .sl 1 (.tmp 34) (some (.tmp 35)) none, none⟩, ⟨some 37, .nilck (.tmp 30), none⟩, ⟨some 38, .fld 0 (.tmp 37), none⟩, ⟨none, .store 1 (.tmp 38) (.tmp 36), none⟩]
theorem ir.field_In_next.r7.w (e : Env) (h : AHeap) (Q : Post) : wpC Try.prog nG ir.field_In_next.r7 e h Q = lk (look e 0) (fun v0 => lk (look e 1) (fun v1 => lk (look e 5) (fun v5 => wI Try.prog nG (.mv (.const v0)) h fun v30 h => wI Try.prog nG (.mv (.const v0)) h fun v31 h => wI Try.prog nG (.nilck (.const v31)) h fun v32 h => wI Try.prog nG (.fld 0 (.const v32)) h fun v33 h => wI Try.prog nG (.load false 1 (.const v33)) h fun v34 h => wI Try.prog nG (.mv (.const v1)) h fun v35 h => wI Try.prog nG (.sl 1 (.const v34) (some (.const v35)) none) h fun v36 h => wI Try.prog nG (.nilck (.const v30)) h fun v37 h => wI Try.prog nG (.fld 0 (.const v37)) h fun v38 h => wI Try.prog nG (.store 1 (.const v38) (.const v36)) h fun _ h => Q .normal [(5, v5)] h) ()) ()) () := lkm (lkm (lkm (wR (Rn rfl fun v30 h => Rn rfl fun v31 h => Rn rfl fun v32 h => Rn rfl fun v33 h => Rn rfl fun v34 h => Rn rfl fun v35 h => Rn rfl fun v36 h => Rn rfl fun v37 h => Rn rfl fun v38 h => Rz rfl fun v_ h => rfl))))
def ir.field_In_next.r8 : C := .region [4] [⟨some 39, .mv (.tmp 5), none⟩, ⟨some 4, .mv (.tmp 39), none⟩]
theorem ir.field_In_next.r8.w (e : Env) (h : AHeap) (Q : Post) : wpC Try.prog nG ir.field_In_next.r8 e h Q = lk (look e 5) (fun v5 => wI Try.prog nG (.mv (.const v5)) h fun v39 h => wI Try.prog nG (.mv (.const v39)) h fun v4 h => Q .normal [(4, v4)] h) () := lkm (wR (Rn rfl fun v39 h => Rn rfl fun v4 h => rfl))
def ir.field_In_next : C := (.seq ir.field_In_next.r0 (.seq (.seq ir.field_In_next.r1 (.cond (.tmp 14) (.seq ir.field_In_next.r2 .ret) .skip)) (.seq (.seq ir.field_In_next.r3 (.cond (.tmp 21) (.seq ir.field_In_next.r4 (.seq ir.field_In_next.r5 .ret)) .skip)) (.seq ir.field_In_next.r6 (.seq ir.field_In_next.r7 (.seq ir.field_In_next.r8 .ret))))))
theorem ir.field_In_next.bw (e : Env) (h : AHeap) (Q : Post) : wpC Try.prog nG ir.field_In_next e h Q = wpC Try.prog nG (.seq ir.field_In_next.r0 (.seq (.seq ir.field_In_next.r1 (.cond (.tmp 14) (.seq ir.field_In_next.r2 .ret) .skip)) (.seq (.seq ir.field_In_next.r3 (.cond (.tmp 21) (.seq ir.field_In_next.r4 (.seq ir.field_In_next.r5 .ret)) .skip)) (.seq ir.field_In_next.r6 (.seq ir.field_In_next.r7 (.seq ir.field_In_next.r8 .ret)))))) e h Q := (rfl)
def ir.field_In_next.rs : List RV := [.tmp 4]
theorem ir.field_In_next.ok : resC Try.prog nG 40 ir.field_In_next.ks (Try.f61.body.getD .skip) = some ir.field_In_next := by kernel_rfl
theorem ir.field_In_next.rok : Try.f61.results.toList.mapM (resR Try.prog) = some ir.field_In_next.rs := by kernel_rfl
theorem ir.field_In_next.spec {args : List Value} {h : AHeap} {v : Value} {h' : AHeap} (hn : args.length ≤ 40) :
    (wpC Try.prog nG ir.field_In_next (args.zipIdx.map fun p => (p.2, p.1)) h (retQ ir.field_In_next.rs h v h')) → Spec Try.prog nG fn.field_In_next args h v h' :=
  Spec.intro (fn := Try.f61) Try.func61 (c := Try.f61.body.getD .skip) (by kernel_rfl) ir.field_In_next.ok ir.field_In_next.rok hn
attribute [go_sem ↓] ir.field_In_next.r0.w ir.field_In_next.r1.w ir.field_In_next.r2.w ir.field_In_next.r3.w ir.field_In_next.r4.w ir.field_In_next.r5.w ir.field_In_next.r6.w ir.field_In_next.r7.w ir.field_In_next.r8.w
attribute [go_sem] ir.field_In_next.rs

/-! ### (*fingerpost/fingerpostref03.In).Raw: function 62 -/
def ir.ref03_In_Raw.ks : Nat → List Nat := fun
  | 0 => [0, 1]
  | 1 => [0, 1, 11]
  | 2 => [4]
  | 3 => [0, 1, 23]
  | 4 => []
  | 5 => [4]
  | 6 => [0, 1, 5]
  | 7 => [0, 1, 5, 6]
  | 8 => [0, 1, 5, 6, 29]
  | 9 => [0, 1, 5, 6]
  | 10 => [0, 1, 5, 6]
  | 11 => [5]
  | 12 => [4]
  | _ => []
def ir.ref03_In_Raw.r0 : C := .region [0, 1] [⟨some 4, .mv (.const (.slice none 0 0)), none⟩]
theorem ir.ref03_In_Raw.r0.w (e : Env) (h : AHeap) (Q : Post) : wpC Try.prog nG ir.ref03_In_Raw.r0 e h Q = lk (look e 0) (fun v0 => lk (look e 1) (fun v1 => wI Try.prog nG (.mv (.const (.slice none 0 0))) h fun v4 h => Q .normal [(0, v0), (1, v1)] h) ()) () := lkm (lkm (wR (Rn rfl fun v4 h => rfl)))
def ir.ref03_In_Raw.r1 : C := .region [0, 1, 11] [⟨some 7, .mv (.tmp 0), none⟩, ⟨some 8, .nilck (.tmp 7), none⟩, ⟨some 9, .fld 2 (.tmp 8), none⟩, ⟨some 10, .load false 1 (.tmp 9), none⟩, ⟨some 11, .bin .neq (.tmp 10) (.const (.int .i64 0)), none⟩]
theorem ir.ref03_In_Raw.r1.w (e : Env) (h : AHeap) (Q : Post) : wpC Try.prog nG ir.ref03_In_Raw.r1 e h Q = lk (look e 0) (fun v0 => lk (look e 1) (fun v1 => wI Try.prog nG (.mv (.const v0)) h fun v7 h => wI Try.prog nG (.nilck (.const v7)) h fun v8 h => wI Try.prog nG (.fld 2 (.const v8)) h fun v9 h => wI Try.prog nG (.load false 1 (.const v9)) h fun v10 h => wI Try.prog nG (.bin .neq (.const v10) (.const (.int .i64 0))) h fun v11 h => Q .normal [(0, v0), (1, v1), (11, v11)] h) ()) () := lkm (lkm (wR (Rn rfl fun v7 h => Rn rfl fun v8 h => Rn rfl fun v9 h => Rn rfl fun v10 h => Rn rfl fun v11 h => rfl)))
def ir.ref03_In_Raw.r2 : C := .region [4] [⟨some 4, .mv (.const (.slice none 0 0)), none⟩]
theorem ir.ref03_In_Raw.r2.w (e : Env) (h : AHeap) (Q : Post) : wpC Try.prog nG ir.ref03_In_Raw.r2 e h Q = wI Try.prog nG (.mv (.const (.slice none 0 0))) h fun v4 h => Q .normal [(4, v4)] h := wR (Rn rfl fun v4 h => rfl)
def ir.ref03_In_Raw.r3 : C := .draw [0, 1, 23] [⟨some 12, .mv (.tmp 0), none⟩, ⟨some 13, .nilck (.tmp 12), none⟩, ⟨some 14, .fld 0 (.tmp 13), none⟩, ⟨some 15, .load false 1 (.tmp 14), none⟩, ⟨some 16, .len false (.tmp 15), none⟩, ⟨some 17, .mv (.tmp 0), none⟩, ⟨some 18, .nilck (.tmp 17), none⟩, ⟨some 19, .fld 1 (.tmp 18), none⟩, ⟨some 20, .load false 1 (.tmp 19), none⟩, ⟨some 21, .bin .sub (.tmp 16) (.tmp 20), none⟩, ⟨some 22, .mv (.tmp 1), none⟩, ⟨some 23, .bin .lss (.tmp 21) (.tmp 22), none⟩]
theorem ir.ref03_In_Raw.r3.w (e : Env) (h : AHeap) (Q : Post) : wpC Try.prog nG ir.ref03_In_Raw.r3 e h Q = lk (look e 0) (fun v0 => lk (look e 1) (fun v1 => wI Try.prog nG (.mv (.const v0)) h fun v12 h => wI Try.prog nG (.nilck (.const v12)) h fun v13 h => wI Try.prog nG (.fld 0 (.const v13)) h fun v14 h => wI Try.prog nG (.load false 1 (.const v14)) h fun v15 h => wI Try.prog nG (.len false (.const v15)) h fun v16 h => wI Try.prog nG (.mv (.const v0)) h fun v17 h => wI Try.prog nG (.nilck (.const v17)) h fun v18 h => wI Try.prog nG (.fld 1 (.const v18)) h fun v19 h => wI Try.prog nG (.load false 1 (.const v19)) h fun v20 h => wI Try.prog nG (.bin .sub (.const v16) (.const v20)) h fun v21 h => wI Try.prog nG (.mv (.const v1)) h fun v22 h => wI Try.prog nG (.bin .lss (.const v21) (.const v22)) h fun v23 h => Q .normal [(0, v0), (1, v1), (23, v23)] h) ()) () := lkm (lkm (wDr (Dn rfl rfl fun v12 h => Dn rfl rfl fun v13 h => Dn rfl rfl fun v14 h => Dn rfl rfl fun v15 h => Dn rfl rfl fun v16 h => Dn rfl rfl fun v17 h => Dn rfl rfl fun v18 h => Dn rfl rfl fun v19 h => Dn rfl rfl fun v20 h => Dn rfl rfl fun v21 h => Dn rfl rfl fun v22 h => Dn rfl rfl fun v23 h => rfl)))
def ir.ref03_In_Raw.r4 : C := .region [] [⟨some 24, .mv (.tmp 0), none⟩, ⟨some 25, .nilck (.tmp 24), none⟩, ⟨some 26, .fld 2 (.tmp 25), none⟩, ⟨none, .store 1 (.tmp 26) (.const (.int .i64 9)), none⟩]
theorem ir.ref03_In_Raw.r4.w (e : Env) (h : AHeap) (Q : Post) : wpC Try.prog nG ir.ref03_In_Raw.r4 e h Q = lk (look e 0) (fun v0 => wI Try.prog nG (.mv (.const v0)) h fun v24 h => wI Try.prog nG (.nilck (.const v24)) h fun v25 h => wI Try.prog nG (.fld 2 (.const v25)) h fun v26 h => wI Try.prog nG (.store 1 (.const v26) (.const (.int .i64 9))) h fun _ h => Q .normal [] h) () := lkm (wR (Rn rfl fun v24 h => Rn rfl fun v25 h => Rn rfl fun v26 h => Rz rfl fun v_ h => rfl))
def ir.ref03_In_Raw.r5 : C := .region [4] [⟨some 4, .mv (.const (.slice none 0 0)), none⟩]
theorem ir.ref03_In_Raw.r5.w (e : Env) (h : AHeap) (Q : Post) : wpC Try.prog nG ir.ref03_In_Raw.r5 e h Q = wI Try.prog nG (.mv (.const (.slice none 0 0))) h fun v4 h => Q .normal [(4, v4)] h := wR (Rn rfl fun v4 h => rfl)
def ir.ref03_In_Raw.r6 : C := .region [0, 1, 5] [⟨some 5, .mv (.const (.slice none 0 0)), none⟩]
theorem ir.ref03_In_Raw.r6.w (e : Env) (h : AHeap) (Q : Post) : wpC Try.prog nG ir.ref03_In_Raw.r6 e h Q = lk (look e 0) (fun v0 => lk (look e 1) (fun v1 => wI Try.prog nG (.mv (.const (.slice none 0 0))) h fun v5 h => Q .normal [(0, v0), (1, v1), (5, v5)] h) ()) () := lkm (lkm (wR (Rn rfl fun v5 h => rfl)))
def ir.ref03_In_Raw.r7 : C := .region [0, 1, 5, 6] [⟨some 6, .mv (.const (.int .i64 0)), none⟩]
theorem ir.ref03_In_Raw.r7.w (e : Env) (h : AHeap) (Q : Post) : wpC Try.prog nG ir.ref03_In_Raw.r7 e h Q = lk (look e 0) (fun v0 => lk (look e 1) (fun v1 => lk (look e 5) (fun v5 => wI Try.prog nG (.mv (.const (.int .i64 0))) h fun v6 h => Q .normal [(0, v0), (1, v1), (5, v5), (6, v6)] h) ()) ()) () := lkm (lkm (lkm (wR (Rn rfl fun v6 h => rfl))))
def ir.ref03_In_Raw.r8 : C := .region [0, 1, 5, 6, 29] [⟨some 27, .mv (.tmp 6), none⟩, ⟨some 28, .mv (.tmp 1), none⟩, ⟨some 29, .bin .lss (.tmp 27) (.tmp 28), none⟩]
theorem ir.ref03_In_Raw.r8.w (e : Env) (h : AHeap) (Q : Post) : wpC Try.prog nG ir.ref03_In_Raw.r8 e h Q = lk (look e 0) (fun v0 => lk (look e 1) (fun v1 => lk (look e 5) (fun v5 => lk (look e 6) (fun v6 => wI Try.prog nG (.mv (.const v6)) h fun v27 h => wI Try.prog nG (.mv (.const v1)) h fun v28 h => wI Try.prog nG (.bin .lss (.const v27) (.const v28)) h fun v29 h => Q .normal [(0, v0), (1, v1), (5, v5), (6, v6), (29, v29)] h) ()) ()) ()) () := lkm (lkm (lkm (lkm (wR (Rn rfl fun v27 h => Rn rfl fun v28 h => Rn rfl fun v29 h => rfl)))))
def ir.ref03_In_Raw.r10 : C := .draw [0, 1, 5, 6] [⟨some 32, .mv (.tmp 5), none⟩, ⟨some 33, .mv (.tmp 0), none⟩, ⟨some 34, .nilck (.tmp 33), none⟩, ⟨some 35, .fld 0 (.tmp 34), none⟩, ⟨some 36, .load false 1 (.tmp 35), none⟩, ⟨some 37, .mv (.tmp 0), none⟩, ⟨some 38, .nilck (.tmp 37), none⟩, ⟨some 39, .fld 1 (.tmp 38), none⟩, ⟨some 40, .load false 1 (.tmp 39), none⟩, ⟨some 41, .mv (.tmp 6), none⟩, ⟨some 42, .bin .add (.tmp 40) (.tmp 41), none⟩, ⟨some 43, .ixs 1 (.tmp 36) (.tmp 42), none⟩, ⟨some 44, .load false 1 (.tmp 43), none⟩, ⟨some 45, .row 1 1 [.int .u8 0] [(0, 1, .tmp 44)], none⟩, ⟨some 46, .app false 1 1 (.tmp 32) (.tmp 45), none⟩, ⟨some 5, .mv (.tmp 46), none⟩]
theorem ir.ref03_In_Raw.r10.w (e : Env) (h : AHeap) (Q : Post) : wpC Try.prog nG ir.ref03_In_Raw.r10 e h Q = lk (look e 0) (fun v0 => lk (look e 1) (fun v1 => lk (look e 5) (fun v5 => lk (look e 6) (fun v6 => wI Try.prog nG (.mv (.const v5)) h fun v32 h => wI Try.prog nG (.mv (.const v0)) h fun v33 h => wI Try.prog nG (.nilck (.const v33)) h fun v34 h => wI Try.prog nG (.fld 0 (.const v34)) h fun v35 h => wI Try.prog nG (.load false 1 (.const v35)) h fun v36 h => wI Try.prog nG (.mv (.const v0)) h fun v37 h => wI Try.prog nG (.nilck (.const v37)) h fun v38 h => wI Try.prog nG (.fld 1 (.const v38)) h fun v39 h => wI Try.prog nG (.load false 1 (.const v39)) h fun v40 h => wI Try.prog nG (.mv (.const v6)) h fun v41 h => wI Try.prog nG (.bin .add (.const v40) (.const v41)) h fun v42 h => wI Try.prog nG (.ixs 1 (.const v36) (.const v42)) h fun v43 h => wI Try.prog nG (.load false 1 (.const v43)) h fun v44 h => wI Try.prog nG (.row 1 1 [.int .u8 0] [(0, 1, .const v44)]) h fun v45 h => wI Try.prog nG (.app false 1 1 (.const v32) (.const v45)) h fun v46 h => wI Try.prog nG (.mv (.const v46)) h fun v5 h => Q .normal [(0, v0), (1, v1), (5, v5), (6, v6)] h) ()) ()) ()) () := lkm (lkm (lkm (lkm (wDr (Dn rfl rfl fun v32 h => Dn rfl rfl fun v33 h => Dn rfl rfl fun v34 h => Dn rfl rfl fun v35 h => Dn rfl rfl fun v36 h => Dn rfl rfl fun v37 h => Dn rfl rfl fun v38 h => Dn rfl rfl fun v39 h => Dn rfl rfl fun v40 h => Dn rfl rfl fun v41 h => Dn rfl rfl fun v42 h => Dn rfl rfl fun v43 h => Dn rfl rfl fun v44 h => Dn rfl rfl fun v45 h => Dn rfl rfl fun v46 h => Dn rfl rfl fun v5 h => rfl)))))
def ir.ref03_In_Raw.r9 : C := .region [0, 1, 5, 6] [⟨some 30, .mv (.tmp 6), none⟩, ⟨some 31, .bin .add (.tmp 30) (.const (.int .i64 1)), none⟩, ⟨some 6, .mv (.tmp 31), none⟩]
theorem ir.ref03_In_Raw.r9.w (e : Env) (h : AHeap) (Q : Post) : wpC Try.prog nG ir.ref03_In_Raw.r9 e h Q = lk (look e 0) (fun v0 => lk (look e 1) (fun v1 => lk (look e 5) (fun v5 => lk (look e 6) (fun v6 => wI Try.prog nG (.mv (.const v6)) h fun v30 h => wI Try.prog nG (.bin .add (.const v30) (.const (.int .i64 1))) h fun v31 h => wI Try.prog nG (.mv (.const v31)) h fun v6 h => Q .normal [(0, v0), (1, v1), (5, v5), (6, v6)] h) ()) ()) ()) () := lkm (lkm (lkm (lkm (wR (Rn rfl fun v30 h => Rn rfl fun v31 h => Rn rfl fun v6 h => rfl)))))
def ir.ref03_In_Raw.l1.b : C := (.seq (.seq ir.ref03_In_Raw.r8 (.cond (.tmp 29) .skip (.exit 0))) (.seq (.block 1 ir.ref03_In_Raw.r10) ir.ref03_In_Raw.r9))
theorem ir.ref03_In_Raw.l1.bw (e : Env) (h : AHeap) (Q : Post) : wpC Try.prog nG ir.ref03_In_Raw.l1.b e h Q = wpC Try.prog nG (.seq (.seq ir.ref03_In_Raw.r8 (.cond (.tmp 29) .skip (.exit 0))) (.seq (.block 1 ir.ref03_In_Raw.r10) ir.ref03_In_Raw.r9)) e h Q := (rfl)
def ir.ref03_In_Raw.l1 : C := .loop ir.ref03_In_Raw.l1.b
theorem ir.ref03_In_Raw.l1.w (e : Env) (h : AHeap) (Q : Post) : wpC Try.prog nG ir.ref03_In_Raw.l1 e h Q = loopV Try.prog nG ir.ref03_In_Raw.l1.b e h Q () := (rfl)
def ir.ref03_In_Raw.r11 : C := .region [5] [⟨some 47, .mv (.tmp 0), none⟩, ⟨some 48, .mv (.tmp 0), none⟩, ⟨some 49, .nilck (.tmp 48), none⟩, ⟨some 50, .fld 1 (.tmp 49), none⟩, ⟨some 51, .load false 1 (.tmp 50), none⟩, ⟨some 52, .mv (.tmp 1), none⟩, ⟨some 53, .bin .add (.tmp 51) (.tmp 52), none⟩, ⟨some 54, .nilck (.tmp 47), none⟩, ⟨some 55, .fld 1 (.tmp 54), none⟩, ⟨none, .store 1 (.tmp 55) (.tmp 53), none⟩]
theorem ir.ref03_In_Raw.r11.w (e : Env) (h : AHeap) (Q : Post) : wpC Try.prog nG ir.ref03_In_Raw.r11 e h Q = lk (look e 0) (fun v0 => lk (look e 1) (fun v1 => lk (look e 5) (fun v5 => wI Try.prog nG (.mv (.const v0)) h fun v47 h => wI Try.prog nG (.mv (.const v0)) h fun v48 h => wI Try.prog nG (.nilck (.const v48)) h fun v49 h => wI Try.prog nG (.fld 1 (.const v49)) h fun v50 h => wI Try.prog nG (.load false 1 (.const v50)) h fun v51 h => wI Try.prog nG (.mv (.const v1)) h fun v52 h => wI Try.prog nG (.bin .add (.const v51) (.const v52)) h fun v53 h => wI Try.prog nG (.nilck (.const v47)) h fun v54 h => wI Try.prog nG (.fld 1 (.const v54)) h fun v55 h => wI Try.prog nG (.store 1 (.const v55) (.const v53)) h fun _ h => Q .normal [(5, v5)] h) ()) ()) () := lkm (lkm (lkm (wR (Rn rfl fun v47 h => Rn rfl fun v48 h => Rn rfl fun v49 h => Rn rfl fun v50 h => Rn rfl fun v51 h => Rn rfl fun v52 h => Rn rfl fun v53 h => Rn rfl fun v54 h => Rn rfl fun v55 h => Rz rfl fun v_ h => rfl))))
def ir.ref03_In_Raw.r12 : C := .region [4] [⟨some 56, .mv (.tmp 5), none⟩, ⟨some 4, .mv (.tmp 56), none⟩]
theorem ir.ref03_In_Raw.r12.w (e : Env) (h : AHeap) (Q : Post) : wpC Try.prog nG ir.ref03_In_Raw.r12 e h Q = lk (look e 5) (fun v5 => wI Try.prog nG (.mv (.const v5)) h fun v56 h => wI Try.prog nG (.mv (.const v56)) h fun v4 h => Q .normal [(4, v4)] h) () := lkm (wR (Rn rfl fun v56 h => Rn rfl fun v4 h => rfl))
def ir.ref03_In_Raw : C := (.seq ir.ref03_In_Raw.r0 (.seq (.seq ir.ref03_In_Raw.r1 (.cond (.tmp 11) (.seq ir.ref03_In_Raw.r2 .ret) .skip)) (.seq (.seq ir.ref03_In_Raw.r3 (.cond (.tmp 23) (.seq ir.ref03_In_Raw.r4 (.seq ir.ref03_In_Raw.r5 .ret)) .skip)) (.seq ir.ref03_In_Raw.r6 (.seq (.seq ir.ref03_In_Raw.r7 (.block 0 ir.ref03_In_Raw.l1)) (.seq ir.ref03_In_Raw.r11 (.seq ir.ref03_In_Raw.r12 .ret)))))))
theorem ir.ref03_In_Raw.bw (e : Env) (h : AHeap) (Q : Post) : wpC Try.prog nG ir.ref03_In_Raw e h Q = wpC Try.prog nG (.seq ir.ref03_In_Raw.r0 (.seq (.seq ir.ref03_In_Raw.r1 (.cond (.tmp 11) (.seq ir.ref03_In_Raw.r2 .ret) .skip)) (.seq (.seq ir.ref03_In_Raw.r3 (.cond (.tmp 23) (.seq ir.ref03_In_Raw.r4 (.seq ir.ref03_In_Raw.r5 .ret)) .skip)) (.seq ir.ref03_In_Raw.r6 (.seq (.seq ir.ref03_In_Raw.r7 (.block 0 ir.ref03_In_Raw.l1)) (.seq ir.ref03_In_Raw.r11 (.seq ir.ref03_In_Raw.r12 .ret))))))) e h Q := (rfl)
def ir.ref03_In_Raw.rs : List RV := [.tmp 4]
theorem ir.ref03_In_Raw.ok : resC Try.prog nG 57 ir.ref03_In_Raw.ks (Try.f62.body.getD .skip) = some ir.ref03_In_Raw := by kernel_rfl
theorem ir.ref03_In_Raw.rok : Try.f62.results.toList.mapM (resR Try.prog) = some ir.ref03_In_Raw.rs := by kernel_rfl
theorem ir.ref03_In_Raw.spec {args : List Value} {h : AHeap} {v : Value} {h' : AHeap} (hn : args.length ≤ 57) :
    (wpC Try.prog nG ir.ref03_In_Raw (args.zipIdx.map fun p => (p.2, p.1)) h (retQ ir.ref03_In_Raw.rs h v h')) → Spec Try.prog nG fn.ref03_In_Raw args h v h' :=
  Spec.intro (fn := Try.f62) Try.func62 (c := Try.f62.body.getD .skip) (by kernel_rfl) ir.ref03_In_Raw.ok ir.ref03_In_Raw.rok hn
attribute [go_sem ↓] ir.ref03_In_Raw.r0.w ir.ref03_In_Raw.r1.w ir.ref03_In_Raw.r2.w ir.ref03_In_Raw.r3.w ir.ref03_In_Raw.r4.w ir.ref03_In_Raw.r5.w ir.ref03_In_Raw.r6.w ir.ref03_In_Raw.r7.w ir.ref03_In_Raw.r8.w ir.ref03_In_Raw.r10.w ir.ref03_In_Raw.r9.w ir.ref03_In_Raw.l1.w ir.ref03_In_Raw.r11.w ir.ref03_In_Raw.r12.w
attribute [go_sem] ir.ref03_In_Raw.rs

/-! ### fingerpost/fingerpostref05.Num: function 66 -/
def ir.ref05_Num.ks : Nat → List Nat := fun
  | 0 => [0, 1]
  | 1 => [0, 1, 5]
  | 2 => [0, 5, 6]
  | 3 => [0, 5, 6, 12]
  | 4 => [0, 5, 6]
  | 5 => [0, 5, 6]
  | 6 => [0, 5, 6]
  | 7 => [4]
  | _ => []
def ir.ref05_Num.r0 : C := .region [0, 1] [⟨some 4, .mv (.const (.slice none 0 0)), none⟩]
theorem ir.ref05_Num.r0.w (e : Env) (h : AHeap) (Q : Post) : wpC Try.prog nG ir.ref05_Num.r0 e h Q = lk (look e 0) (fun v0 => lk (look e 1) (fun v1 => wI Try.prog nG (.mv (.const (.slice none 0 0))) h fun v4 h => Q .normal [(0, v0), (1, v1)] h) ()) () := lkm (lkm (wR (Rn rfl fun v4 h => rfl)))
def ir.ref05_Num.r1 : C := .region [0, 1, 5] [⟨some 7, .mv (.tmp 1), none⟩, ⟨some 8, .mkslice 1 1 [.int .u8 0] (.tmp 7) (.tmp 7), none⟩, ⟨some 5, .mv (.tmp 8), none⟩]
theorem ir.ref05_Num.r1.w (e : Env) (h : AHeap) (Q : Post) : wpC Try.prog nG ir.ref05_Num.r1 e h Q = lk (look e 0) (fun v0 => lk (look e 1) (fun v1 => wI Try.prog nG (.mv (.const v1)) h fun v7 h => wI Try.prog nG (.mkslice 1 1 [.int .u8 0] (.const v7) (.const v7)) h fun v8 h => wI Try.prog nG (.mv (.const v8)) h fun v5 h => Q .normal [(0, v0), (1, v1), (5, v5)] h) ()) () := lkm (lkm (wR (Rn rfl fun v7 h => Rn rfl fun v8 h => Rn rfl fun v5 h => rfl)))
def ir.ref05_Num.r2 : C := .region [0, 5, 6] [⟨some 9, .mv (.tmp 1), none⟩, ⟨some 10, .bin .sub (.tmp 9) (.const (.int .i64 1)), none⟩, ⟨some 6, .mv (.tmp 10), none⟩]
theorem ir.ref05_Num.r2.w (e : Env) (h : AHeap) (Q : Post) : wpC Try.prog nG ir.ref05_Num.r2 e h Q = lk (look e 0) (fun v0 => lk (look e 1) (fun v1 => lk (look e 5) (fun v5 => wI Try.prog nG (.mv (.const v1)) h fun v9 h => wI Try.prog nG (.bin .sub (.const v9) (.const (.int .i64 1))) h fun v10 h => wI Try.prog nG (.mv (.const v10)) h fun v6 h => Q .normal [(0, v0), (5, v5), (6, v6)] h) ()) ()) () := lkm (lkm (lkm (wR (Rn rfl fun v9 h => Rn rfl fun v10 h => Rn rfl fun v6 h => rfl))))
def ir.ref05_Num.r3 : C := .region [0, 5, 6, 12] [⟨some 11, .mv (.tmp 6), none⟩, ⟨some 12, .bin .geq (.tmp 11) (.const (.int .i64 0)), none⟩]
theorem ir.ref05_Num.r3.w (e : Env) (h : AHeap) (Q : Post) : wpC Try.prog nG ir.ref05_Num.r3 e h Q = lk (look e 0) (fun v0 => lk (look e 5) (fun v5 => lk (look e 6) (fun v6 => wI Try.prog nG (.mv (.const v6)) h fun v11 h => wI Try.prog nG (.bin .geq (.const v11) (.const (.int .i64 0))) h fun v12 h => Q .normal [(0, v0), (5, v5), (6, v6), (12, v12)] h) ()) ()) () := lkm (lkm (lkm (wR (Rn rfl fun v11 h => Rn rfl fun v12 h => rfl))))
def ir.ref05_Num.r5 : C := .region [0, 5, 6] [⟨some 15, .mv (.tmp 5), none⟩, ⟨some 16, .mv (.tmp 6), none⟩, ⟨some 17, .mv (.tmp 0), none⟩, ⟨some 18, .bin .rem (.tmp 17) (.const (.int .u64 256)), none⟩, ⟨some 19, .conv .u8 (.tmp 18), none⟩, ⟨some 20, .ixs 1 (.tmp 15) (.tmp 16), none⟩, ⟨none, .store 1 (.tmp 20) (.tmp 19), none⟩]
theorem ir.ref05_Num.r5.w (e : Env) (h : AHeap) (Q : Post) : wpC Try.prog nG ir.ref05_Num.r5 e h Q = lk (look e 0) (fun v0 => lk (look e 5) (fun v5 => lk (look e 6) (fun v6 => wI Try.prog nG (.mv (.const v5)) h fun v15 h => wI Try.prog nG (.mv (.const v6)) h fun v16 h => wI Try.prog nG (.mv (.const v0)) h fun v17 h => wI Try.prog nG (.bin .rem (.const v17) (.const (.int .u64 256))) h fun v18 h => wI Try.prog nG (.conv .u8 (.const v18)) h fun v19 h => wI Try.prog nG (.ixs 1 (.const v15) (.const v16)) h fun v20 h => wI Try.prog nG (.store 1 (.const v20) (.const v19)) h fun _ h => Q .normal [(0, v0), (5, v5), (6, v6)] h) ()) ()) () := lkm (lkm (lkm (wR (Rn rfl fun v15 h => Rn rfl fun v16 h => Rn rfl fun v17 h => Rn rfl fun v18 h => Rn rfl fun v19 h => Rn rfl fun v20 h => Rz rfl fun v_ h => rfl))))
def ir.ref05_Num.r6 : C := .region [0, 5, 6] [⟨some 21, .mv (.tmp 0), none⟩, ⟨some 22, .bin .quo (.tmp 21) (.const (.int .u64 256)), none⟩, ⟨some 0, .mv (.tmp 22), none⟩]
theorem ir.ref05_Num.r6.w (e : Env) (h : AHeap) (Q : Post) : wpC Try.prog nG ir.ref05_Num.r6 e h Q = lk (look e 0) (fun v0 => lk (look e 5) (fun v5 => lk (look e 6) (fun v6 => wI Try.prog nG (.mv (.const v0)) h fun v21 h => wI Try.prog nG (.bin .quo (.const v21) (.const (.int .u64 256))) h fun v22 h => wI Try.prog nG (.mv (.const v22)) h fun v0 h => Q .normal [(0, v0), (5, v5), (6, v6)] h) ()) ()) () := lkm (lkm (lkm (wR (Rn rfl fun v21 h => Rn rfl fun v22 h => Rn rfl fun v0 h => rfl))))
def ir.ref05_Num.r4 : C := .region [0, 5, 6] [⟨some 13, .mv (.tmp 6), none⟩, ⟨some 14, .bin .sub (.tmp 13) (.const (.int .i64 1)), none⟩, ⟨some 6, .mv (.tmp 14), none⟩]
theorem ir.ref05_Num.r4.w (e : Env) (h : AHeap) (Q : Post) : wpC Try.prog nG ir.ref05_Num.r4 e h Q = lk (look e 0) (fun v0 => lk (look e 5) (fun v5 => lk (look e 6) (fun v6 => wI Try.prog nG (.mv (.const v6)) h fun v13 h => wI Try.prog nG (.bin .sub (.const v13) (.const (.int .i64 1))) h fun v14 h => wI Try.prog nG (.mv (.const v14)) h fun v6 h => Q .normal [(0, v0), (5, v5), (6, v6)] h) ()) ()) () := lkm (lkm (lkm (wR (Rn rfl fun v13 h => Rn rfl fun v14 h => Rn rfl fun v6 h => rfl))))
def ir.ref05_Num.l1.b : C := (.seq (.seq ir.ref05_Num.r3 (.cond (.tmp 12) .skip (.exit 0))) (.seq (.block 1 (.seq ir.ref05_Num.r5 ir.ref05_Num.r6)) ir.ref05_Num.r4))
theorem ir.ref05_Num.l1.bw (e : Env) (h : AHeap) (Q : Post) : wpC Try.prog nG ir.ref05_Num.l1.b e h Q = wpC Try.prog nG (.seq (.seq ir.ref05_Num.r3 (.cond (.tmp 12) .skip (.exit 0))) (.seq (.block 1 (.seq ir.ref05_Num.r5 ir.ref05_Num.r6)) ir.ref05_Num.r4)) e h Q := (rfl)
def ir.ref05_Num.l1 : C := .loop ir.ref05_Num.l1.b
theorem ir.ref05_Num.l1.w (e : Env) (h : AHeap) (Q : Post) : wpC Try.prog nG ir.ref05_Num.l1 e h Q = loopV Try.prog nG ir.ref05_Num.l1.b e h Q () := (rfl)
def ir.ref05_Num.r7 : C := .region [4] [⟨some 23, .mv (.tmp 5), none⟩, ⟨some 4, .mv (.tmp 23), none⟩]
theorem ir.ref05_Num.r7.w (e : Env) (h : AHeap) (Q : Post) : wpC Try.prog nG ir.ref05_Num.r7 e h Q = lk (look e 5) (fun v5 => wI Try.prog nG (.mv (.const v5)) h fun v23 h => wI Try.prog nG (.mv (.const v23)) h fun v4 h => Q .normal [(4, v4)] h) () := lkm (wR (Rn rfl fun v23 h => Rn rfl fun v4 h => rfl))
def ir.ref05_Num : C := (.seq ir.ref05_Num.r0 (.seq ir.ref05_Num.r1 (.seq (.seq ir.ref05_Num.r2 (.block 0 ir.ref05_Num.l1)) (.seq ir.ref05_Num.r7 .ret))))
theorem ir.ref05_Num.bw (e : Env) (h : AHeap) (Q : Post) : wpC Try.prog nG ir.ref05_Num e h Q = wpC Try.prog nG (.seq ir.ref05_Num.r0 (.seq ir.ref05_Num.r1 (.seq (.seq ir.ref05_Num.r2 (.block 0 ir.ref05_Num.l1)) (.seq ir.ref05_Num.r7 .ret)))) e h Q := (rfl)
def ir.ref05_Num.rs : List RV := [.tmp 4]
theorem ir.ref05_Num.ok : resC Try.prog nG 24 ir.ref05_Num.ks (Try.f66.body.getD .skip) = some ir.ref05_Num := by kernel_rfl
theorem ir.ref05_Num.rok : Try.f66.results.toList.mapM (resR Try.prog) = some ir.ref05_Num.rs := by kernel_rfl
theorem ir.ref05_Num.spec {args : List Value} {h : AHeap} {v : Value} {h' : AHeap} (hn : args.length ≤ 24) :
    (wpC Try.prog nG ir.ref05_Num (args.zipIdx.map fun p => (p.2, p.1)) h (retQ ir.ref05_Num.rs h v h')) → Spec Try.prog nG fn.ref05_Num args h v h' :=
  Spec.intro (fn := Try.f66) Try.func66 (c := Try.f66.body.getD .skip) (by kernel_rfl) ir.ref05_Num.ok ir.ref05_Num.rok hn
attribute [go_sem ↓] ir.ref05_Num.r0.w ir.ref05_Num.r1.w ir.ref05_Num.r2.w ir.ref05_Num.r3.w ir.ref05_Num.r5.w ir.ref05_Num.r6.w ir.ref05_Num.r4.w ir.ref05_Num.l1.w ir.ref05_Num.r7.w
attribute [go_sem] ir.ref05_Num.rs

/-! ### fingerpost/ots.Digits: function 74 -/
def ir.ots_Digits.ks : Nat → List Nat := fun
  | 0 => [1, 2]
  | 1 => [1, 2, 3]
  | 2 => [1, 2, 3, 4]
  | 3 => [1, 2, 3, 4, 8]
  | 4 => [1, 2, 3, 4, 8, 9]
  | 5 => [1, 2, 3, 4, 5, 8]
  | 6 => [1, 2, 3, 4, 5, 6, 8]
  | 7 => [1, 2, 3, 4, 6, 8]
  | 8 => [1, 2, 3, 4, 8]
  | 9 => [1, 2, 3, 4, 8]
  | 10 => [2, 3, 4, 30]
  | 11 => [2, 3, 4, 30, 31]
  | 12 => [2, 3, 4, 7, 30]
  | 13 => [2, 3, 4, 30]
  | 14 => [2, 3, 4, 30]
  | 15 => [2]
  | _ => []
def ir.ots_Digits.r0 : C := .region [1, 2] [⟨some 1, .box (.tmp 0), none⟩, ⟨some 2, .new (zrep 68 (.int .u8 0)), none⟩]
theorem ir.ots_Digits.r0.w (e : Env) (h : AHeap) (Q : Post) : wpC Try.prog nG ir.ots_Digits.r0 e h Q = lk (look e 0) (fun v0 => wI Try.prog nG (.box (.const v0)) h fun v1 h => wI Try.prog nG (.new (zrep 68 (.int .u8 0))) h fun v2 h => Q .normal [(1, v1), (2, v2)] h) () := lkm (wR (Rn rfl fun v1 h => Rn rfl fun v2 h => rfl))
def ir.ots_Digits.r1 : C := .region [1, 2, 3] [⟨some 3, .new (zrep 68 (.int .u8 0)), none⟩]
theorem ir.ots_Digits.r1.w (e : Env) (h : AHeap) (Q : Post) : wpC Try.prog nG ir.ots_Digits.r1 e h Q = lk (look e 1) (fun v1 => lk (look e 2) (fun v2 => wI Try.prog nG (.new (zrep 68 (.int .u8 0))) h fun v3 h => Q .normal [(1, v1), (2, v2), (3, v3)] h) ()) () := lkm (lkm (wR (Rn rfl fun v3 h => rfl)))
def ir.ots_Digits.r2 : C := .region [1, 2, 3, 4] [⟨some 4, .mv (.const (.int .i64 0)), none⟩]
theorem ir.ots_Digits.r2.w (e : Env) (h : AHeap) (Q : Post) : wpC Try.prog nG ir.ots_Digits.r2 e h Q = lk (look e 1) (fun v1 => lk (look e 2) (fun v2 => lk (look e 3) (fun v3 => wI Try.prog nG (.mv (.const (.int .i64 0))) h fun v4 h => Q .normal [(1, v1), (2, v2), (3, v3), (4, v4)] h) ()) ()) () := lkm (lkm (lkm (wR (Rn rfl fun v4 h => rfl))))
def ir.ots_Digits.r3 : C := .region [1, 2, 3, 4, 8] [⟨some 8, .mv (.const (.int .i64 0)), none⟩]
theorem ir.ots_Digits.r3.w (e : Env) (h : AHeap) (Q : Post) : wpC Try.prog nG ir.ots_Digits.r3 e h Q = lk (look e 1) (fun v1 => lk (look e 2) (fun v2 => lk (look e 3) (fun v3 => lk (look e 4) (fun v4 => wI Try.prog nG (.mv (.const (.int .i64 0))) h fun v8 h => Q .normal [(1, v1), (2, v2), (3, v3), (4, v4), (8, v8)] h) ()) ()) ()) () := lkm (lkm (lkm (lkm (wR (Rn rfl fun v8 h => rfl)))))
def ir.ots_Digits.r4 : C := .region [1, 2, 3, 4, 8, 9] [⟨some 9, .bin .lss (.tmp 8) (.const (.int .i64 64)), none⟩]
theorem ir.ots_Digits.r4.w (e : Env) (h : AHeap) (Q : Post) : wpC Try.prog nG ir.ots_Digits.r4 e h Q = lk (look e 1) (fun v1 => lk (look e 2) (fun v2 => lk (look e 3) (fun v3 => lk (look e 4) (fun v4 => lk (look e 8) (fun v8 => wI Try.prog nG (.bin .lss (.const v8) (.const (.int .i64 64))) h fun v9 h => Q .normal [(1, v1), (2, v2), (3, v3), (4, v4), (8, v8), (9, v9)] h) ()) ()) ()) ()) () := lkm (lkm (lkm (lkm (lkm (wR (Rn rfl fun v9 h => rfl))))))
def ir.ots_Digits.r5 : C := .region [1, 2, 3, 4, 5, 8] [⟨some 10, .mv (.tmp 8), none⟩, ⟨some 5, .mv (.tmp 10), none⟩]
theorem ir.ots_Digits.r5.w (e : Env) (h : AHeap) (Q : Post) : wpC Try.prog nG ir.ots_Digits.r5 e h Q = lk (look e 1) (fun v1 => lk (look e 2) (fun v2 => lk (look e 3) (fun v3 => lk (look e 4) (fun v4 => lk (look e 8) (fun v8 => wI Try.prog nG (.mv (.const v8)) h fun v10 h => wI Try.prog nG (.mv (.const v10)) h fun v5 h => Q .normal [(1, v1), (2, v2), (3, v3), (4, v4), (5, v5), (8, v8)] h) ()) ()) ()) ()) () := lkm (lkm (lkm (lkm (lkm (wR (Rn rfl fun v10 h => Rn rfl fun v5 h => rfl))))))
def ir.ots_Digits.r6 : C := .region [1, 2, 3, 4, 5, 6, 8] [⟨some 11, .mv (.tmp 5), none⟩, ⟨some 12, .bin .quo (.tmp 11) (.const (.int .i64 4)), none⟩, ⟨some 13, .ixa 16 1 (.tmp 1) (.tmp 12), none⟩, ⟨some 14, .load false 1 (.tmp 13), none⟩, ⟨some 15, .mv (.tmp 5), none⟩, ⟨some 16, .bin .rem (.tmp 15) (.const (.int .i64 4)), none⟩, ⟨some 17, .bin .mul (.const (.int .i64 2)) (.tmp 16), none⟩, ⟨some 18, .bin .sub (.const (.int .i64 6)) (.tmp 17), none⟩, ⟨some 19, .bin .shr (.tmp 14) (.tmp 18), none⟩, ⟨some 20, .bin .and (.tmp 19) (.const (.int .u8 3)), none⟩, ⟨some 6, .mv (.tmp 20), none⟩]
theorem ir.ots_Digits.r6.w (e : Env) (h : AHeap) (Q : Post) : wpC Try.prog nG ir.ots_Digits.r6 e h Q = lk (look e 1) (fun v1 => lk (look e 2) (fun v2 => lk (look e 3) (fun v3 => lk (look e 4) (fun v4 => lk (look e 5) (fun v5 => lk (look e 8) (fun v8 => wI Try.prog nG (.mv (.const v5)) h fun v11 h => wI Try.prog nG (.bin .quo (.const v11) (.const (.int .i64 4))) h fun v12 h => wI Try.prog nG (.ixa 16 1 (.const v1) (.const v12)) h fun v13 h => wI Try.prog nG (.load false 1 (.const v13)) h fun v14 h => wI Try.prog nG (.mv (.const v5)) h fun v15 h => wI Try.prog nG (.bin .rem (.const v15) (.const (.int .i64 4))) h fun v16 h => wI Try.prog nG (.bin .mul (.const (.int .i64 2)) (.const v16)) h fun v17 h => wI Try.prog nG (.bin .sub (.const (.int .i64 6)) (.const v17)) h fun v18 h => wI Try.prog nG (.bin .shr (.const v14) (.const v18)) h fun v19 h => wI Try.prog nG (.bin .and (.const v19) (.const (.int .u8 3))) h fun v20 h => wI Try.prog nG (.mv (.const v20)) h fun v6 h => Q .normal [(1, v1), (2, v2), (3, v3), (4, v4), (5, v5), (6, v6), (8, v8)] h) ()) ()) ()) ()) ()) () := lkm (lkm (lkm (lkm (lkm (lkm (wR (Rn rfl fun v11 h => Rn rfl fun v12 h => Rn rfl fun v13 h => Rn rfl fun v14 h => Rn rfl fun v15 h => Rn rfl fun v16 h => Rn rfl fun v17 h => Rn rfl fun v18 h => Rn rfl fun v19 h => Rn rfl fun v20 h => Rn rfl fun v6 h => rfl)))))))
def ir.ots_Digits.r7 : C := .region [1, 2, 3, 4, 6, 8] [⟨some 21, .mv (.tmp 5), none⟩, ⟨some 22, .mv (.tmp 6), none⟩, ⟨some 23, .ixa 68 1 (.tmp 3) (.tmp 21), none⟩, ⟨none, .store 1 (.tmp 23) (.tmp 22), none⟩]
theorem ir.ots_Digits.r7.w (e : Env) (h : AHeap) (Q : Post) : wpC Try.prog nG ir.ots_Digits.r7 e h Q = lk (look e 1) (fun v1 => lk (look e 2) (fun v2 => lk (look e 3) (fun v3 => lk (look e 4) (fun v4 => lk (look e 5) (fun v5 => lk (look e 6) (fun v6 => lk (look e 8) (fun v8 => wI Try.prog nG (.mv (.const v5)) h fun v21 h => wI Try.prog nG (.mv (.const v6)) h fun v22 h => wI Try.prog nG (.ixa 68 1 (.const v3) (.const v21)) h fun v23 h => wI Try.prog nG (.store 1 (.const v23) (.const v22)) h fun _ h => Q .normal [(1, v1), (2, v2), (3, v3), (4, v4), (6, v6), (8, v8)] h) ()) ()) ()) ()) ()) ()) () := lkm (lkm (lkm (lkm (lkm (lkm (lkm (wR (Rn rfl fun v21 h => Rn rfl fun v22 h => Rn rfl fun v23 h => Rz rfl fun v_ h => rfl))))))))
def ir.ots_Digits.r8 : C := .region [1, 2, 3, 4, 8] [⟨some 24, .mv (.tmp 4), none⟩, ⟨some 25, .mv (.tmp 6), none⟩, ⟨some 26, .conv .i64 (.tmp 25), none⟩, ⟨some 27, .bin .sub (.const (.int .i64 3)) (.tmp 26), none⟩, ⟨some 28, .bin .add (.tmp 24) (.tmp 27), none⟩, ⟨some 4, .mv (.tmp 28), none⟩]
theorem ir.ots_Digits.r8.w (e : Env) (h : AHeap) (Q : Post) : wpC Try.prog nG ir.ots_Digits.r8 e h Q = lk (look e 1) (fun v1 => lk (look e 2) (fun v2 => lk (look e 3) (fun v3 => lk (look e 4) (fun v4 => lk (look e 6) (fun v6 => lk (look e 8) (fun v8 => wI Try.prog nG (.mv (.const v4)) h fun v24 h => wI Try.prog nG (.mv (.const v6)) h fun v25 h => wI Try.prog nG (.conv .i64 (.const v25)) h fun v26 h => wI Try.prog nG (.bin .sub (.const (.int .i64 3)) (.const v26)) h fun v27 h => wI Try.prog nG (.bin .add (.const v24) (.const v27)) h fun v28 h => wI Try.prog nG (.mv (.const v28)) h fun v4 h => Q .normal [(1, v1), (2, v2), (3, v3), (4, v4), (8, v8)] h) ()) ()) ()) ()) ()) () := lkm (lkm (lkm (lkm (lkm (lkm (wR (Rn rfl fun v24 h => Rn rfl fun v25 h => Rn rfl fun v26 h => Rn rfl fun v27 h => Rn rfl fun v28 h => Rn rfl fun v4 h => rfl)))))))
def ir.ots_Digits.r9 : C := .region [1, 2, 3, 4, 8] [⟨some 29, .bin .add (.tmp 8) (.const (.int .i64 1)), none⟩, ⟨some 8, .mv (.tmp 29), none⟩]
theorem ir.ots_Digits.r9.w (e : Env) (h : AHeap) (Q : Post) : wpC Try.prog nG ir.ots_Digits.r9 e h Q = lk (look e 1) (fun v1 => lk (look e 2) (fun v2 => lk (look e 3) (fun v3 => lk (look e 4) (fun v4 => lk (look e 8) (fun v8 => wI Try.prog nG (.bin .add (.const v8) (.const (.int .i64 1))) h fun v29 h => wI Try.prog nG (.mv (.const v29)) h fun v8 h => Q .normal [(1, v1), (2, v2), (3, v3), (4, v4), (8, v8)] h) ()) ()) ()) ()) () := lkm (lkm (lkm (lkm (lkm (wR (Rn rfl fun v29 h => Rn rfl fun v8 h => rfl))))))
def ir.ots_Digits.l1.b : C := (.seq ir.ots_Digits.r4 (.seq (.cond (.tmp 9) .skip (.exit 0)) (.seq (.block 1 (.seq ir.ots_Digits.r5 (.seq ir.ots_Digits.r6 (.seq ir.ots_Digits.r7 ir.ots_Digits.r8)))) ir.ots_Digits.r9)))
theorem ir.ots_Digits.l1.bw (e : Env) (h : AHeap) (Q : Post) : wpC Try.prog nG ir.ots_Digits.l1.b e h Q = wpC Try.prog nG (.seq ir.ots_Digits.r4 (.seq (.cond (.tmp 9) .skip (.exit 0)) (.seq (.block 1 (.seq ir.ots_Digits.r5 (.seq ir.ots_Digits.r6 (.seq ir.ots_Digits.r7 ir.ots_Digits.r8)))) ir.ots_Digits.r9))) e h Q := (rfl)
def ir.ots_Digits.l1 : C := .loop ir.ots_Digits.l1.b
theorem ir.ots_Digits.l1.w (e : Env) (h : AHeap) (Q : Post) : wpC Try.prog nG ir.ots_Digits.l1 e h Q = loopV Try.prog nG ir.ots_Digits.l1.b e h Q () := (rfl)
def ir.ots_Digits.r10 : C := .region [2, 3, 4, 30] [⟨some 30, .mv (.const (.int .i64 0)), none⟩]
theorem ir.ots_Digits.r10.w (e : Env) (h : AHeap) (Q : Post) : wpC Try.prog nG ir.ots_Digits.r10 e h Q = lk (look e 2) (fun v2 => lk (look e 3) (fun v3 => lk (look e 4) (fun v4 => wI Try.prog nG (.mv (.const (.int .i64 0))) h fun v30 h => Q .normal [(2, v2), (3, v3), (4, v4), (30, v30)] h) ()) ()) () := lkm (lkm (lkm (wR (Rn rfl fun v30 h => rfl))))
def ir.ots_Digits.r11 : C := .region [2, 3, 4, 30, 31] [⟨some 31, .bin .lss (.tmp 30) (.const (.int .i64 4)), none⟩]
theorem ir.ots_Digits.r11.w (e : Env) (h : AHeap) (Q : Post) : wpC Try.prog nG ir.ots_Digits.r11 e h Q = lk (look e 2) (fun v2 => lk (look e 3) (fun v3 => lk (look e 4) (fun v4 => lk (look e 30) (fun v30 => wI Try.prog nG (.bin .lss (.const v30) (.const (.int .i64 4))) h fun v31 h => Q .normal [(2, v2), (3, v3), (4, v4), (30, v30), (31, v31)] h) ()) ()) ()) () := lkm (lkm (lkm (lkm (wR (Rn rfl fun v31 h => rfl)))))
def ir.ots_Digits.r12 : C := .region [2, 3, 4, 7, 30] [⟨some 32, .mv (.tmp 30), none⟩, ⟨some 7, .mv (.tmp 32), none⟩]
theorem ir.ots_Digits.r12.w (e : Env) (h : AHeap) (Q : Post) : wpC Try.prog nG ir.ots_Digits.r12 e h Q = lk (look e 2) (fun v2 => lk (look e 3) (fun v3 => lk (look e 4) (fun v4 => lk (look e 30) (fun v30 => wI Try.prog nG (.mv (.const v30)) h fun v32 h => wI Try.prog nG (.mv (.const v32)) h fun v7 h => Q .normal [(2, v2), (3, v3), (4, v4), (7, v7), (30, v30)] h) ()) ()) ()) () := lkm (lkm (lkm (lkm (wR (Rn rfl fun v32 h => Rn rfl fun v7 h => rfl)))))
def ir.ots_Digits.r13 : C := .region [2, 3, 4, 30] [⟨some 33, .mv (.tmp 7), none⟩, ⟨some 34, .bin .add (.const (.int .i64 64)) (.tmp 33), none⟩, ⟨some 35, .mv (.tmp 4), none⟩, ⟨some 36, .mv (.tmp 7), none⟩, ⟨some 37, .bin .mul (.const (.int .i64 2)) (.tmp 36), none⟩, ⟨some 38, .bin .sub (.const (.int .i64 6)) (.tmp 37), none⟩, ⟨some 39, .bin .shr (.tmp 35) (.tmp 38), none⟩, ⟨some 40, .bin .and (.tmp 39) (.const (.int .i64 3)), none⟩, ⟨some 41, .conv .u8 (.tmp 40), none⟩, ⟨some 42, .ixa 68 1 (.tmp 3) (.tmp 34), none⟩, ⟨none, .store 1 (.tmp 42) (.tmp 41), none⟩]
theorem ir.ots_Digits.r13.w (e : Env) (h : AHeap) (Q : Post) : wpC Try.prog nG ir.ots_Digits.r13 e h Q = lk (look e 2) (fun v2 => lk (look e 3) (fun v3 => lk (look e 4) (fun v4 => lk (look e 7) (fun v7 => lk (look e 30) (fun v30 => wI Try.prog nG (.mv (.const v7)) h fun v33 h => wI Try.prog nG (.bin .add (.const (.int .i64 64)) (.const v33)) h fun v34 h => wI Try.prog nG (.mv (.const v4)) h fun v35 h => wI Try.prog nG (.mv (.const v7)) h fun v36 h => wI Try.prog nG (.bin .mul (.const (.int .i64 2)) (.const v36)) h fun v37 h => wI Try.prog nG (.bin .sub (.const (.int .i64 6)) (.const v37)) h fun v38 h => wI Try.prog nG (.bin .shr (.const v35) (.const v38)) h fun v39 h => wI Try.prog nG (.bin .and (.const v39) (.const (.int .i64 3))) h fun v40 h => wI Try.prog nG (.conv .u8 (.const v40)) h fun v41 h => wI Try.prog nG (.ixa 68 1 (.const v3) (.const v34)) h fun v42 h => wI Try.prog nG (.store 1 (.const v42) (.const v41)) h fun _ h => Q .normal [(2, v2), (3, v3), (4, v4), (30, v30)] h) ()) ()) ()) ()) () := lkm (lkm (lkm (lkm (lkm (wR (Rn rfl fun v33 h => Rn rfl fun v34 h => Rn rfl fun v35 h => Rn rfl fun v36 h => Rn rfl fun v37 h => Rn rfl fun v38 h => Rn rfl fun v39 h => Rn rfl fun v40 h => Rn rfl fun v41 h => Rn rfl fun v42 h => Rz rfl fun v_ h => rfl))))))
def ir.ots_Digits.r14 : C := .region [2, 3, 4, 30] [⟨some 43, .bin .add (.tmp 30) (.const (.int .i64 1)), none⟩, ⟨some 30, .mv (.tmp 43), none⟩]
theorem ir.ots_Digits.r14.w (e : Env) (h : AHeap) (Q : Post) : wpC Try.prog nG ir.ots_Digits.r14 e h Q = lk (look e 2) (fun v2 => lk (look e 3) (fun v3 => lk (look e 4) (fun v4 => lk (look e 30) (fun v30 => wI Try.prog nG (.bin .add (.const v30) (.const (.int .i64 1))) h fun v43 h => wI Try.prog nG (.mv (.const v43)) h fun v30 h => Q .normal [(2, v2), (3, v3), (4, v4), (30, v30)] h) ()) ()) ()) () := lkm (lkm (lkm (lkm (wR (Rn rfl fun v43 h => Rn rfl fun v30 h => rfl)))))
def ir.ots_Digits.l2.b : C := (.seq ir.ots_Digits.r11 (.seq (.cond (.tmp 31) .skip (.exit 2)) (.seq (.block 3 (.seq ir.ots_Digits.r12 ir.ots_Digits.r13)) ir.ots_Digits.r14)))
theorem ir.ots_Digits.l2.bw (e : Env) (h : AHeap) (Q : Post) : wpC Try.prog nG ir.ots_Digits.l2.b e h Q = wpC Try.prog nG (.seq ir.ots_Digits.r11 (.seq (.cond (.tmp 31) .skip (.exit 2)) (.seq (.block 3 (.seq ir.ots_Digits.r12 ir.ots_Digits.r13)) ir.ots_Digits.r14))) e h Q := (rfl)
def ir.ots_Digits.l2 : C := .loop ir.ots_Digits.l2.b
theorem ir.ots_Digits.l2.w (e : Env) (h : AHeap) (Q : Post) : wpC Try.prog nG ir.ots_Digits.l2 e h Q = loopV Try.prog nG ir.ots_Digits.l2.b e h Q () := (rfl)
def ir.ots_Digits.r15 : C := .region [2] [⟨some 44, .load true 68 (.tmp 3), none⟩, ⟨none, .store 68 (.tmp 2) (.tmp 44), none⟩]
theorem ir.ots_Digits.r15.w (e : Env) (h : AHeap) (Q : Post) : wpC Try.prog nG ir.ots_Digits.r15 e h Q = lk (look e 2) (fun v2 => lk (look e 3) (fun v3 => wI Try.prog nG (.load true 68 (.const v3)) h fun v44 h => wI Try.prog nG (.store 68 (.const v2) (.const v44)) h fun _ h => Q .normal [(2, v2)] h) ()) () := lkm (lkm (wR (Rn rfl fun v44 h => Rz rfl fun v_ h => rfl)))
def ir.ots_Digits : C := (.seq ir.ots_Digits.r0 (.seq ir.ots_Digits.r1 (.seq ir.ots_Digits.r2 (.seq (.seq ir.ots_Digits.r3 (.block 0 ir.ots_Digits.l1)) (.seq (.seq ir.ots_Digits.r10 (.block 2 ir.ots_Digits.l2)) (.seq ir.ots_Digits.r15 .ret))))))
theorem ir.ots_Digits.bw (e : Env) (h : AHeap) (Q : Post) : wpC Try.prog nG ir.ots_Digits e h Q = wpC Try.prog nG (.seq ir.ots_Digits.r0 (.seq ir.ots_Digits.r1 (.seq ir.ots_Digits.r2 (.seq (.seq ir.ots_Digits.r3 (.block 0 ir.ots_Digits.l1)) (.seq (.seq ir.ots_Digits.r10 (.block 2 ir.ots_Digits.l2)) (.seq ir.ots_Digits.r15 .ret)))))) e h Q := (rfl)
def ir.ots_Digits.rs : List RV := [.cell 2 true 68]
theorem ir.ots_Digits.ok : resC Try.prog nG 45 ir.ots_Digits.ks (Try.f74.body.getD .skip) = some ir.ots_Digits := by kernel_rfl
theorem ir.ots_Digits.rok : Try.f74.results.toList.mapM (resR Try.prog) = some ir.ots_Digits.rs := by kernel_rfl
theorem ir.ots_Digits.spec {args : List Value} {h : AHeap} {v : Value} {h' : AHeap} (hn : args.length ≤ 45) :
    (wpC Try.prog nG ir.ots_Digits (args.zipIdx.map fun p => (p.2, p.1)) h (retQ ir.ots_Digits.rs h v h')) → Spec Try.prog nG fn.ots_Digits args h v h' :=
  Spec.intro (fn := Try.f74) Try.func74 (c := Try.f74.body.getD .skip) (by kernel_rfl) ir.ots_Digits.ok ir.ots_Digits.rok hn
attribute [go_sem ↓] ir.ots_Digits.r0.w ir.ots_Digits.r1.w ir.ots_Digits.r2.w ir.ots_Digits.r3.w ir.ots_Digits.r4.w ir.ots_Digits.r5.w ir.ots_Digits.r6.w ir.ots_Digits.r7.w ir.ots_Digits.r8.w ir.ots_Digits.r9.w ir.ots_Digits.l1.w ir.ots_Digits.r10.w ir.ots_Digits.r11.w ir.ots_Digits.r12.w ir.ots_Digits.r13.w ir.ots_Digits.r14.w ir.ots_Digits.l2.w ir.ots_Digits.r15.w
attribute [go_sem] ir.ots_Digits.rs
end Go.Proofs.YtbomppdiiaodbaaRRR.B
