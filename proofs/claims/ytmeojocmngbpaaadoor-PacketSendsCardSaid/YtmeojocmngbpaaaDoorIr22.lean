/-
  The instructions of the program's functions, printed by genir.py; each is checked against the program by the kernel.
-/
import Derived.Test.YtmeojocmngbpaaaDoorProg
import Derived.Test.YtmeojocmngbpaaaDoorArL
import Derived.KernelRfl
namespace Go.Proofs.YtmeojocmngbpaaaDoor.B
open Go
set_option maxRecDepth 100000
set_option linter.unusedVariables false
namespace fn
def law32_PacketSends : FuncId := 3
def law32_fits : FuncId := 4
def law32_awake : FuncId := 5
def packet_Send : FuncId := 6
def law32_to : FuncId := 7
def ref32_Send : FuncId := 8
def packet_Name : FuncId := 9
def ref18_SameInts : FuncId := 10
def ref32_Names : FuncId := 11
def ref22_Table : FuncId := 12
def packet_All : FuncId := 13
def packet_is : FuncId := 14
def fib_Lookup : FuncId := 15
def packet_Net_linked : FuncId := 16
def law22_To : FuncId := 17
def ref32_At : FuncId := 18
def ref22_Lookup : FuncId := 19
def slices_BinarySearchFunc_fib_Hop_fib_Hop_int : FuncId := 20
def fib_Lookup_1 : FuncId := 21
def cmp_Compare_int : FuncId := 22
def cmp_isNaN_int : FuncId := 23
def runtime_boundsError_Error : FuncId := 24
def runtime_boundsError_RuntimeError : FuncId := 25
def runtime_errorString_Error : FuncId := 26
def runtime_errorString_RuntimeError : FuncId := 27
def runtime_plainError_Error : FuncId := 28
def runtime_plainError_RuntimeError : FuncId := 29
def runtime_errorAddressString_Error : FuncId := 30
def runtime_errorAddressString_RuntimeError : FuncId := 31
def runtime_TypeAssertionError_Error : FuncId := 32
def runtime_TypeAssertionError_RuntimeError : FuncId := 33
def runtime_PanicNilError_Error : FuncId := 34
def runtime_PanicNilError_RuntimeError : FuncId := 35
def internal_abi_Type_Align : FuncId := 36
def internal_runtime_maps_unhashableTypeError_Error : FuncId := 37
def internal_runtime_maps_unhashableTypeError_RuntimeError : FuncId := 38
def internal_abi_Kind_String : FuncId := 39
def var_s_door_packet_names_is_laid_by_its_own_initialiser_plain_data_look_11 : FuncId := 40
def var_s_door_gosem_cut_vars_holds_initialisers_alone_see_the_manifest_s_row_cutvarsword_look_11_test_files_too : FuncId := 41
def var_s_door_the_look_of_gosem_cut_vars_went_over_the_folder_that_the_caller_named_as_the_repository_s_root_look_11 : FuncId := 42
def gosem_cut_vars : FuncId := 43
end fn
def nG : Nat := 1

/-! ### fingerpost/fingerpostref18.SameInts: function 10 -/
def ir.ref18_SameInts.ks : Nat → List Nat := fun
  | 0 => [0, 1]
  | 1 => [0, 1, 10]
  | 2 => [4]
  | 3 => [0, 1, 5]
  | 4 => [0, 1, 5, 14]
  | 5 => [0, 1, 5]
  | 6 => [0, 1, 5, 25]
  | 7 => [4]
  | 8 => [4]
  | _ => []
def ir.ref18_SameInts.r0 : C := .region [0, 1] [⟨some 4, .mv (.const (.bool false)), none⟩]
theorem ir.ref18_SameInts.r0.w (e : Env) (h : AHeap) (Q : Post) : wpC Tryd.prog nG ir.ref18_SameInts.r0 e h Q = lk (look e 0) (fun v0 => lk (look e 1) (fun v1 => wI Tryd.prog nG (.mv (.const (.bool false))) h fun v4 h => Q .normal [(0, v0), (1, v1)] h) ()) () := lkm (lkm (wR (Rn rfl fun v4 h => rfl)))
def ir.ref18_SameInts.r1 : C := .region [0, 1, 10] [⟨some 6, .mv (.tmp 0), none⟩, ⟨some 7, .len false (.tmp 6), none⟩, ⟨some 8, .mv (.tmp 1), none⟩, ⟨some 9, .len false (.tmp 8), none⟩, ⟨some 10, .bin .neq (.tmp 7) (.tmp 9), none⟩]
theorem ir.ref18_SameInts.r1.w (e : Env) (h : AHeap) (Q : Post) : wpC Tryd.prog nG ir.ref18_SameInts.r1 e h Q = lk (look e 0) (fun v0 => lk (look e 1) (fun v1 => wI Tryd.prog nG (.mv (.const v0)) h fun v6 h => wI Tryd.prog nG (.len false (.const v6)) h fun v7 h => wI Tryd.prog nG (.mv (.const v1)) h fun v8 h => wI Tryd.prog nG (.len false (.const v8)) h fun v9 h => wI Tryd.prog nG (.bin .neq (.const v7) (.const v9)) h fun v10 h => Q .normal [(0, v0), (1, v1), (10, v10)] h) ()) () := lkm (lkm (wR (Rn rfl fun v6 h => Rn rfl fun v7 h => Rn rfl fun v8 h => Rn rfl fun v9 h => Rn rfl fun v10 h => rfl)))
def ir.ref18_SameInts.r2 : C := .region [4] [⟨some 4, .mv (.const (.bool false)), none⟩]
theorem ir.ref18_SameInts.r2.w (e : Env) (h : AHeap) (Q : Post) : wpC Tryd.prog nG ir.ref18_SameInts.r2 e h Q = wI Tryd.prog nG (.mv (.const (.bool false))) h fun v4 h => Q .normal [(4, v4)] h := wR (Rn rfl fun v4 h => rfl)
def ir.ref18_SameInts.r3 : C := .region [0, 1, 5] [⟨some 5, .mv (.const (.int .i64 0)), none⟩]
theorem ir.ref18_SameInts.r3.w (e : Env) (h : AHeap) (Q : Post) : wpC Tryd.prog nG ir.ref18_SameInts.r3 e h Q = lk (look e 0) (fun v0 => lk (look e 1) (fun v1 => wI Tryd.prog nG (.mv (.const (.int .i64 0))) h fun v5 h => Q .normal [(0, v0), (1, v1), (5, v5)] h) ()) () := lkm (lkm (wR (Rn rfl fun v5 h => rfl)))
def ir.ref18_SameInts.r4 : C := .region [0, 1, 5, 14] [⟨some 11, .mv (.tmp 5), none⟩, ⟨some 12, .mv (.tmp 0), none⟩, ⟨some 13, .len false (.tmp 12), none⟩, ⟨some 14, .bin .lss (.tmp 11) (.tmp 13), none⟩]
theorem ir.ref18_SameInts.r4.w (e : Env) (h : AHeap) (Q : Post) : wpC Tryd.prog nG ir.ref18_SameInts.r4 e h Q = lk (look e 0) (fun v0 => lk (look e 1) (fun v1 => lk (look e 5) (fun v5 => wI Tryd.prog nG (.mv (.const v5)) h fun v11 h => wI Tryd.prog nG (.mv (.const v0)) h fun v12 h => wI Tryd.prog nG (.len false (.const v12)) h fun v13 h => wI Tryd.prog nG (.bin .lss (.const v11) (.const v13)) h fun v14 h => Q .normal [(0, v0), (1, v1), (5, v5), (14, v14)] h) ()) ()) () := lkm (lkm (lkm (wR (Rn rfl fun v11 h => Rn rfl fun v12 h => Rn rfl fun v13 h => Rn rfl fun v14 h => rfl))))
def ir.ref18_SameInts.r6 : C := .draw [0, 1, 5, 25] [⟨some 17, .mv (.tmp 0), none⟩, ⟨some 18, .mv (.tmp 5), none⟩, ⟨some 19, .ixs 1 (.tmp 17) (.tmp 18), none⟩, ⟨some 20, .load false 1 (.tmp 19), none⟩, ⟨some 21, .mv (.tmp 1), none⟩, ⟨some 22, .mv (.tmp 5), none⟩, ⟨some 23, .ixs 1 (.tmp 21) (.tmp 22), none⟩, ⟨some 24, .load false 1 (.tmp 23), none⟩, ⟨some 25, .bin .neq (.tmp 20) (.tmp 24), none⟩]
theorem ir.ref18_SameInts.r6.w (e : Env) (h : AHeap) (Q : Post) : wpC Tryd.prog nG ir.ref18_SameInts.r6 e h Q = lk (look e 0) (fun v0 => lk (look e 1) (fun v1 => lk (look e 5) (fun v5 => wI Tryd.prog nG (.mv (.const v0)) h fun v17 h => wI Tryd.prog nG (.mv (.const v5)) h fun v18 h => wI Tryd.prog nG (.ixs 1 (.const v17) (.const v18)) h fun v19 h => wI Tryd.prog nG (.load false 1 (.const v19)) h fun v20 h => wI Tryd.prog nG (.mv (.const v1)) h fun v21 h => wI Tryd.prog nG (.mv (.const v5)) h fun v22 h => wI Tryd.prog nG (.ixs 1 (.const v21) (.const v22)) h fun v23 h => wI Tryd.prog nG (.load false 1 (.const v23)) h fun v24 h => wI Tryd.prog nG (.bin .neq (.const v20) (.const v24)) h fun v25 h => Q .normal [(0, v0), (1, v1), (5, v5), (25, v25)] h) ()) ()) () := lkm (lkm (lkm (wDr (Dn rfl rfl fun v17 h => Dn rfl rfl fun v18 h => Dn rfl rfl fun v19 h => Dn rfl rfl fun v20 h => Dn rfl rfl fun v21 h => Dn rfl rfl fun v22 h => Dn rfl rfl fun v23 h => Dn rfl rfl fun v24 h => Dn rfl rfl fun v25 h => rfl))))
def ir.ref18_SameInts.r7 : C := .region [4] [⟨some 4, .mv (.const (.bool false)), none⟩]
theorem ir.ref18_SameInts.r7.w (e : Env) (h : AHeap) (Q : Post) : wpC Tryd.prog nG ir.ref18_SameInts.r7 e h Q = wI Tryd.prog nG (.mv (.const (.bool false))) h fun v4 h => Q .normal [(4, v4)] h := wR (Rn rfl fun v4 h => rfl)
def ir.ref18_SameInts.r5 : C := .region [0, 1, 5] [⟨some 15, .mv (.tmp 5), none⟩, ⟨some 16, .bin .add (.tmp 15) (.const (.int .i64 1)), none⟩, ⟨some 5, .mv (.tmp 16), none⟩]
theorem ir.ref18_SameInts.r5.w (e : Env) (h : AHeap) (Q : Post) : wpC Tryd.prog nG ir.ref18_SameInts.r5 e h Q = lk (look e 0) (fun v0 => lk (look e 1) (fun v1 => lk (look e 5) (fun v5 => wI Tryd.prog nG (.mv (.const v5)) h fun v15 h => wI Tryd.prog nG (.bin .add (.const v15) (.const (.int .i64 1))) h fun v16 h => wI Tryd.prog nG (.mv (.const v16)) h fun v5 h => Q .normal [(0, v0), (1, v1), (5, v5)] h) ()) ()) () := lkm (lkm (lkm (wR (Rn rfl fun v15 h => Rn rfl fun v16 h => Rn rfl fun v5 h => rfl))))
def ir.ref18_SameInts.l1.b : C := (.seq (.seq ir.ref18_SameInts.r4 (.cond (.tmp 14) .skip (.exit 0))) (.seq (.block 1 (.seq ir.ref18_SameInts.r6 (.cond (.tmp 25) (.seq ir.ref18_SameInts.r7 .ret) .skip))) ir.ref18_SameInts.r5))
theorem ir.ref18_SameInts.l1.bw (e : Env) (h : AHeap) (Q : Post) : wpC Tryd.prog nG ir.ref18_SameInts.l1.b e h Q = wpC Tryd.prog nG (.seq (.seq ir.ref18_SameInts.r4 (.cond (.tmp 14) .skip (.exit 0))) (.seq (.block 1 (.seq ir.ref18_SameInts.r6 (.cond (.tmp 25) (.seq ir.ref18_SameInts.r7 .ret) .skip))) ir.ref18_SameInts.r5)) e h Q := (rfl)
def ir.ref18_SameInts.l1 : C := .loop ir.ref18_SameInts.l1.b
theorem ir.ref18_SameInts.l1.w (e : Env) (h : AHeap) (Q : Post) : wpC Tryd.prog nG ir.ref18_SameInts.l1 e h Q = loopV Tryd.prog nG ir.ref18_SameInts.l1.b e h Q () := (rfl)
def ir.ref18_SameInts.r8 : C := .region [4] [⟨some 4, .mv (.const (.bool true)), none⟩]
theorem ir.ref18_SameInts.r8.w (e : Env) (h : AHeap) (Q : Post) : wpC Tryd.prog nG ir.ref18_SameInts.r8 e h Q = wI Tryd.prog nG (.mv (.const (.bool true))) h fun v4 h => Q .normal [(4, v4)] h := wR (Rn rfl fun v4 h => rfl)
def ir.ref18_SameInts : C := (.seq ir.ref18_SameInts.r0 (.seq (.seq ir.ref18_SameInts.r1 (.cond (.tmp 10) (.seq ir.ref18_SameInts.r2 .ret) .skip)) (.seq (.seq ir.ref18_SameInts.r3 (.block 0 ir.ref18_SameInts.l1)) (.seq ir.ref18_SameInts.r8 .ret))))
theorem ir.ref18_SameInts.bw (e : Env) (h : AHeap) (Q : Post) : wpC Tryd.prog nG ir.ref18_SameInts e h Q = wpC Tryd.prog nG (.seq ir.ref18_SameInts.r0 (.seq (.seq ir.ref18_SameInts.r1 (.cond (.tmp 10) (.seq ir.ref18_SameInts.r2 .ret) .skip)) (.seq (.seq ir.ref18_SameInts.r3 (.block 0 ir.ref18_SameInts.l1)) (.seq ir.ref18_SameInts.r8 .ret)))) e h Q := (rfl)
def ir.ref18_SameInts.rs : List RV := [.tmp 4]
theorem ir.ref18_SameInts.ok : resC Tryd.prog nG 26 ir.ref18_SameInts.ks (Tryd.f10.body.getD .skip) = some ir.ref18_SameInts := by kernel_rfl
theorem ir.ref18_SameInts.rok : Tryd.f10.results.toList.mapM (resR Tryd.prog) = some ir.ref18_SameInts.rs := by kernel_rfl
theorem ir.ref18_SameInts.spec {args : List Value} {h : AHeap} {v : Value} {h' : AHeap} (hn : args.length ≤ 26)
    (hk : wpC Tryd.prog nG ir.ref18_SameInts (args.zipIdx.map fun p => (p.2, p.1)) h (retQ ir.ref18_SameInts.rs h v h')) : Spec Tryd.prog nG fn.ref18_SameInts args h v h' :=
  Spec.intro (fn := Tryd.f10) Tryd.func10 (c := Tryd.f10.body.getD .skip) rfl ir.ref18_SameInts.ok ir.ref18_SameInts.rok hn hk

/-! ### fingerpost/fingerpostref22.Table: function 12 -/
def ir.ref22_Table.ks : Nat → List Nat := fun
  | 0 => [0]
  | 1 => [0, 3]
  | 2 => [0, 3, 7]
  | 3 => [0, 3]
  | 4 => [0, 3, 57]
  | 5 => [2]
  | 6 => [2]
  | _ => []
def ir.ref22_Table.r0 : C := .region [0] [⟨some 2, .mv (.const (.bool false)), none⟩]
theorem ir.ref22_Table.r0.w (e : Env) (h : AHeap) (Q : Post) : wpC Tryd.prog nG ir.ref22_Table.r0 e h Q = lk (look e 0) (fun v0 => wI Tryd.prog nG (.mv (.const (.bool false))) h fun v2 h => Q .normal [(0, v0)] h) () := lkm (wR (Rn rfl fun v2 h => rfl))
def ir.ref22_Table.r1 : C := .region [0, 3] [⟨some 3, .mv (.const (.int .i64 0)), none⟩]
theorem ir.ref22_Table.r1.w (e : Env) (h : AHeap) (Q : Post) : wpC Tryd.prog nG ir.ref22_Table.r1 e h Q = lk (look e 0) (fun v0 => wI Tryd.prog nG (.mv (.const (.int .i64 0))) h fun v3 h => Q .normal [(0, v0), (3, v3)] h) () := lkm (wR (Rn rfl fun v3 h => rfl))
def ir.ref22_Table.r2 : C := .region [0, 3, 7] [⟨some 4, .mv (.tmp 3), none⟩, ⟨some 5, .mv (.tmp 0), none⟩, ⟨some 6, .len false (.tmp 5), none⟩, ⟨some 7, .bin .lss (.tmp 4) (.tmp 6), none⟩]
theorem ir.ref22_Table.r2.w (e : Env) (h : AHeap) (Q : Post) : wpC Tryd.prog nG ir.ref22_Table.r2 e h Q = lk (look e 0) (fun v0 => lk (look e 3) (fun v3 => wI Tryd.prog nG (.mv (.const v3)) h fun v4 h => wI Tryd.prog nG (.mv (.const v0)) h fun v5 h => wI Tryd.prog nG (.len false (.const v5)) h fun v6 h => wI Tryd.prog nG (.bin .lss (.const v4) (.const v6)) h fun v7 h => Q .normal [(0, v0), (3, v3), (7, v7)] h) ()) () := lkm (lkm (wR (Rn rfl fun v4 h => Rn rfl fun v5 h => Rn rfl fun v6 h => Rn rfl fun v7 h => rfl)))
def ir.ref22_Table.r4 : C := .draw [0, 3, 57] [⟨some 10, .mv (.tmp 0), none⟩, ⟨some 11, .mv (.tmp 3), none⟩, ⟨some 12, .ixs 3 (.tmp 10) (.tmp 11), none⟩, ⟨some 13, .fld 0 (.tmp 12), none⟩, ⟨some 14, .load false 1 (.tmp 13), none⟩, ⟨some 15, .bin .lss (.tmp 14) (.const (.int .i64 0)), none⟩, ⟨some 16, .mv (.tmp 15), none⟩, ⟨some 17, .mv (.tmp 0), some (16, false)⟩, ⟨some 18, .mv (.tmp 3), some (16, false)⟩, ⟨some 19, .ixs 3 (.tmp 17) (.tmp 18), some (16, false)⟩, ⟨some 20, .fld 0 (.tmp 19), some (16, false)⟩, ⟨some 21, .load false 1 (.tmp 20), some (16, false)⟩, ⟨some 22, .bin .geq (.tmp 21) (.const (.int .i64 8)), some (16, false)⟩, ⟨some 23, .pick (.tmp 16) (.const (.bool true)) (.tmp 22), none⟩, ⟨some 24, .mv (.tmp 23), none⟩, ⟨some 25, .mv (.tmp 0), some (24, false)⟩, ⟨some 26, .mv (.tmp 3), some (24, false)⟩, ⟨some 27, .ixs 3 (.tmp 25) (.tmp 26), some (24, false)⟩, ⟨some 28, .fld 1 (.tmp 27), some (24, false)⟩, ⟨some 29, .load false 1 (.tmp 28), some (24, false)⟩, ⟨some 30, .bin .lss (.tmp 29) (.const (.int .i64 0)), some (24, false)⟩, ⟨some 31, .pick (.tmp 24) (.const (.bool true)) (.tmp 30), none⟩, ⟨some 32, .mv (.tmp 31), none⟩, ⟨some 33, .mv (.tmp 0), some (32, false)⟩, ⟨some 34, .mv (.tmp 3), some (32, false)⟩, ⟨some 35, .ixs 3 (.tmp 33) (.tmp 34), some (32, false)⟩, ⟨some 36, .fld 1 (.tmp 35), some (32, false)⟩, ⟨some 37, .load false 1 (.tmp 36), some (32, false)⟩, ⟨some 38, .bin .geq (.tmp 37) (.const (.int .i64 8)), some (32, false)⟩, ⟨some 39, .pick (.tmp 32) (.const (.bool true)) (.tmp 38), none⟩, ⟨some 40, .mv (.tmp 39), none⟩, ⟨some 41, .mv (.tmp 3), some (40, false)⟩, ⟨some 42, .bin .gtr (.tmp 41) (.const (.int .i64 0)), some (40, false)⟩, ⟨some 43, .mv (.tmp 42), some (40, false)⟩, ⟨some 44, .mv (.tmp 0), some (43, true)⟩, ⟨some 45, .mv (.tmp 3), some (43, true)⟩, ⟨some 46, .ixs 3 (.tmp 44) (.tmp 45), some (43, true)⟩, ⟨some 47, .fld 0 (.tmp 46), some (43, true)⟩, ⟨some 48, .load false 1 (.tmp 47), some (43, true)⟩, ⟨some 49, .mv (.tmp 0), some (43, true)⟩, ⟨some 50, .mv (.tmp 3), some (43, true)⟩, ⟨some 51, .bin .sub (.tmp 50) (.const (.int .i64 1)), some (43, true)⟩, ⟨some 52, .ixs 3 (.tmp 49) (.tmp 51), some (43, true)⟩, ⟨some 53, .fld 0 (.tmp 52), some (43, true)⟩, ⟨some 54, .load false 1 (.tmp 53), some (43, true)⟩, ⟨some 55, .bin .leq (.tmp 48) (.tmp 54), some (43, true)⟩, ⟨some 56, .pick (.tmp 43) (.tmp 55) (.const (.bool false)), some (40, false)⟩, ⟨some 57, .pick (.tmp 40) (.const (.bool true)) (.tmp 56), none⟩]
theorem ir.ref22_Table.r4.w (e : Env) (h : AHeap) (Q : Post) : wpC Tryd.prog nG ir.ref22_Table.r4 e h Q = lk (look e 0) (fun v0 => lk (look e 3) (fun v3 => wI Tryd.prog nG (.mv (.const v0)) h fun v10 h => wI Tryd.prog nG (.mv (.const v3)) h fun v11 h => wI Tryd.prog nG (.ixs 3 (.const v10) (.const v11)) h fun v12 h => wI Tryd.prog nG (.fld 0 (.const v12)) h fun v13 h => wI Tryd.prog nG (.load false 1 (.const v13)) h fun v14 h => wI Tryd.prog nG (.bin .lss (.const v14) (.const (.int .i64 0))) h fun v15 h => wI Tryd.prog nG (.mv (.const v15)) h fun v16 h => gdK v16 false (wI Tryd.prog nG (.mv (.const v0)) h) (fun v16 v17 h => gdK v16 false (wI Tryd.prog nG (.mv (.const v3)) h) (fun v16 v18 h => gdK v16 false (wI Tryd.prog nG (.ixs 3 (.const v17) (.const v18)) h) (fun v16 v19 h => gdK v16 false (wI Tryd.prog nG (.fld 0 (.const v19)) h) (fun v16 v20 h => gdK v16 false (wI Tryd.prog nG (.load false 1 (.const v20)) h) (fun v16 v21 h => gdK v16 false (wI Tryd.prog nG (.bin .geq (.const v21) (.const (.int .i64 8))) h) (fun v16 v22 h => wI Tryd.prog nG (.pick (.const v16) (.const (.bool true)) (.const v22)) h fun v23 h => wI Tryd.prog nG (.mv (.const v23)) h fun v24 h => gdK v24 false (wI Tryd.prog nG (.mv (.const v0)) h) (fun v24 v25 h => gdK v24 false (wI Tryd.prog nG (.mv (.const v3)) h) (fun v24 v26 h => gdK v24 false (wI Tryd.prog nG (.ixs 3 (.const v25) (.const v26)) h) (fun v24 v27 h => gdK v24 false (wI Tryd.prog nG (.fld 1 (.const v27)) h) (fun v24 v28 h => gdK v24 false (wI Tryd.prog nG (.load false 1 (.const v28)) h) (fun v24 v29 h => gdK v24 false (wI Tryd.prog nG (.bin .lss (.const v29) (.const (.int .i64 0))) h) (fun v24 v30 h => wI Tryd.prog nG (.pick (.const v24) (.const (.bool true)) (.const v30)) h fun v31 h => wI Tryd.prog nG (.mv (.const v31)) h fun v32 h => gdK v32 false (wI Tryd.prog nG (.mv (.const v0)) h) (fun v32 v33 h => gdK v32 false (wI Tryd.prog nG (.mv (.const v3)) h) (fun v32 v34 h => gdK v32 false (wI Tryd.prog nG (.ixs 3 (.const v33) (.const v34)) h) (fun v32 v35 h => gdK v32 false (wI Tryd.prog nG (.fld 1 (.const v35)) h) (fun v32 v36 h => gdK v32 false (wI Tryd.prog nG (.load false 1 (.const v36)) h) (fun v32 v37 h => gdK v32 false (wI Tryd.prog nG (.bin .geq (.const v37) (.const (.int .i64 8))) h) (fun v32 v38 h => wI Tryd.prog nG (.pick (.const v32) (.const (.bool true)) (.const v38)) h fun v39 h => wI Tryd.prog nG (.mv (.const v39)) h fun v40 h => gdK v40 false (wI Tryd.prog nG (.mv (.const v3)) h) (fun v40 v41 h => gdK v40 false (wI Tryd.prog nG (.bin .gtr (.const v41) (.const (.int .i64 0))) h) (fun v40 v42 h => gdK v40 false (wI Tryd.prog nG (.mv (.const v42)) h) (fun v40 v43 h => gdK v43 true (wI Tryd.prog nG (.mv (.const v0)) h) (fun v43 v44 h => gdK v43 true (wI Tryd.prog nG (.mv (.const v3)) h) (fun v43 v45 h => gdK v43 true (wI Tryd.prog nG (.ixs 3 (.const v44) (.const v45)) h) (fun v43 v46 h => gdK v43 true (wI Tryd.prog nG (.fld 0 (.const v46)) h) (fun v43 v47 h => gdK v43 true (wI Tryd.prog nG (.load false 1 (.const v47)) h) (fun v43 v48 h => gdK v43 true (wI Tryd.prog nG (.mv (.const v0)) h) (fun v43 v49 h => gdK v43 true (wI Tryd.prog nG (.mv (.const v3)) h) (fun v43 v50 h => gdK v43 true (wI Tryd.prog nG (.bin .sub (.const v50) (.const (.int .i64 1))) h) (fun v43 v51 h => gdK v43 true (wI Tryd.prog nG (.ixs 3 (.const v49) (.const v51)) h) (fun v43 v52 h => gdK v43 true (wI Tryd.prog nG (.fld 0 (.const v52)) h) (fun v43 v53 h => gdK v43 true (wI Tryd.prog nG (.load false 1 (.const v53)) h) (fun v43 v54 h => gdK v43 true (wI Tryd.prog nG (.bin .leq (.const v48) (.const v54)) h) (fun v43 v55 h => gdK v40 false (wI Tryd.prog nG (.pick (.const v43) (.const v55) (.const (.bool false))) h) (fun v40 v56 h => wI Tryd.prog nG (.pick (.const v40) (.const (.bool true)) (.const v56)) h fun v57 h => Q .normal [(0, v0), (3, v3), (57, v57)] h) h () ()) h () ()) h () ()) h () ()) h () ()) h () ()) h () ()) h () ()) h () ()) h () ()) h () ()) h () ()) h () ()) h () ()) h () ()) h () ()) h () ()) h () ()) h () ()) h () ()) h () ()) h () ()) h () ()) h () ()) h () ()) h () ()) h () ()) h () ()) h () ()) h () ()) h () ()) h () ()) h () ()) h () ()) ()) () := lkm (lkm (wDr (Dn rfl rfl fun v10 h => Dn rfl rfl fun v11 h => Dn rfl rfl fun v12 h => Dn rfl rfl fun v13 h => Dn rfl rfl fun v14 h => Dn rfl rfl fun v15 h => Dn rfl rfl fun v16 h => Dg rfl rfl rfl fun v16 v17 h => Dg rfl rfl rfl fun v16 v18 h => Dg rfl rfl rfl fun v16 v19 h => Dg rfl rfl rfl fun v16 v20 h => Dg rfl rfl rfl fun v16 v21 h => Dg rfl rfl rfl fun v16 v22 h => Dn rfl rfl fun v23 h => Dn rfl rfl fun v24 h => Dg rfl rfl rfl fun v24 v25 h => Dg rfl rfl rfl fun v24 v26 h => Dg rfl rfl rfl fun v24 v27 h => Dg rfl rfl rfl fun v24 v28 h => Dg rfl rfl rfl fun v24 v29 h => Dg rfl rfl rfl fun v24 v30 h => Dn rfl rfl fun v31 h => Dn rfl rfl fun v32 h => Dg rfl rfl rfl fun v32 v33 h => Dg rfl rfl rfl fun v32 v34 h => Dg rfl rfl rfl fun v32 v35 h => Dg rfl rfl rfl fun v32 v36 h => Dg rfl rfl rfl fun v32 v37 h => Dg rfl rfl rfl fun v32 v38 h => Dn rfl rfl fun v39 h => Dn rfl rfl fun v40 h => Dg rfl rfl rfl fun v40 v41 h => Dg rfl rfl rfl fun v40 v42 h => Dg rfl rfl rfl fun v40 v43 h => Dg rfl rfl rfl fun v43 v44 h => Dg rfl rfl rfl fun v43 v45 h => Dg rfl rfl rfl fun v43 v46 h => Dg rfl rfl rfl fun v43 v47 h => Dg rfl rfl rfl fun v43 v48 h => Dg rfl rfl rfl fun v43 v49 h => Dg rfl rfl rfl fun v43 v50 h => Dg rfl rfl rfl fun v43 v51 h => Dg rfl rfl rfl fun v43 v52 h => Dg rfl rfl rfl fun v43 v53 h => Dg rfl rfl rfl fun v43 v54 h => Dg rfl rfl rfl fun v43 v55 h => Dg rfl rfl rfl fun v40 v56 h => Dn rfl rfl fun v57 h => rfl)))
def ir.ref22_Table.r5 : C := .region [2] [⟨some 2, .mv (.const (.bool false)), none⟩]
theorem ir.ref22_Table.r5.w (e : Env) (h : AHeap) (Q : Post) : wpC Tryd.prog nG ir.ref22_Table.r5 e h Q = wI Tryd.prog nG (.mv (.const (.bool false))) h fun v2 h => Q .normal [(2, v2)] h := wR (Rn rfl fun v2 h => rfl)
def ir.ref22_Table.r3 : C := .region [0, 3] [⟨some 8, .mv (.tmp 3), none⟩, ⟨some 9, .bin .add (.tmp 8) (.const (.int .i64 1)), none⟩, ⟨some 3, .mv (.tmp 9), none⟩]
theorem ir.ref22_Table.r3.w (e : Env) (h : AHeap) (Q : Post) : wpC Tryd.prog nG ir.ref22_Table.r3 e h Q = lk (look e 0) (fun v0 => lk (look e 3) (fun v3 => wI Tryd.prog nG (.mv (.const v3)) h fun v8 h => wI Tryd.prog nG (.bin .add (.const v8) (.const (.int .i64 1))) h fun v9 h => wI Tryd.prog nG (.mv (.const v9)) h fun v3 h => Q .normal [(0, v0), (3, v3)] h) ()) () := lkm (lkm (wR (Rn rfl fun v8 h => Rn rfl fun v9 h => Rn rfl fun v3 h => rfl)))
def ir.ref22_Table.l1.b : C := (.seq (.seq ir.ref22_Table.r2 (.cond (.tmp 7) .skip (.exit 0))) (.seq (.block 1 (.seq ir.ref22_Table.r4 (.cond (.tmp 57) (.seq ir.ref22_Table.r5 .ret) .skip))) ir.ref22_Table.r3))
theorem ir.ref22_Table.l1.bw (e : Env) (h : AHeap) (Q : Post) : wpC Tryd.prog nG ir.ref22_Table.l1.b e h Q = wpC Tryd.prog nG (.seq (.seq ir.ref22_Table.r2 (.cond (.tmp 7) .skip (.exit 0))) (.seq (.block 1 (.seq ir.ref22_Table.r4 (.cond (.tmp 57) (.seq ir.ref22_Table.r5 .ret) .skip))) ir.ref22_Table.r3)) e h Q := (rfl)
def ir.ref22_Table.l1 : C := .loop ir.ref22_Table.l1.b
theorem ir.ref22_Table.l1.w (e : Env) (h : AHeap) (Q : Post) : wpC Tryd.prog nG ir.ref22_Table.l1 e h Q = loopV Tryd.prog nG ir.ref22_Table.l1.b e h Q () := (rfl)
def ir.ref22_Table.r6 : C := .region [2] [⟨some 2, .mv (.const (.bool true)), none⟩]
theorem ir.ref22_Table.r6.w (e : Env) (h : AHeap) (Q : Post) : wpC Tryd.prog nG ir.ref22_Table.r6 e h Q = wI Tryd.prog nG (.mv (.const (.bool true))) h fun v2 h => Q .normal [(2, v2)] h := wR (Rn rfl fun v2 h => rfl)
def ir.ref22_Table : C := (.seq ir.ref22_Table.r0 (.seq (.seq ir.ref22_Table.r1 (.block 0 ir.ref22_Table.l1)) (.seq ir.ref22_Table.r6 .ret)))
theorem ir.ref22_Table.bw (e : Env) (h : AHeap) (Q : Post) : wpC Tryd.prog nG ir.ref22_Table e h Q = wpC Tryd.prog nG (.seq ir.ref22_Table.r0 (.seq (.seq ir.ref22_Table.r1 (.block 0 ir.ref22_Table.l1)) (.seq ir.ref22_Table.r6 .ret))) e h Q := (rfl)
def ir.ref22_Table.rs : List RV := [.tmp 2]
theorem ir.ref22_Table.ok : resC Tryd.prog nG 58 ir.ref22_Table.ks (Tryd.f12.body.getD .skip) = some ir.ref22_Table := by kernel_rfl
theorem ir.ref22_Table.rok : Tryd.f12.results.toList.mapM (resR Tryd.prog) = some ir.ref22_Table.rs := by kernel_rfl
theorem ir.ref22_Table.spec {args : List Value} {h : AHeap} {v : Value} {h' : AHeap} (hn : args.length ≤ 58)
    (hk : wpC Tryd.prog nG ir.ref22_Table (args.zipIdx.map fun p => (p.2, p.1)) h (retQ ir.ref22_Table.rs h v h')) : Spec Tryd.prog nG fn.ref22_Table args h v h' :=
  Spec.intro (fn := Tryd.f12) Tryd.func12 (c := Tryd.f12.body.getD .skip) rfl ir.ref22_Table.ok ir.ref22_Table.rok hn hk

/-! ### fingerpost/fib.Lookup: function 15 -/
def ir.fib_Lookup.ks : Nat → List Nat := fun
  | 0 => [0, 1]
  | 1 => [0, 5, 6]
  | 2 => [0, 5, 14]
  | 3 => [4]
  | 4 => [4]
  | _ => []
def ir.fib_Lookup.r0 : C := .region [0, 1] [⟨some 4, .mv (.const (.int .i64 0)), none⟩]
theorem ir.fib_Lookup.r0.w (e : Env) (h : AHeap) (Q : Post) : wpC Tryd.prog nG ir.fib_Lookup.r0 e h Q = lk (look e 0) (fun v0 => lk (look e 1) (fun v1 => wI Tryd.prog nG (.mv (.const (.int .i64 0))) h fun v4 h => Q .normal [(0, v0), (1, v1)] h) ()) () := lkm (lkm (wR (Rn rfl fun v4 h => rfl)))
def ir.fib_Lookup.r1 : C := .region [0, 5, 6] [⟨some 8, .mv (.tmp 0), none⟩, ⟨some 9, .mv (.tmp 1), none⟩, ⟨some 10, .call fn.slices_BinarySearchFunc_fib_Hop_fib_Hop_int [.tmp 8, .tmp 9, .func 21], none⟩, ⟨some 7, .mv (.tmp 10), none⟩, ⟨some 11, .ext (.tmp 7) 0, none⟩, ⟨some 12, .ext (.tmp 7) 1, none⟩, ⟨some 5, .mv (.tmp 11), none⟩, ⟨some 6, .mv (.tmp 12), none⟩]
theorem ir.fib_Lookup.r1.w (e : Env) (h : AHeap) (Q : Post) : wpC Tryd.prog nG ir.fib_Lookup.r1 e h Q = lk (look e 0) (fun v0 => lk (look e 1) (fun v1 => wI Tryd.prog nG (.mv (.const v0)) h fun v8 h => wI Tryd.prog nG (.mv (.const v1)) h fun v9 h => wI Tryd.prog nG (.call fn.slices_BinarySearchFunc_fib_Hop_fib_Hop_int [.const v8, .const v9, .const (.func (.func 21) #[] #[])]) h fun v10 h => wI Tryd.prog nG (.mv (.const v10)) h fun v7 h => wI Tryd.prog nG (.ext (.const v7) 0) h fun v11 h => wI Tryd.prog nG (.ext (.const v7) 1) h fun v12 h => wI Tryd.prog nG (.mv (.const v11)) h fun v5 h => wI Tryd.prog nG (.mv (.const v12)) h fun v6 h => Q .normal [(0, v0), (5, v5), (6, v6)] h) ()) () := lkm (lkm (wR (Rn rfl fun v8 h => Rn rfl fun v9 h => Rn rfl fun v10 h => Rn rfl fun v7 h => Rn rfl fun v11 h => Rn rfl fun v12 h => Rn rfl fun v5 h => Rn rfl fun v6 h => rfl)))
def ir.fib_Lookup.r2 : C := .region [0, 5, 14] [⟨some 13, .mv (.tmp 6), none⟩, ⟨some 14, .un .not (.tmp 13), none⟩]
theorem ir.fib_Lookup.r2.w (e : Env) (h : AHeap) (Q : Post) : wpC Tryd.prog nG ir.fib_Lookup.r2 e h Q = lk (look e 0) (fun v0 => lk (look e 5) (fun v5 => lk (look e 6) (fun v6 => wI Tryd.prog nG (.mv (.const v6)) h fun v13 h => wI Tryd.prog nG (.un .not (.const v13)) h fun v14 h => Q .normal [(0, v0), (5, v5), (14, v14)] h) ()) ()) () := lkm (lkm (lkm (wR (Rn rfl fun v13 h => Rn rfl fun v14 h => rfl))))
def ir.fib_Lookup.r3 : C := .region [4] [⟨some 4, .mv (.const (.int .i64 (-1))), none⟩]
theorem ir.fib_Lookup.r3.w (e : Env) (h : AHeap) (Q : Post) : wpC Tryd.prog nG ir.fib_Lookup.r3 e h Q = wI Tryd.prog nG (.mv (.const (.int .i64 (-1)))) h fun v4 h => Q .normal [(4, v4)] h := wR (Rn rfl fun v4 h => rfl)
def ir.fib_Lookup.r4 : C := .region [4] [⟨some 15, .mv (.tmp 0), none⟩, ⟨some 16, .mv (.tmp 5), none⟩, ⟨some 17, .ixs 3 (.tmp 15) (.tmp 16), none⟩, ⟨some 18, .fld 1 (.tmp 17), none⟩, ⟨some 19, .load false 1 (.tmp 18), none⟩, ⟨some 4, .mv (.tmp 19), none⟩]
theorem ir.fib_Lookup.r4.w (e : Env) (h : AHeap) (Q : Post) : wpC Tryd.prog nG ir.fib_Lookup.r4 e h Q = lk (look e 0) (fun v0 => lk (look e 5) (fun v5 => wI Tryd.prog nG (.mv (.const v0)) h fun v15 h => wI Tryd.prog nG (.mv (.const v5)) h fun v16 h => wI Tryd.prog nG (.ixs 3 (.const v15) (.const v16)) h fun v17 h => wI Tryd.prog nG (.fld 1 (.const v17)) h fun v18 h => wI Tryd.prog nG (.load false 1 (.const v18)) h fun v19 h => wI Tryd.prog nG (.mv (.const v19)) h fun v4 h => Q .normal [(4, v4)] h) ()) () := lkm (lkm (wR (Rn rfl fun v15 h => Rn rfl fun v16 h => Rn rfl fun v17 h => Rn rfl fun v18 h => Rn rfl fun v19 h => Rn rfl fun v4 h => rfl)))
def ir.fib_Lookup : C := (.seq ir.fib_Lookup.r0 (.seq ir.fib_Lookup.r1 (.seq (.seq ir.fib_Lookup.r2 (.cond (.tmp 14) (.seq ir.fib_Lookup.r3 .ret) .skip)) (.seq ir.fib_Lookup.r4 .ret))))
theorem ir.fib_Lookup.bw (e : Env) (h : AHeap) (Q : Post) : wpC Tryd.prog nG ir.fib_Lookup e h Q = wpC Tryd.prog nG (.seq ir.fib_Lookup.r0 (.seq ir.fib_Lookup.r1 (.seq (.seq ir.fib_Lookup.r2 (.cond (.tmp 14) (.seq ir.fib_Lookup.r3 .ret) .skip)) (.seq ir.fib_Lookup.r4 .ret)))) e h Q := (rfl)
def ir.fib_Lookup.rs : List RV := [.tmp 4]
theorem ir.fib_Lookup.ok : resC Tryd.prog nG 20 ir.fib_Lookup.ks (Tryd.f15.body.getD .skip) = some ir.fib_Lookup := by kernel_rfl
theorem ir.fib_Lookup.rok : Tryd.f15.results.toList.mapM (resR Tryd.prog) = some ir.fib_Lookup.rs := by kernel_rfl
theorem ir.fib_Lookup.spec {args : List Value} {h : AHeap} {v : Value} {h' : AHeap} (hn : args.length ≤ 20)
    (hk : wpC Tryd.prog nG ir.fib_Lookup (args.zipIdx.map fun p => (p.2, p.1)) h (retQ ir.fib_Lookup.rs h v h')) : Spec Tryd.prog nG fn.fib_Lookup args h v h' :=
  Spec.intro (fn := Tryd.f15) Tryd.func15 (c := Tryd.f15.body.getD .skip) rfl ir.fib_Lookup.ok ir.fib_Lookup.rok hn hk

/-! ### fingerpost/fingerpostlaw22.To: function 17 -/
def ir.law22_To.ks : Nat → List Nat := fun
  | 0 => [0]
  | 1 => [0, 3]
  | 2 => [3, 6, 7, 8]
  | 3 => [3, 6, 7, 8, 9]
  | 4 => [3, 5, 6, 7, 8]
  | 5 => [3, 6, 7, 8]
  | 6 => [3, 6, 7, 8]
  | 7 => [2]
  | _ => []
def ir.law22_To.r0 : C := .region [0] [⟨some 2, .mv (.const (.slice none 0 0)), none⟩]
theorem ir.law22_To.r0.w (e : Env) (h : AHeap) (Q : Post) : wpC Tryd.prog nG ir.law22_To.r0 e h Q = lk (look e 0) (fun v0 => wI Tryd.prog nG (.mv (.const (.slice none 0 0))) h fun v2 h => Q .normal [(0, v0)] h) () := lkm (wR (Rn rfl fun v2 h => rfl))
def ir.law22_To.r1 : C := .region [0, 3] [⟨some 3, .mv (.const (.slice none 0 0)), none⟩]
theorem ir.law22_To.r1.w (e : Env) (h : AHeap) (Q : Post) : wpC Tryd.prog nG ir.law22_To.r1 e h Q = lk (look e 0) (fun v0 => wI Tryd.prog nG (.mv (.const (.slice none 0 0))) h fun v3 h => Q .normal [(0, v0), (3, v3)] h) () := lkm (wR (Rn rfl fun v3 h => rfl))
def ir.law22_To.r2 : C := .region [3, 6, 7, 8] [⟨some 6, .mv (.tmp 0), none⟩, ⟨some 7, .len false (.tmp 6), none⟩, ⟨some 8, .mv (.const (.int .i64 0)), none⟩]
theorem ir.law22_To.r2.w (e : Env) (h : AHeap) (Q : Post) : wpC Tryd.prog nG ir.law22_To.r2 e h Q = lk (look e 0) (fun v0 => lk (look e 3) (fun v3 => wI Tryd.prog nG (.mv (.const v0)) h fun v6 h => wI Tryd.prog nG (.len false (.const v6)) h fun v7 h => wI Tryd.prog nG (.mv (.const (.int .i64 0))) h fun v8 h => Q .normal [(3, v3), (6, v6), (7, v7), (8, v8)] h) ()) () := lkm (lkm (wR (Rn rfl fun v6 h => Rn rfl fun v7 h => Rn rfl fun v8 h => rfl)))
def ir.law22_To.r3 : C := .region [3, 6, 7, 8, 9] [⟨some 9, .bin .lss (.tmp 8) (.tmp 7), none⟩]
theorem ir.law22_To.r3.w (e : Env) (h : AHeap) (Q : Post) : wpC Tryd.prog nG ir.law22_To.r3 e h Q = lk (look e 3) (fun v3 => lk (look e 6) (fun v6 => lk (look e 7) (fun v7 => lk (look e 8) (fun v8 => wI Tryd.prog nG (.bin .lss (.const v8) (.const v7)) h fun v9 h => Q .normal [(3, v3), (6, v6), (7, v7), (8, v8), (9, v9)] h) ()) ()) ()) () := lkm (lkm (lkm (lkm (wR (Rn rfl fun v9 h => rfl)))))
def ir.law22_To.r4 : C := .region [3, 5, 6, 7, 8] [⟨some 10, .ixs 3 (.tmp 6) (.tmp 8), none⟩, ⟨some 11, .load true 3 (.tmp 10), none⟩, ⟨some 5, .new [.int .i64 0, .int .i64 0, .int .i64 0], none⟩, ⟨none, .store 3 (.tmp 5) (.tmp 11), none⟩]
theorem ir.law22_To.r4.w (e : Env) (h : AHeap) (Q : Post) : wpC Tryd.prog nG ir.law22_To.r4 e h Q = lk (look e 3) (fun v3 => lk (look e 6) (fun v6 => lk (look e 7) (fun v7 => lk (look e 8) (fun v8 => wI Tryd.prog nG (.ixs 3 (.const v6) (.const v8)) h fun v10 h => wI Tryd.prog nG (.load true 3 (.const v10)) h fun v11 h => wI Tryd.prog nG (.new [.int .i64 0, .int .i64 0, .int .i64 0]) h fun v5 h => wI Tryd.prog nG (.store 3 (.const v5) (.const v11)) h fun _ h => Q .normal [(3, v3), (5, v5), (6, v6), (7, v7), (8, v8)] h) ()) ()) ()) () := lkm (lkm (lkm (lkm (wR (Rn rfl fun v10 h => Rn rfl fun v11 h => Rn rfl fun v5 h => Rz rfl fun v_ h => rfl)))))
def ir.law22_To.r5 : C := .region [3, 6, 7, 8] [⟨some 12, .mv (.tmp 3), none⟩, ⟨some 13, .fld 0 (.tmp 5), none⟩, ⟨some 14, .load false 1 (.tmp 13), none⟩, ⟨some 15, .fld 1 (.tmp 5), none⟩, ⟨some 16, .load false 1 (.tmp 15), none⟩, ⟨some 17, .fld 2 (.tmp 5), none⟩, ⟨some 18, .load false 1 (.tmp 17), none⟩, ⟨some 19, .build [.int .i64 0, .int .i64 0, .int .i64 0] [(0, 1, .tmp 14), (1, 1, .tmp 16), (2, 1, .tmp 18)], none⟩, ⟨some 20, .row 3 1 [.int .i64 0, .int .i64 0, .int .i64 0] [(0, 3, .tmp 19)], none⟩, ⟨some 21, .app false 3 24 (.tmp 12) (.tmp 20), none⟩, ⟨some 3, .mv (.tmp 21), none⟩]
theorem ir.law22_To.r5.w (e : Env) (h : AHeap) (Q : Post) : wpC Tryd.prog nG ir.law22_To.r5 e h Q = lk (look e 3) (fun v3 => lk (look e 5) (fun v5 => lk (look e 6) (fun v6 => lk (look e 7) (fun v7 => lk (look e 8) (fun v8 => wI Tryd.prog nG (.mv (.const v3)) h fun v12 h => wI Tryd.prog nG (.fld 0 (.const v5)) h fun v13 h => wI Tryd.prog nG (.load false 1 (.const v13)) h fun v14 h => wI Tryd.prog nG (.fld 1 (.const v5)) h fun v15 h => wI Tryd.prog nG (.load false 1 (.const v15)) h fun v16 h => wI Tryd.prog nG (.fld 2 (.const v5)) h fun v17 h => wI Tryd.prog nG (.load false 1 (.const v17)) h fun v18 h => wI Tryd.prog nG (.build [.int .i64 0, .int .i64 0, .int .i64 0] [(0, 1, .const v14), (1, 1, .const v16), (2, 1, .const v18)]) h fun v19 h => wI Tryd.prog nG (.row 3 1 [.int .i64 0, .int .i64 0, .int .i64 0] [(0, 3, .const v19)]) h fun v20 h => wI Tryd.prog nG (.app false 3 24 (.const v12) (.const v20)) h fun v21 h => wI Tryd.prog nG (.mv (.const v21)) h fun v3 h => Q .normal [(3, v3), (6, v6), (7, v7), (8, v8)] h) ()) ()) ()) ()) () := lkm (lkm (lkm (lkm (lkm (wR (Rn rfl fun v12 h => Rn rfl fun v13 h => Rn rfl fun v14 h => Rn rfl fun v15 h => Rn rfl fun v16 h => Rn rfl fun v17 h => Rn rfl fun v18 h => Rn rfl fun v19 h => Rn rfl fun v20 h => Rn rfl fun v21 h => Rn rfl fun v3 h => rfl))))))
def ir.law22_To.r6 : C := .region [3, 6, 7, 8] [⟨some 22, .bin .add (.tmp 8) (.const (.int .i64 1)), none⟩, ⟨some 8, .mv (.tmp 22), none⟩]
theorem ir.law22_To.r6.w (e : Env) (h : AHeap) (Q : Post) : wpC Tryd.prog nG ir.law22_To.r6 e h Q = lk (look e 3) (fun v3 => lk (look e 6) (fun v6 => lk (look e 7) (fun v7 => lk (look e 8) (fun v8 => wI Tryd.prog nG (.bin .add (.const v8) (.const (.int .i64 1))) h fun v22 h => wI Tryd.prog nG (.mv (.const v22)) h fun v8 h => Q .normal [(3, v3), (6, v6), (7, v7), (8, v8)] h) ()) ()) ()) () := lkm (lkm (lkm (lkm (wR (Rn rfl fun v22 h => Rn rfl fun v8 h => rfl)))))
def ir.law22_To.l1.b : C := (.seq ir.law22_To.r3 (.seq (.cond (.tmp 9) .skip (.exit 0)) (.seq (.block 1 (.seq ir.law22_To.r4 ir.law22_To.r5)) ir.law22_To.r6)))
theorem ir.law22_To.l1.bw (e : Env) (h : AHeap) (Q : Post) : wpC Tryd.prog nG ir.law22_To.l1.b e h Q = wpC Tryd.prog nG (.seq ir.law22_To.r3 (.seq (.cond (.tmp 9) .skip (.exit 0)) (.seq (.block 1 (.seq ir.law22_To.r4 ir.law22_To.r5)) ir.law22_To.r6))) e h Q := (rfl)
def ir.law22_To.l1 : C := .loop ir.law22_To.l1.b
theorem ir.law22_To.l1.w (e : Env) (h : AHeap) (Q : Post) : wpC Tryd.prog nG ir.law22_To.l1 e h Q = loopV Tryd.prog nG ir.law22_To.l1.b e h Q () := (rfl)
def ir.law22_To.r7 : C := .region [2] [⟨some 23, .mv (.tmp 3), none⟩, ⟨some 2, .mv (.tmp 23), none⟩]
theorem ir.law22_To.r7.w (e : Env) (h : AHeap) (Q : Post) : wpC Tryd.prog nG ir.law22_To.r7 e h Q = lk (look e 3) (fun v3 => wI Tryd.prog nG (.mv (.const v3)) h fun v23 h => wI Tryd.prog nG (.mv (.const v23)) h fun v2 h => Q .normal [(2, v2)] h) () := lkm (wR (Rn rfl fun v23 h => Rn rfl fun v2 h => rfl))
def ir.law22_To : C := (.seq ir.law22_To.r0 (.seq ir.law22_To.r1 (.seq (.seq ir.law22_To.r2 (.block 0 ir.law22_To.l1)) (.seq ir.law22_To.r7 .ret))))
theorem ir.law22_To.bw (e : Env) (h : AHeap) (Q : Post) : wpC Tryd.prog nG ir.law22_To e h Q = wpC Tryd.prog nG (.seq ir.law22_To.r0 (.seq ir.law22_To.r1 (.seq (.seq ir.law22_To.r2 (.block 0 ir.law22_To.l1)) (.seq ir.law22_To.r7 .ret)))) e h Q := (rfl)
def ir.law22_To.rs : List RV := [.tmp 2]
theorem ir.law22_To.ok : resC Tryd.prog nG 24 ir.law22_To.ks (Tryd.f17.body.getD .skip) = some ir.law22_To := by kernel_rfl
theorem ir.law22_To.rok : Tryd.f17.results.toList.mapM (resR Tryd.prog) = some ir.law22_To.rs := by kernel_rfl
theorem ir.law22_To.spec {args : List Value} {h : AHeap} {v : Value} {h' : AHeap} (hn : args.length ≤ 24)
    (hk : wpC Tryd.prog nG ir.law22_To (args.zipIdx.map fun p => (p.2, p.1)) h (retQ ir.law22_To.rs h v h')) : Spec Tryd.prog nG fn.law22_To args h v h' :=
  Spec.intro (fn := Tryd.f17) Tryd.func17 (c := Tryd.f17.body.getD .skip) rfl ir.law22_To.ok ir.law22_To.rok hn hk

/-! ### fingerpost/fingerpostref22.Lookup: function 19 -/
def ir.ref22_Lookup.ks : Nat → List Nat := fun
  | 0 => [0, 1]
  | 1 => [0, 1, 5]
  | 2 => [0, 1, 5, 9]
  | 3 => [0, 1, 5]
  | 4 => [0, 1, 5, 18]
  | 5 => [4]
  | 6 => [4]
  | _ => []
def ir.ref22_Lookup.r0 : C := .region [0, 1] [⟨some 4, .mv (.const (.int .i64 0)), none⟩]
theorem ir.ref22_Lookup.r0.w (e : Env) (h : AHeap) (Q : Post) : wpC Tryd.prog nG ir.ref22_Lookup.r0 e h Q = lk (look e 0) (fun v0 => lk (look e 1) (fun v1 => wI Tryd.prog nG (.mv (.const (.int .i64 0))) h fun v4 h => Q .normal [(0, v0), (1, v1)] h) ()) () := lkm (lkm (wR (Rn rfl fun v4 h => rfl)))
def ir.ref22_Lookup.r1 : C := .region [0, 1, 5] [⟨some 5, .mv (.const (.int .i64 0)), none⟩]
theorem ir.ref22_Lookup.r1.w (e : Env) (h : AHeap) (Q : Post) : wpC Tryd.prog nG ir.ref22_Lookup.r1 e h Q = lk (look e 0) (fun v0 => lk (look e 1) (fun v1 => wI Tryd.prog nG (.mv (.const (.int .i64 0))) h fun v5 h => Q .normal [(0, v0), (1, v1), (5, v5)] h) ()) () := lkm (lkm (wR (Rn rfl fun v5 h => rfl)))
def ir.ref22_Lookup.r2 : C := .region [0, 1, 5, 9] [⟨some 6, .mv (.tmp 5), none⟩, ⟨some 7, .mv (.tmp 0), none⟩, ⟨some 8, .len false (.tmp 7), none⟩, ⟨some 9, .bin .lss (.tmp 6) (.tmp 8), none⟩]
theorem ir.ref22_Lookup.r2.w (e : Env) (h : AHeap) (Q : Post) : wpC Tryd.prog nG ir.ref22_Lookup.r2 e h Q = lk (look e 0) (fun v0 => lk (look e 1) (fun v1 => lk (look e 5) (fun v5 => wI Tryd.prog nG (.mv (.const v5)) h fun v6 h => wI Tryd.prog nG (.mv (.const v0)) h fun v7 h => wI Tryd.prog nG (.len false (.const v7)) h fun v8 h => wI Tryd.prog nG (.bin .lss (.const v6) (.const v8)) h fun v9 h => Q .normal [(0, v0), (1, v1), (5, v5), (9, v9)] h) ()) ()) () := lkm (lkm (lkm (wR (Rn rfl fun v6 h => Rn rfl fun v7 h => Rn rfl fun v8 h => Rn rfl fun v9 h => rfl))))
def ir.ref22_Lookup.r4 : C := .region [0, 1, 5, 18] [⟨some 12, .mv (.tmp 0), none⟩, ⟨some 13, .mv (.tmp 5), none⟩, ⟨some 14, .ixs 3 (.tmp 12) (.tmp 13), none⟩, ⟨some 15, .fld 0 (.tmp 14), none⟩, ⟨some 16, .load false 1 (.tmp 15), none⟩, ⟨some 17, .mv (.tmp 1), none⟩, ⟨some 18, .bin .eql (.tmp 16) (.tmp 17), none⟩]
theorem ir.ref22_Lookup.r4.w (e : Env) (h : AHeap) (Q : Post) : wpC Tryd.prog nG ir.ref22_Lookup.r4 e h Q = lk (look e 0) (fun v0 => lk (look e 1) (fun v1 => lk (look e 5) (fun v5 => wI Tryd.prog nG (.mv (.const v0)) h fun v12 h => wI Tryd.prog nG (.mv (.const v5)) h fun v13 h => wI Tryd.prog nG (.ixs 3 (.const v12) (.const v13)) h fun v14 h => wI Tryd.prog nG (.fld 0 (.const v14)) h fun v15 h => wI Tryd.prog nG (.load false 1 (.const v15)) h fun v16 h => wI Tryd.prog nG (.mv (.const v1)) h fun v17 h => wI Tryd.prog nG (.bin .eql (.const v16) (.const v17)) h fun v18 h => Q .normal [(0, v0), (1, v1), (5, v5), (18, v18)] h) ()) ()) () := lkm (lkm (lkm (wR (Rn rfl fun v12 h => Rn rfl fun v13 h => Rn rfl fun v14 h => Rn rfl fun v15 h => Rn rfl fun v16 h => Rn rfl fun v17 h => Rn rfl fun v18 h => rfl))))
def ir.ref22_Lookup.r5 : C := .region [4] [⟨some 19, .mv (.tmp 0), none⟩, ⟨some 20, .mv (.tmp 5), none⟩, ⟨some 21, .ixs 3 (.tmp 19) (.tmp 20), none⟩, ⟨some 22, .fld 1 (.tmp 21), none⟩, ⟨some 23, .load false 1 (.tmp 22), none⟩, ⟨some 4, .mv (.tmp 23), none⟩]
theorem ir.ref22_Lookup.r5.w (e : Env) (h : AHeap) (Q : Post) : wpC Tryd.prog nG ir.ref22_Lookup.r5 e h Q = lk (look e 0) (fun v0 => lk (look e 5) (fun v5 => wI Tryd.prog nG (.mv (.const v0)) h fun v19 h => wI Tryd.prog nG (.mv (.const v5)) h fun v20 h => wI Tryd.prog nG (.ixs 3 (.const v19) (.const v20)) h fun v21 h => wI Tryd.prog nG (.fld 1 (.const v21)) h fun v22 h => wI Tryd.prog nG (.load false 1 (.const v22)) h fun v23 h => wI Tryd.prog nG (.mv (.const v23)) h fun v4 h => Q .normal [(4, v4)] h) ()) () := lkm (lkm (wR (Rn rfl fun v19 h => Rn rfl fun v20 h => Rn rfl fun v21 h => Rn rfl fun v22 h => Rn rfl fun v23 h => Rn rfl fun v4 h => rfl)))
def ir.ref22_Lookup.r3 : C := .region [0, 1, 5] [⟨some 10, .mv (.tmp 5), none⟩, ⟨some 11, .bin .add (.tmp 10) (.const (.int .i64 1)), none⟩, ⟨some 5, .mv (.tmp 11), none⟩]
theorem ir.ref22_Lookup.r3.w (e : Env) (h : AHeap) (Q : Post) : wpC Tryd.prog nG ir.ref22_Lookup.r3 e h Q = lk (look e 0) (fun v0 => lk (look e 1) (fun v1 => lk (look e 5) (fun v5 => wI Tryd.prog nG (.mv (.const v5)) h fun v10 h => wI Tryd.prog nG (.bin .add (.const v10) (.const (.int .i64 1))) h fun v11 h => wI Tryd.prog nG (.mv (.const v11)) h fun v5 h => Q .normal [(0, v0), (1, v1), (5, v5)] h) ()) ()) () := lkm (lkm (lkm (wR (Rn rfl fun v10 h => Rn rfl fun v11 h => Rn rfl fun v5 h => rfl))))
def ir.ref22_Lookup.l1.b : C := (.seq (.seq ir.ref22_Lookup.r2 (.cond (.tmp 9) .skip (.exit 0))) (.seq (.block 1 (.seq ir.ref22_Lookup.r4 (.cond (.tmp 18) (.seq ir.ref22_Lookup.r5 .ret) .skip))) ir.ref22_Lookup.r3))
theorem ir.ref22_Lookup.l1.bw (e : Env) (h : AHeap) (Q : Post) : wpC Tryd.prog nG ir.ref22_Lookup.l1.b e h Q = wpC Tryd.prog nG (.seq (.seq ir.ref22_Lookup.r2 (.cond (.tmp 9) .skip (.exit 0))) (.seq (.block 1 (.seq ir.ref22_Lookup.r4 (.cond (.tmp 18) (.seq ir.ref22_Lookup.r5 .ret) .skip))) ir.ref22_Lookup.r3)) e h Q := (rfl)
def ir.ref22_Lookup.l1 : C := .loop ir.ref22_Lookup.l1.b
theorem ir.ref22_Lookup.l1.w (e : Env) (h : AHeap) (Q : Post) : wpC Tryd.prog nG ir.ref22_Lookup.l1 e h Q = loopV Tryd.prog nG ir.ref22_Lookup.l1.b e h Q () := (rfl)
def ir.ref22_Lookup.r6 : C := .region [4] [⟨some 4, .mv (.const (.int .i64 (-1))), none⟩]
theorem ir.ref22_Lookup.r6.w (e : Env) (h : AHeap) (Q : Post) : wpC Tryd.prog nG ir.ref22_Lookup.r6 e h Q = wI Tryd.prog nG (.mv (.const (.int .i64 (-1)))) h fun v4 h => Q .normal [(4, v4)] h := wR (Rn rfl fun v4 h => rfl)
def ir.ref22_Lookup : C := (.seq ir.ref22_Lookup.r0 (.seq (.seq ir.ref22_Lookup.r1 (.block 0 ir.ref22_Lookup.l1)) (.seq ir.ref22_Lookup.r6 .ret)))
theorem ir.ref22_Lookup.bw (e : Env) (h : AHeap) (Q : Post) : wpC Tryd.prog nG ir.ref22_Lookup e h Q = wpC Tryd.prog nG (.seq ir.ref22_Lookup.r0 (.seq (.seq ir.ref22_Lookup.r1 (.block 0 ir.ref22_Lookup.l1)) (.seq ir.ref22_Lookup.r6 .ret))) e h Q := (rfl)
def ir.ref22_Lookup.rs : List RV := [.tmp 4]
theorem ir.ref22_Lookup.ok : resC Tryd.prog nG 24 ir.ref22_Lookup.ks (Tryd.f19.body.getD .skip) = some ir.ref22_Lookup := by kernel_rfl
theorem ir.ref22_Lookup.rok : Tryd.f19.results.toList.mapM (resR Tryd.prog) = some ir.ref22_Lookup.rs := by kernel_rfl
theorem ir.ref22_Lookup.spec {args : List Value} {h : AHeap} {v : Value} {h' : AHeap} (hn : args.length ≤ 24)
    (hk : wpC Tryd.prog nG ir.ref22_Lookup (args.zipIdx.map fun p => (p.2, p.1)) h (retQ ir.ref22_Lookup.rs h v h')) : Spec Tryd.prog nG fn.ref22_Lookup args h v h' :=
  Spec.intro (fn := Tryd.f19) Tryd.func19 (c := Tryd.f19.body.getD .skip) rfl ir.ref22_Lookup.ok ir.ref22_Lookup.rok hn hk

/-! ### slices.BinarySearchFunc[[]fingerpost/fib.Hop,fingerpost/fib.Hop,int]: function 20 -/
def ir.slices_BinarySearchFunc_fib_Hop_fib_Hop_int.ks : Nat → List Nat := fun
  | 0 => [0, 1, 2]
  | 1 => [0, 1, 2, 8]
  | 2 => [0, 1, 2, 8, 9, 10]
  | 3 => [0, 1, 2, 8, 9, 10, 17]
  | 4 => [0, 1, 2, 8, 9, 10, 11]
  | 5 => [0, 1, 2, 8, 9, 10, 11, 31]
  | 6 => [0, 1, 2, 8, 9, 10]
  | 7 => [0, 1, 2, 8, 9, 10]
  | 8 => [6, 7]
  | _ => []
def ir.slices_BinarySearchFunc_fib_Hop_fib_Hop_int.r0 : C := .region [0, 1, 2] [⟨some 6, .mv (.const (.int .i64 0)), none⟩, ⟨some 7, .mv (.const (.bool false)), none⟩]
theorem ir.slices_BinarySearchFunc_fib_Hop_fib_Hop_int.r0.w (e : Env) (h : AHeap) (Q : Post) : wpC Tryd.prog nG ir.slices_BinarySearchFunc_fib_Hop_fib_Hop_int.r0 e h Q = lk (look e 0) (fun v0 => lk (look e 1) (fun v1 => lk (look e 2) (fun v2 => wI Tryd.prog nG (.mv (.const (.int .i64 0))) h fun v6 h => wI Tryd.prog nG (.mv (.const (.bool false))) h fun v7 h => Q .normal [(0, v0), (1, v1), (2, v2)] h) ()) ()) () := lkm (lkm (lkm (wR (Rn rfl fun v6 h => Rn rfl fun v7 h => rfl))))
def ir.slices_BinarySearchFunc_fib_Hop_fib_Hop_int.r1 : C := .region [0, 1, 2, 8] [⟨some 12, .mv (.tmp 0), none⟩, ⟨some 13, .len false (.tmp 12), none⟩, ⟨some 8, .mv (.tmp 13), none⟩]
theorem ir.slices_BinarySearchFunc_fib_Hop_fib_Hop_int.r1.w (e : Env) (h : AHeap) (Q : Post) : wpC Tryd.prog nG ir.slices_BinarySearchFunc_fib_Hop_fib_Hop_int.r1 e h Q = lk (look e 0) (fun v0 => lk (look e 1) (fun v1 => lk (look e 2) (fun v2 => wI Tryd.prog nG (.mv (.const v0)) h fun v12 h => wI Tryd.prog nG (.len false (.const v12)) h fun v13 h => wI Tryd.prog nG (.mv (.const v13)) h fun v8 h => Q .normal [(0, v0), (1, v1), (2, v2), (8, v8)] h) ()) ()) () := lkm (lkm (lkm (wR (Rn rfl fun v12 h => Rn rfl fun v13 h => Rn rfl fun v8 h => rfl))))
def ir.slices_BinarySearchFunc_fib_Hop_fib_Hop_int.r2 : C := .region [0, 1, 2, 8, 9, 10] [⟨some 14, .mv (.tmp 8), none⟩, ⟨some 9, .mv (.const (.int .i64 0)), none⟩, ⟨some 10, .mv (.tmp 14), none⟩]
theorem ir.slices_BinarySearchFunc_fib_Hop_fib_Hop_int.r2.w (e : Env) (h : AHeap) (Q : Post) : wpC Tryd.prog nG ir.slices_BinarySearchFunc_fib_Hop_fib_Hop_int.r2 e h Q = lk (look e 0) (fun v0 => lk (look e 1) (fun v1 => lk (look e 2) (fun v2 => lk (look e 8) (fun v8 => wI Tryd.prog nG (.mv (.const v8)) h fun v14 h => wI Tryd.prog nG (.mv (.const (.int .i64 0))) h fun v9 h => wI Tryd.prog nG (.mv (.const v14)) h fun v10 h => Q .normal [(0, v0), (1, v1), (2, v2), (8, v8), (9, v9), (10, v10)] h) ()) ()) ()) () := lkm (lkm (lkm (lkm (wR (Rn rfl fun v14 h => Rn rfl fun v9 h => Rn rfl fun v10 h => rfl)))))
def ir.slices_BinarySearchFunc_fib_Hop_fib_Hop_int.r3 : C := .region [0, 1, 2, 8, 9, 10, 17] [⟨some 15, .mv (.tmp 9), none⟩, ⟨some 16, .mv (.tmp 10), none⟩, ⟨some 17, .bin .lss (.tmp 15) (.tmp 16), none⟩]
theorem ir.slices_BinarySearchFunc_fib_Hop_fib_Hop_int.r3.w (e : Env) (h : AHeap) (Q : Post) : wpC Tryd.prog nG ir.slices_BinarySearchFunc_fib_Hop_fib_Hop_int.r3 e h Q = lk (look e 0) (fun v0 => lk (look e 1) (fun v1 => lk (look e 2) (fun v2 => lk (look e 8) (fun v8 => lk (look e 9) (fun v9 => lk (look e 10) (fun v10 => wI Tryd.prog nG (.mv (.const v9)) h fun v15 h => wI Tryd.prog nG (.mv (.const v10)) h fun v16 h => wI Tryd.prog nG (.bin .lss (.const v15) (.const v16)) h fun v17 h => Q .normal [(0, v0), (1, v1), (2, v2), (8, v8), (9, v9), (10, v10), (17, v17)] h) ()) ()) ()) ()) ()) () := lkm (lkm (lkm (lkm (lkm (lkm (wR (Rn rfl fun v15 h => Rn rfl fun v16 h => Rn rfl fun v17 h => rfl)))))))
def ir.slices_BinarySearchFunc_fib_Hop_fib_Hop_int.r4 : C := .region [0, 1, 2, 8, 9, 10, 11] [⟨some 18, .mv (.tmp 9), none⟩, ⟨some 19, .mv (.tmp 10), none⟩, ⟨some 20, .bin .add (.tmp 18) (.tmp 19), none⟩, ⟨some 21, .conv .u64 (.tmp 20), none⟩, ⟨some 22, .bin .shr (.tmp 21) (.const (.int .u64 1)), none⟩, ⟨some 23, .conv .i64 (.tmp 22), none⟩, ⟨some 11, .mv (.tmp 23), none⟩]
theorem ir.slices_BinarySearchFunc_fib_Hop_fib_Hop_int.r4.w (e : Env) (h : AHeap) (Q : Post) : wpC Tryd.prog nG ir.slices_BinarySearchFunc_fib_Hop_fib_Hop_int.r4 e h Q = lk (look e 0) (fun v0 => lk (look e 1) (fun v1 => lk (look e 2) (fun v2 => lk (look e 8) (fun v8 => lk (look e 9) (fun v9 => lk (look e 10) (fun v10 => wI Tryd.prog nG (.mv (.const v9)) h fun v18 h => wI Tryd.prog nG (.mv (.const v10)) h fun v19 h => wI Tryd.prog nG (.bin .add (.const v18) (.const v19)) h fun v20 h => wI Tryd.prog nG (.conv .u64 (.const v20)) h fun v21 h => wI Tryd.prog nG (.bin .shr (.const v21) (.const (.int .u64 1))) h fun v22 h => wI Tryd.prog nG (.conv .i64 (.const v22)) h fun v23 h => wI Tryd.prog nG (.mv (.const v23)) h fun v11 h => Q .normal [(0, v0), (1, v1), (2, v2), (8, v8), (9, v9), (10, v10), (11, v11)] h) ()) ()) ()) ()) ()) () := lkm (lkm (lkm (lkm (lkm (lkm (wR (Rn rfl fun v18 h => Rn rfl fun v19 h => Rn rfl fun v20 h => Rn rfl fun v21 h => Rn rfl fun v22 h => Rn rfl fun v23 h => Rn rfl fun v11 h => rfl)))))))
def ir.slices_BinarySearchFunc_fib_Hop_fib_Hop_int.r5 : C := .region [0, 1, 2, 8, 9, 10, 11, 31] [⟨some 24, .mv (.tmp 2), none⟩, ⟨some 25, .mv (.tmp 0), none⟩, ⟨some 26, .mv (.tmp 11), none⟩, ⟨some 27, .ixs 3 (.tmp 25) (.tmp 26), none⟩, ⟨some 28, .load true 3 (.tmp 27), none⟩, ⟨some 29, .mv (.tmp 1), none⟩, ⟨some 30, .callv (.tmp 24) [.tmp 28, .tmp 29], none⟩, ⟨some 31, .bin .lss (.tmp 30) (.const (.int .i64 0)), none⟩]
theorem ir.slices_BinarySearchFunc_fib_Hop_fib_Hop_int.r5.w (e : Env) (h : AHeap) (Q : Post) : wpC Tryd.prog nG ir.slices_BinarySearchFunc_fib_Hop_fib_Hop_int.r5 e h Q = lk (look e 0) (fun v0 => lk (look e 1) (fun v1 => lk (look e 2) (fun v2 => lk (look e 8) (fun v8 => lk (look e 9) (fun v9 => lk (look e 10) (fun v10 => lk (look e 11) (fun v11 => wI Tryd.prog nG (.mv (.const v2)) h fun v24 h => wI Tryd.prog nG (.mv (.const v0)) h fun v25 h => wI Tryd.prog nG (.mv (.const v11)) h fun v26 h => wI Tryd.prog nG (.ixs 3 (.const v25) (.const v26)) h fun v27 h => wI Tryd.prog nG (.load true 3 (.const v27)) h fun v28 h => wI Tryd.prog nG (.mv (.const v1)) h fun v29 h => wI Tryd.prog nG (.callv (.const v24) [.const v28, .const v29]) h fun v30 h => wI Tryd.prog nG (.bin .lss (.const v30) (.const (.int .i64 0))) h fun v31 h => Q .normal [(0, v0), (1, v1), (2, v2), (8, v8), (9, v9), (10, v10), (11, v11), (31, v31)] h) ()) ()) ()) ()) ()) ()) () := lkm (lkm (lkm (lkm (lkm (lkm (lkm (wR (Rn rfl fun v24 h => Rn rfl fun v25 h => Rn rfl fun v26 h => Rn rfl fun v27 h => Rn rfl fun v28 h => Rn rfl fun v29 h => Rn rfl fun v30 h => Rn rfl fun v31 h => rfl))))))))
def ir.slices_BinarySearchFunc_fib_Hop_fib_Hop_int.r6 : C := .region [0, 1, 2, 8, 9, 10] [⟨some 32, .mv (.tmp 11), none⟩, ⟨some 33, .bin .add (.tmp 32) (.const (.int .i64 1)), none⟩, ⟨some 9, .mv (.tmp 33), none⟩]
theorem ir.slices_BinarySearchFunc_fib_Hop_fib_Hop_int.r6.w (e : Env) (h : AHeap) (Q : Post) : wpC Tryd.prog nG ir.slices_BinarySearchFunc_fib_Hop_fib_Hop_int.r6 e h Q = lk (look e 0) (fun v0 => lk (look e 1) (fun v1 => lk (look e 2) (fun v2 => lk (look e 8) (fun v8 => lk (look e 10) (fun v10 => lk (look e 11) (fun v11 => wI Tryd.prog nG (.mv (.const v11)) h fun v32 h => wI Tryd.prog nG (.bin .add (.const v32) (.const (.int .i64 1))) h fun v33 h => wI Tryd.prog nG (.mv (.const v33)) h fun v9 h => Q .normal [(0, v0), (1, v1), (2, v2), (8, v8), (9, v9), (10, v10)] h) ()) ()) ()) ()) ()) () := lkm (lkm (lkm (lkm (lkm (lkm (wR (Rn rfl fun v32 h => Rn rfl fun v33 h => Rn rfl fun v9 h => rfl)))))))
def ir.slices_BinarySearchFunc_fib_Hop_fib_Hop_int.r7 : C := .region [0, 1, 2, 8, 9, 10] [⟨some 34, .mv (.tmp 11), none⟩, ⟨some 10, .mv (.tmp 34), none⟩]
theorem ir.slices_BinarySearchFunc_fib_Hop_fib_Hop_int.r7.w (e : Env) (h : AHeap) (Q : Post) : wpC Tryd.prog nG ir.slices_BinarySearchFunc_fib_Hop_fib_Hop_int.r7 e h Q = lk (look e 0) (fun v0 => lk (look e 1) (fun v1 => lk (look e 2) (fun v2 => lk (look e 8) (fun v8 => lk (look e 9) (fun v9 => lk (look e 11) (fun v11 => wI Tryd.prog nG (.mv (.const v11)) h fun v34 h => wI Tryd.prog nG (.mv (.const v34)) h fun v10 h => Q .normal [(0, v0), (1, v1), (2, v2), (8, v8), (9, v9), (10, v10)] h) ()) ()) ()) ()) ()) () := lkm (lkm (lkm (lkm (lkm (lkm (wR (Rn rfl fun v34 h => Rn rfl fun v10 h => rfl)))))))
def ir.slices_BinarySearchFunc_fib_Hop_fib_Hop_int.l1.b : C := (.seq (.seq ir.slices_BinarySearchFunc_fib_Hop_fib_Hop_int.r3 (.cond (.tmp 17) .skip (.exit 0))) (.block 1 (.seq ir.slices_BinarySearchFunc_fib_Hop_fib_Hop_int.r4 (.seq ir.slices_BinarySearchFunc_fib_Hop_fib_Hop_int.r5 (.cond (.tmp 31) ir.slices_BinarySearchFunc_fib_Hop_fib_Hop_int.r6 ir.slices_BinarySearchFunc_fib_Hop_fib_Hop_int.r7)))))
theorem ir.slices_BinarySearchFunc_fib_Hop_fib_Hop_int.l1.bw (e : Env) (h : AHeap) (Q : Post) : wpC Tryd.prog nG ir.slices_BinarySearchFunc_fib_Hop_fib_Hop_int.l1.b e h Q = wpC Tryd.prog nG (.seq (.seq ir.slices_BinarySearchFunc_fib_Hop_fib_Hop_int.r3 (.cond (.tmp 17) .skip (.exit 0))) (.block 1 (.seq ir.slices_BinarySearchFunc_fib_Hop_fib_Hop_int.r4 (.seq ir.slices_BinarySearchFunc_fib_Hop_fib_Hop_int.r5 (.cond (.tmp 31) ir.slices_BinarySearchFunc_fib_Hop_fib_Hop_int.r6 ir.slices_BinarySearchFunc_fib_Hop_fib_Hop_int.r7))))) e h Q := (rfl)
def ir.slices_BinarySearchFunc_fib_Hop_fib_Hop_int.l1 : C := .loop ir.slices_BinarySearchFunc_fib_Hop_fib_Hop_int.l1.b
theorem ir.slices_BinarySearchFunc_fib_Hop_fib_Hop_int.l1.w (e : Env) (h : AHeap) (Q : Post) : wpC Tryd.prog nG ir.slices_BinarySearchFunc_fib_Hop_fib_Hop_int.l1 e h Q = loopV Tryd.prog nG ir.slices_BinarySearchFunc_fib_Hop_fib_Hop_int.l1.b e h Q () := (rfl)
def ir.slices_BinarySearchFunc_fib_Hop_fib_Hop_int.r8 : C := .region [6, 7] [⟨some 35, .mv (.tmp 9), none⟩, ⟨some 36, .mv (.tmp 9), none⟩, ⟨some 37, .mv (.tmp 8), none⟩, ⟨some 38, .bin .lss (.tmp 36) (.tmp 37), none⟩, ⟨some 39, .mv (.tmp 38), none⟩, ⟨some 40, .mv (.tmp 2), some (39, true)⟩, ⟨some 41, .mv (.tmp 0), some (39, true)⟩, ⟨some 42, .mv (.tmp 9), some (39, true)⟩, ⟨some 43, .ixs 3 (.tmp 41) (.tmp 42), some (39, true)⟩, ⟨some 44, .load true 3 (.tmp 43), some (39, true)⟩, ⟨some 45, .mv (.tmp 1), some (39, true)⟩, ⟨some 46, .callv (.tmp 40) [.tmp 44, .tmp 45], some (39, true)⟩, ⟨some 47, .bin .eql (.tmp 46) (.const (.int .i64 0)), some (39, true)⟩, ⟨some 48, .pick (.tmp 39) (.tmp 47) (.const (.bool false)), none⟩, ⟨some 6, .mv (.tmp 35), none⟩, ⟨some 7, .mv (.tmp 48), none⟩]
theorem ir.slices_BinarySearchFunc_fib_Hop_fib_Hop_int.r8.w (e : Env) (h : AHeap) (Q : Post) : wpC Tryd.prog nG ir.slices_BinarySearchFunc_fib_Hop_fib_Hop_int.r8 e h Q = lk (look e 0) (fun v0 => lk (look e 1) (fun v1 => lk (look e 2) (fun v2 => lk (look e 8) (fun v8 => lk (look e 9) (fun v9 => wI Tryd.prog nG (.mv (.const v9)) h fun v35 h => wI Tryd.prog nG (.mv (.const v9)) h fun v36 h => wI Tryd.prog nG (.mv (.const v8)) h fun v37 h => wI Tryd.prog nG (.bin .lss (.const v36) (.const v37)) h fun v38 h => wI Tryd.prog nG (.mv (.const v38)) h fun v39 h => gdK v39 true (wI Tryd.prog nG (.mv (.const v2)) h) (fun v39 v40 h => gdK v39 true (wI Tryd.prog nG (.mv (.const v0)) h) (fun v39 v41 h => gdK v39 true (wI Tryd.prog nG (.mv (.const v9)) h) (fun v39 v42 h => gdK v39 true (wI Tryd.prog nG (.ixs 3 (.const v41) (.const v42)) h) (fun v39 v43 h => gdK v39 true (wI Tryd.prog nG (.load true 3 (.const v43)) h) (fun v39 v44 h => gdK v39 true (wI Tryd.prog nG (.mv (.const v1)) h) (fun v39 v45 h => gdK v39 true (wI Tryd.prog nG (.callv (.const v40) [.const v44, .const v45]) h) (fun v39 v46 h => gdK v39 true (wI Tryd.prog nG (.bin .eql (.const v46) (.const (.int .i64 0))) h) (fun v39 v47 h => wI Tryd.prog nG (.pick (.const v39) (.const v47) (.const (.bool false))) h fun v48 h => wI Tryd.prog nG (.mv (.const v35)) h fun v6 h => wI Tryd.prog nG (.mv (.const v48)) h fun v7 h => Q .normal [(6, v6), (7, v7)] h) h () ()) h () ()) h () ()) h () ()) h () ()) h () ()) h () ()) h () ()) ()) ()) ()) ()) () := lkm (lkm (lkm (lkm (lkm (wR (Rn rfl fun v35 h => Rn rfl fun v36 h => Rn rfl fun v37 h => Rn rfl fun v38 h => Rn rfl fun v39 h => Rg rfl rfl fun v39 v40 h => Rg rfl rfl fun v39 v41 h => Rg rfl rfl fun v39 v42 h => Rg rfl rfl fun v39 v43 h => Rg rfl rfl fun v39 v44 h => Rg rfl rfl fun v39 v45 h => Rg rfl rfl fun v39 v46 h => Rg rfl rfl fun v39 v47 h => Rn rfl fun v48 h => Rn rfl fun v6 h => Rn rfl fun v7 h => rfl))))))
def ir.slices_BinarySearchFunc_fib_Hop_fib_Hop_int : C := (.seq ir.slices_BinarySearchFunc_fib_Hop_fib_Hop_int.r0 (.seq ir.slices_BinarySearchFunc_fib_Hop_fib_Hop_int.r1 (.seq ir.slices_BinarySearchFunc_fib_Hop_fib_Hop_int.r2 (.seq (.block 0 ir.slices_BinarySearchFunc_fib_Hop_fib_Hop_int.l1) (.seq ir.slices_BinarySearchFunc_fib_Hop_fib_Hop_int.r8 .ret)))))
theorem ir.slices_BinarySearchFunc_fib_Hop_fib_Hop_int.bw (e : Env) (h : AHeap) (Q : Post) : wpC Tryd.prog nG ir.slices_BinarySearchFunc_fib_Hop_fib_Hop_int e h Q = wpC Tryd.prog nG (.seq ir.slices_BinarySearchFunc_fib_Hop_fib_Hop_int.r0 (.seq ir.slices_BinarySearchFunc_fib_Hop_fib_Hop_int.r1 (.seq ir.slices_BinarySearchFunc_fib_Hop_fib_Hop_int.r2 (.seq (.block 0 ir.slices_BinarySearchFunc_fib_Hop_fib_Hop_int.l1) (.seq ir.slices_BinarySearchFunc_fib_Hop_fib_Hop_int.r8 .ret))))) e h Q := (rfl)
def ir.slices_BinarySearchFunc_fib_Hop_fib_Hop_int.rs : List RV := [.tmp 6, .tmp 7]
theorem ir.slices_BinarySearchFunc_fib_Hop_fib_Hop_int.ok : resC Tryd.prog nG 49 ir.slices_BinarySearchFunc_fib_Hop_fib_Hop_int.ks (Tryd.f20.body.getD .skip) = some ir.slices_BinarySearchFunc_fib_Hop_fib_Hop_int := by kernel_rfl
theorem ir.slices_BinarySearchFunc_fib_Hop_fib_Hop_int.rok : Tryd.f20.results.toList.mapM (resR Tryd.prog) = some ir.slices_BinarySearchFunc_fib_Hop_fib_Hop_int.rs := by kernel_rfl
theorem ir.slices_BinarySearchFunc_fib_Hop_fib_Hop_int.spec {args : List Value} {h : AHeap} {v : Value} {h' : AHeap} (hn : args.length ≤ 49)
    (hk : wpC Tryd.prog nG ir.slices_BinarySearchFunc_fib_Hop_fib_Hop_int (args.zipIdx.map fun p => (p.2, p.1)) h (retQ ir.slices_BinarySearchFunc_fib_Hop_fib_Hop_int.rs h v h')) : Spec Tryd.prog nG fn.slices_BinarySearchFunc_fib_Hop_fib_Hop_int args h v h' :=
  Spec.intro (fn := Tryd.f20) Tryd.func20 (c := Tryd.f20.body.getD .skip) rfl ir.slices_BinarySearchFunc_fib_Hop_fib_Hop_int.ok ir.slices_BinarySearchFunc_fib_Hop_fib_Hop_int.rok hn hk

/-! ### fingerpost/fib.Lookup$1: function 21 -/
def ir.fib_Lookup_1.ks : Nat → List Nat := fun
  | 0 => [1, 2]
  | 1 => [4]
  | _ => []
def ir.fib_Lookup_1.r0 : C := .region [1, 2] [⟨some 2, .box (.tmp 0), none⟩, ⟨some 4, .mv (.const (.int .i64 0)), none⟩]
theorem ir.fib_Lookup_1.r0.w (e : Env) (h : AHeap) (Q : Post) : wpC Tryd.prog nG ir.fib_Lookup_1.r0 e h Q = lk (look e 0) (fun v0 => lk (look e 1) (fun v1 => wI Tryd.prog nG (.box (.const v0)) h fun v2 h => wI Tryd.prog nG (.mv (.const (.int .i64 0))) h fun v4 h => Q .normal [(1, v1), (2, v2)] h) ()) () := lkm (lkm (wR (Rn rfl fun v2 h => Rn rfl fun v4 h => rfl)))
def ir.fib_Lookup_1.r1 : C := .region [4] [⟨some 5, .fld 0 (.tmp 2), none⟩, ⟨some 6, .load false 1 (.tmp 5), none⟩, ⟨some 7, .mv (.tmp 1), none⟩, ⟨some 8, .call fn.cmp_Compare_int [.tmp 6, .tmp 7], none⟩, ⟨some 4, .mv (.tmp 8), none⟩]
theorem ir.fib_Lookup_1.r1.w (e : Env) (h : AHeap) (Q : Post) : wpC Tryd.prog nG ir.fib_Lookup_1.r1 e h Q = lk (look e 1) (fun v1 => lk (look e 2) (fun v2 => wI Tryd.prog nG (.fld 0 (.const v2)) h fun v5 h => wI Tryd.prog nG (.load false 1 (.const v5)) h fun v6 h => wI Tryd.prog nG (.mv (.const v1)) h fun v7 h => wI Tryd.prog nG (.call fn.cmp_Compare_int [.const v6, .const v7]) h fun v8 h => wI Tryd.prog nG (.mv (.const v8)) h fun v4 h => Q .normal [(4, v4)] h) ()) () := lkm (lkm (wR (Rn rfl fun v5 h => Rn rfl fun v6 h => Rn rfl fun v7 h => Rn rfl fun v8 h => Rn rfl fun v4 h => rfl)))
def ir.fib_Lookup_1 : C := (.seq ir.fib_Lookup_1.r0 (.seq ir.fib_Lookup_1.r1 .ret))
theorem ir.fib_Lookup_1.bw (e : Env) (h : AHeap) (Q : Post) : wpC Tryd.prog nG ir.fib_Lookup_1 e h Q = wpC Tryd.prog nG (.seq ir.fib_Lookup_1.r0 (.seq ir.fib_Lookup_1.r1 .ret)) e h Q := (rfl)
def ir.fib_Lookup_1.rs : List RV := [.tmp 4]
theorem ir.fib_Lookup_1.ok : resC Tryd.prog nG 9 ir.fib_Lookup_1.ks (Tryd.f21.body.getD .skip) = some ir.fib_Lookup_1 := by kernel_rfl
theorem ir.fib_Lookup_1.rok : Tryd.f21.results.toList.mapM (resR Tryd.prog) = some ir.fib_Lookup_1.rs := by kernel_rfl
theorem ir.fib_Lookup_1.spec {args : List Value} {h : AHeap} {v : Value} {h' : AHeap} (hn : args.length ≤ 9)
    (hk : wpC Tryd.prog nG ir.fib_Lookup_1 (args.zipIdx.map fun p => (p.2, p.1)) h (retQ ir.fib_Lookup_1.rs h v h')) : Spec Tryd.prog nG fn.fib_Lookup_1 args h v h' :=
  Spec.intro (fn := Tryd.f21) Tryd.func21 (c := Tryd.f21.body.getD .skip) rfl ir.fib_Lookup_1.ok ir.fib_Lookup_1.rok hn hk

/-! ### cmp.Compare[int]: function 22 -/
def ir.cmp_Compare_int.ks : Nat → List Nat := fun
  | 0 => [0, 1]
  | 1 => [0, 1, 5]
  | 2 => [0, 1, 5, 6]
  | 3 => [0, 1, 6, 11]
  | 4 => [12]
  | 5 => [4]
  | 6 => [4]
  | 7 => [0, 1, 13]
  | 8 => [4]
  | 9 => [0, 1, 16]
  | 10 => [4]
  | 11 => [19]
  | 12 => [4]
  | 13 => [4]
  | _ => []
def ir.cmp_Compare_int.r0 : C := .region [0, 1] [⟨some 4, .mv (.const (.int .i64 0)), none⟩]
theorem ir.cmp_Compare_int.r0.w (e : Env) (h : AHeap) (Q : Post) : wpC Tryd.prog nG ir.cmp_Compare_int.r0 e h Q = lk (look e 0) (fun v0 => lk (look e 1) (fun v1 => wI Tryd.prog nG (.mv (.const (.int .i64 0))) h fun v4 h => Q .normal [(0, v0), (1, v1)] h) ()) () := lkm (lkm (wR (Rn rfl fun v4 h => rfl)))
def ir.cmp_Compare_int.r1 : C := .region [0, 1, 5] [⟨some 7, .mv (.tmp 0), none⟩, ⟨some 8, .call fn.cmp_isNaN_int [.tmp 7], none⟩, ⟨some 5, .mv (.tmp 8), none⟩]
theorem ir.cmp_Compare_int.r1.w (e : Env) (h : AHeap) (Q : Post) : wpC Tryd.prog nG ir.cmp_Compare_int.r1 e h Q = lk (look e 0) (fun v0 => lk (look e 1) (fun v1 => wI Tryd.prog nG (.mv (.const v0)) h fun v7 h => wI Tryd.prog nG (.call fn.cmp_isNaN_int [.const v7]) h fun v8 h => wI Tryd.prog nG (.mv (.const v8)) h fun v5 h => Q .normal [(0, v0), (1, v1), (5, v5)] h) ()) () := lkm (lkm (wR (Rn rfl fun v7 h => Rn rfl fun v8 h => Rn rfl fun v5 h => rfl)))
def ir.cmp_Compare_int.r2 : C := .region [0, 1, 5, 6] [⟨some 9, .mv (.tmp 1), none⟩, ⟨some 10, .call fn.cmp_isNaN_int [.tmp 9], none⟩, ⟨some 6, .mv (.tmp 10), none⟩]
theorem ir.cmp_Compare_int.r2.w (e : Env) (h : AHeap) (Q : Post) : wpC Tryd.prog nG ir.cmp_Compare_int.r2 e h Q = lk (look e 0) (fun v0 => lk (look e 1) (fun v1 => lk (look e 5) (fun v5 => wI Tryd.prog nG (.mv (.const v1)) h fun v9 h => wI Tryd.prog nG (.call fn.cmp_isNaN_int [.const v9]) h fun v10 h => wI Tryd.prog nG (.mv (.const v10)) h fun v6 h => Q .normal [(0, v0), (1, v1), (5, v5), (6, v6)] h) ()) ()) () := lkm (lkm (lkm (wR (Rn rfl fun v9 h => Rn rfl fun v10 h => Rn rfl fun v6 h => rfl))))
def ir.cmp_Compare_int.r3 : C := .region [0, 1, 6, 11] [⟨some 11, .mv (.tmp 5), none⟩]
theorem ir.cmp_Compare_int.r3.w (e : Env) (h : AHeap) (Q : Post) : wpC Tryd.prog nG ir.cmp_Compare_int.r3 e h Q = lk (look e 0) (fun v0 => lk (look e 1) (fun v1 => lk (look e 5) (fun v5 => lk (look e 6) (fun v6 => wI Tryd.prog nG (.mv (.const v5)) h fun v11 h => Q .normal [(0, v0), (1, v1), (6, v6), (11, v11)] h) ()) ()) ()) () := lkm (lkm (lkm (lkm (wR (Rn rfl fun v11 h => rfl)))))
def ir.cmp_Compare_int.r4 : C := .region [12] [⟨some 12, .mv (.tmp 6), none⟩]
theorem ir.cmp_Compare_int.r4.w (e : Env) (h : AHeap) (Q : Post) : wpC Tryd.prog nG ir.cmp_Compare_int.r4 e h Q = lk (look e 6) (fun v6 => wI Tryd.prog nG (.mv (.const v6)) h fun v12 h => Q .normal [(12, v12)] h) () := lkm (wR (Rn rfl fun v12 h => rfl))
def ir.cmp_Compare_int.r5 : C := .region [4] [⟨some 4, .mv (.const (.int .i64 0)), none⟩]
theorem ir.cmp_Compare_int.r5.w (e : Env) (h : AHeap) (Q : Post) : wpC Tryd.prog nG ir.cmp_Compare_int.r5 e h Q = wI Tryd.prog nG (.mv (.const (.int .i64 0))) h fun v4 h => Q .normal [(4, v4)] h := wR (Rn rfl fun v4 h => rfl)
def ir.cmp_Compare_int.r6 : C := .region [4] [⟨some 4, .mv (.const (.int .i64 (-1))), none⟩]
theorem ir.cmp_Compare_int.r6.w (e : Env) (h : AHeap) (Q : Post) : wpC Tryd.prog nG ir.cmp_Compare_int.r6 e h Q = wI Tryd.prog nG (.mv (.const (.int .i64 (-1)))) h fun v4 h => Q .normal [(4, v4)] h := wR (Rn rfl fun v4 h => rfl)
def ir.cmp_Compare_int.r7 : C := .region [0, 1, 13] [⟨some 13, .mv (.tmp 6), none⟩]
theorem ir.cmp_Compare_int.r7.w (e : Env) (h : AHeap) (Q : Post) : wpC Tryd.prog nG ir.cmp_Compare_int.r7 e h Q = lk (look e 0) (fun v0 => lk (look e 1) (fun v1 => lk (look e 6) (fun v6 => wI Tryd.prog nG (.mv (.const v6)) h fun v13 h => Q .normal [(0, v0), (1, v1), (13, v13)] h) ()) ()) () := lkm (lkm (lkm (wR (Rn rfl fun v13 h => rfl))))
def ir.cmp_Compare_int.r8 : C := .region [4] [⟨some 4, .mv (.const (.int .i64 1)), none⟩]
theorem ir.cmp_Compare_int.r8.w (e : Env) (h : AHeap) (Q : Post) : wpC Tryd.prog nG ir.cmp_Compare_int.r8 e h Q = wI Tryd.prog nG (.mv (.const (.int .i64 1))) h fun v4 h => Q .normal [(4, v4)] h := wR (Rn rfl fun v4 h => rfl)
def ir.cmp_Compare_int.r9 : C := .region [0, 1, 16] [⟨some 14, .mv (.tmp 0), none⟩, ⟨some 15, .mv (.tmp 1), none⟩, ⟨some 16, .bin .lss (.tmp 14) (.tmp 15), none⟩]
theorem ir.cmp_Compare_int.r9.w (e : Env) (h : AHeap) (Q : Post) : wpC Tryd.prog nG ir.cmp_Compare_int.r9 e h Q = lk (look e 0) (fun v0 => lk (look e 1) (fun v1 => wI Tryd.prog nG (.mv (.const v0)) h fun v14 h => wI Tryd.prog nG (.mv (.const v1)) h fun v15 h => wI Tryd.prog nG (.bin .lss (.const v14) (.const v15)) h fun v16 h => Q .normal [(0, v0), (1, v1), (16, v16)] h) ()) () := lkm (lkm (wR (Rn rfl fun v14 h => Rn rfl fun v15 h => Rn rfl fun v16 h => rfl)))
def ir.cmp_Compare_int.r10 : C := .region [4] [⟨some 4, .mv (.const (.int .i64 (-1))), none⟩]
theorem ir.cmp_Compare_int.r10.w (e : Env) (h : AHeap) (Q : Post) : wpC Tryd.prog nG ir.cmp_Compare_int.r10 e h Q = wI Tryd.prog nG (.mv (.const (.int .i64 (-1)))) h fun v4 h => Q .normal [(4, v4)] h := wR (Rn rfl fun v4 h => rfl)
def ir.cmp_Compare_int.r11 : C := .region [19] [⟨some 17, .mv (.tmp 0), none⟩, ⟨some 18, .mv (.tmp 1), none⟩, ⟨some 19, .bin .gtr (.tmp 17) (.tmp 18), none⟩]
theorem ir.cmp_Compare_int.r11.w (e : Env) (h : AHeap) (Q : Post) : wpC Tryd.prog nG ir.cmp_Compare_int.r11 e h Q = lk (look e 0) (fun v0 => lk (look e 1) (fun v1 => wI Tryd.prog nG (.mv (.const v0)) h fun v17 h => wI Tryd.prog nG (.mv (.const v1)) h fun v18 h => wI Tryd.prog nG (.bin .gtr (.const v17) (.const v18)) h fun v19 h => Q .normal [(19, v19)] h) ()) () := lkm (lkm (wR (Rn rfl fun v17 h => Rn rfl fun v18 h => Rn rfl fun v19 h => rfl)))
def ir.cmp_Compare_int.r12 : C := .region [4] [⟨some 4, .mv (.const (.int .i64 1)), none⟩]
theorem ir.cmp_Compare_int.r12.w (e : Env) (h : AHeap) (Q : Post) : wpC Tryd.prog nG ir.cmp_Compare_int.r12 e h Q = wI Tryd.prog nG (.mv (.const (.int .i64 1))) h fun v4 h => Q .normal [(4, v4)] h := wR (Rn rfl fun v4 h => rfl)
def ir.cmp_Compare_int.r13 : C := .region [4] [⟨some 4, .mv (.const (.int .i64 0)), none⟩]
theorem ir.cmp_Compare_int.r13.w (e : Env) (h : AHeap) (Q : Post) : wpC Tryd.prog nG ir.cmp_Compare_int.r13 e h Q = wI Tryd.prog nG (.mv (.const (.int .i64 0))) h fun v4 h => Q .normal [(4, v4)] h := wR (Rn rfl fun v4 h => rfl)
def ir.cmp_Compare_int : C := (.seq ir.cmp_Compare_int.r0 (.seq ir.cmp_Compare_int.r1 (.seq ir.cmp_Compare_int.r2 (.seq (.seq ir.cmp_Compare_int.r3 (.cond (.tmp 11) (.seq (.seq ir.cmp_Compare_int.r4 (.cond (.tmp 12) (.seq ir.cmp_Compare_int.r5 .ret) .skip)) (.seq ir.cmp_Compare_int.r6 .ret)) .skip)) (.seq (.seq ir.cmp_Compare_int.r7 (.cond (.tmp 13) (.seq ir.cmp_Compare_int.r8 .ret) .skip)) (.seq (.seq ir.cmp_Compare_int.r9 (.cond (.tmp 16) (.seq ir.cmp_Compare_int.r10 .ret) .skip)) (.seq (.seq ir.cmp_Compare_int.r11 (.cond (.tmp 19) (.seq ir.cmp_Compare_int.r12 .ret) .skip)) (.seq ir.cmp_Compare_int.r13 .ret))))))))
theorem ir.cmp_Compare_int.bw (e : Env) (h : AHeap) (Q : Post) : wpC Tryd.prog nG ir.cmp_Compare_int e h Q = wpC Tryd.prog nG (.seq ir.cmp_Compare_int.r0 (.seq ir.cmp_Compare_int.r1 (.seq ir.cmp_Compare_int.r2 (.seq (.seq ir.cmp_Compare_int.r3 (.cond (.tmp 11) (.seq (.seq ir.cmp_Compare_int.r4 (.cond (.tmp 12) (.seq ir.cmp_Compare_int.r5 .ret) .skip)) (.seq ir.cmp_Compare_int.r6 .ret)) .skip)) (.seq (.seq ir.cmp_Compare_int.r7 (.cond (.tmp 13) (.seq ir.cmp_Compare_int.r8 .ret) .skip)) (.seq (.seq ir.cmp_Compare_int.r9 (.cond (.tmp 16) (.seq ir.cmp_Compare_int.r10 .ret) .skip)) (.seq (.seq ir.cmp_Compare_int.r11 (.cond (.tmp 19) (.seq ir.cmp_Compare_int.r12 .ret) .skip)) (.seq ir.cmp_Compare_int.r13 .ret)))))))) e h Q := (rfl)
def ir.cmp_Compare_int.rs : List RV := [.tmp 4]
theorem ir.cmp_Compare_int.ok : resC Tryd.prog nG 20 ir.cmp_Compare_int.ks (Tryd.f22.body.getD .skip) = some ir.cmp_Compare_int := by kernel_rfl
theorem ir.cmp_Compare_int.rok : Tryd.f22.results.toList.mapM (resR Tryd.prog) = some ir.cmp_Compare_int.rs := by kernel_rfl
theorem ir.cmp_Compare_int.spec {args : List Value} {h : AHeap} {v : Value} {h' : AHeap} (hn : args.length ≤ 20)
    (hk : wpC Tryd.prog nG ir.cmp_Compare_int (args.zipIdx.map fun p => (p.2, p.1)) h (retQ ir.cmp_Compare_int.rs h v h')) : Spec Tryd.prog nG fn.cmp_Compare_int args h v h' :=
  Spec.intro (fn := Tryd.f22) Tryd.func22 (c := Tryd.f22.body.getD .skip) rfl ir.cmp_Compare_int.ok ir.cmp_Compare_int.rok hn hk

/-! ### cmp.isNaN[int]: function 23 -/
def ir.cmp_isNaN_int.ks : Nat → List Nat := fun
  | 0 => [0]
  | 1 => [2]
  | _ => []
def ir.cmp_isNaN_int.r0 : C := .region [0] [⟨some 2, .mv (.const (.bool false)), none⟩]
theorem ir.cmp_isNaN_int.r0.w (e : Env) (h : AHeap) (Q : Post) : wpC Tryd.prog nG ir.cmp_isNaN_int.r0 e h Q = lk (look e 0) (fun v0 => wI Tryd.prog nG (.mv (.const (.bool false))) h fun v2 h => Q .normal [(0, v0)] h) () := lkm (wR (Rn rfl fun v2 h => rfl))
def ir.cmp_isNaN_int.r1 : C := .region [2] [⟨some 3, .mv (.tmp 0), none⟩, ⟨some 4, .mv (.tmp 0), none⟩, ⟨some 5, .bin .neq (.tmp 3) (.tmp 4), none⟩, ⟨some 2, .mv (.tmp 5), none⟩]
theorem ir.cmp_isNaN_int.r1.w (e : Env) (h : AHeap) (Q : Post) : wpC Tryd.prog nG ir.cmp_isNaN_int.r1 e h Q = lk (look e 0) (fun v0 => wI Tryd.prog nG (.mv (.const v0)) h fun v3 h => wI Tryd.prog nG (.mv (.const v0)) h fun v4 h => wI Tryd.prog nG (.bin .neq (.const v3) (.const v4)) h fun v5 h => wI Tryd.prog nG (.mv (.const v5)) h fun v2 h => Q .normal [(2, v2)] h) () := lkm (wR (Rn rfl fun v3 h => Rn rfl fun v4 h => Rn rfl fun v5 h => Rn rfl fun v2 h => rfl))
def ir.cmp_isNaN_int : C := (.seq ir.cmp_isNaN_int.r0 (.seq ir.cmp_isNaN_int.r1 .ret))
theorem ir.cmp_isNaN_int.bw (e : Env) (h : AHeap) (Q : Post) : wpC Tryd.prog nG ir.cmp_isNaN_int e h Q = wpC Tryd.prog nG (.seq ir.cmp_isNaN_int.r0 (.seq ir.cmp_isNaN_int.r1 .ret)) e h Q := (rfl)
def ir.cmp_isNaN_int.rs : List RV := [.tmp 2]
theorem ir.cmp_isNaN_int.ok : resC Tryd.prog nG 6 ir.cmp_isNaN_int.ks (Tryd.f23.body.getD .skip) = some ir.cmp_isNaN_int := by kernel_rfl
theorem ir.cmp_isNaN_int.rok : Tryd.f23.results.toList.mapM (resR Tryd.prog) = some ir.cmp_isNaN_int.rs := by kernel_rfl
theorem ir.cmp_isNaN_int.spec {args : List Value} {h : AHeap} {v : Value} {h' : AHeap} (hn : args.length ≤ 6)
    (hk : wpC Tryd.prog nG ir.cmp_isNaN_int (args.zipIdx.map fun p => (p.2, p.1)) h (retQ ir.cmp_isNaN_int.rs h v h')) : Spec Tryd.prog nG fn.cmp_isNaN_int args h v h' :=
  Spec.intro (fn := Tryd.f23) Tryd.func23 (c := Tryd.f23.body.getD .skip) rfl ir.cmp_isNaN_int.ok ir.cmp_isNaN_int.rok hn hk
end Go.Proofs.YtmeojocmngbpaaaDoor.B
