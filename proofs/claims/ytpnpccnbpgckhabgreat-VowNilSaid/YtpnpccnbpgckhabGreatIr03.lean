/-
  The instructions of the program's functions, printed by genir.py; each is checked against the program by the kernel.
-/
import Derived.Test.YtpnpccnbpgckhabGreatProg
import Derived.Test.YtpnpccnbpgckhabGreatArL
import Derived.Test.YtpnpccnbpgckhabGreatAbI
import Derived.KernelRfl
namespace Go.Proofs.YtpnpccnbpgckhabGreat.B
open Go
set_option maxRecDepth 100000
set_option linter.unusedVariables false
namespace fn
def law16_VowNil : FuncId := 3
def vow_Open : FuncId := 4
def vow_Vow_Reserved : FuncId := 5
def vow_Vow_Floor : FuncId := 6
def law16_awake : FuncId := 7
def vow_Vow_Reserve : FuncId := 8
def law01_To : FuncId := 9
def vow_Vow_Spend : FuncId := 10
def vow_Vow_Raise : FuncId := 11
def vow_Vow_Anchor : FuncId := 12
def law11_To : FuncId := 13
def vow_Vow_Boot : FuncId := 14
def vow_Vow_Index : FuncId := 15
def vow_Vow_Anchors : FuncId := 16
def diary_Load : FuncId := 17
def vow_empty : FuncId := 18
def vow_Vow_restore : FuncId := 19
def diary_Start : FuncId := 20
def vow_Vow_snapshot : FuncId := 21
def rank_Floors_Get : FuncId := 22
def slate_New : FuncId := 23
def vow_Vow_up : FuncId := 24
def rank_Right : FuncId := 25
def rank_Compare : FuncId := 26
def vow_Vow_keep : FuncId := 27
def vow_record : FuncId := 28
def rank_Floors_May : FuncId := 29
def rank_Floors_Raise : FuncId := 30
def vow_floor : FuncId := 31
def vow_anchor : FuncId := 32
def law10_ToSig : FuncId := 33
def slate_Slate_Sectors : FuncId := 34
def diary_half : FuncId := 35
def diary_read : FuncId := 36
def diary_next : FuncId := 37
def rank_New : FuncId := 38
def field_Take : FuncId := 39
def field_In_U8 : FuncId := 40
def field_In_U64 : FuncId := 41
def field_In_End : FuncId := 42
def vow_key : FuncId := 43
def renew_Get : FuncId := 44
def diary_Diary_put : FuncId := 45
def slate_Slate_Flush : FuncId := 46
def rank_Floors_Dests : FuncId := 47
def rank_sign : FuncId := 48
def diary_Diary_Append : FuncId := 49
def diary_Diary_Flush : FuncId := 50
def vow_Vow_fold : FuncId := 51
def field_Lay : FuncId := 52
def field_Out_U8 : FuncId := 53
def field_Out_U64 : FuncId := 54
def field_Out_Bytes : FuncId := 55
def renew_Put : FuncId := 56
def slate_Slate_Read : FuncId := 57
def diary_get32 : FuncId := 58
def diary_look : FuncId := 59
def field_In_num : FuncId := 60
def field_In_Left : FuncId := 61
def field_In_Fail : FuncId := 62
def field_In_Err : FuncId := 63
def field_In_U32 : FuncId := 64
def field_In_Sum : FuncId := 65
def diary_sectors : FuncId := 66
def slate_Slate_Write : FuncId := 67
def slate_Slate_up : FuncId := 68
def slate_Slate_power : FuncId := 69
def slices_Sorted_int : FuncId := 70
def maps_Keys_map_int_api_Key_int_api_Key : FuncId := 71
def field_Out_put : FuncId := 72
def field_Out_U32 : FuncId := 73
def field_Out_Sum : FuncId := 74
def diary_sum : FuncId := 75
def field_In_next : FuncId := 76
def diary_lay : FuncId := 77
def slices_Collect_int : FuncId := 78
def slices_Sort_int_int : FuncId := 79
def maps_Keys_map_int_api_Key_int_api_Key_1 : FuncId := 80
def diary_put32 : FuncId := 81
def slices_AppendSeq_int_int : FuncId := 82
def slices_pdqsortOrdered_int : FuncId := 83
def math_bits_Len : FuncId := 84
def slices_insertionSortOrdered_int : FuncId := 85
def slices_heapSortOrdered_int : FuncId := 86
def slices_breakPatternsOrdered_int : FuncId := 87
def slices_choosePivotOrdered_int : FuncId := 88
def slices_reverseRangeOrdered_int : FuncId := 89
def slices_partialInsertionSortOrdered_int : FuncId := 90
def cmp_Less_int : FuncId := 91
def slices_partitionEqualOrdered_int : FuncId := 92
def slices_partitionOrdered_int : FuncId := 93
def math_bits_Len32 : FuncId := 94
def math_bits_Len64 : FuncId := 95
def slices_siftDownOrdered_int : FuncId := 96
def slices_nextPowerOfTwo : FuncId := 97
def slices_xorshift_Next : FuncId := 98
def slices_medianAdjacentOrdered_int : FuncId := 99
def slices_medianOrdered_int : FuncId := 100
def cmp_isNaN_int : FuncId := 101
def slices_order2Ordered_int : FuncId := 102
def runtime_boundsError_Error : FuncId := 103
def runtime_boundsError_RuntimeError : FuncId := 104
def runtime_errorString_Error : FuncId := 105
def runtime_errorString_RuntimeError : FuncId := 106
def runtime_plainError_Error : FuncId := 107
def runtime_plainError_RuntimeError : FuncId := 108
def runtime_errorAddressString_Error : FuncId := 109
def runtime_errorAddressString_RuntimeError : FuncId := 110
def runtime_TypeAssertionError_Error : FuncId := 111
def runtime_TypeAssertionError_RuntimeError : FuncId := 112
def runtime_PanicNilError_Error : FuncId := 113
def runtime_PanicNilError_RuntimeError : FuncId := 114
def internal_abi_Type_Align : FuncId := 115
def internal_runtime_maps_unhashableTypeError_Error : FuncId := 116
def internal_runtime_maps_unhashableTypeError_RuntimeError : FuncId := 117
def renew_Record_bytes : FuncId := 118
def slate_Slate_Down : FuncId := 119
def diary_Diary_Free : FuncId := 120
def field_Out_U16 : FuncId := 121
def internal_abi_Kind_String : FuncId := 122
end fn
def nG : Nat := 0

/-! ### fingerpost/field.Take: function 39 -/
def ir.field_Take.ks : Nat → List Nat := fun
  | 0 => [0]
  | 1 => [2]
  | _ => []
def ir.field_Take.r0 : C := .region [0] [⟨some 2, .mv (.const (.pointer none)), none⟩]
theorem ir.field_Take.r0.w (e : Env) (h : AHeap) (Q : Post) : wpC Tryz.prog nG ir.field_Take.r0 e h Q = lk (look e 0) (fun v0 => wI Tryz.prog nG (.mv (.const (.pointer none))) h fun v2 h => Q .normal [(0, v0)] h) () := lkm (wR (Rn rfl fun v2 h => rfl))
def ir.field_Take.r1 : C := .region [2] [⟨some 3, .row 1 0 [.int .u8 0] [], none⟩, ⟨some 4, .mv (.tmp 0), none⟩, ⟨some 5, .app false 1 1 (.tmp 3) (.tmp 4), none⟩, ⟨some 6, .build [.slice none 0 0, .int .i64 0] [(0, 1, .tmp 5)], none⟩, ⟨some 7, .box (.tmp 6), none⟩, ⟨some 2, .mv (.tmp 7), none⟩]
theorem ir.field_Take.r1.w (e : Env) (h : AHeap) (Q : Post) : wpC Tryz.prog nG ir.field_Take.r1 e h Q = lk (look e 0) (fun v0 => wI Tryz.prog nG (.row 1 0 [.int .u8 0] []) h fun v3 h => wI Tryz.prog nG (.mv (.const v0)) h fun v4 h => wI Tryz.prog nG (.app false 1 1 (.const v3) (.const v4)) h fun v5 h => wI Tryz.prog nG (.build [.slice none 0 0, .int .i64 0] [(0, 1, .const v5)]) h fun v6 h => wI Tryz.prog nG (.box (.const v6)) h fun v7 h => wI Tryz.prog nG (.mv (.const v7)) h fun v2 h => Q .normal [(2, v2)] h) () := lkm (wR (Rn rfl fun v3 h => Rn rfl fun v4 h => Rn rfl fun v5 h => Rn rfl fun v6 h => Rn rfl fun v7 h => Rn rfl fun v2 h => rfl))
def ir.field_Take : C := (.seq ir.field_Take.r0 (.seq ir.field_Take.r1 .ret))
theorem ir.field_Take.bw (e : Env) (h : AHeap) (Q : Post) : wpC Tryz.prog nG ir.field_Take e h Q = wpC Tryz.prog nG (.seq ir.field_Take.r0 (.seq ir.field_Take.r1 .ret)) e h Q := (rfl)
def ir.field_Take.rs : List RV := [.tmp 2]
theorem ir.field_Take.ok : resC Tryz.prog nG 8 ir.field_Take.ks (Tryz.f39.body.getD .skip) = some ir.field_Take := by kernel_rfl
theorem ir.field_Take.rok : Tryz.f39.results.toList.mapM (resR Tryz.prog) = some ir.field_Take.rs := by kernel_rfl
theorem ir.field_Take.spec {args : List Value} {h : AHeap} {v : Value} {h' : AHeap} (hn : args.length ≤ 8) :
    (wpC Tryz.prog nG ir.field_Take (args.zipIdx.map fun p => (p.2, p.1)) h (retQ ir.field_Take.rs h v h')) → Spec Tryz.prog nG fn.field_Take args h v h' :=
  Spec.intro (fn := Tryz.f39) Tryz.func39 (c := Tryz.f39.body.getD .skip) (by kernel_rfl) ir.field_Take.ok ir.field_Take.rok hn
attribute [go_sem ↓] ir.field_Take.r0.w ir.field_Take.r1.w
attribute [go_sem] ir.field_Take.rs

/-! ### (*fingerpost/field.In).U8: function 40 -/
def ir.field_In_U8.ks : Nat → List Nat := fun
  | 0 => [0]
  | 1 => [2]
  | _ => []
def ir.field_In_U8.r0 : C := .region [0] [⟨some 2, .mv (.const (.int .u64 0)), none⟩]
theorem ir.field_In_U8.r0.w (e : Env) (h : AHeap) (Q : Post) : wpC Tryz.prog nG ir.field_In_U8.r0 e h Q = lk (look e 0) (fun v0 => wI Tryz.prog nG (.mv (.const (.int .u64 0))) h fun v2 h => Q .normal [(0, v0)] h) () := lkm (wR (Rn rfl fun v2 h => rfl))
def ir.field_In_U8.r1 : C := .region [2] [⟨some 3, .mv (.tmp 0), none⟩, ⟨some 4, .call fn.field_In_num [.tmp 3, .const (.int .i64 1)], none⟩, ⟨some 2, .mv (.tmp 4), none⟩]
theorem ir.field_In_U8.r1.w (e : Env) (h : AHeap) (Q : Post) : wpC Tryz.prog nG ir.field_In_U8.r1 e h Q = lk (look e 0) (fun v0 => wI Tryz.prog nG (.mv (.const v0)) h fun v3 h => wI Tryz.prog nG (.call fn.field_In_num [.const v3, .const (.int .i64 1)]) h fun v4 h => wI Tryz.prog nG (.mv (.const v4)) h fun v2 h => Q .normal [(2, v2)] h) () := lkm (wR (Rn rfl fun v3 h => Rn rfl fun v4 h => Rn rfl fun v2 h => rfl))
def ir.field_In_U8 : C := (.seq ir.field_In_U8.r0 (.seq ir.field_In_U8.r1 .ret))
theorem ir.field_In_U8.bw (e : Env) (h : AHeap) (Q : Post) : wpC Tryz.prog nG ir.field_In_U8 e h Q = wpC Tryz.prog nG (.seq ir.field_In_U8.r0 (.seq ir.field_In_U8.r1 .ret)) e h Q := (rfl)
def ir.field_In_U8.rs : List RV := [.tmp 2]
theorem ir.field_In_U8.ok : resC Tryz.prog nG 5 ir.field_In_U8.ks (Tryz.f40.body.getD .skip) = some ir.field_In_U8 := by kernel_rfl
theorem ir.field_In_U8.rok : Tryz.f40.results.toList.mapM (resR Tryz.prog) = some ir.field_In_U8.rs := by kernel_rfl
theorem ir.field_In_U8.spec {args : List Value} {h : AHeap} {v : Value} {h' : AHeap} (hn : args.length ≤ 5) :
    (wpC Tryz.prog nG ir.field_In_U8 (args.zipIdx.map fun p => (p.2, p.1)) h (retQ ir.field_In_U8.rs h v h')) → Spec Tryz.prog nG fn.field_In_U8 args h v h' :=
  Spec.intro (fn := Tryz.f40) Tryz.func40 (c := Tryz.f40.body.getD .skip) (by kernel_rfl) ir.field_In_U8.ok ir.field_In_U8.rok hn
attribute [go_sem ↓] ir.field_In_U8.r0.w ir.field_In_U8.r1.w
attribute [go_sem] ir.field_In_U8.rs

/-! ### (*fingerpost/field.In).U64: function 41 -/
def ir.field_In_U64.ks : Nat → List Nat := fun
  | 0 => [0]
  | 1 => [2]
  | _ => []
def ir.field_In_U64.r0 : C := .region [0] [⟨some 2, .mv (.const (.int .u64 0)), none⟩]
theorem ir.field_In_U64.r0.w (e : Env) (h : AHeap) (Q : Post) : wpC Tryz.prog nG ir.field_In_U64.r0 e h Q = lk (look e 0) (fun v0 => wI Tryz.prog nG (.mv (.const (.int .u64 0))) h fun v2 h => Q .normal [(0, v0)] h) () := lkm (wR (Rn rfl fun v2 h => rfl))
def ir.field_In_U64.r1 : C := .region [2] [⟨some 3, .mv (.tmp 0), none⟩, ⟨some 4, .call fn.field_In_num [.tmp 3, .const (.int .i64 8)], none⟩, ⟨some 2, .mv (.tmp 4), none⟩]
theorem ir.field_In_U64.r1.w (e : Env) (h : AHeap) (Q : Post) : wpC Tryz.prog nG ir.field_In_U64.r1 e h Q = lk (look e 0) (fun v0 => wI Tryz.prog nG (.mv (.const v0)) h fun v3 h => wI Tryz.prog nG (.call fn.field_In_num [.const v3, .const (.int .i64 8)]) h fun v4 h => wI Tryz.prog nG (.mv (.const v4)) h fun v2 h => Q .normal [(2, v2)] h) () := lkm (wR (Rn rfl fun v3 h => Rn rfl fun v4 h => Rn rfl fun v2 h => rfl))
def ir.field_In_U64 : C := (.seq ir.field_In_U64.r0 (.seq ir.field_In_U64.r1 .ret))
theorem ir.field_In_U64.bw (e : Env) (h : AHeap) (Q : Post) : wpC Tryz.prog nG ir.field_In_U64 e h Q = wpC Tryz.prog nG (.seq ir.field_In_U64.r0 (.seq ir.field_In_U64.r1 .ret)) e h Q := (rfl)
def ir.field_In_U64.rs : List RV := [.tmp 2]
theorem ir.field_In_U64.ok : resC Tryz.prog nG 5 ir.field_In_U64.ks (Tryz.f41.body.getD .skip) = some ir.field_In_U64 := by kernel_rfl
theorem ir.field_In_U64.rok : Tryz.f41.results.toList.mapM (resR Tryz.prog) = some ir.field_In_U64.rs := by kernel_rfl
theorem ir.field_In_U64.spec {args : List Value} {h : AHeap} {v : Value} {h' : AHeap} (hn : args.length ≤ 5) :
    (wpC Tryz.prog nG ir.field_In_U64 (args.zipIdx.map fun p => (p.2, p.1)) h (retQ ir.field_In_U64.rs h v h')) → Spec Tryz.prog nG fn.field_In_U64 args h v h' :=
  Spec.intro (fn := Tryz.f41) Tryz.func41 (c := Tryz.f41.body.getD .skip) (by kernel_rfl) ir.field_In_U64.ok ir.field_In_U64.rok hn
attribute [go_sem ↓] ir.field_In_U64.r0.w ir.field_In_U64.r1.w
attribute [go_sem] ir.field_In_U64.rs

/-! ### (*fingerpost/field.In).End: function 42 -/
def ir.field_In_End.ks : Nat → List Nat := fun
  | 0 => [0]
  | 1 => [0, 5]
  | 2 => [0]
  | 3 => [2]
  | _ => []
def ir.field_In_End.r0 : C := .region [0] [⟨some 2, .mv (.const (.int .i64 0)), none⟩]
theorem ir.field_In_End.r0.w (e : Env) (h : AHeap) (Q : Post) : wpC Tryz.prog nG ir.field_In_End.r0 e h Q = lk (look e 0) (fun v0 => wI Tryz.prog nG (.mv (.const (.int .i64 0))) h fun v2 h => Q .normal [(0, v0)] h) () := lkm (wR (Rn rfl fun v2 h => rfl))
def ir.field_In_End.r1 : C := .region [0, 5] [⟨some 3, .mv (.tmp 0), none⟩, ⟨some 4, .call fn.field_In_Left [.tmp 3], none⟩, ⟨some 5, .bin .gtr (.tmp 4) (.const (.int .i64 0)), none⟩]
theorem ir.field_In_End.r1.w (e : Env) (h : AHeap) (Q : Post) : wpC Tryz.prog nG ir.field_In_End.r1 e h Q = lk (look e 0) (fun v0 => wI Tryz.prog nG (.mv (.const v0)) h fun v3 h => wI Tryz.prog nG (.call fn.field_In_Left [.const v3]) h fun v4 h => wI Tryz.prog nG (.bin .gtr (.const v4) (.const (.int .i64 0))) h fun v5 h => Q .normal [(0, v0), (5, v5)] h) () := lkm (wR (Rn rfl fun v3 h => Rn rfl fun v4 h => Rn rfl fun v5 h => rfl))
def ir.field_In_End.r2 : C := .region [0] [⟨some 6, .mv (.tmp 0), none⟩, ⟨some 7, .call fn.field_In_Fail [.tmp 6, .const (.int .i64 10)], none⟩]
theorem ir.field_In_End.r2.w (e : Env) (h : AHeap) (Q : Post) : wpC Tryz.prog nG ir.field_In_End.r2 e h Q = lk (look e 0) (fun v0 => wI Tryz.prog nG (.mv (.const v0)) h fun v6 h => wI Tryz.prog nG (.call fn.field_In_Fail [.const v6, .const (.int .i64 10)]) h fun v7 h => Q .normal [(0, v0)] h) () := lkm (wR (Rn rfl fun v6 h => Rn rfl fun v7 h => rfl))
def ir.field_In_End.r3 : C := .region [2] [⟨some 8, .mv (.tmp 0), none⟩, ⟨some 9, .call fn.field_In_Err [.tmp 8], none⟩, ⟨some 2, .mv (.tmp 9), none⟩]
theorem ir.field_In_End.r3.w (e : Env) (h : AHeap) (Q : Post) : wpC Tryz.prog nG ir.field_In_End.r3 e h Q = lk (look e 0) (fun v0 => wI Tryz.prog nG (.mv (.const v0)) h fun v8 h => wI Tryz.prog nG (.call fn.field_In_Err [.const v8]) h fun v9 h => wI Tryz.prog nG (.mv (.const v9)) h fun v2 h => Q .normal [(2, v2)] h) () := lkm (wR (Rn rfl fun v8 h => Rn rfl fun v9 h => Rn rfl fun v2 h => rfl))
def ir.field_In_End : C := (.seq ir.field_In_End.r0 (.seq (.seq ir.field_In_End.r1 (.cond (.tmp 5) ir.field_In_End.r2 .skip)) (.seq ir.field_In_End.r3 .ret)))
theorem ir.field_In_End.bw (e : Env) (h : AHeap) (Q : Post) : wpC Tryz.prog nG ir.field_In_End e h Q = wpC Tryz.prog nG (.seq ir.field_In_End.r0 (.seq (.seq ir.field_In_End.r1 (.cond (.tmp 5) ir.field_In_End.r2 .skip)) (.seq ir.field_In_End.r3 .ret))) e h Q := (rfl)
def ir.field_In_End.rs : List RV := [.tmp 2]
theorem ir.field_In_End.ok : resC Tryz.prog nG 10 ir.field_In_End.ks (Tryz.f42.body.getD .skip) = some ir.field_In_End := by kernel_rfl
theorem ir.field_In_End.rok : Tryz.f42.results.toList.mapM (resR Tryz.prog) = some ir.field_In_End.rs := by kernel_rfl
theorem ir.field_In_End.spec {args : List Value} {h : AHeap} {v : Value} {h' : AHeap} (hn : args.length ≤ 10) :
    (wpC Tryz.prog nG ir.field_In_End (args.zipIdx.map fun p => (p.2, p.1)) h (retQ ir.field_In_End.rs h v h')) → Spec Tryz.prog nG fn.field_In_End args h v h' :=
  Spec.intro (fn := Tryz.f42) Tryz.func42 (c := Tryz.f42.body.getD .skip) (by kernel_rfl) ir.field_In_End.ok ir.field_In_End.rok hn
attribute [go_sem ↓] ir.field_In_End.r0.w ir.field_In_End.r1.w ir.field_In_End.r2.w ir.field_In_End.r3.w
attribute [go_sem] ir.field_In_End.rs

/-! ### fingerpost/field.Lay: function 52 -/
def ir.field_Lay.ks : Nat → List Nat := fun
  | 0 => []
  | 1 => [0]
  | _ => []
def ir.field_Lay.r0 : C := .region [] [⟨some 0, .mv (.const (.pointer none)), none⟩]
theorem ir.field_Lay.r0.w (e : Env) (h : AHeap) (Q : Post) : wpC Tryz.prog nG ir.field_Lay.r0 e h Q = wI Tryz.prog nG (.mv (.const (.pointer none))) h fun v0 h => Q .normal [] h := wR (Rn rfl fun v0 h => rfl)
def ir.field_Lay.r1 : C := .region [0] [⟨some 1, .build [.slice none 0 0, .bool false] [], none⟩, ⟨some 2, .box (.tmp 1), none⟩, ⟨some 0, .mv (.tmp 2), none⟩]
theorem ir.field_Lay.r1.w (e : Env) (h : AHeap) (Q : Post) : wpC Tryz.prog nG ir.field_Lay.r1 e h Q = wI Tryz.prog nG (.build [.slice none 0 0, .bool false] []) h fun v1 h => wI Tryz.prog nG (.box (.const v1)) h fun v2 h => wI Tryz.prog nG (.mv (.const v2)) h fun v0 h => Q .normal [(0, v0)] h := wR (Rn rfl fun v1 h => Rn rfl fun v2 h => Rn rfl fun v0 h => rfl)
def ir.field_Lay : C := (.seq ir.field_Lay.r0 (.seq ir.field_Lay.r1 .ret))
theorem ir.field_Lay.bw (e : Env) (h : AHeap) (Q : Post) : wpC Tryz.prog nG ir.field_Lay e h Q = wpC Tryz.prog nG (.seq ir.field_Lay.r0 (.seq ir.field_Lay.r1 .ret)) e h Q := (rfl)
def ir.field_Lay.rs : List RV := [.tmp 0]
theorem ir.field_Lay.ok : resC Tryz.prog nG 3 ir.field_Lay.ks (Tryz.f52.body.getD .skip) = some ir.field_Lay := by kernel_rfl
theorem ir.field_Lay.rok : Tryz.f52.results.toList.mapM (resR Tryz.prog) = some ir.field_Lay.rs := by kernel_rfl
theorem ir.field_Lay.spec {args : List Value} {h : AHeap} {v : Value} {h' : AHeap} (hn : args.length ≤ 3) :
    (wpC Tryz.prog nG ir.field_Lay (args.zipIdx.map fun p => (p.2, p.1)) h (retQ ir.field_Lay.rs h v h')) → Spec Tryz.prog nG fn.field_Lay args h v h' :=
  Spec.intro (fn := Tryz.f52) Tryz.func52 (c := Tryz.f52.body.getD .skip) (by kernel_rfl) ir.field_Lay.ok ir.field_Lay.rok hn
attribute [go_sem ↓] ir.field_Lay.r0.w ir.field_Lay.r1.w
attribute [go_sem] ir.field_Lay.rs

/-! ### (*fingerpost/field.Out).U8: function 53 -/
def ir.field_Out_U8.ks : Nat → List Nat := fun
  | 0 => []
  | _ => []
def ir.field_Out_U8.r0 : C := .region [] [⟨some 4, .mv (.tmp 0), none⟩, ⟨some 5, .mv (.tmp 1), none⟩, ⟨some 6, .call fn.field_Out_put [.tmp 4, .tmp 5, .const (.int .i64 1)], none⟩]
theorem ir.field_Out_U8.r0.w (e : Env) (h : AHeap) (Q : Post) : wpC Tryz.prog nG ir.field_Out_U8.r0 e h Q = lk (look e 0) (fun v0 => lk (look e 1) (fun v1 => wI Tryz.prog nG (.mv (.const v0)) h fun v4 h => wI Tryz.prog nG (.mv (.const v1)) h fun v5 h => wI Tryz.prog nG (.call fn.field_Out_put [.const v4, .const v5, .const (.int .i64 1)]) h fun v6 h => Q .normal [] h) ()) () := lkm (lkm (wR (Rn rfl fun v4 h => Rn rfl fun v5 h => Rn rfl fun v6 h => rfl)))
def ir.field_Out_U8 : C := ir.field_Out_U8.r0
theorem ir.field_Out_U8.bw (e : Env) (h : AHeap) (Q : Post) : wpC Tryz.prog nG ir.field_Out_U8 e h Q = wpC Tryz.prog nG ir.field_Out_U8.r0 e h Q := (rfl)
def ir.field_Out_U8.rs : List RV := []
theorem ir.field_Out_U8.ok : resC Tryz.prog nG 7 ir.field_Out_U8.ks (Tryz.f53.body.getD .skip) = some ir.field_Out_U8 := by kernel_rfl
theorem ir.field_Out_U8.rok : Tryz.f53.results.toList.mapM (resR Tryz.prog) = some ir.field_Out_U8.rs := by kernel_rfl
theorem ir.field_Out_U8.spec {args : List Value} {h : AHeap} {v : Value} {h' : AHeap} (hn : args.length ≤ 7) :
    (wpC Tryz.prog nG ir.field_Out_U8 (args.zipIdx.map fun p => (p.2, p.1)) h (retQ ir.field_Out_U8.rs h v h')) → Spec Tryz.prog nG fn.field_Out_U8 args h v h' :=
  Spec.intro (fn := Tryz.f53) Tryz.func53 (c := Tryz.f53.body.getD .skip) (by kernel_rfl) ir.field_Out_U8.ok ir.field_Out_U8.rok hn
attribute [go_sem ↓] ir.field_Out_U8.r0.w
attribute [go_sem] ir.field_Out_U8.rs

/-! ### (*fingerpost/field.Out).U64: function 54 -/
def ir.field_Out_U64.ks : Nat → List Nat := fun
  | 0 => []
  | _ => []
def ir.field_Out_U64.r0 : C := .region [] [⟨some 4, .mv (.tmp 0), none⟩, ⟨some 5, .mv (.tmp 1), none⟩, ⟨some 6, .call fn.field_Out_put [.tmp 4, .tmp 5, .const (.int .i64 8)], none⟩]
theorem ir.field_Out_U64.r0.w (e : Env) (h : AHeap) (Q : Post) : wpC Tryz.prog nG ir.field_Out_U64.r0 e h Q = lk (look e 0) (fun v0 => lk (look e 1) (fun v1 => wI Tryz.prog nG (.mv (.const v0)) h fun v4 h => wI Tryz.prog nG (.mv (.const v1)) h fun v5 h => wI Tryz.prog nG (.call fn.field_Out_put [.const v4, .const v5, .const (.int .i64 8)]) h fun v6 h => Q .normal [] h) ()) () := lkm (lkm (wR (Rn rfl fun v4 h => Rn rfl fun v5 h => Rn rfl fun v6 h => rfl)))
def ir.field_Out_U64 : C := ir.field_Out_U64.r0
theorem ir.field_Out_U64.bw (e : Env) (h : AHeap) (Q : Post) : wpC Tryz.prog nG ir.field_Out_U64 e h Q = wpC Tryz.prog nG ir.field_Out_U64.r0 e h Q := (rfl)
def ir.field_Out_U64.rs : List RV := []
theorem ir.field_Out_U64.ok : resC Tryz.prog nG 7 ir.field_Out_U64.ks (Tryz.f54.body.getD .skip) = some ir.field_Out_U64 := by kernel_rfl
theorem ir.field_Out_U64.rok : Tryz.f54.results.toList.mapM (resR Tryz.prog) = some ir.field_Out_U64.rs := by kernel_rfl
theorem ir.field_Out_U64.spec {args : List Value} {h : AHeap} {v : Value} {h' : AHeap} (hn : args.length ≤ 7) :
    (wpC Tryz.prog nG ir.field_Out_U64 (args.zipIdx.map fun p => (p.2, p.1)) h (retQ ir.field_Out_U64.rs h v h')) → Spec Tryz.prog nG fn.field_Out_U64 args h v h' :=
  Spec.intro (fn := Tryz.f54) Tryz.func54 (c := Tryz.f54.body.getD .skip) (by kernel_rfl) ir.field_Out_U64.ok ir.field_Out_U64.rok hn
attribute [go_sem ↓] ir.field_Out_U64.r0.w
attribute [go_sem] ir.field_Out_U64.rs

/-! ### (*fingerpost/field.Out).Bytes: function 55 -/
def ir.field_Out_Bytes.ks : Nat → List Nat := fun
  | 0 => [0]
  | 1 => [0, 4]
  | 2 => [2, 3]
  | 3 => [0, 7]
  | 4 => [2, 3]
  | 5 => [2, 3]
  | _ => []
def ir.field_Out_Bytes.r0 : C := .region [0] [⟨some 2, .mv (.const (.slice none 0 0)), none⟩, ⟨some 3, .mv (.const (.int .i64 0)), none⟩]
theorem ir.field_Out_Bytes.r0.w (e : Env) (h : AHeap) (Q : Post) : wpC Tryz.prog nG ir.field_Out_Bytes.r0 e h Q = lk (look e 0) (fun v0 => wI Tryz.prog nG (.mv (.const (.slice none 0 0))) h fun v2 h => wI Tryz.prog nG (.mv (.const (.int .i64 0))) h fun v3 h => Q .normal [(0, v0)] h) () := lkm (wR (Rn rfl fun v2 h => Rn rfl fun v3 h => rfl))
def ir.field_Out_Bytes.r1 : C := .region [0, 4] [⟨some 5, .mv (.tmp 0), none⟩, ⟨some 6, .eqn 0 false (.tmp 5), none⟩, ⟨some 4, .mv (.tmp 6), none⟩]
theorem ir.field_Out_Bytes.r1.w (e : Env) (h : AHeap) (Q : Post) : wpC Tryz.prog nG ir.field_Out_Bytes.r1 e h Q = lk (look e 0) (fun v0 => wI Tryz.prog nG (.mv (.const v0)) h fun v5 h => wI Tryz.prog nG (.eqn 0 false (.const v5)) h fun v6 h => wI Tryz.prog nG (.mv (.const v6)) h fun v4 h => Q .normal [(0, v0), (4, v4)] h) () := lkm (wR (Rn rfl fun v5 h => Rn rfl fun v6 h => Rn rfl fun v4 h => rfl))
def ir.field_Out_Bytes.r2 : C := .region [2, 3] [⟨some 2, .mv (.const (.slice none 0 0)), none⟩, ⟨some 3, .mv (.const (.int .i64 2)), none⟩]
theorem ir.field_Out_Bytes.r2.w (e : Env) (h : AHeap) (Q : Post) : wpC Tryz.prog nG ir.field_Out_Bytes.r2 e h Q = wI Tryz.prog nG (.mv (.const (.slice none 0 0))) h fun v2 h => wI Tryz.prog nG (.mv (.const (.int .i64 2))) h fun v3 h => Q .normal [(2, v2), (3, v3)] h := wR (Rn rfl fun v2 h => Rn rfl fun v3 h => rfl)
def ir.field_Out_Bytes.r3 : C := .region [0, 7] [⟨some 8, .mv (.tmp 0), none⟩, ⟨some 9, .nilck (.tmp 8), none⟩, ⟨some 10, .fld 1 (.tmp 9), none⟩, ⟨some 11, .load false 1 (.tmp 10), none⟩, ⟨some 7, .mv (.tmp 11), none⟩]
theorem ir.field_Out_Bytes.r3.w (e : Env) (h : AHeap) (Q : Post) : wpC Tryz.prog nG ir.field_Out_Bytes.r3 e h Q = lk (look e 0) (fun v0 => wI Tryz.prog nG (.mv (.const v0)) h fun v8 h => wI Tryz.prog nG (.nilck (.const v8)) h fun v9 h => wI Tryz.prog nG (.fld 1 (.const v9)) h fun v10 h => wI Tryz.prog nG (.load false 1 (.const v10)) h fun v11 h => wI Tryz.prog nG (.mv (.const v11)) h fun v7 h => Q .normal [(0, v0), (7, v7)] h) () := lkm (wR (Rn rfl fun v8 h => Rn rfl fun v9 h => Rn rfl fun v10 h => Rn rfl fun v11 h => Rn rfl fun v7 h => rfl))
def ir.field_Out_Bytes.r4 : C := .region [2, 3] [⟨some 2, .mv (.const (.slice none 0 0)), none⟩, ⟨some 3, .mv (.const (.int .i64 8)), none⟩]
theorem ir.field_Out_Bytes.r4.w (e : Env) (h : AHeap) (Q : Post) : wpC Tryz.prog nG ir.field_Out_Bytes.r4 e h Q = wI Tryz.prog nG (.mv (.const (.slice none 0 0))) h fun v2 h => wI Tryz.prog nG (.mv (.const (.int .i64 8))) h fun v3 h => Q .normal [(2, v2), (3, v3)] h := wR (Rn rfl fun v2 h => Rn rfl fun v3 h => rfl)
def ir.field_Out_Bytes.r5 : C := .region [2, 3] [⟨some 12, .row 1 0 [.int .u8 0] [], none⟩, ⟨some 13, .mv (.tmp 0), none⟩, ⟨some 14, .nilck (.tmp 13), none⟩, ⟨some 15, .fld 0 (.tmp 14), none⟩, ⟨some 16, .load false 1 (.tmp 15), none⟩, ⟨some 17, .app false 1 1 (.tmp 12) (.tmp 16), none⟩, ⟨some 2, .mv (.tmp 17), none⟩, ⟨some 3, .mv (.const (.int .i64 0)), none⟩]
theorem ir.field_Out_Bytes.r5.w (e : Env) (h : AHeap) (Q : Post) : wpC Tryz.prog nG ir.field_Out_Bytes.r5 e h Q = lk (look e 0) (fun v0 => wI Tryz.prog nG (.row 1 0 [.int .u8 0] []) h fun v12 h => wI Tryz.prog nG (.mv (.const v0)) h fun v13 h => wI Tryz.prog nG (.nilck (.const v13)) h fun v14 h => wI Tryz.prog nG (.fld 0 (.const v14)) h fun v15 h => wI Tryz.prog nG (.load false 1 (.const v15)) h fun v16 h => wI Tryz.prog nG (.app false 1 1 (.const v12) (.const v16)) h fun v17 h => wI Tryz.prog nG (.mv (.const v17)) h fun v2 h => wI Tryz.prog nG (.mv (.const (.int .i64 0))) h fun v3 h => Q .normal [(2, v2), (3, v3)] h) () := lkm (wR (Rn rfl fun v12 h => Rn rfl fun v13 h => Rn rfl fun v14 h => Rn rfl fun v15 h => Rn rfl fun v16 h => Rn rfl fun v17 h => Rn rfl fun v2 h => Rn rfl fun v3 h => rfl))
def ir.field_Out_Bytes : C := (.seq ir.field_Out_Bytes.r0 (.seq (.block 0 (.seq ir.field_Out_Bytes.r1 (.cond (.tmp 4) (.seq ir.field_Out_Bytes.r2 .ret) (.seq ir.field_Out_Bytes.r3 (.cond (.tmp 7) (.seq ir.field_Out_Bytes.r4 .ret) .skip))))) (.seq ir.field_Out_Bytes.r5 .ret)))
theorem ir.field_Out_Bytes.bw (e : Env) (h : AHeap) (Q : Post) : wpC Tryz.prog nG ir.field_Out_Bytes e h Q = wpC Tryz.prog nG (.seq ir.field_Out_Bytes.r0 (.seq (.block 0 (.seq ir.field_Out_Bytes.r1 (.cond (.tmp 4) (.seq ir.field_Out_Bytes.r2 .ret) (.seq ir.field_Out_Bytes.r3 (.cond (.tmp 7) (.seq ir.field_Out_Bytes.r4 .ret) .skip))))) (.seq ir.field_Out_Bytes.r5 .ret))) e h Q := (rfl)
def ir.field_Out_Bytes.rs : List RV := [.tmp 2, .tmp 3]
theorem ir.field_Out_Bytes.ok : resC Tryz.prog nG 18 ir.field_Out_Bytes.ks (Tryz.f55.body.getD .skip) = some ir.field_Out_Bytes := by kernel_rfl
theorem ir.field_Out_Bytes.rok : Tryz.f55.results.toList.mapM (resR Tryz.prog) = some ir.field_Out_Bytes.rs := by kernel_rfl
theorem ir.field_Out_Bytes.spec {args : List Value} {h : AHeap} {v : Value} {h' : AHeap} (hn : args.length ≤ 18) :
    (wpC Tryz.prog nG ir.field_Out_Bytes (args.zipIdx.map fun p => (p.2, p.1)) h (retQ ir.field_Out_Bytes.rs h v h')) → Spec Tryz.prog nG fn.field_Out_Bytes args h v h' :=
  Spec.intro (fn := Tryz.f55) Tryz.func55 (c := Tryz.f55.body.getD .skip) (by kernel_rfl) ir.field_Out_Bytes.ok ir.field_Out_Bytes.rok hn
attribute [go_sem ↓] ir.field_Out_Bytes.r0.w ir.field_Out_Bytes.r1.w ir.field_Out_Bytes.r2.w ir.field_Out_Bytes.r3.w ir.field_Out_Bytes.r4.w ir.field_Out_Bytes.r5.w
attribute [go_sem] ir.field_Out_Bytes.rs

/-! ### (*fingerpost/field.In).num: function 60 -/
def ir.field_In_num.ks : Nat → List Nat := fun
  | 0 => [0, 1]
  | 1 => [0, 1, 5]
  | 2 => [5, 10, 11, 12]
  | 3 => [5, 10, 11, 12, 13]
  | 4 => [5, 7, 10, 11, 12]
  | 5 => [5, 10, 11, 12]
  | 6 => [5, 10, 11, 12]
  | 7 => [4]
  | _ => []
def ir.field_In_num.r0 : C := .region [0, 1] [⟨some 4, .mv (.const (.int .u64 0)), none⟩]
theorem ir.field_In_num.r0.w (e : Env) (h : AHeap) (Q : Post) : wpC Tryz.prog nG ir.field_In_num.r0 e h Q = lk (look e 0) (fun v0 => lk (look e 1) (fun v1 => wI Tryz.prog nG (.mv (.const (.int .u64 0))) h fun v4 h => Q .normal [(0, v0), (1, v1)] h) ()) () := lkm (lkm (wR (Rn rfl fun v4 h => rfl)))
def ir.field_In_num.r1 : C := .region [0, 1, 5] [⟨some 5, .mv (.const (.int .u64 0)), none⟩]
theorem ir.field_In_num.r1.w (e : Env) (h : AHeap) (Q : Post) : wpC Tryz.prog nG ir.field_In_num.r1 e h Q = lk (look e 0) (fun v0 => lk (look e 1) (fun v1 => wI Tryz.prog nG (.mv (.const (.int .u64 0))) h fun v5 h => Q .normal [(0, v0), (1, v1), (5, v5)] h) ()) () := lkm (lkm (wR (Rn rfl fun v5 h => rfl)))
def ir.field_In_num.r2 : C := .region [5, 10, 11, 12] [⟨some 8, .mv (.tmp 0), none⟩, ⟨some 9, .mv (.tmp 1), none⟩, ⟨some 10, .call fn.field_In_next [.tmp 8, .tmp 9], none⟩, ⟨some 11, .len false (.tmp 10), none⟩, ⟨some 12, .mv (.const (.int .i64 0)), none⟩]
theorem ir.field_In_num.r2.w (e : Env) (h : AHeap) (Q : Post) : wpC Tryz.prog nG ir.field_In_num.r2 e h Q = lk (look e 0) (fun v0 => lk (look e 1) (fun v1 => lk (look e 5) (fun v5 => wI Tryz.prog nG (.mv (.const v0)) h fun v8 h => wI Tryz.prog nG (.mv (.const v1)) h fun v9 h => wI Tryz.prog nG (.call fn.field_In_next [.const v8, .const v9]) h fun v10 h => wI Tryz.prog nG (.len false (.const v10)) h fun v11 h => wI Tryz.prog nG (.mv (.const (.int .i64 0))) h fun v12 h => Q .normal [(5, v5), (10, v10), (11, v11), (12, v12)] h) ()) ()) () := lkm (lkm (lkm (wR (Rn rfl fun v8 h => Rn rfl fun v9 h => Rn rfl fun v10 h => Rn rfl fun v11 h => Rn rfl fun v12 h => rfl))))
def ir.field_In_num.r3 : C := .region [5, 10, 11, 12, 13] [⟨some 13, .bin .lss (.tmp 12) (.tmp 11), none⟩]
theorem ir.field_In_num.r3.w (e : Env) (h : AHeap) (Q : Post) : wpC Tryz.prog nG ir.field_In_num.r3 e h Q = lk (look e 5) (fun v5 => lk (look e 10) (fun v10 => lk (look e 11) (fun v11 => lk (look e 12) (fun v12 => wI Tryz.prog nG (.bin .lss (.const v12) (.const v11)) h fun v13 h => Q .normal [(5, v5), (10, v10), (11, v11), (12, v12), (13, v13)] h) ()) ()) ()) () := lkm (lkm (lkm (lkm (wR (Rn rfl fun v13 h => rfl)))))
def ir.field_In_num.r4 : C := .region [5, 7, 10, 11, 12] [⟨some 14, .ixs 1 (.tmp 10) (.tmp 12), none⟩, ⟨some 15, .load false 1 (.tmp 14), none⟩, ⟨some 7, .mv (.tmp 15), none⟩]
theorem ir.field_In_num.r4.w (e : Env) (h : AHeap) (Q : Post) : wpC Tryz.prog nG ir.field_In_num.r4 e h Q = lk (look e 5) (fun v5 => lk (look e 10) (fun v10 => lk (look e 11) (fun v11 => lk (look e 12) (fun v12 => wI Tryz.prog nG (.ixs 1 (.const v10) (.const v12)) h fun v14 h => wI Tryz.prog nG (.load false 1 (.const v14)) h fun v15 h => wI Tryz.prog nG (.mv (.const v15)) h fun v7 h => Q .normal [(5, v5), (7, v7), (10, v10), (11, v11), (12, v12)] h) ()) ()) ()) () := lkm (lkm (lkm (lkm (wR (Rn rfl fun v14 h => Rn rfl fun v15 h => Rn rfl fun v7 h => rfl)))))
def ir.field_In_num.r5 : C := .region [5, 10, 11, 12] [⟨some 16, .mv (.tmp 5), none⟩, ⟨some 17, .bin .shl (.tmp 16) (.const (.int .u64 8)), none⟩, ⟨some 18, .mv (.tmp 7), none⟩, ⟨some 19, .conv .u64 (.tmp 18), none⟩, ⟨some 20, .bin .or (.tmp 17) (.tmp 19), none⟩, ⟨some 5, .mv (.tmp 20), none⟩]
theorem ir.field_In_num.r5.w (e : Env) (h : AHeap) (Q : Post) : wpC Tryz.prog nG ir.field_In_num.r5 e h Q = lk (look e 5) (fun v5 => lk (look e 7) (fun v7 => lk (look e 10) (fun v10 => lk (look e 11) (fun v11 => lk (look e 12) (fun v12 => wI Tryz.prog nG (.mv (.const v5)) h fun v16 h => wI Tryz.prog nG (.bin .shl (.const v16) (.const (.int .u64 8))) h fun v17 h => wI Tryz.prog nG (.mv (.const v7)) h fun v18 h => wI Tryz.prog nG (.conv .u64 (.const v18)) h fun v19 h => wI Tryz.prog nG (.bin .or (.const v17) (.const v19)) h fun v20 h => wI Tryz.prog nG (.mv (.const v20)) h fun v5 h => Q .normal [(5, v5), (10, v10), (11, v11), (12, v12)] h) ()) ()) ()) ()) () := lkm (lkm (lkm (lkm (lkm (wR (Rn rfl fun v16 h => Rn rfl fun v17 h => Rn rfl fun v18 h => Rn rfl fun v19 h => Rn rfl fun v20 h => Rn rfl fun v5 h => rfl))))))
def ir.field_In_num.r6 : C := .region [5, 10, 11, 12] [⟨some 21, .bin .add (.tmp 12) (.const (.int .i64 1)), none⟩, ⟨some 12, .mv (.tmp 21), none⟩]
theorem ir.field_In_num.r6.w (e : Env) (h : AHeap) (Q : Post) : wpC Tryz.prog nG ir.field_In_num.r6 e h Q = lk (look e 5) (fun v5 => lk (look e 10) (fun v10 => lk (look e 11) (fun v11 => lk (look e 12) (fun v12 => wI Tryz.prog nG (.bin .add (.const v12) (.const (.int .i64 1))) h fun v21 h => wI Tryz.prog nG (.mv (.const v21)) h fun v12 h => Q .normal [(5, v5), (10, v10), (11, v11), (12, v12)] h) ()) ()) ()) () := lkm (lkm (lkm (lkm (wR (Rn rfl fun v21 h => Rn rfl fun v12 h => rfl)))))
def ir.field_In_num.l1.b : C := (.seq ir.field_In_num.r3 (.seq (.cond (.tmp 13) .skip (.exit 0)) (.seq (.block 1 (.seq ir.field_In_num.r4 ir.field_In_num.r5)) ir.field_In_num.r6)))
theorem ir.field_In_num.l1.bw (e : Env) (h : AHeap) (Q : Post) : wpC Tryz.prog nG ir.field_In_num.l1.b e h Q = wpC Tryz.prog nG (.seq ir.field_In_num.r3 (.seq (.cond (.tmp 13) .skip (.exit 0)) (.seq (.block 1 (.seq ir.field_In_num.r4 ir.field_In_num.r5)) ir.field_In_num.r6))) e h Q := (rfl)
def ir.field_In_num.l1 : C := .loop ir.field_In_num.l1.b
theorem ir.field_In_num.l1.w (e : Env) (h : AHeap) (Q : Post) : wpC Tryz.prog nG ir.field_In_num.l1 e h Q = loopV Tryz.prog nG ir.field_In_num.l1.b e h Q () := (rfl)
def ir.field_In_num.r7 : C := .region [4] [⟨some 22, .mv (.tmp 5), none⟩, ⟨some 4, .mv (.tmp 22), none⟩]
theorem ir.field_In_num.r7.w (e : Env) (h : AHeap) (Q : Post) : wpC Tryz.prog nG ir.field_In_num.r7 e h Q = lk (look e 5) (fun v5 => wI Tryz.prog nG (.mv (.const v5)) h fun v22 h => wI Tryz.prog nG (.mv (.const v22)) h fun v4 h => Q .normal [(4, v4)] h) () := lkm (wR (Rn rfl fun v22 h => Rn rfl fun v4 h => rfl))
def ir.field_In_num : C := (.seq ir.field_In_num.r0 (.seq ir.field_In_num.r1 (.seq (.seq ir.field_In_num.r2 (.block 0 ir.field_In_num.l1)) (.seq ir.field_In_num.r7 .ret))))
theorem ir.field_In_num.bw (e : Env) (h : AHeap) (Q : Post) : wpC Tryz.prog nG ir.field_In_num e h Q = wpC Tryz.prog nG (.seq ir.field_In_num.r0 (.seq ir.field_In_num.r1 (.seq (.seq ir.field_In_num.r2 (.block 0 ir.field_In_num.l1)) (.seq ir.field_In_num.r7 .ret)))) e h Q := (rfl)
def ir.field_In_num.rs : List RV := [.tmp 4]
theorem ir.field_In_num.ok : resC Tryz.prog nG 23 ir.field_In_num.ks (Tryz.f60.body.getD .skip) = some ir.field_In_num := by kernel_rfl
theorem ir.field_In_num.rok : Tryz.f60.results.toList.mapM (resR Tryz.prog) = some ir.field_In_num.rs := by kernel_rfl
theorem ir.field_In_num.spec {args : List Value} {h : AHeap} {v : Value} {h' : AHeap} (hn : args.length ≤ 23) :
    (wpC Tryz.prog nG ir.field_In_num (args.zipIdx.map fun p => (p.2, p.1)) h (retQ ir.field_In_num.rs h v h')) → Spec Tryz.prog nG fn.field_In_num args h v h' :=
  Spec.intro (fn := Tryz.f60) Tryz.func60 (c := Tryz.f60.body.getD .skip) (by kernel_rfl) ir.field_In_num.ok ir.field_In_num.rok hn
attribute [go_sem ↓] ir.field_In_num.r0.w ir.field_In_num.r1.w ir.field_In_num.r2.w ir.field_In_num.r3.w ir.field_In_num.r4.w ir.field_In_num.r5.w ir.field_In_num.r6.w ir.field_In_num.l1.w ir.field_In_num.r7.w
attribute [go_sem] ir.field_In_num.rs

/-! ### (*fingerpost/field.In).Left: function 61 -/
def ir.field_In_Left.ks : Nat → List Nat := fun
  | 0 => [0]
  | 1 => [0, 4]
  | 2 => [2]
  | 3 => [2]
  | _ => []
def ir.field_In_Left.r0 : C := .region [0] [⟨some 2, .mv (.const (.int .i64 0)), none⟩]
theorem ir.field_In_Left.r0.w (e : Env) (h : AHeap) (Q : Post) : wpC Tryz.prog nG ir.field_In_Left.r0 e h Q = lk (look e 0) (fun v0 => wI Tryz.prog nG (.mv (.const (.int .i64 0))) h fun v2 h => Q .normal [(0, v0)] h) () := lkm (wR (Rn rfl fun v2 h => rfl))
def ir.field_In_Left.r1 : C := .region [0, 4] [⟨some 3, .mv (.tmp 0), none⟩, ⟨some 4, .eqn 0 false (.tmp 3), none⟩]
theorem ir.field_In_Left.r1.w (e : Env) (h : AHeap) (Q : Post) : wpC Tryz.prog nG ir.field_In_Left.r1 e h Q = lk (look e 0) (fun v0 => wI Tryz.prog nG (.mv (.const v0)) h fun v3 h => wI Tryz.prog nG (.eqn 0 false (.const v3)) h fun v4 h => Q .normal [(0, v0), (4, v4)] h) () := lkm (wR (Rn rfl fun v3 h => Rn rfl fun v4 h => rfl))
def ir.field_In_Left.r2 : C := .region [2] [⟨some 2, .mv (.const (.int .i64 0)), none⟩]
theorem ir.field_In_Left.r2.w (e : Env) (h : AHeap) (Q : Post) : wpC Tryz.prog nG ir.field_In_Left.r2 e h Q = wI Tryz.prog nG (.mv (.const (.int .i64 0))) h fun v2 h => Q .normal [(2, v2)] h := wR (Rn rfl fun v2 h => rfl)
def ir.field_In_Left.r3 : C := .region [2] [⟨some 5, .mv (.tmp 0), none⟩, ⟨some 6, .nilck (.tmp 5), none⟩, ⟨some 7, .fld 0 (.tmp 6), none⟩, ⟨some 8, .load false 1 (.tmp 7), none⟩, ⟨some 9, .len false (.tmp 8), none⟩, ⟨some 2, .mv (.tmp 9), none⟩]
theorem ir.field_In_Left.r3.w (e : Env) (h : AHeap) (Q : Post) : wpC Tryz.prog nG ir.field_In_Left.r3 e h Q = lk (look e 0) (fun v0 => wI Tryz.prog nG (.mv (.const v0)) h fun v5 h => wI Tryz.prog nG (.nilck (.const v5)) h fun v6 h => wI Tryz.prog nG (.fld 0 (.const v6)) h fun v7 h => wI Tryz.prog nG (.load false 1 (.const v7)) h fun v8 h => wI Tryz.prog nG (.len false (.const v8)) h fun v9 h => wI Tryz.prog nG (.mv (.const v9)) h fun v2 h => Q .normal [(2, v2)] h) () := lkm (wR (Rn rfl fun v5 h => Rn rfl fun v6 h => Rn rfl fun v7 h => Rn rfl fun v8 h => Rn rfl fun v9 h => Rn rfl fun v2 h => rfl))
def ir.field_In_Left : C := (.seq ir.field_In_Left.r0 (.seq (.seq ir.field_In_Left.r1 (.cond (.tmp 4) (.seq ir.field_In_Left.r2 .ret) .skip)) (.seq ir.field_In_Left.r3 .ret)))
theorem ir.field_In_Left.bw (e : Env) (h : AHeap) (Q : Post) : wpC Tryz.prog nG ir.field_In_Left e h Q = wpC Tryz.prog nG (.seq ir.field_In_Left.r0 (.seq (.seq ir.field_In_Left.r1 (.cond (.tmp 4) (.seq ir.field_In_Left.r2 .ret) .skip)) (.seq ir.field_In_Left.r3 .ret))) e h Q := (rfl)
def ir.field_In_Left.rs : List RV := [.tmp 2]
theorem ir.field_In_Left.ok : resC Tryz.prog nG 10 ir.field_In_Left.ks (Tryz.f61.body.getD .skip) = some ir.field_In_Left := by kernel_rfl
theorem ir.field_In_Left.rok : Tryz.f61.results.toList.mapM (resR Tryz.prog) = some ir.field_In_Left.rs := by kernel_rfl
theorem ir.field_In_Left.spec {args : List Value} {h : AHeap} {v : Value} {h' : AHeap} (hn : args.length ≤ 10) :
    (wpC Tryz.prog nG ir.field_In_Left (args.zipIdx.map fun p => (p.2, p.1)) h (retQ ir.field_In_Left.rs h v h')) → Spec Tryz.prog nG fn.field_In_Left args h v h' :=
  Spec.intro (fn := Tryz.f61) Tryz.func61 (c := Tryz.f61.body.getD .skip) (by kernel_rfl) ir.field_In_Left.ok ir.field_In_Left.rok hn
attribute [go_sem ↓] ir.field_In_Left.r0.w ir.field_In_Left.r1.w ir.field_In_Left.r2.w ir.field_In_Left.r3.w
attribute [go_sem] ir.field_In_Left.rs

/-! ### (*fingerpost/field.In).Fail: function 62 -/
def ir.field_In_Fail.ks : Nat → List Nat := fun
  | 0 => [0, 1, 16]
  | 1 => []
  | _ => []
def ir.field_In_Fail.r0 : C := .region [0, 1, 16] [⟨some 4, .mv (.tmp 0), none⟩, ⟨some 5, .eqn 0 true (.tmp 4), none⟩, ⟨some 6, .mv (.tmp 5), none⟩, ⟨some 7, .mv (.tmp 0), some (6, true)⟩, ⟨some 8, .nilck (.tmp 7), some (6, true)⟩, ⟨some 9, .fld 1 (.tmp 8), some (6, true)⟩, ⟨some 10, .load false 1 (.tmp 9), some (6, true)⟩, ⟨some 11, .bin .eql (.tmp 10) (.const (.int .i64 0)), some (6, true)⟩, ⟨some 12, .pick (.tmp 6) (.tmp 11) (.const (.bool false)), none⟩, ⟨some 13, .mv (.tmp 12), none⟩, ⟨some 14, .mv (.tmp 1), some (13, true)⟩, ⟨some 15, .bin .neq (.tmp 14) (.const (.int .i64 0)), some (13, true)⟩, ⟨some 16, .pick (.tmp 13) (.tmp 15) (.const (.bool false)), none⟩]
theorem ir.field_In_Fail.r0.w (e : Env) (h : AHeap) (Q : Post) : wpC Tryz.prog nG ir.field_In_Fail.r0 e h Q = lk (look e 0) (fun v0 => lk (look e 1) (fun v1 => wI Tryz.prog nG (.mv (.const v0)) h fun v4 h => wI Tryz.prog nG (.eqn 0 true (.const v4)) h fun v5 h => wI Tryz.prog nG (.mv (.const v5)) h fun v6 h => gdK v6 true (wI Tryz.prog nG (.mv (.const v0)) h) (fun v6 v7 h => gdK v6 true (wI Tryz.prog nG (.nilck (.const v7)) h) (fun v6 v8 h => gdK v6 true (wI Tryz.prog nG (.fld 1 (.const v8)) h) (fun v6 v9 h => gdK v6 true (wI Tryz.prog nG (.load false 1 (.const v9)) h) (fun v6 v10 h => gdK v6 true (wI Tryz.prog nG (.bin .eql (.const v10) (.const (.int .i64 0))) h) (fun v6 v11 h => wI Tryz.prog nG (.pick (.const v6) (.const v11) (.const (.bool false))) h fun v12 h => wI Tryz.prog nG (.mv (.const v12)) h fun v13 h => gdK v13 true (wI Tryz.prog nG (.mv (.const v1)) h) (fun v13 v14 h => gdK v13 true (wI Tryz.prog nG (.bin .neq (.const v14) (.const (.int .i64 0))) h) (fun v13 v15 h => wI Tryz.prog nG (.pick (.const v13) (.const v15) (.const (.bool false))) h fun v16 h => Q .normal [(0, v0), (1, v1), (16, v16)] h) h () ()) h () ()) h () ()) h () ()) h () ()) h () ()) h () ()) ()) () := lkm (lkm (wR (Rn rfl fun v4 h => Rn rfl fun v5 h => Rn rfl fun v6 h => Rg rfl rfl fun v6 v7 h => Rg rfl rfl fun v6 v8 h => Rg rfl rfl fun v6 v9 h => Rg rfl rfl fun v6 v10 h => Rg rfl rfl fun v6 v11 h => Rn rfl fun v12 h => Rn rfl fun v13 h => Rg rfl rfl fun v13 v14 h => Rg rfl rfl fun v13 v15 h => Rn rfl fun v16 h => rfl)))
def ir.field_In_Fail.r1 : C := .region [] [⟨some 17, .mv (.tmp 0), none⟩, ⟨some 18, .mv (.tmp 0), none⟩, ⟨some 19, .mv (.tmp 1), none⟩, ⟨some 20, .nilck (.tmp 17), none⟩, ⟨some 21, .fld 1 (.tmp 20), none⟩, ⟨none, .store 1 (.tmp 21) (.tmp 19), none⟩, ⟨some 22, .nilck (.tmp 18), none⟩, ⟨some 23, .fld 0 (.tmp 22), none⟩, ⟨none, .store 1 (.tmp 23) (.const (.slice none 0 0)), none⟩]
theorem ir.field_In_Fail.r1.w (e : Env) (h : AHeap) (Q : Post) : wpC Tryz.prog nG ir.field_In_Fail.r1 e h Q = lk (look e 0) (fun v0 => lk (look e 1) (fun v1 => wI Tryz.prog nG (.mv (.const v0)) h fun v17 h => wI Tryz.prog nG (.mv (.const v0)) h fun v18 h => wI Tryz.prog nG (.mv (.const v1)) h fun v19 h => wI Tryz.prog nG (.nilck (.const v17)) h fun v20 h => wI Tryz.prog nG (.fld 1 (.const v20)) h fun v21 h => wI Tryz.prog nG (.store 1 (.const v21) (.const v19)) h fun _ h => wI Tryz.prog nG (.nilck (.const v18)) h fun v22 h => wI Tryz.prog nG (.fld 0 (.const v22)) h fun v23 h => wI Tryz.prog nG (.store 1 (.const v23) (.const (.slice none 0 0))) h fun _ h => Q .normal [] h) ()) () := lkm (lkm (wR (Rn rfl fun v17 h => Rn rfl fun v18 h => Rn rfl fun v19 h => Rn rfl fun v20 h => Rn rfl fun v21 h => Rz rfl fun v_ h => Rn rfl fun v22 h => Rn rfl fun v23 h => Rz rfl fun v_ h => rfl)))
def ir.field_In_Fail : C := (.seq ir.field_In_Fail.r0 (.cond (.tmp 16) ir.field_In_Fail.r1 .skip))
theorem ir.field_In_Fail.bw (e : Env) (h : AHeap) (Q : Post) : wpC Tryz.prog nG ir.field_In_Fail e h Q = wpC Tryz.prog nG (.seq ir.field_In_Fail.r0 (.cond (.tmp 16) ir.field_In_Fail.r1 .skip)) e h Q := (rfl)
def ir.field_In_Fail.rs : List RV := []
theorem ir.field_In_Fail.ok : resC Tryz.prog nG 24 ir.field_In_Fail.ks (Tryz.f62.body.getD .skip) = some ir.field_In_Fail := by kernel_rfl
theorem ir.field_In_Fail.rok : Tryz.f62.results.toList.mapM (resR Tryz.prog) = some ir.field_In_Fail.rs := by kernel_rfl
theorem ir.field_In_Fail.spec {args : List Value} {h : AHeap} {v : Value} {h' : AHeap} (hn : args.length ≤ 24) :
    (wpC Tryz.prog nG ir.field_In_Fail (args.zipIdx.map fun p => (p.2, p.1)) h (retQ ir.field_In_Fail.rs h v h')) → Spec Tryz.prog nG fn.field_In_Fail args h v h' :=
  Spec.intro (fn := Tryz.f62) Tryz.func62 (c := Tryz.f62.body.getD .skip) (by kernel_rfl) ir.field_In_Fail.ok ir.field_In_Fail.rok hn
attribute [go_sem ↓] ir.field_In_Fail.r0.w ir.field_In_Fail.r1.w
attribute [go_sem] ir.field_In_Fail.rs

/-! ### (*fingerpost/field.In).Err: function 63 -/
def ir.field_In_Err.ks : Nat → List Nat := fun
  | 0 => [0]
  | 1 => [0, 4]
  | 2 => [2]
  | 3 => [2]
  | _ => []
def ir.field_In_Err.r0 : C := .region [0] [⟨some 2, .mv (.const (.int .i64 0)), none⟩]
theorem ir.field_In_Err.r0.w (e : Env) (h : AHeap) (Q : Post) : wpC Tryz.prog nG ir.field_In_Err.r0 e h Q = lk (look e 0) (fun v0 => wI Tryz.prog nG (.mv (.const (.int .i64 0))) h fun v2 h => Q .normal [(0, v0)] h) () := lkm (wR (Rn rfl fun v2 h => rfl))
def ir.field_In_Err.r1 : C := .region [0, 4] [⟨some 3, .mv (.tmp 0), none⟩, ⟨some 4, .eqn 0 false (.tmp 3), none⟩]
theorem ir.field_In_Err.r1.w (e : Env) (h : AHeap) (Q : Post) : wpC Tryz.prog nG ir.field_In_Err.r1 e h Q = lk (look e 0) (fun v0 => wI Tryz.prog nG (.mv (.const v0)) h fun v3 h => wI Tryz.prog nG (.eqn 0 false (.const v3)) h fun v4 h => Q .normal [(0, v0), (4, v4)] h) () := lkm (wR (Rn rfl fun v3 h => Rn rfl fun v4 h => rfl))
def ir.field_In_Err.r2 : C := .region [2] [⟨some 2, .mv (.const (.int .i64 2)), none⟩]
theorem ir.field_In_Err.r2.w (e : Env) (h : AHeap) (Q : Post) : wpC Tryz.prog nG ir.field_In_Err.r2 e h Q = wI Tryz.prog nG (.mv (.const (.int .i64 2))) h fun v2 h => Q .normal [(2, v2)] h := wR (Rn rfl fun v2 h => rfl)
def ir.field_In_Err.r3 : C := .region [2] [⟨some 5, .mv (.tmp 0), none⟩, ⟨some 6, .nilck (.tmp 5), none⟩, ⟨some 7, .fld 1 (.tmp 6), none⟩, ⟨some 8, .load false 1 (.tmp 7), none⟩, ⟨some 2, .mv (.tmp 8), none⟩]
theorem ir.field_In_Err.r3.w (e : Env) (h : AHeap) (Q : Post) : wpC Tryz.prog nG ir.field_In_Err.r3 e h Q = lk (look e 0) (fun v0 => wI Tryz.prog nG (.mv (.const v0)) h fun v5 h => wI Tryz.prog nG (.nilck (.const v5)) h fun v6 h => wI Tryz.prog nG (.fld 1 (.const v6)) h fun v7 h => wI Tryz.prog nG (.load false 1 (.const v7)) h fun v8 h => wI Tryz.prog nG (.mv (.const v8)) h fun v2 h => Q .normal [(2, v2)] h) () := lkm (wR (Rn rfl fun v5 h => Rn rfl fun v6 h => Rn rfl fun v7 h => Rn rfl fun v8 h => Rn rfl fun v2 h => rfl))
def ir.field_In_Err : C := (.seq ir.field_In_Err.r0 (.seq (.seq ir.field_In_Err.r1 (.cond (.tmp 4) (.seq ir.field_In_Err.r2 .ret) .skip)) (.seq ir.field_In_Err.r3 .ret)))
theorem ir.field_In_Err.bw (e : Env) (h : AHeap) (Q : Post) : wpC Tryz.prog nG ir.field_In_Err e h Q = wpC Tryz.prog nG (.seq ir.field_In_Err.r0 (.seq (.seq ir.field_In_Err.r1 (.cond (.tmp 4) (.seq ir.field_In_Err.r2 .ret) .skip)) (.seq ir.field_In_Err.r3 .ret))) e h Q := (rfl)
def ir.field_In_Err.rs : List RV := [.tmp 2]
theorem ir.field_In_Err.ok : resC Tryz.prog nG 9 ir.field_In_Err.ks (Tryz.f63.body.getD .skip) = some ir.field_In_Err := by kernel_rfl
theorem ir.field_In_Err.rok : Tryz.f63.results.toList.mapM (resR Tryz.prog) = some ir.field_In_Err.rs := by kernel_rfl
theorem ir.field_In_Err.spec {args : List Value} {h : AHeap} {v : Value} {h' : AHeap} (hn : args.length ≤ 9) :
    (wpC Tryz.prog nG ir.field_In_Err (args.zipIdx.map fun p => (p.2, p.1)) h (retQ ir.field_In_Err.rs h v h')) → Spec Tryz.prog nG fn.field_In_Err args h v h' :=
  Spec.intro (fn := Tryz.f63) Tryz.func63 (c := Tryz.f63.body.getD .skip) (by kernel_rfl) ir.field_In_Err.ok ir.field_In_Err.rok hn
attribute [go_sem ↓] ir.field_In_Err.r0.w ir.field_In_Err.r1.w ir.field_In_Err.r2.w ir.field_In_Err.r3.w
attribute [go_sem] ir.field_In_Err.rs

/-! ### (*fingerpost/field.Out).put: function 72 -/
def ir.field_Out_put.ks : Nat → List Nat := fun
  | 0 => [0, 1, 2, 7]
  | 1 => [0, 1, 2, 16]
  | 2 => []
  | 3 => [0, 1, 2]
  | 4 => [0, 1, 2, 23]
  | 5 => [0, 1, 2]
  | 6 => [0, 1, 2]
  | _ => []
def ir.field_Out_put.r0 : C := .region [0, 1, 2, 7] [⟨some 6, .mv (.tmp 0), none⟩, ⟨some 7, .eqn 0 false (.tmp 6), none⟩]
theorem ir.field_Out_put.r0.w (e : Env) (h : AHeap) (Q : Post) : wpC Tryz.prog nG ir.field_Out_put.r0 e h Q = lk (look e 0) (fun v0 => lk (look e 1) (fun v1 => lk (look e 2) (fun v2 => wI Tryz.prog nG (.mv (.const v0)) h fun v6 h => wI Tryz.prog nG (.eqn 0 false (.const v6)) h fun v7 h => Q .normal [(0, v0), (1, v1), (2, v2), (7, v7)] h) ()) ()) () := lkm (lkm (lkm (wR (Rn rfl fun v6 h => Rn rfl fun v7 h => rfl))))
def ir.field_Out_put.r1 : C := .region [0, 1, 2, 16] [⟨some 8, .mv (.tmp 2), none⟩, ⟨some 9, .bin .lss (.tmp 8) (.const (.int .i64 8)), none⟩, ⟨some 10, .mv (.tmp 9), none⟩, ⟨some 11, .mv (.tmp 1), some (10, true)⟩, ⟨some 12, .mv (.tmp 2), some (10, true)⟩, ⟨some 13, .bin .mul (.const (.int .i64 8)) (.tmp 12), some (10, true)⟩, ⟨some 14, .bin .shr (.tmp 11) (.tmp 13), some (10, true)⟩, ⟨some 15, .bin .neq (.tmp 14) (.const (.int .u64 0)), some (10, true)⟩, ⟨some 16, .pick (.tmp 10) (.tmp 15) (.const (.bool false)), none⟩]
theorem ir.field_Out_put.r1.w (e : Env) (h : AHeap) (Q : Post) : wpC Tryz.prog nG ir.field_Out_put.r1 e h Q = lk (look e 0) (fun v0 => lk (look e 1) (fun v1 => lk (look e 2) (fun v2 => wI Tryz.prog nG (.mv (.const v2)) h fun v8 h => wI Tryz.prog nG (.bin .lss (.const v8) (.const (.int .i64 8))) h fun v9 h => wI Tryz.prog nG (.mv (.const v9)) h fun v10 h => gdK v10 true (wI Tryz.prog nG (.mv (.const v1)) h) (fun v10 v11 h => gdK v10 true (wI Tryz.prog nG (.mv (.const v2)) h) (fun v10 v12 h => gdK v10 true (wI Tryz.prog nG (.bin .mul (.const (.int .i64 8)) (.const v12)) h) (fun v10 v13 h => gdK v10 true (wI Tryz.prog nG (.bin .shr (.const v11) (.const v13)) h) (fun v10 v14 h => gdK v10 true (wI Tryz.prog nG (.bin .neq (.const v14) (.const (.int .u64 0))) h) (fun v10 v15 h => wI Tryz.prog nG (.pick (.const v10) (.const v15) (.const (.bool false))) h fun v16 h => Q .normal [(0, v0), (1, v1), (2, v2), (16, v16)] h) h () ()) h () ()) h () ()) h () ()) h () ()) ()) ()) () := lkm (lkm (lkm (wR (Rn rfl fun v8 h => Rn rfl fun v9 h => Rn rfl fun v10 h => Rg rfl rfl fun v10 v11 h => Rg rfl rfl fun v10 v12 h => Rg rfl rfl fun v10 v13 h => Rg rfl rfl fun v10 v14 h => Rg rfl rfl fun v10 v15 h => Rn rfl fun v16 h => rfl))))
def ir.field_Out_put.r2 : C := .region [] [⟨some 17, .mv (.tmp 0), none⟩, ⟨some 18, .nilck (.tmp 17), none⟩, ⟨some 19, .fld 1 (.tmp 18), none⟩, ⟨none, .store 1 (.tmp 19) (.const (.bool true)), none⟩]
theorem ir.field_Out_put.r2.w (e : Env) (h : AHeap) (Q : Post) : wpC Tryz.prog nG ir.field_Out_put.r2 e h Q = lk (look e 0) (fun v0 => wI Tryz.prog nG (.mv (.const v0)) h fun v17 h => wI Tryz.prog nG (.nilck (.const v17)) h fun v18 h => wI Tryz.prog nG (.fld 1 (.const v18)) h fun v19 h => wI Tryz.prog nG (.store 1 (.const v19) (.const (.bool true))) h fun _ h => Q .normal [] h) () := lkm (wR (Rn rfl fun v17 h => Rn rfl fun v18 h => Rn rfl fun v19 h => Rz rfl fun v_ h => rfl))
def ir.field_Out_put.r3 : C := .region [0, 1, 2] [⟨some 20, .mv (.tmp 2), none⟩, ⟨some 21, .bin .sub (.tmp 20) (.const (.int .i64 1)), none⟩, ⟨some 2, .mv (.tmp 21), none⟩]
theorem ir.field_Out_put.r3.w (e : Env) (h : AHeap) (Q : Post) : wpC Tryz.prog nG ir.field_Out_put.r3 e h Q = lk (look e 0) (fun v0 => lk (look e 1) (fun v1 => lk (look e 2) (fun v2 => wI Tryz.prog nG (.mv (.const v2)) h fun v20 h => wI Tryz.prog nG (.bin .sub (.const v20) (.const (.int .i64 1))) h fun v21 h => wI Tryz.prog nG (.mv (.const v21)) h fun v2 h => Q .normal [(0, v0), (1, v1), (2, v2)] h) ()) ()) () := lkm (lkm (lkm (wR (Rn rfl fun v20 h => Rn rfl fun v21 h => Rn rfl fun v2 h => rfl))))
def ir.field_Out_put.r4 : C := .region [0, 1, 2, 23] [⟨some 22, .mv (.tmp 2), none⟩, ⟨some 23, .bin .geq (.tmp 22) (.const (.int .i64 0)), none⟩]
theorem ir.field_Out_put.r4.w (e : Env) (h : AHeap) (Q : Post) : wpC Tryz.prog nG ir.field_Out_put.r4 e h Q = lk (look e 0) (fun v0 => lk (look e 1) (fun v1 => lk (look e 2) (fun v2 => wI Tryz.prog nG (.mv (.const v2)) h fun v22 h => wI Tryz.prog nG (.bin .geq (.const v22) (.const (.int .i64 0))) h fun v23 h => Q .normal [(0, v0), (1, v1), (2, v2), (23, v23)] h) ()) ()) () := lkm (lkm (lkm (wR (Rn rfl fun v22 h => Rn rfl fun v23 h => rfl))))
def ir.field_Out_put.r6 : C := .draw [0, 1, 2] [⟨some 26, .mv (.tmp 0), none⟩, ⟨some 27, .mv (.tmp 0), none⟩, ⟨some 28, .nilck (.tmp 27), none⟩, ⟨some 29, .fld 0 (.tmp 28), none⟩, ⟨some 30, .load false 1 (.tmp 29), none⟩, ⟨some 31, .mv (.tmp 1), none⟩, ⟨some 32, .mv (.tmp 2), none⟩, ⟨some 33, .bin .mul (.const (.int .i64 8)) (.tmp 32), none⟩, ⟨some 34, .bin .shr (.tmp 31) (.tmp 33), none⟩, ⟨some 35, .conv .u8 (.tmp 34), none⟩, ⟨some 36, .row 1 1 [.int .u8 0] [(0, 1, .tmp 35)], none⟩, ⟨some 37, .app false 1 1 (.tmp 30) (.tmp 36), none⟩, ⟨some 38, .nilck (.tmp 26), none⟩, ⟨some 39, .fld 0 (.tmp 38), none⟩, ⟨none, .store 1 (.tmp 39) (.tmp 37), none⟩]
theorem ir.field_Out_put.r6.w (e : Env) (h : AHeap) (Q : Post) : wpC Tryz.prog nG ir.field_Out_put.r6 e h Q = lk (look e 0) (fun v0 => lk (look e 1) (fun v1 => lk (look e 2) (fun v2 => wI Tryz.prog nG (.mv (.const v0)) h fun v26 h => wI Tryz.prog nG (.mv (.const v0)) h fun v27 h => wI Tryz.prog nG (.nilck (.const v27)) h fun v28 h => wI Tryz.prog nG (.fld 0 (.const v28)) h fun v29 h => wI Tryz.prog nG (.load false 1 (.const v29)) h fun v30 h => wI Tryz.prog nG (.mv (.const v1)) h fun v31 h => wI Tryz.prog nG (.mv (.const v2)) h fun v32 h => wI Tryz.prog nG (.bin .mul (.const (.int .i64 8)) (.const v32)) h fun v33 h => wI Tryz.prog nG (.bin .shr (.const v31) (.const v33)) h fun v34 h => wI Tryz.prog nG (.conv .u8 (.const v34)) h fun v35 h => wI Tryz.prog nG (.row 1 1 [.int .u8 0] [(0, 1, .const v35)]) h fun v36 h => wI Tryz.prog nG (.app false 1 1 (.const v30) (.const v36)) h fun v37 h => wI Tryz.prog nG (.nilck (.const v26)) h fun v38 h => wI Tryz.prog nG (.fld 0 (.const v38)) h fun v39 h => wI Tryz.prog nG (.store 1 (.const v39) (.const v37)) h fun _ h => Q .normal [(0, v0), (1, v1), (2, v2)] h) ()) ()) () := lkm (lkm (lkm (wDr (Dn rfl rfl fun v26 h => Dn rfl rfl fun v27 h => Dn rfl rfl fun v28 h => Dn rfl rfl fun v29 h => Dn rfl rfl fun v30 h => Dn rfl rfl fun v31 h => Dn rfl rfl fun v32 h => Dn rfl rfl fun v33 h => Dn rfl rfl fun v34 h => Dn rfl rfl fun v35 h => Dn rfl rfl fun v36 h => Dn rfl rfl fun v37 h => Dn rfl rfl fun v38 h => Dn rfl rfl fun v39 h => Dz rfl rfl fun v_ h => rfl))))
def ir.field_Out_put.r5 : C := .region [0, 1, 2] [⟨some 24, .mv (.tmp 2), none⟩, ⟨some 25, .bin .sub (.tmp 24) (.const (.int .i64 1)), none⟩, ⟨some 2, .mv (.tmp 25), none⟩]
theorem ir.field_Out_put.r5.w (e : Env) (h : AHeap) (Q : Post) : wpC Tryz.prog nG ir.field_Out_put.r5 e h Q = lk (look e 0) (fun v0 => lk (look e 1) (fun v1 => lk (look e 2) (fun v2 => wI Tryz.prog nG (.mv (.const v2)) h fun v24 h => wI Tryz.prog nG (.bin .sub (.const v24) (.const (.int .i64 1))) h fun v25 h => wI Tryz.prog nG (.mv (.const v25)) h fun v2 h => Q .normal [(0, v0), (1, v1), (2, v2)] h) ()) ()) () := lkm (lkm (lkm (wR (Rn rfl fun v24 h => Rn rfl fun v25 h => Rn rfl fun v2 h => rfl))))
def ir.field_Out_put.l1.b : C := (.seq (.seq ir.field_Out_put.r4 (.cond (.tmp 23) .skip (.exit 0))) (.seq (.block 1 ir.field_Out_put.r6) ir.field_Out_put.r5))
theorem ir.field_Out_put.l1.bw (e : Env) (h : AHeap) (Q : Post) : wpC Tryz.prog nG ir.field_Out_put.l1.b e h Q = wpC Tryz.prog nG (.seq (.seq ir.field_Out_put.r4 (.cond (.tmp 23) .skip (.exit 0))) (.seq (.block 1 ir.field_Out_put.r6) ir.field_Out_put.r5)) e h Q := (rfl)
def ir.field_Out_put.l1 : C := .loop ir.field_Out_put.l1.b
theorem ir.field_Out_put.l1.w (e : Env) (h : AHeap) (Q : Post) : wpC Tryz.prog nG ir.field_Out_put.l1 e h Q = loopV Tryz.prog nG ir.field_Out_put.l1.b e h Q () := (rfl)
def ir.field_Out_put : C := (.seq (.seq ir.field_Out_put.r0 (.cond (.tmp 7) .ret .skip)) (.seq (.seq ir.field_Out_put.r1 (.cond (.tmp 16) (.seq ir.field_Out_put.r2 .ret) .skip)) (.seq ir.field_Out_put.r3 (.block 0 ir.field_Out_put.l1))))
theorem ir.field_Out_put.bw (e : Env) (h : AHeap) (Q : Post) : wpC Tryz.prog nG ir.field_Out_put e h Q = wpC Tryz.prog nG (.seq (.seq ir.field_Out_put.r0 (.cond (.tmp 7) .ret .skip)) (.seq (.seq ir.field_Out_put.r1 (.cond (.tmp 16) (.seq ir.field_Out_put.r2 .ret) .skip)) (.seq ir.field_Out_put.r3 (.block 0 ir.field_Out_put.l1)))) e h Q := (rfl)
def ir.field_Out_put.rs : List RV := []
theorem ir.field_Out_put.ok : resC Tryz.prog nG 40 ir.field_Out_put.ks (Tryz.f72.body.getD .skip) = some ir.field_Out_put := by kernel_rfl
theorem ir.field_Out_put.rok : Tryz.f72.results.toList.mapM (resR Tryz.prog) = some ir.field_Out_put.rs := by kernel_rfl
theorem ir.field_Out_put.spec {args : List Value} {h : AHeap} {v : Value} {h' : AHeap} (hn : args.length ≤ 40) :
    (wpC Tryz.prog nG ir.field_Out_put (args.zipIdx.map fun p => (p.2, p.1)) h (retQ ir.field_Out_put.rs h v h')) → Spec Tryz.prog nG fn.field_Out_put args h v h' :=
  Spec.intro (fn := Tryz.f72) Tryz.func72 (c := Tryz.f72.body.getD .skip) (by kernel_rfl) ir.field_Out_put.ok ir.field_Out_put.rok hn
attribute [go_sem ↓] ir.field_Out_put.r0.w ir.field_Out_put.r1.w ir.field_Out_put.r2.w ir.field_Out_put.r3.w ir.field_Out_put.r4.w ir.field_Out_put.r6.w ir.field_Out_put.r5.w ir.field_Out_put.l1.w
attribute [go_sem] ir.field_Out_put.rs

/-! ### (*fingerpost/field.In).next: function 76 -/
def ir.field_In_next.ks : Nat → List Nat := fun
  | 0 => [0, 1]
  | 1 => [0, 1, 14]
  | 2 => [4]
  | 3 => [0, 1, 21]
  | 4 => []
  | 5 => [4]
  | 6 => [0, 1, 5]
  | 7 => [5]
  | 8 => [4]
  | _ => []
def ir.field_In_next.r0 : C := .region [0, 1] [⟨some 4, .mv (.const (.slice none 0 0)), none⟩]
theorem ir.field_In_next.r0.w (e : Env) (h : AHeap) (Q : Post) : wpC Tryz.prog nG ir.field_In_next.r0 e h Q = lk (look e 0) (fun v0 => lk (look e 1) (fun v1 => wI Tryz.prog nG (.mv (.const (.slice none 0 0))) h fun v4 h => Q .normal [(0, v0), (1, v1)] h) ()) () := lkm (lkm (wR (Rn rfl fun v4 h => rfl)))
def ir.field_In_next.r1 : C := .region [0, 1, 14] [⟨some 6, .mv (.tmp 0), none⟩, ⟨some 7, .eqn 0 false (.tmp 6), none⟩, ⟨some 8, .mv (.tmp 7), none⟩, ⟨some 9, .mv (.tmp 0), some (8, false)⟩, ⟨some 10, .nilck (.tmp 9), some (8, false)⟩, ⟨some 11, .fld 1 (.tmp 10), some (8, false)⟩, ⟨some 12, .load false 1 (.tmp 11), some (8, false)⟩, ⟨some 13, .bin .neq (.tmp 12) (.const (.int .i64 0)), some (8, false)⟩, ⟨some 14, .pick (.tmp 8) (.const (.bool true)) (.tmp 13), none⟩]
theorem ir.field_In_next.r1.w (e : Env) (h : AHeap) (Q : Post) : wpC Tryz.prog nG ir.field_In_next.r1 e h Q = lk (look e 0) (fun v0 => lk (look e 1) (fun v1 => wI Tryz.prog nG (.mv (.const v0)) h fun v6 h => wI Tryz.prog nG (.eqn 0 false (.const v6)) h fun v7 h => wI Tryz.prog nG (.mv (.const v7)) h fun v8 h => gdK v8 false (wI Tryz.prog nG (.mv (.const v0)) h) (fun v8 v9 h => gdK v8 false (wI Tryz.prog nG (.nilck (.const v9)) h) (fun v8 v10 h => gdK v8 false (wI Tryz.prog nG (.fld 1 (.const v10)) h) (fun v8 v11 h => gdK v8 false (wI Tryz.prog nG (.load false 1 (.const v11)) h) (fun v8 v12 h => gdK v8 false (wI Tryz.prog nG (.bin .neq (.const v12) (.const (.int .i64 0))) h) (fun v8 v13 h => wI Tryz.prog nG (.pick (.const v8) (.const (.bool true)) (.const v13)) h fun v14 h => Q .normal [(0, v0), (1, v1), (14, v14)] h) h () ()) h () ()) h () ()) h () ()) h () ()) ()) () := lkm (lkm (wR (Rn rfl fun v6 h => Rn rfl fun v7 h => Rn rfl fun v8 h => Rg rfl rfl fun v8 v9 h => Rg rfl rfl fun v8 v10 h => Rg rfl rfl fun v8 v11 h => Rg rfl rfl fun v8 v12 h => Rg rfl rfl fun v8 v13 h => Rn rfl fun v14 h => rfl)))
def ir.field_In_next.r2 : C := .region [4] [⟨some 4, .mv (.const (.slice none 0 0)), none⟩]
theorem ir.field_In_next.r2.w (e : Env) (h : AHeap) (Q : Post) : wpC Tryz.prog nG ir.field_In_next.r2 e h Q = wI Tryz.prog nG (.mv (.const (.slice none 0 0))) h fun v4 h => Q .normal [(4, v4)] h := wR (Rn rfl fun v4 h => rfl)
def ir.field_In_next.r3 : C := .region [0, 1, 21] [⟨some 15, .mv (.tmp 0), none⟩, ⟨some 16, .nilck (.tmp 15), none⟩, ⟨some 17, .fld 0 (.tmp 16), none⟩, ⟨some 18, .load false 1 (.tmp 17), none⟩, ⟨some 19, .len false (.tmp 18), none⟩, ⟨some 20, .mv (.tmp 1), none⟩, ⟨some 21, .bin .lss (.tmp 19) (.tmp 20), none⟩]
theorem ir.field_In_next.r3.w (e : Env) (h : AHeap) (Q : Post) : wpC Tryz.prog nG ir.field_In_next.r3 e h Q = lk (look e 0) (fun v0 => lk (look e 1) (fun v1 => wI Tryz.prog nG (.mv (.const v0)) h fun v15 h => wI Tryz.prog nG (.nilck (.const v15)) h fun v16 h => wI Tryz.prog nG (.fld 0 (.const v16)) h fun v17 h => wI Tryz.prog nG (.load false 1 (.const v17)) h fun v18 h => wI Tryz.prog nG (.len false (.const v18)) h fun v19 h => wI Tryz.prog nG (.mv (.const v1)) h fun v20 h => wI Tryz.prog nG (.bin .lss (.const v19) (.const v20)) h fun v21 h => Q .normal [(0, v0), (1, v1), (21, v21)] h) ()) () := lkm (lkm (wR (Rn rfl fun v15 h => Rn rfl fun v16 h => Rn rfl fun v17 h => Rn rfl fun v18 h => Rn rfl fun v19 h => Rn rfl fun v20 h => Rn rfl fun v21 h => rfl)))
def ir.field_In_next.r4 : C := .region [] [⟨some 22, .mv (.tmp 0), none⟩, ⟨some 23, .call fn.field_In_Fail [.tmp 22, .const (.int .i64 9)], none⟩]
theorem ir.field_In_next.r4.w (e : Env) (h : AHeap) (Q : Post) : wpC Tryz.prog nG ir.field_In_next.r4 e h Q = lk (look e 0) (fun v0 => wI Tryz.prog nG (.mv (.const v0)) h fun v22 h => wI Tryz.prog nG (.call fn.field_In_Fail [.const v22, .const (.int .i64 9)]) h fun v23 h => Q .normal [] h) () := lkm (wR (Rn rfl fun v22 h => Rn rfl fun v23 h => rfl))
def ir.field_In_next.r5 : C := .region [4] [⟨some 4, .mv (.const (.slice none 0 0)), none⟩]
theorem ir.field_In_next.r5.w (e : Env) (h : AHeap) (Q : Post) : wpC Tryz.prog nG ir.field_In_next.r5 e h Q = wI Tryz.prog nG (.mv (.const (.slice none 0 0))) h fun v4 h => Q .normal [(4, v4)] h := wR (Rn rfl fun v4 h => rfl)
def ir.field_In_next.r6 : C := .region [0, 1, 5] [⟨some 24, .mv (.tmp 0), none⟩, ⟨some 25, .nilck (.tmp 24), none⟩, ⟨some 26, .fld 0 (.tmp 25), none⟩, ⟨some 27, .load false 1 (.tmp 26), none⟩, ⟨some 28, .mv (.tmp 1), none⟩, ⟨some 29, .sl 1 (.tmp 27) none (some (.tmp 28)), none⟩, ⟨some 5, .mv (.tmp 29), none⟩]
theorem ir.field_In_next.r6.w (e : Env) (h : AHeap) (Q : Post) : wpC Tryz.prog nG ir.field_In_next.r6 e h Q = lk (look e 0) (fun v0 => lk (look e 1) (fun v1 => wI Tryz.prog nG (.mv (.const v0)) h fun v24 h => wI Tryz.prog nG (.nilck (.const v24)) h fun v25 h => wI Tryz.prog nG (.fld 0 (.const v25)) h fun v26 h => wI Tryz.prog nG (.load false 1 (.const v26)) h fun v27 h => wI Tryz.prog nG (.mv (.const v1)) h fun v28 h => wI Tryz.prog nG (.sl 1 (.const v27) none (some (.const v28))) h fun v29 h => wI Tryz.prog nG (.mv (.const v29)) h fun v5 h => Q .normal [(0, v0), (1, v1), (5, v5)] h) ()) () := lkm (lkm (wR (Rn rfl fun v24 h => Rn rfl fun v25 h => Rn rfl fun v26 h => Rn rfl fun v27 h => Rn rfl fun v28 h => Rn rfl fun v29 h => Rn rfl fun v5 h => rfl)))
def ir.field_In_next.r7 : C := .region [5] [⟨some 30, .mv (.tmp 0), none⟩, ⟨some 31, .mv (.tmp 0), none⟩, ⟨some 32, .nilck (.tmp 31), none⟩, ⟨some 33, .fld 0 (.tmp 32), none⟩, ⟨some 34, .load false 1 (.tmp 33), none⟩, ⟨some 35, .mv (.tmp 1), none⟩, ⟨some 36, .sl 1 (.tmp 34) (some (.tmp 35)) none, none⟩, ⟨some 37, .nilck (.tmp 30), none⟩, ⟨some 38, .fld 0 (.tmp 37), none⟩, ⟨none, .store 1 (.tmp 38) (.tmp 36), none⟩]
theorem ir.field_In_next.r7.w (e : Env) (h : AHeap) (Q : Post) : wpC Tryz.prog nG ir.field_In_next.r7 e h Q = lk (look e 0) (fun v0 => lk (look e 1) (fun v1 => lk (look e 5) (fun v5 => wI Tryz.prog nG (.mv (.const v0)) h fun v30 h => wI Tryz.prog nG (.mv (.const v0)) h fun v31 h => wI Tryz.prog nG (.nilck (.const v31)) h fun v32 h => wI Tryz.prog nG (.fld 0 (.const v32)) h fun v33 h => wI Tryz.prog nG (.load false 1 (.const v33)) h fun v34 h => wI Tryz.prog nG (.mv (.const v1)) h fun v35 h => wI Tryz.prog nG (.sl 1 (.const v34) (some (.const v35)) none) h fun v36 h => wI Tryz.prog nG (.nilck (.const v30)) h fun v37 h => wI Tryz.prog nG (.fld 0 (.const v37)) h fun v38 h => wI Tryz.prog nG (.store 1 (.const v38) (.const v36)) h fun _ h => Q .normal [(5, v5)] h) ()) ()) () := lkm (lkm (lkm (wR (Rn rfl fun v30 h => Rn rfl fun v31 h => Rn rfl fun v32 h => Rn rfl fun v33 h => Rn rfl fun v34 h => Rn rfl fun v35 h => Rn rfl fun v36 h => Rn rfl fun v37 h => Rn rfl fun v38 h => Rz rfl fun v_ h => rfl))))
def ir.field_In_next.r8 : C := .region [4] [⟨some 39, .mv (.tmp 5), none⟩, ⟨some 4, .mv (.tmp 39), none⟩]
theorem ir.field_In_next.r8.w (e : Env) (h : AHeap) (Q : Post) : wpC Tryz.prog nG ir.field_In_next.r8 e h Q = lk (look e 5) (fun v5 => wI Tryz.prog nG (.mv (.const v5)) h fun v39 h => wI Tryz.prog nG (.mv (.const v39)) h fun v4 h => Q .normal [(4, v4)] h) () := lkm (wR (Rn rfl fun v39 h => Rn rfl fun v4 h => rfl))
def ir.field_In_next : C := (.seq ir.field_In_next.r0 (.seq (.seq ir.field_In_next.r1 (.cond (.tmp 14) (.seq ir.field_In_next.r2 .ret) .skip)) (.seq (.seq ir.field_In_next.r3 (.cond (.tmp 21) (.seq ir.field_In_next.r4 (.seq ir.field_In_next.r5 .ret)) .skip)) (.seq ir.field_In_next.r6 (.seq ir.field_In_next.r7 (.seq ir.field_In_next.r8 .ret))))))
theorem ir.field_In_next.bw (e : Env) (h : AHeap) (Q : Post) : wpC Tryz.prog nG ir.field_In_next e h Q = wpC Tryz.prog nG (.seq ir.field_In_next.r0 (.seq (.seq ir.field_In_next.r1 (.cond (.tmp 14) (.seq ir.field_In_next.r2 .ret) .skip)) (.seq (.seq ir.field_In_next.r3 (.cond (.tmp 21) (.seq ir.field_In_next.r4 (.seq ir.field_In_next.r5 .ret)) .skip)) (.seq ir.field_In_next.r6 (.seq ir.field_In_next.r7 (.seq ir.field_In_next.r8 .ret)))))) e h Q := (rfl)
def ir.field_In_next.rs : List RV := [.tmp 4]
theorem ir.field_In_next.ok : resC Tryz.prog nG 40 ir.field_In_next.ks (Tryz.f76.body.getD .skip) = some ir.field_In_next := by kernel_rfl
theorem ir.field_In_next.rok : Tryz.f76.results.toList.mapM (resR Tryz.prog) = some ir.field_In_next.rs := by kernel_rfl
theorem ir.field_In_next.spec {args : List Value} {h : AHeap} {v : Value} {h' : AHeap} (hn : args.length ≤ 40) :
    (wpC Tryz.prog nG ir.field_In_next (args.zipIdx.map fun p => (p.2, p.1)) h (retQ ir.field_In_next.rs h v h')) → Spec Tryz.prog nG fn.field_In_next args h v h' :=
  Spec.intro (fn := Tryz.f76) Tryz.func76 (c := Tryz.f76.body.getD .skip) (by kernel_rfl) ir.field_In_next.ok ir.field_In_next.rok hn
attribute [go_sem ↓] ir.field_In_next.r0.w ir.field_In_next.r1.w ir.field_In_next.r2.w ir.field_In_next.r3.w ir.field_In_next.r4.w ir.field_In_next.r5.w ir.field_In_next.r6.w ir.field_In_next.r7.w ir.field_In_next.r8.w
attribute [go_sem] ir.field_In_next.rs
end Go.Proofs.YtpnpccnbpgckhabGreat.B
