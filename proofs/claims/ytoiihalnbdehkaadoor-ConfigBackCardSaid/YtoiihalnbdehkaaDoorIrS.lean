/-
  The instructions of the program's functions, printed by genir.py; each is checked against the program by the kernel.
-/
import Derived.Test.YtoiihalnbdehkaaDoorProg
import Derived.Test.YtoiihalnbdehkaaDoorArL
import Derived.Test.YtoiihalnbdehkaaDoorAbI
import Derived.KernelRfl
namespace Go.Proofs.YtoiihalnbdehkaaDoor.B
open Go
set_option maxRecDepth 100000
set_option linter.unusedVariables false
namespace fn
def law34_WatchApplies : FuncId := 3
def law01_RankTexts : FuncId := 4
def law23_ConfigReads : FuncId := 5
def law23_ConfigWrites : FuncId := 6
def law23_ConfigBack : FuncId := 7
def law23_ConfigFits : FuncId := 8
def law26_QueryAsks : FuncId := 9
def law26_QueryEach : FuncId := 10
def law26_QueryStatus : FuncId := 11
def law34_light : FuncId := 12
def law34_awake : FuncId := 13
def law34_to : FuncId := 14
def watch_Apply : FuncId := 15
def watch_Diff : FuncId := 16
def ref34_SameView : FuncId := 17
def law34_from : FuncId := 18
def rank_Parse : FuncId := 19
def ref01_Parse : FuncId := 20
def rank_Text : FuncId := 21
def law01_To : FuncId := 22
def rank_Right : FuncId := 23
def ref01_Text : FuncId := 24
def law01_From : FuncId := 25
def ref01_Right : FuncId := 26
def config_Parse : FuncId := 27
def ref23_Parse : FuncId := 28
def law23_awake : FuncId := 29
def law23_From : FuncId := 30
def config_Check : FuncId := 31
def law23_To : FuncId := 32
def ref23_Check : FuncId := 33
def ref23_Names : FuncId := 34
def config_Text : FuncId := 35
def ref23_Text : FuncId := 36
def config_Default : FuncId := 37
def ref23_Default : FuncId := 38
def spring_Right : FuncId := 39
def peer_Right : FuncId := 40
def rib_Right : FuncId := 41
def settle_Right : FuncId := 42
def ref22_Table : FuncId := 43
def law26_awake : FuncId := 44
def query_Ask : FuncId := 45
def ref26_Ask : FuncId := 46
def law26_same : FuncId := 47
def query_Status : FuncId := 48
def query_All : FuncId := 49
def ref34_May : FuncId := 50
def watch_Text : FuncId := 51
def law22_To : FuncId := 52
def slices_Clone_fib_Hop_fib_Hop : FuncId := 53
def slices_DeleteFunc_fib_Hop_fib_Hop : FuncId := 54
def watch_Apply_1 : FuncId := 55
def slices_SortStableFunc_fib_Hop_fib_Hop : FuncId := 56
def watch_Apply_2 : FuncId := 57
def watch_cmp_int : FuncId := 58
def watch_turn : FuncId := 59
def ref34_SameNode : FuncId := 60
def law22_From : FuncId := 61
def strings_Cut : FuncId := 62
def rank_part : FuncId := 63
def ref01_Number : FuncId := 64
def strconv_FormatUint : FuncId := 65
def strconv_Itoa : FuncId := 66
def ref01_Decimal : FuncId := 67
def ref01_Whole : FuncId := 68
def strings_Split : FuncId := 69
def config_number : FuncId := 70
def config_Rules_slots : FuncId := 71
def ref23_Lines : FuncId := 72
def ref23_Number : FuncId := 73
def ref23_Least : FuncId := 74
def ref23_Most : FuncId := 75
def strings_Builder_WriteString : FuncId := 76
def strings_Builder_String : FuncId := 77
def ladder_Levels : FuncId := 78
def toll_Right : FuncId := 79
def query_number : FuncId := 80
def query_hop : FuncId := 81
def fib_Lookup : FuncId := 82
def query_key : FuncId := 83
def query_none : FuncId := 84
def query_list : FuncId := 85
def count_Which : FuncId := 86
def strconv_FormatInt : FuncId := 87
def count_Name : FuncId := 88
def strings_Join : FuncId := 89
def ref26_key : FuncId := 90
def ref24_Text : FuncId := 91
def ref22_Lookup : FuncId := 92
def ref24_Name : FuncId := 93
def watch_Name : FuncId := 94
def slices_IndexFunc_fib_Hop_fib_Hop : FuncId := 95
def slices_stableCmpFunc_fib_Hop : FuncId := 96
def watch_hops : FuncId := 97
def ref22_SameHops : FuncId := 98
def internal_stringslite_Cut : FuncId := 99
def strconv_ParseUint : FuncId := 100
def internal_strconv_FormatUint : FuncId := 101
def internal_strconv_Itoa : FuncId := 102
def strings_genSplit : FuncId := 103
def strconv_Atoi : FuncId := 104
def strings_Builder_copyCheck : FuncId := 105
def slices_BinarySearchFunc_fib_Hop_fib_Hop_int : FuncId := 106
def fib_Lookup_1 : FuncId := 107
def cmp_Compare_int : FuncId := 108
def internal_strconv_FormatInt : FuncId := 109
def strings_Builder_Grow : FuncId := 110
def ref24_Names : FuncId := 111
def slices_insertionSortCmpFunc_fib_Hop : FuncId := 112
def slices_symMergeCmpFunc_fib_Hop : FuncId := 113
def watch_find : FuncId := 114
def internal_stringslite_Index : FuncId := 115
def internal_strconv_ParseUint : FuncId := 116
def strconv_toError : FuncId := 117
def internal_strconv_small : FuncId := 118
def internal_strconv_numDigits : FuncId := 119
def internal_strconv_formatBase10 : FuncId := 120
def internal_strconv_formatBits : FuncId := 121
def strings_explode : FuncId := 122
def strings_Count : FuncId := 123
def strings_Index : FuncId := 124
def internal_strconv_Atoi : FuncId := 125
def internal_abi_NoEscape : FuncId := 126
def cmp_isNaN_int : FuncId := 127
def strings_Builder_grow : FuncId := 128
def slices_rotateCmpFunc_fib_Hop : FuncId := 129
def watch_find_1 : FuncId := 130
def internal_stringslite_IndexByte : FuncId := 131
def internal_bytealg_IndexString : FuncId := 132
def internal_bytealg_Cutover : FuncId := 133
def internal_bytealg_IndexRabinKarp_string : FuncId := 134
def internal_strconv_lower : FuncId := 135
def internal_strconv_underscoreOK : FuncId := 136
def strconv_syntaxError : FuncId := 137
def strconv_rangeError : FuncId := 138
def strconv_baseError : FuncId := 139
def strconv_bitSizeError : FuncId := 140
def internal_strconv_log10Pow2 : FuncId := 141
def math_bits_Len64 : FuncId := 142
def internal_strconv_bool2_int : FuncId := 143
def internal_strconv_isPowerOfTwo : FuncId := 144
def math_bits_TrailingZeros : FuncId := 145
def unicode_utf8_RuneCountInString : FuncId := 146
def unicode_utf8_DecodeRuneInString : FuncId := 147
def internal_bytealg_CountString : FuncId := 148
def internal_strconv_ParseInt : FuncId := 149
def internal_bytealg_MakeNoZero : FuncId := 150
def slices_swapRangeCmpFunc_fib_Hop : FuncId := 151
def internal_bytealg_IndexByteString : FuncId := 152
def internal_bytealg_hashStr_string : FuncId := 153
def internal_stringslite_Clone : FuncId := 154
def errors_New : FuncId := 155
def math_bits_TrailingZeros32 : FuncId := 156
def math_bits_TrailingZeros64 : FuncId := 157
def unicode_utf8_decodeRuneInStringSlow : FuncId := 158
def runtime_boundsError_Error : FuncId := 159
def runtime_boundsError_RuntimeError : FuncId := 160
def runtime_errorString_Error : FuncId := 161
def runtime_errorString_RuntimeError : FuncId := 162
def runtime_plainError_Error : FuncId := 163
def runtime_plainError_RuntimeError : FuncId := 164
def runtime_errorAddressString_Error : FuncId := 165
def runtime_errorAddressString_RuntimeError : FuncId := 166
def runtime_TypeAssertionError_Error : FuncId := 167
def runtime_TypeAssertionError_RuntimeError : FuncId := 168
def runtime_PanicNilError_Error : FuncId := 169
def runtime_PanicNilError_RuntimeError : FuncId := 170
def internal_abi_Type_Align : FuncId := 171
def internal_runtime_maps_unhashableTypeError_Error : FuncId := 172
def internal_runtime_maps_unhashableTypeError_RuntimeError : FuncId := 173
def law26_source_Boot : FuncId := 174
def law26_source_Counters : FuncId := 175
def law26_source_Dead : FuncId := 176
def law26_source_Fib : FuncId := 177
def law26_source_Floor : FuncId := 178
def law26_source_Live : FuncId := 179
def law26_source_Now : FuncId := 180
def law26_source_Own : FuncId := 181
def law26_source_Roots : FuncId := 182
def strings_Builder_Reset : FuncId := 183
def internal_strconv_Error_Error : FuncId := 184
def strconv_NumError_Error : FuncId := 185
def errors_errorString_Error : FuncId := 186
def internal_abi_Kind_String : FuncId := 187
def var_s_door_count_names_is_laid_by_its_own_initialiser_plain_data_look_11 : FuncId := 188
def var_s_door_watch_names_is_laid_by_its_own_initialiser_plain_data_look_11 : FuncId := 189
def var_s_door_gosem_cut_vars_holds_initialisers_alone_see_the_manifest_s_row_cutvarsword_look_11_test_files_too : FuncId := 190
def var_s_door_internal_strconv_uint64pow10_is_laid_by_its_own_initialiser_plain_data_look_11 : FuncId := 191
def var_s_door_math_bits_deBruijn32tab_is_laid_by_its_own_initialiser_plain_data_look_11 : FuncId := 192
def var_s_door_math_bits_deBruijn64tab_is_laid_by_its_own_initialiser_plain_data_look_11 : FuncId := 193
def var_s_door_strconv_ErrRange_is_laid_by_its_own_call_of_errors_New_on_one_literal_look_11 : FuncId := 194
def var_s_door_strconv_ErrSyntax_is_laid_by_its_own_call_of_errors_New_on_one_literal_look_11 : FuncId := 195
def var_s_door_the_look_of_gosem_cut_vars_went_over_the_folder_that_the_caller_named_as_the_repository_s_root_look_11 : FuncId := 196
def var_s_door_unicode_utf8_acceptRanges_is_laid_by_its_own_initialiser_plain_data_look_11 : FuncId := 197
def var_s_door_unicode_utf8_first_is_laid_by_its_text_alone_pinned_1 : FuncId := 198
def gosem_cut_vars : FuncId := 199
end fn
def nG : Nat := 8
abbrev gv.count_names : Nat := 0
abbrev gv.watch_names : Nat := 1
abbrev gv.internal_bytealg_MaxLen : Nat := 2
abbrev gv.internal_strconv_uint64pow10 : Nat := 3
abbrev gv.strconv_ErrSyntax : Nat := 4
abbrev gv.strconv_ErrRange : Nat := 5
abbrev gv.math_bits_deBruijn32tab : Nat := 6
abbrev gv.math_bits_deBruijn64tab : Nat := 7
abbrev gv.unicode_utf8_first : Nat := 8
abbrev gv.unicode_utf8_acceptRanges : Nat := 9
def lit_633d862b : ByteArray := { data := #[0, 1, 2, 2, 3, 3, 3, 3, 4, 4, 4, 4, 4, 4, 4, 4, 5, 5, 5, 5, 5, 5, 5, 5, 5, 5, 5, 5, 5, 5, 5, 5, 6, 6, 6, 6, 6, 6, 6, 6, 6, 6, 6, 6, 6, 6, 6, 6, 6, 6, 6, 6, 6, 6, 6, 6, 6, 6, 6, 6, 6, 6, 6, 6, 7, 7, 7, 7, 7, 7, 7, 7, 7, 7, 7, 7, 7, 7, 7, 7, 7, 7, 7, 7, 7, 7, 7, 7, 7, 7, 7, 7, 7, 7, 7, 7, 7, 7, 7, 7, 7, 7, 7, 7, 7, 7, 7, 7, 7, 7, 7, 7, 7, 7, 7, 7, 7, 7, 7, 7, 7, 7, 7, 7, 7, 7, 7, 7, 8, 8, 8, 8, 8, 8, 8, 8, 8, 8, 8, 8, 8, 8, 8, 8, 8, 8, 8, 8, 8, 8, 8, 8, 8, 8, 8, 8, 8, 8, 8, 8, 8, 8, 8, 8, 8, 8, 8, 8, 8, 8, 8, 8, 8, 8, 8, 8, 8, 8, 8, 8, 8, 8, 8, 8, 8, 8, 8, 8, 8, 8, 8, 8, 8, 8, 8, 8, 8, 8, 8, 8, 8, 8, 8, 8, 8, 8, 8, 8, 8, 8, 8, 8, 8, 8, 8, 8, 8, 8, 8, 8, 8, 8, 8, 8, 8, 8, 8, 8, 8, 8, 8, 8, 8, 8, 8, 8, 8, 8, 8, 8, 8, 8, 8, 8, 8, 8, 8, 8, 8, 8, 8, 8, 8, 8, 8, 8] }
def lit_db3e2f51 : ByteArray := { data := #[48, 48, 48, 49, 48, 50, 48, 51, 48, 52, 48, 53, 48, 54, 48, 55, 48, 56, 48, 57, 49, 48, 49, 49, 49, 50, 49, 51, 49, 52, 49, 53, 49, 54, 49, 55, 49, 56, 49, 57, 50, 48, 50, 49, 50, 50, 50, 51, 50, 52, 50, 53, 50, 54, 50, 55, 50, 56, 50, 57, 51, 48, 51, 49, 51, 50, 51, 51, 51, 52, 51, 53, 51, 54, 51, 55, 51, 56, 51, 57, 52, 48, 52, 49, 52, 50, 52, 51, 52, 52, 52, 53, 52, 54, 52, 55, 52, 56, 52, 57, 53, 48, 53, 49, 53, 50, 53, 51, 53, 52, 53, 53, 53, 54, 53, 55, 53, 56, 53, 57, 54, 48, 54, 49, 54, 50, 54, 51, 54, 52, 54, 53, 54, 54, 54, 55, 54, 56, 54, 57, 55, 48, 55, 49, 55, 50, 55, 51, 55, 52, 55, 53, 55, 54, 55, 55, 55, 56, 55, 57, 56, 48, 56, 49, 56, 50, 56, 51, 56, 52, 56, 53, 56, 54, 56, 55, 56, 56, 56, 57, 57, 48, 57, 49, 57, 50, 57, 51, 57, 52, 57, 53, 57, 54, 57, 55, 57, 56, 57, 57] }
def lit_e9b1713d : ByteArray := { data := #[48, 49, 50, 51, 52, 53, 54, 55, 56, 57, 97, 98, 99, 100, 101, 102, 103, 104, 105, 106, 107, 108, 109, 110, 111, 112, 113, 114, 115, 116, 117, 118, 119, 120, 121, 122] }

/-! ### strconv.FormatUint: function 65 -/
def ir.strconv_FormatUint.ks : Nat → List Nat := fun
  | 0 => [0, 1]
  | 1 => [4]
  | _ => []
def ir.strconv_FormatUint.r0 : C := .region [0, 1] [⟨some 4, .mv (.const (Go.Value.string { data := #[] })), none⟩]
theorem ir.strconv_FormatUint.r0.w (e : Env) (h : AHeap) (Q : Post) : wpC Tryd.prog nG ir.strconv_FormatUint.r0 e h Q = lk (look e 0) (fun v0 => lk (look e 1) (fun v1 => wI Tryd.prog nG (.mv (.const (Go.Value.string { data := #[] }))) h fun v4 h => Q .normal [(0, v0), (1, v1)] h) ()) () := lkm (lkm (wR (Rn rfl fun v4 h => rfl)))
def ir.strconv_FormatUint.r1 : C := .region [4] [⟨some 5, .mv (.tmp 0), none⟩, ⟨some 6, .mv (.tmp 1), none⟩, ⟨some 7, .call fn.internal_strconv_FormatUint [.tmp 5, .tmp 6], none⟩, ⟨some 4, .mv (.tmp 7), none⟩]
theorem ir.strconv_FormatUint.r1.w (e : Env) (h : AHeap) (Q : Post) : wpC Tryd.prog nG ir.strconv_FormatUint.r1 e h Q = lk (look e 0) (fun v0 => lk (look e 1) (fun v1 => wI Tryd.prog nG (.mv (.const v0)) h fun v5 h => wI Tryd.prog nG (.mv (.const v1)) h fun v6 h => wI Tryd.prog nG (.call fn.internal_strconv_FormatUint [.const v5, .const v6]) h fun v7 h => wI Tryd.prog nG (.mv (.const v7)) h fun v4 h => Q .normal [(4, v4)] h) ()) () := lkm (lkm (wR (Rn rfl fun v5 h => Rn rfl fun v6 h => Rn rfl fun v7 h => Rn rfl fun v4 h => rfl)))
def ir.strconv_FormatUint : C := (.seq ir.strconv_FormatUint.r0 (.seq ir.strconv_FormatUint.r1 .ret))
theorem ir.strconv_FormatUint.bw (e : Env) (h : AHeap) (Q : Post) : wpC Tryd.prog nG ir.strconv_FormatUint e h Q = wpC Tryd.prog nG (.seq ir.strconv_FormatUint.r0 (.seq ir.strconv_FormatUint.r1 .ret)) e h Q := (rfl)
def ir.strconv_FormatUint.rs : List RV := [.tmp 4]
theorem ir.strconv_FormatUint.ok : resC Tryd.prog nG 8 ir.strconv_FormatUint.ks (Tryd.f65.body.getD .skip) = some ir.strconv_FormatUint := by kernel_rfl
theorem ir.strconv_FormatUint.rok : Tryd.f65.results.toList.mapM (resR Tryd.prog) = some ir.strconv_FormatUint.rs := by kernel_rfl
theorem ir.strconv_FormatUint.spec {args : List Value} {h : AHeap} {v : Value} {h' : AHeap} (hn : args.length ≤ 8) :
    (wpC Tryd.prog nG ir.strconv_FormatUint (args.zipIdx.map fun p => (p.2, p.1)) h (retQ ir.strconv_FormatUint.rs h v h')) → Spec Tryd.prog nG fn.strconv_FormatUint args h v h' :=
  Spec.intro (fn := Tryd.f65) Tryd.func65 (c := Tryd.f65.body.getD .skip) (by kernel_rfl) ir.strconv_FormatUint.ok ir.strconv_FormatUint.rok hn
attribute [go_sem ↓] ir.strconv_FormatUint.r0.w ir.strconv_FormatUint.r1.w
attribute [go_sem] ir.strconv_FormatUint.rs

/-! ### strconv.Itoa: function 66 -/
def ir.strconv_Itoa.ks : Nat → List Nat := fun
  | 0 => [0]
  | 1 => [2]
  | _ => []
def ir.strconv_Itoa.r0 : C := .region [0] [⟨some 2, .mv (.const (Go.Value.string { data := #[] })), none⟩]
theorem ir.strconv_Itoa.r0.w (e : Env) (h : AHeap) (Q : Post) : wpC Tryd.prog nG ir.strconv_Itoa.r0 e h Q = lk (look e 0) (fun v0 => wI Tryd.prog nG (.mv (.const (Go.Value.string { data := #[] }))) h fun v2 h => Q .normal [(0, v0)] h) () := lkm (wR (Rn rfl fun v2 h => rfl))
def ir.strconv_Itoa.r1 : C := .region [2] [⟨some 3, .mv (.tmp 0), none⟩, ⟨some 4, .call fn.internal_strconv_Itoa [.tmp 3], none⟩, ⟨some 2, .mv (.tmp 4), none⟩]
theorem ir.strconv_Itoa.r1.w (e : Env) (h : AHeap) (Q : Post) : wpC Tryd.prog nG ir.strconv_Itoa.r1 e h Q = lk (look e 0) (fun v0 => wI Tryd.prog nG (.mv (.const v0)) h fun v3 h => wI Tryd.prog nG (.call fn.internal_strconv_Itoa [.const v3]) h fun v4 h => wI Tryd.prog nG (.mv (.const v4)) h fun v2 h => Q .normal [(2, v2)] h) () := lkm (wR (Rn rfl fun v3 h => Rn rfl fun v4 h => Rn rfl fun v2 h => rfl))
def ir.strconv_Itoa : C := (.seq ir.strconv_Itoa.r0 (.seq ir.strconv_Itoa.r1 .ret))
theorem ir.strconv_Itoa.bw (e : Env) (h : AHeap) (Q : Post) : wpC Tryd.prog nG ir.strconv_Itoa e h Q = wpC Tryd.prog nG (.seq ir.strconv_Itoa.r0 (.seq ir.strconv_Itoa.r1 .ret)) e h Q := (rfl)
def ir.strconv_Itoa.rs : List RV := [.tmp 2]
theorem ir.strconv_Itoa.ok : resC Tryd.prog nG 5 ir.strconv_Itoa.ks (Tryd.f66.body.getD .skip) = some ir.strconv_Itoa := by kernel_rfl
theorem ir.strconv_Itoa.rok : Tryd.f66.results.toList.mapM (resR Tryd.prog) = some ir.strconv_Itoa.rs := by kernel_rfl
theorem ir.strconv_Itoa.spec {args : List Value} {h : AHeap} {v : Value} {h' : AHeap} (hn : args.length ≤ 5) :
    (wpC Tryd.prog nG ir.strconv_Itoa (args.zipIdx.map fun p => (p.2, p.1)) h (retQ ir.strconv_Itoa.rs h v h')) → Spec Tryd.prog nG fn.strconv_Itoa args h v h' :=
  Spec.intro (fn := Tryd.f66) Tryd.func66 (c := Tryd.f66.body.getD .skip) (by kernel_rfl) ir.strconv_Itoa.ok ir.strconv_Itoa.rok hn
attribute [go_sem ↓] ir.strconv_Itoa.r0.w ir.strconv_Itoa.r1.w
attribute [go_sem] ir.strconv_Itoa.rs

/-! ### fingerpost/fingerpostref01.Decimal: function 67 -/
def ir.ref01_Decimal.ks : Nat → List Nat := fun
  | 0 => [0]
  | 1 => [0, 3]
  | 2 => [0, 3, 5]
  | 3 => [0, 3]
  | 4 => [0, 3]
  | 5 => [2]
  | _ => []
def ir.ref01_Decimal.r0 : C := .region [0] [⟨some 2, .mv (.const (Go.Value.string { data := #[] })), none⟩]
theorem ir.ref01_Decimal.r0.w (e : Env) (h : AHeap) (Q : Post) : wpC Tryd.prog nG ir.ref01_Decimal.r0 e h Q = lk (look e 0) (fun v0 => wI Tryd.prog nG (.mv (.const (Go.Value.string { data := #[] }))) h fun v2 h => Q .normal [(0, v0)] h) () := lkm (wR (Rn rfl fun v2 h => rfl))
def ir.ref01_Decimal.r1 : C := .region [0, 3] [⟨some 3, .mv (.const (Go.Value.string { data := #[] })), none⟩]
theorem ir.ref01_Decimal.r1.w (e : Env) (h : AHeap) (Q : Post) : wpC Tryd.prog nG ir.ref01_Decimal.r1 e h Q = lk (look e 0) (fun v0 => wI Tryd.prog nG (.mv (.const (Go.Value.string { data := #[] }))) h fun v3 h => Q .normal [(0, v0), (3, v3)] h) () := lkm (wR (Rn rfl fun v3 h => rfl))
def ir.ref01_Decimal.r2 : C := .region [0, 3, 5] [⟨some 4, .mv (.tmp 0), none⟩, ⟨some 5, .bin .gtr (.tmp 4) (.const (.int .u64 9)), none⟩]
theorem ir.ref01_Decimal.r2.w (e : Env) (h : AHeap) (Q : Post) : wpC Tryd.prog nG ir.ref01_Decimal.r2 e h Q = lk (look e 0) (fun v0 => lk (look e 3) (fun v3 => wI Tryd.prog nG (.mv (.const v0)) h fun v4 h => wI Tryd.prog nG (.bin .gtr (.const v4) (.const (.int .u64 9))) h fun v5 h => Q .normal [(0, v0), (3, v3), (5, v5)] h) ()) () := lkm (lkm (wR (Rn rfl fun v4 h => Rn rfl fun v5 h => rfl)))
def ir.ref01_Decimal.r3 : C := .region [0, 3] [⟨some 6, .mv (.tmp 0), none⟩, ⟨some 7, .bin .rem (.tmp 6) (.const (.int .u64 10)), none⟩, ⟨some 8, .bin .add (.const (.int .u64 48)) (.tmp 7), none⟩, ⟨some 9, .conv .u8 (.tmp 8), none⟩, ⟨some 10, .row 1 1 [.int .u8 0] [(0, 1, .tmp 9)], none⟩, ⟨some 11, .bts (.tmp 10), none⟩, ⟨some 12, .mv (.tmp 3), none⟩, ⟨some 13, .bin .add (.tmp 11) (.tmp 12), none⟩, ⟨some 3, .mv (.tmp 13), none⟩]
theorem ir.ref01_Decimal.r3.w (e : Env) (h : AHeap) (Q : Post) : wpC Tryd.prog nG ir.ref01_Decimal.r3 e h Q = lk (look e 0) (fun v0 => lk (look e 3) (fun v3 => wI Tryd.prog nG (.mv (.const v0)) h fun v6 h => wI Tryd.prog nG (.bin .rem (.const v6) (.const (.int .u64 10))) h fun v7 h => wI Tryd.prog nG (.bin .add (.const (.int .u64 48)) (.const v7)) h fun v8 h => wI Tryd.prog nG (.conv .u8 (.const v8)) h fun v9 h => wI Tryd.prog nG (.row 1 1 [.int .u8 0] [(0, 1, .const v9)]) h fun v10 h => wI Tryd.prog nG (.bts (.const v10)) h fun v11 h => wI Tryd.prog nG (.mv (.const v3)) h fun v12 h => wI Tryd.prog nG (.bin .add (.const v11) (.const v12)) h fun v13 h => wI Tryd.prog nG (.mv (.const v13)) h fun v3 h => Q .normal [(0, v0), (3, v3)] h) ()) () := lkm (lkm (wR (Rn rfl fun v6 h => Rn rfl fun v7 h => Rn rfl fun v8 h => Rn rfl fun v9 h => Rn rfl fun v10 h => Rn rfl fun v11 h => Rn rfl fun v12 h => Rn rfl fun v13 h => Rn rfl fun v3 h => rfl)))
def ir.ref01_Decimal.r4 : C := .region [0, 3] [⟨some 14, .mv (.tmp 0), none⟩, ⟨some 15, .bin .quo (.tmp 14) (.const (.int .u64 10)), none⟩, ⟨some 0, .mv (.tmp 15), none⟩]
theorem ir.ref01_Decimal.r4.w (e : Env) (h : AHeap) (Q : Post) : wpC Tryd.prog nG ir.ref01_Decimal.r4 e h Q = lk (look e 0) (fun v0 => lk (look e 3) (fun v3 => wI Tryd.prog nG (.mv (.const v0)) h fun v14 h => wI Tryd.prog nG (.bin .quo (.const v14) (.const (.int .u64 10))) h fun v15 h => wI Tryd.prog nG (.mv (.const v15)) h fun v0 h => Q .normal [(0, v0), (3, v3)] h) ()) () := lkm (lkm (wR (Rn rfl fun v14 h => Rn rfl fun v15 h => Rn rfl fun v0 h => rfl)))
def ir.ref01_Decimal.l1.b : C := (.seq (.seq ir.ref01_Decimal.r2 (.cond (.tmp 5) .skip (.exit 0))) (.block 1 (.seq ir.ref01_Decimal.r3 ir.ref01_Decimal.r4)))
theorem ir.ref01_Decimal.l1.bw (e : Env) (h : AHeap) (Q : Post) : wpC Tryd.prog nG ir.ref01_Decimal.l1.b e h Q = wpC Tryd.prog nG (.seq (.seq ir.ref01_Decimal.r2 (.cond (.tmp 5) .skip (.exit 0))) (.block 1 (.seq ir.ref01_Decimal.r3 ir.ref01_Decimal.r4))) e h Q := (rfl)
def ir.ref01_Decimal.l1 : C := .loop ir.ref01_Decimal.l1.b
theorem ir.ref01_Decimal.l1.w (e : Env) (h : AHeap) (Q : Post) : wpC Tryd.prog nG ir.ref01_Decimal.l1 e h Q = loopV Tryd.prog nG ir.ref01_Decimal.l1.b e h Q () := (rfl)
def ir.ref01_Decimal.r5 : C := .region [2] [⟨some 16, .mv (.tmp 0), none⟩, ⟨some 17, .bin .add (.const (.int .u64 48)) (.tmp 16), none⟩, ⟨some 18, .conv .u8 (.tmp 17), none⟩, ⟨some 19, .row 1 1 [.int .u8 0] [(0, 1, .tmp 18)], none⟩, ⟨some 20, .bts (.tmp 19), none⟩, ⟨some 21, .mv (.tmp 3), none⟩, ⟨some 22, .bin .add (.tmp 20) (.tmp 21), none⟩, ⟨some 2, .mv (.tmp 22), none⟩]
theorem ir.ref01_Decimal.r5.w (e : Env) (h : AHeap) (Q : Post) : wpC Tryd.prog nG ir.ref01_Decimal.r5 e h Q = lk (look e 0) (fun v0 => lk (look e 3) (fun v3 => wI Tryd.prog nG (.mv (.const v0)) h fun v16 h => wI Tryd.prog nG (.bin .add (.const (.int .u64 48)) (.const v16)) h fun v17 h => wI Tryd.prog nG (.conv .u8 (.const v17)) h fun v18 h => wI Tryd.prog nG (.row 1 1 [.int .u8 0] [(0, 1, .const v18)]) h fun v19 h => wI Tryd.prog nG (.bts (.const v19)) h fun v20 h => wI Tryd.prog nG (.mv (.const v3)) h fun v21 h => wI Tryd.prog nG (.bin .add (.const v20) (.const v21)) h fun v22 h => wI Tryd.prog nG (.mv (.const v22)) h fun v2 h => Q .normal [(2, v2)] h) ()) () := lkm (lkm (wR (Rn rfl fun v16 h => Rn rfl fun v17 h => Rn rfl fun v18 h => Rn rfl fun v19 h => Rn rfl fun v20 h => Rn rfl fun v21 h => Rn rfl fun v22 h => Rn rfl fun v2 h => rfl)))
def ir.ref01_Decimal : C := (.seq ir.ref01_Decimal.r0 (.seq ir.ref01_Decimal.r1 (.seq (.block 0 ir.ref01_Decimal.l1) (.seq ir.ref01_Decimal.r5 .ret))))
theorem ir.ref01_Decimal.bw (e : Env) (h : AHeap) (Q : Post) : wpC Tryd.prog nG ir.ref01_Decimal e h Q = wpC Tryd.prog nG (.seq ir.ref01_Decimal.r0 (.seq ir.ref01_Decimal.r1 (.seq (.block 0 ir.ref01_Decimal.l1) (.seq ir.ref01_Decimal.r5 .ret)))) e h Q := (rfl)
def ir.ref01_Decimal.rs : List RV := [.tmp 2]
theorem ir.ref01_Decimal.ok : resC Tryd.prog nG 23 ir.ref01_Decimal.ks (Tryd.f67.body.getD .skip) = some ir.ref01_Decimal := by kernel_rfl
theorem ir.ref01_Decimal.rok : Tryd.f67.results.toList.mapM (resR Tryd.prog) = some ir.ref01_Decimal.rs := by kernel_rfl
theorem ir.ref01_Decimal.spec {args : List Value} {h : AHeap} {v : Value} {h' : AHeap} (hn : args.length ≤ 23) :
    (wpC Tryd.prog nG ir.ref01_Decimal (args.zipIdx.map fun p => (p.2, p.1)) h (retQ ir.ref01_Decimal.rs h v h')) → Spec Tryd.prog nG fn.ref01_Decimal args h v h' :=
  Spec.intro (fn := Tryd.f67) Tryd.func67 (c := Tryd.f67.body.getD .skip) (by kernel_rfl) ir.ref01_Decimal.ok ir.ref01_Decimal.rok hn
attribute [go_sem ↓] ir.ref01_Decimal.r0.w ir.ref01_Decimal.r1.w ir.ref01_Decimal.r2.w ir.ref01_Decimal.r3.w ir.ref01_Decimal.r4.w ir.ref01_Decimal.l1.w ir.ref01_Decimal.r5.w
attribute [go_sem] ir.ref01_Decimal.rs

/-! ### fingerpost/fingerpostref01.Whole: function 68 -/
def ir.ref01_Whole.ks : Nat → List Nat := fun
  | 0 => [0]
  | 1 => [0, 4]
  | 2 => [2]
  | 3 => [2]
  | _ => []
def ir.ref01_Whole.r0 : C := .region [0] [⟨some 2, .mv (.const (Go.Value.string { data := #[] })), none⟩]
theorem ir.ref01_Whole.r0.w (e : Env) (h : AHeap) (Q : Post) : wpC Tryd.prog nG ir.ref01_Whole.r0 e h Q = lk (look e 0) (fun v0 => wI Tryd.prog nG (.mv (.const (Go.Value.string { data := #[] }))) h fun v2 h => Q .normal [(0, v0)] h) () := lkm (wR (Rn rfl fun v2 h => rfl))
def ir.ref01_Whole.r1 : C := .region [0, 4] [⟨some 3, .mv (.tmp 0), none⟩, ⟨some 4, .bin .lss (.tmp 3) (.const (.int .i64 0)), none⟩]
theorem ir.ref01_Whole.r1.w (e : Env) (h : AHeap) (Q : Post) : wpC Tryd.prog nG ir.ref01_Whole.r1 e h Q = lk (look e 0) (fun v0 => wI Tryd.prog nG (.mv (.const v0)) h fun v3 h => wI Tryd.prog nG (.bin .lss (.const v3) (.const (.int .i64 0))) h fun v4 h => Q .normal [(0, v0), (4, v4)] h) () := lkm (wR (Rn rfl fun v3 h => Rn rfl fun v4 h => rfl))
def ir.ref01_Whole.r2 : C := .region [2] [⟨some 5, .mv (.tmp 0), none⟩, ⟨some 6, .conv .u64 (.tmp 5), none⟩, ⟨some 7, .un .neg (.tmp 6), none⟩, ⟨some 8, .call fn.ref01_Decimal [.tmp 7], none⟩, ⟨some 9, .bin .add (.const (Go.Value.string { data := #[45] })) (.tmp 8), none⟩, ⟨some 2, .mv (.tmp 9), none⟩]
theorem ir.ref01_Whole.r2.w (e : Env) (h : AHeap) (Q : Post) : wpC Tryd.prog nG ir.ref01_Whole.r2 e h Q = lk (look e 0) (fun v0 => wI Tryd.prog nG (.mv (.const v0)) h fun v5 h => wI Tryd.prog nG (.conv .u64 (.const v5)) h fun v6 h => wI Tryd.prog nG (.un .neg (.const v6)) h fun v7 h => wI Tryd.prog nG (.call fn.ref01_Decimal [.const v7]) h fun v8 h => wI Tryd.prog nG (.bin .add (.const (Go.Value.string { data := #[45] })) (.const v8)) h fun v9 h => wI Tryd.prog nG (.mv (.const v9)) h fun v2 h => Q .normal [(2, v2)] h) () := lkm (wR (Rn rfl fun v5 h => Rn rfl fun v6 h => Rn rfl fun v7 h => Rn rfl fun v8 h => Rn rfl fun v9 h => Rn rfl fun v2 h => rfl))
def ir.ref01_Whole.r3 : C := .region [2] [⟨some 10, .mv (.tmp 0), none⟩, ⟨some 11, .conv .u64 (.tmp 10), none⟩, ⟨some 12, .call fn.ref01_Decimal [.tmp 11], none⟩, ⟨some 2, .mv (.tmp 12), none⟩]
theorem ir.ref01_Whole.r3.w (e : Env) (h : AHeap) (Q : Post) : wpC Tryd.prog nG ir.ref01_Whole.r3 e h Q = lk (look e 0) (fun v0 => wI Tryd.prog nG (.mv (.const v0)) h fun v10 h => wI Tryd.prog nG (.conv .u64 (.const v10)) h fun v11 h => wI Tryd.prog nG (.call fn.ref01_Decimal [.const v11]) h fun v12 h => wI Tryd.prog nG (.mv (.const v12)) h fun v2 h => Q .normal [(2, v2)] h) () := lkm (wR (Rn rfl fun v10 h => Rn rfl fun v11 h => Rn rfl fun v12 h => Rn rfl fun v2 h => rfl))
def ir.ref01_Whole : C := (.seq ir.ref01_Whole.r0 (.seq (.seq ir.ref01_Whole.r1 (.cond (.tmp 4) (.seq ir.ref01_Whole.r2 .ret) .skip)) (.seq ir.ref01_Whole.r3 .ret)))
theorem ir.ref01_Whole.bw (e : Env) (h : AHeap) (Q : Post) : wpC Tryd.prog nG ir.ref01_Whole e h Q = wpC Tryd.prog nG (.seq ir.ref01_Whole.r0 (.seq (.seq ir.ref01_Whole.r1 (.cond (.tmp 4) (.seq ir.ref01_Whole.r2 .ret) .skip)) (.seq ir.ref01_Whole.r3 .ret))) e h Q := (rfl)
def ir.ref01_Whole.rs : List RV := [.tmp 2]
theorem ir.ref01_Whole.ok : resC Tryd.prog nG 13 ir.ref01_Whole.ks (Tryd.f68.body.getD .skip) = some ir.ref01_Whole := by kernel_rfl
theorem ir.ref01_Whole.rok : Tryd.f68.results.toList.mapM (resR Tryd.prog) = some ir.ref01_Whole.rs := by kernel_rfl
theorem ir.ref01_Whole.spec {args : List Value} {h : AHeap} {v : Value} {h' : AHeap} (hn : args.length ≤ 13) :
    (wpC Tryd.prog nG ir.ref01_Whole (args.zipIdx.map fun p => (p.2, p.1)) h (retQ ir.ref01_Whole.rs h v h')) → Spec Tryd.prog nG fn.ref01_Whole args h v h' :=
  Spec.intro (fn := Tryd.f68) Tryd.func68 (c := Tryd.f68.body.getD .skip) (by kernel_rfl) ir.ref01_Whole.ok ir.ref01_Whole.rok hn
attribute [go_sem ↓] ir.ref01_Whole.r0.w ir.ref01_Whole.r1.w ir.ref01_Whole.r2.w ir.ref01_Whole.r3.w
attribute [go_sem] ir.ref01_Whole.rs

/-! ### strconv.FormatInt: function 87 -/
def ir.strconv_FormatInt.ks : Nat → List Nat := fun
  | 0 => [0, 1]
  | 1 => [4]
  | _ => []
def ir.strconv_FormatInt.r0 : C := .region [0, 1] [⟨some 4, .mv (.const (Go.Value.string { data := #[] })), none⟩]
theorem ir.strconv_FormatInt.r0.w (e : Env) (h : AHeap) (Q : Post) : wpC Tryd.prog nG ir.strconv_FormatInt.r0 e h Q = lk (look e 0) (fun v0 => lk (look e 1) (fun v1 => wI Tryd.prog nG (.mv (.const (Go.Value.string { data := #[] }))) h fun v4 h => Q .normal [(0, v0), (1, v1)] h) ()) () := lkm (lkm (wR (Rn rfl fun v4 h => rfl)))
def ir.strconv_FormatInt.r1 : C := .region [4] [⟨some 5, .mv (.tmp 0), none⟩, ⟨some 6, .mv (.tmp 1), none⟩, ⟨some 7, .call fn.internal_strconv_FormatInt [.tmp 5, .tmp 6], none⟩, ⟨some 4, .mv (.tmp 7), none⟩]
theorem ir.strconv_FormatInt.r1.w (e : Env) (h : AHeap) (Q : Post) : wpC Tryd.prog nG ir.strconv_FormatInt.r1 e h Q = lk (look e 0) (fun v0 => lk (look e 1) (fun v1 => wI Tryd.prog nG (.mv (.const v0)) h fun v5 h => wI Tryd.prog nG (.mv (.const v1)) h fun v6 h => wI Tryd.prog nG (.call fn.internal_strconv_FormatInt [.const v5, .const v6]) h fun v7 h => wI Tryd.prog nG (.mv (.const v7)) h fun v4 h => Q .normal [(4, v4)] h) ()) () := lkm (lkm (wR (Rn rfl fun v5 h => Rn rfl fun v6 h => Rn rfl fun v7 h => Rn rfl fun v4 h => rfl)))
def ir.strconv_FormatInt : C := (.seq ir.strconv_FormatInt.r0 (.seq ir.strconv_FormatInt.r1 .ret))
theorem ir.strconv_FormatInt.bw (e : Env) (h : AHeap) (Q : Post) : wpC Tryd.prog nG ir.strconv_FormatInt e h Q = wpC Tryd.prog nG (.seq ir.strconv_FormatInt.r0 (.seq ir.strconv_FormatInt.r1 .ret)) e h Q := (rfl)
def ir.strconv_FormatInt.rs : List RV := [.tmp 4]
theorem ir.strconv_FormatInt.ok : resC Tryd.prog nG 8 ir.strconv_FormatInt.ks (Tryd.f87.body.getD .skip) = some ir.strconv_FormatInt := by kernel_rfl
theorem ir.strconv_FormatInt.rok : Tryd.f87.results.toList.mapM (resR Tryd.prog) = some ir.strconv_FormatInt.rs := by kernel_rfl
theorem ir.strconv_FormatInt.spec {args : List Value} {h : AHeap} {v : Value} {h' : AHeap} (hn : args.length ≤ 8) :
    (wpC Tryd.prog nG ir.strconv_FormatInt (args.zipIdx.map fun p => (p.2, p.1)) h (retQ ir.strconv_FormatInt.rs h v h')) → Spec Tryd.prog nG fn.strconv_FormatInt args h v h' :=
  Spec.intro (fn := Tryd.f87) Tryd.func87 (c := Tryd.f87.body.getD .skip) (by kernel_rfl) ir.strconv_FormatInt.ok ir.strconv_FormatInt.rok hn
attribute [go_sem ↓] ir.strconv_FormatInt.r0.w ir.strconv_FormatInt.r1.w
attribute [go_sem] ir.strconv_FormatInt.rs

/-! ### internal/strconv.FormatUint: function 101 -/
def ir.internal_strconv_FormatUint.ks : Nat → List Nat := fun
  | 0 => [0, 1]
  | 1 => [0, 1, 10]
  | 2 => [0, 12]
  | 3 => [4]
  | 4 => [0, 5]
  | 5 => [0, 5, 6]
  | 6 => [5, 6]
  | 7 => [4]
  | 8 => [8]
  | 9 => [4]
  | _ => []
def ir.internal_strconv_FormatUint.r0 : C := .region [0, 1] [⟨some 4, .mv (.const (Go.Value.string { data := #[] })), none⟩]
theorem ir.internal_strconv_FormatUint.r0.w (e : Env) (h : AHeap) (Q : Post) : wpC Tryd.prog nG ir.internal_strconv_FormatUint.r0 e h Q = lk (look e 0) (fun v0 => lk (look e 1) (fun v1 => wI Tryd.prog nG (.mv (.const (Go.Value.string { data := #[] }))) h fun v4 h => Q .normal [(0, v0), (1, v1)] h) ()) () := lkm (lkm (wR (Rn rfl fun v4 h => rfl)))
def ir.internal_strconv_FormatUint.r1 : C := .region [0, 1, 10] [⟨some 9, .mv (.tmp 1), none⟩, ⟨some 10, .bin .eql (.tmp 9) (.const (.int .i64 10)), none⟩]
theorem ir.internal_strconv_FormatUint.r1.w (e : Env) (h : AHeap) (Q : Post) : wpC Tryd.prog nG ir.internal_strconv_FormatUint.r1 e h Q = lk (look e 0) (fun v0 => lk (look e 1) (fun v1 => wI Tryd.prog nG (.mv (.const v1)) h fun v9 h => wI Tryd.prog nG (.bin .eql (.const v9) (.const (.int .i64 10))) h fun v10 h => Q .normal [(0, v0), (1, v1), (10, v10)] h) ()) () := lkm (lkm (wR (Rn rfl fun v9 h => Rn rfl fun v10 h => rfl)))
def ir.internal_strconv_FormatUint.r2 : C := .region [0, 12] [⟨some 11, .mv (.tmp 0), none⟩, ⟨some 12, .bin .lss (.tmp 11) (.const (.int .u64 100)), none⟩]
theorem ir.internal_strconv_FormatUint.r2.w (e : Env) (h : AHeap) (Q : Post) : wpC Tryd.prog nG ir.internal_strconv_FormatUint.r2 e h Q = lk (look e 0) (fun v0 => wI Tryd.prog nG (.mv (.const v0)) h fun v11 h => wI Tryd.prog nG (.bin .lss (.const v11) (.const (.int .u64 100))) h fun v12 h => Q .normal [(0, v0), (12, v12)] h) () := lkm (wR (Rn rfl fun v11 h => Rn rfl fun v12 h => rfl))
def ir.internal_strconv_FormatUint.r3 : C := .region [4] [⟨some 13, .mv (.tmp 0), none⟩, ⟨some 14, .conv .i64 (.tmp 13), none⟩, ⟨some 15, .call fn.internal_strconv_small [.tmp 14], none⟩, ⟨some 4, .mv (.tmp 15), none⟩]
theorem ir.internal_strconv_FormatUint.r3.w (e : Env) (h : AHeap) (Q : Post) : wpC Tryd.prog nG ir.internal_strconv_FormatUint.r3 e h Q = lk (look e 0) (fun v0 => wI Tryd.prog nG (.mv (.const v0)) h fun v13 h => wI Tryd.prog nG (.conv .i64 (.const v13)) h fun v14 h => wI Tryd.prog nG (.call fn.internal_strconv_small [.const v14]) h fun v15 h => wI Tryd.prog nG (.mv (.const v15)) h fun v4 h => Q .normal [(4, v4)] h) () := lkm (wR (Rn rfl fun v13 h => Rn rfl fun v14 h => Rn rfl fun v15 h => Rn rfl fun v4 h => rfl))
def ir.internal_strconv_FormatUint.r4 : C := .region [0, 5] [⟨some 5, .new (zrep 24 (.int .u8 0)), none⟩]
theorem ir.internal_strconv_FormatUint.r4.w (e : Env) (h : AHeap) (Q : Post) : wpC Tryd.prog nG ir.internal_strconv_FormatUint.r4 e h Q = lk (look e 0) (fun v0 => wI Tryd.prog nG (.new (zrep 24 (.int .u8 0))) h fun v5 h => Q .normal [(0, v0), (5, v5)] h) () := lkm (wR (Rn rfl fun v5 h => rfl))
def ir.internal_strconv_FormatUint.r5 : C := .region [0, 5, 6] [⟨some 16, .mv (.tmp 0), none⟩, ⟨some 17, .call fn.internal_strconv_numDigits [.tmp 16], none⟩, ⟨some 6, .mv (.tmp 17), none⟩]
theorem ir.internal_strconv_FormatUint.r5.w (e : Env) (h : AHeap) (Q : Post) : wpC Tryd.prog nG ir.internal_strconv_FormatUint.r5 e h Q = lk (look e 0) (fun v0 => lk (look e 5) (fun v5 => wI Tryd.prog nG (.mv (.const v0)) h fun v16 h => wI Tryd.prog nG (.call fn.internal_strconv_numDigits [.const v16]) h fun v17 h => wI Tryd.prog nG (.mv (.const v17)) h fun v6 h => Q .normal [(0, v0), (5, v5), (6, v6)] h) ()) () := lkm (lkm (wR (Rn rfl fun v16 h => Rn rfl fun v17 h => Rn rfl fun v6 h => rfl)))
def ir.internal_strconv_FormatUint.r6 : C := .region [5, 6] [⟨some 18, .mv (.tmp 6), none⟩, ⟨some 19, .sla 24 1 (.tmp 5) none (some (.tmp 18)), none⟩, ⟨some 20, .mv (.tmp 0), none⟩, ⟨some 21, .call fn.internal_strconv_formatBase10 [.tmp 19, .tmp 20], none⟩]
theorem ir.internal_strconv_FormatUint.r6.w (e : Env) (h : AHeap) (Q : Post) : wpC Tryd.prog nG ir.internal_strconv_FormatUint.r6 e h Q = lk (look e 0) (fun v0 => lk (look e 5) (fun v5 => lk (look e 6) (fun v6 => wI Tryd.prog nG (.mv (.const v6)) h fun v18 h => wI Tryd.prog nG (.sla 24 1 (.const v5) none (some (.const v18))) h fun v19 h => wI Tryd.prog nG (.mv (.const v0)) h fun v20 h => wI Tryd.prog nG (.call fn.internal_strconv_formatBase10 [.const v19, .const v20]) h fun v21 h => Q .normal [(5, v5), (6, v6)] h) ()) ()) () := lkm (lkm (lkm (wR (Rn rfl fun v18 h => Rn rfl fun v19 h => Rn rfl fun v20 h => Rn rfl fun v21 h => rfl))))
def ir.internal_strconv_FormatUint.r7 : C := .region [4] [⟨some 22, .mv (.tmp 6), none⟩, ⟨some 23, .sla 24 1 (.tmp 5) none (some (.tmp 22)), none⟩, ⟨some 24, .bts (.tmp 23), none⟩, ⟨some 4, .mv (.tmp 24), none⟩]
theorem ir.internal_strconv_FormatUint.r7.w (e : Env) (h : AHeap) (Q : Post) : wpC Tryd.prog nG ir.internal_strconv_FormatUint.r7 e h Q = lk (look e 5) (fun v5 => lk (look e 6) (fun v6 => wI Tryd.prog nG (.mv (.const v6)) h fun v22 h => wI Tryd.prog nG (.sla 24 1 (.const v5) none (some (.const v22))) h fun v23 h => wI Tryd.prog nG (.bts (.const v23)) h fun v24 h => wI Tryd.prog nG (.mv (.const v24)) h fun v4 h => Q .normal [(4, v4)] h) ()) () := lkm (lkm (wR (Rn rfl fun v22 h => Rn rfl fun v23 h => Rn rfl fun v24 h => Rn rfl fun v4 h => rfl)))
def ir.internal_strconv_FormatUint.r8 : C := .region [8] [⟨some 26, .mv (.tmp 0), none⟩, ⟨some 27, .mv (.tmp 1), none⟩, ⟨some 28, .call fn.internal_strconv_formatBits [.const (.slice none 0 0), .tmp 26, .tmp 27, .const (.bool false), .const (.bool false)], none⟩, ⟨some 25, .mv (.tmp 28), none⟩, ⟨some 29, .ext (.tmp 25) 0, none⟩, ⟨some 30, .ext (.tmp 25) 1, none⟩, ⟨some 7, .mv (.tmp 29), none⟩, ⟨some 8, .mv (.tmp 30), none⟩]
theorem ir.internal_strconv_FormatUint.r8.w (e : Env) (h : AHeap) (Q : Post) : wpC Tryd.prog nG ir.internal_strconv_FormatUint.r8 e h Q = lk (look e 0) (fun v0 => lk (look e 1) (fun v1 => wI Tryd.prog nG (.mv (.const v0)) h fun v26 h => wI Tryd.prog nG (.mv (.const v1)) h fun v27 h => wI Tryd.prog nG (.call fn.internal_strconv_formatBits [.const (.slice none 0 0), .const v26, .const v27, .const (.bool false), .const (.bool false)]) h fun v28 h => wI Tryd.prog nG (.mv (.const v28)) h fun v25 h => wI Tryd.prog nG (.ext (.const v25) 0) h fun v29 h => wI Tryd.prog nG (.ext (.const v25) 1) h fun v30 h => wI Tryd.prog nG (.mv (.const v29)) h fun v7 h => wI Tryd.prog nG (.mv (.const v30)) h fun v8 h => Q .normal [(8, v8)] h) ()) () := lkm (lkm (wR (Rn rfl fun v26 h => Rn rfl fun v27 h => Rn rfl fun v28 h => Rn rfl fun v25 h => Rn rfl fun v29 h => Rn rfl fun v30 h => Rn rfl fun v7 h => Rn rfl fun v8 h => rfl)))
def ir.internal_strconv_FormatUint.r9 : C := .region [4] [⟨some 31, .mv (.tmp 8), none⟩, ⟨some 4, .mv (.tmp 31), none⟩]
theorem ir.internal_strconv_FormatUint.r9.w (e : Env) (h : AHeap) (Q : Post) : wpC Tryd.prog nG ir.internal_strconv_FormatUint.r9 e h Q = lk (look e 8) (fun v8 => wI Tryd.prog nG (.mv (.const v8)) h fun v31 h => wI Tryd.prog nG (.mv (.const v31)) h fun v4 h => Q .normal [(4, v4)] h) () := lkm (wR (Rn rfl fun v31 h => Rn rfl fun v4 h => rfl))
def ir.internal_strconv_FormatUint : C := (.seq ir.internal_strconv_FormatUint.r0 (.seq (.seq ir.internal_strconv_FormatUint.r1 (.cond (.tmp 10) (.seq (.seq ir.internal_strconv_FormatUint.r2 (.cond (.tmp 12) (.seq ir.internal_strconv_FormatUint.r3 .ret) .skip)) (.seq ir.internal_strconv_FormatUint.r4 (.seq ir.internal_strconv_FormatUint.r5 (.seq ir.internal_strconv_FormatUint.r6 (.seq ir.internal_strconv_FormatUint.r7 .ret))))) .skip)) (.seq ir.internal_strconv_FormatUint.r8 (.seq ir.internal_strconv_FormatUint.r9 .ret))))
theorem ir.internal_strconv_FormatUint.bw (e : Env) (h : AHeap) (Q : Post) : wpC Tryd.prog nG ir.internal_strconv_FormatUint e h Q = wpC Tryd.prog nG (.seq ir.internal_strconv_FormatUint.r0 (.seq (.seq ir.internal_strconv_FormatUint.r1 (.cond (.tmp 10) (.seq (.seq ir.internal_strconv_FormatUint.r2 (.cond (.tmp 12) (.seq ir.internal_strconv_FormatUint.r3 .ret) .skip)) (.seq ir.internal_strconv_FormatUint.r4 (.seq ir.internal_strconv_FormatUint.r5 (.seq ir.internal_strconv_FormatUint.r6 (.seq ir.internal_strconv_FormatUint.r7 .ret))))) .skip)) (.seq ir.internal_strconv_FormatUint.r8 (.seq ir.internal_strconv_FormatUint.r9 .ret)))) e h Q := (rfl)
def ir.internal_strconv_FormatUint.rs : List RV := [.tmp 4]
theorem ir.internal_strconv_FormatUint.ok : resC Tryd.prog nG 32 ir.internal_strconv_FormatUint.ks (Tryd.f101.body.getD .skip) = some ir.internal_strconv_FormatUint := by kernel_rfl
theorem ir.internal_strconv_FormatUint.rok : Tryd.f101.results.toList.mapM (resR Tryd.prog) = some ir.internal_strconv_FormatUint.rs := by kernel_rfl
theorem ir.internal_strconv_FormatUint.spec {args : List Value} {h : AHeap} {v : Value} {h' : AHeap} (hn : args.length ≤ 32) :
    (wpC Tryd.prog nG ir.internal_strconv_FormatUint (args.zipIdx.map fun p => (p.2, p.1)) h (retQ ir.internal_strconv_FormatUint.rs h v h')) → Spec Tryd.prog nG fn.internal_strconv_FormatUint args h v h' :=
  Spec.intro (fn := Tryd.f101) Tryd.func101 (c := Tryd.f101.body.getD .skip) (by kernel_rfl) ir.internal_strconv_FormatUint.ok ir.internal_strconv_FormatUint.rok hn
attribute [go_sem ↓] ir.internal_strconv_FormatUint.r0.w ir.internal_strconv_FormatUint.r1.w ir.internal_strconv_FormatUint.r2.w ir.internal_strconv_FormatUint.r3.w ir.internal_strconv_FormatUint.r4.w ir.internal_strconv_FormatUint.r5.w ir.internal_strconv_FormatUint.r6.w ir.internal_strconv_FormatUint.r7.w ir.internal_strconv_FormatUint.r8.w ir.internal_strconv_FormatUint.r9.w
attribute [go_sem] ir.internal_strconv_FormatUint.rs

/-! ### internal/strconv.Itoa: function 102 -/
def ir.internal_strconv_Itoa.ks : Nat → List Nat := fun
  | 0 => [0]
  | 1 => [2]
  | _ => []
def ir.internal_strconv_Itoa.r0 : C := .region [0] [⟨some 2, .mv (.const (Go.Value.string { data := #[] })), none⟩]
theorem ir.internal_strconv_Itoa.r0.w (e : Env) (h : AHeap) (Q : Post) : wpC Tryd.prog nG ir.internal_strconv_Itoa.r0 e h Q = lk (look e 0) (fun v0 => wI Tryd.prog nG (.mv (.const (Go.Value.string { data := #[] }))) h fun v2 h => Q .normal [(0, v0)] h) () := lkm (wR (Rn rfl fun v2 h => rfl))
def ir.internal_strconv_Itoa.r1 : C := .region [2] [⟨some 3, .mv (.tmp 0), none⟩, ⟨some 4, .call fn.internal_strconv_FormatInt [.tmp 3, .const (.int .i64 10)], none⟩, ⟨some 2, .mv (.tmp 4), none⟩]
theorem ir.internal_strconv_Itoa.r1.w (e : Env) (h : AHeap) (Q : Post) : wpC Tryd.prog nG ir.internal_strconv_Itoa.r1 e h Q = lk (look e 0) (fun v0 => wI Tryd.prog nG (.mv (.const v0)) h fun v3 h => wI Tryd.prog nG (.call fn.internal_strconv_FormatInt [.const v3, .const (.int .i64 10)]) h fun v4 h => wI Tryd.prog nG (.mv (.const v4)) h fun v2 h => Q .normal [(2, v2)] h) () := lkm (wR (Rn rfl fun v3 h => Rn rfl fun v4 h => Rn rfl fun v2 h => rfl))
def ir.internal_strconv_Itoa : C := (.seq ir.internal_strconv_Itoa.r0 (.seq ir.internal_strconv_Itoa.r1 .ret))
theorem ir.internal_strconv_Itoa.bw (e : Env) (h : AHeap) (Q : Post) : wpC Tryd.prog nG ir.internal_strconv_Itoa e h Q = wpC Tryd.prog nG (.seq ir.internal_strconv_Itoa.r0 (.seq ir.internal_strconv_Itoa.r1 .ret)) e h Q := (rfl)
def ir.internal_strconv_Itoa.rs : List RV := [.tmp 2]
theorem ir.internal_strconv_Itoa.ok : resC Tryd.prog nG 5 ir.internal_strconv_Itoa.ks (Tryd.f102.body.getD .skip) = some ir.internal_strconv_Itoa := by kernel_rfl
theorem ir.internal_strconv_Itoa.rok : Tryd.f102.results.toList.mapM (resR Tryd.prog) = some ir.internal_strconv_Itoa.rs := by kernel_rfl
theorem ir.internal_strconv_Itoa.spec {args : List Value} {h : AHeap} {v : Value} {h' : AHeap} (hn : args.length ≤ 5) :
    (wpC Tryd.prog nG ir.internal_strconv_Itoa (args.zipIdx.map fun p => (p.2, p.1)) h (retQ ir.internal_strconv_Itoa.rs h v h')) → Spec Tryd.prog nG fn.internal_strconv_Itoa args h v h' :=
  Spec.intro (fn := Tryd.f102) Tryd.func102 (c := Tryd.f102.body.getD .skip) (by kernel_rfl) ir.internal_strconv_Itoa.ok ir.internal_strconv_Itoa.rok hn
attribute [go_sem ↓] ir.internal_strconv_Itoa.r0.w ir.internal_strconv_Itoa.r1.w
attribute [go_sem] ir.internal_strconv_Itoa.rs

/-! ### internal/strconv.FormatInt: function 109 -/
def ir.internal_strconv_FormatInt.ks : Nat → List Nat := fun
  | 0 => [0, 1]
  | 1 => [0, 1, 11]
  | 2 => [0, 17]
  | 3 => [4]
  | 4 => [0, 5]
  | 5 => [0, 5, 6]
  | 6 => [0, 5, 6, 23]
  | 7 => [0, 5, 6]
  | 8 => [0, 5, 6, 7]
  | 9 => [0, 5, 7]
  | 10 => [5, 7, 34]
  | 11 => [5, 7]
  | 12 => [4]
  | 13 => [4]
  | 14 => [9]
  | 15 => [4]
  | _ => []
def ir.internal_strconv_FormatInt.r0 : C := .region [0, 1] [⟨some 4, .mv (.const (Go.Value.string { data := #[] })), none⟩]
theorem ir.internal_strconv_FormatInt.r0.w (e : Env) (h : AHeap) (Q : Post) : wpC Tryd.prog nG ir.internal_strconv_FormatInt.r0 e h Q = lk (look e 0) (fun v0 => lk (look e 1) (fun v1 => wI Tryd.prog nG (.mv (.const (Go.Value.string { data := #[] }))) h fun v4 h => Q .normal [(0, v0), (1, v1)] h) ()) () := lkm (lkm (wR (Rn rfl fun v4 h => rfl)))
def ir.internal_strconv_FormatInt.r1 : C := .region [0, 1, 11] [⟨some 10, .mv (.tmp 1), none⟩, ⟨some 11, .bin .eql (.tmp 10) (.const (.int .i64 10)), none⟩]
theorem ir.internal_strconv_FormatInt.r1.w (e : Env) (h : AHeap) (Q : Post) : wpC Tryd.prog nG ir.internal_strconv_FormatInt.r1 e h Q = lk (look e 0) (fun v0 => lk (look e 1) (fun v1 => wI Tryd.prog nG (.mv (.const v1)) h fun v10 h => wI Tryd.prog nG (.bin .eql (.const v10) (.const (.int .i64 10))) h fun v11 h => Q .normal [(0, v0), (1, v1), (11, v11)] h) ()) () := lkm (lkm (wR (Rn rfl fun v10 h => Rn rfl fun v11 h => rfl)))
def ir.internal_strconv_FormatInt.r2 : C := .region [0, 17] [⟨some 12, .mv (.tmp 0), none⟩, ⟨some 13, .bin .leq (.const (.int .i64 0)) (.tmp 12), none⟩, ⟨some 14, .mv (.tmp 13), none⟩, ⟨some 15, .mv (.tmp 0), some (14, true)⟩, ⟨some 16, .bin .lss (.tmp 15) (.const (.int .i64 100)), some (14, true)⟩, ⟨some 17, .pick (.tmp 14) (.tmp 16) (.const (.bool false)), none⟩]
theorem ir.internal_strconv_FormatInt.r2.w (e : Env) (h : AHeap) (Q : Post) : wpC Tryd.prog nG ir.internal_strconv_FormatInt.r2 e h Q = lk (look e 0) (fun v0 => wI Tryd.prog nG (.mv (.const v0)) h fun v12 h => wI Tryd.prog nG (.bin .leq (.const (.int .i64 0)) (.const v12)) h fun v13 h => wI Tryd.prog nG (.mv (.const v13)) h fun v14 h => gdK v14 true (wI Tryd.prog nG (.mv (.const v0)) h) (fun v14 v15 h => gdK v14 true (wI Tryd.prog nG (.bin .lss (.const v15) (.const (.int .i64 100))) h) (fun v14 v16 h => wI Tryd.prog nG (.pick (.const v14) (.const v16) (.const (.bool false))) h fun v17 h => Q .normal [(0, v0), (17, v17)] h) h () ()) h () ()) () := lkm (wR (Rn rfl fun v12 h => Rn rfl fun v13 h => Rn rfl fun v14 h => Rg rfl rfl fun v14 v15 h => Rg rfl rfl fun v14 v16 h => Rn rfl fun v17 h => rfl))
def ir.internal_strconv_FormatInt.r3 : C := .region [4] [⟨some 18, .mv (.tmp 0), none⟩, ⟨some 19, .call fn.internal_strconv_small [.tmp 18], none⟩, ⟨some 4, .mv (.tmp 19), none⟩]
theorem ir.internal_strconv_FormatInt.r3.w (e : Env) (h : AHeap) (Q : Post) : wpC Tryd.prog nG ir.internal_strconv_FormatInt.r3 e h Q = lk (look e 0) (fun v0 => wI Tryd.prog nG (.mv (.const v0)) h fun v18 h => wI Tryd.prog nG (.call fn.internal_strconv_small [.const v18]) h fun v19 h => wI Tryd.prog nG (.mv (.const v19)) h fun v4 h => Q .normal [(4, v4)] h) () := lkm (wR (Rn rfl fun v18 h => Rn rfl fun v19 h => Rn rfl fun v4 h => rfl))
def ir.internal_strconv_FormatInt.r4 : C := .region [0, 5] [⟨some 5, .new (zrep 24 (.int .u8 0)), none⟩]
theorem ir.internal_strconv_FormatInt.r4.w (e : Env) (h : AHeap) (Q : Post) : wpC Tryd.prog nG ir.internal_strconv_FormatInt.r4 e h Q = lk (look e 0) (fun v0 => wI Tryd.prog nG (.new (zrep 24 (.int .u8 0))) h fun v5 h => Q .normal [(0, v0), (5, v5)] h) () := lkm (wR (Rn rfl fun v5 h => rfl))
def ir.internal_strconv_FormatInt.r5 : C := .region [0, 5, 6] [⟨some 20, .mv (.tmp 0), none⟩, ⟨some 21, .conv .u64 (.tmp 20), none⟩, ⟨some 6, .mv (.tmp 21), none⟩]
theorem ir.internal_strconv_FormatInt.r5.w (e : Env) (h : AHeap) (Q : Post) : wpC Tryd.prog nG ir.internal_strconv_FormatInt.r5 e h Q = lk (look e 0) (fun v0 => lk (look e 5) (fun v5 => wI Tryd.prog nG (.mv (.const v0)) h fun v20 h => wI Tryd.prog nG (.conv .u64 (.const v20)) h fun v21 h => wI Tryd.prog nG (.mv (.const v21)) h fun v6 h => Q .normal [(0, v0), (5, v5), (6, v6)] h) ()) () := lkm (lkm (wR (Rn rfl fun v20 h => Rn rfl fun v21 h => Rn rfl fun v6 h => rfl)))
def ir.internal_strconv_FormatInt.r6 : C := .region [0, 5, 6, 23] [⟨some 22, .mv (.tmp 0), none⟩, ⟨some 23, .bin .lss (.tmp 22) (.const (.int .i64 0)), none⟩]
theorem ir.internal_strconv_FormatInt.r6.w (e : Env) (h : AHeap) (Q : Post) : wpC Tryd.prog nG ir.internal_strconv_FormatInt.r6 e h Q = lk (look e 0) (fun v0 => lk (look e 5) (fun v5 => lk (look e 6) (fun v6 => wI Tryd.prog nG (.mv (.const v0)) h fun v22 h => wI Tryd.prog nG (.bin .lss (.const v22) (.const (.int .i64 0))) h fun v23 h => Q .normal [(0, v0), (5, v5), (6, v6), (23, v23)] h) ()) ()) () := lkm (lkm (lkm (wR (Rn rfl fun v22 h => Rn rfl fun v23 h => rfl))))
def ir.internal_strconv_FormatInt.r7 : C := .region [0, 5, 6] [⟨some 24, .mv (.tmp 6), none⟩, ⟨some 25, .un .neg (.tmp 24), none⟩, ⟨some 6, .mv (.tmp 25), none⟩]
theorem ir.internal_strconv_FormatInt.r7.w (e : Env) (h : AHeap) (Q : Post) : wpC Tryd.prog nG ir.internal_strconv_FormatInt.r7 e h Q = lk (look e 0) (fun v0 => lk (look e 5) (fun v5 => lk (look e 6) (fun v6 => wI Tryd.prog nG (.mv (.const v6)) h fun v24 h => wI Tryd.prog nG (.un .neg (.const v24)) h fun v25 h => wI Tryd.prog nG (.mv (.const v25)) h fun v6 h => Q .normal [(0, v0), (5, v5), (6, v6)] h) ()) ()) () := lkm (lkm (lkm (wR (Rn rfl fun v24 h => Rn rfl fun v25 h => Rn rfl fun v6 h => rfl))))
def ir.internal_strconv_FormatInt.r8 : C := .region [0, 5, 6, 7] [⟨some 26, .mv (.tmp 6), none⟩, ⟨some 27, .call fn.internal_strconv_numDigits [.tmp 26], none⟩, ⟨some 7, .mv (.tmp 27), none⟩]
theorem ir.internal_strconv_FormatInt.r8.w (e : Env) (h : AHeap) (Q : Post) : wpC Tryd.prog nG ir.internal_strconv_FormatInt.r8 e h Q = lk (look e 0) (fun v0 => lk (look e 5) (fun v5 => lk (look e 6) (fun v6 => wI Tryd.prog nG (.mv (.const v6)) h fun v26 h => wI Tryd.prog nG (.call fn.internal_strconv_numDigits [.const v26]) h fun v27 h => wI Tryd.prog nG (.mv (.const v27)) h fun v7 h => Q .normal [(0, v0), (5, v5), (6, v6), (7, v7)] h) ()) ()) () := lkm (lkm (lkm (wR (Rn rfl fun v26 h => Rn rfl fun v27 h => Rn rfl fun v7 h => rfl))))
def ir.internal_strconv_FormatInt.r9 : C := .region [0, 5, 7] [⟨some 28, .mv (.tmp 7), none⟩, ⟨some 29, .bin .add (.const (.int .i64 1)) (.tmp 28), none⟩, ⟨some 30, .sla 24 1 (.tmp 5) (some (.const (.int .i64 1))) (some (.tmp 29)), none⟩, ⟨some 31, .mv (.tmp 6), none⟩, ⟨some 32, .call fn.internal_strconv_formatBase10 [.tmp 30, .tmp 31], none⟩]
theorem ir.internal_strconv_FormatInt.r9.w (e : Env) (h : AHeap) (Q : Post) : wpC Tryd.prog nG ir.internal_strconv_FormatInt.r9 e h Q = lk (look e 0) (fun v0 => lk (look e 5) (fun v5 => lk (look e 6) (fun v6 => lk (look e 7) (fun v7 => wI Tryd.prog nG (.mv (.const v7)) h fun v28 h => wI Tryd.prog nG (.bin .add (.const (.int .i64 1)) (.const v28)) h fun v29 h => wI Tryd.prog nG (.sla 24 1 (.const v5) (some (.const (.int .i64 1))) (some (.const v29))) h fun v30 h => wI Tryd.prog nG (.mv (.const v6)) h fun v31 h => wI Tryd.prog nG (.call fn.internal_strconv_formatBase10 [.const v30, .const v31]) h fun v32 h => Q .normal [(0, v0), (5, v5), (7, v7)] h) ()) ()) ()) () := lkm (lkm (lkm (lkm (wR (Rn rfl fun v28 h => Rn rfl fun v29 h => Rn rfl fun v30 h => Rn rfl fun v31 h => Rn rfl fun v32 h => rfl)))))
def ir.internal_strconv_FormatInt.r10 : C := .region [5, 7, 34] [⟨some 33, .mv (.tmp 0), none⟩, ⟨some 34, .bin .lss (.tmp 33) (.const (.int .i64 0)), none⟩]
theorem ir.internal_strconv_FormatInt.r10.w (e : Env) (h : AHeap) (Q : Post) : wpC Tryd.prog nG ir.internal_strconv_FormatInt.r10 e h Q = lk (look e 0) (fun v0 => lk (look e 5) (fun v5 => lk (look e 7) (fun v7 => wI Tryd.prog nG (.mv (.const v0)) h fun v33 h => wI Tryd.prog nG (.bin .lss (.const v33) (.const (.int .i64 0))) h fun v34 h => Q .normal [(5, v5), (7, v7), (34, v34)] h) ()) ()) () := lkm (lkm (lkm (wR (Rn rfl fun v33 h => Rn rfl fun v34 h => rfl))))
def ir.internal_strconv_FormatInt.r11 : C := .region [5, 7] [⟨some 35, .ixa 24 1 (.tmp 5) (.const (.int .i64 0)), none⟩, ⟨none, .store 1 (.tmp 35) (.const (.int .u8 45)), none⟩]
theorem ir.internal_strconv_FormatInt.r11.w (e : Env) (h : AHeap) (Q : Post) : wpC Tryd.prog nG ir.internal_strconv_FormatInt.r11 e h Q = lk (look e 5) (fun v5 => lk (look e 7) (fun v7 => wI Tryd.prog nG (.ixa 24 1 (.const v5) (.const (.int .i64 0))) h fun v35 h => wI Tryd.prog nG (.store 1 (.const v35) (.const (.int .u8 45))) h fun _ h => Q .normal [(5, v5), (7, v7)] h) ()) () := lkm (lkm (wR (Rn rfl fun v35 h => Rz rfl fun v_ h => rfl)))
def ir.internal_strconv_FormatInt.r12 : C := .region [4] [⟨some 36, .mv (.tmp 7), none⟩, ⟨some 37, .bin .add (.const (.int .i64 1)) (.tmp 36), none⟩, ⟨some 38, .sla 24 1 (.tmp 5) none (some (.tmp 37)), none⟩, ⟨some 39, .bts (.tmp 38), none⟩, ⟨some 4, .mv (.tmp 39), none⟩]
theorem ir.internal_strconv_FormatInt.r12.w (e : Env) (h : AHeap) (Q : Post) : wpC Tryd.prog nG ir.internal_strconv_FormatInt.r12 e h Q = lk (look e 5) (fun v5 => lk (look e 7) (fun v7 => wI Tryd.prog nG (.mv (.const v7)) h fun v36 h => wI Tryd.prog nG (.bin .add (.const (.int .i64 1)) (.const v36)) h fun v37 h => wI Tryd.prog nG (.sla 24 1 (.const v5) none (some (.const v37))) h fun v38 h => wI Tryd.prog nG (.bts (.const v38)) h fun v39 h => wI Tryd.prog nG (.mv (.const v39)) h fun v4 h => Q .normal [(4, v4)] h) ()) () := lkm (lkm (wR (Rn rfl fun v36 h => Rn rfl fun v37 h => Rn rfl fun v38 h => Rn rfl fun v39 h => Rn rfl fun v4 h => rfl)))
def ir.internal_strconv_FormatInt.r13 : C := .region [4] [⟨some 40, .mv (.tmp 7), none⟩, ⟨some 41, .bin .add (.const (.int .i64 1)) (.tmp 40), none⟩, ⟨some 42, .sla 24 1 (.tmp 5) (some (.const (.int .i64 1))) (some (.tmp 41)), none⟩, ⟨some 43, .bts (.tmp 42), none⟩, ⟨some 4, .mv (.tmp 43), none⟩]
theorem ir.internal_strconv_FormatInt.r13.w (e : Env) (h : AHeap) (Q : Post) : wpC Tryd.prog nG ir.internal_strconv_FormatInt.r13 e h Q = lk (look e 5) (fun v5 => lk (look e 7) (fun v7 => wI Tryd.prog nG (.mv (.const v7)) h fun v40 h => wI Tryd.prog nG (.bin .add (.const (.int .i64 1)) (.const v40)) h fun v41 h => wI Tryd.prog nG (.sla 24 1 (.const v5) (some (.const (.int .i64 1))) (some (.const v41))) h fun v42 h => wI Tryd.prog nG (.bts (.const v42)) h fun v43 h => wI Tryd.prog nG (.mv (.const v43)) h fun v4 h => Q .normal [(4, v4)] h) ()) () := lkm (lkm (wR (Rn rfl fun v40 h => Rn rfl fun v41 h => Rn rfl fun v42 h => Rn rfl fun v43 h => Rn rfl fun v4 h => rfl)))
def ir.internal_strconv_FormatInt.r14 : C := .region [9] [⟨some 45, .mv (.tmp 0), none⟩, ⟨some 46, .conv .u64 (.tmp 45), none⟩, ⟨some 47, .mv (.tmp 1), none⟩, ⟨some 48, .mv (.tmp 0), none⟩, ⟨some 49, .bin .lss (.tmp 48) (.const (.int .i64 0)), none⟩, ⟨some 50, .call fn.internal_strconv_formatBits [.const (.slice none 0 0), .tmp 46, .tmp 47, .tmp 49, .const (.bool false)], none⟩, ⟨some 44, .mv (.tmp 50), none⟩, ⟨some 51, .ext (.tmp 44) 0, none⟩, ⟨some 52, .ext (.tmp 44) 1, none⟩, ⟨some 8, .mv (.tmp 51), none⟩, ⟨some 9, .mv (.tmp 52), none⟩]
theorem ir.internal_strconv_FormatInt.r14.w (e : Env) (h : AHeap) (Q : Post) : wpC Tryd.prog nG ir.internal_strconv_FormatInt.r14 e h Q = lk (look e 0) (fun v0 => lk (look e 1) (fun v1 => wI Tryd.prog nG (.mv (.const v0)) h fun v45 h => wI Tryd.prog nG (.conv .u64 (.const v45)) h fun v46 h => wI Tryd.prog nG (.mv (.const v1)) h fun v47 h => wI Tryd.prog nG (.mv (.const v0)) h fun v48 h => wI Tryd.prog nG (.bin .lss (.const v48) (.const (.int .i64 0))) h fun v49 h => wI Tryd.prog nG (.call fn.internal_strconv_formatBits [.const (.slice none 0 0), .const v46, .const v47, .const v49, .const (.bool false)]) h fun v50 h => wI Tryd.prog nG (.mv (.const v50)) h fun v44 h => wI Tryd.prog nG (.ext (.const v44) 0) h fun v51 h => wI Tryd.prog nG (.ext (.const v44) 1) h fun v52 h => wI Tryd.prog nG (.mv (.const v51)) h fun v8 h => wI Tryd.prog nG (.mv (.const v52)) h fun v9 h => Q .normal [(9, v9)] h) ()) () := lkm (lkm (wR (Rn rfl fun v45 h => Rn rfl fun v46 h => Rn rfl fun v47 h => Rn rfl fun v48 h => Rn rfl fun v49 h => Rn rfl fun v50 h => Rn rfl fun v44 h => Rn rfl fun v51 h => Rn rfl fun v52 h => Rn rfl fun v8 h => Rn rfl fun v9 h => rfl)))
def ir.internal_strconv_FormatInt.r15 : C := .region [4] [⟨some 53, .mv (.tmp 9), none⟩, ⟨some 4, .mv (.tmp 53), none⟩]
theorem ir.internal_strconv_FormatInt.r15.w (e : Env) (h : AHeap) (Q : Post) : wpC Tryd.prog nG ir.internal_strconv_FormatInt.r15 e h Q = lk (look e 9) (fun v9 => wI Tryd.prog nG (.mv (.const v9)) h fun v53 h => wI Tryd.prog nG (.mv (.const v53)) h fun v4 h => Q .normal [(4, v4)] h) () := lkm (wR (Rn rfl fun v53 h => Rn rfl fun v4 h => rfl))
def ir.internal_strconv_FormatInt : C := (.seq ir.internal_strconv_FormatInt.r0 (.seq (.seq ir.internal_strconv_FormatInt.r1 (.cond (.tmp 11) (.seq (.seq ir.internal_strconv_FormatInt.r2 (.cond (.tmp 17) (.seq ir.internal_strconv_FormatInt.r3 .ret) .skip)) (.seq ir.internal_strconv_FormatInt.r4 (.seq ir.internal_strconv_FormatInt.r5 (.seq (.seq ir.internal_strconv_FormatInt.r6 (.cond (.tmp 23) ir.internal_strconv_FormatInt.r7 .skip)) (.seq ir.internal_strconv_FormatInt.r8 (.seq ir.internal_strconv_FormatInt.r9 (.seq (.seq ir.internal_strconv_FormatInt.r10 (.cond (.tmp 34) (.seq ir.internal_strconv_FormatInt.r11 (.seq ir.internal_strconv_FormatInt.r12 .ret)) .skip)) (.seq ir.internal_strconv_FormatInt.r13 .ret)))))))) .skip)) (.seq ir.internal_strconv_FormatInt.r14 (.seq ir.internal_strconv_FormatInt.r15 .ret))))
theorem ir.internal_strconv_FormatInt.bw (e : Env) (h : AHeap) (Q : Post) : wpC Tryd.prog nG ir.internal_strconv_FormatInt e h Q = wpC Tryd.prog nG (.seq ir.internal_strconv_FormatInt.r0 (.seq (.seq ir.internal_strconv_FormatInt.r1 (.cond (.tmp 11) (.seq (.seq ir.internal_strconv_FormatInt.r2 (.cond (.tmp 17) (.seq ir.internal_strconv_FormatInt.r3 .ret) .skip)) (.seq ir.internal_strconv_FormatInt.r4 (.seq ir.internal_strconv_FormatInt.r5 (.seq (.seq ir.internal_strconv_FormatInt.r6 (.cond (.tmp 23) ir.internal_strconv_FormatInt.r7 .skip)) (.seq ir.internal_strconv_FormatInt.r8 (.seq ir.internal_strconv_FormatInt.r9 (.seq (.seq ir.internal_strconv_FormatInt.r10 (.cond (.tmp 34) (.seq ir.internal_strconv_FormatInt.r11 (.seq ir.internal_strconv_FormatInt.r12 .ret)) .skip)) (.seq ir.internal_strconv_FormatInt.r13 .ret)))))))) .skip)) (.seq ir.internal_strconv_FormatInt.r14 (.seq ir.internal_strconv_FormatInt.r15 .ret)))) e h Q := (rfl)
def ir.internal_strconv_FormatInt.rs : List RV := [.tmp 4]
theorem ir.internal_strconv_FormatInt.ok : resC Tryd.prog nG 54 ir.internal_strconv_FormatInt.ks (Tryd.f109.body.getD .skip) = some ir.internal_strconv_FormatInt := by kernel_rfl
theorem ir.internal_strconv_FormatInt.rok : Tryd.f109.results.toList.mapM (resR Tryd.prog) = some ir.internal_strconv_FormatInt.rs := by kernel_rfl
theorem ir.internal_strconv_FormatInt.spec {args : List Value} {h : AHeap} {v : Value} {h' : AHeap} (hn : args.length ≤ 54) :
    (wpC Tryd.prog nG ir.internal_strconv_FormatInt (args.zipIdx.map fun p => (p.2, p.1)) h (retQ ir.internal_strconv_FormatInt.rs h v h')) → Spec Tryd.prog nG fn.internal_strconv_FormatInt args h v h' :=
  Spec.intro (fn := Tryd.f109) Tryd.func109 (c := Tryd.f109.body.getD .skip) (by kernel_rfl) ir.internal_strconv_FormatInt.ok ir.internal_strconv_FormatInt.rok hn
attribute [go_sem ↓] ir.internal_strconv_FormatInt.r0.w ir.internal_strconv_FormatInt.r1.w ir.internal_strconv_FormatInt.r2.w ir.internal_strconv_FormatInt.r3.w ir.internal_strconv_FormatInt.r4.w ir.internal_strconv_FormatInt.r5.w ir.internal_strconv_FormatInt.r6.w ir.internal_strconv_FormatInt.r7.w ir.internal_strconv_FormatInt.r8.w ir.internal_strconv_FormatInt.r9.w ir.internal_strconv_FormatInt.r10.w ir.internal_strconv_FormatInt.r11.w ir.internal_strconv_FormatInt.r12.w ir.internal_strconv_FormatInt.r13.w ir.internal_strconv_FormatInt.r14.w ir.internal_strconv_FormatInt.r15.w
attribute [go_sem] ir.internal_strconv_FormatInt.rs

/-! ### internal/strconv.small: function 118 -/
def ir.internal_strconv_small.ks : Nat → List Nat := fun
  | 0 => [0]
  | 1 => [0, 4]
  | 2 => [2]
  | 3 => [2]
  | _ => []
def ir.internal_strconv_small.r0 : C := .region [0] [⟨some 2, .mv (.const (Go.Value.string { data := #[] })), none⟩]
theorem ir.internal_strconv_small.r0.w (e : Env) (h : AHeap) (Q : Post) : wpC Tryd.prog nG ir.internal_strconv_small.r0 e h Q = lk (look e 0) (fun v0 => wI Tryd.prog nG (.mv (.const (Go.Value.string { data := #[] }))) h fun v2 h => Q .normal [(0, v0)] h) () := lkm (wR (Rn rfl fun v2 h => rfl))
def ir.internal_strconv_small.r1 : C := .region [0, 4] [⟨some 3, .mv (.tmp 0), none⟩, ⟨some 4, .bin .lss (.tmp 3) (.const (.int .i64 10)), none⟩]
theorem ir.internal_strconv_small.r1.w (e : Env) (h : AHeap) (Q : Post) : wpC Tryd.prog nG ir.internal_strconv_small.r1 e h Q = lk (look e 0) (fun v0 => wI Tryd.prog nG (.mv (.const v0)) h fun v3 h => wI Tryd.prog nG (.bin .lss (.const v3) (.const (.int .i64 10))) h fun v4 h => Q .normal [(0, v0), (4, v4)] h) () := lkm (wR (Rn rfl fun v3 h => Rn rfl fun v4 h => rfl))
def ir.internal_strconv_small.r2 : C := .region [2] [⟨some 5, .mv (.tmp 0), none⟩, ⟨some 6, .mv (.tmp 0), none⟩, ⟨some 7, .bin .add (.tmp 6) (.const (.int .i64 1)), none⟩, ⟨some 8, .slstr (.const (.string lit_e9b1713d)) (some (.tmp 5)) (some (.tmp 7)), none⟩, ⟨some 2, .mv (.tmp 8), none⟩]
theorem ir.internal_strconv_small.r2.w (e : Env) (h : AHeap) (Q : Post) : wpC Tryd.prog nG ir.internal_strconv_small.r2 e h Q = lk (look e 0) (fun v0 => wI Tryd.prog nG (.mv (.const v0)) h fun v5 h => wI Tryd.prog nG (.mv (.const v0)) h fun v6 h => wI Tryd.prog nG (.bin .add (.const v6) (.const (.int .i64 1))) h fun v7 h => wI Tryd.prog nG (.slstr (.const (.string lit_e9b1713d)) (some (.const v5)) (some (.const v7))) h fun v8 h => wI Tryd.prog nG (.mv (.const v8)) h fun v2 h => Q .normal [(2, v2)] h) () := lkm (wR (Rn rfl fun v5 h => Rn rfl fun v6 h => Rn rfl fun v7 h => Rn rfl fun v8 h => Rn rfl fun v2 h => rfl))
def ir.internal_strconv_small.r3 : C := .region [2] [⟨some 9, .mv (.tmp 0), none⟩, ⟨some 10, .bin .mul (.tmp 9) (.const (.int .i64 2)), none⟩, ⟨some 11, .mv (.tmp 0), none⟩, ⟨some 12, .bin .mul (.tmp 11) (.const (.int .i64 2)), none⟩, ⟨some 13, .bin .add (.tmp 12) (.const (.int .i64 2)), none⟩, ⟨some 14, .slstr (.const (.string lit_db3e2f51)) (some (.tmp 10)) (some (.tmp 13)), none⟩, ⟨some 2, .mv (.tmp 14), none⟩]
theorem ir.internal_strconv_small.r3.w (e : Env) (h : AHeap) (Q : Post) : wpC Tryd.prog nG ir.internal_strconv_small.r3 e h Q = lk (look e 0) (fun v0 => wI Tryd.prog nG (.mv (.const v0)) h fun v9 h => wI Tryd.prog nG (.bin .mul (.const v9) (.const (.int .i64 2))) h fun v10 h => wI Tryd.prog nG (.mv (.const v0)) h fun v11 h => wI Tryd.prog nG (.bin .mul (.const v11) (.const (.int .i64 2))) h fun v12 h => wI Tryd.prog nG (.bin .add (.const v12) (.const (.int .i64 2))) h fun v13 h => wI Tryd.prog nG (.slstr (.const (.string lit_db3e2f51)) (some (.const v10)) (some (.const v13))) h fun v14 h => wI Tryd.prog nG (.mv (.const v14)) h fun v2 h => Q .normal [(2, v2)] h) () := lkm (wR (Rn rfl fun v9 h => Rn rfl fun v10 h => Rn rfl fun v11 h => Rn rfl fun v12 h => Rn rfl fun v13 h => Rn rfl fun v14 h => Rn rfl fun v2 h => rfl))
def ir.internal_strconv_small : C := (.seq ir.internal_strconv_small.r0 (.seq (.seq ir.internal_strconv_small.r1 (.cond (.tmp 4) (.seq ir.internal_strconv_small.r2 .ret) .skip)) (.seq ir.internal_strconv_small.r3 .ret)))
theorem ir.internal_strconv_small.bw (e : Env) (h : AHeap) (Q : Post) : wpC Tryd.prog nG ir.internal_strconv_small e h Q = wpC Tryd.prog nG (.seq ir.internal_strconv_small.r0 (.seq (.seq ir.internal_strconv_small.r1 (.cond (.tmp 4) (.seq ir.internal_strconv_small.r2 .ret) .skip)) (.seq ir.internal_strconv_small.r3 .ret))) e h Q := (rfl)
def ir.internal_strconv_small.rs : List RV := [.tmp 2]
theorem ir.internal_strconv_small.ok : resC Tryd.prog nG 15 ir.internal_strconv_small.ks (Tryd.f118.body.getD .skip) = some ir.internal_strconv_small := by kernel_rfl
theorem ir.internal_strconv_small.rok : Tryd.f118.results.toList.mapM (resR Tryd.prog) = some ir.internal_strconv_small.rs := by kernel_rfl
theorem ir.internal_strconv_small.spec {args : List Value} {h : AHeap} {v : Value} {h' : AHeap} (hn : args.length ≤ 15) :
    (wpC Tryd.prog nG ir.internal_strconv_small (args.zipIdx.map fun p => (p.2, p.1)) h (retQ ir.internal_strconv_small.rs h v h')) → Spec Tryd.prog nG fn.internal_strconv_small args h v h' :=
  Spec.intro (fn := Tryd.f118) Tryd.func118 (c := Tryd.f118.body.getD .skip) (by kernel_rfl) ir.internal_strconv_small.ok ir.internal_strconv_small.rok hn
attribute [go_sem ↓] ir.internal_strconv_small.r0.w ir.internal_strconv_small.r1.w ir.internal_strconv_small.r2.w ir.internal_strconv_small.r3.w
attribute [go_sem] ir.internal_strconv_small.rs

/-! ### internal/strconv.numDigits: function 119 -/
def ir.internal_strconv_numDigits.ks : Nat → List Nat := fun
  | 0 => [0]
  | 1 => [0, 3]
  | 2 => [2]
  | _ => []
def ir.internal_strconv_numDigits.r0 : C := .region [0] [⟨some 2, .mv (.const (.int .i64 0)), none⟩]
theorem ir.internal_strconv_numDigits.r0.w (e : Env) (h : AHeap) (Q : Post) : wpC Tryd.prog nG ir.internal_strconv_numDigits.r0 e h Q = lk (look e 0) (fun v0 => wI Tryd.prog nG (.mv (.const (.int .i64 0))) h fun v2 h => Q .normal [(0, v0)] h) () := lkm (wR (Rn rfl fun v2 h => rfl))
def ir.internal_strconv_numDigits.r1 : C := .region [0, 3] [⟨some 4, .mv (.tmp 0), none⟩, ⟨some 5, .call fn.math_bits_Len64 [.tmp 4], none⟩, ⟨some 6, .call fn.internal_strconv_log10Pow2 [.tmp 5], none⟩, ⟨some 3, .mv (.tmp 6), none⟩]
theorem ir.internal_strconv_numDigits.r1.w (e : Env) (h : AHeap) (Q : Post) : wpC Tryd.prog nG ir.internal_strconv_numDigits.r1 e h Q = lk (look e 0) (fun v0 => wI Tryd.prog nG (.mv (.const v0)) h fun v4 h => wI Tryd.prog nG (.call fn.math_bits_Len64 [.const v4]) h fun v5 h => wI Tryd.prog nG (.call fn.internal_strconv_log10Pow2 [.const v5]) h fun v6 h => wI Tryd.prog nG (.mv (.const v6)) h fun v3 h => Q .normal [(0, v0), (3, v3)] h) () := lkm (wR (Rn rfl fun v4 h => Rn rfl fun v5 h => Rn rfl fun v6 h => Rn rfl fun v3 h => rfl))
def ir.internal_strconv_numDigits.r2 : C := .region [2] [⟨some 7, .mv (.tmp 3), none⟩, ⟨some 8, .mv (.tmp 0), none⟩, ⟨some 9, .mv (.tmp 3), none⟩, ⟨some 10, .ixa 20 1 (.global 3) (.tmp 9), none⟩, ⟨some 11, .load false 1 (.tmp 10), none⟩, ⟨some 12, .bin .geq (.tmp 8) (.tmp 11), none⟩, ⟨some 13, .call fn.internal_strconv_bool2_int [.tmp 12], none⟩, ⟨some 14, .bin .add (.tmp 7) (.tmp 13), none⟩, ⟨some 2, .mv (.tmp 14), none⟩]
theorem ir.internal_strconv_numDigits.r2.w (e : Env) (h : AHeap) (Q : Post) : wpC Tryd.prog nG ir.internal_strconv_numDigits.r2 e h Q = lk (look e 0) (fun v0 => lk (look e 3) (fun v3 => wI Tryd.prog nG (.mv (.const v3)) h fun v7 h => wI Tryd.prog nG (.mv (.const v0)) h fun v8 h => wI Tryd.prog nG (.mv (.const v3)) h fun v9 h => wI Tryd.prog nG (.ixa 20 1 (.const (.pointer (some ⟨3, 0, none⟩))) (.const v9)) h fun v10 h => wI Tryd.prog nG (.load false 1 (.const v10)) h fun v11 h => wI Tryd.prog nG (.bin .geq (.const v8) (.const v11)) h fun v12 h => wI Tryd.prog nG (.call fn.internal_strconv_bool2_int [.const v12]) h fun v13 h => wI Tryd.prog nG (.bin .add (.const v7) (.const v13)) h fun v14 h => wI Tryd.prog nG (.mv (.const v14)) h fun v2 h => Q .normal [(2, v2)] h) ()) () := lkm (lkm (wR (Rn rfl fun v7 h => Rn rfl fun v8 h => Rn rfl fun v9 h => Rn rfl fun v10 h => Rn rfl fun v11 h => Rn rfl fun v12 h => Rn rfl fun v13 h => Rn rfl fun v14 h => Rn rfl fun v2 h => rfl)))
def ir.internal_strconv_numDigits : C := (.seq ir.internal_strconv_numDigits.r0 (.seq ir.internal_strconv_numDigits.r1 (.seq ir.internal_strconv_numDigits.r2 .ret)))
theorem ir.internal_strconv_numDigits.bw (e : Env) (h : AHeap) (Q : Post) : wpC Tryd.prog nG ir.internal_strconv_numDigits e h Q = wpC Tryd.prog nG (.seq ir.internal_strconv_numDigits.r0 (.seq ir.internal_strconv_numDigits.r1 (.seq ir.internal_strconv_numDigits.r2 .ret))) e h Q := (rfl)
def ir.internal_strconv_numDigits.rs : List RV := [.tmp 2]
theorem ir.internal_strconv_numDigits.ok : resC Tryd.prog nG 15 ir.internal_strconv_numDigits.ks (Tryd.f119.body.getD .skip) = some ir.internal_strconv_numDigits := by kernel_rfl
theorem ir.internal_strconv_numDigits.rok : Tryd.f119.results.toList.mapM (resR Tryd.prog) = some ir.internal_strconv_numDigits.rs := by kernel_rfl
theorem ir.internal_strconv_numDigits.spec {args : List Value} {h : AHeap} {v : Value} {h' : AHeap} (hn : args.length ≤ 15) :
    (wpC Tryd.prog nG ir.internal_strconv_numDigits (args.zipIdx.map fun p => (p.2, p.1)) h (retQ ir.internal_strconv_numDigits.rs h v h')) → Spec Tryd.prog nG fn.internal_strconv_numDigits args h v h' :=
  Spec.intro (fn := Tryd.f119) Tryd.func119 (c := Tryd.f119.body.getD .skip) (by kernel_rfl) ir.internal_strconv_numDigits.ok ir.internal_strconv_numDigits.rok hn
attribute [go_sem ↓] ir.internal_strconv_numDigits.r0.w ir.internal_strconv_numDigits.r1.w ir.internal_strconv_numDigits.r2.w
attribute [go_sem] ir.internal_strconv_numDigits.rs

/-! ### internal/strconv.formatBase10: function 120 -/
def ir.internal_strconv_formatBase10.ks : Nat → List Nat := fun
  | 0 => [0, 1, 4]
  | 1 => [0, 1, 4, 20]
  | 2 => [0, 1, 4, 5]
  | 3 => [0, 1, 4, 5]
  | 4 => [0, 1, 4, 6, 7]
  | 5 => [0, 1, 4, 6, 8, 9]
  | 6 => [0, 1, 4, 8, 9, 10, 11]
  | 7 => [0, 1, 4, 8, 10, 11]
  | 8 => [0, 1, 4, 10, 11]
  | 9 => [0, 1, 4, 10]
  | 10 => [0, 1, 4]
  | 11 => [0, 1, 4]
  | 12 => [0, 4, 12]
  | 13 => [0, 4, 12, 99]
  | 14 => [0, 4, 12, 13]
  | 15 => [0, 4, 12, 13]
  | 16 => [0, 4, 12, 14, 15]
  | 17 => [0, 4, 12, 14]
  | 18 => [0, 4, 12]
  | 19 => [0, 4, 12]
  | 20 => [0, 4, 12, 139]
  | 21 => [0, 4, 12, 16]
  | 22 => [0, 4, 12, 16]
  | 23 => [0, 4, 12]
  | 24 => [0, 4, 12]
  | 25 => [0, 12, 161]
  | 26 => []
  | _ => []
def ir.internal_strconv_formatBase10.r0 : C := .region [0, 1, 4] [⟨some 17, .mv (.tmp 0), none⟩, ⟨some 18, .len false (.tmp 17), none⟩, ⟨some 4, .mv (.tmp 18), none⟩]
theorem ir.internal_strconv_formatBase10.r0.w (e : Env) (h : AHeap) (Q : Post) : wpC Tryd.prog nG ir.internal_strconv_formatBase10.r0 e h Q = lk (look e 0) (fun v0 => lk (look e 1) (fun v1 => wI Tryd.prog nG (.mv (.const v0)) h fun v17 h => wI Tryd.prog nG (.len false (.const v17)) h fun v18 h => wI Tryd.prog nG (.mv (.const v18)) h fun v4 h => Q .normal [(0, v0), (1, v1), (4, v4)] h) ()) () := lkm (lkm (wR (Rn rfl fun v17 h => Rn rfl fun v18 h => Rn rfl fun v4 h => rfl)))
def ir.internal_strconv_formatBase10.r1 : C := .region [0, 1, 4, 20] [⟨some 19, .mv (.tmp 4), none⟩, ⟨some 20, .bin .geq (.tmp 19) (.const (.int .i64 8)), none⟩]
theorem ir.internal_strconv_formatBase10.r1.w (e : Env) (h : AHeap) (Q : Post) : wpC Tryd.prog nG ir.internal_strconv_formatBase10.r1 e h Q = lk (look e 0) (fun v0 => lk (look e 1) (fun v1 => lk (look e 4) (fun v4 => wI Tryd.prog nG (.mv (.const v4)) h fun v19 h => wI Tryd.prog nG (.bin .geq (.const v19) (.const (.int .i64 8))) h fun v20 h => Q .normal [(0, v0), (1, v1), (4, v4), (20, v20)] h) ()) ()) () := lkm (lkm (lkm (wR (Rn rfl fun v19 h => Rn rfl fun v20 h => rfl))))
def ir.internal_strconv_formatBase10.r2 : C := .region [0, 1, 4, 5] [⟨some 21, .mv (.tmp 1), none⟩, ⟨some 22, .bin .rem (.tmp 21) (.const (.int .u64 100000000)), none⟩, ⟨some 23, .conv .u32 (.tmp 22), none⟩, ⟨some 5, .mv (.tmp 23), none⟩]
theorem ir.internal_strconv_formatBase10.r2.w (e : Env) (h : AHeap) (Q : Post) : wpC Tryd.prog nG ir.internal_strconv_formatBase10.r2 e h Q = lk (look e 0) (fun v0 => lk (look e 1) (fun v1 => lk (look e 4) (fun v4 => wI Tryd.prog nG (.mv (.const v1)) h fun v21 h => wI Tryd.prog nG (.bin .rem (.const v21) (.const (.int .u64 100000000))) h fun v22 h => wI Tryd.prog nG (.conv .u32 (.const v22)) h fun v23 h => wI Tryd.prog nG (.mv (.const v23)) h fun v5 h => Q .normal [(0, v0), (1, v1), (4, v4), (5, v5)] h) ()) ()) () := lkm (lkm (lkm (wR (Rn rfl fun v21 h => Rn rfl fun v22 h => Rn rfl fun v23 h => Rn rfl fun v5 h => rfl))))
def ir.internal_strconv_formatBase10.r3 : C := .region [0, 1, 4, 5] [⟨some 24, .mv (.tmp 1), none⟩, ⟨some 25, .bin .quo (.tmp 24) (.const (.int .u64 100000000)), none⟩, ⟨some 1, .mv (.tmp 25), none⟩]
theorem ir.internal_strconv_formatBase10.r3.w (e : Env) (h : AHeap) (Q : Post) : wpC Tryd.prog nG ir.internal_strconv_formatBase10.r3 e h Q = lk (look e 0) (fun v0 => lk (look e 1) (fun v1 => lk (look e 4) (fun v4 => lk (look e 5) (fun v5 => wI Tryd.prog nG (.mv (.const v1)) h fun v24 h => wI Tryd.prog nG (.bin .quo (.const v24) (.const (.int .u64 100000000))) h fun v25 h => wI Tryd.prog nG (.mv (.const v25)) h fun v1 h => Q .normal [(0, v0), (1, v1), (4, v4), (5, v5)] h) ()) ()) ()) () := lkm (lkm (lkm (lkm (wR (Rn rfl fun v24 h => Rn rfl fun v25 h => Rn rfl fun v1 h => rfl)))))
def ir.internal_strconv_formatBase10.r4 : C := .region [0, 1, 4, 6, 7] [⟨some 26, .mv (.tmp 5), none⟩, ⟨some 27, .bin .quo (.tmp 26) (.const (.int .u32 10000)), none⟩, ⟨some 28, .mv (.tmp 5), none⟩, ⟨some 29, .bin .rem (.tmp 28) (.const (.int .u32 10000)), none⟩, ⟨some 6, .mv (.tmp 27), none⟩, ⟨some 7, .mv (.tmp 29), none⟩]
theorem ir.internal_strconv_formatBase10.r4.w (e : Env) (h : AHeap) (Q : Post) : wpC Tryd.prog nG ir.internal_strconv_formatBase10.r4 e h Q = lk (look e 0) (fun v0 => lk (look e 1) (fun v1 => lk (look e 4) (fun v4 => lk (look e 5) (fun v5 => wI Tryd.prog nG (.mv (.const v5)) h fun v26 h => wI Tryd.prog nG (.bin .quo (.const v26) (.const (.int .u32 10000))) h fun v27 h => wI Tryd.prog nG (.mv (.const v5)) h fun v28 h => wI Tryd.prog nG (.bin .rem (.const v28) (.const (.int .u32 10000))) h fun v29 h => wI Tryd.prog nG (.mv (.const v27)) h fun v6 h => wI Tryd.prog nG (.mv (.const v29)) h fun v7 h => Q .normal [(0, v0), (1, v1), (4, v4), (6, v6), (7, v7)] h) ()) ()) ()) () := lkm (lkm (lkm (lkm (wR (Rn rfl fun v26 h => Rn rfl fun v27 h => Rn rfl fun v28 h => Rn rfl fun v29 h => Rn rfl fun v6 h => Rn rfl fun v7 h => rfl)))))
def ir.internal_strconv_formatBase10.r5 : C := .region [0, 1, 4, 6, 8, 9] [⟨some 30, .mv (.tmp 7), none⟩, ⟨some 31, .bin .quo (.tmp 30) (.const (.int .u32 100)), none⟩, ⟨some 32, .bin .mul (.tmp 31) (.const (.int .u32 2)), none⟩, ⟨some 33, .mv (.tmp 7), none⟩, ⟨some 34, .bin .rem (.tmp 33) (.const (.int .u32 100)), none⟩, ⟨some 35, .bin .mul (.tmp 34) (.const (.int .u32 2)), none⟩, ⟨some 8, .mv (.tmp 32), none⟩, ⟨some 9, .mv (.tmp 35), none⟩]
theorem ir.internal_strconv_formatBase10.r5.w (e : Env) (h : AHeap) (Q : Post) : wpC Tryd.prog nG ir.internal_strconv_formatBase10.r5 e h Q = lk (look e 0) (fun v0 => lk (look e 1) (fun v1 => lk (look e 4) (fun v4 => lk (look e 6) (fun v6 => lk (look e 7) (fun v7 => wI Tryd.prog nG (.mv (.const v7)) h fun v30 h => wI Tryd.prog nG (.bin .quo (.const v30) (.const (.int .u32 100))) h fun v31 h => wI Tryd.prog nG (.bin .mul (.const v31) (.const (.int .u32 2))) h fun v32 h => wI Tryd.prog nG (.mv (.const v7)) h fun v33 h => wI Tryd.prog nG (.bin .rem (.const v33) (.const (.int .u32 100))) h fun v34 h => wI Tryd.prog nG (.bin .mul (.const v34) (.const (.int .u32 2))) h fun v35 h => wI Tryd.prog nG (.mv (.const v32)) h fun v8 h => wI Tryd.prog nG (.mv (.const v35)) h fun v9 h => Q .normal [(0, v0), (1, v1), (4, v4), (6, v6), (8, v8), (9, v9)] h) ()) ()) ()) ()) () := lkm (lkm (lkm (lkm (lkm (wR (Rn rfl fun v30 h => Rn rfl fun v31 h => Rn rfl fun v32 h => Rn rfl fun v33 h => Rn rfl fun v34 h => Rn rfl fun v35 h => Rn rfl fun v8 h => Rn rfl fun v9 h => rfl))))))
def ir.internal_strconv_formatBase10.r6 : C := .region [0, 1, 4, 8, 9, 10, 11] [⟨some 36, .mv (.tmp 6), none⟩, ⟨some 37, .bin .quo (.tmp 36) (.const (.int .u32 100)), none⟩, ⟨some 38, .bin .mul (.tmp 37) (.const (.int .u32 2)), none⟩, ⟨some 39, .mv (.tmp 6), none⟩, ⟨some 40, .bin .rem (.tmp 39) (.const (.int .u32 100)), none⟩, ⟨some 41, .bin .mul (.tmp 40) (.const (.int .u32 2)), none⟩, ⟨some 10, .mv (.tmp 38), none⟩, ⟨some 11, .mv (.tmp 41), none⟩]
theorem ir.internal_strconv_formatBase10.r6.w (e : Env) (h : AHeap) (Q : Post) : wpC Tryd.prog nG ir.internal_strconv_formatBase10.r6 e h Q = lk (look e 0) (fun v0 => lk (look e 1) (fun v1 => lk (look e 4) (fun v4 => lk (look e 6) (fun v6 => lk (look e 8) (fun v8 => lk (look e 9) (fun v9 => wI Tryd.prog nG (.mv (.const v6)) h fun v36 h => wI Tryd.prog nG (.bin .quo (.const v36) (.const (.int .u32 100))) h fun v37 h => wI Tryd.prog nG (.bin .mul (.const v37) (.const (.int .u32 2))) h fun v38 h => wI Tryd.prog nG (.mv (.const v6)) h fun v39 h => wI Tryd.prog nG (.bin .rem (.const v39) (.const (.int .u32 100))) h fun v40 h => wI Tryd.prog nG (.bin .mul (.const v40) (.const (.int .u32 2))) h fun v41 h => wI Tryd.prog nG (.mv (.const v38)) h fun v10 h => wI Tryd.prog nG (.mv (.const v41)) h fun v11 h => Q .normal [(0, v0), (1, v1), (4, v4), (8, v8), (9, v9), (10, v10), (11, v11)] h) ()) ()) ()) ()) ()) () := lkm (lkm (lkm (lkm (lkm (lkm (wR (Rn rfl fun v36 h => Rn rfl fun v37 h => Rn rfl fun v38 h => Rn rfl fun v39 h => Rn rfl fun v40 h => Rn rfl fun v41 h => Rn rfl fun v10 h => Rn rfl fun v11 h => rfl)))))))
def ir.internal_strconv_formatBase10.r7 : C := .draw [0, 1, 4, 8, 10, 11] [⟨some 42, .mv (.tmp 0), none⟩, ⟨some 43, .mv (.tmp 4), none⟩, ⟨some 44, .bin .sub (.tmp 43) (.const (.int .i64 1)), none⟩, ⟨some 45, .mv (.tmp 0), none⟩, ⟨some 46, .mv (.tmp 4), none⟩, ⟨some 47, .bin .sub (.tmp 46) (.const (.int .i64 2)), none⟩, ⟨some 48, .mv (.tmp 9), none⟩, ⟨some 49, .bin .add (.tmp 48) (.const (.int .u32 1)), none⟩, ⟨some 50, .ixstr (.const (.string lit_db3e2f51)) (.tmp 49), none⟩, ⟨some 51, .mv (.tmp 9), none⟩, ⟨some 52, .ixstr (.const (.string lit_db3e2f51)) (.tmp 51), none⟩, ⟨some 53, .ixs 1 (.tmp 42) (.tmp 44), none⟩, ⟨none, .store 1 (.tmp 53) (.tmp 50), none⟩, ⟨some 54, .ixs 1 (.tmp 45) (.tmp 47), none⟩, ⟨none, .store 1 (.tmp 54) (.tmp 52), none⟩]
theorem ir.internal_strconv_formatBase10.r7.w (e : Env) (h : AHeap) (Q : Post) : wpC Tryd.prog nG ir.internal_strconv_formatBase10.r7 e h Q = lk (look e 0) (fun v0 => lk (look e 1) (fun v1 => lk (look e 4) (fun v4 => lk (look e 8) (fun v8 => lk (look e 9) (fun v9 => lk (look e 10) (fun v10 => lk (look e 11) (fun v11 => wI Tryd.prog nG (.mv (.const v0)) h fun v42 h => wI Tryd.prog nG (.mv (.const v4)) h fun v43 h => wI Tryd.prog nG (.bin .sub (.const v43) (.const (.int .i64 1))) h fun v44 h => wI Tryd.prog nG (.mv (.const v0)) h fun v45 h => wI Tryd.prog nG (.mv (.const v4)) h fun v46 h => wI Tryd.prog nG (.bin .sub (.const v46) (.const (.int .i64 2))) h fun v47 h => wI Tryd.prog nG (.mv (.const v9)) h fun v48 h => wI Tryd.prog nG (.bin .add (.const v48) (.const (.int .u32 1))) h fun v49 h => wI Tryd.prog nG (.ixstr (.const (.string lit_db3e2f51)) (.const v49)) h fun v50 h => wI Tryd.prog nG (.mv (.const v9)) h fun v51 h => wI Tryd.prog nG (.ixstr (.const (.string lit_db3e2f51)) (.const v51)) h fun v52 h => wI Tryd.prog nG (.ixs 1 (.const v42) (.const v44)) h fun v53 h => wI Tryd.prog nG (.store 1 (.const v53) (.const v50)) h fun _ h => wI Tryd.prog nG (.ixs 1 (.const v45) (.const v47)) h fun v54 h => wI Tryd.prog nG (.store 1 (.const v54) (.const v52)) h fun _ h => Q .normal [(0, v0), (1, v1), (4, v4), (8, v8), (10, v10), (11, v11)] h) ()) ()) ()) ()) ()) ()) () := lkm (lkm (lkm (lkm (lkm (lkm (lkm (wDr (Dn rfl rfl fun v42 h => Dn rfl rfl fun v43 h => Dn rfl rfl fun v44 h => Dn rfl rfl fun v45 h => Dn rfl rfl fun v46 h => Dn rfl rfl fun v47 h => Dn rfl rfl fun v48 h => Dn rfl rfl fun v49 h => Dn rfl rfl fun v50 h => Dn rfl rfl fun v51 h => Dn rfl rfl fun v52 h => Dn rfl rfl fun v53 h => Dz rfl rfl fun v_ h => Dn rfl rfl fun v54 h => Dz rfl rfl fun v_ h => rfl))))))))
def ir.internal_strconv_formatBase10.r8 : C := .draw [0, 1, 4, 10, 11] [⟨some 55, .mv (.tmp 0), none⟩, ⟨some 56, .mv (.tmp 4), none⟩, ⟨some 57, .bin .sub (.tmp 56) (.const (.int .i64 3)), none⟩, ⟨some 58, .mv (.tmp 0), none⟩, ⟨some 59, .mv (.tmp 4), none⟩, ⟨some 60, .bin .sub (.tmp 59) (.const (.int .i64 4)), none⟩, ⟨some 61, .mv (.tmp 8), none⟩, ⟨some 62, .bin .add (.tmp 61) (.const (.int .u32 1)), none⟩, ⟨some 63, .ixstr (.const (.string lit_db3e2f51)) (.tmp 62), none⟩, ⟨some 64, .mv (.tmp 8), none⟩, ⟨some 65, .ixstr (.const (.string lit_db3e2f51)) (.tmp 64), none⟩, ⟨some 66, .ixs 1 (.tmp 55) (.tmp 57), none⟩, ⟨none, .store 1 (.tmp 66) (.tmp 63), none⟩, ⟨some 67, .ixs 1 (.tmp 58) (.tmp 60), none⟩, ⟨none, .store 1 (.tmp 67) (.tmp 65), none⟩]
theorem ir.internal_strconv_formatBase10.r8.w (e : Env) (h : AHeap) (Q : Post) : wpC Tryd.prog nG ir.internal_strconv_formatBase10.r8 e h Q = lk (look e 0) (fun v0 => lk (look e 1) (fun v1 => lk (look e 4) (fun v4 => lk (look e 8) (fun v8 => lk (look e 10) (fun v10 => lk (look e 11) (fun v11 => wI Tryd.prog nG (.mv (.const v0)) h fun v55 h => wI Tryd.prog nG (.mv (.const v4)) h fun v56 h => wI Tryd.prog nG (.bin .sub (.const v56) (.const (.int .i64 3))) h fun v57 h => wI Tryd.prog nG (.mv (.const v0)) h fun v58 h => wI Tryd.prog nG (.mv (.const v4)) h fun v59 h => wI Tryd.prog nG (.bin .sub (.const v59) (.const (.int .i64 4))) h fun v60 h => wI Tryd.prog nG (.mv (.const v8)) h fun v61 h => wI Tryd.prog nG (.bin .add (.const v61) (.const (.int .u32 1))) h fun v62 h => wI Tryd.prog nG (.ixstr (.const (.string lit_db3e2f51)) (.const v62)) h fun v63 h => wI Tryd.prog nG (.mv (.const v8)) h fun v64 h => wI Tryd.prog nG (.ixstr (.const (.string lit_db3e2f51)) (.const v64)) h fun v65 h => wI Tryd.prog nG (.ixs 1 (.const v55) (.const v57)) h fun v66 h => wI Tryd.prog nG (.store 1 (.const v66) (.const v63)) h fun _ h => wI Tryd.prog nG (.ixs 1 (.const v58) (.const v60)) h fun v67 h => wI Tryd.prog nG (.store 1 (.const v67) (.const v65)) h fun _ h => Q .normal [(0, v0), (1, v1), (4, v4), (10, v10), (11, v11)] h) ()) ()) ()) ()) ()) () := lkm (lkm (lkm (lkm (lkm (lkm (wDr (Dn rfl rfl fun v55 h => Dn rfl rfl fun v56 h => Dn rfl rfl fun v57 h => Dn rfl rfl fun v58 h => Dn rfl rfl fun v59 h => Dn rfl rfl fun v60 h => Dn rfl rfl fun v61 h => Dn rfl rfl fun v62 h => Dn rfl rfl fun v63 h => Dn rfl rfl fun v64 h => Dn rfl rfl fun v65 h => Dn rfl rfl fun v66 h => Dz rfl rfl fun v_ h => Dn rfl rfl fun v67 h => Dz rfl rfl fun v_ h => rfl)))))))
def ir.internal_strconv_formatBase10.r9 : C := .draw [0, 1, 4, 10] [⟨some 68, .mv (.tmp 0), none⟩, ⟨some 69, .mv (.tmp 4), none⟩, ⟨some 70, .bin .sub (.tmp 69) (.const (.int .i64 5)), none⟩, ⟨some 71, .mv (.tmp 0), none⟩, ⟨some 72, .mv (.tmp 4), none⟩, ⟨some 73, .bin .sub (.tmp 72) (.const (.int .i64 6)), none⟩, ⟨some 74, .mv (.tmp 11), none⟩, ⟨some 75, .bin .add (.tmp 74) (.const (.int .u32 1)), none⟩, ⟨some 76, .ixstr (.const (.string lit_db3e2f51)) (.tmp 75), none⟩, ⟨some 77, .mv (.tmp 11), none⟩, ⟨some 78, .ixstr (.const (.string lit_db3e2f51)) (.tmp 77), none⟩, ⟨some 79, .ixs 1 (.tmp 68) (.tmp 70), none⟩, ⟨none, .store 1 (.tmp 79) (.tmp 76), none⟩, ⟨some 80, .ixs 1 (.tmp 71) (.tmp 73), none⟩, ⟨none, .store 1 (.tmp 80) (.tmp 78), none⟩]
theorem ir.internal_strconv_formatBase10.r9.w (e : Env) (h : AHeap) (Q : Post) : wpC Tryd.prog nG ir.internal_strconv_formatBase10.r9 e h Q = lk (look e 0) (fun v0 => lk (look e 1) (fun v1 => lk (look e 4) (fun v4 => lk (look e 10) (fun v10 => lk (look e 11) (fun v11 => wI Tryd.prog nG (.mv (.const v0)) h fun v68 h => wI Tryd.prog nG (.mv (.const v4)) h fun v69 h => wI Tryd.prog nG (.bin .sub (.const v69) (.const (.int .i64 5))) h fun v70 h => wI Tryd.prog nG (.mv (.const v0)) h fun v71 h => wI Tryd.prog nG (.mv (.const v4)) h fun v72 h => wI Tryd.prog nG (.bin .sub (.const v72) (.const (.int .i64 6))) h fun v73 h => wI Tryd.prog nG (.mv (.const v11)) h fun v74 h => wI Tryd.prog nG (.bin .add (.const v74) (.const (.int .u32 1))) h fun v75 h => wI Tryd.prog nG (.ixstr (.const (.string lit_db3e2f51)) (.const v75)) h fun v76 h => wI Tryd.prog nG (.mv (.const v11)) h fun v77 h => wI Tryd.prog nG (.ixstr (.const (.string lit_db3e2f51)) (.const v77)) h fun v78 h => wI Tryd.prog nG (.ixs 1 (.const v68) (.const v70)) h fun v79 h => wI Tryd.prog nG (.store 1 (.const v79) (.const v76)) h fun _ h => wI Tryd.prog nG (.ixs 1 (.const v71) (.const v73)) h fun v80 h => wI Tryd.prog nG (.store 1 (.const v80) (.const v78)) h fun _ h => Q .normal [(0, v0), (1, v1), (4, v4), (10, v10)] h) ()) ()) ()) ()) () := lkm (lkm (lkm (lkm (lkm (wDr (Dn rfl rfl fun v68 h => Dn rfl rfl fun v69 h => Dn rfl rfl fun v70 h => Dn rfl rfl fun v71 h => Dn rfl rfl fun v72 h => Dn rfl rfl fun v73 h => Dn rfl rfl fun v74 h => Dn rfl rfl fun v75 h => Dn rfl rfl fun v76 h => Dn rfl rfl fun v77 h => Dn rfl rfl fun v78 h => Dn rfl rfl fun v79 h => Dz rfl rfl fun v_ h => Dn rfl rfl fun v80 h => Dz rfl rfl fun v_ h => rfl))))))
def ir.internal_strconv_formatBase10.r10 : C := .draw [0, 1, 4] [⟨some 81, .mv (.tmp 0), none⟩, ⟨some 82, .mv (.tmp 4), none⟩, ⟨some 83, .bin .sub (.tmp 82) (.const (.int .i64 7)), none⟩, ⟨some 84, .mv (.tmp 0), none⟩, ⟨some 85, .mv (.tmp 4), none⟩, ⟨some 86, .bin .sub (.tmp 85) (.const (.int .i64 8)), none⟩, ⟨some 87, .mv (.tmp 10), none⟩, ⟨some 88, .bin .add (.tmp 87) (.const (.int .u32 1)), none⟩, ⟨some 89, .ixstr (.const (.string lit_db3e2f51)) (.tmp 88), none⟩, ⟨some 90, .mv (.tmp 10), none⟩, ⟨some 91, .ixstr (.const (.string lit_db3e2f51)) (.tmp 90), none⟩, ⟨some 92, .ixs 1 (.tmp 81) (.tmp 83), none⟩, ⟨none, .store 1 (.tmp 92) (.tmp 89), none⟩, ⟨some 93, .ixs 1 (.tmp 84) (.tmp 86), none⟩, ⟨none, .store 1 (.tmp 93) (.tmp 91), none⟩]
theorem ir.internal_strconv_formatBase10.r10.w (e : Env) (h : AHeap) (Q : Post) : wpC Tryd.prog nG ir.internal_strconv_formatBase10.r10 e h Q = lk (look e 0) (fun v0 => lk (look e 1) (fun v1 => lk (look e 4) (fun v4 => lk (look e 10) (fun v10 => wI Tryd.prog nG (.mv (.const v0)) h fun v81 h => wI Tryd.prog nG (.mv (.const v4)) h fun v82 h => wI Tryd.prog nG (.bin .sub (.const v82) (.const (.int .i64 7))) h fun v83 h => wI Tryd.prog nG (.mv (.const v0)) h fun v84 h => wI Tryd.prog nG (.mv (.const v4)) h fun v85 h => wI Tryd.prog nG (.bin .sub (.const v85) (.const (.int .i64 8))) h fun v86 h => wI Tryd.prog nG (.mv (.const v10)) h fun v87 h => wI Tryd.prog nG (.bin .add (.const v87) (.const (.int .u32 1))) h fun v88 h => wI Tryd.prog nG (.ixstr (.const (.string lit_db3e2f51)) (.const v88)) h fun v89 h => wI Tryd.prog nG (.mv (.const v10)) h fun v90 h => wI Tryd.prog nG (.ixstr (.const (.string lit_db3e2f51)) (.const v90)) h fun v91 h => wI Tryd.prog nG (.ixs 1 (.const v81) (.const v83)) h fun v92 h => wI Tryd.prog nG (.store 1 (.const v92) (.const v89)) h fun _ h => wI Tryd.prog nG (.ixs 1 (.const v84) (.const v86)) h fun v93 h => wI Tryd.prog nG (.store 1 (.const v93) (.const v91)) h fun _ h => Q .normal [(0, v0), (1, v1), (4, v4)] h) ()) ()) ()) () := lkm (lkm (lkm (lkm (wDr (Dn rfl rfl fun v81 h => Dn rfl rfl fun v82 h => Dn rfl rfl fun v83 h => Dn rfl rfl fun v84 h => Dn rfl rfl fun v85 h => Dn rfl rfl fun v86 h => Dn rfl rfl fun v87 h => Dn rfl rfl fun v88 h => Dn rfl rfl fun v89 h => Dn rfl rfl fun v90 h => Dn rfl rfl fun v91 h => Dn rfl rfl fun v92 h => Dz rfl rfl fun v_ h => Dn rfl rfl fun v93 h => Dz rfl rfl fun v_ h => rfl)))))
def ir.internal_strconv_formatBase10.r11 : C := .region [0, 1, 4] [⟨some 94, .mv (.tmp 4), none⟩, ⟨some 95, .bin .sub (.tmp 94) (.const (.int .i64 8)), none⟩, ⟨some 4, .mv (.tmp 95), none⟩]
theorem ir.internal_strconv_formatBase10.r11.w (e : Env) (h : AHeap) (Q : Post) : wpC Tryd.prog nG ir.internal_strconv_formatBase10.r11 e h Q = lk (look e 0) (fun v0 => lk (look e 1) (fun v1 => lk (look e 4) (fun v4 => wI Tryd.prog nG (.mv (.const v4)) h fun v94 h => wI Tryd.prog nG (.bin .sub (.const v94) (.const (.int .i64 8))) h fun v95 h => wI Tryd.prog nG (.mv (.const v95)) h fun v4 h => Q .normal [(0, v0), (1, v1), (4, v4)] h) ()) ()) () := lkm (lkm (lkm (wR (Rn rfl fun v94 h => Rn rfl fun v95 h => Rn rfl fun v4 h => rfl))))
def ir.internal_strconv_formatBase10.l1.b : C := (.seq (.seq ir.internal_strconv_formatBase10.r1 (.cond (.tmp 20) .skip (.exit 0))) (.block 1 (.seq ir.internal_strconv_formatBase10.r2 (.seq ir.internal_strconv_formatBase10.r3 (.seq ir.internal_strconv_formatBase10.r4 (.seq ir.internal_strconv_formatBase10.r5 (.seq ir.internal_strconv_formatBase10.r6 (.seq ir.internal_strconv_formatBase10.r7 (.seq ir.internal_strconv_formatBase10.r8 (.seq ir.internal_strconv_formatBase10.r9 (.seq ir.internal_strconv_formatBase10.r10 ir.internal_strconv_formatBase10.r11)))))))))))
theorem ir.internal_strconv_formatBase10.l1.bw (e : Env) (h : AHeap) (Q : Post) : wpC Tryd.prog nG ir.internal_strconv_formatBase10.l1.b e h Q = wpC Tryd.prog nG (.seq (.seq ir.internal_strconv_formatBase10.r1 (.cond (.tmp 20) .skip (.exit 0))) (.block 1 (.seq ir.internal_strconv_formatBase10.r2 (.seq ir.internal_strconv_formatBase10.r3 (.seq ir.internal_strconv_formatBase10.r4 (.seq ir.internal_strconv_formatBase10.r5 (.seq ir.internal_strconv_formatBase10.r6 (.seq ir.internal_strconv_formatBase10.r7 (.seq ir.internal_strconv_formatBase10.r8 (.seq ir.internal_strconv_formatBase10.r9 (.seq ir.internal_strconv_formatBase10.r10 ir.internal_strconv_formatBase10.r11))))))))))) e h Q := (rfl)
def ir.internal_strconv_formatBase10.l1 : C := .loop ir.internal_strconv_formatBase10.l1.b
theorem ir.internal_strconv_formatBase10.l1.w (e : Env) (h : AHeap) (Q : Post) : wpC Tryd.prog nG ir.internal_strconv_formatBase10.l1 e h Q = loopV Tryd.prog nG ir.internal_strconv_formatBase10.l1.b e h Q () := (rfl)
def ir.internal_strconv_formatBase10.r12 : C := .region [0, 4, 12] [⟨some 96, .mv (.tmp 1), none⟩, ⟨some 97, .conv .u32 (.tmp 96), none⟩, ⟨some 12, .mv (.tmp 97), none⟩]
theorem ir.internal_strconv_formatBase10.r12.w (e : Env) (h : AHeap) (Q : Post) : wpC Tryd.prog nG ir.internal_strconv_formatBase10.r12 e h Q = lk (look e 0) (fun v0 => lk (look e 1) (fun v1 => lk (look e 4) (fun v4 => wI Tryd.prog nG (.mv (.const v1)) h fun v96 h => wI Tryd.prog nG (.conv .u32 (.const v96)) h fun v97 h => wI Tryd.prog nG (.mv (.const v97)) h fun v12 h => Q .normal [(0, v0), (4, v4), (12, v12)] h) ()) ()) () := lkm (lkm (lkm (wR (Rn rfl fun v96 h => Rn rfl fun v97 h => Rn rfl fun v12 h => rfl))))
def ir.internal_strconv_formatBase10.r13 : C := .region [0, 4, 12, 99] [⟨some 98, .mv (.tmp 4), none⟩, ⟨some 99, .bin .geq (.tmp 98) (.const (.int .i64 4)), none⟩]
theorem ir.internal_strconv_formatBase10.r13.w (e : Env) (h : AHeap) (Q : Post) : wpC Tryd.prog nG ir.internal_strconv_formatBase10.r13 e h Q = lk (look e 0) (fun v0 => lk (look e 4) (fun v4 => lk (look e 12) (fun v12 => wI Tryd.prog nG (.mv (.const v4)) h fun v98 h => wI Tryd.prog nG (.bin .geq (.const v98) (.const (.int .i64 4))) h fun v99 h => Q .normal [(0, v0), (4, v4), (12, v12), (99, v99)] h) ()) ()) () := lkm (lkm (lkm (wR (Rn rfl fun v98 h => Rn rfl fun v99 h => rfl))))
def ir.internal_strconv_formatBase10.r14 : C := .region [0, 4, 12, 13] [⟨some 100, .mv (.tmp 12), none⟩, ⟨some 101, .bin .rem (.tmp 100) (.const (.int .u32 10000)), none⟩, ⟨some 13, .mv (.tmp 101), none⟩]
theorem ir.internal_strconv_formatBase10.r14.w (e : Env) (h : AHeap) (Q : Post) : wpC Tryd.prog nG ir.internal_strconv_formatBase10.r14 e h Q = lk (look e 0) (fun v0 => lk (look e 4) (fun v4 => lk (look e 12) (fun v12 => wI Tryd.prog nG (.mv (.const v12)) h fun v100 h => wI Tryd.prog nG (.bin .rem (.const v100) (.const (.int .u32 10000))) h fun v101 h => wI Tryd.prog nG (.mv (.const v101)) h fun v13 h => Q .normal [(0, v0), (4, v4), (12, v12), (13, v13)] h) ()) ()) () := lkm (lkm (lkm (wR (Rn rfl fun v100 h => Rn rfl fun v101 h => Rn rfl fun v13 h => rfl))))
def ir.internal_strconv_formatBase10.r15 : C := .region [0, 4, 12, 13] [⟨some 102, .mv (.tmp 12), none⟩, ⟨some 103, .bin .quo (.tmp 102) (.const (.int .u32 10000)), none⟩, ⟨some 12, .mv (.tmp 103), none⟩]
theorem ir.internal_strconv_formatBase10.r15.w (e : Env) (h : AHeap) (Q : Post) : wpC Tryd.prog nG ir.internal_strconv_formatBase10.r15 e h Q = lk (look e 0) (fun v0 => lk (look e 4) (fun v4 => lk (look e 12) (fun v12 => lk (look e 13) (fun v13 => wI Tryd.prog nG (.mv (.const v12)) h fun v102 h => wI Tryd.prog nG (.bin .quo (.const v102) (.const (.int .u32 10000))) h fun v103 h => wI Tryd.prog nG (.mv (.const v103)) h fun v12 h => Q .normal [(0, v0), (4, v4), (12, v12), (13, v13)] h) ()) ()) ()) () := lkm (lkm (lkm (lkm (wR (Rn rfl fun v102 h => Rn rfl fun v103 h => Rn rfl fun v12 h => rfl)))))
def ir.internal_strconv_formatBase10.r16 : C := .region [0, 4, 12, 14, 15] [⟨some 104, .mv (.tmp 13), none⟩, ⟨some 105, .bin .quo (.tmp 104) (.const (.int .u32 100)), none⟩, ⟨some 106, .bin .mul (.tmp 105) (.const (.int .u32 2)), none⟩, ⟨some 107, .mv (.tmp 13), none⟩, ⟨some 108, .bin .rem (.tmp 107) (.const (.int .u32 100)), none⟩, ⟨some 109, .bin .mul (.tmp 108) (.const (.int .u32 2)), none⟩, ⟨some 14, .mv (.tmp 106), none⟩, ⟨some 15, .mv (.tmp 109), none⟩]
theorem ir.internal_strconv_formatBase10.r16.w (e : Env) (h : AHeap) (Q : Post) : wpC Tryd.prog nG ir.internal_strconv_formatBase10.r16 e h Q = lk (look e 0) (fun v0 => lk (look e 4) (fun v4 => lk (look e 12) (fun v12 => lk (look e 13) (fun v13 => wI Tryd.prog nG (.mv (.const v13)) h fun v104 h => wI Tryd.prog nG (.bin .quo (.const v104) (.const (.int .u32 100))) h fun v105 h => wI Tryd.prog nG (.bin .mul (.const v105) (.const (.int .u32 2))) h fun v106 h => wI Tryd.prog nG (.mv (.const v13)) h fun v107 h => wI Tryd.prog nG (.bin .rem (.const v107) (.const (.int .u32 100))) h fun v108 h => wI Tryd.prog nG (.bin .mul (.const v108) (.const (.int .u32 2))) h fun v109 h => wI Tryd.prog nG (.mv (.const v106)) h fun v14 h => wI Tryd.prog nG (.mv (.const v109)) h fun v15 h => Q .normal [(0, v0), (4, v4), (12, v12), (14, v14), (15, v15)] h) ()) ()) ()) () := lkm (lkm (lkm (lkm (wR (Rn rfl fun v104 h => Rn rfl fun v105 h => Rn rfl fun v106 h => Rn rfl fun v107 h => Rn rfl fun v108 h => Rn rfl fun v109 h => Rn rfl fun v14 h => Rn rfl fun v15 h => rfl)))))
def ir.internal_strconv_formatBase10.r17 : C := .draw [0, 4, 12, 14] [⟨some 110, .mv (.tmp 0), none⟩, ⟨some 111, .mv (.tmp 4), none⟩, ⟨some 112, .bin .sub (.tmp 111) (.const (.int .i64 1)), none⟩, ⟨some 113, .mv (.tmp 0), none⟩, ⟨some 114, .mv (.tmp 4), none⟩, ⟨some 115, .bin .sub (.tmp 114) (.const (.int .i64 2)), none⟩, ⟨some 116, .mv (.tmp 15), none⟩, ⟨some 117, .bin .add (.tmp 116) (.const (.int .u32 1)), none⟩, ⟨some 118, .ixstr (.const (.string lit_db3e2f51)) (.tmp 117), none⟩, ⟨some 119, .mv (.tmp 15), none⟩, ⟨some 120, .ixstr (.const (.string lit_db3e2f51)) (.tmp 119), none⟩, ⟨some 121, .ixs 1 (.tmp 110) (.tmp 112), none⟩, ⟨none, .store 1 (.tmp 121) (.tmp 118), none⟩, ⟨some 122, .ixs 1 (.tmp 113) (.tmp 115), none⟩, ⟨none, .store 1 (.tmp 122) (.tmp 120), none⟩]
theorem ir.internal_strconv_formatBase10.r17.w (e : Env) (h : AHeap) (Q : Post) : wpC Tryd.prog nG ir.internal_strconv_formatBase10.r17 e h Q = lk (look e 0) (fun v0 => lk (look e 4) (fun v4 => lk (look e 12) (fun v12 => lk (look e 14) (fun v14 => lk (look e 15) (fun v15 => wI Tryd.prog nG (.mv (.const v0)) h fun v110 h => wI Tryd.prog nG (.mv (.const v4)) h fun v111 h => wI Tryd.prog nG (.bin .sub (.const v111) (.const (.int .i64 1))) h fun v112 h => wI Tryd.prog nG (.mv (.const v0)) h fun v113 h => wI Tryd.prog nG (.mv (.const v4)) h fun v114 h => wI Tryd.prog nG (.bin .sub (.const v114) (.const (.int .i64 2))) h fun v115 h => wI Tryd.prog nG (.mv (.const v15)) h fun v116 h => wI Tryd.prog nG (.bin .add (.const v116) (.const (.int .u32 1))) h fun v117 h => wI Tryd.prog nG (.ixstr (.const (.string lit_db3e2f51)) (.const v117)) h fun v118 h => wI Tryd.prog nG (.mv (.const v15)) h fun v119 h => wI Tryd.prog nG (.ixstr (.const (.string lit_db3e2f51)) (.const v119)) h fun v120 h => wI Tryd.prog nG (.ixs 1 (.const v110) (.const v112)) h fun v121 h => wI Tryd.prog nG (.store 1 (.const v121) (.const v118)) h fun _ h => wI Tryd.prog nG (.ixs 1 (.const v113) (.const v115)) h fun v122 h => wI Tryd.prog nG (.store 1 (.const v122) (.const v120)) h fun _ h => Q .normal [(0, v0), (4, v4), (12, v12), (14, v14)] h) ()) ()) ()) ()) () := lkm (lkm (lkm (lkm (lkm (wDr (Dn rfl rfl fun v110 h => Dn rfl rfl fun v111 h => Dn rfl rfl fun v112 h => Dn rfl rfl fun v113 h => Dn rfl rfl fun v114 h => Dn rfl rfl fun v115 h => Dn rfl rfl fun v116 h => Dn rfl rfl fun v117 h => Dn rfl rfl fun v118 h => Dn rfl rfl fun v119 h => Dn rfl rfl fun v120 h => Dn rfl rfl fun v121 h => Dz rfl rfl fun v_ h => Dn rfl rfl fun v122 h => Dz rfl rfl fun v_ h => rfl))))))
def ir.internal_strconv_formatBase10.r18 : C := .draw [0, 4, 12] [⟨some 123, .mv (.tmp 0), none⟩, ⟨some 124, .mv (.tmp 4), none⟩, ⟨some 125, .bin .sub (.tmp 124) (.const (.int .i64 3)), none⟩, ⟨some 126, .mv (.tmp 0), none⟩, ⟨some 127, .mv (.tmp 4), none⟩, ⟨some 128, .bin .sub (.tmp 127) (.const (.int .i64 4)), none⟩, ⟨some 129, .mv (.tmp 14), none⟩, ⟨some 130, .bin .add (.tmp 129) (.const (.int .u32 1)), none⟩, ⟨some 131, .ixstr (.const (.string lit_db3e2f51)) (.tmp 130), none⟩, ⟨some 132, .mv (.tmp 14), none⟩, ⟨some 133, .ixstr (.const (.string lit_db3e2f51)) (.tmp 132), none⟩, ⟨some 134, .ixs 1 (.tmp 123) (.tmp 125), none⟩, ⟨none, .store 1 (.tmp 134) (.tmp 131), none⟩, ⟨some 135, .ixs 1 (.tmp 126) (.tmp 128), none⟩, ⟨none, .store 1 (.tmp 135) (.tmp 133), none⟩]
theorem ir.internal_strconv_formatBase10.r18.w (e : Env) (h : AHeap) (Q : Post) : wpC Tryd.prog nG ir.internal_strconv_formatBase10.r18 e h Q = lk (look e 0) (fun v0 => lk (look e 4) (fun v4 => lk (look e 12) (fun v12 => lk (look e 14) (fun v14 => wI Tryd.prog nG (.mv (.const v0)) h fun v123 h => wI Tryd.prog nG (.mv (.const v4)) h fun v124 h => wI Tryd.prog nG (.bin .sub (.const v124) (.const (.int .i64 3))) h fun v125 h => wI Tryd.prog nG (.mv (.const v0)) h fun v126 h => wI Tryd.prog nG (.mv (.const v4)) h fun v127 h => wI Tryd.prog nG (.bin .sub (.const v127) (.const (.int .i64 4))) h fun v128 h => wI Tryd.prog nG (.mv (.const v14)) h fun v129 h => wI Tryd.prog nG (.bin .add (.const v129) (.const (.int .u32 1))) h fun v130 h => wI Tryd.prog nG (.ixstr (.const (.string lit_db3e2f51)) (.const v130)) h fun v131 h => wI Tryd.prog nG (.mv (.const v14)) h fun v132 h => wI Tryd.prog nG (.ixstr (.const (.string lit_db3e2f51)) (.const v132)) h fun v133 h => wI Tryd.prog nG (.ixs 1 (.const v123) (.const v125)) h fun v134 h => wI Tryd.prog nG (.store 1 (.const v134) (.const v131)) h fun _ h => wI Tryd.prog nG (.ixs 1 (.const v126) (.const v128)) h fun v135 h => wI Tryd.prog nG (.store 1 (.const v135) (.const v133)) h fun _ h => Q .normal [(0, v0), (4, v4), (12, v12)] h) ()) ()) ()) () := lkm (lkm (lkm (lkm (wDr (Dn rfl rfl fun v123 h => Dn rfl rfl fun v124 h => Dn rfl rfl fun v125 h => Dn rfl rfl fun v126 h => Dn rfl rfl fun v127 h => Dn rfl rfl fun v128 h => Dn rfl rfl fun v129 h => Dn rfl rfl fun v130 h => Dn rfl rfl fun v131 h => Dn rfl rfl fun v132 h => Dn rfl rfl fun v133 h => Dn rfl rfl fun v134 h => Dz rfl rfl fun v_ h => Dn rfl rfl fun v135 h => Dz rfl rfl fun v_ h => rfl)))))
def ir.internal_strconv_formatBase10.r19 : C := .region [0, 4, 12] [⟨some 136, .mv (.tmp 4), none⟩, ⟨some 137, .bin .sub (.tmp 136) (.const (.int .i64 4)), none⟩, ⟨some 4, .mv (.tmp 137), none⟩]
theorem ir.internal_strconv_formatBase10.r19.w (e : Env) (h : AHeap) (Q : Post) : wpC Tryd.prog nG ir.internal_strconv_formatBase10.r19 e h Q = lk (look e 0) (fun v0 => lk (look e 4) (fun v4 => lk (look e 12) (fun v12 => wI Tryd.prog nG (.mv (.const v4)) h fun v136 h => wI Tryd.prog nG (.bin .sub (.const v136) (.const (.int .i64 4))) h fun v137 h => wI Tryd.prog nG (.mv (.const v137)) h fun v4 h => Q .normal [(0, v0), (4, v4), (12, v12)] h) ()) ()) () := lkm (lkm (lkm (wR (Rn rfl fun v136 h => Rn rfl fun v137 h => Rn rfl fun v4 h => rfl))))
def ir.internal_strconv_formatBase10.r20 : C := .region [0, 4, 12, 139] [⟨some 138, .mv (.tmp 4), none⟩, ⟨some 139, .bin .geq (.tmp 138) (.const (.int .i64 2)), none⟩]
theorem ir.internal_strconv_formatBase10.r20.w (e : Env) (h : AHeap) (Q : Post) : wpC Tryd.prog nG ir.internal_strconv_formatBase10.r20 e h Q = lk (look e 0) (fun v0 => lk (look e 4) (fun v4 => lk (look e 12) (fun v12 => wI Tryd.prog nG (.mv (.const v4)) h fun v138 h => wI Tryd.prog nG (.bin .geq (.const v138) (.const (.int .i64 2))) h fun v139 h => Q .normal [(0, v0), (4, v4), (12, v12), (139, v139)] h) ()) ()) () := lkm (lkm (lkm (wR (Rn rfl fun v138 h => Rn rfl fun v139 h => rfl))))
def ir.internal_strconv_formatBase10.r21 : C := .region [0, 4, 12, 16] [⟨some 140, .mv (.tmp 12), none⟩, ⟨some 141, .bin .rem (.tmp 140) (.const (.int .u32 100)), none⟩, ⟨some 142, .bin .mul (.tmp 141) (.const (.int .u32 2)), none⟩, ⟨some 16, .mv (.tmp 142), none⟩]
theorem ir.internal_strconv_formatBase10.r21.w (e : Env) (h : AHeap) (Q : Post) : wpC Tryd.prog nG ir.internal_strconv_formatBase10.r21 e h Q = lk (look e 0) (fun v0 => lk (look e 4) (fun v4 => lk (look e 12) (fun v12 => wI Tryd.prog nG (.mv (.const v12)) h fun v140 h => wI Tryd.prog nG (.bin .rem (.const v140) (.const (.int .u32 100))) h fun v141 h => wI Tryd.prog nG (.bin .mul (.const v141) (.const (.int .u32 2))) h fun v142 h => wI Tryd.prog nG (.mv (.const v142)) h fun v16 h => Q .normal [(0, v0), (4, v4), (12, v12), (16, v16)] h) ()) ()) () := lkm (lkm (lkm (wR (Rn rfl fun v140 h => Rn rfl fun v141 h => Rn rfl fun v142 h => Rn rfl fun v16 h => rfl))))
def ir.internal_strconv_formatBase10.r22 : C := .region [0, 4, 12, 16] [⟨some 143, .mv (.tmp 12), none⟩, ⟨some 144, .bin .quo (.tmp 143) (.const (.int .u32 100)), none⟩, ⟨some 12, .mv (.tmp 144), none⟩]
theorem ir.internal_strconv_formatBase10.r22.w (e : Env) (h : AHeap) (Q : Post) : wpC Tryd.prog nG ir.internal_strconv_formatBase10.r22 e h Q = lk (look e 0) (fun v0 => lk (look e 4) (fun v4 => lk (look e 12) (fun v12 => lk (look e 16) (fun v16 => wI Tryd.prog nG (.mv (.const v12)) h fun v143 h => wI Tryd.prog nG (.bin .quo (.const v143) (.const (.int .u32 100))) h fun v144 h => wI Tryd.prog nG (.mv (.const v144)) h fun v12 h => Q .normal [(0, v0), (4, v4), (12, v12), (16, v16)] h) ()) ()) ()) () := lkm (lkm (lkm (lkm (wR (Rn rfl fun v143 h => Rn rfl fun v144 h => Rn rfl fun v12 h => rfl)))))
def ir.internal_strconv_formatBase10.r23 : C := .draw [0, 4, 12] [⟨some 145, .mv (.tmp 0), none⟩, ⟨some 146, .mv (.tmp 4), none⟩, ⟨some 147, .bin .sub (.tmp 146) (.const (.int .i64 1)), none⟩, ⟨some 148, .mv (.tmp 0), none⟩, ⟨some 149, .mv (.tmp 4), none⟩, ⟨some 150, .bin .sub (.tmp 149) (.const (.int .i64 2)), none⟩, ⟨some 151, .mv (.tmp 16), none⟩, ⟨some 152, .bin .add (.tmp 151) (.const (.int .u32 1)), none⟩, ⟨some 153, .ixstr (.const (.string lit_db3e2f51)) (.tmp 152), none⟩, ⟨some 154, .mv (.tmp 16), none⟩, ⟨some 155, .ixstr (.const (.string lit_db3e2f51)) (.tmp 154), none⟩, ⟨some 156, .ixs 1 (.tmp 145) (.tmp 147), none⟩, ⟨none, .store 1 (.tmp 156) (.tmp 153), none⟩, ⟨some 157, .ixs 1 (.tmp 148) (.tmp 150), none⟩, ⟨none, .store 1 (.tmp 157) (.tmp 155), none⟩]
theorem ir.internal_strconv_formatBase10.r23.w (e : Env) (h : AHeap) (Q : Post) : wpC Tryd.prog nG ir.internal_strconv_formatBase10.r23 e h Q = lk (look e 0) (fun v0 => lk (look e 4) (fun v4 => lk (look e 12) (fun v12 => lk (look e 16) (fun v16 => wI Tryd.prog nG (.mv (.const v0)) h fun v145 h => wI Tryd.prog nG (.mv (.const v4)) h fun v146 h => wI Tryd.prog nG (.bin .sub (.const v146) (.const (.int .i64 1))) h fun v147 h => wI Tryd.prog nG (.mv (.const v0)) h fun v148 h => wI Tryd.prog nG (.mv (.const v4)) h fun v149 h => wI Tryd.prog nG (.bin .sub (.const v149) (.const (.int .i64 2))) h fun v150 h => wI Tryd.prog nG (.mv (.const v16)) h fun v151 h => wI Tryd.prog nG (.bin .add (.const v151) (.const (.int .u32 1))) h fun v152 h => wI Tryd.prog nG (.ixstr (.const (.string lit_db3e2f51)) (.const v152)) h fun v153 h => wI Tryd.prog nG (.mv (.const v16)) h fun v154 h => wI Tryd.prog nG (.ixstr (.const (.string lit_db3e2f51)) (.const v154)) h fun v155 h => wI Tryd.prog nG (.ixs 1 (.const v145) (.const v147)) h fun v156 h => wI Tryd.prog nG (.store 1 (.const v156) (.const v153)) h fun _ h => wI Tryd.prog nG (.ixs 1 (.const v148) (.const v150)) h fun v157 h => wI Tryd.prog nG (.store 1 (.const v157) (.const v155)) h fun _ h => Q .normal [(0, v0), (4, v4), (12, v12)] h) ()) ()) ()) () := lkm (lkm (lkm (lkm (wDr (Dn rfl rfl fun v145 h => Dn rfl rfl fun v146 h => Dn rfl rfl fun v147 h => Dn rfl rfl fun v148 h => Dn rfl rfl fun v149 h => Dn rfl rfl fun v150 h => Dn rfl rfl fun v151 h => Dn rfl rfl fun v152 h => Dn rfl rfl fun v153 h => Dn rfl rfl fun v154 h => Dn rfl rfl fun v155 h => Dn rfl rfl fun v156 h => Dz rfl rfl fun v_ h => Dn rfl rfl fun v157 h => Dz rfl rfl fun v_ h => rfl)))))
def ir.internal_strconv_formatBase10.r24 : C := .region [0, 4, 12] [⟨some 158, .mv (.tmp 4), none⟩, ⟨some 159, .bin .sub (.tmp 158) (.const (.int .i64 2)), none⟩, ⟨some 4, .mv (.tmp 159), none⟩]
theorem ir.internal_strconv_formatBase10.r24.w (e : Env) (h : AHeap) (Q : Post) : wpC Tryd.prog nG ir.internal_strconv_formatBase10.r24 e h Q = lk (look e 0) (fun v0 => lk (look e 4) (fun v4 => lk (look e 12) (fun v12 => wI Tryd.prog nG (.mv (.const v4)) h fun v158 h => wI Tryd.prog nG (.bin .sub (.const v158) (.const (.int .i64 2))) h fun v159 h => wI Tryd.prog nG (.mv (.const v159)) h fun v4 h => Q .normal [(0, v0), (4, v4), (12, v12)] h) ()) ()) () := lkm (lkm (lkm (wR (Rn rfl fun v158 h => Rn rfl fun v159 h => Rn rfl fun v4 h => rfl))))
def ir.internal_strconv_formatBase10.r25 : C := .region [0, 12, 161] [⟨some 160, .mv (.tmp 4), none⟩, ⟨some 161, .bin .gtr (.tmp 160) (.const (.int .i64 0)), none⟩]
theorem ir.internal_strconv_formatBase10.r25.w (e : Env) (h : AHeap) (Q : Post) : wpC Tryd.prog nG ir.internal_strconv_formatBase10.r25 e h Q = lk (look e 0) (fun v0 => lk (look e 4) (fun v4 => lk (look e 12) (fun v12 => wI Tryd.prog nG (.mv (.const v4)) h fun v160 h => wI Tryd.prog nG (.bin .gtr (.const v160) (.const (.int .i64 0))) h fun v161 h => Q .normal [(0, v0), (12, v12), (161, v161)] h) ()) ()) () := lkm (lkm (lkm (wR (Rn rfl fun v160 h => Rn rfl fun v161 h => rfl))))
def ir.internal_strconv_formatBase10.r26 : C := .region [] [⟨some 162, .mv (.tmp 0), none⟩, ⟨some 163, .mv (.tmp 12), none⟩, ⟨some 164, .bin .add (.const (.int .u32 48)) (.tmp 163), none⟩, ⟨some 165, .conv .u8 (.tmp 164), none⟩, ⟨some 166, .ixs 1 (.tmp 162) (.const (.int .i64 0)), none⟩, ⟨none, .store 1 (.tmp 166) (.tmp 165), none⟩]
theorem ir.internal_strconv_formatBase10.r26.w (e : Env) (h : AHeap) (Q : Post) : wpC Tryd.prog nG ir.internal_strconv_formatBase10.r26 e h Q = lk (look e 0) (fun v0 => lk (look e 12) (fun v12 => wI Tryd.prog nG (.mv (.const v0)) h fun v162 h => wI Tryd.prog nG (.mv (.const v12)) h fun v163 h => wI Tryd.prog nG (.bin .add (.const (.int .u32 48)) (.const v163)) h fun v164 h => wI Tryd.prog nG (.conv .u8 (.const v164)) h fun v165 h => wI Tryd.prog nG (.ixs 1 (.const v162) (.const (.int .i64 0))) h fun v166 h => wI Tryd.prog nG (.store 1 (.const v166) (.const v165)) h fun _ h => Q .normal [] h) ()) () := lkm (lkm (wR (Rn rfl fun v162 h => Rn rfl fun v163 h => Rn rfl fun v164 h => Rn rfl fun v165 h => Rn rfl fun v166 h => Rz rfl fun v_ h => rfl)))
def ir.internal_strconv_formatBase10 : C := (.seq ir.internal_strconv_formatBase10.r0 (.seq (.block 0 ir.internal_strconv_formatBase10.l1) (.seq ir.internal_strconv_formatBase10.r12 (.seq (.seq ir.internal_strconv_formatBase10.r13 (.cond (.tmp 99) (.seq ir.internal_strconv_formatBase10.r14 (.seq ir.internal_strconv_formatBase10.r15 (.seq ir.internal_strconv_formatBase10.r16 (.seq ir.internal_strconv_formatBase10.r17 (.seq ir.internal_strconv_formatBase10.r18 ir.internal_strconv_formatBase10.r19))))) .skip)) (.seq (.seq ir.internal_strconv_formatBase10.r20 (.cond (.tmp 139) (.seq ir.internal_strconv_formatBase10.r21 (.seq ir.internal_strconv_formatBase10.r22 (.seq ir.internal_strconv_formatBase10.r23 ir.internal_strconv_formatBase10.r24))) .skip)) (.seq ir.internal_strconv_formatBase10.r25 (.cond (.tmp 161) ir.internal_strconv_formatBase10.r26 .skip)))))))
theorem ir.internal_strconv_formatBase10.bw (e : Env) (h : AHeap) (Q : Post) : wpC Tryd.prog nG ir.internal_strconv_formatBase10 e h Q = wpC Tryd.prog nG (.seq ir.internal_strconv_formatBase10.r0 (.seq (.block 0 ir.internal_strconv_formatBase10.l1) (.seq ir.internal_strconv_formatBase10.r12 (.seq (.seq ir.internal_strconv_formatBase10.r13 (.cond (.tmp 99) (.seq ir.internal_strconv_formatBase10.r14 (.seq ir.internal_strconv_formatBase10.r15 (.seq ir.internal_strconv_formatBase10.r16 (.seq ir.internal_strconv_formatBase10.r17 (.seq ir.internal_strconv_formatBase10.r18 ir.internal_strconv_formatBase10.r19))))) .skip)) (.seq (.seq ir.internal_strconv_formatBase10.r20 (.cond (.tmp 139) (.seq ir.internal_strconv_formatBase10.r21 (.seq ir.internal_strconv_formatBase10.r22 (.seq ir.internal_strconv_formatBase10.r23 ir.internal_strconv_formatBase10.r24))) .skip)) (.seq ir.internal_strconv_formatBase10.r25 (.cond (.tmp 161) ir.internal_strconv_formatBase10.r26 .skip))))))) e h Q := (rfl)
def ir.internal_strconv_formatBase10.rs : List RV := []
theorem ir.internal_strconv_formatBase10.ok : resC Tryd.prog nG 167 ir.internal_strconv_formatBase10.ks (Tryd.f120.body.getD .skip) = some ir.internal_strconv_formatBase10 := by kernel_rfl
theorem ir.internal_strconv_formatBase10.rok : Tryd.f120.results.toList.mapM (resR Tryd.prog) = some ir.internal_strconv_formatBase10.rs := by kernel_rfl
theorem ir.internal_strconv_formatBase10.spec {args : List Value} {h : AHeap} {v : Value} {h' : AHeap} (hn : args.length ≤ 167) :
    (wpC Tryd.prog nG ir.internal_strconv_formatBase10 (args.zipIdx.map fun p => (p.2, p.1)) h (retQ ir.internal_strconv_formatBase10.rs h v h')) → Spec Tryd.prog nG fn.internal_strconv_formatBase10 args h v h' :=
  Spec.intro (fn := Tryd.f120) Tryd.func120 (c := Tryd.f120.body.getD .skip) (by kernel_rfl) ir.internal_strconv_formatBase10.ok ir.internal_strconv_formatBase10.rok hn
attribute [go_sem ↓] ir.internal_strconv_formatBase10.r0.w ir.internal_strconv_formatBase10.r1.w ir.internal_strconv_formatBase10.r2.w ir.internal_strconv_formatBase10.r3.w ir.internal_strconv_formatBase10.r4.w ir.internal_strconv_formatBase10.r5.w ir.internal_strconv_formatBase10.r6.w ir.internal_strconv_formatBase10.r7.w ir.internal_strconv_formatBase10.r8.w ir.internal_strconv_formatBase10.r9.w ir.internal_strconv_formatBase10.r10.w ir.internal_strconv_formatBase10.r11.w ir.internal_strconv_formatBase10.l1.w ir.internal_strconv_formatBase10.r12.w ir.internal_strconv_formatBase10.r13.w ir.internal_strconv_formatBase10.r14.w ir.internal_strconv_formatBase10.r15.w ir.internal_strconv_formatBase10.r16.w ir.internal_strconv_formatBase10.r17.w ir.internal_strconv_formatBase10.r18.w ir.internal_strconv_formatBase10.r19.w ir.internal_strconv_formatBase10.r20.w ir.internal_strconv_formatBase10.r21.w ir.internal_strconv_formatBase10.r22.w ir.internal_strconv_formatBase10.r23.w ir.internal_strconv_formatBase10.r24.w ir.internal_strconv_formatBase10.r25.w ir.internal_strconv_formatBase10.r26.w
attribute [go_sem] ir.internal_strconv_formatBase10.rs

/-! ### internal/strconv.log10Pow2: function 141 -/
def ir.internal_strconv_log10Pow2.ks : Nat → List Nat := fun
  | 0 => [0]
  | 1 => [2]
  | _ => []
def ir.internal_strconv_log10Pow2.r0 : C := .region [0] [⟨some 2, .mv (.const (.int .i64 0)), none⟩]
theorem ir.internal_strconv_log10Pow2.r0.w (e : Env) (h : AHeap) (Q : Post) : wpC Tryd.prog nG ir.internal_strconv_log10Pow2.r0 e h Q = lk (look e 0) (fun v0 => wI Tryd.prog nG (.mv (.const (.int .i64 0))) h fun v2 h => Q .normal [(0, v0)] h) () := lkm (wR (Rn rfl fun v2 h => rfl))
def ir.internal_strconv_log10Pow2.r1 : C := .region [2] [⟨some 3, .mv (.tmp 0), none⟩, ⟨some 4, .bin .mul (.tmp 3) (.const (.int .i64 78913)), none⟩, ⟨some 5, .bin .shr (.tmp 4) (.const (.int .u64 18)), none⟩, ⟨some 2, .mv (.tmp 5), none⟩]
theorem ir.internal_strconv_log10Pow2.r1.w (e : Env) (h : AHeap) (Q : Post) : wpC Tryd.prog nG ir.internal_strconv_log10Pow2.r1 e h Q = lk (look e 0) (fun v0 => wI Tryd.prog nG (.mv (.const v0)) h fun v3 h => wI Tryd.prog nG (.bin .mul (.const v3) (.const (.int .i64 78913))) h fun v4 h => wI Tryd.prog nG (.bin .shr (.const v4) (.const (.int .u64 18))) h fun v5 h => wI Tryd.prog nG (.mv (.const v5)) h fun v2 h => Q .normal [(2, v2)] h) () := lkm (wR (Rn rfl fun v3 h => Rn rfl fun v4 h => Rn rfl fun v5 h => Rn rfl fun v2 h => rfl))
def ir.internal_strconv_log10Pow2 : C := (.seq ir.internal_strconv_log10Pow2.r0 (.seq ir.internal_strconv_log10Pow2.r1 .ret))
theorem ir.internal_strconv_log10Pow2.bw (e : Env) (h : AHeap) (Q : Post) : wpC Tryd.prog nG ir.internal_strconv_log10Pow2 e h Q = wpC Tryd.prog nG (.seq ir.internal_strconv_log10Pow2.r0 (.seq ir.internal_strconv_log10Pow2.r1 .ret)) e h Q := (rfl)
def ir.internal_strconv_log10Pow2.rs : List RV := [.tmp 2]
theorem ir.internal_strconv_log10Pow2.ok : resC Tryd.prog nG 6 ir.internal_strconv_log10Pow2.ks (Tryd.f141.body.getD .skip) = some ir.internal_strconv_log10Pow2 := by kernel_rfl
theorem ir.internal_strconv_log10Pow2.rok : Tryd.f141.results.toList.mapM (resR Tryd.prog) = some ir.internal_strconv_log10Pow2.rs := by kernel_rfl
theorem ir.internal_strconv_log10Pow2.spec {args : List Value} {h : AHeap} {v : Value} {h' : AHeap} (hn : args.length ≤ 6) :
    (wpC Tryd.prog nG ir.internal_strconv_log10Pow2 (args.zipIdx.map fun p => (p.2, p.1)) h (retQ ir.internal_strconv_log10Pow2.rs h v h')) → Spec Tryd.prog nG fn.internal_strconv_log10Pow2 args h v h' :=
  Spec.intro (fn := Tryd.f141) Tryd.func141 (c := Tryd.f141.body.getD .skip) (by kernel_rfl) ir.internal_strconv_log10Pow2.ok ir.internal_strconv_log10Pow2.rok hn
attribute [go_sem ↓] ir.internal_strconv_log10Pow2.r0.w ir.internal_strconv_log10Pow2.r1.w
attribute [go_sem] ir.internal_strconv_log10Pow2.rs

/-! ### math/bits.Len64: function 142 -/
def ir.math_bits_Len64.ks : Nat → List Nat := fun
  | 0 => [0, 2]
  | 1 => [0, 2, 4]
  | 2 => [0]
  | 3 => [0, 2]
  | 4 => [0, 2, 8]
  | 5 => [0, 2]
  | 6 => [0, 2]
  | 7 => [0, 2, 14]
  | 8 => [0, 2]
  | 9 => [0, 2]
  | 10 => [2]
  | _ => []
def ir.math_bits_Len64.r0 : C := .region [0, 2] [⟨some 2, .mv (.const (.int .i64 0)), none⟩]
theorem ir.math_bits_Len64.r0.w (e : Env) (h : AHeap) (Q : Post) : wpC Tryd.prog nG ir.math_bits_Len64.r0 e h Q = lk (look e 0) (fun v0 => wI Tryd.prog nG (.mv (.const (.int .i64 0))) h fun v2 h => Q .normal [(0, v0), (2, v2)] h) () := lkm (wR (Rn rfl fun v2 h => rfl))
def ir.math_bits_Len64.r1 : C := .region [0, 2, 4] [⟨some 3, .mv (.tmp 0), none⟩, ⟨some 4, .bin .geq (.tmp 3) (.const (.int .u64 4294967296)), none⟩]
theorem ir.math_bits_Len64.r1.w (e : Env) (h : AHeap) (Q : Post) : wpC Tryd.prog nG ir.math_bits_Len64.r1 e h Q = lk (look e 0) (fun v0 => lk (look e 2) (fun v2 => wI Tryd.prog nG (.mv (.const v0)) h fun v3 h => wI Tryd.prog nG (.bin .geq (.const v3) (.const (.int .u64 4294967296))) h fun v4 h => Q .normal [(0, v0), (2, v2), (4, v4)] h) ()) () := lkm (lkm (wR (Rn rfl fun v3 h => Rn rfl fun v4 h => rfl)))
def ir.math_bits_Len64.r2 : C := .region [0] [⟨some 5, .mv (.tmp 0), none⟩, ⟨some 6, .bin .shr (.tmp 5) (.const (.int .u64 32)), none⟩, ⟨some 0, .mv (.tmp 6), none⟩]
theorem ir.math_bits_Len64.r2.w (e : Env) (h : AHeap) (Q : Post) : wpC Tryd.prog nG ir.math_bits_Len64.r2 e h Q = lk (look e 0) (fun v0 => wI Tryd.prog nG (.mv (.const v0)) h fun v5 h => wI Tryd.prog nG (.bin .shr (.const v5) (.const (.int .u64 32))) h fun v6 h => wI Tryd.prog nG (.mv (.const v6)) h fun v0 h => Q .normal [(0, v0)] h) () := lkm (wR (Rn rfl fun v5 h => Rn rfl fun v6 h => Rn rfl fun v0 h => rfl))
def ir.math_bits_Len64.r3 : C := .region [0, 2] [⟨some 2, .mv (.const (.int .i64 32)), none⟩]
theorem ir.math_bits_Len64.r3.w (e : Env) (h : AHeap) (Q : Post) : wpC Tryd.prog nG ir.math_bits_Len64.r3 e h Q = lk (look e 0) (fun v0 => wI Tryd.prog nG (.mv (.const (.int .i64 32))) h fun v2 h => Q .normal [(0, v0), (2, v2)] h) () := lkm (wR (Rn rfl fun v2 h => rfl))
def ir.math_bits_Len64.r4 : C := .region [0, 2, 8] [⟨some 7, .mv (.tmp 0), none⟩, ⟨some 8, .bin .geq (.tmp 7) (.const (.int .u64 65536)), none⟩]
theorem ir.math_bits_Len64.r4.w (e : Env) (h : AHeap) (Q : Post) : wpC Tryd.prog nG ir.math_bits_Len64.r4 e h Q = lk (look e 0) (fun v0 => lk (look e 2) (fun v2 => wI Tryd.prog nG (.mv (.const v0)) h fun v7 h => wI Tryd.prog nG (.bin .geq (.const v7) (.const (.int .u64 65536))) h fun v8 h => Q .normal [(0, v0), (2, v2), (8, v8)] h) ()) () := lkm (lkm (wR (Rn rfl fun v7 h => Rn rfl fun v8 h => rfl)))
def ir.math_bits_Len64.r5 : C := .region [0, 2] [⟨some 9, .mv (.tmp 0), none⟩, ⟨some 10, .bin .shr (.tmp 9) (.const (.int .u64 16)), none⟩, ⟨some 0, .mv (.tmp 10), none⟩]
theorem ir.math_bits_Len64.r5.w (e : Env) (h : AHeap) (Q : Post) : wpC Tryd.prog nG ir.math_bits_Len64.r5 e h Q = lk (look e 0) (fun v0 => lk (look e 2) (fun v2 => wI Tryd.prog nG (.mv (.const v0)) h fun v9 h => wI Tryd.prog nG (.bin .shr (.const v9) (.const (.int .u64 16))) h fun v10 h => wI Tryd.prog nG (.mv (.const v10)) h fun v0 h => Q .normal [(0, v0), (2, v2)] h) ()) () := lkm (lkm (wR (Rn rfl fun v9 h => Rn rfl fun v10 h => Rn rfl fun v0 h => rfl)))
def ir.math_bits_Len64.r6 : C := .region [0, 2] [⟨some 11, .mv (.tmp 2), none⟩, ⟨some 12, .bin .add (.tmp 11) (.const (.int .i64 16)), none⟩, ⟨some 2, .mv (.tmp 12), none⟩]
theorem ir.math_bits_Len64.r6.w (e : Env) (h : AHeap) (Q : Post) : wpC Tryd.prog nG ir.math_bits_Len64.r6 e h Q = lk (look e 0) (fun v0 => lk (look e 2) (fun v2 => wI Tryd.prog nG (.mv (.const v2)) h fun v11 h => wI Tryd.prog nG (.bin .add (.const v11) (.const (.int .i64 16))) h fun v12 h => wI Tryd.prog nG (.mv (.const v12)) h fun v2 h => Q .normal [(0, v0), (2, v2)] h) ()) () := lkm (lkm (wR (Rn rfl fun v11 h => Rn rfl fun v12 h => Rn rfl fun v2 h => rfl)))
def ir.math_bits_Len64.r7 : C := .region [0, 2, 14] [⟨some 13, .mv (.tmp 0), none⟩, ⟨some 14, .bin .geq (.tmp 13) (.const (.int .u64 256)), none⟩]
theorem ir.math_bits_Len64.r7.w (e : Env) (h : AHeap) (Q : Post) : wpC Tryd.prog nG ir.math_bits_Len64.r7 e h Q = lk (look e 0) (fun v0 => lk (look e 2) (fun v2 => wI Tryd.prog nG (.mv (.const v0)) h fun v13 h => wI Tryd.prog nG (.bin .geq (.const v13) (.const (.int .u64 256))) h fun v14 h => Q .normal [(0, v0), (2, v2), (14, v14)] h) ()) () := lkm (lkm (wR (Rn rfl fun v13 h => Rn rfl fun v14 h => rfl)))
def ir.math_bits_Len64.r8 : C := .region [0, 2] [⟨some 15, .mv (.tmp 0), none⟩, ⟨some 16, .bin .shr (.tmp 15) (.const (.int .u64 8)), none⟩, ⟨some 0, .mv (.tmp 16), none⟩]
theorem ir.math_bits_Len64.r8.w (e : Env) (h : AHeap) (Q : Post) : wpC Tryd.prog nG ir.math_bits_Len64.r8 e h Q = lk (look e 0) (fun v0 => lk (look e 2) (fun v2 => wI Tryd.prog nG (.mv (.const v0)) h fun v15 h => wI Tryd.prog nG (.bin .shr (.const v15) (.const (.int .u64 8))) h fun v16 h => wI Tryd.prog nG (.mv (.const v16)) h fun v0 h => Q .normal [(0, v0), (2, v2)] h) ()) () := lkm (lkm (wR (Rn rfl fun v15 h => Rn rfl fun v16 h => Rn rfl fun v0 h => rfl)))
def ir.math_bits_Len64.r9 : C := .region [0, 2] [⟨some 17, .mv (.tmp 2), none⟩, ⟨some 18, .bin .add (.tmp 17) (.const (.int .i64 8)), none⟩, ⟨some 2, .mv (.tmp 18), none⟩]
theorem ir.math_bits_Len64.r9.w (e : Env) (h : AHeap) (Q : Post) : wpC Tryd.prog nG ir.math_bits_Len64.r9 e h Q = lk (look e 0) (fun v0 => lk (look e 2) (fun v2 => wI Tryd.prog nG (.mv (.const v2)) h fun v17 h => wI Tryd.prog nG (.bin .add (.const v17) (.const (.int .i64 8))) h fun v18 h => wI Tryd.prog nG (.mv (.const v18)) h fun v2 h => Q .normal [(0, v0), (2, v2)] h) ()) () := lkm (lkm (wR (Rn rfl fun v17 h => Rn rfl fun v18 h => Rn rfl fun v2 h => rfl)))
def ir.math_bits_Len64.r10 : C := .region [2] [⟨some 19, .mv (.tmp 2), none⟩, ⟨some 20, .mv (.tmp 0), none⟩, ⟨some 21, .conv .u8 (.tmp 20), none⟩, ⟨some 22, .ixstr (.const (.string lit_633d862b)) (.tmp 21), none⟩, ⟨some 23, .conv .i64 (.tmp 22), none⟩, ⟨some 24, .bin .add (.tmp 19) (.tmp 23), none⟩, ⟨some 2, .mv (.tmp 24), none⟩]
theorem ir.math_bits_Len64.r10.w (e : Env) (h : AHeap) (Q : Post) : wpC Tryd.prog nG ir.math_bits_Len64.r10 e h Q = lk (look e 0) (fun v0 => lk (look e 2) (fun v2 => wI Tryd.prog nG (.mv (.const v2)) h fun v19 h => wI Tryd.prog nG (.mv (.const v0)) h fun v20 h => wI Tryd.prog nG (.conv .u8 (.const v20)) h fun v21 h => wI Tryd.prog nG (.ixstr (.const (.string lit_633d862b)) (.const v21)) h fun v22 h => wI Tryd.prog nG (.conv .i64 (.const v22)) h fun v23 h => wI Tryd.prog nG (.bin .add (.const v19) (.const v23)) h fun v24 h => wI Tryd.prog nG (.mv (.const v24)) h fun v2 h => Q .normal [(2, v2)] h) ()) () := lkm (lkm (wR (Rn rfl fun v19 h => Rn rfl fun v20 h => Rn rfl fun v21 h => Rn rfl fun v22 h => Rn rfl fun v23 h => Rn rfl fun v24 h => Rn rfl fun v2 h => rfl)))
def ir.math_bits_Len64 : C := (.seq ir.math_bits_Len64.r0 (.seq (.seq ir.math_bits_Len64.r1 (.cond (.tmp 4) (.seq ir.math_bits_Len64.r2 ir.math_bits_Len64.r3) .skip)) (.seq (.seq ir.math_bits_Len64.r4 (.cond (.tmp 8) (.seq ir.math_bits_Len64.r5 ir.math_bits_Len64.r6) .skip)) (.seq (.seq ir.math_bits_Len64.r7 (.cond (.tmp 14) (.seq ir.math_bits_Len64.r8 ir.math_bits_Len64.r9) .skip)) (.seq ir.math_bits_Len64.r10 .ret)))))
theorem ir.math_bits_Len64.bw (e : Env) (h : AHeap) (Q : Post) : wpC Tryd.prog nG ir.math_bits_Len64 e h Q = wpC Tryd.prog nG (.seq ir.math_bits_Len64.r0 (.seq (.seq ir.math_bits_Len64.r1 (.cond (.tmp 4) (.seq ir.math_bits_Len64.r2 ir.math_bits_Len64.r3) .skip)) (.seq (.seq ir.math_bits_Len64.r4 (.cond (.tmp 8) (.seq ir.math_bits_Len64.r5 ir.math_bits_Len64.r6) .skip)) (.seq (.seq ir.math_bits_Len64.r7 (.cond (.tmp 14) (.seq ir.math_bits_Len64.r8 ir.math_bits_Len64.r9) .skip)) (.seq ir.math_bits_Len64.r10 .ret))))) e h Q := (rfl)
def ir.math_bits_Len64.rs : List RV := [.tmp 2]
theorem ir.math_bits_Len64.ok : resC Tryd.prog nG 25 ir.math_bits_Len64.ks (Tryd.f142.body.getD .skip) = some ir.math_bits_Len64 := by kernel_rfl
theorem ir.math_bits_Len64.rok : Tryd.f142.results.toList.mapM (resR Tryd.prog) = some ir.math_bits_Len64.rs := by kernel_rfl
theorem ir.math_bits_Len64.spec {args : List Value} {h : AHeap} {v : Value} {h' : AHeap} (hn : args.length ≤ 25) :
    (wpC Tryd.prog nG ir.math_bits_Len64 (args.zipIdx.map fun p => (p.2, p.1)) h (retQ ir.math_bits_Len64.rs h v h')) → Spec Tryd.prog nG fn.math_bits_Len64 args h v h' :=
  Spec.intro (fn := Tryd.f142) Tryd.func142 (c := Tryd.f142.body.getD .skip) (by kernel_rfl) ir.math_bits_Len64.ok ir.math_bits_Len64.rok hn
attribute [go_sem ↓] ir.math_bits_Len64.r0.w ir.math_bits_Len64.r1.w ir.math_bits_Len64.r2.w ir.math_bits_Len64.r3.w ir.math_bits_Len64.r4.w ir.math_bits_Len64.r5.w ir.math_bits_Len64.r6.w ir.math_bits_Len64.r7.w ir.math_bits_Len64.r8.w ir.math_bits_Len64.r9.w ir.math_bits_Len64.r10.w
attribute [go_sem] ir.math_bits_Len64.rs

/-! ### internal/strconv.bool2[int]: function 143 -/
def ir.internal_strconv_bool2_int.ks : Nat → List Nat := fun
  | 0 => [0]
  | 1 => [3]
  | 2 => [2]
  | 3 => [2]
  | _ => []
def ir.internal_strconv_bool2_int.r0 : C := .region [0] [⟨some 2, .mv (.const (.int .i64 0)), none⟩]
theorem ir.internal_strconv_bool2_int.r0.w (e : Env) (h : AHeap) (Q : Post) : wpC Tryd.prog nG ir.internal_strconv_bool2_int.r0 e h Q = lk (look e 0) (fun v0 => wI Tryd.prog nG (.mv (.const (.int .i64 0))) h fun v2 h => Q .normal [(0, v0)] h) () := lkm (wR (Rn rfl fun v2 h => rfl))
def ir.internal_strconv_bool2_int.r1 : C := .region [3] [⟨some 3, .mv (.tmp 0), none⟩]
theorem ir.internal_strconv_bool2_int.r1.w (e : Env) (h : AHeap) (Q : Post) : wpC Tryd.prog nG ir.internal_strconv_bool2_int.r1 e h Q = lk (look e 0) (fun v0 => wI Tryd.prog nG (.mv (.const v0)) h fun v3 h => Q .normal [(3, v3)] h) () := lkm (wR (Rn rfl fun v3 h => rfl))
def ir.internal_strconv_bool2_int.r2 : C := .region [2] [⟨some 2, .mv (.const (.int .i64 1)), none⟩]
theorem ir.internal_strconv_bool2_int.r2.w (e : Env) (h : AHeap) (Q : Post) : wpC Tryd.prog nG ir.internal_strconv_bool2_int.r2 e h Q = wI Tryd.prog nG (.mv (.const (.int .i64 1))) h fun v2 h => Q .normal [(2, v2)] h := wR (Rn rfl fun v2 h => rfl)
def ir.internal_strconv_bool2_int.r3 : C := .region [2] [⟨some 2, .mv (.const (.int .i64 0)), none⟩]
theorem ir.internal_strconv_bool2_int.r3.w (e : Env) (h : AHeap) (Q : Post) : wpC Tryd.prog nG ir.internal_strconv_bool2_int.r3 e h Q = wI Tryd.prog nG (.mv (.const (.int .i64 0))) h fun v2 h => Q .normal [(2, v2)] h := wR (Rn rfl fun v2 h => rfl)
def ir.internal_strconv_bool2_int : C := (.seq ir.internal_strconv_bool2_int.r0 (.seq (.seq ir.internal_strconv_bool2_int.r1 (.cond (.tmp 3) (.seq ir.internal_strconv_bool2_int.r2 .ret) .skip)) (.seq ir.internal_strconv_bool2_int.r3 .ret)))
theorem ir.internal_strconv_bool2_int.bw (e : Env) (h : AHeap) (Q : Post) : wpC Tryd.prog nG ir.internal_strconv_bool2_int e h Q = wpC Tryd.prog nG (.seq ir.internal_strconv_bool2_int.r0 (.seq (.seq ir.internal_strconv_bool2_int.r1 (.cond (.tmp 3) (.seq ir.internal_strconv_bool2_int.r2 .ret) .skip)) (.seq ir.internal_strconv_bool2_int.r3 .ret))) e h Q := (rfl)
def ir.internal_strconv_bool2_int.rs : List RV := [.tmp 2]
theorem ir.internal_strconv_bool2_int.ok : resC Tryd.prog nG 4 ir.internal_strconv_bool2_int.ks (Tryd.f143.body.getD .skip) = some ir.internal_strconv_bool2_int := by kernel_rfl
theorem ir.internal_strconv_bool2_int.rok : Tryd.f143.results.toList.mapM (resR Tryd.prog) = some ir.internal_strconv_bool2_int.rs := by kernel_rfl
theorem ir.internal_strconv_bool2_int.spec {args : List Value} {h : AHeap} {v : Value} {h' : AHeap} (hn : args.length ≤ 4) :
    (wpC Tryd.prog nG ir.internal_strconv_bool2_int (args.zipIdx.map fun p => (p.2, p.1)) h (retQ ir.internal_strconv_bool2_int.rs h v h')) → Spec Tryd.prog nG fn.internal_strconv_bool2_int args h v h' :=
  Spec.intro (fn := Tryd.f143) Tryd.func143 (c := Tryd.f143.body.getD .skip) (by kernel_rfl) ir.internal_strconv_bool2_int.ok ir.internal_strconv_bool2_int.rok hn
attribute [go_sem ↓] ir.internal_strconv_bool2_int.r0.w ir.internal_strconv_bool2_int.r1.w ir.internal_strconv_bool2_int.r2.w ir.internal_strconv_bool2_int.r3.w
attribute [go_sem] ir.internal_strconv_bool2_int.rs
end Go.Proofs.YtoiihalnbdehkaaDoor.B
