/-
  The instructions of the program's functions, printed by genir.py; each is checked against the program by the kernel.
-/
import Derived.Test.YtmeojocmngbpaaaProg
import Derived.Test.YtmeojocmngbpaaaAbS
import Derived.KernelRfl
namespace Go.Proofs.Ytmeojocmngbpaaa.B
open Go
set_option maxRecDepth 100000
set_option linter.unusedVariables false
namespace fn
def fingerpostlaw01_RankOrders : FuncId := 3
def fingerpostlaw01_RankLine : FuncId := 4
def fingerpostlaw01_RankHops : FuncId := 5
def fingerpostlaw01_RankBests : FuncId := 6
def fingerpostlaw01_RankSteps : FuncId := 7
def fingerpostlaw22_FibNearer : FuncId := 8
def fingerpostlaw22_FibDiffs : FuncId := 9
def fingerpostlaw22_FibWalks : FuncId := 10
def fingerpostlaw22_FibFar : FuncId := 11
def fingerpostlaw32_PacketAll : FuncId := 12
def rank_Right : FuncId := 13
def fingerpostlaw01_To : FuncId := 14
def fingerpostref01_Right : FuncId := 15
def rank_Compare : FuncId := 16
def fingerpostlaw01_order : FuncId := 17
def rank_Newer : FuncId := 18
def fingerpostref01_Newer : FuncId := 19
def rank_Hop : FuncId := 20
def fingerpostref01_Hop : FuncId := 21
def rank_Next : FuncId := 22
def fingerpostref01_Next : FuncId := 23
def fingerpostlaw01_From : FuncId := 24
def rank_Best : FuncId := 25
def fingerpostref01_Best : FuncId := 26
def fingerpostref22_Table : FuncId := 27
def fingerpostlaw22_awake : FuncId := 28
def fingerpostlaw22_To : FuncId := 29
def fingerpostref22_Lookup : FuncId := 30
def fib_Walk : FuncId := 31
def fib_Diff : FuncId := 32
def fingerpostref22_Diff : FuncId := 33
def fib_Lookup : FuncId := 34
def fingerpostref22_Walk : FuncId := 35
def fingerpostref18_SameInts : FuncId := 36
def fib_Loops : FuncId := 37
def fib_Far : FuncId := 38
def fingerpostref22_Far : FuncId := 39
def fingerpostlaw32_fits : FuncId := 40
def fingerpostlaw32_awake : FuncId := 41
def packet_All : FuncId := 42
def fingerpostlaw32_to : FuncId := 43
def fingerpostref32_At : FuncId := 44
def fingerpostref32_Send : FuncId := 45
def rank_sign : FuncId := 46
def fingerpostref01_Better : FuncId := 47
def slices_Contains_int_int : FuncId := 48
def slices_BinarySearchFunc_fib_Hop_fib_Hop_int : FuncId := 49
def fingerpostref22_In : FuncId := 52
def fingerpostref22_Linked : FuncId := 53
def packet_is : FuncId := 54
def packet_Send : FuncId := 55
def slices_Index_int_int : FuncId := 56
def packet_Net_linked : FuncId := 58
end fn
def nG : Nat := 0

/-! ### fingerpost/fingerpostlaw01.RankOrders: function 3 -/
def ir.fingerpostlaw01_RankOrders.ks : Nat → List Nat := fun
  | 0 => [2, 3]
  | 1 => [4]
  | _ => []
def ir.fingerpostlaw01_RankOrders.r0.o2 : List GI := ⟨some 4, .mv (.const (.bool false)), none⟩ :: []
def ir.fingerpostlaw01_RankOrders.r0.o1 : List GI := ⟨some 3, .box (.tmp 1), none⟩ :: ir.fingerpostlaw01_RankOrders.r0.o2
def ir.fingerpostlaw01_RankOrders.r0.o0 : List GI := ⟨some 2, .box (.tmp 0), none⟩ :: ir.fingerpostlaw01_RankOrders.r0.o1
def ir.fingerpostlaw01_RankOrders.r0 : C := .region [2, 3] ir.fingerpostlaw01_RankOrders.r0.o0
def ir.fingerpostlaw01_RankOrders.r1.o32 : List GI := ⟨some 4, .mv (.tmp 36), none⟩ :: []
def ir.fingerpostlaw01_RankOrders.r1.o31 : List GI := ⟨some 36, .pick (.tmp 33) (.tmp 35) (.const (.bool false)), none⟩ :: ir.fingerpostlaw01_RankOrders.r1.o32
def ir.fingerpostlaw01_RankOrders.r1.o30 : List GI := ⟨some 35, .call fn.rank_Right [.tmp 34], some (33, true)⟩ :: ir.fingerpostlaw01_RankOrders.r1.o31
def ir.fingerpostlaw01_RankOrders.r1.o29 : List GI := ⟨some 34, .build [.int .u32 0, .int .u32 0, .int .i64 0] [], some (33, true)⟩ :: ir.fingerpostlaw01_RankOrders.r1.o30
def ir.fingerpostlaw01_RankOrders.r1.o28 : List GI := ⟨some 33, .mv (.tmp 32), none⟩ :: ir.fingerpostlaw01_RankOrders.r1.o29
def ir.fingerpostlaw01_RankOrders.r1.o27 : List GI := ⟨some 32, .pick (.tmp 22) (.tmp 31) (.const (.bool false)), none⟩ :: ir.fingerpostlaw01_RankOrders.r1.o28
def ir.fingerpostlaw01_RankOrders.r1.o26 : List GI := ⟨some 31, .eqb false (.tmp 27) (.tmp 30), some (22, true)⟩ :: ir.fingerpostlaw01_RankOrders.r1.o27
def ir.fingerpostlaw01_RankOrders.r1.o25 : List GI := ⟨some 30, .call fn.fingerpostref01_Newer [.tmp 28, .tmp 29], some (22, true)⟩ :: ir.fingerpostlaw01_RankOrders.r1.o26
def ir.fingerpostlaw01_RankOrders.r1.o24 : List GI := ⟨some 29, .load true 3 (.tmp 3), some (22, true)⟩ :: ir.fingerpostlaw01_RankOrders.r1.o25
def ir.fingerpostlaw01_RankOrders.r1.o23 : List GI := ⟨some 28, .load true 3 (.tmp 2), some (22, true)⟩ :: ir.fingerpostlaw01_RankOrders.r1.o24
def ir.fingerpostlaw01_RankOrders.r1.o22 : List GI := ⟨some 27, .call fn.rank_Newer [.tmp 24, .tmp 26], some (22, true)⟩ :: ir.fingerpostlaw01_RankOrders.r1.o23
def ir.fingerpostlaw01_RankOrders.r1.o21 : List GI := ⟨some 26, .call fn.fingerpostlaw01_To [.tmp 25], some (22, true)⟩ :: ir.fingerpostlaw01_RankOrders.r1.o22
def ir.fingerpostlaw01_RankOrders.r1.o20 : List GI := ⟨some 25, .load true 3 (.tmp 3), some (22, true)⟩ :: ir.fingerpostlaw01_RankOrders.r1.o21
def ir.fingerpostlaw01_RankOrders.r1.o19 : List GI := ⟨some 24, .call fn.fingerpostlaw01_To [.tmp 23], some (22, true)⟩ :: ir.fingerpostlaw01_RankOrders.r1.o20
def ir.fingerpostlaw01_RankOrders.r1.o18 : List GI := ⟨some 23, .load true 3 (.tmp 2), some (22, true)⟩ :: ir.fingerpostlaw01_RankOrders.r1.o19
def ir.fingerpostlaw01_RankOrders.r1.o17 : List GI := ⟨some 22, .mv (.tmp 21), none⟩ :: ir.fingerpostlaw01_RankOrders.r1.o18
def ir.fingerpostlaw01_RankOrders.r1.o16 : List GI := ⟨some 21, .pick (.tmp 11) (.tmp 20) (.const (.bool false)), none⟩ :: ir.fingerpostlaw01_RankOrders.r1.o17
def ir.fingerpostlaw01_RankOrders.r1.o15 : List GI := ⟨some 20, .bin .eql (.tmp 16) (.tmp 19), some (11, true)⟩ :: ir.fingerpostlaw01_RankOrders.r1.o16
def ir.fingerpostlaw01_RankOrders.r1.o14 : List GI := ⟨some 19, .call fn.fingerpostlaw01_order [.tmp 17, .tmp 18], some (11, true)⟩ :: ir.fingerpostlaw01_RankOrders.r1.o15
def ir.fingerpostlaw01_RankOrders.r1.o13 : List GI := ⟨some 18, .load true 3 (.tmp 3), some (11, true)⟩ :: ir.fingerpostlaw01_RankOrders.r1.o14
def ir.fingerpostlaw01_RankOrders.r1.o12 : List GI := ⟨some 17, .load true 3 (.tmp 2), some (11, true)⟩ :: ir.fingerpostlaw01_RankOrders.r1.o13
def ir.fingerpostlaw01_RankOrders.r1.o11 : List GI := ⟨some 16, .call fn.rank_Compare [.tmp 13, .tmp 15], some (11, true)⟩ :: ir.fingerpostlaw01_RankOrders.r1.o12
def ir.fingerpostlaw01_RankOrders.r1.o10 : List GI := ⟨some 15, .call fn.fingerpostlaw01_To [.tmp 14], some (11, true)⟩ :: ir.fingerpostlaw01_RankOrders.r1.o11
def ir.fingerpostlaw01_RankOrders.r1.o9 : List GI := ⟨some 14, .load true 3 (.tmp 3), some (11, true)⟩ :: ir.fingerpostlaw01_RankOrders.r1.o10
def ir.fingerpostlaw01_RankOrders.r1.o8 : List GI := ⟨some 13, .call fn.fingerpostlaw01_To [.tmp 12], some (11, true)⟩ :: ir.fingerpostlaw01_RankOrders.r1.o9
def ir.fingerpostlaw01_RankOrders.r1.o7 : List GI := ⟨some 12, .load true 3 (.tmp 2), some (11, true)⟩ :: ir.fingerpostlaw01_RankOrders.r1.o8
def ir.fingerpostlaw01_RankOrders.r1.o6 : List GI := ⟨some 11, .mv (.tmp 10), none⟩ :: ir.fingerpostlaw01_RankOrders.r1.o7
def ir.fingerpostlaw01_RankOrders.r1.o5 : List GI := ⟨some 10, .eqb false (.tmp 7) (.tmp 9), none⟩ :: ir.fingerpostlaw01_RankOrders.r1.o6
def ir.fingerpostlaw01_RankOrders.r1.o4 : List GI := ⟨some 9, .call fn.fingerpostref01_Right [.tmp 8], none⟩ :: ir.fingerpostlaw01_RankOrders.r1.o5
def ir.fingerpostlaw01_RankOrders.r1.o3 : List GI := ⟨some 8, .load true 3 (.tmp 2), none⟩ :: ir.fingerpostlaw01_RankOrders.r1.o4
def ir.fingerpostlaw01_RankOrders.r1.o2 : List GI := ⟨some 7, .call fn.rank_Right [.tmp 6], none⟩ :: ir.fingerpostlaw01_RankOrders.r1.o3
def ir.fingerpostlaw01_RankOrders.r1.o1 : List GI := ⟨some 6, .call fn.fingerpostlaw01_To [.tmp 5], none⟩ :: ir.fingerpostlaw01_RankOrders.r1.o2
def ir.fingerpostlaw01_RankOrders.r1.o0 : List GI := ⟨some 5, .load true 3 (.tmp 2), none⟩ :: ir.fingerpostlaw01_RankOrders.r1.o1
def ir.fingerpostlaw01_RankOrders.r1 : C := .draw [4] ir.fingerpostlaw01_RankOrders.r1.o0
def ir.fingerpostlaw01_RankOrders : C := (.seq ir.fingerpostlaw01_RankOrders.r0 (.seq ir.fingerpostlaw01_RankOrders.r1 .ret))
def ir.fingerpostlaw01_RankOrders.rs : List RV := [.tmp 4]
theorem ir.fingerpostlaw01_RankOrders.ok : resC Try.prog nG 37 ir.fingerpostlaw01_RankOrders.ks (Try.f3.body.getD .skip) = some ir.fingerpostlaw01_RankOrders := by kernel_rfl
theorem ir.fingerpostlaw01_RankOrders.rok : Try.f3.results.toList.mapM (resR Try.prog) = some ir.fingerpostlaw01_RankOrders.rs := by kernel_rfl
theorem ir.fingerpostlaw01_RankOrders.spec {args : List Value} {h : AHeap} {v : Value} {h' : AHeap} (hn : args.length ≤ 37)
    (hk : wpC Try.prog nG ir.fingerpostlaw01_RankOrders (args.zipIdx.map fun p => (p.2, p.1)) h (retQ ir.fingerpostlaw01_RankOrders.rs h v h')) : Spec Try.prog nG fn.fingerpostlaw01_RankOrders args h v h' :=
  Spec.intro (fn := Try.f3) Try.func3 (c := Try.f3.body.getD .skip) rfl ir.fingerpostlaw01_RankOrders.ok ir.fingerpostlaw01_RankOrders.rok hn hk

/-! ### fingerpost/fingerpostlaw01.RankLine: function 4 -/
def ir.fingerpostlaw01_RankLine.ks : Nat → List Nat := fun
  | 0 => [3, 4, 5]
  | 1 => [7, 8, 9]
  | 2 => [7, 8, 9, 44]
  | 3 => [6]
  | 4 => [7, 8, 9, 73]
  | 5 => [6]
  | 6 => [6]
  | _ => []
def ir.fingerpostlaw01_RankLine.r0.o3 : List GI := ⟨some 6, .mv (.const (.bool false)), none⟩ :: []
def ir.fingerpostlaw01_RankLine.r0.o2 : List GI := ⟨some 5, .box (.tmp 2), none⟩ :: ir.fingerpostlaw01_RankLine.r0.o3
def ir.fingerpostlaw01_RankLine.r0.o1 : List GI := ⟨some 4, .box (.tmp 1), none⟩ :: ir.fingerpostlaw01_RankLine.r0.o2
def ir.fingerpostlaw01_RankLine.r0.o0 : List GI := ⟨some 3, .box (.tmp 0), none⟩ :: ir.fingerpostlaw01_RankLine.r0.o1
def ir.fingerpostlaw01_RankLine.r0 : C := .region [3, 4, 5] ir.fingerpostlaw01_RankLine.r0.o0
def ir.fingerpostlaw01_RankLine.r1.o11 : List GI := ⟨none, .store 3 (.tmp 9) (.tmp 15), none⟩ :: []
def ir.fingerpostlaw01_RankLine.r1.o10 : List GI := ⟨none, .store 3 (.tmp 8) (.tmp 13), none⟩ :: ir.fingerpostlaw01_RankLine.r1.o11
def ir.fingerpostlaw01_RankLine.r1.o9 : List GI := ⟨none, .store 3 (.tmp 7) (.tmp 11), none⟩ :: ir.fingerpostlaw01_RankLine.r1.o10
def ir.fingerpostlaw01_RankLine.r1.o8 : List GI := ⟨some 9, .new [.int .u32 0, .int .u32 0, .int .i64 0], none⟩ :: ir.fingerpostlaw01_RankLine.r1.o9
def ir.fingerpostlaw01_RankLine.r1.o7 : List GI := ⟨some 8, .new [.int .u32 0, .int .u32 0, .int .i64 0], none⟩ :: ir.fingerpostlaw01_RankLine.r1.o8
def ir.fingerpostlaw01_RankLine.r1.o6 : List GI := ⟨some 7, .new [.int .u32 0, .int .u32 0, .int .i64 0], none⟩ :: ir.fingerpostlaw01_RankLine.r1.o7
def ir.fingerpostlaw01_RankLine.r1.o5 : List GI := ⟨some 15, .call fn.fingerpostlaw01_To [.tmp 14], none⟩ :: ir.fingerpostlaw01_RankLine.r1.o6
def ir.fingerpostlaw01_RankLine.r1.o4 : List GI := ⟨some 14, .load true 3 (.tmp 5), none⟩ :: ir.fingerpostlaw01_RankLine.r1.o5
def ir.fingerpostlaw01_RankLine.r1.o3 : List GI := ⟨some 13, .call fn.fingerpostlaw01_To [.tmp 12], none⟩ :: ir.fingerpostlaw01_RankLine.r1.o4
def ir.fingerpostlaw01_RankLine.r1.o2 : List GI := ⟨some 12, .load true 3 (.tmp 4), none⟩ :: ir.fingerpostlaw01_RankLine.r1.o3
def ir.fingerpostlaw01_RankLine.r1.o1 : List GI := ⟨some 11, .call fn.fingerpostlaw01_To [.tmp 10], none⟩ :: ir.fingerpostlaw01_RankLine.r1.o2
def ir.fingerpostlaw01_RankLine.r1.o0 : List GI := ⟨some 10, .load true 3 (.tmp 3), none⟩ :: ir.fingerpostlaw01_RankLine.r1.o1
def ir.fingerpostlaw01_RankLine.r1 : C := .draw [7, 8, 9] ir.fingerpostlaw01_RankLine.r1.o0
def ir.fingerpostlaw01_RankLine.r2.o28 : List GI := ⟨some 44, .pick (.tmp 34) (.const (.bool true)) (.tmp 43), none⟩ :: []
def ir.fingerpostlaw01_RankLine.r2.o27 : List GI := ⟨some 43, .pick (.tmp 38) (.tmp 42) (.const (.bool false)), some (34, false)⟩ :: ir.fingerpostlaw01_RankLine.r2.o28
def ir.fingerpostlaw01_RankLine.r2.o26 : List GI := ⟨some 42, .bin .leq (.tmp 41) (.const (.int .i64 0)), some (38, true)⟩ :: ir.fingerpostlaw01_RankLine.r2.o27
def ir.fingerpostlaw01_RankLine.r2.o25 : List GI := ⟨some 41, .call fn.rank_Compare [.tmp 39, .tmp 40], some (38, true)⟩ :: ir.fingerpostlaw01_RankLine.r2.o26
def ir.fingerpostlaw01_RankLine.r2.o24 : List GI := ⟨some 40, .load true 3 (.tmp 8), some (38, true)⟩ :: ir.fingerpostlaw01_RankLine.r2.o25
def ir.fingerpostlaw01_RankLine.r2.o23 : List GI := ⟨some 39, .load true 3 (.tmp 7), some (38, true)⟩ :: ir.fingerpostlaw01_RankLine.r2.o24
def ir.fingerpostlaw01_RankLine.r2.o22 : List GI := ⟨some 38, .mv (.tmp 37), some (34, false)⟩ :: ir.fingerpostlaw01_RankLine.r2.o23
def ir.fingerpostlaw01_RankLine.r2.o21 : List GI := ⟨some 37, .call fn.rank_Newer [.tmp 35, .tmp 36], some (34, false)⟩ :: ir.fingerpostlaw01_RankLine.r2.o22
def ir.fingerpostlaw01_RankLine.r2.o20 : List GI := ⟨some 36, .load true 3 (.tmp 8), some (34, false)⟩ :: ir.fingerpostlaw01_RankLine.r2.o21
def ir.fingerpostlaw01_RankLine.r2.o19 : List GI := ⟨some 35, .load true 3 (.tmp 7), some (34, false)⟩ :: ir.fingerpostlaw01_RankLine.r2.o20
def ir.fingerpostlaw01_RankLine.r2.o18 : List GI := ⟨some 34, .mv (.tmp 33), none⟩ :: ir.fingerpostlaw01_RankLine.r2.o19
def ir.fingerpostlaw01_RankLine.r2.o17 : List GI := ⟨some 33, .pick (.tmp 24) (.const (.bool true)) (.tmp 32), none⟩ :: ir.fingerpostlaw01_RankLine.r2.o18
def ir.fingerpostlaw01_RankLine.r2.o16 : List GI := ⟨some 32, .eqb true (.tmp 28) (.tmp 31), some (24, false)⟩ :: ir.fingerpostlaw01_RankLine.r2.o17
def ir.fingerpostlaw01_RankLine.r2.o15 : List GI := ⟨some 31, .eqs [0, 0, 0] false (.tmp 29) (.tmp 30), some (24, false)⟩ :: ir.fingerpostlaw01_RankLine.r2.o16
def ir.fingerpostlaw01_RankLine.r2.o14 : List GI := ⟨some 30, .load true 3 (.tmp 8), some (24, false)⟩ :: ir.fingerpostlaw01_RankLine.r2.o15
def ir.fingerpostlaw01_RankLine.r2.o13 : List GI := ⟨some 29, .load true 3 (.tmp 7), some (24, false)⟩ :: ir.fingerpostlaw01_RankLine.r2.o14
def ir.fingerpostlaw01_RankLine.r2.o12 : List GI := ⟨some 28, .bin .eql (.tmp 27) (.const (.int .i64 0)), some (24, false)⟩ :: ir.fingerpostlaw01_RankLine.r2.o13
def ir.fingerpostlaw01_RankLine.r2.o11 : List GI := ⟨some 27, .call fn.rank_Compare [.tmp 25, .tmp 26], some (24, false)⟩ :: ir.fingerpostlaw01_RankLine.r2.o12
def ir.fingerpostlaw01_RankLine.r2.o10 : List GI := ⟨some 26, .load true 3 (.tmp 8), some (24, false)⟩ :: ir.fingerpostlaw01_RankLine.r2.o11
def ir.fingerpostlaw01_RankLine.r2.o9 : List GI := ⟨some 25, .load true 3 (.tmp 7), some (24, false)⟩ :: ir.fingerpostlaw01_RankLine.r2.o10
def ir.fingerpostlaw01_RankLine.r2.o8 : List GI := ⟨some 24, .mv (.tmp 23), none⟩ :: ir.fingerpostlaw01_RankLine.r2.o9
def ir.fingerpostlaw01_RankLine.r2.o7 : List GI := ⟨some 23, .bin .neq (.tmp 18) (.tmp 22), none⟩ :: ir.fingerpostlaw01_RankLine.r2.o8
def ir.fingerpostlaw01_RankLine.r2.o6 : List GI := ⟨some 22, .un .neg (.tmp 21), none⟩ :: ir.fingerpostlaw01_RankLine.r2.o7
def ir.fingerpostlaw01_RankLine.r2.o5 : List GI := ⟨some 21, .call fn.rank_Compare [.tmp 19, .tmp 20], none⟩ :: ir.fingerpostlaw01_RankLine.r2.o6
def ir.fingerpostlaw01_RankLine.r2.o4 : List GI := ⟨some 20, .load true 3 (.tmp 7), none⟩ :: ir.fingerpostlaw01_RankLine.r2.o5
def ir.fingerpostlaw01_RankLine.r2.o3 : List GI := ⟨some 19, .load true 3 (.tmp 8), none⟩ :: ir.fingerpostlaw01_RankLine.r2.o4
def ir.fingerpostlaw01_RankLine.r2.o2 : List GI := ⟨some 18, .call fn.rank_Compare [.tmp 16, .tmp 17], none⟩ :: ir.fingerpostlaw01_RankLine.r2.o3
def ir.fingerpostlaw01_RankLine.r2.o1 : List GI := ⟨some 17, .load true 3 (.tmp 8), none⟩ :: ir.fingerpostlaw01_RankLine.r2.o2
def ir.fingerpostlaw01_RankLine.r2.o0 : List GI := ⟨some 16, .load true 3 (.tmp 7), none⟩ :: ir.fingerpostlaw01_RankLine.r2.o1
def ir.fingerpostlaw01_RankLine.r2 : C := .draw [7, 8, 9, 44] ir.fingerpostlaw01_RankLine.r2.o0
def ir.fingerpostlaw01_RankLine.r3.o0 : List GI := ⟨some 6, .mv (.const (.bool false)), none⟩ :: []
def ir.fingerpostlaw01_RankLine.r3 : C := .region [6] ir.fingerpostlaw01_RankLine.r3.o0
def ir.fingerpostlaw01_RankLine.r4.o28 : List GI := ⟨some 73, .pick (.tmp 57) (.tmp 72) (.const (.bool false)), none⟩ :: []
def ir.fingerpostlaw01_RankLine.r4.o27 : List GI := ⟨some 72, .pick (.tmp 61) (.const (.bool true)) (.tmp 71), some (57, true)⟩ :: ir.fingerpostlaw01_RankLine.r4.o28
def ir.fingerpostlaw01_RankLine.r4.o26 : List GI := ⟨some 71, .eqb true (.tmp 65) (.tmp 70), some (61, false)⟩ :: ir.fingerpostlaw01_RankLine.r4.o27
def ir.fingerpostlaw01_RankLine.r4.o25 : List GI := ⟨some 70, .bin .lss (.tmp 67) (.tmp 69), some (61, false)⟩ :: ir.fingerpostlaw01_RankLine.r4.o26
def ir.fingerpostlaw01_RankLine.r4.o24 : List GI := ⟨some 69, .load false 1 (.tmp 68), some (61, false)⟩ :: ir.fingerpostlaw01_RankLine.r4.o25
def ir.fingerpostlaw01_RankLine.r4.o23 : List GI := ⟨some 68, .fld 2 (.tmp 8), some (61, false)⟩ :: ir.fingerpostlaw01_RankLine.r4.o24
def ir.fingerpostlaw01_RankLine.r4.o22 : List GI := ⟨some 67, .load false 1 (.tmp 66), some (61, false)⟩ :: ir.fingerpostlaw01_RankLine.r4.o23
def ir.fingerpostlaw01_RankLine.r4.o21 : List GI := ⟨some 66, .fld 2 (.tmp 7), some (61, false)⟩ :: ir.fingerpostlaw01_RankLine.r4.o22
def ir.fingerpostlaw01_RankLine.r4.o20 : List GI := ⟨some 65, .bin .gtr (.tmp 64) (.const (.int .i64 0)), some (61, false)⟩ :: ir.fingerpostlaw01_RankLine.r4.o21
def ir.fingerpostlaw01_RankLine.r4.o19 : List GI := ⟨some 64, .call fn.rank_Compare [.tmp 62, .tmp 63], some (61, false)⟩ :: ir.fingerpostlaw01_RankLine.r4.o20
def ir.fingerpostlaw01_RankLine.r4.o18 : List GI := ⟨some 63, .load true 3 (.tmp 8), some (61, false)⟩ :: ir.fingerpostlaw01_RankLine.r4.o19
def ir.fingerpostlaw01_RankLine.r4.o17 : List GI := ⟨some 62, .load true 3 (.tmp 7), some (61, false)⟩ :: ir.fingerpostlaw01_RankLine.r4.o18
def ir.fingerpostlaw01_RankLine.r4.o16 : List GI := ⟨some 61, .mv (.tmp 60), some (57, true)⟩ :: ir.fingerpostlaw01_RankLine.r4.o17
def ir.fingerpostlaw01_RankLine.r4.o15 : List GI := ⟨some 60, .call fn.rank_Newer [.tmp 58, .tmp 59], some (57, true)⟩ :: ir.fingerpostlaw01_RankLine.r4.o16
def ir.fingerpostlaw01_RankLine.r4.o14 : List GI := ⟨some 59, .load true 3 (.tmp 8), some (57, true)⟩ :: ir.fingerpostlaw01_RankLine.r4.o15
def ir.fingerpostlaw01_RankLine.r4.o13 : List GI := ⟨some 58, .load true 3 (.tmp 7), some (57, true)⟩ :: ir.fingerpostlaw01_RankLine.r4.o14
def ir.fingerpostlaw01_RankLine.r4.o12 : List GI := ⟨some 57, .mv (.tmp 56), none⟩ :: ir.fingerpostlaw01_RankLine.r4.o13
def ir.fingerpostlaw01_RankLine.r4.o11 : List GI := ⟨some 56, .pick (.tmp 50) (.tmp 55) (.const (.bool false)), none⟩ :: ir.fingerpostlaw01_RankLine.r4.o12
def ir.fingerpostlaw01_RankLine.r4.o10 : List GI := ⟨some 55, .bin .eql (.tmp 52) (.tmp 54), some (50, true)⟩ :: ir.fingerpostlaw01_RankLine.r4.o11
def ir.fingerpostlaw01_RankLine.r4.o9 : List GI := ⟨some 54, .load false 1 (.tmp 53), some (50, true)⟩ :: ir.fingerpostlaw01_RankLine.r4.o10
def ir.fingerpostlaw01_RankLine.r4.o8 : List GI := ⟨some 53, .fld 1 (.tmp 8), some (50, true)⟩ :: ir.fingerpostlaw01_RankLine.r4.o9
def ir.fingerpostlaw01_RankLine.r4.o7 : List GI := ⟨some 52, .load false 1 (.tmp 51), some (50, true)⟩ :: ir.fingerpostlaw01_RankLine.r4.o8
def ir.fingerpostlaw01_RankLine.r4.o6 : List GI := ⟨some 51, .fld 1 (.tmp 7), some (50, true)⟩ :: ir.fingerpostlaw01_RankLine.r4.o7
def ir.fingerpostlaw01_RankLine.r4.o5 : List GI := ⟨some 50, .mv (.tmp 49), none⟩ :: ir.fingerpostlaw01_RankLine.r4.o6
def ir.fingerpostlaw01_RankLine.r4.o4 : List GI := ⟨some 49, .bin .eql (.tmp 46) (.tmp 48), none⟩ :: ir.fingerpostlaw01_RankLine.r4.o5
def ir.fingerpostlaw01_RankLine.r4.o3 : List GI := ⟨some 48, .load false 1 (.tmp 47), none⟩ :: ir.fingerpostlaw01_RankLine.r4.o4
def ir.fingerpostlaw01_RankLine.r4.o2 : List GI := ⟨some 47, .fld 0 (.tmp 8), none⟩ :: ir.fingerpostlaw01_RankLine.r4.o3
def ir.fingerpostlaw01_RankLine.r4.o1 : List GI := ⟨some 46, .load false 1 (.tmp 45), none⟩ :: ir.fingerpostlaw01_RankLine.r4.o2
def ir.fingerpostlaw01_RankLine.r4.o0 : List GI := ⟨some 45, .fld 0 (.tmp 7), none⟩ :: ir.fingerpostlaw01_RankLine.r4.o1
def ir.fingerpostlaw01_RankLine.r4 : C := .draw [7, 8, 9, 73] ir.fingerpostlaw01_RankLine.r4.o0
def ir.fingerpostlaw01_RankLine.r5.o0 : List GI := ⟨some 6, .mv (.const (.bool false)), none⟩ :: []
def ir.fingerpostlaw01_RankLine.r5 : C := .region [6] ir.fingerpostlaw01_RankLine.r5.o0
def ir.fingerpostlaw01_RankLine.r6.o20 : List GI := ⟨some 6, .mv (.tmp 93), none⟩ :: []
def ir.fingerpostlaw01_RankLine.r6.o19 : List GI := ⟨some 93, .pick (.tmp 76) (.tmp 92) (.const (.bool false)), none⟩ :: ir.fingerpostlaw01_RankLine.r6.o20
def ir.fingerpostlaw01_RankLine.r6.o18 : List GI := ⟨some 92, .pick (.tmp 87) (.const (.bool true)) (.tmp 91), some (76, true)⟩ :: ir.fingerpostlaw01_RankLine.r6.o19
def ir.fingerpostlaw01_RankLine.r6.o17 : List GI := ⟨some 91, .bin .geq (.tmp 90) (.const (.int .i64 0)), some (87, false)⟩ :: ir.fingerpostlaw01_RankLine.r6.o18
def ir.fingerpostlaw01_RankLine.r6.o16 : List GI := ⟨some 90, .call fn.rank_Compare [.tmp 88, .tmp 89], some (87, false)⟩ :: ir.fingerpostlaw01_RankLine.r6.o17
def ir.fingerpostlaw01_RankLine.r6.o15 : List GI := ⟨some 89, .load true 3 (.tmp 9), some (87, false)⟩ :: ir.fingerpostlaw01_RankLine.r6.o16
def ir.fingerpostlaw01_RankLine.r6.o14 : List GI := ⟨some 88, .load true 3 (.tmp 7), some (87, false)⟩ :: ir.fingerpostlaw01_RankLine.r6.o15
def ir.fingerpostlaw01_RankLine.r6.o13 : List GI := ⟨some 87, .mv (.tmp 86), some (76, true)⟩ :: ir.fingerpostlaw01_RankLine.r6.o14
def ir.fingerpostlaw01_RankLine.r6.o12 : List GI := ⟨some 86, .pick (.tmp 81) (.const (.bool true)) (.tmp 85), some (76, true)⟩ :: ir.fingerpostlaw01_RankLine.r6.o13
def ir.fingerpostlaw01_RankLine.r6.o11 : List GI := ⟨some 85, .bin .lss (.tmp 84) (.const (.int .i64 0)), some (81, false)⟩ :: ir.fingerpostlaw01_RankLine.r6.o12
def ir.fingerpostlaw01_RankLine.r6.o10 : List GI := ⟨some 84, .call fn.rank_Compare [.tmp 82, .tmp 83], some (81, false)⟩ :: ir.fingerpostlaw01_RankLine.r6.o11
def ir.fingerpostlaw01_RankLine.r6.o9 : List GI := ⟨some 83, .load true 3 (.tmp 9), some (81, false)⟩ :: ir.fingerpostlaw01_RankLine.r6.o10
def ir.fingerpostlaw01_RankLine.r6.o8 : List GI := ⟨some 82, .load true 3 (.tmp 8), some (81, false)⟩ :: ir.fingerpostlaw01_RankLine.r6.o9
def ir.fingerpostlaw01_RankLine.r6.o7 : List GI := ⟨some 81, .mv (.tmp 80), some (76, true)⟩ :: ir.fingerpostlaw01_RankLine.r6.o8
def ir.fingerpostlaw01_RankLine.r6.o6 : List GI := ⟨some 80, .bin .lss (.tmp 79) (.const (.int .i64 0)), some (76, true)⟩ :: ir.fingerpostlaw01_RankLine.r6.o7
def ir.fingerpostlaw01_RankLine.r6.o5 : List GI := ⟨some 79, .call fn.rank_Compare [.tmp 77, .tmp 78], some (76, true)⟩ :: ir.fingerpostlaw01_RankLine.r6.o6
def ir.fingerpostlaw01_RankLine.r6.o4 : List GI := ⟨some 78, .load true 3 (.tmp 8), some (76, true)⟩ :: ir.fingerpostlaw01_RankLine.r6.o5
def ir.fingerpostlaw01_RankLine.r6.o3 : List GI := ⟨some 77, .load true 3 (.tmp 7), some (76, true)⟩ :: ir.fingerpostlaw01_RankLine.r6.o4
def ir.fingerpostlaw01_RankLine.r6.o2 : List GI := ⟨some 76, .mv (.tmp 75), none⟩ :: ir.fingerpostlaw01_RankLine.r6.o3
def ir.fingerpostlaw01_RankLine.r6.o1 : List GI := ⟨some 75, .call fn.rank_Right [.tmp 74], none⟩ :: ir.fingerpostlaw01_RankLine.r6.o2
def ir.fingerpostlaw01_RankLine.r6.o0 : List GI := ⟨some 74, .build [.int .u32 0, .int .u32 0, .int .i64 0] [], none⟩ :: ir.fingerpostlaw01_RankLine.r6.o1
def ir.fingerpostlaw01_RankLine.r6 : C := .region [6] ir.fingerpostlaw01_RankLine.r6.o0
def ir.fingerpostlaw01_RankLine : C := (.seq ir.fingerpostlaw01_RankLine.r0 (.seq ir.fingerpostlaw01_RankLine.r1 (.seq (.seq ir.fingerpostlaw01_RankLine.r2 (.cond (.tmp 44) (.seq ir.fingerpostlaw01_RankLine.r3 .ret) .skip)) (.seq (.seq ir.fingerpostlaw01_RankLine.r4 (.cond (.tmp 73) (.seq ir.fingerpostlaw01_RankLine.r5 .ret) .skip)) (.seq ir.fingerpostlaw01_RankLine.r6 .ret)))))
def ir.fingerpostlaw01_RankLine.rs : List RV := [.tmp 6]
theorem ir.fingerpostlaw01_RankLine.ok : resC Try.prog nG 94 ir.fingerpostlaw01_RankLine.ks (Try.f4.body.getD .skip) = some ir.fingerpostlaw01_RankLine := by kernel_rfl
theorem ir.fingerpostlaw01_RankLine.rok : Try.f4.results.toList.mapM (resR Try.prog) = some ir.fingerpostlaw01_RankLine.rs := by kernel_rfl
theorem ir.fingerpostlaw01_RankLine.spec {args : List Value} {h : AHeap} {v : Value} {h' : AHeap} (hn : args.length ≤ 94)
    (hk : wpC Try.prog nG ir.fingerpostlaw01_RankLine (args.zipIdx.map fun p => (p.2, p.1)) h (retQ ir.fingerpostlaw01_RankLine.rs h v h')) : Spec Try.prog nG fn.fingerpostlaw01_RankLine args h v h' :=
  Spec.intro (fn := Try.f4) Try.func4 (c := Try.f4.body.getD .skip) rfl ir.fingerpostlaw01_RankLine.ok ir.fingerpostlaw01_RankLine.rok hn hk

/-! ### fingerpost/fingerpostlaw01.RankHops: function 5 -/
def ir.fingerpostlaw01_RankHops.ks : Nat → List Nat := fun
  | 0 => [1, 2]
  | 1 => [1, 2, 5, 6]
  | 2 => [1, 2, 5, 6, 7, 8]
  | 3 => [1, 2, 5, 6, 7, 8, 9, 10]
  | 4 => [5, 6, 7, 8, 9, 10, 11, 12]
  | 5 => [4]
  | _ => []
def ir.fingerpostlaw01_RankHops.r0.o1 : List GI := ⟨some 4, .mv (.const (.bool false)), none⟩ :: []
def ir.fingerpostlaw01_RankHops.r0.o0 : List GI := ⟨some 2, .box (.tmp 0), none⟩ :: ir.fingerpostlaw01_RankHops.r0.o1
def ir.fingerpostlaw01_RankHops.r0 : C := .region [1, 2] ir.fingerpostlaw01_RankHops.r0.o0
def ir.fingerpostlaw01_RankHops.r1.o8 : List GI := ⟨some 6, .mv (.tmp 18), none⟩ :: []
def ir.fingerpostlaw01_RankHops.r1.o7 : List GI := ⟨none, .store 3 (.tmp 5) (.tmp 17), none⟩ :: ir.fingerpostlaw01_RankHops.r1.o8
def ir.fingerpostlaw01_RankHops.r1.o6 : List GI := ⟨some 5, .new [.int .u32 0, .int .u32 0, .int .i64 0], none⟩ :: ir.fingerpostlaw01_RankHops.r1.o7
def ir.fingerpostlaw01_RankHops.r1.o5 : List GI := ⟨some 18, .ext (.tmp 13) 1, none⟩ :: ir.fingerpostlaw01_RankHops.r1.o6
def ir.fingerpostlaw01_RankHops.r1.o4 : List GI := ⟨some 17, .ext (.tmp 13) 0, none⟩ :: ir.fingerpostlaw01_RankHops.r1.o5
def ir.fingerpostlaw01_RankHops.r1.o3 : List GI := ⟨some 13, .mv (.tmp 16), none⟩ :: ir.fingerpostlaw01_RankHops.r1.o4
def ir.fingerpostlaw01_RankHops.r1.o2 : List GI := ⟨some 16, .call fn.rank_Hop [.tmp 15], none⟩ :: ir.fingerpostlaw01_RankHops.r1.o3
def ir.fingerpostlaw01_RankHops.r1.o1 : List GI := ⟨some 15, .call fn.fingerpostlaw01_To [.tmp 14], none⟩ :: ir.fingerpostlaw01_RankHops.r1.o2
def ir.fingerpostlaw01_RankHops.r1.o0 : List GI := ⟨some 14, .load true 3 (.tmp 2), none⟩ :: ir.fingerpostlaw01_RankHops.r1.o1
def ir.fingerpostlaw01_RankHops.r1 : C := .region [1, 2, 5, 6] ir.fingerpostlaw01_RankHops.r1.o0
def ir.fingerpostlaw01_RankHops.r2.o7 : List GI := ⟨some 8, .mv (.tmp 23), none⟩ :: []
def ir.fingerpostlaw01_RankHops.r2.o6 : List GI := ⟨none, .store 3 (.tmp 7) (.tmp 22), none⟩ :: ir.fingerpostlaw01_RankHops.r2.o7
def ir.fingerpostlaw01_RankHops.r2.o5 : List GI := ⟨some 7, .new [.int .u32 0, .int .u32 0, .int .i64 0], none⟩ :: ir.fingerpostlaw01_RankHops.r2.o6
def ir.fingerpostlaw01_RankHops.r2.o4 : List GI := ⟨some 23, .ext (.tmp 19) 1, none⟩ :: ir.fingerpostlaw01_RankHops.r2.o5
def ir.fingerpostlaw01_RankHops.r2.o3 : List GI := ⟨some 22, .ext (.tmp 19) 0, none⟩ :: ir.fingerpostlaw01_RankHops.r2.o4
def ir.fingerpostlaw01_RankHops.r2.o2 : List GI := ⟨some 19, .mv (.tmp 21), none⟩ :: ir.fingerpostlaw01_RankHops.r2.o3
def ir.fingerpostlaw01_RankHops.r2.o1 : List GI := ⟨some 21, .call fn.fingerpostref01_Hop [.tmp 20], none⟩ :: ir.fingerpostlaw01_RankHops.r2.o2
def ir.fingerpostlaw01_RankHops.r2.o0 : List GI := ⟨some 20, .load true 3 (.tmp 2), none⟩ :: ir.fingerpostlaw01_RankHops.r2.o1
def ir.fingerpostlaw01_RankHops.r2 : C := .region [1, 2, 5, 6, 7, 8] ir.fingerpostlaw01_RankHops.r2.o0
def ir.fingerpostlaw01_RankHops.r3.o9 : List GI := ⟨some 10, .mv (.tmp 30), none⟩ :: []
def ir.fingerpostlaw01_RankHops.r3.o8 : List GI := ⟨none, .store 3 (.tmp 9) (.tmp 29), none⟩ :: ir.fingerpostlaw01_RankHops.r3.o9
def ir.fingerpostlaw01_RankHops.r3.o7 : List GI := ⟨some 9, .new [.int .u32 0, .int .u32 0, .int .i64 0], none⟩ :: ir.fingerpostlaw01_RankHops.r3.o8
def ir.fingerpostlaw01_RankHops.r3.o6 : List GI := ⟨some 30, .ext (.tmp 24) 1, none⟩ :: ir.fingerpostlaw01_RankHops.r3.o7
def ir.fingerpostlaw01_RankHops.r3.o5 : List GI := ⟨some 29, .ext (.tmp 24) 0, none⟩ :: ir.fingerpostlaw01_RankHops.r3.o6
def ir.fingerpostlaw01_RankHops.r3.o4 : List GI := ⟨some 24, .mv (.tmp 28), none⟩ :: ir.fingerpostlaw01_RankHops.r3.o5
def ir.fingerpostlaw01_RankHops.r3.o3 : List GI := ⟨some 28, .call fn.rank_Next [.tmp 26, .tmp 27], none⟩ :: ir.fingerpostlaw01_RankHops.r3.o4
def ir.fingerpostlaw01_RankHops.r3.o2 : List GI := ⟨some 27, .mv (.tmp 1), none⟩ :: ir.fingerpostlaw01_RankHops.r3.o3
def ir.fingerpostlaw01_RankHops.r3.o1 : List GI := ⟨some 26, .call fn.fingerpostlaw01_To [.tmp 25], none⟩ :: ir.fingerpostlaw01_RankHops.r3.o2
def ir.fingerpostlaw01_RankHops.r3.o0 : List GI := ⟨some 25, .load true 3 (.tmp 2), none⟩ :: ir.fingerpostlaw01_RankHops.r3.o1
def ir.fingerpostlaw01_RankHops.r3 : C := .region [1, 2, 5, 6, 7, 8, 9, 10] ir.fingerpostlaw01_RankHops.r3.o0
def ir.fingerpostlaw01_RankHops.r4.o8 : List GI := ⟨some 12, .mv (.tmp 36), none⟩ :: []
def ir.fingerpostlaw01_RankHops.r4.o7 : List GI := ⟨none, .store 3 (.tmp 11) (.tmp 35), none⟩ :: ir.fingerpostlaw01_RankHops.r4.o8
def ir.fingerpostlaw01_RankHops.r4.o6 : List GI := ⟨some 11, .new [.int .u32 0, .int .u32 0, .int .i64 0], none⟩ :: ir.fingerpostlaw01_RankHops.r4.o7
def ir.fingerpostlaw01_RankHops.r4.o5 : List GI := ⟨some 36, .ext (.tmp 31) 1, none⟩ :: ir.fingerpostlaw01_RankHops.r4.o6
def ir.fingerpostlaw01_RankHops.r4.o4 : List GI := ⟨some 35, .ext (.tmp 31) 0, none⟩ :: ir.fingerpostlaw01_RankHops.r4.o5
def ir.fingerpostlaw01_RankHops.r4.o3 : List GI := ⟨some 31, .mv (.tmp 34), none⟩ :: ir.fingerpostlaw01_RankHops.r4.o4
def ir.fingerpostlaw01_RankHops.r4.o2 : List GI := ⟨some 34, .call fn.fingerpostref01_Next [.tmp 32, .tmp 33], none⟩ :: ir.fingerpostlaw01_RankHops.r4.o3
def ir.fingerpostlaw01_RankHops.r4.o1 : List GI := ⟨some 33, .mv (.tmp 1), none⟩ :: ir.fingerpostlaw01_RankHops.r4.o2
def ir.fingerpostlaw01_RankHops.r4.o0 : List GI := ⟨some 32, .load true 3 (.tmp 2), none⟩ :: ir.fingerpostlaw01_RankHops.r4.o1
def ir.fingerpostlaw01_RankHops.r4 : C := .region [5, 6, 7, 8, 9, 10, 11, 12] ir.fingerpostlaw01_RankHops.r4.o0
def ir.fingerpostlaw01_RankHops.r5.o24 : List GI := ⟨some 4, .mv (.tmp 60), none⟩ :: []
def ir.fingerpostlaw01_RankHops.r5.o23 : List GI := ⟨some 60, .pick (.tmp 55) (.tmp 59) (.const (.bool false)), none⟩ :: ir.fingerpostlaw01_RankHops.r5.o24
def ir.fingerpostlaw01_RankHops.r5.o22 : List GI := ⟨some 59, .eqs [0, 0, 0] false (.tmp 57) (.tmp 58), some (55, true)⟩ :: ir.fingerpostlaw01_RankHops.r5.o23
def ir.fingerpostlaw01_RankHops.r5.o21 : List GI := ⟨some 58, .load true 3 (.tmp 11), some (55, true)⟩ :: ir.fingerpostlaw01_RankHops.r5.o22
def ir.fingerpostlaw01_RankHops.r5.o20 : List GI := ⟨some 57, .call fn.fingerpostlaw01_From [.tmp 56], some (55, true)⟩ :: ir.fingerpostlaw01_RankHops.r5.o21
def ir.fingerpostlaw01_RankHops.r5.o19 : List GI := ⟨some 56, .load true 3 (.tmp 9), some (55, true)⟩ :: ir.fingerpostlaw01_RankHops.r5.o20
def ir.fingerpostlaw01_RankHops.r5.o18 : List GI := ⟨some 55, .mv (.tmp 54), none⟩ :: ir.fingerpostlaw01_RankHops.r5.o19
def ir.fingerpostlaw01_RankHops.r5.o17 : List GI := ⟨some 54, .pick (.tmp 50) (.tmp 53) (.const (.bool false)), none⟩ :: ir.fingerpostlaw01_RankHops.r5.o18
def ir.fingerpostlaw01_RankHops.r5.o16 : List GI := ⟨some 53, .bin .eql (.tmp 51) (.tmp 52), some (50, true)⟩ :: ir.fingerpostlaw01_RankHops.r5.o17
def ir.fingerpostlaw01_RankHops.r5.o15 : List GI := ⟨some 52, .mv (.tmp 12), some (50, true)⟩ :: ir.fingerpostlaw01_RankHops.r5.o16
def ir.fingerpostlaw01_RankHops.r5.o14 : List GI := ⟨some 51, .mv (.tmp 10), some (50, true)⟩ :: ir.fingerpostlaw01_RankHops.r5.o15
def ir.fingerpostlaw01_RankHops.r5.o13 : List GI := ⟨some 50, .mv (.tmp 49), none⟩ :: ir.fingerpostlaw01_RankHops.r5.o14
def ir.fingerpostlaw01_RankHops.r5.o12 : List GI := ⟨some 49, .pick (.tmp 44) (.tmp 48) (.const (.bool false)), none⟩ :: ir.fingerpostlaw01_RankHops.r5.o13
def ir.fingerpostlaw01_RankHops.r5.o11 : List GI := ⟨some 48, .eqs [0, 0, 0] false (.tmp 46) (.tmp 47), some (44, true)⟩ :: ir.fingerpostlaw01_RankHops.r5.o12
def ir.fingerpostlaw01_RankHops.r5.o10 : List GI := ⟨some 47, .load true 3 (.tmp 7), some (44, true)⟩ :: ir.fingerpostlaw01_RankHops.r5.o11
def ir.fingerpostlaw01_RankHops.r5.o9 : List GI := ⟨some 46, .call fn.fingerpostlaw01_From [.tmp 45], some (44, true)⟩ :: ir.fingerpostlaw01_RankHops.r5.o10
def ir.fingerpostlaw01_RankHops.r5.o8 : List GI := ⟨some 45, .load true 3 (.tmp 5), some (44, true)⟩ :: ir.fingerpostlaw01_RankHops.r5.o9
def ir.fingerpostlaw01_RankHops.r5.o7 : List GI := ⟨some 44, .mv (.tmp 43), none⟩ :: ir.fingerpostlaw01_RankHops.r5.o8
def ir.fingerpostlaw01_RankHops.r5.o6 : List GI := ⟨some 43, .pick (.tmp 39) (.tmp 42) (.const (.bool false)), none⟩ :: ir.fingerpostlaw01_RankHops.r5.o7
def ir.fingerpostlaw01_RankHops.r5.o5 : List GI := ⟨some 42, .bin .eql (.tmp 40) (.tmp 41), some (39, true)⟩ :: ir.fingerpostlaw01_RankHops.r5.o6
def ir.fingerpostlaw01_RankHops.r5.o4 : List GI := ⟨some 41, .mv (.tmp 8), some (39, true)⟩ :: ir.fingerpostlaw01_RankHops.r5.o5
def ir.fingerpostlaw01_RankHops.r5.o3 : List GI := ⟨some 40, .mv (.tmp 6), some (39, true)⟩ :: ir.fingerpostlaw01_RankHops.r5.o4
def ir.fingerpostlaw01_RankHops.r5.o2 : List GI := ⟨some 39, .mv (.tmp 38), none⟩ :: ir.fingerpostlaw01_RankHops.r5.o3
def ir.fingerpostlaw01_RankHops.r5.o1 : List GI := ⟨some 38, .call fn.rank_Right [.tmp 37], none⟩ :: ir.fingerpostlaw01_RankHops.r5.o2
def ir.fingerpostlaw01_RankHops.r5.o0 : List GI := ⟨some 37, .build [.int .u32 0, .int .u32 0, .int .i64 0] [], none⟩ :: ir.fingerpostlaw01_RankHops.r5.o1
def ir.fingerpostlaw01_RankHops.r5 : C := .draw [4] ir.fingerpostlaw01_RankHops.r5.o0
def ir.fingerpostlaw01_RankHops : C := (.seq ir.fingerpostlaw01_RankHops.r0 (.seq ir.fingerpostlaw01_RankHops.r1 (.seq ir.fingerpostlaw01_RankHops.r2 (.seq ir.fingerpostlaw01_RankHops.r3 (.seq ir.fingerpostlaw01_RankHops.r4 (.seq ir.fingerpostlaw01_RankHops.r5 .ret))))))
def ir.fingerpostlaw01_RankHops.rs : List RV := [.tmp 4]
theorem ir.fingerpostlaw01_RankHops.ok : resC Try.prog nG 61 ir.fingerpostlaw01_RankHops.ks (Try.f5.body.getD .skip) = some ir.fingerpostlaw01_RankHops := by kernel_rfl
theorem ir.fingerpostlaw01_RankHops.rok : Try.f5.results.toList.mapM (resR Try.prog) = some ir.fingerpostlaw01_RankHops.rs := by kernel_rfl
theorem ir.fingerpostlaw01_RankHops.spec {args : List Value} {h : AHeap} {v : Value} {h' : AHeap} (hn : args.length ≤ 61)
    (hk : wpC Try.prog nG ir.fingerpostlaw01_RankHops (args.zipIdx.map fun p => (p.2, p.1)) h (retQ ir.fingerpostlaw01_RankHops.rs h v h')) : Spec Try.prog nG fn.fingerpostlaw01_RankHops args h v h' :=
  Spec.intro (fn := Try.f5) Try.func5 (c := Try.f5.body.getD .skip) rfl ir.fingerpostlaw01_RankHops.ok ir.fingerpostlaw01_RankHops.rok hn hk

/-! ### fingerpost/fingerpostlaw01.RankBests: function 6 -/
def ir.fingerpostlaw01_RankBests.ks : Nat → List Nat := fun
  | 0 => [0]
  | 1 => [0, 8]
  | 2 => [0]
  | 3 => [0, 3]
  | 4 => [0, 3, 11, 12, 13]
  | 5 => [0, 3, 11, 12, 13, 14]
  | 6 => [0, 3, 5, 11, 12, 13]
  | 7 => [0, 3, 11, 12, 13]
  | 8 => [0, 3, 11, 12, 13]
  | 9 => [2]
  | _ => []
def ir.fingerpostlaw01_RankBests.r0.o0 : List GI := ⟨some 2, .mv (.const (.bool false)), none⟩ :: []
def ir.fingerpostlaw01_RankBests.r0 : C := .region [0] ir.fingerpostlaw01_RankBests.r0.o0
def ir.fingerpostlaw01_RankBests.r1.o2 : List GI := ⟨some 8, .bin .gtr (.tmp 7) (.const (.int .i64 200)), none⟩ :: []
def ir.fingerpostlaw01_RankBests.r1.o1 : List GI := ⟨some 7, .len false (.tmp 6), none⟩ :: ir.fingerpostlaw01_RankBests.r1.o2
def ir.fingerpostlaw01_RankBests.r1.o0 : List GI := ⟨some 6, .mv (.tmp 0), none⟩ :: ir.fingerpostlaw01_RankBests.r1.o1
def ir.fingerpostlaw01_RankBests.r1 : C := .region [0, 8] ir.fingerpostlaw01_RankBests.r1.o0
def ir.fingerpostlaw01_RankBests.r2.o2 : List GI := ⟨some 0, .mv (.tmp 10), none⟩ :: []
def ir.fingerpostlaw01_RankBests.r2.o1 : List GI := ⟨some 10, .sl 3 (.tmp 9) none (some (.const (.int .i64 200))), none⟩ :: ir.fingerpostlaw01_RankBests.r2.o2
def ir.fingerpostlaw01_RankBests.r2.o0 : List GI := ⟨some 9, .mv (.tmp 0), none⟩ :: ir.fingerpostlaw01_RankBests.r2.o1
def ir.fingerpostlaw01_RankBests.r2 : C := .region [0] ir.fingerpostlaw01_RankBests.r2.o0
def ir.fingerpostlaw01_RankBests.r3.o0 : List GI := ⟨some 3, .mv (.const (.slice none 0 0)), none⟩ :: []
def ir.fingerpostlaw01_RankBests.r3 : C := .region [0, 3] ir.fingerpostlaw01_RankBests.r3.o0
def ir.fingerpostlaw01_RankBests.r4.o2 : List GI := ⟨some 13, .mv (.const (.int .i64 0)), none⟩ :: []
def ir.fingerpostlaw01_RankBests.r4.o1 : List GI := ⟨some 12, .len false (.tmp 11), none⟩ :: ir.fingerpostlaw01_RankBests.r4.o2
def ir.fingerpostlaw01_RankBests.r4.o0 : List GI := ⟨some 11, .mv (.tmp 0), none⟩ :: ir.fingerpostlaw01_RankBests.r4.o1
def ir.fingerpostlaw01_RankBests.r4 : C := .region [0, 3, 11, 12, 13] ir.fingerpostlaw01_RankBests.r4.o0
def ir.fingerpostlaw01_RankBests.r5.o0 : List GI := ⟨some 14, .bin .lss (.tmp 13) (.tmp 12), none⟩ :: []
def ir.fingerpostlaw01_RankBests.r5 : C := .region [0, 3, 11, 12, 13, 14] ir.fingerpostlaw01_RankBests.r5.o0
def ir.fingerpostlaw01_RankBests.r6.o3 : List GI := ⟨none, .store 3 (.tmp 5) (.tmp 16), none⟩ :: []
def ir.fingerpostlaw01_RankBests.r6.o2 : List GI := ⟨some 5, .new [.int .u32 0, .int .u32 0, .int .i64 0], none⟩ :: ir.fingerpostlaw01_RankBests.r6.o3
def ir.fingerpostlaw01_RankBests.r6.o1 : List GI := ⟨some 16, .load true 3 (.tmp 15), none⟩ :: ir.fingerpostlaw01_RankBests.r6.o2
def ir.fingerpostlaw01_RankBests.r6.o0 : List GI := ⟨some 15, .ixs 3 (.tmp 11) (.tmp 13), none⟩ :: ir.fingerpostlaw01_RankBests.r6.o1
def ir.fingerpostlaw01_RankBests.r6 : C := .region [0, 3, 5, 11, 12, 13] ir.fingerpostlaw01_RankBests.r6.o0
def ir.fingerpostlaw01_RankBests.r7.o5 : List GI := ⟨some 3, .mv (.tmp 21), none⟩ :: []
def ir.fingerpostlaw01_RankBests.r7.o4 : List GI := ⟨some 21, .app false 3 16 (.tmp 17) (.tmp 20), none⟩ :: ir.fingerpostlaw01_RankBests.r7.o5
def ir.fingerpostlaw01_RankBests.r7.o3 : List GI := ⟨some 20, .row 3 1 [.int .u32 0, .int .u32 0, .int .i64 0] [(0, 3, .tmp 19)], none⟩ :: ir.fingerpostlaw01_RankBests.r7.o4
def ir.fingerpostlaw01_RankBests.r7.o2 : List GI := ⟨some 19, .call fn.fingerpostlaw01_To [.tmp 18], none⟩ :: ir.fingerpostlaw01_RankBests.r7.o3
def ir.fingerpostlaw01_RankBests.r7.o1 : List GI := ⟨some 18, .load true 3 (.tmp 5), none⟩ :: ir.fingerpostlaw01_RankBests.r7.o2
def ir.fingerpostlaw01_RankBests.r7.o0 : List GI := ⟨some 17, .mv (.tmp 3), none⟩ :: ir.fingerpostlaw01_RankBests.r7.o1
def ir.fingerpostlaw01_RankBests.r7 : C := .region [0, 3, 11, 12, 13] ir.fingerpostlaw01_RankBests.r7.o0
def ir.fingerpostlaw01_RankBests.r8.o1 : List GI := ⟨some 13, .mv (.tmp 22), none⟩ :: []
def ir.fingerpostlaw01_RankBests.r8.o0 : List GI := ⟨some 22, .bin .add (.tmp 13) (.const (.int .i64 1)), none⟩ :: ir.fingerpostlaw01_RankBests.r8.o1
def ir.fingerpostlaw01_RankBests.r8 : C := .region [0, 3, 11, 12, 13] ir.fingerpostlaw01_RankBests.r8.o0
def ir.fingerpostlaw01_RankBests.l1.b : C := (.seq ir.fingerpostlaw01_RankBests.r5 (.seq (.cond (.tmp 14) .skip (.exit 0)) (.seq (.block 1 (.seq ir.fingerpostlaw01_RankBests.r6 ir.fingerpostlaw01_RankBests.r7)) ir.fingerpostlaw01_RankBests.r8)))
def ir.fingerpostlaw01_RankBests.l1 : C := .loop ir.fingerpostlaw01_RankBests.l1.b
def ir.fingerpostlaw01_RankBests.r9.o9 : List GI := ⟨some 2, .mv (.tmp 31), none⟩ :: []
def ir.fingerpostlaw01_RankBests.r9.o8 : List GI := ⟨some 31, .pick (.tmp 28) (.tmp 30) (.const (.bool false)), none⟩ :: ir.fingerpostlaw01_RankBests.r9.o9
def ir.fingerpostlaw01_RankBests.r9.o7 : List GI := ⟨some 30, .call fn.rank_Right [.tmp 29], some (28, true)⟩ :: ir.fingerpostlaw01_RankBests.r9.o8
def ir.fingerpostlaw01_RankBests.r9.o6 : List GI := ⟨some 29, .build [.int .u32 0, .int .u32 0, .int .i64 0] [], some (28, true)⟩ :: ir.fingerpostlaw01_RankBests.r9.o7
def ir.fingerpostlaw01_RankBests.r9.o5 : List GI := ⟨some 28, .mv (.tmp 27), none⟩ :: ir.fingerpostlaw01_RankBests.r9.o6
def ir.fingerpostlaw01_RankBests.r9.o4 : List GI := ⟨some 27, .bin .eql (.tmp 24) (.tmp 26), none⟩ :: ir.fingerpostlaw01_RankBests.r9.o5
def ir.fingerpostlaw01_RankBests.r9.o3 : List GI := ⟨some 26, .call fn.fingerpostref01_Best [.tmp 25], none⟩ :: ir.fingerpostlaw01_RankBests.r9.o4
def ir.fingerpostlaw01_RankBests.r9.o2 : List GI := ⟨some 25, .mv (.tmp 0), none⟩ :: ir.fingerpostlaw01_RankBests.r9.o3
def ir.fingerpostlaw01_RankBests.r9.o1 : List GI := ⟨some 24, .call fn.rank_Best [.tmp 23], none⟩ :: ir.fingerpostlaw01_RankBests.r9.o2
def ir.fingerpostlaw01_RankBests.r9.o0 : List GI := ⟨some 23, .mv (.tmp 3), none⟩ :: ir.fingerpostlaw01_RankBests.r9.o1
def ir.fingerpostlaw01_RankBests.r9 : C := .region [2] ir.fingerpostlaw01_RankBests.r9.o0
def ir.fingerpostlaw01_RankBests : C := (.seq ir.fingerpostlaw01_RankBests.r0 (.seq (.seq ir.fingerpostlaw01_RankBests.r1 (.cond (.tmp 8) ir.fingerpostlaw01_RankBests.r2 .skip)) (.seq ir.fingerpostlaw01_RankBests.r3 (.seq (.seq ir.fingerpostlaw01_RankBests.r4 (.block 0 ir.fingerpostlaw01_RankBests.l1)) (.seq ir.fingerpostlaw01_RankBests.r9 .ret)))))
def ir.fingerpostlaw01_RankBests.rs : List RV := [.tmp 2]
theorem ir.fingerpostlaw01_RankBests.ok : resC Try.prog nG 32 ir.fingerpostlaw01_RankBests.ks (Try.f6.body.getD .skip) = some ir.fingerpostlaw01_RankBests := by kernel_rfl
theorem ir.fingerpostlaw01_RankBests.rok : Try.f6.results.toList.mapM (resR Try.prog) = some ir.fingerpostlaw01_RankBests.rs := by kernel_rfl
theorem ir.fingerpostlaw01_RankBests.spec {args : List Value} {h : AHeap} {v : Value} {h' : AHeap} (hn : args.length ≤ 32)
    (hk : wpC Try.prog nG ir.fingerpostlaw01_RankBests (args.zipIdx.map fun p => (p.2, p.1)) h (retQ ir.fingerpostlaw01_RankBests.rs h v h')) : Spec Try.prog nG fn.fingerpostlaw01_RankBests args h v h' :=
  Spec.intro (fn := Try.f6) Try.func6 (c := Try.f6.body.getD .skip) rfl ir.fingerpostlaw01_RankBests.ok ir.fingerpostlaw01_RankBests.rok hn hk

/-! ### fingerpost/fingerpostlaw01.RankSteps: function 7 -/
def ir.fingerpostlaw01_RankSteps.ks : Nat → List Nat := fun
  | 0 => [1, 2]
  | 1 => [1, 5]
  | 2 => [1, 5, 6, 7]
  | 3 => [1, 5, 34]
  | 4 => [4]
  | 5 => [5, 8, 9]
  | 6 => [58]
  | 7 => [4]
  | 8 => [4]
  | _ => []
def ir.fingerpostlaw01_RankSteps.r0.o1 : List GI := ⟨some 4, .mv (.const (.bool false)), none⟩ :: []
def ir.fingerpostlaw01_RankSteps.r0.o0 : List GI := ⟨some 2, .box (.tmp 0), none⟩ :: ir.fingerpostlaw01_RankSteps.r0.o1
def ir.fingerpostlaw01_RankSteps.r0 : C := .region [1, 2] ir.fingerpostlaw01_RankSteps.r0.o0
def ir.fingerpostlaw01_RankSteps.r1.o3 : List GI := ⟨none, .store 3 (.tmp 5) (.tmp 11), none⟩ :: []
def ir.fingerpostlaw01_RankSteps.r1.o2 : List GI := ⟨some 5, .new [.int .u32 0, .int .u32 0, .int .i64 0], none⟩ :: ir.fingerpostlaw01_RankSteps.r1.o3
def ir.fingerpostlaw01_RankSteps.r1.o1 : List GI := ⟨some 11, .call fn.fingerpostlaw01_To [.tmp 10], none⟩ :: ir.fingerpostlaw01_RankSteps.r1.o2
def ir.fingerpostlaw01_RankSteps.r1.o0 : List GI := ⟨some 10, .load true 3 (.tmp 2), none⟩ :: ir.fingerpostlaw01_RankSteps.r1.o1
def ir.fingerpostlaw01_RankSteps.r1 : C := .region [1, 5] ir.fingerpostlaw01_RankSteps.r1.o0
def ir.fingerpostlaw01_RankSteps.r2.o7 : List GI := ⟨some 7, .mv (.tmp 16), none⟩ :: []
def ir.fingerpostlaw01_RankSteps.r2.o6 : List GI := ⟨none, .store 3 (.tmp 6) (.tmp 15), none⟩ :: ir.fingerpostlaw01_RankSteps.r2.o7
def ir.fingerpostlaw01_RankSteps.r2.o5 : List GI := ⟨some 6, .new [.int .u32 0, .int .u32 0, .int .i64 0], none⟩ :: ir.fingerpostlaw01_RankSteps.r2.o6
def ir.fingerpostlaw01_RankSteps.r2.o4 : List GI := ⟨some 16, .ext (.tmp 12) 1, none⟩ :: ir.fingerpostlaw01_RankSteps.r2.o5
def ir.fingerpostlaw01_RankSteps.r2.o3 : List GI := ⟨some 15, .ext (.tmp 12) 0, none⟩ :: ir.fingerpostlaw01_RankSteps.r2.o4
def ir.fingerpostlaw01_RankSteps.r2.o2 : List GI := ⟨some 12, .mv (.tmp 14), none⟩ :: ir.fingerpostlaw01_RankSteps.r2.o3
def ir.fingerpostlaw01_RankSteps.r2.o1 : List GI := ⟨some 14, .call fn.rank_Hop [.tmp 13], none⟩ :: ir.fingerpostlaw01_RankSteps.r2.o2
def ir.fingerpostlaw01_RankSteps.r2.o0 : List GI := ⟨some 13, .load true 3 (.tmp 5), none⟩ :: ir.fingerpostlaw01_RankSteps.r2.o1
def ir.fingerpostlaw01_RankSteps.r2 : C := .region [1, 5, 6, 7] ir.fingerpostlaw01_RankSteps.r2.o0
def ir.fingerpostlaw01_RankSteps.r3.o17 : List GI := ⟨some 34, .pick (.tmp 19) (.tmp 33) (.const (.bool false)), none⟩ :: []
def ir.fingerpostlaw01_RankSteps.r3.o16 : List GI := ⟨some 33, .pick (.tmp 29) (.const (.bool true)) (.tmp 32), some (19, true)⟩ :: ir.fingerpostlaw01_RankSteps.r3.o17
def ir.fingerpostlaw01_RankSteps.r3.o15 : List GI := ⟨some 32, .un .not (.tmp 31), some (29, false)⟩ :: ir.fingerpostlaw01_RankSteps.r3.o16
def ir.fingerpostlaw01_RankSteps.r3.o14 : List GI := ⟨some 31, .call fn.rank_Right [.tmp 30], some (29, false)⟩ :: ir.fingerpostlaw01_RankSteps.r3.o15
def ir.fingerpostlaw01_RankSteps.r3.o13 : List GI := ⟨some 30, .load true 3 (.tmp 6), some (29, false)⟩ :: ir.fingerpostlaw01_RankSteps.r3.o14
def ir.fingerpostlaw01_RankSteps.r3.o12 : List GI := ⟨some 29, .mv (.tmp 28), some (19, true)⟩ :: ir.fingerpostlaw01_RankSteps.r3.o13
def ir.fingerpostlaw01_RankSteps.r3.o11 : List GI := ⟨some 28, .pick (.tmp 24) (.const (.bool true)) (.tmp 27), some (19, true)⟩ :: ir.fingerpostlaw01_RankSteps.r3.o12
def ir.fingerpostlaw01_RankSteps.r3.o10 : List GI := ⟨some 27, .call fn.rank_Newer [.tmp 25, .tmp 26], some (24, false)⟩ :: ir.fingerpostlaw01_RankSteps.r3.o11
def ir.fingerpostlaw01_RankSteps.r3.o9 : List GI := ⟨some 26, .load true 3 (.tmp 6), some (24, false)⟩ :: ir.fingerpostlaw01_RankSteps.r3.o10
def ir.fingerpostlaw01_RankSteps.r3.o8 : List GI := ⟨some 25, .load true 3 (.tmp 5), some (24, false)⟩ :: ir.fingerpostlaw01_RankSteps.r3.o9
def ir.fingerpostlaw01_RankSteps.r3.o7 : List GI := ⟨some 24, .mv (.tmp 23), some (19, true)⟩ :: ir.fingerpostlaw01_RankSteps.r3.o8
def ir.fingerpostlaw01_RankSteps.r3.o6 : List GI := ⟨some 23, .bin .leq (.tmp 22) (.const (.int .i64 0)), some (19, true)⟩ :: ir.fingerpostlaw01_RankSteps.r3.o7
def ir.fingerpostlaw01_RankSteps.r3.o5 : List GI := ⟨some 22, .call fn.rank_Compare [.tmp 20, .tmp 21], some (19, true)⟩ :: ir.fingerpostlaw01_RankSteps.r3.o6
def ir.fingerpostlaw01_RankSteps.r3.o4 : List GI := ⟨some 21, .load true 3 (.tmp 6), some (19, true)⟩ :: ir.fingerpostlaw01_RankSteps.r3.o5
def ir.fingerpostlaw01_RankSteps.r3.o3 : List GI := ⟨some 20, .load true 3 (.tmp 5), some (19, true)⟩ :: ir.fingerpostlaw01_RankSteps.r3.o4
def ir.fingerpostlaw01_RankSteps.r3.o2 : List GI := ⟨some 19, .mv (.tmp 18), none⟩ :: ir.fingerpostlaw01_RankSteps.r3.o3
def ir.fingerpostlaw01_RankSteps.r3.o1 : List GI := ⟨some 18, .bin .eql (.tmp 17) (.const (.int .i64 0)), none⟩ :: ir.fingerpostlaw01_RankSteps.r3.o2
def ir.fingerpostlaw01_RankSteps.r3.o0 : List GI := ⟨some 17, .mv (.tmp 7), none⟩ :: ir.fingerpostlaw01_RankSteps.r3.o1
def ir.fingerpostlaw01_RankSteps.r3 : C := .region [1, 5, 34] ir.fingerpostlaw01_RankSteps.r3.o0
def ir.fingerpostlaw01_RankSteps.r4.o0 : List GI := ⟨some 4, .mv (.const (.bool false)), none⟩ :: []
def ir.fingerpostlaw01_RankSteps.r4 : C := .region [4] ir.fingerpostlaw01_RankSteps.r4.o0
def ir.fingerpostlaw01_RankSteps.r5.o8 : List GI := ⟨some 9, .mv (.tmp 40), none⟩ :: []
def ir.fingerpostlaw01_RankSteps.r5.o7 : List GI := ⟨none, .store 3 (.tmp 8) (.tmp 39), none⟩ :: ir.fingerpostlaw01_RankSteps.r5.o8
def ir.fingerpostlaw01_RankSteps.r5.o6 : List GI := ⟨some 8, .new [.int .u32 0, .int .u32 0, .int .i64 0], none⟩ :: ir.fingerpostlaw01_RankSteps.r5.o7
def ir.fingerpostlaw01_RankSteps.r5.o5 : List GI := ⟨some 40, .ext (.tmp 35) 1, none⟩ :: ir.fingerpostlaw01_RankSteps.r5.o6
def ir.fingerpostlaw01_RankSteps.r5.o4 : List GI := ⟨some 39, .ext (.tmp 35) 0, none⟩ :: ir.fingerpostlaw01_RankSteps.r5.o5
def ir.fingerpostlaw01_RankSteps.r5.o3 : List GI := ⟨some 35, .mv (.tmp 38), none⟩ :: ir.fingerpostlaw01_RankSteps.r5.o4
def ir.fingerpostlaw01_RankSteps.r5.o2 : List GI := ⟨some 38, .call fn.rank_Next [.tmp 36, .tmp 37], none⟩ :: ir.fingerpostlaw01_RankSteps.r5.o3
def ir.fingerpostlaw01_RankSteps.r5.o1 : List GI := ⟨some 37, .mv (.tmp 1), none⟩ :: ir.fingerpostlaw01_RankSteps.r5.o2
def ir.fingerpostlaw01_RankSteps.r5.o0 : List GI := ⟨some 36, .load true 3 (.tmp 5), none⟩ :: ir.fingerpostlaw01_RankSteps.r5.o1
def ir.fingerpostlaw01_RankSteps.r5 : C := .region [5, 8, 9] ir.fingerpostlaw01_RankSteps.r5.o0
def ir.fingerpostlaw01_RankSteps.r6.o17 : List GI := ⟨some 58, .pick (.tmp 43) (.tmp 57) (.const (.bool false)), none⟩ :: []
def ir.fingerpostlaw01_RankSteps.r6.o16 : List GI := ⟨some 57, .pick (.tmp 53) (.const (.bool true)) (.tmp 56), some (43, true)⟩ :: ir.fingerpostlaw01_RankSteps.r6.o17
def ir.fingerpostlaw01_RankSteps.r6.o15 : List GI := ⟨some 56, .un .not (.tmp 55), some (53, false)⟩ :: ir.fingerpostlaw01_RankSteps.r6.o16
def ir.fingerpostlaw01_RankSteps.r6.o14 : List GI := ⟨some 55, .call fn.rank_Right [.tmp 54], some (53, false)⟩ :: ir.fingerpostlaw01_RankSteps.r6.o15
def ir.fingerpostlaw01_RankSteps.r6.o13 : List GI := ⟨some 54, .load true 3 (.tmp 8), some (53, false)⟩ :: ir.fingerpostlaw01_RankSteps.r6.o14
def ir.fingerpostlaw01_RankSteps.r6.o12 : List GI := ⟨some 53, .mv (.tmp 52), some (43, true)⟩ :: ir.fingerpostlaw01_RankSteps.r6.o13
def ir.fingerpostlaw01_RankSteps.r6.o11 : List GI := ⟨some 52, .pick (.tmp 48) (.const (.bool true)) (.tmp 51), some (43, true)⟩ :: ir.fingerpostlaw01_RankSteps.r6.o12
def ir.fingerpostlaw01_RankSteps.r6.o10 : List GI := ⟨some 51, .bin .neq (.tmp 50) (.const (.int .i64 0)), some (48, false)⟩ :: ir.fingerpostlaw01_RankSteps.r6.o11
def ir.fingerpostlaw01_RankSteps.r6.o9 : List GI := ⟨some 50, .load false 1 (.tmp 49), some (48, false)⟩ :: ir.fingerpostlaw01_RankSteps.r6.o10
def ir.fingerpostlaw01_RankSteps.r6.o8 : List GI := ⟨some 49, .fld 2 (.tmp 8), some (48, false)⟩ :: ir.fingerpostlaw01_RankSteps.r6.o9
def ir.fingerpostlaw01_RankSteps.r6.o7 : List GI := ⟨some 48, .mv (.tmp 47), some (43, true)⟩ :: ir.fingerpostlaw01_RankSteps.r6.o8
def ir.fingerpostlaw01_RankSteps.r6.o6 : List GI := ⟨some 47, .un .not (.tmp 46), some (43, true)⟩ :: ir.fingerpostlaw01_RankSteps.r6.o7
def ir.fingerpostlaw01_RankSteps.r6.o5 : List GI := ⟨some 46, .call fn.rank_Newer [.tmp 44, .tmp 45], some (43, true)⟩ :: ir.fingerpostlaw01_RankSteps.r6.o6
def ir.fingerpostlaw01_RankSteps.r6.o4 : List GI := ⟨some 45, .load true 3 (.tmp 5), some (43, true)⟩ :: ir.fingerpostlaw01_RankSteps.r6.o5
def ir.fingerpostlaw01_RankSteps.r6.o3 : List GI := ⟨some 44, .load true 3 (.tmp 8), some (43, true)⟩ :: ir.fingerpostlaw01_RankSteps.r6.o4
def ir.fingerpostlaw01_RankSteps.r6.o2 : List GI := ⟨some 43, .mv (.tmp 42), none⟩ :: ir.fingerpostlaw01_RankSteps.r6.o3
def ir.fingerpostlaw01_RankSteps.r6.o1 : List GI := ⟨some 42, .bin .eql (.tmp 41) (.const (.int .i64 0)), none⟩ :: ir.fingerpostlaw01_RankSteps.r6.o2
def ir.fingerpostlaw01_RankSteps.r6.o0 : List GI := ⟨some 41, .mv (.tmp 9), none⟩ :: ir.fingerpostlaw01_RankSteps.r6.o1
def ir.fingerpostlaw01_RankSteps.r6 : C := .region [58] ir.fingerpostlaw01_RankSteps.r6.o0
def ir.fingerpostlaw01_RankSteps.r7.o0 : List GI := ⟨some 4, .mv (.const (.bool false)), none⟩ :: []
def ir.fingerpostlaw01_RankSteps.r7 : C := .region [4] ir.fingerpostlaw01_RankSteps.r7.o0
def ir.fingerpostlaw01_RankSteps.r8.o2 : List GI := ⟨some 4, .mv (.tmp 60), none⟩ :: []
def ir.fingerpostlaw01_RankSteps.r8.o1 : List GI := ⟨some 60, .call fn.rank_Right [.tmp 59], none⟩ :: ir.fingerpostlaw01_RankSteps.r8.o2
def ir.fingerpostlaw01_RankSteps.r8.o0 : List GI := ⟨some 59, .build [.int .u32 0, .int .u32 0, .int .i64 0] [], none⟩ :: ir.fingerpostlaw01_RankSteps.r8.o1
def ir.fingerpostlaw01_RankSteps.r8 : C := .region [4] ir.fingerpostlaw01_RankSteps.r8.o0
def ir.fingerpostlaw01_RankSteps : C := (.seq ir.fingerpostlaw01_RankSteps.r0 (.seq ir.fingerpostlaw01_RankSteps.r1 (.seq (.seq ir.fingerpostlaw01_RankSteps.r2 (.seq ir.fingerpostlaw01_RankSteps.r3 (.cond (.tmp 34) (.seq ir.fingerpostlaw01_RankSteps.r4 .ret) .skip))) (.seq (.seq ir.fingerpostlaw01_RankSteps.r5 (.seq ir.fingerpostlaw01_RankSteps.r6 (.cond (.tmp 58) (.seq ir.fingerpostlaw01_RankSteps.r7 .ret) .skip))) (.seq ir.fingerpostlaw01_RankSteps.r8 .ret)))))
def ir.fingerpostlaw01_RankSteps.rs : List RV := [.tmp 4]
theorem ir.fingerpostlaw01_RankSteps.ok : resC Try.prog nG 61 ir.fingerpostlaw01_RankSteps.ks (Try.f7.body.getD .skip) = some ir.fingerpostlaw01_RankSteps := by kernel_rfl
theorem ir.fingerpostlaw01_RankSteps.rok : Try.f7.results.toList.mapM (resR Try.prog) = some ir.fingerpostlaw01_RankSteps.rs := by kernel_rfl
theorem ir.fingerpostlaw01_RankSteps.spec {args : List Value} {h : AHeap} {v : Value} {h' : AHeap} (hn : args.length ≤ 61)
    (hk : wpC Try.prog nG ir.fingerpostlaw01_RankSteps (args.zipIdx.map fun p => (p.2, p.1)) h (retQ ir.fingerpostlaw01_RankSteps.rs h v h')) : Spec Try.prog nG fn.fingerpostlaw01_RankSteps args h v h' :=
  Spec.intro (fn := Try.f7) Try.func7 (c := Try.f7.body.getD .skip) rfl ir.fingerpostlaw01_RankSteps.ok ir.fingerpostlaw01_RankSteps.rok hn hk

/-! ### fingerpost/rank.Right: function 13 -/
def ir.rank_Right.ks : Nat → List Nat := fun
  | 0 => [1]
  | 1 => [2]
  | _ => []
def ir.rank_Right.r0.o1 : List GI := ⟨some 2, .mv (.const (.bool false)), none⟩ :: []
def ir.rank_Right.r0.o0 : List GI := ⟨some 1, .box (.tmp 0), none⟩ :: ir.rank_Right.r0.o1
def ir.rank_Right.r0 : C := .region [1] ir.rank_Right.r0.o0
def ir.rank_Right.r1.o18 : List GI := ⟨some 2, .mv (.tmp 20), none⟩ :: []
def ir.rank_Right.r1.o17 : List GI := ⟨some 20, .pick (.tmp 16) (.tmp 19) (.const (.bool false)), none⟩ :: ir.rank_Right.r1.o18
def ir.rank_Right.r1.o16 : List GI := ⟨some 19, .bin .leq (.tmp 18) (.const (.int .i64 15)), some (16, true)⟩ :: ir.rank_Right.r1.o17
def ir.rank_Right.r1.o15 : List GI := ⟨some 18, .load false 1 (.tmp 17), some (16, true)⟩ :: ir.rank_Right.r1.o16
def ir.rank_Right.r1.o14 : List GI := ⟨some 17, .fld 2 (.tmp 1), some (16, true)⟩ :: ir.rank_Right.r1.o15
def ir.rank_Right.r1.o13 : List GI := ⟨some 16, .mv (.tmp 15), none⟩ :: ir.rank_Right.r1.o14
def ir.rank_Right.r1.o12 : List GI := ⟨some 15, .pick (.tmp 11) (.tmp 14) (.const (.bool false)), none⟩ :: ir.rank_Right.r1.o13
def ir.rank_Right.r1.o11 : List GI := ⟨some 14, .bin .geq (.tmp 13) (.const (.int .i64 0)), some (11, true)⟩ :: ir.rank_Right.r1.o12
def ir.rank_Right.r1.o10 : List GI := ⟨some 13, .load false 1 (.tmp 12), some (11, true)⟩ :: ir.rank_Right.r1.o11
def ir.rank_Right.r1.o9 : List GI := ⟨some 12, .fld 2 (.tmp 1), some (11, true)⟩ :: ir.rank_Right.r1.o10
def ir.rank_Right.r1.o8 : List GI := ⟨some 11, .mv (.tmp 10), none⟩ :: ir.rank_Right.r1.o9
def ir.rank_Right.r1.o7 : List GI := ⟨some 10, .pick (.tmp 6) (.tmp 9) (.const (.bool false)), none⟩ :: ir.rank_Right.r1.o8
def ir.rank_Right.r1.o6 : List GI := ⟨some 9, .bin .lss (.tmp 8) (.const (.int .u32 64)), some (6, true)⟩ :: ir.rank_Right.r1.o7
def ir.rank_Right.r1.o5 : List GI := ⟨some 8, .load false 1 (.tmp 7), some (6, true)⟩ :: ir.rank_Right.r1.o6
def ir.rank_Right.r1.o4 : List GI := ⟨some 7, .fld 1 (.tmp 1), some (6, true)⟩ :: ir.rank_Right.r1.o5
def ir.rank_Right.r1.o3 : List GI := ⟨some 6, .mv (.tmp 5), none⟩ :: ir.rank_Right.r1.o4
def ir.rank_Right.r1.o2 : List GI := ⟨some 5, .bin .leq (.tmp 4) (.const (.int .u32 65536)), none⟩ :: ir.rank_Right.r1.o3
def ir.rank_Right.r1.o1 : List GI := ⟨some 4, .load false 1 (.tmp 3), none⟩ :: ir.rank_Right.r1.o2
def ir.rank_Right.r1.o0 : List GI := ⟨some 3, .fld 0 (.tmp 1), none⟩ :: ir.rank_Right.r1.o1
def ir.rank_Right.r1 : C := .region [2] ir.rank_Right.r1.o0
def ir.rank_Right : C := (.seq ir.rank_Right.r0 (.seq ir.rank_Right.r1 .ret))
def ir.rank_Right.rs : List RV := [.tmp 2]
theorem ir.rank_Right.ok : resC Try.prog nG 21 ir.rank_Right.ks (Try.f13.body.getD .skip) = some ir.rank_Right := by kernel_rfl
theorem ir.rank_Right.rok : Try.f13.results.toList.mapM (resR Try.prog) = some ir.rank_Right.rs := by kernel_rfl
theorem ir.rank_Right.spec {args : List Value} {h : AHeap} {v : Value} {h' : AHeap} (hn : args.length ≤ 21)
    (hk : wpC Try.prog nG ir.rank_Right (args.zipIdx.map fun p => (p.2, p.1)) h (retQ ir.rank_Right.rs h v h')) : Spec Try.prog nG fn.rank_Right args h v h' :=
  Spec.intro (fn := Try.f13) Try.func13 (c := Try.f13.body.getD .skip) rfl ir.rank_Right.ok ir.rank_Right.rok hn hk

/-! ### fingerpost/fingerpostlaw01.To: function 14 -/
def ir.fingerpostlaw01_To.ks : Nat → List Nat := fun
  | 0 => [1, 2]
  | 1 => [2]
  | _ => []
def ir.fingerpostlaw01_To.r0.o1 : List GI := ⟨some 2, .new [.int .u32 0, .int .u32 0, .int .i64 0], none⟩ :: []
def ir.fingerpostlaw01_To.r0.o0 : List GI := ⟨some 1, .box (.tmp 0), none⟩ :: ir.fingerpostlaw01_To.r0.o1
def ir.fingerpostlaw01_To.r0 : C := .region [1, 2] ir.fingerpostlaw01_To.r0.o0
def ir.fingerpostlaw01_To.r1.o7 : List GI := ⟨none, .store 3 (.tmp 2) (.tmp 9), none⟩ :: []
def ir.fingerpostlaw01_To.r1.o6 : List GI := ⟨some 9, .build [.int .u32 0, .int .u32 0, .int .i64 0] [(0, 1, .tmp 4), (1, 1, .tmp 6), (2, 1, .tmp 8)], none⟩ :: ir.fingerpostlaw01_To.r1.o7
def ir.fingerpostlaw01_To.r1.o5 : List GI := ⟨some 8, .load false 1 (.tmp 7), none⟩ :: ir.fingerpostlaw01_To.r1.o6
def ir.fingerpostlaw01_To.r1.o4 : List GI := ⟨some 7, .fld 2 (.tmp 1), none⟩ :: ir.fingerpostlaw01_To.r1.o5
def ir.fingerpostlaw01_To.r1.o3 : List GI := ⟨some 6, .load false 1 (.tmp 5), none⟩ :: ir.fingerpostlaw01_To.r1.o4
def ir.fingerpostlaw01_To.r1.o2 : List GI := ⟨some 5, .fld 1 (.tmp 1), none⟩ :: ir.fingerpostlaw01_To.r1.o3
def ir.fingerpostlaw01_To.r1.o1 : List GI := ⟨some 4, .load false 1 (.tmp 3), none⟩ :: ir.fingerpostlaw01_To.r1.o2
def ir.fingerpostlaw01_To.r1.o0 : List GI := ⟨some 3, .fld 0 (.tmp 1), none⟩ :: ir.fingerpostlaw01_To.r1.o1
def ir.fingerpostlaw01_To.r1 : C := .region [2] ir.fingerpostlaw01_To.r1.o0
def ir.fingerpostlaw01_To : C := (.seq ir.fingerpostlaw01_To.r0 (.seq ir.fingerpostlaw01_To.r1 .ret))
def ir.fingerpostlaw01_To.rs : List RV := [.cell 2 true 3]
theorem ir.fingerpostlaw01_To.ok : resC Try.prog nG 10 ir.fingerpostlaw01_To.ks (Try.f14.body.getD .skip) = some ir.fingerpostlaw01_To := by kernel_rfl
theorem ir.fingerpostlaw01_To.rok : Try.f14.results.toList.mapM (resR Try.prog) = some ir.fingerpostlaw01_To.rs := by kernel_rfl
theorem ir.fingerpostlaw01_To.spec {args : List Value} {h : AHeap} {v : Value} {h' : AHeap} (hn : args.length ≤ 10)
    (hk : wpC Try.prog nG ir.fingerpostlaw01_To (args.zipIdx.map fun p => (p.2, p.1)) h (retQ ir.fingerpostlaw01_To.rs h v h')) : Spec Try.prog nG fn.fingerpostlaw01_To args h v h' :=
  Spec.intro (fn := Try.f14) Try.func14 (c := Try.f14.body.getD .skip) rfl ir.fingerpostlaw01_To.ok ir.fingerpostlaw01_To.rok hn hk

/-! ### fingerpost/fingerpostref01.Right: function 15 -/
def ir.fingerpostref01_Right.ks : Nat → List Nat := fun
  | 0 => [1]
  | 1 => [2]
  | _ => []
def ir.fingerpostref01_Right.r0.o1 : List GI := ⟨some 2, .mv (.const (.bool false)), none⟩ :: []
def ir.fingerpostref01_Right.r0.o0 : List GI := ⟨some 1, .box (.tmp 0), none⟩ :: ir.fingerpostref01_Right.r0.o1
def ir.fingerpostref01_Right.r0 : C := .region [1] ir.fingerpostref01_Right.r0.o0
def ir.fingerpostref01_Right.r1.o18 : List GI := ⟨some 2, .mv (.tmp 20), none⟩ :: []
def ir.fingerpostref01_Right.r1.o17 : List GI := ⟨some 20, .pick (.tmp 16) (.tmp 19) (.const (.bool false)), none⟩ :: ir.fingerpostref01_Right.r1.o18
def ir.fingerpostref01_Right.r1.o16 : List GI := ⟨some 19, .bin .leq (.tmp 18) (.const (.int .i64 15)), some (16, true)⟩ :: ir.fingerpostref01_Right.r1.o17
def ir.fingerpostref01_Right.r1.o15 : List GI := ⟨some 18, .load false 1 (.tmp 17), some (16, true)⟩ :: ir.fingerpostref01_Right.r1.o16
def ir.fingerpostref01_Right.r1.o14 : List GI := ⟨some 17, .fld 2 (.tmp 1), some (16, true)⟩ :: ir.fingerpostref01_Right.r1.o15
def ir.fingerpostref01_Right.r1.o13 : List GI := ⟨some 16, .mv (.tmp 15), none⟩ :: ir.fingerpostref01_Right.r1.o14
def ir.fingerpostref01_Right.r1.o12 : List GI := ⟨some 15, .pick (.tmp 11) (.tmp 14) (.const (.bool false)), none⟩ :: ir.fingerpostref01_Right.r1.o13
def ir.fingerpostref01_Right.r1.o11 : List GI := ⟨some 14, .bin .geq (.tmp 13) (.const (.int .i64 0)), some (11, true)⟩ :: ir.fingerpostref01_Right.r1.o12
def ir.fingerpostref01_Right.r1.o10 : List GI := ⟨some 13, .load false 1 (.tmp 12), some (11, true)⟩ :: ir.fingerpostref01_Right.r1.o11
def ir.fingerpostref01_Right.r1.o9 : List GI := ⟨some 12, .fld 2 (.tmp 1), some (11, true)⟩ :: ir.fingerpostref01_Right.r1.o10
def ir.fingerpostref01_Right.r1.o8 : List GI := ⟨some 11, .mv (.tmp 10), none⟩ :: ir.fingerpostref01_Right.r1.o9
def ir.fingerpostref01_Right.r1.o7 : List GI := ⟨some 10, .pick (.tmp 6) (.tmp 9) (.const (.bool false)), none⟩ :: ir.fingerpostref01_Right.r1.o8
def ir.fingerpostref01_Right.r1.o6 : List GI := ⟨some 9, .bin .leq (.tmp 8) (.const (.int .u32 63)), some (6, true)⟩ :: ir.fingerpostref01_Right.r1.o7
def ir.fingerpostref01_Right.r1.o5 : List GI := ⟨some 8, .load false 1 (.tmp 7), some (6, true)⟩ :: ir.fingerpostref01_Right.r1.o6
def ir.fingerpostref01_Right.r1.o4 : List GI := ⟨some 7, .fld 1 (.tmp 1), some (6, true)⟩ :: ir.fingerpostref01_Right.r1.o5
def ir.fingerpostref01_Right.r1.o3 : List GI := ⟨some 6, .mv (.tmp 5), none⟩ :: ir.fingerpostref01_Right.r1.o4
def ir.fingerpostref01_Right.r1.o2 : List GI := ⟨some 5, .bin .leq (.tmp 4) (.const (.int .u32 65536)), none⟩ :: ir.fingerpostref01_Right.r1.o3
def ir.fingerpostref01_Right.r1.o1 : List GI := ⟨some 4, .load false 1 (.tmp 3), none⟩ :: ir.fingerpostref01_Right.r1.o2
def ir.fingerpostref01_Right.r1.o0 : List GI := ⟨some 3, .fld 0 (.tmp 1), none⟩ :: ir.fingerpostref01_Right.r1.o1
def ir.fingerpostref01_Right.r1 : C := .region [2] ir.fingerpostref01_Right.r1.o0
def ir.fingerpostref01_Right : C := (.seq ir.fingerpostref01_Right.r0 (.seq ir.fingerpostref01_Right.r1 .ret))
def ir.fingerpostref01_Right.rs : List RV := [.tmp 2]
theorem ir.fingerpostref01_Right.ok : resC Try.prog nG 21 ir.fingerpostref01_Right.ks (Try.f15.body.getD .skip) = some ir.fingerpostref01_Right := by kernel_rfl
theorem ir.fingerpostref01_Right.rok : Try.f15.results.toList.mapM (resR Try.prog) = some ir.fingerpostref01_Right.rs := by kernel_rfl
theorem ir.fingerpostref01_Right.spec {args : List Value} {h : AHeap} {v : Value} {h' : AHeap} (hn : args.length ≤ 21)
    (hk : wpC Try.prog nG ir.fingerpostref01_Right (args.zipIdx.map fun p => (p.2, p.1)) h (retQ ir.fingerpostref01_Right.rs h v h')) : Spec Try.prog nG fn.fingerpostref01_Right args h v h' :=
  Spec.intro (fn := Try.f15) Try.func15 (c := Try.f15.body.getD .skip) rfl ir.fingerpostref01_Right.ok ir.fingerpostref01_Right.rok hn hk

/-! ### fingerpost/rank.Compare: function 16 -/
def ir.rank_Compare.ks : Nat → List Nat := fun
  | 0 => [2, 3]
  | 1 => [2, 3, 5]
  | 2 => [4]
  | 3 => [2, 3, 17]
  | 4 => [4]
  | 5 => [2, 3, 29]
  | 6 => [4]
  | 7 => [4]
  | _ => []
def ir.rank_Compare.r0.o2 : List GI := ⟨some 4, .mv (.const (.int .i64 0)), none⟩ :: []
def ir.rank_Compare.r0.o1 : List GI := ⟨some 3, .box (.tmp 1), none⟩ :: ir.rank_Compare.r0.o2
def ir.rank_Compare.r0.o0 : List GI := ⟨some 2, .box (.tmp 0), none⟩ :: ir.rank_Compare.r0.o1
def ir.rank_Compare.r0 : C := .region [2, 3] ir.rank_Compare.r0.o0
def ir.rank_Compare.r1.o5 : List GI := ⟨some 5, .mv (.tmp 10), none⟩ :: []
def ir.rank_Compare.r1.o4 : List GI := ⟨some 10, .bin .neq (.tmp 7) (.tmp 9), none⟩ :: ir.rank_Compare.r1.o5
def ir.rank_Compare.r1.o3 : List GI := ⟨some 9, .load false 1 (.tmp 8), none⟩ :: ir.rank_Compare.r1.o4
def ir.rank_Compare.r1.o2 : List GI := ⟨some 8, .fld 0 (.tmp 3), none⟩ :: ir.rank_Compare.r1.o3
def ir.rank_Compare.r1.o1 : List GI := ⟨some 7, .load false 1 (.tmp 6), none⟩ :: ir.rank_Compare.r1.o2
def ir.rank_Compare.r1.o0 : List GI := ⟨some 6, .fld 0 (.tmp 2), none⟩ :: ir.rank_Compare.r1.o1
def ir.rank_Compare.r1 : C := .region [2, 3, 5] ir.rank_Compare.r1.o0
def ir.rank_Compare.r2.o6 : List GI := ⟨some 4, .mv (.tmp 16), none⟩ :: []
def ir.rank_Compare.r2.o5 : List GI := ⟨some 16, .call fn.rank_sign [.tmp 15], none⟩ :: ir.rank_Compare.r2.o6
def ir.rank_Compare.r2.o4 : List GI := ⟨some 15, .bin .gtr (.tmp 12) (.tmp 14), none⟩ :: ir.rank_Compare.r2.o5
def ir.rank_Compare.r2.o3 : List GI := ⟨some 14, .load false 1 (.tmp 13), none⟩ :: ir.rank_Compare.r2.o4
def ir.rank_Compare.r2.o2 : List GI := ⟨some 13, .fld 0 (.tmp 3), none⟩ :: ir.rank_Compare.r2.o3
def ir.rank_Compare.r2.o1 : List GI := ⟨some 12, .load false 1 (.tmp 11), none⟩ :: ir.rank_Compare.r2.o2
def ir.rank_Compare.r2.o0 : List GI := ⟨some 11, .fld 0 (.tmp 2), none⟩ :: ir.rank_Compare.r2.o1
def ir.rank_Compare.r2 : C := .region [4] ir.rank_Compare.r2.o0
def ir.rank_Compare.r3.o5 : List GI := ⟨some 17, .mv (.tmp 22), none⟩ :: []
def ir.rank_Compare.r3.o4 : List GI := ⟨some 22, .bin .neq (.tmp 19) (.tmp 21), none⟩ :: ir.rank_Compare.r3.o5
def ir.rank_Compare.r3.o3 : List GI := ⟨some 21, .load false 1 (.tmp 20), none⟩ :: ir.rank_Compare.r3.o4
def ir.rank_Compare.r3.o2 : List GI := ⟨some 20, .fld 1 (.tmp 3), none⟩ :: ir.rank_Compare.r3.o3
def ir.rank_Compare.r3.o1 : List GI := ⟨some 19, .load false 1 (.tmp 18), none⟩ :: ir.rank_Compare.r3.o2
def ir.rank_Compare.r3.o0 : List GI := ⟨some 18, .fld 1 (.tmp 2), none⟩ :: ir.rank_Compare.r3.o1
def ir.rank_Compare.r3 : C := .region [2, 3, 17] ir.rank_Compare.r3.o0
def ir.rank_Compare.r4.o6 : List GI := ⟨some 4, .mv (.tmp 28), none⟩ :: []
def ir.rank_Compare.r4.o5 : List GI := ⟨some 28, .call fn.rank_sign [.tmp 27], none⟩ :: ir.rank_Compare.r4.o6
def ir.rank_Compare.r4.o4 : List GI := ⟨some 27, .bin .gtr (.tmp 24) (.tmp 26), none⟩ :: ir.rank_Compare.r4.o5
def ir.rank_Compare.r4.o3 : List GI := ⟨some 26, .load false 1 (.tmp 25), none⟩ :: ir.rank_Compare.r4.o4
def ir.rank_Compare.r4.o2 : List GI := ⟨some 25, .fld 1 (.tmp 3), none⟩ :: ir.rank_Compare.r4.o3
def ir.rank_Compare.r4.o1 : List GI := ⟨some 24, .load false 1 (.tmp 23), none⟩ :: ir.rank_Compare.r4.o2
def ir.rank_Compare.r4.o0 : List GI := ⟨some 23, .fld 1 (.tmp 2), none⟩ :: ir.rank_Compare.r4.o1
def ir.rank_Compare.r4 : C := .region [4] ir.rank_Compare.r4.o0
def ir.rank_Compare.r5.o5 : List GI := ⟨some 29, .mv (.tmp 34), none⟩ :: []
def ir.rank_Compare.r5.o4 : List GI := ⟨some 34, .bin .neq (.tmp 31) (.tmp 33), none⟩ :: ir.rank_Compare.r5.o5
def ir.rank_Compare.r5.o3 : List GI := ⟨some 33, .load false 1 (.tmp 32), none⟩ :: ir.rank_Compare.r5.o4
def ir.rank_Compare.r5.o2 : List GI := ⟨some 32, .fld 2 (.tmp 3), none⟩ :: ir.rank_Compare.r5.o3
def ir.rank_Compare.r5.o1 : List GI := ⟨some 31, .load false 1 (.tmp 30), none⟩ :: ir.rank_Compare.r5.o2
def ir.rank_Compare.r5.o0 : List GI := ⟨some 30, .fld 2 (.tmp 2), none⟩ :: ir.rank_Compare.r5.o1
def ir.rank_Compare.r5 : C := .region [2, 3, 29] ir.rank_Compare.r5.o0
def ir.rank_Compare.r6.o6 : List GI := ⟨some 4, .mv (.tmp 40), none⟩ :: []
def ir.rank_Compare.r6.o5 : List GI := ⟨some 40, .call fn.rank_sign [.tmp 39], none⟩ :: ir.rank_Compare.r6.o6
def ir.rank_Compare.r6.o4 : List GI := ⟨some 39, .bin .lss (.tmp 36) (.tmp 38), none⟩ :: ir.rank_Compare.r6.o5
def ir.rank_Compare.r6.o3 : List GI := ⟨some 38, .load false 1 (.tmp 37), none⟩ :: ir.rank_Compare.r6.o4
def ir.rank_Compare.r6.o2 : List GI := ⟨some 37, .fld 2 (.tmp 3), none⟩ :: ir.rank_Compare.r6.o3
def ir.rank_Compare.r6.o1 : List GI := ⟨some 36, .load false 1 (.tmp 35), none⟩ :: ir.rank_Compare.r6.o2
def ir.rank_Compare.r6.o0 : List GI := ⟨some 35, .fld 2 (.tmp 2), none⟩ :: ir.rank_Compare.r6.o1
def ir.rank_Compare.r6 : C := .region [4] ir.rank_Compare.r6.o0
def ir.rank_Compare.r7.o0 : List GI := ⟨some 4, .mv (.const (.int .i64 0)), none⟩ :: []
def ir.rank_Compare.r7 : C := .region [4] ir.rank_Compare.r7.o0
def ir.rank_Compare : C := (.seq ir.rank_Compare.r0 (.seq (.block 0 (.seq ir.rank_Compare.r1 (.cond (.tmp 5) (.seq ir.rank_Compare.r2 .ret) (.seq ir.rank_Compare.r3 (.cond (.tmp 17) (.seq ir.rank_Compare.r4 .ret) (.seq ir.rank_Compare.r5 (.cond (.tmp 29) (.seq ir.rank_Compare.r6 .ret) .skip))))))) (.seq ir.rank_Compare.r7 .ret)))
def ir.rank_Compare.rs : List RV := [.tmp 4]
theorem ir.rank_Compare.ok : resC Try.prog nG 41 ir.rank_Compare.ks (Try.f16.body.getD .skip) = some ir.rank_Compare := by kernel_rfl
theorem ir.rank_Compare.rok : Try.f16.results.toList.mapM (resR Try.prog) = some ir.rank_Compare.rs := by kernel_rfl
theorem ir.rank_Compare.spec {args : List Value} {h : AHeap} {v : Value} {h' : AHeap} (hn : args.length ≤ 41)
    (hk : wpC Try.prog nG ir.rank_Compare (args.zipIdx.map fun p => (p.2, p.1)) h (retQ ir.rank_Compare.rs h v h')) : Spec Try.prog nG fn.rank_Compare args h v h' :=
  Spec.intro (fn := Try.f16) Try.func16 (c := Try.f16.body.getD .skip) rfl ir.rank_Compare.ok ir.rank_Compare.rok hn hk

/-! ### fingerpost/fingerpostlaw01.order: function 17 -/
def ir.fingerpostlaw01_order.ks : Nat → List Nat := fun
  | 0 => [2, 3]
  | 1 => [2, 3, 5]
  | 2 => [4]
  | 3 => [9]
  | 4 => [4]
  | 5 => [4]
  | _ => []
def ir.fingerpostlaw01_order.r0.o2 : List GI := ⟨some 4, .mv (.const (.int .i64 0)), none⟩ :: []
def ir.fingerpostlaw01_order.r0.o1 : List GI := ⟨some 3, .box (.tmp 1), none⟩ :: ir.fingerpostlaw01_order.r0.o2
def ir.fingerpostlaw01_order.r0.o0 : List GI := ⟨some 2, .box (.tmp 0), none⟩ :: ir.fingerpostlaw01_order.r0.o1
def ir.fingerpostlaw01_order.r0 : C := .region [2, 3] ir.fingerpostlaw01_order.r0.o0
def ir.fingerpostlaw01_order.r1.o3 : List GI := ⟨some 5, .mv (.tmp 8), none⟩ :: []
def ir.fingerpostlaw01_order.r1.o2 : List GI := ⟨some 8, .call fn.fingerpostref01_Better [.tmp 6, .tmp 7], none⟩ :: ir.fingerpostlaw01_order.r1.o3
def ir.fingerpostlaw01_order.r1.o1 : List GI := ⟨some 7, .load true 3 (.tmp 3), none⟩ :: ir.fingerpostlaw01_order.r1.o2
def ir.fingerpostlaw01_order.r1.o0 : List GI := ⟨some 6, .load true 3 (.tmp 2), none⟩ :: ir.fingerpostlaw01_order.r1.o1
def ir.fingerpostlaw01_order.r1 : C := .region [2, 3, 5] ir.fingerpostlaw01_order.r1.o0
def ir.fingerpostlaw01_order.r2.o0 : List GI := ⟨some 4, .mv (.const (.int .i64 1)), none⟩ :: []
def ir.fingerpostlaw01_order.r2 : C := .region [4] ir.fingerpostlaw01_order.r2.o0
def ir.fingerpostlaw01_order.r3.o3 : List GI := ⟨some 9, .mv (.tmp 12), none⟩ :: []
def ir.fingerpostlaw01_order.r3.o2 : List GI := ⟨some 12, .call fn.fingerpostref01_Better [.tmp 10, .tmp 11], none⟩ :: ir.fingerpostlaw01_order.r3.o3
def ir.fingerpostlaw01_order.r3.o1 : List GI := ⟨some 11, .load true 3 (.tmp 2), none⟩ :: ir.fingerpostlaw01_order.r3.o2
def ir.fingerpostlaw01_order.r3.o0 : List GI := ⟨some 10, .load true 3 (.tmp 3), none⟩ :: ir.fingerpostlaw01_order.r3.o1
def ir.fingerpostlaw01_order.r3 : C := .region [9] ir.fingerpostlaw01_order.r3.o0
def ir.fingerpostlaw01_order.r4.o0 : List GI := ⟨some 4, .mv (.const (.int .i64 (-1))), none⟩ :: []
def ir.fingerpostlaw01_order.r4 : C := .region [4] ir.fingerpostlaw01_order.r4.o0
def ir.fingerpostlaw01_order.r5.o0 : List GI := ⟨some 4, .mv (.const (.int .i64 0)), none⟩ :: []
def ir.fingerpostlaw01_order.r5 : C := .region [4] ir.fingerpostlaw01_order.r5.o0
def ir.fingerpostlaw01_order : C := (.seq ir.fingerpostlaw01_order.r0 (.seq (.block 0 (.seq ir.fingerpostlaw01_order.r1 (.cond (.tmp 5) (.seq ir.fingerpostlaw01_order.r2 .ret) (.seq ir.fingerpostlaw01_order.r3 (.cond (.tmp 9) (.seq ir.fingerpostlaw01_order.r4 .ret) .skip))))) (.seq ir.fingerpostlaw01_order.r5 .ret)))
def ir.fingerpostlaw01_order.rs : List RV := [.tmp 4]
theorem ir.fingerpostlaw01_order.ok : resC Try.prog nG 13 ir.fingerpostlaw01_order.ks (Try.f17.body.getD .skip) = some ir.fingerpostlaw01_order := by kernel_rfl
theorem ir.fingerpostlaw01_order.rok : Try.f17.results.toList.mapM (resR Try.prog) = some ir.fingerpostlaw01_order.rs := by kernel_rfl
theorem ir.fingerpostlaw01_order.spec {args : List Value} {h : AHeap} {v : Value} {h' : AHeap} (hn : args.length ≤ 13)
    (hk : wpC Try.prog nG ir.fingerpostlaw01_order (args.zipIdx.map fun p => (p.2, p.1)) h (retQ ir.fingerpostlaw01_order.rs h v h')) : Spec Try.prog nG fn.fingerpostlaw01_order args h v h' :=
  Spec.intro (fn := Try.f17) Try.func17 (c := Try.f17.body.getD .skip) rfl ir.fingerpostlaw01_order.ok ir.fingerpostlaw01_order.rok hn hk

/-! ### fingerpost/rank.Newer: function 18 -/
def ir.rank_Newer.ks : Nat → List Nat := fun
  | 0 => [2, 3]
  | 1 => [2, 3]
  | 2 => [4]
  | _ => []
def ir.rank_Newer.r0.o2 : List GI := ⟨some 4, .mv (.const (.bool false)), none⟩ :: []
def ir.rank_Newer.r0.o1 : List GI := ⟨some 3, .box (.tmp 1), none⟩ :: ir.rank_Newer.r0.o2
def ir.rank_Newer.r0.o0 : List GI := ⟨some 2, .box (.tmp 0), none⟩ :: ir.rank_Newer.r0.o1
def ir.rank_Newer.r0 : C := .region [2, 3] ir.rank_Newer.r0.o0
def ir.rank_Newer.r1.o3 : List GI := ⟨none, .store 1 (.tmp 6) (.const (.int .i64 0)), none⟩ :: []
def ir.rank_Newer.r1.o2 : List GI := ⟨some 6, .fld 2 (.tmp 3), none⟩ :: ir.rank_Newer.r1.o3
def ir.rank_Newer.r1.o1 : List GI := ⟨none, .store 1 (.tmp 5) (.const (.int .i64 0)), none⟩ :: ir.rank_Newer.r1.o2
def ir.rank_Newer.r1.o0 : List GI := ⟨some 5, .fld 2 (.tmp 2), none⟩ :: ir.rank_Newer.r1.o1
def ir.rank_Newer.r1 : C := .region [2, 3] ir.rank_Newer.r1.o0
def ir.rank_Newer.r2.o4 : List GI := ⟨some 4, .mv (.tmp 10), none⟩ :: []
def ir.rank_Newer.r2.o3 : List GI := ⟨some 10, .bin .gtr (.tmp 9) (.const (.int .i64 0)), none⟩ :: ir.rank_Newer.r2.o4
def ir.rank_Newer.r2.o2 : List GI := ⟨some 9, .call fn.rank_Compare [.tmp 7, .tmp 8], none⟩ :: ir.rank_Newer.r2.o3
def ir.rank_Newer.r2.o1 : List GI := ⟨some 8, .load true 3 (.tmp 3), none⟩ :: ir.rank_Newer.r2.o2
def ir.rank_Newer.r2.o0 : List GI := ⟨some 7, .load true 3 (.tmp 2), none⟩ :: ir.rank_Newer.r2.o1
def ir.rank_Newer.r2 : C := .region [4] ir.rank_Newer.r2.o0
def ir.rank_Newer : C := (.seq ir.rank_Newer.r0 (.seq ir.rank_Newer.r1 (.seq ir.rank_Newer.r2 .ret)))
def ir.rank_Newer.rs : List RV := [.tmp 4]
theorem ir.rank_Newer.ok : resC Try.prog nG 11 ir.rank_Newer.ks (Try.f18.body.getD .skip) = some ir.rank_Newer := by kernel_rfl
theorem ir.rank_Newer.rok : Try.f18.results.toList.mapM (resR Try.prog) = some ir.rank_Newer.rs := by kernel_rfl
theorem ir.rank_Newer.spec {args : List Value} {h : AHeap} {v : Value} {h' : AHeap} (hn : args.length ≤ 11)
    (hk : wpC Try.prog nG ir.rank_Newer (args.zipIdx.map fun p => (p.2, p.1)) h (retQ ir.rank_Newer.rs h v h')) : Spec Try.prog nG fn.rank_Newer args h v h' :=
  Spec.intro (fn := Try.f18) Try.func18 (c := Try.f18.body.getD .skip) rfl ir.rank_Newer.ok ir.rank_Newer.rok hn hk

/-! ### fingerpost/fingerpostref01.Newer: function 19 -/
def ir.fingerpostref01_Newer.ks : Nat → List Nat := fun
  | 0 => [2, 3]
  | 1 => [4]
  | _ => []
def ir.fingerpostref01_Newer.r0.o2 : List GI := ⟨some 4, .mv (.const (.bool false)), none⟩ :: []
def ir.fingerpostref01_Newer.r0.o1 : List GI := ⟨some 3, .box (.tmp 1), none⟩ :: ir.fingerpostref01_Newer.r0.o2
def ir.fingerpostref01_Newer.r0.o0 : List GI := ⟨some 2, .box (.tmp 0), none⟩ :: ir.fingerpostref01_Newer.r0.o1
def ir.fingerpostref01_Newer.r0 : C := .region [2, 3] ir.fingerpostref01_Newer.r0.o0
def ir.fingerpostref01_Newer.r1.o19 : List GI := ⟨some 4, .mv (.tmp 23), none⟩ :: []
def ir.fingerpostref01_Newer.r1.o18 : List GI := ⟨some 23, .pick (.tmp 10) (.const (.bool true)) (.tmp 22), none⟩ :: ir.fingerpostref01_Newer.r1.o19
def ir.fingerpostref01_Newer.r1.o17 : List GI := ⟨some 22, .pick (.tmp 16) (.tmp 21) (.const (.bool false)), some (10, false)⟩ :: ir.fingerpostref01_Newer.r1.o18
def ir.fingerpostref01_Newer.r1.o16 : List GI := ⟨some 21, .bin .gtr (.tmp 18) (.tmp 20), some (16, true)⟩ :: ir.fingerpostref01_Newer.r1.o17
def ir.fingerpostref01_Newer.r1.o15 : List GI := ⟨some 20, .load false 1 (.tmp 19), some (16, true)⟩ :: ir.fingerpostref01_Newer.r1.o16
def ir.fingerpostref01_Newer.r1.o14 : List GI := ⟨some 19, .fld 1 (.tmp 3), some (16, true)⟩ :: ir.fingerpostref01_Newer.r1.o15
def ir.fingerpostref01_Newer.r1.o13 : List GI := ⟨some 18, .load false 1 (.tmp 17), some (16, true)⟩ :: ir.fingerpostref01_Newer.r1.o14
def ir.fingerpostref01_Newer.r1.o12 : List GI := ⟨some 17, .fld 1 (.tmp 2), some (16, true)⟩ :: ir.fingerpostref01_Newer.r1.o13
def ir.fingerpostref01_Newer.r1.o11 : List GI := ⟨some 16, .mv (.tmp 15), some (10, false)⟩ :: ir.fingerpostref01_Newer.r1.o12
def ir.fingerpostref01_Newer.r1.o10 : List GI := ⟨some 15, .bin .eql (.tmp 12) (.tmp 14), some (10, false)⟩ :: ir.fingerpostref01_Newer.r1.o11
def ir.fingerpostref01_Newer.r1.o9 : List GI := ⟨some 14, .load false 1 (.tmp 13), some (10, false)⟩ :: ir.fingerpostref01_Newer.r1.o10
def ir.fingerpostref01_Newer.r1.o8 : List GI := ⟨some 13, .fld 0 (.tmp 3), some (10, false)⟩ :: ir.fingerpostref01_Newer.r1.o9
def ir.fingerpostref01_Newer.r1.o7 : List GI := ⟨some 12, .load false 1 (.tmp 11), some (10, false)⟩ :: ir.fingerpostref01_Newer.r1.o8
def ir.fingerpostref01_Newer.r1.o6 : List GI := ⟨some 11, .fld 0 (.tmp 2), some (10, false)⟩ :: ir.fingerpostref01_Newer.r1.o7
def ir.fingerpostref01_Newer.r1.o5 : List GI := ⟨some 10, .mv (.tmp 9), none⟩ :: ir.fingerpostref01_Newer.r1.o6
def ir.fingerpostref01_Newer.r1.o4 : List GI := ⟨some 9, .bin .gtr (.tmp 6) (.tmp 8), none⟩ :: ir.fingerpostref01_Newer.r1.o5
def ir.fingerpostref01_Newer.r1.o3 : List GI := ⟨some 8, .load false 1 (.tmp 7), none⟩ :: ir.fingerpostref01_Newer.r1.o4
def ir.fingerpostref01_Newer.r1.o2 : List GI := ⟨some 7, .fld 0 (.tmp 3), none⟩ :: ir.fingerpostref01_Newer.r1.o3
def ir.fingerpostref01_Newer.r1.o1 : List GI := ⟨some 6, .load false 1 (.tmp 5), none⟩ :: ir.fingerpostref01_Newer.r1.o2
def ir.fingerpostref01_Newer.r1.o0 : List GI := ⟨some 5, .fld 0 (.tmp 2), none⟩ :: ir.fingerpostref01_Newer.r1.o1
def ir.fingerpostref01_Newer.r1 : C := .region [4] ir.fingerpostref01_Newer.r1.o0
def ir.fingerpostref01_Newer : C := (.seq ir.fingerpostref01_Newer.r0 (.seq ir.fingerpostref01_Newer.r1 .ret))
def ir.fingerpostref01_Newer.rs : List RV := [.tmp 4]
theorem ir.fingerpostref01_Newer.ok : resC Try.prog nG 24 ir.fingerpostref01_Newer.ks (Try.f19.body.getD .skip) = some ir.fingerpostref01_Newer := by kernel_rfl
theorem ir.fingerpostref01_Newer.rok : Try.f19.results.toList.mapM (resR Try.prog) = some ir.fingerpostref01_Newer.rs := by kernel_rfl
theorem ir.fingerpostref01_Newer.spec {args : List Value} {h : AHeap} {v : Value} {h' : AHeap} (hn : args.length ≤ 24)
    (hk : wpC Try.prog nG ir.fingerpostref01_Newer (args.zipIdx.map fun p => (p.2, p.1)) h (retQ ir.fingerpostref01_Newer.rs h v h')) : Spec Try.prog nG fn.fingerpostref01_Newer args h v h' :=
  Spec.intro (fn := Try.f19) Try.func19 (c := Try.f19.body.getD .skip) rfl ir.fingerpostref01_Newer.ok ir.fingerpostref01_Newer.rok hn hk

/-! ### fingerpost/rank.Hop: function 20 -/
def ir.rank_Hop.ks : Nat → List Nat := fun
  | 0 => [1, 2]
  | 1 => [1, 2, 4]
  | 2 => [2, 3]
  | 3 => [1, 2, 9]
  | 4 => [2, 3]
  | 5 => [1, 2]
  | 6 => [2, 3]
  | _ => []
def ir.rank_Hop.r0.o2 : List GI := ⟨some 3, .mv (.const (.int .i64 0)), none⟩ :: []
def ir.rank_Hop.r0.o1 : List GI := ⟨some 2, .new [.int .u32 0, .int .u32 0, .int .i64 0], none⟩ :: ir.rank_Hop.r0.o2
def ir.rank_Hop.r0.o0 : List GI := ⟨some 1, .box (.tmp 0), none⟩ :: ir.rank_Hop.r0.o1
def ir.rank_Hop.r0 : C := .region [1, 2] ir.rank_Hop.r0.o0
def ir.rank_Hop.r1.o3 : List GI := ⟨some 4, .mv (.tmp 7), none⟩ :: []
def ir.rank_Hop.r1.o2 : List GI := ⟨some 7, .un .not (.tmp 6), none⟩ :: ir.rank_Hop.r1.o3
def ir.rank_Hop.r1.o1 : List GI := ⟨some 6, .call fn.rank_Right [.tmp 5], none⟩ :: ir.rank_Hop.r1.o2
def ir.rank_Hop.r1.o0 : List GI := ⟨some 5, .load true 3 (.tmp 1), none⟩ :: ir.rank_Hop.r1.o1
def ir.rank_Hop.r1 : C := .region [1, 2, 4] ir.rank_Hop.r1.o0
def ir.rank_Hop.r2.o2 : List GI := ⟨some 3, .mv (.const (.int .i64 1)), none⟩ :: []
def ir.rank_Hop.r2.o1 : List GI := ⟨none, .store 3 (.tmp 2) (.tmp 8), none⟩ :: ir.rank_Hop.r2.o2
def ir.rank_Hop.r2.o0 : List GI := ⟨some 8, .build [.int .u32 0, .int .u32 0, .int .i64 0] [], none⟩ :: ir.rank_Hop.r2.o1
def ir.rank_Hop.r2 : C := .region [2, 3] ir.rank_Hop.r2.o0
def ir.rank_Hop.r3.o3 : List GI := ⟨some 9, .mv (.tmp 12), none⟩ :: []
def ir.rank_Hop.r3.o2 : List GI := ⟨some 12, .bin .eql (.tmp 11) (.const (.int .i64 15)), none⟩ :: ir.rank_Hop.r3.o3
def ir.rank_Hop.r3.o1 : List GI := ⟨some 11, .load false 1 (.tmp 10), none⟩ :: ir.rank_Hop.r3.o2
def ir.rank_Hop.r3.o0 : List GI := ⟨some 10, .fld 2 (.tmp 1), none⟩ :: ir.rank_Hop.r3.o1
def ir.rank_Hop.r3 : C := .region [1, 2, 9] ir.rank_Hop.r3.o0
def ir.rank_Hop.r4.o2 : List GI := ⟨some 3, .mv (.const (.int .i64 8)), none⟩ :: []
def ir.rank_Hop.r4.o1 : List GI := ⟨none, .store 3 (.tmp 2) (.tmp 13), none⟩ :: ir.rank_Hop.r4.o2
def ir.rank_Hop.r4.o0 : List GI := ⟨some 13, .build [.int .u32 0, .int .u32 0, .int .i64 0] [], none⟩ :: ir.rank_Hop.r4.o1
def ir.rank_Hop.r4 : C := .region [2, 3] ir.rank_Hop.r4.o0
def ir.rank_Hop.r5.o4 : List GI := ⟨none, .store 1 (.tmp 17) (.tmp 16), none⟩ :: []
def ir.rank_Hop.r5.o3 : List GI := ⟨some 17, .fld 2 (.tmp 1), none⟩ :: ir.rank_Hop.r5.o4
def ir.rank_Hop.r5.o2 : List GI := ⟨some 16, .bin .add (.tmp 15) (.const (.int .i64 1)), none⟩ :: ir.rank_Hop.r5.o3
def ir.rank_Hop.r5.o1 : List GI := ⟨some 15, .load false 1 (.tmp 14), none⟩ :: ir.rank_Hop.r5.o2
def ir.rank_Hop.r5.o0 : List GI := ⟨some 14, .fld 2 (.tmp 1), none⟩ :: ir.rank_Hop.r5.o1
def ir.rank_Hop.r5 : C := .region [1, 2] ir.rank_Hop.r5.o0
def ir.rank_Hop.r6.o2 : List GI := ⟨some 3, .mv (.const (.int .i64 0)), none⟩ :: []
def ir.rank_Hop.r6.o1 : List GI := ⟨none, .store 3 (.tmp 2) (.tmp 18), none⟩ :: ir.rank_Hop.r6.o2
def ir.rank_Hop.r6.o0 : List GI := ⟨some 18, .load true 3 (.tmp 1), none⟩ :: ir.rank_Hop.r6.o1
def ir.rank_Hop.r6 : C := .region [2, 3] ir.rank_Hop.r6.o0
def ir.rank_Hop : C := (.seq ir.rank_Hop.r0 (.seq (.block 0 (.seq ir.rank_Hop.r1 (.cond (.tmp 4) (.seq ir.rank_Hop.r2 .ret) (.seq ir.rank_Hop.r3 (.cond (.tmp 9) (.seq ir.rank_Hop.r4 .ret) .skip))))) (.seq ir.rank_Hop.r5 (.seq ir.rank_Hop.r6 .ret))))
def ir.rank_Hop.rs : List RV := [.cell 2 true 3, .tmp 3]
theorem ir.rank_Hop.ok : resC Try.prog nG 19 ir.rank_Hop.ks (Try.f20.body.getD .skip) = some ir.rank_Hop := by kernel_rfl
theorem ir.rank_Hop.rok : Try.f20.results.toList.mapM (resR Try.prog) = some ir.rank_Hop.rs := by kernel_rfl
theorem ir.rank_Hop.spec {args : List Value} {h : AHeap} {v : Value} {h' : AHeap} (hn : args.length ≤ 19)
    (hk : wpC Try.prog nG ir.rank_Hop (args.zipIdx.map fun p => (p.2, p.1)) h (retQ ir.rank_Hop.rs h v h')) : Spec Try.prog nG fn.rank_Hop args h v h' :=
  Spec.intro (fn := Try.f20) Try.func20 (c := Try.f20.body.getD .skip) rfl ir.rank_Hop.ok ir.rank_Hop.rok hn hk

/-! ### fingerpost/fingerpostref01.Hop: function 21 -/
def ir.fingerpostref01_Hop.ks : Nat → List Nat := fun
  | 0 => [1, 2]
  | 1 => [1, 2, 6]
  | 2 => [2, 3]
  | 3 => [1, 2, 10]
  | 4 => [2, 3]
  | 5 => [2, 3]
  | _ => []
def ir.fingerpostref01_Hop.r0.o2 : List GI := ⟨some 3, .mv (.const (.int .i64 0)), none⟩ :: []
def ir.fingerpostref01_Hop.r0.o1 : List GI := ⟨some 2, .new [.int .u32 0, .int .u32 0, .int .i64 0], none⟩ :: ir.fingerpostref01_Hop.r0.o2
def ir.fingerpostref01_Hop.r0.o0 : List GI := ⟨some 1, .box (.tmp 0), none⟩ :: ir.fingerpostref01_Hop.r0.o1
def ir.fingerpostref01_Hop.r0 : C := .region [1, 2] ir.fingerpostref01_Hop.r0.o0
def ir.fingerpostref01_Hop.r1.o2 : List GI := ⟨some 6, .un .not (.tmp 5), none⟩ :: []
def ir.fingerpostref01_Hop.r1.o1 : List GI := ⟨some 5, .call fn.fingerpostref01_Right [.tmp 4], none⟩ :: ir.fingerpostref01_Hop.r1.o2
def ir.fingerpostref01_Hop.r1.o0 : List GI := ⟨some 4, .load true 3 (.tmp 1), none⟩ :: ir.fingerpostref01_Hop.r1.o1
def ir.fingerpostref01_Hop.r1 : C := .region [1, 2, 6] ir.fingerpostref01_Hop.r1.o0
def ir.fingerpostref01_Hop.r2.o2 : List GI := ⟨some 3, .mv (.const (.int .i64 1)), none⟩ :: []
def ir.fingerpostref01_Hop.r2.o1 : List GI := ⟨none, .store 3 (.tmp 2) (.tmp 7), none⟩ :: ir.fingerpostref01_Hop.r2.o2
def ir.fingerpostref01_Hop.r2.o0 : List GI := ⟨some 7, .build [.int .u32 0, .int .u32 0, .int .i64 0] [], none⟩ :: ir.fingerpostref01_Hop.r2.o1
def ir.fingerpostref01_Hop.r2 : C := .region [2, 3] ir.fingerpostref01_Hop.r2.o0
def ir.fingerpostref01_Hop.r3.o2 : List GI := ⟨some 10, .bin .eql (.tmp 9) (.const (.int .i64 15)), none⟩ :: []
def ir.fingerpostref01_Hop.r3.o1 : List GI := ⟨some 9, .load false 1 (.tmp 8), none⟩ :: ir.fingerpostref01_Hop.r3.o2
def ir.fingerpostref01_Hop.r3.o0 : List GI := ⟨some 8, .fld 2 (.tmp 1), none⟩ :: ir.fingerpostref01_Hop.r3.o1
def ir.fingerpostref01_Hop.r3 : C := .region [1, 2, 10] ir.fingerpostref01_Hop.r3.o0
def ir.fingerpostref01_Hop.r4.o2 : List GI := ⟨some 3, .mv (.const (.int .i64 8)), none⟩ :: []
def ir.fingerpostref01_Hop.r4.o1 : List GI := ⟨none, .store 3 (.tmp 2) (.tmp 11), none⟩ :: ir.fingerpostref01_Hop.r4.o2
def ir.fingerpostref01_Hop.r4.o0 : List GI := ⟨some 11, .build [.int .u32 0, .int .u32 0, .int .i64 0] [], none⟩ :: ir.fingerpostref01_Hop.r4.o1
def ir.fingerpostref01_Hop.r4 : C := .region [2, 3] ir.fingerpostref01_Hop.r4.o0
def ir.fingerpostref01_Hop.r5.o9 : List GI := ⟨some 3, .mv (.const (.int .i64 0)), none⟩ :: []
def ir.fingerpostref01_Hop.r5.o8 : List GI := ⟨none, .store 3 (.tmp 2) (.tmp 19), none⟩ :: ir.fingerpostref01_Hop.r5.o9
def ir.fingerpostref01_Hop.r5.o7 : List GI := ⟨some 19, .build [.int .u32 0, .int .u32 0, .int .i64 0] [(0, 1, .tmp 13), (1, 1, .tmp 15), (2, 1, .tmp 18)], none⟩ :: ir.fingerpostref01_Hop.r5.o8
def ir.fingerpostref01_Hop.r5.o6 : List GI := ⟨some 18, .bin .add (.tmp 17) (.const (.int .i64 1)), none⟩ :: ir.fingerpostref01_Hop.r5.o7
def ir.fingerpostref01_Hop.r5.o5 : List GI := ⟨some 17, .load false 1 (.tmp 16), none⟩ :: ir.fingerpostref01_Hop.r5.o6
def ir.fingerpostref01_Hop.r5.o4 : List GI := ⟨some 16, .fld 2 (.tmp 1), none⟩ :: ir.fingerpostref01_Hop.r5.o5
def ir.fingerpostref01_Hop.r5.o3 : List GI := ⟨some 15, .load false 1 (.tmp 14), none⟩ :: ir.fingerpostref01_Hop.r5.o4
def ir.fingerpostref01_Hop.r5.o2 : List GI := ⟨some 14, .fld 1 (.tmp 1), none⟩ :: ir.fingerpostref01_Hop.r5.o3
def ir.fingerpostref01_Hop.r5.o1 : List GI := ⟨some 13, .load false 1 (.tmp 12), none⟩ :: ir.fingerpostref01_Hop.r5.o2
def ir.fingerpostref01_Hop.r5.o0 : List GI := ⟨some 12, .fld 0 (.tmp 1), none⟩ :: ir.fingerpostref01_Hop.r5.o1
def ir.fingerpostref01_Hop.r5 : C := .region [2, 3] ir.fingerpostref01_Hop.r5.o0
def ir.fingerpostref01_Hop : C := (.seq ir.fingerpostref01_Hop.r0 (.seq (.seq ir.fingerpostref01_Hop.r1 (.cond (.tmp 6) (.seq ir.fingerpostref01_Hop.r2 .ret) .skip)) (.seq (.seq ir.fingerpostref01_Hop.r3 (.cond (.tmp 10) (.seq ir.fingerpostref01_Hop.r4 .ret) .skip)) (.seq ir.fingerpostref01_Hop.r5 .ret))))
def ir.fingerpostref01_Hop.rs : List RV := [.cell 2 true 3, .tmp 3]
theorem ir.fingerpostref01_Hop.ok : resC Try.prog nG 20 ir.fingerpostref01_Hop.ks (Try.f21.body.getD .skip) = some ir.fingerpostref01_Hop := by kernel_rfl
theorem ir.fingerpostref01_Hop.rok : Try.f21.results.toList.mapM (resR Try.prog) = some ir.fingerpostref01_Hop.rs := by kernel_rfl
theorem ir.fingerpostref01_Hop.spec {args : List Value} {h : AHeap} {v : Value} {h' : AHeap} (hn : args.length ≤ 20)
    (hk : wpC Try.prog nG ir.fingerpostref01_Hop (args.zipIdx.map fun p => (p.2, p.1)) h (retQ ir.fingerpostref01_Hop.rs h v h')) : Spec Try.prog nG fn.fingerpostref01_Hop args h v h' :=
  Spec.intro (fn := Try.f21) Try.func21 (c := Try.f21.body.getD .skip) rfl ir.fingerpostref01_Hop.ok ir.fingerpostref01_Hop.rok hn hk

/-! ### fingerpost/rank.Next: function 22 -/
def ir.rank_Next.ks : Nat → List Nat := fun
  | 0 => [1, 2, 4]
  | 1 => [1, 2, 4, 6]
  | 2 => [4, 5]
  | 3 => [2, 4, 19]
  | 4 => [4, 5]
  | 5 => [2, 4, 32]
  | 6 => [4, 5]
  | 7 => [4, 5]
  | _ => []
def ir.rank_Next.r0.o2 : List GI := ⟨some 5, .mv (.const (.int .i64 0)), none⟩ :: []
def ir.rank_Next.r0.o1 : List GI := ⟨some 4, .new [.int .u32 0, .int .u32 0, .int .i64 0], none⟩ :: ir.rank_Next.r0.o2
def ir.rank_Next.r0.o0 : List GI := ⟨some 2, .box (.tmp 0), none⟩ :: ir.rank_Next.r0.o1
def ir.rank_Next.r0 : C := .region [1, 2, 4] ir.rank_Next.r0.o0
def ir.rank_Next.r1.o11 : List GI := ⟨some 6, .mv (.tmp 17), none⟩ :: []
def ir.rank_Next.r1.o10 : List GI := ⟨some 17, .pick (.tmp 14) (.const (.bool true)) (.tmp 16), none⟩ :: ir.rank_Next.r1.o11
def ir.rank_Next.r1.o9 : List GI := ⟨some 16, .bin .gtr (.tmp 15) (.const (.int .i64 6)), some (14, false)⟩ :: ir.rank_Next.r1.o10
def ir.rank_Next.r1.o8 : List GI := ⟨some 15, .mv (.tmp 1), some (14, false)⟩ :: ir.rank_Next.r1.o9
def ir.rank_Next.r1.o7 : List GI := ⟨some 14, .mv (.tmp 13), none⟩ :: ir.rank_Next.r1.o8
def ir.rank_Next.r1.o6 : List GI := ⟨some 13, .pick (.tmp 10) (.const (.bool true)) (.tmp 12), none⟩ :: ir.rank_Next.r1.o7
def ir.rank_Next.r1.o5 : List GI := ⟨some 12, .bin .lss (.tmp 11) (.const (.int .i64 0)), some (10, false)⟩ :: ir.rank_Next.r1.o6
def ir.rank_Next.r1.o4 : List GI := ⟨some 11, .mv (.tmp 1), some (10, false)⟩ :: ir.rank_Next.r1.o5
def ir.rank_Next.r1.o3 : List GI := ⟨some 10, .mv (.tmp 9), none⟩ :: ir.rank_Next.r1.o4
def ir.rank_Next.r1.o2 : List GI := ⟨some 9, .un .not (.tmp 8), none⟩ :: ir.rank_Next.r1.o3
def ir.rank_Next.r1.o1 : List GI := ⟨some 8, .call fn.rank_Right [.tmp 7], none⟩ :: ir.rank_Next.r1.o2
def ir.rank_Next.r1.o0 : List GI := ⟨some 7, .load true 3 (.tmp 2), none⟩ :: ir.rank_Next.r1.o1
def ir.rank_Next.r1 : C := .region [1, 2, 4, 6] ir.rank_Next.r1.o0
def ir.rank_Next.r2.o2 : List GI := ⟨some 5, .mv (.const (.int .i64 1)), none⟩ :: []
def ir.rank_Next.r2.o1 : List GI := ⟨none, .store 3 (.tmp 4) (.tmp 18), none⟩ :: ir.rank_Next.r2.o2
def ir.rank_Next.r2.o0 : List GI := ⟨some 18, .build [.int .u32 0, .int .u32 0, .int .i64 0] [], none⟩ :: ir.rank_Next.r2.o1
def ir.rank_Next.r2 : C := .region [4, 5] ir.rank_Next.r2.o0
def ir.rank_Next.r3.o6 : List GI := ⟨some 19, .mv (.tmp 25), none⟩ :: []
def ir.rank_Next.r3.o5 : List GI := ⟨some 25, .bin .lss (.tmp 22) (.tmp 24), none⟩ :: ir.rank_Next.r3.o6
def ir.rank_Next.r3.o4 : List GI := ⟨some 24, .bin .shl (.const (.int .u32 1)) (.tmp 23), none⟩ :: ir.rank_Next.r3.o5
def ir.rank_Next.r3.o3 : List GI := ⟨some 23, .mv (.tmp 1), none⟩ :: ir.rank_Next.r3.o4
def ir.rank_Next.r3.o2 : List GI := ⟨some 22, .bin .add (.tmp 21) (.const (.int .u32 1)), none⟩ :: ir.rank_Next.r3.o3
def ir.rank_Next.r3.o1 : List GI := ⟨some 21, .load false 1 (.tmp 20), none⟩ :: ir.rank_Next.r3.o2
def ir.rank_Next.r3.o0 : List GI := ⟨some 20, .fld 1 (.tmp 2), none⟩ :: ir.rank_Next.r3.o1
def ir.rank_Next.r3 : C := .draw [2, 4, 19] ir.rank_Next.r3.o0
def ir.rank_Next.r4.o7 : List GI := ⟨some 5, .mv (.const (.int .i64 0)), none⟩ :: []
def ir.rank_Next.r4.o6 : List GI := ⟨none, .store 3 (.tmp 4) (.tmp 31), none⟩ :: ir.rank_Next.r4.o7
def ir.rank_Next.r4.o5 : List GI := ⟨some 31, .build [.int .u32 0, .int .u32 0, .int .i64 0] [(0, 1, .tmp 27), (1, 1, .tmp 30)], none⟩ :: ir.rank_Next.r4.o6
def ir.rank_Next.r4.o4 : List GI := ⟨some 30, .bin .add (.tmp 29) (.const (.int .u32 1)), none⟩ :: ir.rank_Next.r4.o5
def ir.rank_Next.r4.o3 : List GI := ⟨some 29, .load false 1 (.tmp 28), none⟩ :: ir.rank_Next.r4.o4
def ir.rank_Next.r4.o2 : List GI := ⟨some 28, .fld 1 (.tmp 2), none⟩ :: ir.rank_Next.r4.o3
def ir.rank_Next.r4.o1 : List GI := ⟨some 27, .load false 1 (.tmp 26), none⟩ :: ir.rank_Next.r4.o2
def ir.rank_Next.r4.o0 : List GI := ⟨some 26, .fld 0 (.tmp 2), none⟩ :: ir.rank_Next.r4.o1
def ir.rank_Next.r4 : C := .region [4, 5] ir.rank_Next.r4.o0
def ir.rank_Next.r5.o3 : List GI := ⟨some 32, .mv (.tmp 35), none⟩ :: []
def ir.rank_Next.r5.o2 : List GI := ⟨some 35, .bin .lss (.tmp 34) (.const (.int .u32 65536)), none⟩ :: ir.rank_Next.r5.o3
def ir.rank_Next.r5.o1 : List GI := ⟨some 34, .load false 1 (.tmp 33), none⟩ :: ir.rank_Next.r5.o2
def ir.rank_Next.r5.o0 : List GI := ⟨some 33, .fld 0 (.tmp 2), none⟩ :: ir.rank_Next.r5.o1
def ir.rank_Next.r5 : C := .region [2, 4, 32] ir.rank_Next.r5.o0
def ir.rank_Next.r6.o5 : List GI := ⟨some 5, .mv (.const (.int .i64 0)), none⟩ :: []
def ir.rank_Next.r6.o4 : List GI := ⟨none, .store 3 (.tmp 4) (.tmp 39), none⟩ :: ir.rank_Next.r6.o5
def ir.rank_Next.r6.o3 : List GI := ⟨some 39, .build [.int .u32 0, .int .u32 0, .int .i64 0] [(0, 1, .tmp 38)], none⟩ :: ir.rank_Next.r6.o4
def ir.rank_Next.r6.o2 : List GI := ⟨some 38, .bin .add (.tmp 37) (.const (.int .u32 1)), none⟩ :: ir.rank_Next.r6.o3
def ir.rank_Next.r6.o1 : List GI := ⟨some 37, .load false 1 (.tmp 36), none⟩ :: ir.rank_Next.r6.o2
def ir.rank_Next.r6.o0 : List GI := ⟨some 36, .fld 0 (.tmp 2), none⟩ :: ir.rank_Next.r6.o1
def ir.rank_Next.r6 : C := .region [4, 5] ir.rank_Next.r6.o0
def ir.rank_Next.r7.o2 : List GI := ⟨some 5, .mv (.const (.int .i64 21)), none⟩ :: []
def ir.rank_Next.r7.o1 : List GI := ⟨none, .store 3 (.tmp 4) (.tmp 40), none⟩ :: ir.rank_Next.r7.o2
def ir.rank_Next.r7.o0 : List GI := ⟨some 40, .build [.int .u32 0, .int .u32 0, .int .i64 0] [], none⟩ :: ir.rank_Next.r7.o1
def ir.rank_Next.r7 : C := .region [4, 5] ir.rank_Next.r7.o0
def ir.rank_Next : C := (.seq ir.rank_Next.r0 (.seq (.block 0 (.seq ir.rank_Next.r1 (.cond (.tmp 6) (.seq ir.rank_Next.r2 .ret) (.seq ir.rank_Next.r3 (.cond (.tmp 19) (.seq ir.rank_Next.r4 .ret) (.seq ir.rank_Next.r5 (.cond (.tmp 32) (.seq ir.rank_Next.r6 .ret) .skip))))))) (.seq ir.rank_Next.r7 .ret)))
def ir.rank_Next.rs : List RV := [.cell 4 true 3, .tmp 5]
theorem ir.rank_Next.ok : resC Try.prog nG 41 ir.rank_Next.ks (Try.f22.body.getD .skip) = some ir.rank_Next := by kernel_rfl
theorem ir.rank_Next.rok : Try.f22.results.toList.mapM (resR Try.prog) = some ir.rank_Next.rs := by kernel_rfl
theorem ir.rank_Next.spec {args : List Value} {h : AHeap} {v : Value} {h' : AHeap} (hn : args.length ≤ 41)
    (hk : wpC Try.prog nG ir.rank_Next (args.zipIdx.map fun p => (p.2, p.1)) h (retQ ir.rank_Next.rs h v h')) : Spec Try.prog nG fn.rank_Next args h v h' :=
  Spec.intro (fn := Try.f22) Try.func22 (c := Try.f22.body.getD .skip) rfl ir.rank_Next.ok ir.rank_Next.rok hn hk

/-! ### fingerpost/fingerpostref01.Next: function 23 -/
def ir.fingerpostref01_Next.ks : Nat → List Nat := fun
  | 0 => [1, 2, 4]
  | 1 => [1, 2, 4, 18]
  | 2 => [4, 5]
  | 3 => [1, 2, 4, 6]
  | 4 => [1, 2, 4, 6, 7]
  | 5 => [1, 2, 4, 6, 7, 22]
  | 6 => [1, 2, 4, 6, 7]
  | 7 => [1, 2, 4, 6, 7]
  | 8 => [2, 4, 31]
  | 9 => [4, 5]
  | 10 => [2, 4, 40]
  | 11 => [4, 5]
  | 12 => [4, 5]
  | _ => []
def ir.fingerpostref01_Next.r0.o2 : List GI := ⟨some 5, .mv (.const (.int .i64 0)), none⟩ :: []
def ir.fingerpostref01_Next.r0.o1 : List GI := ⟨some 4, .new [.int .u32 0, .int .u32 0, .int .i64 0], none⟩ :: ir.fingerpostref01_Next.r0.o2
def ir.fingerpostref01_Next.r0.o0 : List GI := ⟨some 2, .box (.tmp 0), none⟩ :: ir.fingerpostref01_Next.r0.o1
def ir.fingerpostref01_Next.r0 : C := .region [1, 2, 4] ir.fingerpostref01_Next.r0.o0
def ir.fingerpostref01_Next.r1.o10 : List GI := ⟨some 18, .pick (.tmp 15) (.const (.bool true)) (.tmp 17), none⟩ :: []
def ir.fingerpostref01_Next.r1.o9 : List GI := ⟨some 17, .bin .gtr (.tmp 16) (.const (.int .i64 6)), some (15, false)⟩ :: ir.fingerpostref01_Next.r1.o10
def ir.fingerpostref01_Next.r1.o8 : List GI := ⟨some 16, .mv (.tmp 1), some (15, false)⟩ :: ir.fingerpostref01_Next.r1.o9
def ir.fingerpostref01_Next.r1.o7 : List GI := ⟨some 15, .mv (.tmp 14), none⟩ :: ir.fingerpostref01_Next.r1.o8
def ir.fingerpostref01_Next.r1.o6 : List GI := ⟨some 14, .pick (.tmp 11) (.const (.bool true)) (.tmp 13), none⟩ :: ir.fingerpostref01_Next.r1.o7
def ir.fingerpostref01_Next.r1.o5 : List GI := ⟨some 13, .bin .lss (.tmp 12) (.const (.int .i64 0)), some (11, false)⟩ :: ir.fingerpostref01_Next.r1.o6
def ir.fingerpostref01_Next.r1.o4 : List GI := ⟨some 12, .mv (.tmp 1), some (11, false)⟩ :: ir.fingerpostref01_Next.r1.o5
def ir.fingerpostref01_Next.r1.o3 : List GI := ⟨some 11, .mv (.tmp 10), none⟩ :: ir.fingerpostref01_Next.r1.o4
def ir.fingerpostref01_Next.r1.o2 : List GI := ⟨some 10, .un .not (.tmp 9), none⟩ :: ir.fingerpostref01_Next.r1.o3
def ir.fingerpostref01_Next.r1.o1 : List GI := ⟨some 9, .call fn.fingerpostref01_Right [.tmp 8], none⟩ :: ir.fingerpostref01_Next.r1.o2
def ir.fingerpostref01_Next.r1.o0 : List GI := ⟨some 8, .load true 3 (.tmp 2), none⟩ :: ir.fingerpostref01_Next.r1.o1
def ir.fingerpostref01_Next.r1 : C := .region [1, 2, 4, 18] ir.fingerpostref01_Next.r1.o0
def ir.fingerpostref01_Next.r2.o2 : List GI := ⟨some 5, .mv (.const (.int .i64 1)), none⟩ :: []
def ir.fingerpostref01_Next.r2.o1 : List GI := ⟨none, .store 3 (.tmp 4) (.tmp 19), none⟩ :: ir.fingerpostref01_Next.r2.o2
def ir.fingerpostref01_Next.r2.o0 : List GI := ⟨some 19, .build [.int .u32 0, .int .u32 0, .int .i64 0] [], none⟩ :: ir.fingerpostref01_Next.r2.o1
def ir.fingerpostref01_Next.r2 : C := .region [4, 5] ir.fingerpostref01_Next.r2.o0
def ir.fingerpostref01_Next.r3.o0 : List GI := ⟨some 6, .mv (.const (.int .u32 1)), none⟩ :: []
def ir.fingerpostref01_Next.r3 : C := .region [1, 2, 4, 6] ir.fingerpostref01_Next.r3.o0
def ir.fingerpostref01_Next.r4.o0 : List GI := ⟨some 7, .mv (.const (.int .i64 0)), none⟩ :: []
def ir.fingerpostref01_Next.r4 : C := .region [1, 2, 4, 6, 7] ir.fingerpostref01_Next.r4.o0
def ir.fingerpostref01_Next.r5.o2 : List GI := ⟨some 22, .bin .lss (.tmp 20) (.tmp 21), none⟩ :: []
def ir.fingerpostref01_Next.r5.o1 : List GI := ⟨some 21, .mv (.tmp 1), none⟩ :: ir.fingerpostref01_Next.r5.o2
def ir.fingerpostref01_Next.r5.o0 : List GI := ⟨some 20, .mv (.tmp 7), none⟩ :: ir.fingerpostref01_Next.r5.o1
def ir.fingerpostref01_Next.r5 : C := .region [1, 2, 4, 6, 7, 22] ir.fingerpostref01_Next.r5.o0
def ir.fingerpostref01_Next.r7.o2 : List GI := ⟨some 6, .mv (.tmp 26), none⟩ :: []
def ir.fingerpostref01_Next.r7.o1 : List GI := ⟨some 26, .bin .mul (.const (.int .u32 2)) (.tmp 25), none⟩ :: ir.fingerpostref01_Next.r7.o2
def ir.fingerpostref01_Next.r7.o0 : List GI := ⟨some 25, .mv (.tmp 6), none⟩ :: ir.fingerpostref01_Next.r7.o1
def ir.fingerpostref01_Next.r7 : C := .region [1, 2, 4, 6, 7] ir.fingerpostref01_Next.r7.o0
def ir.fingerpostref01_Next.r6.o2 : List GI := ⟨some 7, .mv (.tmp 24), none⟩ :: []
def ir.fingerpostref01_Next.r6.o1 : List GI := ⟨some 24, .bin .add (.tmp 23) (.const (.int .i64 1)), none⟩ :: ir.fingerpostref01_Next.r6.o2
def ir.fingerpostref01_Next.r6.o0 : List GI := ⟨some 23, .mv (.tmp 7), none⟩ :: ir.fingerpostref01_Next.r6.o1
def ir.fingerpostref01_Next.r6 : C := .region [1, 2, 4, 6, 7] ir.fingerpostref01_Next.r6.o0
def ir.fingerpostref01_Next.l1.b : C := (.seq (.seq ir.fingerpostref01_Next.r5 (.cond (.tmp 22) .skip (.exit 0))) (.seq (.block 1 ir.fingerpostref01_Next.r7) ir.fingerpostref01_Next.r6))
def ir.fingerpostref01_Next.l1 : C := .loop ir.fingerpostref01_Next.l1.b
def ir.fingerpostref01_Next.r8.o4 : List GI := ⟨some 31, .bin .lss (.tmp 28) (.tmp 30), none⟩ :: []
def ir.fingerpostref01_Next.r8.o3 : List GI := ⟨some 30, .bin .sub (.tmp 29) (.const (.int .u32 1)), none⟩ :: ir.fingerpostref01_Next.r8.o4
def ir.fingerpostref01_Next.r8.o2 : List GI := ⟨some 29, .mv (.tmp 6), none⟩ :: ir.fingerpostref01_Next.r8.o3
def ir.fingerpostref01_Next.r8.o1 : List GI := ⟨some 28, .load false 1 (.tmp 27), none⟩ :: ir.fingerpostref01_Next.r8.o2
def ir.fingerpostref01_Next.r8.o0 : List GI := ⟨some 27, .fld 1 (.tmp 2), none⟩ :: ir.fingerpostref01_Next.r8.o1
def ir.fingerpostref01_Next.r8 : C := .region [2, 4, 31] ir.fingerpostref01_Next.r8.o0
def ir.fingerpostref01_Next.r9.o7 : List GI := ⟨some 5, .mv (.const (.int .i64 0)), none⟩ :: []
def ir.fingerpostref01_Next.r9.o6 : List GI := ⟨none, .store 3 (.tmp 4) (.tmp 37), none⟩ :: ir.fingerpostref01_Next.r9.o7
def ir.fingerpostref01_Next.r9.o5 : List GI := ⟨some 37, .build [.int .u32 0, .int .u32 0, .int .i64 0] [(0, 1, .tmp 33), (1, 1, .tmp 36), (2, 1, .const (.int .i64 0))], none⟩ :: ir.fingerpostref01_Next.r9.o6
def ir.fingerpostref01_Next.r9.o4 : List GI := ⟨some 36, .bin .add (.tmp 35) (.const (.int .u32 1)), none⟩ :: ir.fingerpostref01_Next.r9.o5
def ir.fingerpostref01_Next.r9.o3 : List GI := ⟨some 35, .load false 1 (.tmp 34), none⟩ :: ir.fingerpostref01_Next.r9.o4
def ir.fingerpostref01_Next.r9.o2 : List GI := ⟨some 34, .fld 1 (.tmp 2), none⟩ :: ir.fingerpostref01_Next.r9.o3
def ir.fingerpostref01_Next.r9.o1 : List GI := ⟨some 33, .load false 1 (.tmp 32), none⟩ :: ir.fingerpostref01_Next.r9.o2
def ir.fingerpostref01_Next.r9.o0 : List GI := ⟨some 32, .fld 0 (.tmp 2), none⟩ :: ir.fingerpostref01_Next.r9.o1
def ir.fingerpostref01_Next.r9 : C := .region [4, 5] ir.fingerpostref01_Next.r9.o0
def ir.fingerpostref01_Next.r10.o2 : List GI := ⟨some 40, .bin .eql (.tmp 39) (.const (.int .u32 65536)), none⟩ :: []
def ir.fingerpostref01_Next.r10.o1 : List GI := ⟨some 39, .load false 1 (.tmp 38), none⟩ :: ir.fingerpostref01_Next.r10.o2
def ir.fingerpostref01_Next.r10.o0 : List GI := ⟨some 38, .fld 0 (.tmp 2), none⟩ :: ir.fingerpostref01_Next.r10.o1
def ir.fingerpostref01_Next.r10 : C := .region [2, 4, 40] ir.fingerpostref01_Next.r10.o0
def ir.fingerpostref01_Next.r11.o2 : List GI := ⟨some 5, .mv (.const (.int .i64 21)), none⟩ :: []
def ir.fingerpostref01_Next.r11.o1 : List GI := ⟨none, .store 3 (.tmp 4) (.tmp 41), none⟩ :: ir.fingerpostref01_Next.r11.o2
def ir.fingerpostref01_Next.r11.o0 : List GI := ⟨some 41, .build [.int .u32 0, .int .u32 0, .int .i64 0] [], none⟩ :: ir.fingerpostref01_Next.r11.o1
def ir.fingerpostref01_Next.r11 : C := .region [4, 5] ir.fingerpostref01_Next.r11.o0
def ir.fingerpostref01_Next.r12.o5 : List GI := ⟨some 5, .mv (.const (.int .i64 0)), none⟩ :: []
def ir.fingerpostref01_Next.r12.o4 : List GI := ⟨none, .store 3 (.tmp 4) (.tmp 45), none⟩ :: ir.fingerpostref01_Next.r12.o5
def ir.fingerpostref01_Next.r12.o3 : List GI := ⟨some 45, .build [.int .u32 0, .int .u32 0, .int .i64 0] [(0, 1, .tmp 44), (1, 1, .const (.int .u32 0)), (2, 1, .const (.int .i64 0))], none⟩ :: ir.fingerpostref01_Next.r12.o4
def ir.fingerpostref01_Next.r12.o2 : List GI := ⟨some 44, .bin .add (.tmp 43) (.const (.int .u32 1)), none⟩ :: ir.fingerpostref01_Next.r12.o3
def ir.fingerpostref01_Next.r12.o1 : List GI := ⟨some 43, .load false 1 (.tmp 42), none⟩ :: ir.fingerpostref01_Next.r12.o2
def ir.fingerpostref01_Next.r12.o0 : List GI := ⟨some 42, .fld 0 (.tmp 2), none⟩ :: ir.fingerpostref01_Next.r12.o1
def ir.fingerpostref01_Next.r12 : C := .region [4, 5] ir.fingerpostref01_Next.r12.o0
def ir.fingerpostref01_Next : C := (.seq ir.fingerpostref01_Next.r0 (.seq (.seq ir.fingerpostref01_Next.r1 (.cond (.tmp 18) (.seq ir.fingerpostref01_Next.r2 .ret) .skip)) (.seq ir.fingerpostref01_Next.r3 (.seq (.seq ir.fingerpostref01_Next.r4 (.block 0 ir.fingerpostref01_Next.l1)) (.seq (.seq ir.fingerpostref01_Next.r8 (.cond (.tmp 31) (.seq ir.fingerpostref01_Next.r9 .ret) .skip)) (.seq (.seq ir.fingerpostref01_Next.r10 (.cond (.tmp 40) (.seq ir.fingerpostref01_Next.r11 .ret) .skip)) (.seq ir.fingerpostref01_Next.r12 .ret)))))))
def ir.fingerpostref01_Next.rs : List RV := [.cell 4 true 3, .tmp 5]
theorem ir.fingerpostref01_Next.ok : resC Try.prog nG 46 ir.fingerpostref01_Next.ks (Try.f23.body.getD .skip) = some ir.fingerpostref01_Next := by kernel_rfl
theorem ir.fingerpostref01_Next.rok : Try.f23.results.toList.mapM (resR Try.prog) = some ir.fingerpostref01_Next.rs := by kernel_rfl
theorem ir.fingerpostref01_Next.spec {args : List Value} {h : AHeap} {v : Value} {h' : AHeap} (hn : args.length ≤ 46)
    (hk : wpC Try.prog nG ir.fingerpostref01_Next (args.zipIdx.map fun p => (p.2, p.1)) h (retQ ir.fingerpostref01_Next.rs h v h')) : Spec Try.prog nG fn.fingerpostref01_Next args h v h' :=
  Spec.intro (fn := Try.f23) Try.func23 (c := Try.f23.body.getD .skip) rfl ir.fingerpostref01_Next.ok ir.fingerpostref01_Next.rok hn hk

/-! ### fingerpost/fingerpostlaw01.From: function 24 -/
def ir.fingerpostlaw01_From.ks : Nat → List Nat := fun
  | 0 => [1, 2]
  | 1 => [2]
  | _ => []
def ir.fingerpostlaw01_From.r0.o1 : List GI := ⟨some 2, .new [.int .u32 0, .int .u32 0, .int .i64 0], none⟩ :: []
def ir.fingerpostlaw01_From.r0.o0 : List GI := ⟨some 1, .box (.tmp 0), none⟩ :: ir.fingerpostlaw01_From.r0.o1
def ir.fingerpostlaw01_From.r0 : C := .region [1, 2] ir.fingerpostlaw01_From.r0.o0
def ir.fingerpostlaw01_From.r1.o7 : List GI := ⟨none, .store 3 (.tmp 2) (.tmp 9), none⟩ :: []
def ir.fingerpostlaw01_From.r1.o6 : List GI := ⟨some 9, .build [.int .u32 0, .int .u32 0, .int .i64 0] [(0, 1, .tmp 4), (1, 1, .tmp 6), (2, 1, .tmp 8)], none⟩ :: ir.fingerpostlaw01_From.r1.o7
def ir.fingerpostlaw01_From.r1.o5 : List GI := ⟨some 8, .load false 1 (.tmp 7), none⟩ :: ir.fingerpostlaw01_From.r1.o6
def ir.fingerpostlaw01_From.r1.o4 : List GI := ⟨some 7, .fld 2 (.tmp 1), none⟩ :: ir.fingerpostlaw01_From.r1.o5
def ir.fingerpostlaw01_From.r1.o3 : List GI := ⟨some 6, .load false 1 (.tmp 5), none⟩ :: ir.fingerpostlaw01_From.r1.o4
def ir.fingerpostlaw01_From.r1.o2 : List GI := ⟨some 5, .fld 1 (.tmp 1), none⟩ :: ir.fingerpostlaw01_From.r1.o3
def ir.fingerpostlaw01_From.r1.o1 : List GI := ⟨some 4, .load false 1 (.tmp 3), none⟩ :: ir.fingerpostlaw01_From.r1.o2
def ir.fingerpostlaw01_From.r1.o0 : List GI := ⟨some 3, .fld 0 (.tmp 1), none⟩ :: ir.fingerpostlaw01_From.r1.o1
def ir.fingerpostlaw01_From.r1 : C := .region [2] ir.fingerpostlaw01_From.r1.o0
def ir.fingerpostlaw01_From : C := (.seq ir.fingerpostlaw01_From.r0 (.seq ir.fingerpostlaw01_From.r1 .ret))
def ir.fingerpostlaw01_From.rs : List RV := [.cell 2 true 3]
theorem ir.fingerpostlaw01_From.ok : resC Try.prog nG 10 ir.fingerpostlaw01_From.ks (Try.f24.body.getD .skip) = some ir.fingerpostlaw01_From := by kernel_rfl
theorem ir.fingerpostlaw01_From.rok : Try.f24.results.toList.mapM (resR Try.prog) = some ir.fingerpostlaw01_From.rs := by kernel_rfl
theorem ir.fingerpostlaw01_From.spec {args : List Value} {h : AHeap} {v : Value} {h' : AHeap} (hn : args.length ≤ 10)
    (hk : wpC Try.prog nG ir.fingerpostlaw01_From (args.zipIdx.map fun p => (p.2, p.1)) h (retQ ir.fingerpostlaw01_From.rs h v h')) : Spec Try.prog nG fn.fingerpostlaw01_From args h v h' :=
  Spec.intro (fn := Try.f24) Try.func24 (c := Try.f24.body.getD .skip) rfl ir.fingerpostlaw01_From.ok ir.fingerpostlaw01_From.rok hn hk

/-! ### fingerpost/rank.Best: function 25 -/
def ir.rank_Best.ks : Nat → List Nat := fun
  | 0 => [0]
  | 1 => [0, 3]
  | 2 => [0, 3, 6, 7, 8]
  | 3 => [0, 3, 6, 7, 8, 9]
  | 4 => [0, 3, 4, 5, 6, 7, 8]
  | 5 => [0, 3, 4, 6, 7, 8, 23]
  | 6 => [0, 3, 6, 7, 8]
  | 7 => [0, 3, 6, 7, 8]
  | 8 => [2]
  | _ => []
def ir.rank_Best.r0.o0 : List GI := ⟨some 2, .mv (.const (.int .i64 0)), none⟩ :: []
def ir.rank_Best.r0 : C := .region [0] ir.rank_Best.r0.o0
def ir.rank_Best.r1.o0 : List GI := ⟨some 3, .mv (.const (.int .i64 (-1))), none⟩ :: []
def ir.rank_Best.r1 : C := .region [0, 3] ir.rank_Best.r1.o0
def ir.rank_Best.r2.o2 : List GI := ⟨some 8, .mv (.const (.int .i64 0)), none⟩ :: []
def ir.rank_Best.r2.o1 : List GI := ⟨some 7, .len false (.tmp 6), none⟩ :: ir.rank_Best.r2.o2
def ir.rank_Best.r2.o0 : List GI := ⟨some 6, .mv (.tmp 0), none⟩ :: ir.rank_Best.r2.o1
def ir.rank_Best.r2 : C := .region [0, 3, 6, 7, 8] ir.rank_Best.r2.o0
def ir.rank_Best.r3.o0 : List GI := ⟨some 9, .bin .lss (.tmp 8) (.tmp 7), none⟩ :: []
def ir.rank_Best.r3 : C := .region [0, 3, 6, 7, 8, 9] ir.rank_Best.r3.o0
def ir.rank_Best.r4.o5 : List GI := ⟨none, .store 3 (.tmp 5) (.tmp 12), none⟩ :: []
def ir.rank_Best.r4.o4 : List GI := ⟨some 4, .mv (.tmp 10), none⟩ :: ir.rank_Best.r4.o5
def ir.rank_Best.r4.o3 : List GI := ⟨some 5, .new [.int .u32 0, .int .u32 0, .int .i64 0], none⟩ :: ir.rank_Best.r4.o4
def ir.rank_Best.r4.o2 : List GI := ⟨some 12, .load true 3 (.tmp 11), none⟩ :: ir.rank_Best.r4.o3
def ir.rank_Best.r4.o1 : List GI := ⟨some 11, .ixs 3 (.tmp 6) (.tmp 8), none⟩ :: ir.rank_Best.r4.o2
def ir.rank_Best.r4.o0 : List GI := ⟨some 10, .mv (.tmp 8), none⟩ :: ir.rank_Best.r4.o1
def ir.rank_Best.r4 : C := .region [0, 3, 4, 5, 6, 7, 8] ir.rank_Best.r4.o0
def ir.rank_Best.r5.o10 : List GI := ⟨some 23, .pick (.tmp 15) (.const (.bool true)) (.tmp 22), none⟩ :: []
def ir.rank_Best.r5.o9 : List GI := ⟨some 22, .bin .gtr (.tmp 21) (.const (.int .i64 0)), some (15, false)⟩ :: ir.rank_Best.r5.o10
def ir.rank_Best.r5.o8 : List GI := ⟨some 21, .call fn.rank_Compare [.tmp 16, .tmp 20], some (15, false)⟩ :: ir.rank_Best.r5.o9
def ir.rank_Best.r5.o7 : List GI := ⟨some 20, .load true 3 (.tmp 19), some (15, false)⟩ :: ir.rank_Best.r5.o8
def ir.rank_Best.r5.o6 : List GI := ⟨some 19, .ixs 3 (.tmp 17) (.tmp 18), some (15, false)⟩ :: ir.rank_Best.r5.o7
def ir.rank_Best.r5.o5 : List GI := ⟨some 18, .mv (.tmp 3), some (15, false)⟩ :: ir.rank_Best.r5.o6
def ir.rank_Best.r5.o4 : List GI := ⟨some 17, .mv (.tmp 0), some (15, false)⟩ :: ir.rank_Best.r5.o5
def ir.rank_Best.r5.o3 : List GI := ⟨some 16, .load true 3 (.tmp 5), some (15, false)⟩ :: ir.rank_Best.r5.o4
def ir.rank_Best.r5.o2 : List GI := ⟨some 15, .mv (.tmp 14), none⟩ :: ir.rank_Best.r5.o3
def ir.rank_Best.r5.o1 : List GI := ⟨some 14, .bin .lss (.tmp 13) (.const (.int .i64 0)), none⟩ :: ir.rank_Best.r5.o2
def ir.rank_Best.r5.o0 : List GI := ⟨some 13, .mv (.tmp 3), none⟩ :: ir.rank_Best.r5.o1
def ir.rank_Best.r5 : C := .draw [0, 3, 4, 6, 7, 8, 23] ir.rank_Best.r5.o0
def ir.rank_Best.r6.o1 : List GI := ⟨some 3, .mv (.tmp 24), none⟩ :: []
def ir.rank_Best.r6.o0 : List GI := ⟨some 24, .mv (.tmp 4), none⟩ :: ir.rank_Best.r6.o1
def ir.rank_Best.r6 : C := .region [0, 3, 6, 7, 8] ir.rank_Best.r6.o0
def ir.rank_Best.r7.o1 : List GI := ⟨some 8, .mv (.tmp 25), none⟩ :: []
def ir.rank_Best.r7.o0 : List GI := ⟨some 25, .bin .add (.tmp 8) (.const (.int .i64 1)), none⟩ :: ir.rank_Best.r7.o1
def ir.rank_Best.r7 : C := .region [0, 3, 6, 7, 8] ir.rank_Best.r7.o0
def ir.rank_Best.l1.b : C := (.seq ir.rank_Best.r3 (.seq (.cond (.tmp 9) .skip (.exit 0)) (.seq (.block 1 (.seq ir.rank_Best.r4 (.seq ir.rank_Best.r5 (.cond (.tmp 23) ir.rank_Best.r6 .skip)))) ir.rank_Best.r7)))
def ir.rank_Best.l1 : C := .loop ir.rank_Best.l1.b
def ir.rank_Best.r8.o1 : List GI := ⟨some 2, .mv (.tmp 26), none⟩ :: []
def ir.rank_Best.r8.o0 : List GI := ⟨some 26, .mv (.tmp 3), none⟩ :: ir.rank_Best.r8.o1
def ir.rank_Best.r8 : C := .region [2] ir.rank_Best.r8.o0
def ir.rank_Best : C := (.seq ir.rank_Best.r0 (.seq ir.rank_Best.r1 (.seq (.seq ir.rank_Best.r2 (.block 0 ir.rank_Best.l1)) (.seq ir.rank_Best.r8 .ret))))
def ir.rank_Best.rs : List RV := [.tmp 2]
theorem ir.rank_Best.ok : resC Try.prog nG 27 ir.rank_Best.ks (Try.f25.body.getD .skip) = some ir.rank_Best := by kernel_rfl
theorem ir.rank_Best.rok : Try.f25.results.toList.mapM (resR Try.prog) = some ir.rank_Best.rs := by kernel_rfl
theorem ir.rank_Best.spec {args : List Value} {h : AHeap} {v : Value} {h' : AHeap} (hn : args.length ≤ 27)
    (hk : wpC Try.prog nG ir.rank_Best (args.zipIdx.map fun p => (p.2, p.1)) h (retQ ir.rank_Best.rs h v h')) : Spec Try.prog nG fn.rank_Best args h v h' :=
  Spec.intro (fn := Try.f25) Try.func25 (c := Try.f25.body.getD .skip) rfl ir.rank_Best.ok ir.rank_Best.rok hn hk

/-! ### fingerpost/fingerpostref01.Best: function 26 -/
def ir.fingerpostref01_Best.ks : Nat → List Nat := fun
  | 0 => [0]
  | 1 => [0, 3]
  | 2 => [0, 3, 9]
  | 3 => [0, 3]
  | 4 => [0, 3, 4]
  | 5 => [0, 3, 4, 5]
  | 6 => [0, 3, 4, 5, 15]
  | 7 => [0, 3, 4, 5]
  | 8 => [0, 3, 4, 5, 26]
  | 9 => [0, 3, 4, 5]
  | 10 => [0, 3, 27]
  | 11 => [2]
  | 12 => [2]
  | _ => []
def ir.fingerpostref01_Best.r0.o0 : List GI := ⟨some 2, .mv (.const (.int .i64 0)), none⟩ :: []
def ir.fingerpostref01_Best.r0 : C := .region [0] ir.fingerpostref01_Best.r0.o0
def ir.fingerpostref01_Best.r1.o0 : List GI := ⟨some 3, .mv (.const (.int .i64 0)), none⟩ :: []
def ir.fingerpostref01_Best.r1 : C := .region [0, 3] ir.fingerpostref01_Best.r1.o0
def ir.fingerpostref01_Best.r2.o3 : List GI := ⟨some 9, .bin .lss (.tmp 6) (.tmp 8), none⟩ :: []
def ir.fingerpostref01_Best.r2.o2 : List GI := ⟨some 8, .len false (.tmp 7), none⟩ :: ir.fingerpostref01_Best.r2.o3
def ir.fingerpostref01_Best.r2.o1 : List GI := ⟨some 7, .mv (.tmp 0), none⟩ :: ir.fingerpostref01_Best.r2.o2
def ir.fingerpostref01_Best.r2.o0 : List GI := ⟨some 6, .mv (.tmp 3), none⟩ :: ir.fingerpostref01_Best.r2.o1
def ir.fingerpostref01_Best.r2 : C := .region [0, 3, 9] ir.fingerpostref01_Best.r2.o0
def ir.fingerpostref01_Best.r4.o0 : List GI := ⟨some 4, .mv (.const (.bool true)), none⟩ :: []
def ir.fingerpostref01_Best.r4 : C := .region [0, 3, 4] ir.fingerpostref01_Best.r4.o0
def ir.fingerpostref01_Best.r5.o0 : List GI := ⟨some 5, .mv (.const (.int .i64 0)), none⟩ :: []
def ir.fingerpostref01_Best.r5 : C := .region [0, 3, 4, 5] ir.fingerpostref01_Best.r5.o0
def ir.fingerpostref01_Best.r6.o3 : List GI := ⟨some 15, .bin .lss (.tmp 12) (.tmp 14), none⟩ :: []
def ir.fingerpostref01_Best.r6.o2 : List GI := ⟨some 14, .len false (.tmp 13), none⟩ :: ir.fingerpostref01_Best.r6.o3
def ir.fingerpostref01_Best.r6.o1 : List GI := ⟨some 13, .mv (.tmp 0), none⟩ :: ir.fingerpostref01_Best.r6.o2
def ir.fingerpostref01_Best.r6.o0 : List GI := ⟨some 12, .mv (.tmp 5), none⟩ :: ir.fingerpostref01_Best.r6.o1
def ir.fingerpostref01_Best.r6 : C := .region [0, 3, 4, 5, 15] ir.fingerpostref01_Best.r6.o0
def ir.fingerpostref01_Best.r8.o8 : List GI := ⟨some 26, .call fn.fingerpostref01_Better [.tmp 21, .tmp 25], none⟩ :: []
def ir.fingerpostref01_Best.r8.o7 : List GI := ⟨some 25, .load true 3 (.tmp 24), none⟩ :: ir.fingerpostref01_Best.r8.o8
def ir.fingerpostref01_Best.r8.o6 : List GI := ⟨some 24, .ixs 3 (.tmp 22) (.tmp 23), none⟩ :: ir.fingerpostref01_Best.r8.o7
def ir.fingerpostref01_Best.r8.o5 : List GI := ⟨some 23, .mv (.tmp 3), none⟩ :: ir.fingerpostref01_Best.r8.o6
def ir.fingerpostref01_Best.r8.o4 : List GI := ⟨some 22, .mv (.tmp 0), none⟩ :: ir.fingerpostref01_Best.r8.o5
def ir.fingerpostref01_Best.r8.o3 : List GI := ⟨some 21, .load true 3 (.tmp 20), none⟩ :: ir.fingerpostref01_Best.r8.o4
def ir.fingerpostref01_Best.r8.o2 : List GI := ⟨some 20, .ixs 3 (.tmp 18) (.tmp 19), none⟩ :: ir.fingerpostref01_Best.r8.o3
def ir.fingerpostref01_Best.r8.o1 : List GI := ⟨some 19, .mv (.tmp 5), none⟩ :: ir.fingerpostref01_Best.r8.o2
def ir.fingerpostref01_Best.r8.o0 : List GI := ⟨some 18, .mv (.tmp 0), none⟩ :: ir.fingerpostref01_Best.r8.o1
def ir.fingerpostref01_Best.r8 : C := .draw [0, 3, 4, 5, 26] ir.fingerpostref01_Best.r8.o0
def ir.fingerpostref01_Best.r9.o0 : List GI := ⟨some 4, .mv (.const (.bool false)), none⟩ :: []
def ir.fingerpostref01_Best.r9 : C := .region [0, 3, 4, 5] ir.fingerpostref01_Best.r9.o0
def ir.fingerpostref01_Best.r7.o2 : List GI := ⟨some 5, .mv (.tmp 17), none⟩ :: []
def ir.fingerpostref01_Best.r7.o1 : List GI := ⟨some 17, .bin .add (.tmp 16) (.const (.int .i64 1)), none⟩ :: ir.fingerpostref01_Best.r7.o2
def ir.fingerpostref01_Best.r7.o0 : List GI := ⟨some 16, .mv (.tmp 5), none⟩ :: ir.fingerpostref01_Best.r7.o1
def ir.fingerpostref01_Best.r7 : C := .region [0, 3, 4, 5] ir.fingerpostref01_Best.r7.o0
def ir.fingerpostref01_Best.l1.b : C := (.seq (.seq ir.fingerpostref01_Best.r6 (.cond (.tmp 15) .skip (.exit 2))) (.seq (.block 3 (.seq ir.fingerpostref01_Best.r8 (.cond (.tmp 26) ir.fingerpostref01_Best.r9 .skip))) ir.fingerpostref01_Best.r7))
def ir.fingerpostref01_Best.l1 : C := .loop ir.fingerpostref01_Best.l1.b
def ir.fingerpostref01_Best.r10.o0 : List GI := ⟨some 27, .mv (.tmp 4), none⟩ :: []
def ir.fingerpostref01_Best.r10 : C := .region [0, 3, 27] ir.fingerpostref01_Best.r10.o0
def ir.fingerpostref01_Best.r11.o1 : List GI := ⟨some 2, .mv (.tmp 28), none⟩ :: []
def ir.fingerpostref01_Best.r11.o0 : List GI := ⟨some 28, .mv (.tmp 3), none⟩ :: ir.fingerpostref01_Best.r11.o1
def ir.fingerpostref01_Best.r11 : C := .region [2] ir.fingerpostref01_Best.r11.o0
def ir.fingerpostref01_Best.r3.o2 : List GI := ⟨some 3, .mv (.tmp 11), none⟩ :: []
def ir.fingerpostref01_Best.r3.o1 : List GI := ⟨some 11, .bin .add (.tmp 10) (.const (.int .i64 1)), none⟩ :: ir.fingerpostref01_Best.r3.o2
def ir.fingerpostref01_Best.r3.o0 : List GI := ⟨some 10, .mv (.tmp 3), none⟩ :: ir.fingerpostref01_Best.r3.o1
def ir.fingerpostref01_Best.r3 : C := .region [0, 3] ir.fingerpostref01_Best.r3.o0
def ir.fingerpostref01_Best.l2.b : C := (.seq (.seq ir.fingerpostref01_Best.r2 (.cond (.tmp 9) .skip (.exit 0))) (.seq (.block 1 (.seq ir.fingerpostref01_Best.r4 (.seq (.seq ir.fingerpostref01_Best.r5 (.block 2 ir.fingerpostref01_Best.l1)) (.seq ir.fingerpostref01_Best.r10 (.cond (.tmp 27) (.seq ir.fingerpostref01_Best.r11 .ret) .skip))))) ir.fingerpostref01_Best.r3))
def ir.fingerpostref01_Best.l2 : C := .loop ir.fingerpostref01_Best.l2.b
def ir.fingerpostref01_Best.r12.o0 : List GI := ⟨some 2, .mv (.const (.int .i64 (-1))), none⟩ :: []
def ir.fingerpostref01_Best.r12 : C := .region [2] ir.fingerpostref01_Best.r12.o0
def ir.fingerpostref01_Best : C := (.seq ir.fingerpostref01_Best.r0 (.seq (.seq ir.fingerpostref01_Best.r1 (.block 0 ir.fingerpostref01_Best.l2)) (.seq ir.fingerpostref01_Best.r12 .ret)))
def ir.fingerpostref01_Best.rs : List RV := [.tmp 2]
theorem ir.fingerpostref01_Best.ok : resC Try.prog nG 29 ir.fingerpostref01_Best.ks (Try.f26.body.getD .skip) = some ir.fingerpostref01_Best := by kernel_rfl
theorem ir.fingerpostref01_Best.rok : Try.f26.results.toList.mapM (resR Try.prog) = some ir.fingerpostref01_Best.rs := by kernel_rfl
theorem ir.fingerpostref01_Best.spec {args : List Value} {h : AHeap} {v : Value} {h' : AHeap} (hn : args.length ≤ 29)
    (hk : wpC Try.prog nG ir.fingerpostref01_Best (args.zipIdx.map fun p => (p.2, p.1)) h (retQ ir.fingerpostref01_Best.rs h v h')) : Spec Try.prog nG fn.fingerpostref01_Best args h v h' :=
  Spec.intro (fn := Try.f26) Try.func26 (c := Try.f26.body.getD .skip) rfl ir.fingerpostref01_Best.ok ir.fingerpostref01_Best.rok hn hk

/-! ### fingerpost/rank.sign: function 46 -/
def ir.rank_sign.ks : Nat → List Nat := fun
  | 0 => [0]
  | 1 => [3]
  | 2 => [2]
  | 3 => [2]
  | _ => []
def ir.rank_sign.r0.o0 : List GI := ⟨some 2, .mv (.const (.int .i64 0)), none⟩ :: []
def ir.rank_sign.r0 : C := .region [0] ir.rank_sign.r0.o0
def ir.rank_sign.r1.o0 : List GI := ⟨some 3, .mv (.tmp 0), none⟩ :: []
def ir.rank_sign.r1 : C := .region [3] ir.rank_sign.r1.o0
def ir.rank_sign.r2.o0 : List GI := ⟨some 2, .mv (.const (.int .i64 1)), none⟩ :: []
def ir.rank_sign.r2 : C := .region [2] ir.rank_sign.r2.o0
def ir.rank_sign.r3.o0 : List GI := ⟨some 2, .mv (.const (.int .i64 (-1))), none⟩ :: []
def ir.rank_sign.r3 : C := .region [2] ir.rank_sign.r3.o0
def ir.rank_sign : C := (.seq ir.rank_sign.r0 (.seq (.seq ir.rank_sign.r1 (.cond (.tmp 3) (.seq ir.rank_sign.r2 .ret) .skip)) (.seq ir.rank_sign.r3 .ret)))
def ir.rank_sign.rs : List RV := [.tmp 2]
theorem ir.rank_sign.ok : resC Try.prog nG 4 ir.rank_sign.ks (Try.f46.body.getD .skip) = some ir.rank_sign := by kernel_rfl
theorem ir.rank_sign.rok : Try.f46.results.toList.mapM (resR Try.prog) = some ir.rank_sign.rs := by kernel_rfl
theorem ir.rank_sign.spec {args : List Value} {h : AHeap} {v : Value} {h' : AHeap} (hn : args.length ≤ 4)
    (hk : wpC Try.prog nG ir.rank_sign (args.zipIdx.map fun p => (p.2, p.1)) h (retQ ir.rank_sign.rs h v h')) : Spec Try.prog nG fn.rank_sign args h v h' :=
  Spec.intro (fn := Try.f46) Try.func46 (c := Try.f46.body.getD .skip) rfl ir.rank_sign.ok ir.rank_sign.rok hn hk

/-! ### fingerpost/fingerpostref01.Better: function 47 -/
def ir.fingerpostref01_Better.ks : Nat → List Nat := fun
  | 0 => [2, 3]
  | 1 => [2, 3, 9]
  | 2 => [4]
  | 3 => [2, 3, 19]
  | 4 => [4]
  | 5 => [4]
  | _ => []
def ir.fingerpostref01_Better.r0.o2 : List GI := ⟨some 4, .mv (.const (.bool false)), none⟩ :: []
def ir.fingerpostref01_Better.r0.o1 : List GI := ⟨some 3, .box (.tmp 1), none⟩ :: ir.fingerpostref01_Better.r0.o2
def ir.fingerpostref01_Better.r0.o0 : List GI := ⟨some 2, .box (.tmp 0), none⟩ :: ir.fingerpostref01_Better.r0.o1
def ir.fingerpostref01_Better.r0 : C := .region [2, 3] ir.fingerpostref01_Better.r0.o0
def ir.fingerpostref01_Better.r1.o4 : List GI := ⟨some 9, .bin .neq (.tmp 6) (.tmp 8), none⟩ :: []
def ir.fingerpostref01_Better.r1.o3 : List GI := ⟨some 8, .load false 1 (.tmp 7), none⟩ :: ir.fingerpostref01_Better.r1.o4
def ir.fingerpostref01_Better.r1.o2 : List GI := ⟨some 7, .fld 0 (.tmp 3), none⟩ :: ir.fingerpostref01_Better.r1.o3
def ir.fingerpostref01_Better.r1.o1 : List GI := ⟨some 6, .load false 1 (.tmp 5), none⟩ :: ir.fingerpostref01_Better.r1.o2
def ir.fingerpostref01_Better.r1.o0 : List GI := ⟨some 5, .fld 0 (.tmp 2), none⟩ :: ir.fingerpostref01_Better.r1.o1
def ir.fingerpostref01_Better.r1 : C := .region [2, 3, 9] ir.fingerpostref01_Better.r1.o0
def ir.fingerpostref01_Better.r2.o5 : List GI := ⟨some 4, .mv (.tmp 14), none⟩ :: []
def ir.fingerpostref01_Better.r2.o4 : List GI := ⟨some 14, .bin .gtr (.tmp 11) (.tmp 13), none⟩ :: ir.fingerpostref01_Better.r2.o5
def ir.fingerpostref01_Better.r2.o3 : List GI := ⟨some 13, .load false 1 (.tmp 12), none⟩ :: ir.fingerpostref01_Better.r2.o4
def ir.fingerpostref01_Better.r2.o2 : List GI := ⟨some 12, .fld 0 (.tmp 3), none⟩ :: ir.fingerpostref01_Better.r2.o3
def ir.fingerpostref01_Better.r2.o1 : List GI := ⟨some 11, .load false 1 (.tmp 10), none⟩ :: ir.fingerpostref01_Better.r2.o2
def ir.fingerpostref01_Better.r2.o0 : List GI := ⟨some 10, .fld 0 (.tmp 2), none⟩ :: ir.fingerpostref01_Better.r2.o1
def ir.fingerpostref01_Better.r2 : C := .region [4] ir.fingerpostref01_Better.r2.o0
def ir.fingerpostref01_Better.r3.o4 : List GI := ⟨some 19, .bin .neq (.tmp 16) (.tmp 18), none⟩ :: []
def ir.fingerpostref01_Better.r3.o3 : List GI := ⟨some 18, .load false 1 (.tmp 17), none⟩ :: ir.fingerpostref01_Better.r3.o4
def ir.fingerpostref01_Better.r3.o2 : List GI := ⟨some 17, .fld 1 (.tmp 3), none⟩ :: ir.fingerpostref01_Better.r3.o3
def ir.fingerpostref01_Better.r3.o1 : List GI := ⟨some 16, .load false 1 (.tmp 15), none⟩ :: ir.fingerpostref01_Better.r3.o2
def ir.fingerpostref01_Better.r3.o0 : List GI := ⟨some 15, .fld 1 (.tmp 2), none⟩ :: ir.fingerpostref01_Better.r3.o1
def ir.fingerpostref01_Better.r3 : C := .region [2, 3, 19] ir.fingerpostref01_Better.r3.o0
def ir.fingerpostref01_Better.r4.o5 : List GI := ⟨some 4, .mv (.tmp 24), none⟩ :: []
def ir.fingerpostref01_Better.r4.o4 : List GI := ⟨some 24, .bin .gtr (.tmp 21) (.tmp 23), none⟩ :: ir.fingerpostref01_Better.r4.o5
def ir.fingerpostref01_Better.r4.o3 : List GI := ⟨some 23, .load false 1 (.tmp 22), none⟩ :: ir.fingerpostref01_Better.r4.o4
def ir.fingerpostref01_Better.r4.o2 : List GI := ⟨some 22, .fld 1 (.tmp 3), none⟩ :: ir.fingerpostref01_Better.r4.o3
def ir.fingerpostref01_Better.r4.o1 : List GI := ⟨some 21, .load false 1 (.tmp 20), none⟩ :: ir.fingerpostref01_Better.r4.o2
def ir.fingerpostref01_Better.r4.o0 : List GI := ⟨some 20, .fld 1 (.tmp 2), none⟩ :: ir.fingerpostref01_Better.r4.o1
def ir.fingerpostref01_Better.r4 : C := .region [4] ir.fingerpostref01_Better.r4.o0
def ir.fingerpostref01_Better.r5.o5 : List GI := ⟨some 4, .mv (.tmp 29), none⟩ :: []
def ir.fingerpostref01_Better.r5.o4 : List GI := ⟨some 29, .bin .lss (.tmp 26) (.tmp 28), none⟩ :: ir.fingerpostref01_Better.r5.o5
def ir.fingerpostref01_Better.r5.o3 : List GI := ⟨some 28, .load false 1 (.tmp 27), none⟩ :: ir.fingerpostref01_Better.r5.o4
def ir.fingerpostref01_Better.r5.o2 : List GI := ⟨some 27, .fld 2 (.tmp 3), none⟩ :: ir.fingerpostref01_Better.r5.o3
def ir.fingerpostref01_Better.r5.o1 : List GI := ⟨some 26, .load false 1 (.tmp 25), none⟩ :: ir.fingerpostref01_Better.r5.o2
def ir.fingerpostref01_Better.r5.o0 : List GI := ⟨some 25, .fld 2 (.tmp 2), none⟩ :: ir.fingerpostref01_Better.r5.o1
def ir.fingerpostref01_Better.r5 : C := .region [4] ir.fingerpostref01_Better.r5.o0
def ir.fingerpostref01_Better : C := (.seq ir.fingerpostref01_Better.r0 (.seq (.seq ir.fingerpostref01_Better.r1 (.cond (.tmp 9) (.seq ir.fingerpostref01_Better.r2 .ret) .skip)) (.seq (.seq ir.fingerpostref01_Better.r3 (.cond (.tmp 19) (.seq ir.fingerpostref01_Better.r4 .ret) .skip)) (.seq ir.fingerpostref01_Better.r5 .ret))))
def ir.fingerpostref01_Better.rs : List RV := [.tmp 4]
theorem ir.fingerpostref01_Better.ok : resC Try.prog nG 30 ir.fingerpostref01_Better.ks (Try.f47.body.getD .skip) = some ir.fingerpostref01_Better := by kernel_rfl
theorem ir.fingerpostref01_Better.rok : Try.f47.results.toList.mapM (resR Try.prog) = some ir.fingerpostref01_Better.rs := by kernel_rfl
theorem ir.fingerpostref01_Better.spec {args : List Value} {h : AHeap} {v : Value} {h' : AHeap} (hn : args.length ≤ 30)
    (hk : wpC Try.prog nG ir.fingerpostref01_Better (args.zipIdx.map fun p => (p.2, p.1)) h (retQ ir.fingerpostref01_Better.rs h v h')) : Spec Try.prog nG fn.fingerpostref01_Better args h v h' :=
  Spec.intro (fn := Try.f47) Try.func47 (c := Try.f47.body.getD .skip) rfl ir.fingerpostref01_Better.ok ir.fingerpostref01_Better.rok hn hk
end Go.Proofs.Ytmeojocmngbpaaa.B
