/-
  The instructions of the program's functions, printed by genir.py; each is checked against the program by the kernel.
-/
import Derived.Test.YtgndlhmjolaeiaaDoorProg
import Derived.Test.YtgndlhmjolaeiaaDoorArL
import Derived.Test.YtgndlhmjolaeiaaDoorAbI
import Derived.Test.YtgndlhmjolaeiaaDoorIrS
import Derived.KernelRfl
namespace Go.Proofs.YtgndlhmjolaeiaaDoor.B
open Go
set_option maxRecDepth 100000
set_option linter.unusedVariables false
def lit_bbc467c7 : ByteArray := { data := #[102, 114, 97, 109, 101, 115, 61, 50, 32, 116, 97, 103, 115, 61, 49] }

/-! ### fingerpost/fingerpostlaw24.CountPlays: function 5 -/
def ir.law24_CountPlays.ks : Nat → List Nat := fun
  | 0 => [0]
  | 1 => [0, 3]
  | 2 => [0, 3, 4]
  | 3 => [3, 4, 11, 12, 13]
  | 4 => [3, 4, 11, 12, 13, 14]
  | 5 => [3, 4, 5, 6, 11, 12, 13]
  | 6 => [3, 4, 6, 11, 12, 13, 19]
  | 7 => [3, 4, 6, 7, 11, 12, 13]
  | 8 => [3, 4, 6, 7, 11, 12, 13, 38]
  | 9 => [3, 4, 11, 12, 13, 57]
  | 10 => [2]
  | 11 => [3, 4, 6, 7, 11, 12, 13]
  | 12 => [3, 4, 11, 12, 13, 85]
  | 13 => [2]
  | 14 => [3, 4, 11, 12, 13]
  | 15 => [3, 4, 8]
  | 16 => [3, 4, 8, 91]
  | 17 => [2]
  | 18 => [3, 4, 8, 93, 94]
  | 19 => [3, 4, 8, 93, 94, 95]
  | 20 => [3, 4, 8, 9, 93, 94]
  | 21 => [3, 4, 8, 93, 94, 120]
  | 22 => [2]
  | 23 => [3, 4, 8, 93, 94]
  | 24 => [2]
  | 100021 => [108]
  | _ => []
def ir.law24_CountPlays.r0 : C := .region [0] [⟨some 2, .mv (.const (.bool false)), none⟩]
theorem ir.law24_CountPlays.r0.w (e : Env) (h : AHeap) (Q : Post) : wpC Tryd.prog nG ir.law24_CountPlays.r0 e h Q = lk (look e 0) (fun v0 => wI Tryd.prog nG (.mv (.const (.bool false))) h fun v2 h => Q .normal [(0, v0)] h) () := lkm (wR (Rn rfl fun v2 h => rfl))
def ir.law24_CountPlays.r1 : C := .region [0, 3] [⟨some 10, .call fn.count_New [], none⟩, ⟨some 3, .mv (.tmp 10), none⟩]
theorem ir.law24_CountPlays.r1.w (e : Env) (h : AHeap) (Q : Post) : wpC Tryd.prog nG ir.law24_CountPlays.r1 e h Q = lk (look e 0) (fun v0 => wI Tryd.prog nG (.call fn.count_New []) h fun v10 h => wI Tryd.prog nG (.mv (.const v10)) h fun v3 h => Q .normal [(0, v0), (3, v3)] h) () := lkm (wR (Rn rfl fun v10 h => Rn rfl fun v3 h => rfl))
def ir.law24_CountPlays.r2 : C := .region [0, 3, 4] [⟨some 4, .new [.int .i64 0, .int .i64 0, .int .i64 0, .int .i64 0, .int .i64 0, .int .i64 0, .int .i64 0, .int .i64 0, .int .i64 0, .int .i64 0, .int .i64 0, .int .i64 0, .int .i64 0, .int .i64 0, .int .i64 0, .int .i64 0, .int .i64 0, .int .i64 0, .int .i64 0], none⟩]
theorem ir.law24_CountPlays.r2.w (e : Env) (h : AHeap) (Q : Post) : wpC Tryd.prog nG ir.law24_CountPlays.r2 e h Q = lk (look e 0) (fun v0 => lk (look e 3) (fun v3 => wI Tryd.prog nG (.new [.int .i64 0, .int .i64 0, .int .i64 0, .int .i64 0, .int .i64 0, .int .i64 0, .int .i64 0, .int .i64 0, .int .i64 0, .int .i64 0, .int .i64 0, .int .i64 0, .int .i64 0, .int .i64 0, .int .i64 0, .int .i64 0, .int .i64 0, .int .i64 0, .int .i64 0]) h fun v4 h => Q .normal [(0, v0), (3, v3), (4, v4)] h) ()) () := lkm (lkm (wR (Rn rfl fun v4 h => rfl)))
def ir.law24_CountPlays.r3 : C := .region [3, 4, 11, 12, 13] [⟨some 11, .mv (.tmp 0), none⟩, ⟨some 12, .len false (.tmp 11), none⟩, ⟨some 13, .mv (.const (.int .i64 0)), none⟩]
theorem ir.law24_CountPlays.r3.w (e : Env) (h : AHeap) (Q : Post) : wpC Tryd.prog nG ir.law24_CountPlays.r3 e h Q = lk (look e 0) (fun v0 => lk (look e 3) (fun v3 => lk (look e 4) (fun v4 => wI Tryd.prog nG (.mv (.const v0)) h fun v11 h => wI Tryd.prog nG (.len false (.const v11)) h fun v12 h => wI Tryd.prog nG (.mv (.const (.int .i64 0))) h fun v13 h => Q .normal [(3, v3), (4, v4), (11, v11), (12, v12), (13, v13)] h) ()) ()) () := lkm (lkm (lkm (wR (Rn rfl fun v11 h => Rn rfl fun v12 h => Rn rfl fun v13 h => rfl))))
def ir.law24_CountPlays.r4 : C := .region [3, 4, 11, 12, 13, 14] [⟨some 14, .bin .lss (.tmp 13) (.tmp 12), none⟩]
theorem ir.law24_CountPlays.r4.w (e : Env) (h : AHeap) (Q : Post) : wpC Tryd.prog nG ir.law24_CountPlays.r4 e h Q = lk (look e 3) (fun v3 => lk (look e 4) (fun v4 => lk (look e 11) (fun v11 => lk (look e 12) (fun v12 => lk (look e 13) (fun v13 => wI Tryd.prog nG (.bin .lss (.const v13) (.const v12)) h fun v14 h => Q .normal [(3, v3), (4, v4), (11, v11), (12, v12), (13, v13), (14, v14)] h) ()) ()) ()) ()) () := lkm (lkm (lkm (lkm (lkm (wR (Rn rfl fun v14 h => rfl))))))
def ir.law24_CountPlays.r5 : C := .region [3, 4, 5, 6, 11, 12, 13] [⟨some 15, .mv (.tmp 13), none⟩, ⟨some 16, .ixs 2 (.tmp 11) (.tmp 13), none⟩, ⟨some 17, .load true 2 (.tmp 16), none⟩, ⟨some 6, .new [.int .i64 0, .int .i64 0], none⟩, ⟨some 5, .mv (.tmp 15), none⟩, ⟨none, .store 2 (.tmp 6) (.tmp 17), none⟩]
theorem ir.law24_CountPlays.r5.w (e : Env) (h : AHeap) (Q : Post) : wpC Tryd.prog nG ir.law24_CountPlays.r5 e h Q = lk (look e 3) (fun v3 => lk (look e 4) (fun v4 => lk (look e 11) (fun v11 => lk (look e 12) (fun v12 => lk (look e 13) (fun v13 => wI Tryd.prog nG (.mv (.const v13)) h fun v15 h => wI Tryd.prog nG (.ixs 2 (.const v11) (.const v13)) h fun v16 h => wI Tryd.prog nG (.load true 2 (.const v16)) h fun v17 h => wI Tryd.prog nG (.new [.int .i64 0, .int .i64 0]) h fun v6 h => wI Tryd.prog nG (.mv (.const v15)) h fun v5 h => wI Tryd.prog nG (.store 2 (.const v6) (.const v17)) h fun _ h => Q .normal [(3, v3), (4, v4), (5, v5), (6, v6), (11, v11), (12, v12), (13, v13)] h) ()) ()) ()) ()) () := lkm (lkm (lkm (lkm (lkm (wR (Rn rfl fun v15 h => Rn rfl fun v16 h => Rn rfl fun v17 h => Rn rfl fun v6 h => Rn rfl fun v5 h => Rz rfl fun v_ h => rfl))))))
def ir.law24_CountPlays.r6 : C := .region [3, 4, 6, 11, 12, 13, 19] [⟨some 18, .mv (.tmp 5), none⟩, ⟨some 19, .bin .geq (.tmp 18) (.const (.int .i64 60)), none⟩]
theorem ir.law24_CountPlays.r6.w (e : Env) (h : AHeap) (Q : Post) : wpC Tryd.prog nG ir.law24_CountPlays.r6 e h Q = lk (look e 3) (fun v3 => lk (look e 4) (fun v4 => lk (look e 5) (fun v5 => lk (look e 6) (fun v6 => lk (look e 11) (fun v11 => lk (look e 12) (fun v12 => lk (look e 13) (fun v13 => wI Tryd.prog nG (.mv (.const v5)) h fun v18 h => wI Tryd.prog nG (.bin .geq (.const v18) (.const (.int .i64 60))) h fun v19 h => Q .normal [(3, v3), (4, v4), (6, v6), (11, v11), (12, v12), (13, v13), (19, v19)] h) ()) ()) ()) ()) ()) ()) () := lkm (lkm (lkm (lkm (lkm (lkm (lkm (wR (Rn rfl fun v18 h => Rn rfl fun v19 h => rfl))))))))
def ir.law24_CountPlays.r7 : C := .region [3, 4, 6, 7, 11, 12, 13] [⟨some 20, .mv (.tmp 3), none⟩, ⟨some 21, .fld 0 (.tmp 6), none⟩, ⟨some 22, .load false 1 (.tmp 21), none⟩, ⟨some 23, .fld 1 (.tmp 6), none⟩, ⟨some 24, .load false 1 (.tmp 23), none⟩, ⟨some 25, .call fn.count_Counters_Add [.tmp 20, .tmp 22, .tmp 24], none⟩, ⟨some 7, .mv (.tmp 25), none⟩]
theorem ir.law24_CountPlays.r7.w (e : Env) (h : AHeap) (Q : Post) : wpC Tryd.prog nG ir.law24_CountPlays.r7 e h Q = lk (look e 3) (fun v3 => lk (look e 4) (fun v4 => lk (look e 6) (fun v6 => lk (look e 11) (fun v11 => lk (look e 12) (fun v12 => lk (look e 13) (fun v13 => wI Tryd.prog nG (.mv (.const v3)) h fun v20 h => wI Tryd.prog nG (.fld 0 (.const v6)) h fun v21 h => wI Tryd.prog nG (.load false 1 (.const v21)) h fun v22 h => wI Tryd.prog nG (.fld 1 (.const v6)) h fun v23 h => wI Tryd.prog nG (.load false 1 (.const v23)) h fun v24 h => wI Tryd.prog nG (.call fn.count_Counters_Add [.const v20, .const v22, .const v24]) h fun v25 h => wI Tryd.prog nG (.mv (.const v25)) h fun v7 h => Q .normal [(3, v3), (4, v4), (6, v6), (7, v7), (11, v11), (12, v12), (13, v13)] h) ()) ()) ()) ()) ()) () := lkm (lkm (lkm (lkm (lkm (lkm (wR (Rn rfl fun v20 h => Rn rfl fun v21 h => Rn rfl fun v22 h => Rn rfl fun v23 h => Rn rfl fun v24 h => Rn rfl fun v25 h => Rn rfl fun v7 h => rfl)))))))
def ir.law24_CountPlays.r8 : C := .region [3, 4, 6, 7, 11, 12, 13, 38] [⟨some 26, .fld 0 (.tmp 6), none⟩, ⟨some 27, .load false 1 (.tmp 26), none⟩, ⟨some 28, .bin .lss (.tmp 27) (.const (.int .i64 0)), none⟩, ⟨some 29, .mv (.tmp 28), none⟩, ⟨some 30, .fld 0 (.tmp 6), some (29, false)⟩, ⟨some 31, .load false 1 (.tmp 30), some (29, false)⟩, ⟨some 32, .bin .geq (.tmp 31) (.const (.int .i64 19)), some (29, false)⟩, ⟨some 33, .pick (.tmp 29) (.const (.bool true)) (.tmp 32), none⟩, ⟨some 34, .mv (.tmp 33), none⟩, ⟨some 35, .fld 1 (.tmp 6), some (34, false)⟩, ⟨some 36, .load false 1 (.tmp 35), some (34, false)⟩, ⟨some 37, .bin .lss (.tmp 36) (.const (.int .i64 0)), some (34, false)⟩, ⟨some 38, .pick (.tmp 34) (.const (.bool true)) (.tmp 37), none⟩]
theorem ir.law24_CountPlays.r8.w (e : Env) (h : AHeap) (Q : Post) : wpC Tryd.prog nG ir.law24_CountPlays.r8 e h Q = lk (look e 3) (fun v3 => lk (look e 4) (fun v4 => lk (look e 6) (fun v6 => lk (look e 7) (fun v7 => lk (look e 11) (fun v11 => lk (look e 12) (fun v12 => lk (look e 13) (fun v13 => wI Tryd.prog nG (.fld 0 (.const v6)) h fun v26 h => wI Tryd.prog nG (.load false 1 (.const v26)) h fun v27 h => wI Tryd.prog nG (.bin .lss (.const v27) (.const (.int .i64 0))) h fun v28 h => wI Tryd.prog nG (.mv (.const v28)) h fun v29 h => gdK v29 false (wI Tryd.prog nG (.fld 0 (.const v6)) h) (fun v29 v30 h => gdK v29 false (wI Tryd.prog nG (.load false 1 (.const v30)) h) (fun v29 v31 h => gdK v29 false (wI Tryd.prog nG (.bin .geq (.const v31) (.const (.int .i64 19))) h) (fun v29 v32 h => wI Tryd.prog nG (.pick (.const v29) (.const (.bool true)) (.const v32)) h fun v33 h => wI Tryd.prog nG (.mv (.const v33)) h fun v34 h => gdK v34 false (wI Tryd.prog nG (.fld 1 (.const v6)) h) (fun v34 v35 h => gdK v34 false (wI Tryd.prog nG (.load false 1 (.const v35)) h) (fun v34 v36 h => gdK v34 false (wI Tryd.prog nG (.bin .lss (.const v36) (.const (.int .i64 0))) h) (fun v34 v37 h => wI Tryd.prog nG (.pick (.const v34) (.const (.bool true)) (.const v37)) h fun v38 h => Q .normal [(3, v3), (4, v4), (6, v6), (7, v7), (11, v11), (12, v12), (13, v13), (38, v38)] h) h () ()) h () ()) h () ()) h () ()) h () ()) h () ()) ()) ()) ()) ()) ()) ()) () := lkm (lkm (lkm (lkm (lkm (lkm (lkm (wR (Rn rfl fun v26 h => Rn rfl fun v27 h => Rn rfl fun v28 h => Rn rfl fun v29 h => Rg rfl rfl fun v29 v30 h => Rg rfl rfl fun v29 v31 h => Rg rfl rfl fun v29 v32 h => Rn rfl fun v33 h => Rn rfl fun v34 h => Rg rfl rfl fun v34 v35 h => Rg rfl rfl fun v34 v36 h => Rg rfl rfl fun v34 v37 h => Rn rfl fun v38 h => rfl))))))))
def ir.law24_CountPlays.r9 : C := .region [3, 4, 11, 12, 13, 57] [⟨some 39, .mv (.tmp 7), none⟩, ⟨some 40, .bin .neq (.tmp 39) (.const (.int .i64 1)), none⟩, ⟨some 41, .mv (.tmp 40), none⟩, ⟨some 42, .mv (.tmp 3), some (41, false)⟩, ⟨some 43, .fld 0 (.tmp 6), some (41, false)⟩, ⟨some 44, .load false 1 (.tmp 43), some (41, false)⟩, ⟨some 45, .call fn.count_Counters_Get [.tmp 42, .tmp 44], some (41, false)⟩, ⟨some 46, .bin .neq (.tmp 45) (.const (.int .i64 0)), some (41, false)⟩, ⟨some 47, .mv (.tmp 46), some (41, false)⟩, ⟨some 48, .fld 0 (.tmp 6), some (47, true)⟩, ⟨some 49, .load false 1 (.tmp 48), some (47, true)⟩, ⟨some 50, .bin .lss (.tmp 49) (.const (.int .i64 0)), some (47, true)⟩, ⟨some 51, .mv (.tmp 50), some (47, true)⟩, ⟨some 52, .fld 0 (.tmp 6), some (51, false)⟩, ⟨some 53, .load false 1 (.tmp 52), some (51, false)⟩, ⟨some 54, .bin .geq (.tmp 53) (.const (.int .i64 19)), some (51, false)⟩, ⟨some 55, .pick (.tmp 51) (.const (.bool true)) (.tmp 54), some (47, true)⟩, ⟨some 56, .pick (.tmp 47) (.tmp 55) (.const (.bool false)), some (41, false)⟩, ⟨some 57, .pick (.tmp 41) (.const (.bool true)) (.tmp 56), none⟩]
theorem ir.law24_CountPlays.r9.w (e : Env) (h : AHeap) (Q : Post) : wpC Tryd.prog nG ir.law24_CountPlays.r9 e h Q = lk (look e 3) (fun v3 => lk (look e 4) (fun v4 => lk (look e 6) (fun v6 => lk (look e 7) (fun v7 => lk (look e 11) (fun v11 => lk (look e 12) (fun v12 => lk (look e 13) (fun v13 => wI Tryd.prog nG (.mv (.const v7)) h fun v39 h => wI Tryd.prog nG (.bin .neq (.const v39) (.const (.int .i64 1))) h fun v40 h => wI Tryd.prog nG (.mv (.const v40)) h fun v41 h => gdK v41 false (wI Tryd.prog nG (.mv (.const v3)) h) (fun v41 v42 h => gdK v41 false (wI Tryd.prog nG (.fld 0 (.const v6)) h) (fun v41 v43 h => gdK v41 false (wI Tryd.prog nG (.load false 1 (.const v43)) h) (fun v41 v44 h => gdK v41 false (wI Tryd.prog nG (.call fn.count_Counters_Get [.const v42, .const v44]) h) (fun v41 v45 h => gdK v41 false (wI Tryd.prog nG (.bin .neq (.const v45) (.const (.int .i64 0))) h) (fun v41 v46 h => gdK v41 false (wI Tryd.prog nG (.mv (.const v46)) h) (fun v41 v47 h => gdK v47 true (wI Tryd.prog nG (.fld 0 (.const v6)) h) (fun v47 v48 h => gdK v47 true (wI Tryd.prog nG (.load false 1 (.const v48)) h) (fun v47 v49 h => gdK v47 true (wI Tryd.prog nG (.bin .lss (.const v49) (.const (.int .i64 0))) h) (fun v47 v50 h => gdK v47 true (wI Tryd.prog nG (.mv (.const v50)) h) (fun v47 v51 h => gdK v51 false (wI Tryd.prog nG (.fld 0 (.const v6)) h) (fun v51 v52 h => gdK v51 false (wI Tryd.prog nG (.load false 1 (.const v52)) h) (fun v51 v53 h => gdK v51 false (wI Tryd.prog nG (.bin .geq (.const v53) (.const (.int .i64 19))) h) (fun v51 v54 h => gdK v47 true (wI Tryd.prog nG (.pick (.const v51) (.const (.bool true)) (.const v54)) h) (fun v47 v55 h => gdK v41 false (wI Tryd.prog nG (.pick (.const v47) (.const v55) (.const (.bool false))) h) (fun v41 v56 h => wI Tryd.prog nG (.pick (.const v41) (.const (.bool true)) (.const v56)) h fun v57 h => Q .normal [(3, v3), (4, v4), (11, v11), (12, v12), (13, v13), (57, v57)] h) h () ()) h () ()) h () ()) h () ()) h () ()) h () ()) h () ()) h () ()) h () ()) h () ()) h () ()) h () ()) h () ()) h () ()) h () ()) ()) ()) ()) ()) ()) ()) () := lkm (lkm (lkm (lkm (lkm (lkm (lkm (wR (Rn rfl fun v39 h => Rn rfl fun v40 h => Rn rfl fun v41 h => Rg rfl rfl fun v41 v42 h => Rg rfl rfl fun v41 v43 h => Rg rfl rfl fun v41 v44 h => Rg rfl rfl fun v41 v45 h => Rg rfl rfl fun v41 v46 h => Rg rfl rfl fun v41 v47 h => Rg rfl rfl fun v47 v48 h => Rg rfl rfl fun v47 v49 h => Rg rfl rfl fun v47 v50 h => Rg rfl rfl fun v47 v51 h => Rg rfl rfl fun v51 v52 h => Rg rfl rfl fun v51 v53 h => Rg rfl rfl fun v51 v54 h => Rg rfl rfl fun v47 v55 h => Rg rfl rfl fun v41 v56 h => Rn rfl fun v57 h => rfl))))))))
def ir.law24_CountPlays.r10 : C := .region [2] [⟨some 2, .mv (.const (.bool false)), none⟩]
theorem ir.law24_CountPlays.r10.w (e : Env) (h : AHeap) (Q : Post) : wpC Tryd.prog nG ir.law24_CountPlays.r10 e h Q = wI Tryd.prog nG (.mv (.const (.bool false))) h fun v2 h => Q .normal [(2, v2)] h := wR (Rn rfl fun v2 h => rfl)
def ir.law24_CountPlays.r11 : C := .draw [3, 4, 6, 7, 11, 12, 13] [⟨some 58, .fld 0 (.tmp 6), none⟩, ⟨some 59, .load false 1 (.tmp 58), none⟩, ⟨some 60, .ixa 19 1 (.tmp 4) (.tmp 59), none⟩, ⟨some 61, .load false 1 (.tmp 60), none⟩, ⟨some 62, .fld 1 (.tmp 6), none⟩, ⟨some 63, .load false 1 (.tmp 62), none⟩, ⟨some 64, .bin .add (.tmp 61) (.tmp 63), none⟩, ⟨some 65, .ixa 19 1 (.tmp 4) (.tmp 59), none⟩, ⟨none, .store 1 (.tmp 65) (.tmp 64), none⟩]
theorem ir.law24_CountPlays.r11.w (e : Env) (h : AHeap) (Q : Post) : wpC Tryd.prog nG ir.law24_CountPlays.r11 e h Q = lk (look e 3) (fun v3 => lk (look e 4) (fun v4 => lk (look e 6) (fun v6 => lk (look e 7) (fun v7 => lk (look e 11) (fun v11 => lk (look e 12) (fun v12 => lk (look e 13) (fun v13 => wI Tryd.prog nG (.fld 0 (.const v6)) h fun v58 h => wI Tryd.prog nG (.load false 1 (.const v58)) h fun v59 h => wI Tryd.prog nG (.ixa 19 1 (.const v4) (.const v59)) h fun v60 h => wI Tryd.prog nG (.load false 1 (.const v60)) h fun v61 h => wI Tryd.prog nG (.fld 1 (.const v6)) h fun v62 h => wI Tryd.prog nG (.load false 1 (.const v62)) h fun v63 h => wI Tryd.prog nG (.bin .add (.const v61) (.const v63)) h fun v64 h => wI Tryd.prog nG (.ixa 19 1 (.const v4) (.const v59)) h fun v65 h => wI Tryd.prog nG (.store 1 (.const v65) (.const v64)) h fun _ h => Q .normal [(3, v3), (4, v4), (6, v6), (7, v7), (11, v11), (12, v12), (13, v13)] h) ()) ()) ()) ()) ()) ()) () := lkm (lkm (lkm (lkm (lkm (lkm (lkm (wDr (Dn rfl rfl fun v58 h => Dn rfl rfl fun v59 h => Dn rfl rfl fun v60 h => Dn rfl rfl fun v61 h => Dn rfl rfl fun v62 h => Dn rfl rfl fun v63 h => Dn rfl rfl fun v64 h => Dn rfl rfl fun v65 h => Dz rfl rfl fun v_ h => rfl))))))))
def ir.law24_CountPlays.r12 : C := .draw [3, 4, 11, 12, 13, 85] [⟨some 66, .mv (.tmp 7), none⟩, ⟨some 67, .bin .neq (.tmp 66) (.const (.int .i64 0)), none⟩, ⟨some 68, .mv (.tmp 67), none⟩, ⟨some 69, .mv (.tmp 3), some (68, false)⟩, ⟨some 70, .fld 0 (.tmp 6), some (68, false)⟩, ⟨some 71, .load false 1 (.tmp 70), some (68, false)⟩, ⟨some 72, .call fn.count_Counters_Get [.tmp 69, .tmp 71], some (68, false)⟩, ⟨some 73, .fld 0 (.tmp 6), some (68, false)⟩, ⟨some 74, .load false 1 (.tmp 73), some (68, false)⟩, ⟨some 75, .ixa 19 1 (.tmp 4) (.tmp 74), some (68, false)⟩, ⟨some 76, .load false 1 (.tmp 75), some (68, false)⟩, ⟨some 77, .bin .neq (.tmp 72) (.tmp 76), some (68, false)⟩, ⟨some 78, .pick (.tmp 68) (.const (.bool true)) (.tmp 77), none⟩, ⟨some 79, .mv (.tmp 78), none⟩, ⟨some 80, .mv (.tmp 3), some (79, false)⟩, ⟨some 81, .call fn.count_Counters_Text [.tmp 80], some (79, false)⟩, ⟨some 82, .load true 19 (.tmp 4), some (79, false)⟩, ⟨some 83, .call fn.ref24_Text [.tmp 82], some (79, false)⟩, ⟨some 84, .bin .neq (.tmp 81) (.tmp 83), some (79, false)⟩, ⟨some 85, .pick (.tmp 79) (.const (.bool true)) (.tmp 84), none⟩]
theorem ir.law24_CountPlays.r12.w (e : Env) (h : AHeap) (Q : Post) : wpC Tryd.prog nG ir.law24_CountPlays.r12 e h Q = lk (look e 3) (fun v3 => lk (look e 4) (fun v4 => lk (look e 6) (fun v6 => lk (look e 7) (fun v7 => lk (look e 11) (fun v11 => lk (look e 12) (fun v12 => lk (look e 13) (fun v13 => wI Tryd.prog nG (.mv (.const v7)) h fun v66 h => wI Tryd.prog nG (.bin .neq (.const v66) (.const (.int .i64 0))) h fun v67 h => wI Tryd.prog nG (.mv (.const v67)) h fun v68 h => gdK v68 false (wI Tryd.prog nG (.mv (.const v3)) h) (fun v68 v69 h => gdK v68 false (wI Tryd.prog nG (.fld 0 (.const v6)) h) (fun v68 v70 h => gdK v68 false (wI Tryd.prog nG (.load false 1 (.const v70)) h) (fun v68 v71 h => gdK v68 false (wD Tryd.prog nG (.call fn.count_Counters_Get [.const v69, .const v71]) h) (fun v68 v72 h => gdK v68 false (wI Tryd.prog nG (.fld 0 (.const v6)) h) (fun v68 v73 h => gdK v68 false (wI Tryd.prog nG (.load false 1 (.const v73)) h) (fun v68 v74 h => gdK v68 false (wI Tryd.prog nG (.ixa 19 1 (.const v4) (.const v74)) h) (fun v68 v75 h => gdK v68 false (wI Tryd.prog nG (.load false 1 (.const v75)) h) (fun v68 v76 h => gdK v68 false (wI Tryd.prog nG (.bin .neq (.const v72) (.const v76)) h) (fun v68 v77 h => wI Tryd.prog nG (.pick (.const v68) (.const (.bool true)) (.const v77)) h fun v78 h => wI Tryd.prog nG (.mv (.const v78)) h fun v79 h => gdK v79 false (wI Tryd.prog nG (.mv (.const v3)) h) (fun v79 v80 h => gdK v79 false (wD Tryd.prog nG (.call fn.count_Counters_Text [.const v80]) h) (fun v79 v81 h => gdK v79 false (wI Tryd.prog nG (.load true 19 (.const v4)) h) (fun v79 v82 h => gdK v79 false (wD Tryd.prog nG (.call fn.ref24_Text [.const v82]) h) (fun v79 v83 h => gdK v79 false (wI Tryd.prog nG (.bin .neq (.const v81) (.const v83)) h) (fun v79 v84 h => wI Tryd.prog nG (.pick (.const v79) (.const (.bool true)) (.const v84)) h fun v85 h => Q .normal [(3, v3), (4, v4), (11, v11), (12, v12), (13, v13), (85, v85)] h) h () ()) h () ()) h () ()) h () ()) h () ()) h () ()) h () ()) h () ()) h () ()) h () ()) h () ()) h () ()) h () ()) h () ()) ()) ()) ()) ()) ()) ()) () := lkm (lkm (lkm (lkm (lkm (lkm (lkm (wDr (Dn rfl rfl fun v66 h => Dn rfl rfl fun v67 h => Dn rfl rfl fun v68 h => Dg rfl rfl rfl fun v68 v69 h => Dg rfl rfl rfl fun v68 v70 h => Dg rfl rfl rfl fun v68 v71 h => DgC rfl rfl rfl fun v68 v72 h => Dg rfl rfl rfl fun v68 v73 h => Dg rfl rfl rfl fun v68 v74 h => Dg rfl rfl rfl fun v68 v75 h => Dg rfl rfl rfl fun v68 v76 h => Dg rfl rfl rfl fun v68 v77 h => Dn rfl rfl fun v78 h => Dn rfl rfl fun v79 h => Dg rfl rfl rfl fun v79 v80 h => DgC rfl rfl rfl fun v79 v81 h => Dg rfl rfl rfl fun v79 v82 h => DgC rfl rfl rfl fun v79 v83 h => Dg rfl rfl rfl fun v79 v84 h => Dn rfl rfl fun v85 h => rfl))))))))
def ir.law24_CountPlays.r13 : C := .region [2] [⟨some 2, .mv (.const (.bool false)), none⟩]
theorem ir.law24_CountPlays.r13.w (e : Env) (h : AHeap) (Q : Post) : wpC Tryd.prog nG ir.law24_CountPlays.r13 e h Q = wI Tryd.prog nG (.mv (.const (.bool false))) h fun v2 h => Q .normal [(2, v2)] h := wR (Rn rfl fun v2 h => rfl)
def ir.law24_CountPlays.r14 : C := .region [3, 4, 11, 12, 13] [⟨some 86, .bin .add (.tmp 13) (.const (.int .i64 1)), none⟩, ⟨some 13, .mv (.tmp 86), none⟩]
theorem ir.law24_CountPlays.r14.w (e : Env) (h : AHeap) (Q : Post) : wpC Tryd.prog nG ir.law24_CountPlays.r14 e h Q = lk (look e 3) (fun v3 => lk (look e 4) (fun v4 => lk (look e 11) (fun v11 => lk (look e 12) (fun v12 => lk (look e 13) (fun v13 => wI Tryd.prog nG (.bin .add (.const v13) (.const (.int .i64 1))) h fun v86 h => wI Tryd.prog nG (.mv (.const v86)) h fun v13 h => Q .normal [(3, v3), (4, v4), (11, v11), (12, v12), (13, v13)] h) ()) ()) ()) ()) () := lkm (lkm (lkm (lkm (lkm (wR (Rn rfl fun v86 h => Rn rfl fun v13 h => rfl))))))
def ir.law24_CountPlays.l1.b : C := (.seq ir.law24_CountPlays.r4 (.seq (.cond (.tmp 14) .skip (.exit 0)) (.seq (.block 1 (.seq ir.law24_CountPlays.r5 (.seq (.seq ir.law24_CountPlays.r6 (.cond (.tmp 19) (.exit 0) .skip)) (.seq ir.law24_CountPlays.r7 (.seq (.seq ir.law24_CountPlays.r8 (.cond (.tmp 38) (.seq (.seq ir.law24_CountPlays.r9 (.cond (.tmp 57) (.seq ir.law24_CountPlays.r10 .ret) .skip)) (.exit 1)) .skip)) (.seq ir.law24_CountPlays.r11 (.seq ir.law24_CountPlays.r12 (.cond (.tmp 85) (.seq ir.law24_CountPlays.r13 .ret) .skip)))))))) ir.law24_CountPlays.r14)))
theorem ir.law24_CountPlays.l1.bw (e : Env) (h : AHeap) (Q : Post) : wpC Tryd.prog nG ir.law24_CountPlays.l1.b e h Q = wpC Tryd.prog nG (.seq ir.law24_CountPlays.r4 (.seq (.cond (.tmp 14) .skip (.exit 0)) (.seq (.block 1 (.seq ir.law24_CountPlays.r5 (.seq (.seq ir.law24_CountPlays.r6 (.cond (.tmp 19) (.exit 0) .skip)) (.seq ir.law24_CountPlays.r7 (.seq (.seq ir.law24_CountPlays.r8 (.cond (.tmp 38) (.seq (.seq ir.law24_CountPlays.r9 (.cond (.tmp 57) (.seq ir.law24_CountPlays.r10 .ret) .skip)) (.exit 1)) .skip)) (.seq ir.law24_CountPlays.r11 (.seq ir.law24_CountPlays.r12 (.cond (.tmp 85) (.seq ir.law24_CountPlays.r13 .ret) .skip)))))))) ir.law24_CountPlays.r14))) e h Q := (rfl)
def ir.law24_CountPlays.l1 : C := .loop ir.law24_CountPlays.l1.b
theorem ir.law24_CountPlays.l1.w (e : Env) (h : AHeap) (Q : Post) : wpC Tryd.prog nG ir.law24_CountPlays.l1 e h Q = loopV Tryd.prog nG ir.law24_CountPlays.l1.b e h Q () := (rfl)
def ir.law24_CountPlays.r15 : C := .region [3, 4, 8] [⟨some 87, .mv (.tmp 3), none⟩, ⟨some 88, .call fn.count_Counters_All [.tmp 87], none⟩, ⟨some 8, .mv (.tmp 88), none⟩]
theorem ir.law24_CountPlays.r15.w (e : Env) (h : AHeap) (Q : Post) : wpC Tryd.prog nG ir.law24_CountPlays.r15 e h Q = lk (look e 3) (fun v3 => lk (look e 4) (fun v4 => wI Tryd.prog nG (.mv (.const v3)) h fun v87 h => wI Tryd.prog nG (.call fn.count_Counters_All [.const v87]) h fun v88 h => wI Tryd.prog nG (.mv (.const v88)) h fun v8 h => Q .normal [(3, v3), (4, v4), (8, v8)] h) ()) () := lkm (lkm (wR (Rn rfl fun v87 h => Rn rfl fun v88 h => Rn rfl fun v8 h => rfl)))
def ir.law24_CountPlays.r16 : C := .region [3, 4, 8, 91] [⟨some 89, .mv (.tmp 8), none⟩, ⟨some 90, .len false (.tmp 89), none⟩, ⟨some 91, .bin .neq (.tmp 90) (.const (.int .i64 19)), none⟩]
theorem ir.law24_CountPlays.r16.w (e : Env) (h : AHeap) (Q : Post) : wpC Tryd.prog nG ir.law24_CountPlays.r16 e h Q = lk (look e 3) (fun v3 => lk (look e 4) (fun v4 => lk (look e 8) (fun v8 => wI Tryd.prog nG (.mv (.const v8)) h fun v89 h => wI Tryd.prog nG (.len false (.const v89)) h fun v90 h => wI Tryd.prog nG (.bin .neq (.const v90) (.const (.int .i64 19))) h fun v91 h => Q .normal [(3, v3), (4, v4), (8, v8), (91, v91)] h) ()) ()) () := lkm (lkm (lkm (wR (Rn rfl fun v89 h => Rn rfl fun v90 h => Rn rfl fun v91 h => rfl))))
def ir.law24_CountPlays.r17 : C := .region [2] [⟨some 2, .mv (.const (.bool false)), none⟩]
theorem ir.law24_CountPlays.r17.w (e : Env) (h : AHeap) (Q : Post) : wpC Tryd.prog nG ir.law24_CountPlays.r17 e h Q = wI Tryd.prog nG (.mv (.const (.bool false))) h fun v2 h => Q .normal [(2, v2)] h := wR (Rn rfl fun v2 h => rfl)
def ir.law24_CountPlays.r18 : C := .region [3, 4, 8, 93, 94] [⟨some 92, .mv (.tmp 8), none⟩, ⟨some 93, .len false (.tmp 92), none⟩, ⟨some 94, .mv (.const (.int .i64 0)), none⟩]
theorem ir.law24_CountPlays.r18.w (e : Env) (h : AHeap) (Q : Post) : wpC Tryd.prog nG ir.law24_CountPlays.r18 e h Q = lk (look e 3) (fun v3 => lk (look e 4) (fun v4 => lk (look e 8) (fun v8 => wI Tryd.prog nG (.mv (.const v8)) h fun v92 h => wI Tryd.prog nG (.len false (.const v92)) h fun v93 h => wI Tryd.prog nG (.mv (.const (.int .i64 0))) h fun v94 h => Q .normal [(3, v3), (4, v4), (8, v8), (93, v93), (94, v94)] h) ()) ()) () := lkm (lkm (lkm (wR (Rn rfl fun v92 h => Rn rfl fun v93 h => Rn rfl fun v94 h => rfl))))
def ir.law24_CountPlays.r19 : C := .region [3, 4, 8, 93, 94, 95] [⟨some 95, .bin .lss (.tmp 94) (.tmp 93), none⟩]
theorem ir.law24_CountPlays.r19.w (e : Env) (h : AHeap) (Q : Post) : wpC Tryd.prog nG ir.law24_CountPlays.r19 e h Q = lk (look e 3) (fun v3 => lk (look e 4) (fun v4 => lk (look e 8) (fun v8 => lk (look e 93) (fun v93 => lk (look e 94) (fun v94 => wI Tryd.prog nG (.bin .lss (.const v94) (.const v93)) h fun v95 h => Q .normal [(3, v3), (4, v4), (8, v8), (93, v93), (94, v94), (95, v95)] h) ()) ()) ()) ()) () := lkm (lkm (lkm (lkm (lkm (wR (Rn rfl fun v95 h => rfl))))))
def ir.law24_CountPlays.r20 : C := .region [3, 4, 8, 9, 93, 94] [⟨some 96, .mv (.tmp 94), none⟩, ⟨some 9, .mv (.tmp 96), none⟩]
theorem ir.law24_CountPlays.r20.w (e : Env) (h : AHeap) (Q : Post) : wpC Tryd.prog nG ir.law24_CountPlays.r20 e h Q = lk (look e 3) (fun v3 => lk (look e 4) (fun v4 => lk (look e 8) (fun v8 => lk (look e 93) (fun v93 => lk (look e 94) (fun v94 => wI Tryd.prog nG (.mv (.const v94)) h fun v96 h => wI Tryd.prog nG (.mv (.const v96)) h fun v9 h => Q .normal [(3, v3), (4, v4), (8, v8), (9, v9), (93, v93), (94, v94)] h) ()) ()) ()) ()) () := lkm (lkm (lkm (lkm (lkm (wR (Rn rfl fun v96 h => Rn rfl fun v9 h => rfl))))))
def ir.law24_CountPlays.r21 : C := .draw [3, 4, 8, 93, 94, 120] [⟨some 97, .mv (.tmp 8), none⟩, ⟨some 98, .mv (.tmp 9), none⟩, ⟨some 99, .ixs 1 (.tmp 97) (.tmp 98), none⟩, ⟨some 100, .load false 1 (.tmp 99), none⟩, ⟨some 101, .mv (.tmp 9), none⟩, ⟨some 102, .ixa 19 1 (.tmp 4) (.tmp 101), none⟩, ⟨some 103, .load false 1 (.tmp 102), none⟩, ⟨some 104, .bin .neq (.tmp 100) (.tmp 103), none⟩, ⟨some 105, .mv (.tmp 104), none⟩, ⟨some 106, .mv (.tmp 3), some (105, false)⟩, ⟨some 107, .mv (.tmp 9), some (105, false)⟩, ⟨some 108, .callw fn.count_Counters_Bump [.tmp 106, .tmp 107], some (105, false)⟩, ⟨some 109, .bin .neq (.tmp 108) (.const (.int .i64 0)), some (105, false)⟩, ⟨some 110, .pick (.tmp 105) (.const (.bool true)) (.tmp 109), none⟩, ⟨some 111, .mv (.tmp 110), none⟩, ⟨some 112, .mv (.tmp 3), some (111, false)⟩, ⟨some 113, .mv (.tmp 9), some (111, false)⟩, ⟨some 114, .call fn.count_Counters_Get [.tmp 112, .tmp 113], some (111, false)⟩, ⟨some 115, .mv (.tmp 9), some (111, false)⟩, ⟨some 116, .ixa 19 1 (.tmp 4) (.tmp 115), some (111, false)⟩, ⟨some 117, .load false 1 (.tmp 116), some (111, false)⟩, ⟨some 118, .bin .add (.tmp 117) (.const (.int .i64 1)), some (111, false)⟩, ⟨some 119, .bin .neq (.tmp 114) (.tmp 118), some (111, false)⟩, ⟨some 120, .pick (.tmp 111) (.const (.bool true)) (.tmp 119), none⟩]
theorem ir.law24_CountPlays.r21.w (e : Env) (h : AHeap) (Q : Post) : wpC Tryd.prog nG ir.law24_CountPlays.r21 e h Q = lk (look e 3) (fun v3 => lk (look e 4) (fun v4 => lk (look e 8) (fun v8 => lk (look e 9) (fun v9 => lk (look e 93) (fun v93 => lk (look e 94) (fun v94 => wI Tryd.prog nG (.mv (.const v8)) h fun v97 h => wI Tryd.prog nG (.mv (.const v9)) h fun v98 h => wI Tryd.prog nG (.ixs 1 (.const v97) (.const v98)) h fun v99 h => wI Tryd.prog nG (.load false 1 (.const v99)) h fun v100 h => wI Tryd.prog nG (.mv (.const v9)) h fun v101 h => wI Tryd.prog nG (.ixa 19 1 (.const v4) (.const v101)) h fun v102 h => wI Tryd.prog nG (.load false 1 (.const v102)) h fun v103 h => wI Tryd.prog nG (.bin .neq (.const v100) (.const v103)) h fun v104 h => wI Tryd.prog nG (.mv (.const v104)) h fun v105 h => gdK v105 false (wI Tryd.prog nG (.mv (.const v3)) h) (fun v105 v106 h => gdK v105 false (wI Tryd.prog nG (.mv (.const v9)) h) (fun v105 v107 h => gdK v105 false (wI Tryd.prog nG (.callw fn.count_Counters_Bump [.const v106, .const v107]) h) (fun v105 v108 h => gdK v105 false (wI Tryd.prog nG (.bin .neq (.const v108) (.const (.int .i64 0))) h) (fun v105 v109 h => wI Tryd.prog nG (.pick (.const v105) (.const (.bool true)) (.const v109)) h fun v110 h => wI Tryd.prog nG (.mv (.const v110)) h fun v111 h => gdK v111 false (wI Tryd.prog nG (.mv (.const v3)) h) (fun v111 v112 h => gdK v111 false (wI Tryd.prog nG (.mv (.const v9)) h) (fun v111 v113 h => gdK v111 false (wD Tryd.prog nG (.call fn.count_Counters_Get [.const v112, .const v113]) h) (fun v111 v114 h => gdK v111 false (wI Tryd.prog nG (.mv (.const v9)) h) (fun v111 v115 h => gdK v111 false (wI Tryd.prog nG (.ixa 19 1 (.const v4) (.const v115)) h) (fun v111 v116 h => gdK v111 false (wI Tryd.prog nG (.load false 1 (.const v116)) h) (fun v111 v117 h => gdK v111 false (wI Tryd.prog nG (.bin .add (.const v117) (.const (.int .i64 1))) h) (fun v111 v118 h => gdK v111 false (wI Tryd.prog nG (.bin .neq (.const v114) (.const v118)) h) (fun v111 v119 h => wI Tryd.prog nG (.pick (.const v111) (.const (.bool true)) (.const v119)) h fun v120 h => Q .normal [(3, v3), (4, v4), (8, v8), (93, v93), (94, v94), (120, v120)] h) h () ()) h () ()) h () ()) h () ()) h () ()) h () ()) h () ()) h () ()) h () ()) h () ()) h () ()) h () ()) ()) ()) ()) ()) ()) () := lkm (lkm (lkm (lkm (lkm (lkm (wDr (Dn rfl rfl fun v97 h => Dn rfl rfl fun v98 h => Dn rfl rfl fun v99 h => Dn rfl rfl fun v100 h => Dn rfl rfl fun v101 h => Dn rfl rfl fun v102 h => Dn rfl rfl fun v103 h => Dn rfl rfl fun v104 h => Dn rfl rfl fun v105 h => Dg rfl rfl rfl fun v105 v106 h => Dg rfl rfl rfl fun v105 v107 h => Dg rfl rfl rfl fun v105 v108 h => Dg rfl rfl rfl fun v105 v109 h => Dn rfl rfl fun v110 h => Dn rfl rfl fun v111 h => Dg rfl rfl rfl fun v111 v112 h => Dg rfl rfl rfl fun v111 v113 h => DgC rfl rfl rfl fun v111 v114 h => Dg rfl rfl rfl fun v111 v115 h => Dg rfl rfl rfl fun v111 v116 h => Dg rfl rfl rfl fun v111 v117 h => Dg rfl rfl rfl fun v111 v118 h => Dg rfl rfl rfl fun v111 v119 h => Dn rfl rfl fun v120 h => rfl)))))))
def ir.law24_CountPlays.r22 : C := .region [2] [⟨some 2, .mv (.const (.bool false)), none⟩]
theorem ir.law24_CountPlays.r22.w (e : Env) (h : AHeap) (Q : Post) : wpC Tryd.prog nG ir.law24_CountPlays.r22 e h Q = wI Tryd.prog nG (.mv (.const (.bool false))) h fun v2 h => Q .normal [(2, v2)] h := wR (Rn rfl fun v2 h => rfl)
def ir.law24_CountPlays.r23 : C := .region [3, 4, 8, 93, 94] [⟨some 121, .bin .add (.tmp 94) (.const (.int .i64 1)), none⟩, ⟨some 94, .mv (.tmp 121), none⟩]
theorem ir.law24_CountPlays.r23.w (e : Env) (h : AHeap) (Q : Post) : wpC Tryd.prog nG ir.law24_CountPlays.r23 e h Q = lk (look e 3) (fun v3 => lk (look e 4) (fun v4 => lk (look e 8) (fun v8 => lk (look e 93) (fun v93 => lk (look e 94) (fun v94 => wI Tryd.prog nG (.bin .add (.const v94) (.const (.int .i64 1))) h fun v121 h => wI Tryd.prog nG (.mv (.const v121)) h fun v94 h => Q .normal [(3, v3), (4, v4), (8, v8), (93, v93), (94, v94)] h) ()) ()) ()) ()) () := lkm (lkm (lkm (lkm (lkm (wR (Rn rfl fun v121 h => Rn rfl fun v94 h => rfl))))))
def ir.law24_CountPlays.l2.b : C := (.seq ir.law24_CountPlays.r19 (.seq (.cond (.tmp 95) .skip (.exit 2)) (.seq (.block 3 (.seq ir.law24_CountPlays.r20 (.seq ir.law24_CountPlays.r21 (.cond (.tmp 120) (.seq ir.law24_CountPlays.r22 .ret) .skip)))) ir.law24_CountPlays.r23)))
theorem ir.law24_CountPlays.l2.bw (e : Env) (h : AHeap) (Q : Post) : wpC Tryd.prog nG ir.law24_CountPlays.l2.b e h Q = wpC Tryd.prog nG (.seq ir.law24_CountPlays.r19 (.seq (.cond (.tmp 95) .skip (.exit 2)) (.seq (.block 3 (.seq ir.law24_CountPlays.r20 (.seq ir.law24_CountPlays.r21 (.cond (.tmp 120) (.seq ir.law24_CountPlays.r22 .ret) .skip)))) ir.law24_CountPlays.r23))) e h Q := (rfl)
def ir.law24_CountPlays.l2 : C := .loop ir.law24_CountPlays.l2.b
theorem ir.law24_CountPlays.l2.w (e : Env) (h : AHeap) (Q : Post) : wpC Tryd.prog nG ir.law24_CountPlays.l2 e h Q = loopV Tryd.prog nG ir.law24_CountPlays.l2.b e h Q () := (rfl)
def ir.law24_CountPlays.r24 : C := .region [2] [⟨some 122, .call fn.law24_awake [], none⟩, ⟨some 2, .mv (.tmp 122), none⟩]
theorem ir.law24_CountPlays.r24.w (e : Env) (h : AHeap) (Q : Post) : wpC Tryd.prog nG ir.law24_CountPlays.r24 e h Q = wI Tryd.prog nG (.call fn.law24_awake []) h fun v122 h => wI Tryd.prog nG (.mv (.const v122)) h fun v2 h => Q .normal [(2, v2)] h := wR (Rn rfl fun v122 h => Rn rfl fun v2 h => rfl)
def ir.law24_CountPlays : C := (.seq ir.law24_CountPlays.r0 (.seq ir.law24_CountPlays.r1 (.seq ir.law24_CountPlays.r2 (.seq (.seq ir.law24_CountPlays.r3 (.block 0 ir.law24_CountPlays.l1)) (.seq ir.law24_CountPlays.r15 (.seq (.seq ir.law24_CountPlays.r16 (.cond (.tmp 91) (.seq ir.law24_CountPlays.r17 .ret) .skip)) (.seq (.seq ir.law24_CountPlays.r18 (.block 2 ir.law24_CountPlays.l2)) (.seq ir.law24_CountPlays.r24 .ret))))))))
theorem ir.law24_CountPlays.bw (e : Env) (h : AHeap) (Q : Post) : wpC Tryd.prog nG ir.law24_CountPlays e h Q = wpC Tryd.prog nG (.seq ir.law24_CountPlays.r0 (.seq ir.law24_CountPlays.r1 (.seq ir.law24_CountPlays.r2 (.seq (.seq ir.law24_CountPlays.r3 (.block 0 ir.law24_CountPlays.l1)) (.seq ir.law24_CountPlays.r15 (.seq (.seq ir.law24_CountPlays.r16 (.cond (.tmp 91) (.seq ir.law24_CountPlays.r17 .ret) .skip)) (.seq (.seq ir.law24_CountPlays.r18 (.block 2 ir.law24_CountPlays.l2)) (.seq ir.law24_CountPlays.r24 .ret)))))))) e h Q := (rfl)
def ir.law24_CountPlays.rs : List RV := [.tmp 2]
theorem ir.law24_CountPlays.ok : resC Tryd.prog nG 123 ir.law24_CountPlays.ks (Tryd.f5.body.getD .skip) = some ir.law24_CountPlays := by kernel_rfl
theorem ir.law24_CountPlays.rok : Tryd.f5.results.toList.mapM (resR Tryd.prog) = some ir.law24_CountPlays.rs := by kernel_rfl
theorem ir.law24_CountPlays.spec {args : List Value} {h : AHeap} {v : Value} {h' : AHeap} (hn : args.length ≤ 123) :
    (wpC Tryd.prog nG ir.law24_CountPlays (args.zipIdx.map fun p => (p.2, p.1)) h (retQ ir.law24_CountPlays.rs h v h')) → Spec Tryd.prog nG fn.law24_CountPlays args h v h' :=
  Spec.intro (fn := Tryd.f5) Tryd.func5 (c := Tryd.f5.body.getD .skip) (by kernel_rfl) ir.law24_CountPlays.ok ir.law24_CountPlays.rok hn
attribute [go_sem ↓] ir.law24_CountPlays.r0.w ir.law24_CountPlays.r1.w ir.law24_CountPlays.r2.w ir.law24_CountPlays.r3.w ir.law24_CountPlays.r4.w ir.law24_CountPlays.r5.w ir.law24_CountPlays.r6.w ir.law24_CountPlays.r7.w ir.law24_CountPlays.r8.w ir.law24_CountPlays.r9.w ir.law24_CountPlays.r10.w ir.law24_CountPlays.r11.w ir.law24_CountPlays.r12.w ir.law24_CountPlays.r13.w ir.law24_CountPlays.r14.w ir.law24_CountPlays.l1.w ir.law24_CountPlays.r15.w ir.law24_CountPlays.r16.w ir.law24_CountPlays.r17.w ir.law24_CountPlays.r18.w ir.law24_CountPlays.r19.w ir.law24_CountPlays.r20.w ir.law24_CountPlays.r21.w ir.law24_CountPlays.r22.w ir.law24_CountPlays.r23.w ir.law24_CountPlays.l2.w ir.law24_CountPlays.r24.w
attribute [go_sem] ir.law24_CountPlays.rs

/-! ### fingerpost/fingerpostlaw24.CountNames: function 6 -/
def ir.law24_CountNames.ks : Nat → List Nat := fun
  | 0 => [0, 1, 2]
  | 1 => [6]
  | _ => []
def ir.law24_CountNames.r0 : C := .region [0, 1, 2] [⟨some 6, .mv (.const (.bool false)), none⟩]
theorem ir.law24_CountNames.r0.w (e : Env) (h : AHeap) (Q : Post) : wpC Tryd.prog nG ir.law24_CountNames.r0 e h Q = lk (look e 0) (fun v0 => lk (look e 1) (fun v1 => lk (look e 2) (fun v2 => wI Tryd.prog nG (.mv (.const (.bool false))) h fun v6 h => Q .normal [(0, v0), (1, v1), (2, v2)] h) ()) ()) () := lkm (lkm (lkm (wR (Rn rfl fun v6 h => rfl))))
def ir.law24_CountNames.r1 : C := .region [6] [⟨some 7, .call fn.law24_awake [], none⟩, ⟨some 8, .mv (.tmp 7), none⟩, ⟨some 9, .mv (.tmp 0), some (8, true)⟩, ⟨some 10, .call fn.count_Name [.tmp 9], some (8, true)⟩, ⟨some 11, .mv (.tmp 0), some (8, true)⟩, ⟨some 12, .call fn.ref24_Name [.tmp 11], some (8, true)⟩, ⟨some 13, .bin .eql (.tmp 10) (.tmp 12), some (8, true)⟩, ⟨some 14, .pick (.tmp 8) (.tmp 13) (.const (.bool false)), none⟩, ⟨some 15, .mv (.tmp 14), none⟩, ⟨some 16, .mv (.tmp 1), some (15, true)⟩, ⟨some 17, .call fn.count_Which [.tmp 16], some (15, true)⟩, ⟨some 18, .mv (.tmp 1), some (15, true)⟩, ⟨some 19, .call fn.ref24_Which [.tmp 18], some (15, true)⟩, ⟨some 20, .bin .eql (.tmp 17) (.tmp 19), some (15, true)⟩, ⟨some 21, .pick (.tmp 15) (.tmp 20) (.const (.bool false)), none⟩, ⟨some 22, .mv (.tmp 21), none⟩, ⟨some 23, .mv (.tmp 2), some (22, true)⟩, ⟨some 24, .call fn.count_Of [.tmp 23], some (22, true)⟩, ⟨some 25, .mv (.tmp 2), some (22, true)⟩, ⟨some 26, .call fn.ref24_Of [.tmp 25], some (22, true)⟩, ⟨some 27, .bin .eql (.tmp 24) (.tmp 26), some (22, true)⟩, ⟨some 28, .pick (.tmp 22) (.tmp 27) (.const (.bool false)), none⟩, ⟨some 29, .mv (.tmp 28), none⟩, ⟨some 30, .mv (.tmp 0), some (29, true)⟩, ⟨some 31, .call fn.ref24_Name [.tmp 30], some (29, true)⟩, ⟨some 32, .bin .eql (.tmp 31) (.const (Go.Value.string { data := #[] })), some (29, true)⟩, ⟨some 33, .mv (.tmp 32), some (29, true)⟩, ⟨some 34, .mv (.tmp 0), some (33, false)⟩, ⟨some 35, .call fn.count_Name [.tmp 34], some (33, false)⟩, ⟨some 36, .call fn.count_Which [.tmp 35], some (33, false)⟩, ⟨some 37, .mv (.tmp 0), some (33, false)⟩, ⟨some 38, .bin .eql (.tmp 36) (.tmp 37), some (33, false)⟩, ⟨some 39, .pick (.tmp 33) (.const (.bool true)) (.tmp 38), some (29, true)⟩, ⟨some 40, .pick (.tmp 29) (.tmp 39) (.const (.bool false)), none⟩, ⟨some 6, .mv (.tmp 40), none⟩]
theorem ir.law24_CountNames.r1.w (e : Env) (h : AHeap) (Q : Post) : wpC Tryd.prog nG ir.law24_CountNames.r1 e h Q = lk (look e 0) (fun v0 => lk (look e 1) (fun v1 => lk (look e 2) (fun v2 => wI Tryd.prog nG (.call fn.law24_awake []) h fun v7 h => wI Tryd.prog nG (.mv (.const v7)) h fun v8 h => gdK v8 true (wI Tryd.prog nG (.mv (.const v0)) h) (fun v8 v9 h => gdK v8 true (wI Tryd.prog nG (.call fn.count_Name [.const v9]) h) (fun v8 v10 h => gdK v8 true (wI Tryd.prog nG (.mv (.const v0)) h) (fun v8 v11 h => gdK v8 true (wI Tryd.prog nG (.call fn.ref24_Name [.const v11]) h) (fun v8 v12 h => gdK v8 true (wI Tryd.prog nG (.bin .eql (.const v10) (.const v12)) h) (fun v8 v13 h => wI Tryd.prog nG (.pick (.const v8) (.const v13) (.const (.bool false))) h fun v14 h => wI Tryd.prog nG (.mv (.const v14)) h fun v15 h => gdK v15 true (wI Tryd.prog nG (.mv (.const v1)) h) (fun v15 v16 h => gdK v15 true (wI Tryd.prog nG (.call fn.count_Which [.const v16]) h) (fun v15 v17 h => gdK v15 true (wI Tryd.prog nG (.mv (.const v1)) h) (fun v15 v18 h => gdK v15 true (wI Tryd.prog nG (.call fn.ref24_Which [.const v18]) h) (fun v15 v19 h => gdK v15 true (wI Tryd.prog nG (.bin .eql (.const v17) (.const v19)) h) (fun v15 v20 h => wI Tryd.prog nG (.pick (.const v15) (.const v20) (.const (.bool false))) h fun v21 h => wI Tryd.prog nG (.mv (.const v21)) h fun v22 h => gdK v22 true (wI Tryd.prog nG (.mv (.const v2)) h) (fun v22 v23 h => gdK v22 true (wI Tryd.prog nG (.call fn.count_Of [.const v23]) h) (fun v22 v24 h => gdK v22 true (wI Tryd.prog nG (.mv (.const v2)) h) (fun v22 v25 h => gdK v22 true (wI Tryd.prog nG (.call fn.ref24_Of [.const v25]) h) (fun v22 v26 h => gdK v22 true (wI Tryd.prog nG (.bin .eql (.const v24) (.const v26)) h) (fun v22 v27 h => wI Tryd.prog nG (.pick (.const v22) (.const v27) (.const (.bool false))) h fun v28 h => wI Tryd.prog nG (.mv (.const v28)) h fun v29 h => gdK v29 true (wI Tryd.prog nG (.mv (.const v0)) h) (fun v29 v30 h => gdK v29 true (wI Tryd.prog nG (.call fn.ref24_Name [.const v30]) h) (fun v29 v31 h => gdK v29 true (wI Tryd.prog nG (.bin .eql (.const v31) (.const (Go.Value.string { data := #[] }))) h) (fun v29 v32 h => gdK v29 true (wI Tryd.prog nG (.mv (.const v32)) h) (fun v29 v33 h => gdK v33 false (wI Tryd.prog nG (.mv (.const v0)) h) (fun v33 v34 h => gdK v33 false (wI Tryd.prog nG (.call fn.count_Name [.const v34]) h) (fun v33 v35 h => gdK v33 false (wI Tryd.prog nG (.call fn.count_Which [.const v35]) h) (fun v33 v36 h => gdK v33 false (wI Tryd.prog nG (.mv (.const v0)) h) (fun v33 v37 h => gdK v33 false (wI Tryd.prog nG (.bin .eql (.const v36) (.const v37)) h) (fun v33 v38 h => gdK v29 true (wI Tryd.prog nG (.pick (.const v33) (.const (.bool true)) (.const v38)) h) (fun v29 v39 h => wI Tryd.prog nG (.pick (.const v29) (.const v39) (.const (.bool false))) h fun v40 h => wI Tryd.prog nG (.mv (.const v40)) h fun v6 h => Q .normal [(6, v6)] h) h () ()) h () ()) h () ()) h () ()) h () ()) h () ()) h () ()) h () ()) h () ()) h () ()) h () ()) h () ()) h () ()) h () ()) h () ()) h () ()) h () ()) h () ()) h () ()) h () ()) h () ()) h () ()) h () ()) h () ()) h () ()) ()) ()) () := lkm (lkm (lkm (wR (Rn rfl fun v7 h => Rn rfl fun v8 h => Rg rfl rfl fun v8 v9 h => Rg rfl rfl fun v8 v10 h => Rg rfl rfl fun v8 v11 h => Rg rfl rfl fun v8 v12 h => Rg rfl rfl fun v8 v13 h => Rn rfl fun v14 h => Rn rfl fun v15 h => Rg rfl rfl fun v15 v16 h => Rg rfl rfl fun v15 v17 h => Rg rfl rfl fun v15 v18 h => Rg rfl rfl fun v15 v19 h => Rg rfl rfl fun v15 v20 h => Rn rfl fun v21 h => Rn rfl fun v22 h => Rg rfl rfl fun v22 v23 h => Rg rfl rfl fun v22 v24 h => Rg rfl rfl fun v22 v25 h => Rg rfl rfl fun v22 v26 h => Rg rfl rfl fun v22 v27 h => Rn rfl fun v28 h => Rn rfl fun v29 h => Rg rfl rfl fun v29 v30 h => Rg rfl rfl fun v29 v31 h => Rg rfl rfl fun v29 v32 h => Rg rfl rfl fun v29 v33 h => Rg rfl rfl fun v33 v34 h => Rg rfl rfl fun v33 v35 h => Rg rfl rfl fun v33 v36 h => Rg rfl rfl fun v33 v37 h => Rg rfl rfl fun v33 v38 h => Rg rfl rfl fun v29 v39 h => Rn rfl fun v40 h => Rn rfl fun v6 h => rfl))))
def ir.law24_CountNames : C := (.seq ir.law24_CountNames.r0 (.seq ir.law24_CountNames.r1 .ret))
theorem ir.law24_CountNames.bw (e : Env) (h : AHeap) (Q : Post) : wpC Tryd.prog nG ir.law24_CountNames e h Q = wpC Tryd.prog nG (.seq ir.law24_CountNames.r0 (.seq ir.law24_CountNames.r1 .ret)) e h Q := (rfl)
def ir.law24_CountNames.rs : List RV := [.tmp 6]
theorem ir.law24_CountNames.ok : resC Tryd.prog nG 41 ir.law24_CountNames.ks (Tryd.f6.body.getD .skip) = some ir.law24_CountNames := by kernel_rfl
theorem ir.law24_CountNames.rok : Tryd.f6.results.toList.mapM (resR Tryd.prog) = some ir.law24_CountNames.rs := by kernel_rfl
theorem ir.law24_CountNames.spec {args : List Value} {h : AHeap} {v : Value} {h' : AHeap} (hn : args.length ≤ 41) :
    (wpC Tryd.prog nG ir.law24_CountNames (args.zipIdx.map fun p => (p.2, p.1)) h (retQ ir.law24_CountNames.rs h v h')) → Spec Tryd.prog nG fn.law24_CountNames args h v h' :=
  Spec.intro (fn := Tryd.f6) Tryd.func6 (c := Tryd.f6.body.getD .skip) (by kernel_rfl) ir.law24_CountNames.ok ir.law24_CountNames.rok hn
attribute [go_sem ↓] ir.law24_CountNames.r0.w ir.law24_CountNames.r1.w
attribute [go_sem] ir.law24_CountNames.rs

/-! ### fingerpost/count.New: function 18 -/
def ir.count_New.ks : Nat → List Nat := fun
  | 0 => []
  | 1 => [0]
  | _ => []
def ir.count_New.r0 : C := .region [] [⟨some 0, .mv (.const (.pointer none)), none⟩]
theorem ir.count_New.r0.w (e : Env) (h : AHeap) (Q : Post) : wpC Tryd.prog nG ir.count_New.r0 e h Q = wI Tryd.prog nG (.mv (.const (.pointer none))) h fun v0 h => Q .normal [] h := wR (Rn rfl fun v0 h => rfl)
def ir.count_New.r1 : C := .region [0] [⟨some 1, .build [.int .i64 0, .int .i64 0, .int .i64 0, .int .i64 0, .int .i64 0, .int .i64 0, .int .i64 0, .int .i64 0, .int .i64 0, .int .i64 0, .int .i64 0, .int .i64 0, .int .i64 0, .int .i64 0, .int .i64 0, .int .i64 0, .int .i64 0, .int .i64 0, .int .i64 0] [], none⟩, ⟨some 2, .box (.tmp 1), none⟩, ⟨some 0, .mv (.tmp 2), none⟩]
theorem ir.count_New.r1.w (e : Env) (h : AHeap) (Q : Post) : wpC Tryd.prog nG ir.count_New.r1 e h Q = wI Tryd.prog nG (.build [.int .i64 0, .int .i64 0, .int .i64 0, .int .i64 0, .int .i64 0, .int .i64 0, .int .i64 0, .int .i64 0, .int .i64 0, .int .i64 0, .int .i64 0, .int .i64 0, .int .i64 0, .int .i64 0, .int .i64 0, .int .i64 0, .int .i64 0, .int .i64 0, .int .i64 0] []) h fun v1 h => wI Tryd.prog nG (.box (.const v1)) h fun v2 h => wI Tryd.prog nG (.mv (.const v2)) h fun v0 h => Q .normal [(0, v0)] h := wR (Rn rfl fun v1 h => Rn rfl fun v2 h => Rn rfl fun v0 h => rfl)
def ir.count_New : C := (.seq ir.count_New.r0 (.seq ir.count_New.r1 .ret))
theorem ir.count_New.bw (e : Env) (h : AHeap) (Q : Post) : wpC Tryd.prog nG ir.count_New e h Q = wpC Tryd.prog nG (.seq ir.count_New.r0 (.seq ir.count_New.r1 .ret)) e h Q := (rfl)
def ir.count_New.rs : List RV := [.tmp 0]
theorem ir.count_New.ok : resC Tryd.prog nG 3 ir.count_New.ks (Tryd.f18.body.getD .skip) = some ir.count_New := by kernel_rfl
theorem ir.count_New.rok : Tryd.f18.results.toList.mapM (resR Tryd.prog) = some ir.count_New.rs := by kernel_rfl
theorem ir.count_New.spec {args : List Value} {h : AHeap} {v : Value} {h' : AHeap} (hn : args.length ≤ 3) :
    (wpC Tryd.prog nG ir.count_New (args.zipIdx.map fun p => (p.2, p.1)) h (retQ ir.count_New.rs h v h')) → Spec Tryd.prog nG fn.count_New args h v h' :=
  Spec.intro (fn := Tryd.f18) Tryd.func18 (c := Tryd.f18.body.getD .skip) (by kernel_rfl) ir.count_New.ok ir.count_New.rok hn
attribute [go_sem ↓] ir.count_New.r0.w ir.count_New.r1.w
attribute [go_sem] ir.count_New.rs

/-! ### (*fingerpost/count.Counters).Add: function 19 -/
def ir.count_Counters_Add.ks : Nat → List Nat := fun
  | 0 => [0, 1, 2]
  | 1 => [0, 1, 2, 7]
  | 2 => [6]
  | 3 => [0, 1, 2, 10]
  | 4 => [6]
  | 5 => []
  | 6 => [6]
  | _ => []
def ir.count_Counters_Add.r0 : C := .region [0, 1, 2] [⟨some 6, .mv (.const (.int .i64 0)), none⟩]
theorem ir.count_Counters_Add.r0.w (e : Env) (h : AHeap) (Q : Post) : wpC Tryd.prog nG ir.count_Counters_Add.r0 e h Q = lk (look e 0) (fun v0 => lk (look e 1) (fun v1 => lk (look e 2) (fun v2 => wI Tryd.prog nG (.mv (.const (.int .i64 0))) h fun v6 h => Q .normal [(0, v0), (1, v1), (2, v2)] h) ()) ()) () := lkm (lkm (lkm (wR (Rn rfl fun v6 h => rfl))))
def ir.count_Counters_Add.r1 : C := .region [0, 1, 2, 7] [⟨some 8, .mv (.tmp 0), none⟩, ⟨some 9, .eqn 0 false (.tmp 8), none⟩, ⟨some 7, .mv (.tmp 9), none⟩]
theorem ir.count_Counters_Add.r1.w (e : Env) (h : AHeap) (Q : Post) : wpC Tryd.prog nG ir.count_Counters_Add.r1 e h Q = lk (look e 0) (fun v0 => lk (look e 1) (fun v1 => lk (look e 2) (fun v2 => wI Tryd.prog nG (.mv (.const v0)) h fun v8 h => wI Tryd.prog nG (.eqn 0 false (.const v8)) h fun v9 h => wI Tryd.prog nG (.mv (.const v9)) h fun v7 h => Q .normal [(0, v0), (1, v1), (2, v2), (7, v7)] h) ()) ()) () := lkm (lkm (lkm (wR (Rn rfl fun v8 h => Rn rfl fun v9 h => Rn rfl fun v7 h => rfl))))
def ir.count_Counters_Add.r2 : C := .region [6] [⟨some 6, .mv (.const (.int .i64 2)), none⟩]
theorem ir.count_Counters_Add.r2.w (e : Env) (h : AHeap) (Q : Post) : wpC Tryd.prog nG ir.count_Counters_Add.r2 e h Q = wI Tryd.prog nG (.mv (.const (.int .i64 2))) h fun v6 h => Q .normal [(6, v6)] h := wR (Rn rfl fun v6 h => rfl)
def ir.count_Counters_Add.r3 : C := .region [0, 1, 2, 10] [⟨some 11, .mv (.tmp 1), none⟩, ⟨some 12, .bin .lss (.tmp 11) (.const (.int .i64 0)), none⟩, ⟨some 13, .mv (.tmp 12), none⟩, ⟨some 14, .mv (.tmp 1), some (13, false)⟩, ⟨some 15, .bin .geq (.tmp 14) (.const (.int .i64 19)), some (13, false)⟩, ⟨some 16, .pick (.tmp 13) (.const (.bool true)) (.tmp 15), none⟩, ⟨some 17, .mv (.tmp 16), none⟩, ⟨some 18, .mv (.tmp 2), some (17, false)⟩, ⟨some 19, .bin .lss (.tmp 18) (.const (.int .i64 0)), some (17, false)⟩, ⟨some 20, .pick (.tmp 17) (.const (.bool true)) (.tmp 19), none⟩, ⟨some 10, .mv (.tmp 20), none⟩]
theorem ir.count_Counters_Add.r3.w (e : Env) (h : AHeap) (Q : Post) : wpC Tryd.prog nG ir.count_Counters_Add.r3 e h Q = lk (look e 0) (fun v0 => lk (look e 1) (fun v1 => lk (look e 2) (fun v2 => wI Tryd.prog nG (.mv (.const v1)) h fun v11 h => wI Tryd.prog nG (.bin .lss (.const v11) (.const (.int .i64 0))) h fun v12 h => wI Tryd.prog nG (.mv (.const v12)) h fun v13 h => gdK v13 false (wI Tryd.prog nG (.mv (.const v1)) h) (fun v13 v14 h => gdK v13 false (wI Tryd.prog nG (.bin .geq (.const v14) (.const (.int .i64 19))) h) (fun v13 v15 h => wI Tryd.prog nG (.pick (.const v13) (.const (.bool true)) (.const v15)) h fun v16 h => wI Tryd.prog nG (.mv (.const v16)) h fun v17 h => gdK v17 false (wI Tryd.prog nG (.mv (.const v2)) h) (fun v17 v18 h => gdK v17 false (wI Tryd.prog nG (.bin .lss (.const v18) (.const (.int .i64 0))) h) (fun v17 v19 h => wI Tryd.prog nG (.pick (.const v17) (.const (.bool true)) (.const v19)) h fun v20 h => wI Tryd.prog nG (.mv (.const v20)) h fun v10 h => Q .normal [(0, v0), (1, v1), (2, v2), (10, v10)] h) h () ()) h () ()) h () ()) h () ()) ()) ()) () := lkm (lkm (lkm (wR (Rn rfl fun v11 h => Rn rfl fun v12 h => Rn rfl fun v13 h => Rg rfl rfl fun v13 v14 h => Rg rfl rfl fun v13 v15 h => Rn rfl fun v16 h => Rn rfl fun v17 h => Rg rfl rfl fun v17 v18 h => Rg rfl rfl fun v17 v19 h => Rn rfl fun v20 h => Rn rfl fun v10 h => rfl))))
def ir.count_Counters_Add.r4 : C := .region [6] [⟨some 6, .mv (.const (.int .i64 1)), none⟩]
theorem ir.count_Counters_Add.r4.w (e : Env) (h : AHeap) (Q : Post) : wpC Tryd.prog nG ir.count_Counters_Add.r4 e h Q = wI Tryd.prog nG (.mv (.const (.int .i64 1))) h fun v6 h => Q .normal [(6, v6)] h := wR (Rn rfl fun v6 h => rfl)
def ir.count_Counters_Add.r5 : C := .region [] [⟨some 21, .mv (.tmp 0), none⟩, ⟨some 22, .mv (.tmp 1), none⟩, ⟨some 23, .nilck (.tmp 21), none⟩, ⟨some 24, .fld 0 (.tmp 23), none⟩, ⟨some 25, .ixa 19 1 (.tmp 24) (.tmp 22), none⟩, ⟨some 26, .mv (.tmp 2), none⟩, ⟨some 27, .call fn.sync_atomic_Int64_Add [.tmp 25, .tmp 26], none⟩]
theorem ir.count_Counters_Add.r5.w (e : Env) (h : AHeap) (Q : Post) : wpC Tryd.prog nG ir.count_Counters_Add.r5 e h Q = lk (look e 0) (fun v0 => lk (look e 1) (fun v1 => lk (look e 2) (fun v2 => wI Tryd.prog nG (.mv (.const v0)) h fun v21 h => wI Tryd.prog nG (.mv (.const v1)) h fun v22 h => wI Tryd.prog nG (.nilck (.const v21)) h fun v23 h => wI Tryd.prog nG (.fld 0 (.const v23)) h fun v24 h => wI Tryd.prog nG (.ixa 19 1 (.const v24) (.const v22)) h fun v25 h => wI Tryd.prog nG (.mv (.const v2)) h fun v26 h => wI Tryd.prog nG (.call fn.sync_atomic_Int64_Add [.const v25, .const v26]) h fun v27 h => Q .normal [] h) ()) ()) () := lkm (lkm (lkm (wR (Rn rfl fun v21 h => Rn rfl fun v22 h => Rn rfl fun v23 h => Rn rfl fun v24 h => Rn rfl fun v25 h => Rn rfl fun v26 h => Rn rfl fun v27 h => rfl))))
def ir.count_Counters_Add.r6 : C := .region [6] [⟨some 6, .mv (.const (.int .i64 0)), none⟩]
theorem ir.count_Counters_Add.r6.w (e : Env) (h : AHeap) (Q : Post) : wpC Tryd.prog nG ir.count_Counters_Add.r6 e h Q = wI Tryd.prog nG (.mv (.const (.int .i64 0))) h fun v6 h => Q .normal [(6, v6)] h := wR (Rn rfl fun v6 h => rfl)
def ir.count_Counters_Add : C := (.seq ir.count_Counters_Add.r0 (.seq (.block 0 (.seq ir.count_Counters_Add.r1 (.cond (.tmp 7) (.seq ir.count_Counters_Add.r2 .ret) (.seq ir.count_Counters_Add.r3 (.cond (.tmp 10) (.seq ir.count_Counters_Add.r4 .ret) .skip))))) (.seq ir.count_Counters_Add.r5 (.seq ir.count_Counters_Add.r6 .ret))))
theorem ir.count_Counters_Add.bw (e : Env) (h : AHeap) (Q : Post) : wpC Tryd.prog nG ir.count_Counters_Add e h Q = wpC Tryd.prog nG (.seq ir.count_Counters_Add.r0 (.seq (.block 0 (.seq ir.count_Counters_Add.r1 (.cond (.tmp 7) (.seq ir.count_Counters_Add.r2 .ret) (.seq ir.count_Counters_Add.r3 (.cond (.tmp 10) (.seq ir.count_Counters_Add.r4 .ret) .skip))))) (.seq ir.count_Counters_Add.r5 (.seq ir.count_Counters_Add.r6 .ret)))) e h Q := (rfl)
def ir.count_Counters_Add.rs : List RV := [.tmp 6]
theorem ir.count_Counters_Add.ok : resC Tryd.prog nG 28 ir.count_Counters_Add.ks (Tryd.f19.body.getD .skip) = some ir.count_Counters_Add := by kernel_rfl
theorem ir.count_Counters_Add.rok : Tryd.f19.results.toList.mapM (resR Tryd.prog) = some ir.count_Counters_Add.rs := by kernel_rfl
theorem ir.count_Counters_Add.spec {args : List Value} {h : AHeap} {v : Value} {h' : AHeap} (hn : args.length ≤ 28) :
    (wpC Tryd.prog nG ir.count_Counters_Add (args.zipIdx.map fun p => (p.2, p.1)) h (retQ ir.count_Counters_Add.rs h v h')) → Spec Tryd.prog nG fn.count_Counters_Add args h v h' :=
  Spec.intro (fn := Tryd.f19) Tryd.func19 (c := Tryd.f19.body.getD .skip) (by kernel_rfl) ir.count_Counters_Add.ok ir.count_Counters_Add.rok hn
attribute [go_sem ↓] ir.count_Counters_Add.r0.w ir.count_Counters_Add.r1.w ir.count_Counters_Add.r2.w ir.count_Counters_Add.r3.w ir.count_Counters_Add.r4.w ir.count_Counters_Add.r5.w ir.count_Counters_Add.r6.w
attribute [go_sem] ir.count_Counters_Add.rs

/-! ### (*fingerpost/count.Counters).Get: function 20 -/
def ir.count_Counters_Get.ks : Nat → List Nat := fun
  | 0 => [0, 1]
  | 1 => [0, 1, 14]
  | 2 => [4]
  | 3 => [4]
  | _ => []
def ir.count_Counters_Get.r0 : C := .region [0, 1] [⟨some 4, .mv (.const (.int .i64 0)), none⟩]
theorem ir.count_Counters_Get.r0.w (e : Env) (h : AHeap) (Q : Post) : wpC Tryd.prog nG ir.count_Counters_Get.r0 e h Q = lk (look e 0) (fun v0 => lk (look e 1) (fun v1 => wI Tryd.prog nG (.mv (.const (.int .i64 0))) h fun v4 h => Q .normal [(0, v0), (1, v1)] h) ()) () := lkm (lkm (wR (Rn rfl fun v4 h => rfl)))
def ir.count_Counters_Get.r1 : C := .region [0, 1, 14] [⟨some 5, .mv (.tmp 0), none⟩, ⟨some 6, .eqn 0 false (.tmp 5), none⟩, ⟨some 7, .mv (.tmp 6), none⟩, ⟨some 8, .mv (.tmp 1), some (7, false)⟩, ⟨some 9, .bin .lss (.tmp 8) (.const (.int .i64 0)), some (7, false)⟩, ⟨some 10, .pick (.tmp 7) (.const (.bool true)) (.tmp 9), none⟩, ⟨some 11, .mv (.tmp 10), none⟩, ⟨some 12, .mv (.tmp 1), some (11, false)⟩, ⟨some 13, .bin .geq (.tmp 12) (.const (.int .i64 19)), some (11, false)⟩, ⟨some 14, .pick (.tmp 11) (.const (.bool true)) (.tmp 13), none⟩]
theorem ir.count_Counters_Get.r1.w (e : Env) (h : AHeap) (Q : Post) : wpC Tryd.prog nG ir.count_Counters_Get.r1 e h Q = lk (look e 0) (fun v0 => lk (look e 1) (fun v1 => wI Tryd.prog nG (.mv (.const v0)) h fun v5 h => wI Tryd.prog nG (.eqn 0 false (.const v5)) h fun v6 h => wI Tryd.prog nG (.mv (.const v6)) h fun v7 h => gdK v7 false (wI Tryd.prog nG (.mv (.const v1)) h) (fun v7 v8 h => gdK v7 false (wI Tryd.prog nG (.bin .lss (.const v8) (.const (.int .i64 0))) h) (fun v7 v9 h => wI Tryd.prog nG (.pick (.const v7) (.const (.bool true)) (.const v9)) h fun v10 h => wI Tryd.prog nG (.mv (.const v10)) h fun v11 h => gdK v11 false (wI Tryd.prog nG (.mv (.const v1)) h) (fun v11 v12 h => gdK v11 false (wI Tryd.prog nG (.bin .geq (.const v12) (.const (.int .i64 19))) h) (fun v11 v13 h => wI Tryd.prog nG (.pick (.const v11) (.const (.bool true)) (.const v13)) h fun v14 h => Q .normal [(0, v0), (1, v1), (14, v14)] h) h () ()) h () ()) h () ()) h () ()) ()) () := lkm (lkm (wR (Rn rfl fun v5 h => Rn rfl fun v6 h => Rn rfl fun v7 h => Rg rfl rfl fun v7 v8 h => Rg rfl rfl fun v7 v9 h => Rn rfl fun v10 h => Rn rfl fun v11 h => Rg rfl rfl fun v11 v12 h => Rg rfl rfl fun v11 v13 h => Rn rfl fun v14 h => rfl)))
def ir.count_Counters_Get.r2 : C := .region [4] [⟨some 4, .mv (.const (.int .i64 0)), none⟩]
theorem ir.count_Counters_Get.r2.w (e : Env) (h : AHeap) (Q : Post) : wpC Tryd.prog nG ir.count_Counters_Get.r2 e h Q = wI Tryd.prog nG (.mv (.const (.int .i64 0))) h fun v4 h => Q .normal [(4, v4)] h := wR (Rn rfl fun v4 h => rfl)
def ir.count_Counters_Get.r3 : C := .region [4] [⟨some 15, .mv (.tmp 0), none⟩, ⟨some 16, .mv (.tmp 1), none⟩, ⟨some 17, .nilck (.tmp 15), none⟩, ⟨some 18, .fld 0 (.tmp 17), none⟩, ⟨some 19, .ixa 19 1 (.tmp 18) (.tmp 16), none⟩, ⟨some 20, .call fn.sync_atomic_Int64_Load [.tmp 19], none⟩, ⟨some 4, .mv (.tmp 20), none⟩]
theorem ir.count_Counters_Get.r3.w (e : Env) (h : AHeap) (Q : Post) : wpC Tryd.prog nG ir.count_Counters_Get.r3 e h Q = lk (look e 0) (fun v0 => lk (look e 1) (fun v1 => wI Tryd.prog nG (.mv (.const v0)) h fun v15 h => wI Tryd.prog nG (.mv (.const v1)) h fun v16 h => wI Tryd.prog nG (.nilck (.const v15)) h fun v17 h => wI Tryd.prog nG (.fld 0 (.const v17)) h fun v18 h => wI Tryd.prog nG (.ixa 19 1 (.const v18) (.const v16)) h fun v19 h => wI Tryd.prog nG (.call fn.sync_atomic_Int64_Load [.const v19]) h fun v20 h => wI Tryd.prog nG (.mv (.const v20)) h fun v4 h => Q .normal [(4, v4)] h) ()) () := lkm (lkm (wR (Rn rfl fun v15 h => Rn rfl fun v16 h => Rn rfl fun v17 h => Rn rfl fun v18 h => Rn rfl fun v19 h => Rn rfl fun v20 h => Rn rfl fun v4 h => rfl)))
def ir.count_Counters_Get : C := (.seq ir.count_Counters_Get.r0 (.seq (.seq ir.count_Counters_Get.r1 (.cond (.tmp 14) (.seq ir.count_Counters_Get.r2 .ret) .skip)) (.seq ir.count_Counters_Get.r3 .ret)))
theorem ir.count_Counters_Get.bw (e : Env) (h : AHeap) (Q : Post) : wpC Tryd.prog nG ir.count_Counters_Get e h Q = wpC Tryd.prog nG (.seq ir.count_Counters_Get.r0 (.seq (.seq ir.count_Counters_Get.r1 (.cond (.tmp 14) (.seq ir.count_Counters_Get.r2 .ret) .skip)) (.seq ir.count_Counters_Get.r3 .ret))) e h Q := (rfl)
def ir.count_Counters_Get.rs : List RV := [.tmp 4]
theorem ir.count_Counters_Get.ok : resC Tryd.prog nG 21 ir.count_Counters_Get.ks (Tryd.f20.body.getD .skip) = some ir.count_Counters_Get := by kernel_rfl
theorem ir.count_Counters_Get.rok : Tryd.f20.results.toList.mapM (resR Tryd.prog) = some ir.count_Counters_Get.rs := by kernel_rfl
theorem ir.count_Counters_Get.spec {args : List Value} {h : AHeap} {v : Value} {h' : AHeap} (hn : args.length ≤ 21) :
    (wpC Tryd.prog nG ir.count_Counters_Get (args.zipIdx.map fun p => (p.2, p.1)) h (retQ ir.count_Counters_Get.rs h v h')) → Spec Tryd.prog nG fn.count_Counters_Get args h v h' :=
  Spec.intro (fn := Tryd.f20) Tryd.func20 (c := Tryd.f20.body.getD .skip) (by kernel_rfl) ir.count_Counters_Get.ok ir.count_Counters_Get.rok hn
attribute [go_sem ↓] ir.count_Counters_Get.r0.w ir.count_Counters_Get.r1.w ir.count_Counters_Get.r2.w ir.count_Counters_Get.r3.w
attribute [go_sem] ir.count_Counters_Get.rs

/-! ### (*fingerpost/count.Counters).Text: function 21 -/
def ir.count_Counters_Text.ks : Nat → List Nat := fun
  | 0 => [0]
  | 1 => [0, 3]
  | 2 => [3, 7, 8, 9]
  | 3 => [3, 7, 8, 9, 10]
  | 4 => [3, 4, 5, 7, 8, 9]
  | 5 => [3, 4, 5, 7, 8, 9, 15]
  | 6 => [3, 7, 8, 9]
  | 7 => [3, 7, 8, 9]
  | 8 => [2]
  | _ => []
def ir.count_Counters_Text.r0 : C := .region [0] [⟨some 2, .mv (.const (Go.Value.string { data := #[] })), none⟩]
theorem ir.count_Counters_Text.r0.w (e : Env) (h : AHeap) (Q : Post) : wpC Tryd.prog nG ir.count_Counters_Text.r0 e h Q = lk (look e 0) (fun v0 => wI Tryd.prog nG (.mv (.const (Go.Value.string { data := #[] }))) h fun v2 h => Q .normal [(0, v0)] h) () := lkm (wR (Rn rfl fun v2 h => rfl))
def ir.count_Counters_Text.r1 : C := .region [0, 3] [⟨some 3, .mv (.const (.slice none 0 0)), none⟩]
theorem ir.count_Counters_Text.r1.w (e : Env) (h : AHeap) (Q : Post) : wpC Tryd.prog nG ir.count_Counters_Text.r1 e h Q = lk (look e 0) (fun v0 => wI Tryd.prog nG (.mv (.const (.slice none 0 0))) h fun v3 h => Q .normal [(0, v0), (3, v3)] h) () := lkm (wR (Rn rfl fun v3 h => rfl))
def ir.count_Counters_Text.r2 : C := .region [3, 7, 8, 9] [⟨some 6, .mv (.tmp 0), none⟩, ⟨some 7, .call fn.count_Counters_All [.tmp 6], none⟩, ⟨some 8, .len false (.tmp 7), none⟩, ⟨some 9, .mv (.const (.int .i64 0)), none⟩]
theorem ir.count_Counters_Text.r2.w (e : Env) (h : AHeap) (Q : Post) : wpC Tryd.prog nG ir.count_Counters_Text.r2 e h Q = lk (look e 0) (fun v0 => lk (look e 3) (fun v3 => wI Tryd.prog nG (.mv (.const v0)) h fun v6 h => wI Tryd.prog nG (.call fn.count_Counters_All [.const v6]) h fun v7 h => wI Tryd.prog nG (.len false (.const v7)) h fun v8 h => wI Tryd.prog nG (.mv (.const (.int .i64 0))) h fun v9 h => Q .normal [(3, v3), (7, v7), (8, v8), (9, v9)] h) ()) () := lkm (lkm (wR (Rn rfl fun v6 h => Rn rfl fun v7 h => Rn rfl fun v8 h => Rn rfl fun v9 h => rfl)))
def ir.count_Counters_Text.r3 : C := .region [3, 7, 8, 9, 10] [⟨some 10, .bin .lss (.tmp 9) (.tmp 8), none⟩]
theorem ir.count_Counters_Text.r3.w (e : Env) (h : AHeap) (Q : Post) : wpC Tryd.prog nG ir.count_Counters_Text.r3 e h Q = lk (look e 3) (fun v3 => lk (look e 7) (fun v7 => lk (look e 8) (fun v8 => lk (look e 9) (fun v9 => wI Tryd.prog nG (.bin .lss (.const v9) (.const v8)) h fun v10 h => Q .normal [(3, v3), (7, v7), (8, v8), (9, v9), (10, v10)] h) ()) ()) ()) () := lkm (lkm (lkm (lkm (wR (Rn rfl fun v10 h => rfl)))))
def ir.count_Counters_Text.r4 : C := .region [3, 4, 5, 7, 8, 9] [⟨some 11, .mv (.tmp 9), none⟩, ⟨some 12, .ixs 1 (.tmp 7) (.tmp 9), none⟩, ⟨some 13, .load false 1 (.tmp 12), none⟩, ⟨some 4, .mv (.tmp 11), none⟩, ⟨some 5, .mv (.tmp 13), none⟩]
theorem ir.count_Counters_Text.r4.w (e : Env) (h : AHeap) (Q : Post) : wpC Tryd.prog nG ir.count_Counters_Text.r4 e h Q = lk (look e 3) (fun v3 => lk (look e 7) (fun v7 => lk (look e 8) (fun v8 => lk (look e 9) (fun v9 => wI Tryd.prog nG (.mv (.const v9)) h fun v11 h => wI Tryd.prog nG (.ixs 1 (.const v7) (.const v9)) h fun v12 h => wI Tryd.prog nG (.load false 1 (.const v12)) h fun v13 h => wI Tryd.prog nG (.mv (.const v11)) h fun v4 h => wI Tryd.prog nG (.mv (.const v13)) h fun v5 h => Q .normal [(3, v3), (4, v4), (5, v5), (7, v7), (8, v8), (9, v9)] h) ()) ()) ()) () := lkm (lkm (lkm (lkm (wR (Rn rfl fun v11 h => Rn rfl fun v12 h => Rn rfl fun v13 h => Rn rfl fun v4 h => Rn rfl fun v5 h => rfl)))))
def ir.count_Counters_Text.r5 : C := .region [3, 4, 5, 7, 8, 9, 15] [⟨some 14, .mv (.tmp 5), none⟩, ⟨some 15, .bin .neq (.tmp 14) (.const (.int .i64 0)), none⟩]
theorem ir.count_Counters_Text.r5.w (e : Env) (h : AHeap) (Q : Post) : wpC Tryd.prog nG ir.count_Counters_Text.r5 e h Q = lk (look e 3) (fun v3 => lk (look e 4) (fun v4 => lk (look e 5) (fun v5 => lk (look e 7) (fun v7 => lk (look e 8) (fun v8 => lk (look e 9) (fun v9 => wI Tryd.prog nG (.mv (.const v5)) h fun v14 h => wI Tryd.prog nG (.bin .neq (.const v14) (.const (.int .i64 0))) h fun v15 h => Q .normal [(3, v3), (4, v4), (5, v5), (7, v7), (8, v8), (9, v9), (15, v15)] h) ()) ()) ()) ()) ()) () := lkm (lkm (lkm (lkm (lkm (lkm (wR (Rn rfl fun v14 h => Rn rfl fun v15 h => rfl)))))))
def ir.count_Counters_Text.r6 : C := .draw [3, 7, 8, 9] [⟨some 16, .mv (.tmp 3), none⟩, ⟨some 17, .mv (.tmp 4), none⟩, ⟨some 18, .ixa 19 1 (.global 1) (.tmp 17), none⟩, ⟨some 19, .load false 1 (.tmp 18), none⟩, ⟨some 20, .bin .add (.tmp 19) (.const (Go.Value.string { data := #[61] })), none⟩, ⟨some 21, .mv (.tmp 5), none⟩, ⟨some 22, .call fn.strconv_FormatInt [.tmp 21, .const (.int .i64 10)], none⟩, ⟨some 23, .bin .add (.tmp 20) (.tmp 22), none⟩, ⟨some 24, .row 1 1 [.string ByteArray.empty] [(0, 1, .tmp 23)], none⟩, ⟨some 25, .app false 1 16 (.tmp 16) (.tmp 24), none⟩, ⟨some 3, .mv (.tmp 25), none⟩]
theorem ir.count_Counters_Text.r6.w (e : Env) (h : AHeap) (Q : Post) : wpC Tryd.prog nG ir.count_Counters_Text.r6 e h Q = lk (look e 3) (fun v3 => lk (look e 4) (fun v4 => lk (look e 5) (fun v5 => lk (look e 7) (fun v7 => lk (look e 8) (fun v8 => lk (look e 9) (fun v9 => wI Tryd.prog nG (.mv (.const v3)) h fun v16 h => wI Tryd.prog nG (.mv (.const v4)) h fun v17 h => wI Tryd.prog nG (.ixa 19 1 (.const (.pointer (some ⟨1, 0, none⟩))) (.const v17)) h fun v18 h => wI Tryd.prog nG (.load false 1 (.const v18)) h fun v19 h => wI Tryd.prog nG (.bin .add (.const v19) (.const (Go.Value.string { data := #[61] }))) h fun v20 h => wI Tryd.prog nG (.mv (.const v5)) h fun v21 h => wD Tryd.prog nG (.call fn.strconv_FormatInt [.const v21, .const (.int .i64 10)]) h fun v22 h => wI Tryd.prog nG (.bin .add (.const v20) (.const v22)) h fun v23 h => wI Tryd.prog nG (.row 1 1 [.string ByteArray.empty] [(0, 1, .const v23)]) h fun v24 h => wI Tryd.prog nG (.app false 1 16 (.const v16) (.const v24)) h fun v25 h => wI Tryd.prog nG (.mv (.const v25)) h fun v3 h => Q .normal [(3, v3), (7, v7), (8, v8), (9, v9)] h) ()) ()) ()) ()) ()) () := lkm (lkm (lkm (lkm (lkm (lkm (wDr (Dn rfl rfl fun v16 h => Dn rfl rfl fun v17 h => Dn rfl rfl fun v18 h => Dn rfl rfl fun v19 h => Dn rfl rfl fun v20 h => Dn rfl rfl fun v21 h => DnC rfl rfl fun v22 h => Dn rfl rfl fun v23 h => Dn rfl rfl fun v24 h => Dn rfl rfl fun v25 h => Dn rfl rfl fun v3 h => rfl)))))))
def ir.count_Counters_Text.r7 : C := .region [3, 7, 8, 9] [⟨some 26, .bin .add (.tmp 9) (.const (.int .i64 1)), none⟩, ⟨some 9, .mv (.tmp 26), none⟩]
theorem ir.count_Counters_Text.r7.w (e : Env) (h : AHeap) (Q : Post) : wpC Tryd.prog nG ir.count_Counters_Text.r7 e h Q = lk (look e 3) (fun v3 => lk (look e 7) (fun v7 => lk (look e 8) (fun v8 => lk (look e 9) (fun v9 => wI Tryd.prog nG (.bin .add (.const v9) (.const (.int .i64 1))) h fun v26 h => wI Tryd.prog nG (.mv (.const v26)) h fun v9 h => Q .normal [(3, v3), (7, v7), (8, v8), (9, v9)] h) ()) ()) ()) () := lkm (lkm (lkm (lkm (wR (Rn rfl fun v26 h => Rn rfl fun v9 h => rfl)))))
def ir.count_Counters_Text.l1.b : C := (.seq ir.count_Counters_Text.r3 (.seq (.cond (.tmp 10) .skip (.exit 0)) (.seq (.block 1 (.seq ir.count_Counters_Text.r4 (.seq ir.count_Counters_Text.r5 (.cond (.tmp 15) ir.count_Counters_Text.r6 .skip)))) ir.count_Counters_Text.r7)))
theorem ir.count_Counters_Text.l1.bw (e : Env) (h : AHeap) (Q : Post) : wpC Tryd.prog nG ir.count_Counters_Text.l1.b e h Q = wpC Tryd.prog nG (.seq ir.count_Counters_Text.r3 (.seq (.cond (.tmp 10) .skip (.exit 0)) (.seq (.block 1 (.seq ir.count_Counters_Text.r4 (.seq ir.count_Counters_Text.r5 (.cond (.tmp 15) ir.count_Counters_Text.r6 .skip)))) ir.count_Counters_Text.r7))) e h Q := (rfl)
def ir.count_Counters_Text.l1 : C := .loop ir.count_Counters_Text.l1.b
theorem ir.count_Counters_Text.l1.w (e : Env) (h : AHeap) (Q : Post) : wpC Tryd.prog nG ir.count_Counters_Text.l1 e h Q = loopV Tryd.prog nG ir.count_Counters_Text.l1.b e h Q () := (rfl)
def ir.count_Counters_Text.r8 : C := .region [2] [⟨some 27, .mv (.tmp 3), none⟩, ⟨some 28, .call fn.strings_Join [.tmp 27, .const (Go.Value.string { data := #[32] })], none⟩, ⟨some 2, .mv (.tmp 28), none⟩]
theorem ir.count_Counters_Text.r8.w (e : Env) (h : AHeap) (Q : Post) : wpC Tryd.prog nG ir.count_Counters_Text.r8 e h Q = lk (look e 3) (fun v3 => wI Tryd.prog nG (.mv (.const v3)) h fun v27 h => wI Tryd.prog nG (.call fn.strings_Join [.const v27, .const (Go.Value.string { data := #[32] })]) h fun v28 h => wI Tryd.prog nG (.mv (.const v28)) h fun v2 h => Q .normal [(2, v2)] h) () := lkm (wR (Rn rfl fun v27 h => Rn rfl fun v28 h => Rn rfl fun v2 h => rfl))
def ir.count_Counters_Text : C := (.seq ir.count_Counters_Text.r0 (.seq ir.count_Counters_Text.r1 (.seq (.seq ir.count_Counters_Text.r2 (.block 0 ir.count_Counters_Text.l1)) (.seq ir.count_Counters_Text.r8 .ret))))
theorem ir.count_Counters_Text.bw (e : Env) (h : AHeap) (Q : Post) : wpC Tryd.prog nG ir.count_Counters_Text e h Q = wpC Tryd.prog nG (.seq ir.count_Counters_Text.r0 (.seq ir.count_Counters_Text.r1 (.seq (.seq ir.count_Counters_Text.r2 (.block 0 ir.count_Counters_Text.l1)) (.seq ir.count_Counters_Text.r8 .ret)))) e h Q := (rfl)
def ir.count_Counters_Text.rs : List RV := [.tmp 2]
theorem ir.count_Counters_Text.ok : resC Tryd.prog nG 29 ir.count_Counters_Text.ks (Tryd.f21.body.getD .skip) = some ir.count_Counters_Text := by kernel_rfl
theorem ir.count_Counters_Text.rok : Tryd.f21.results.toList.mapM (resR Tryd.prog) = some ir.count_Counters_Text.rs := by kernel_rfl
theorem ir.count_Counters_Text.spec {args : List Value} {h : AHeap} {v : Value} {h' : AHeap} (hn : args.length ≤ 29) :
    (wpC Tryd.prog nG ir.count_Counters_Text (args.zipIdx.map fun p => (p.2, p.1)) h (retQ ir.count_Counters_Text.rs h v h')) → Spec Tryd.prog nG fn.count_Counters_Text args h v h' :=
  Spec.intro (fn := Tryd.f21) Tryd.func21 (c := Tryd.f21.body.getD .skip) (by kernel_rfl) ir.count_Counters_Text.ok ir.count_Counters_Text.rok hn
attribute [go_sem ↓] ir.count_Counters_Text.r0.w ir.count_Counters_Text.r1.w ir.count_Counters_Text.r2.w ir.count_Counters_Text.r3.w ir.count_Counters_Text.r4.w ir.count_Counters_Text.r5.w ir.count_Counters_Text.r6.w ir.count_Counters_Text.r7.w ir.count_Counters_Text.l1.w ir.count_Counters_Text.r8.w
attribute [go_sem] ir.count_Counters_Text.rs

/-! ### fingerpost/fingerpostref24.Text: function 22 -/
def ir.ref24_Text.ks : Nat → List Nat := fun
  | 0 => [1]
  | 1 => [1, 3]
  | 2 => [1, 3, 4]
  | 3 => [1, 3, 4, 6]
  | 4 => [1, 3, 4]
  | 5 => [1, 3, 4, 12]
  | 6 => [1, 3, 4, 14]
  | 7 => [1, 3, 4]
  | 8 => [1, 3, 4]
  | 9 => [2]
  | _ => []
def ir.ref24_Text.r0 : C := .region [1] [⟨some 1, .box (.tmp 0), none⟩, ⟨some 2, .mv (.const (Go.Value.string { data := #[] })), none⟩]
theorem ir.ref24_Text.r0.w (e : Env) (h : AHeap) (Q : Post) : wpC Tryd.prog nG ir.ref24_Text.r0 e h Q = lk (look e 0) (fun v0 => wI Tryd.prog nG (.box (.const v0)) h fun v1 h => wI Tryd.prog nG (.mv (.const (Go.Value.string { data := #[] }))) h fun v2 h => Q .normal [(1, v1)] h) () := lkm (wR (Rn rfl fun v1 h => Rn rfl fun v2 h => rfl))
def ir.ref24_Text.r1 : C := .region [1, 3] [⟨some 3, .mv (.const (Go.Value.string { data := #[] })), none⟩]
theorem ir.ref24_Text.r1.w (e : Env) (h : AHeap) (Q : Post) : wpC Tryd.prog nG ir.ref24_Text.r1 e h Q = lk (look e 1) (fun v1 => wI Tryd.prog nG (.mv (.const (Go.Value.string { data := #[] }))) h fun v3 h => Q .normal [(1, v1), (3, v3)] h) () := lkm (wR (Rn rfl fun v3 h => rfl))
def ir.ref24_Text.r2 : C := .region [1, 3, 4] [⟨some 4, .mv (.const (.int .i64 0)), none⟩]
theorem ir.ref24_Text.r2.w (e : Env) (h : AHeap) (Q : Post) : wpC Tryd.prog nG ir.ref24_Text.r2 e h Q = lk (look e 1) (fun v1 => lk (look e 3) (fun v3 => wI Tryd.prog nG (.mv (.const (.int .i64 0))) h fun v4 h => Q .normal [(1, v1), (3, v3), (4, v4)] h) ()) () := lkm (lkm (wR (Rn rfl fun v4 h => rfl)))
def ir.ref24_Text.r3 : C := .region [1, 3, 4, 6] [⟨some 5, .mv (.tmp 4), none⟩, ⟨some 6, .bin .lss (.tmp 5) (.const (.int .i64 19)), none⟩]
theorem ir.ref24_Text.r3.w (e : Env) (h : AHeap) (Q : Post) : wpC Tryd.prog nG ir.ref24_Text.r3 e h Q = lk (look e 1) (fun v1 => lk (look e 3) (fun v3 => lk (look e 4) (fun v4 => wI Tryd.prog nG (.mv (.const v4)) h fun v5 h => wI Tryd.prog nG (.bin .lss (.const v5) (.const (.int .i64 19))) h fun v6 h => Q .normal [(1, v1), (3, v3), (4, v4), (6, v6)] h) ()) ()) () := lkm (lkm (lkm (wR (Rn rfl fun v5 h => Rn rfl fun v6 h => rfl))))
def ir.ref24_Text.r5 : C := .region [1, 3, 4, 12] [⟨some 9, .mv (.tmp 4), none⟩, ⟨some 10, .ixa 19 1 (.tmp 1) (.tmp 9), none⟩, ⟨some 11, .load false 1 (.tmp 10), none⟩, ⟨some 12, .bin .eql (.tmp 11) (.const (.int .i64 0)), none⟩]
theorem ir.ref24_Text.r5.w (e : Env) (h : AHeap) (Q : Post) : wpC Tryd.prog nG ir.ref24_Text.r5 e h Q = lk (look e 1) (fun v1 => lk (look e 3) (fun v3 => lk (look e 4) (fun v4 => wI Tryd.prog nG (.mv (.const v4)) h fun v9 h => wI Tryd.prog nG (.ixa 19 1 (.const v1) (.const v9)) h fun v10 h => wI Tryd.prog nG (.load false 1 (.const v10)) h fun v11 h => wI Tryd.prog nG (.bin .eql (.const v11) (.const (.int .i64 0))) h fun v12 h => Q .normal [(1, v1), (3, v3), (4, v4), (12, v12)] h) ()) ()) () := lkm (lkm (lkm (wR (Rn rfl fun v9 h => Rn rfl fun v10 h => Rn rfl fun v11 h => Rn rfl fun v12 h => rfl))))
def ir.ref24_Text.r6 : C := .region [1, 3, 4, 14] [⟨some 13, .mv (.tmp 3), none⟩, ⟨some 14, .bin .neq (.tmp 13) (.const (Go.Value.string { data := #[] })), none⟩]
theorem ir.ref24_Text.r6.w (e : Env) (h : AHeap) (Q : Post) : wpC Tryd.prog nG ir.ref24_Text.r6 e h Q = lk (look e 1) (fun v1 => lk (look e 3) (fun v3 => lk (look e 4) (fun v4 => wI Tryd.prog nG (.mv (.const v3)) h fun v13 h => wI Tryd.prog nG (.bin .neq (.const v13) (.const (Go.Value.string { data := #[] }))) h fun v14 h => Q .normal [(1, v1), (3, v3), (4, v4), (14, v14)] h) ()) ()) () := lkm (lkm (lkm (wR (Rn rfl fun v13 h => Rn rfl fun v14 h => rfl))))
def ir.ref24_Text.r7 : C := .region [1, 3, 4] [⟨some 15, .mv (.tmp 3), none⟩, ⟨some 16, .bin .add (.tmp 15) (.const (Go.Value.string { data := #[32] })), none⟩, ⟨some 3, .mv (.tmp 16), none⟩]
theorem ir.ref24_Text.r7.w (e : Env) (h : AHeap) (Q : Post) : wpC Tryd.prog nG ir.ref24_Text.r7 e h Q = lk (look e 1) (fun v1 => lk (look e 3) (fun v3 => lk (look e 4) (fun v4 => wI Tryd.prog nG (.mv (.const v3)) h fun v15 h => wI Tryd.prog nG (.bin .add (.const v15) (.const (Go.Value.string { data := #[32] }))) h fun v16 h => wI Tryd.prog nG (.mv (.const v16)) h fun v3 h => Q .normal [(1, v1), (3, v3), (4, v4)] h) ()) ()) () := lkm (lkm (lkm (wR (Rn rfl fun v15 h => Rn rfl fun v16 h => Rn rfl fun v3 h => rfl))))
def ir.ref24_Text.r8 : C := .draw [1, 3, 4] [⟨some 17, .mv (.tmp 3), none⟩, ⟨some 18, .mv (.tmp 4), none⟩, ⟨some 19, .call fn.ref24_Name [.tmp 18], none⟩, ⟨some 20, .bin .add (.tmp 17) (.tmp 19), none⟩, ⟨some 21, .bin .add (.tmp 20) (.const (Go.Value.string { data := #[61] })), none⟩, ⟨some 22, .mv (.tmp 4), none⟩, ⟨some 23, .ixa 19 1 (.tmp 1) (.tmp 22), none⟩, ⟨some 24, .load false 1 (.tmp 23), none⟩, ⟨some 25, .call fn.ref01_Whole [.tmp 24], none⟩, ⟨some 26, .bin .add (.tmp 21) (.tmp 25), none⟩, ⟨some 3, .mv (.tmp 26), none⟩]
theorem ir.ref24_Text.r8.w (e : Env) (h : AHeap) (Q : Post) : wpC Tryd.prog nG ir.ref24_Text.r8 e h Q = lk (look e 1) (fun v1 => lk (look e 3) (fun v3 => lk (look e 4) (fun v4 => wI Tryd.prog nG (.mv (.const v3)) h fun v17 h => wI Tryd.prog nG (.mv (.const v4)) h fun v18 h => wD Tryd.prog nG (.call fn.ref24_Name [.const v18]) h fun v19 h => wI Tryd.prog nG (.bin .add (.const v17) (.const v19)) h fun v20 h => wI Tryd.prog nG (.bin .add (.const v20) (.const (Go.Value.string { data := #[61] }))) h fun v21 h => wI Tryd.prog nG (.mv (.const v4)) h fun v22 h => wI Tryd.prog nG (.ixa 19 1 (.const v1) (.const v22)) h fun v23 h => wI Tryd.prog nG (.load false 1 (.const v23)) h fun v24 h => wD Tryd.prog nG (.call fn.ref01_Whole [.const v24]) h fun v25 h => wI Tryd.prog nG (.bin .add (.const v21) (.const v25)) h fun v26 h => wI Tryd.prog nG (.mv (.const v26)) h fun v3 h => Q .normal [(1, v1), (3, v3), (4, v4)] h) ()) ()) () := lkm (lkm (lkm (wDr (Dn rfl rfl fun v17 h => Dn rfl rfl fun v18 h => DnC rfl rfl fun v19 h => Dn rfl rfl fun v20 h => Dn rfl rfl fun v21 h => Dn rfl rfl fun v22 h => Dn rfl rfl fun v23 h => Dn rfl rfl fun v24 h => DnC rfl rfl fun v25 h => Dn rfl rfl fun v26 h => Dn rfl rfl fun v3 h => rfl))))
def ir.ref24_Text.r4 : C := .region [1, 3, 4] [⟨some 7, .mv (.tmp 4), none⟩, ⟨some 8, .bin .add (.tmp 7) (.const (.int .i64 1)), none⟩, ⟨some 4, .mv (.tmp 8), none⟩]
theorem ir.ref24_Text.r4.w (e : Env) (h : AHeap) (Q : Post) : wpC Tryd.prog nG ir.ref24_Text.r4 e h Q = lk (look e 1) (fun v1 => lk (look e 3) (fun v3 => lk (look e 4) (fun v4 => wI Tryd.prog nG (.mv (.const v4)) h fun v7 h => wI Tryd.prog nG (.bin .add (.const v7) (.const (.int .i64 1))) h fun v8 h => wI Tryd.prog nG (.mv (.const v8)) h fun v4 h => Q .normal [(1, v1), (3, v3), (4, v4)] h) ()) ()) () := lkm (lkm (lkm (wR (Rn rfl fun v7 h => Rn rfl fun v8 h => Rn rfl fun v4 h => rfl))))
def ir.ref24_Text.l1.b : C := (.seq (.seq ir.ref24_Text.r3 (.cond (.tmp 6) .skip (.exit 0))) (.seq (.block 1 (.seq (.seq ir.ref24_Text.r5 (.cond (.tmp 12) (.exit 1) .skip)) (.seq (.seq ir.ref24_Text.r6 (.cond (.tmp 14) ir.ref24_Text.r7 .skip)) ir.ref24_Text.r8))) ir.ref24_Text.r4))
theorem ir.ref24_Text.l1.bw (e : Env) (h : AHeap) (Q : Post) : wpC Tryd.prog nG ir.ref24_Text.l1.b e h Q = wpC Tryd.prog nG (.seq (.seq ir.ref24_Text.r3 (.cond (.tmp 6) .skip (.exit 0))) (.seq (.block 1 (.seq (.seq ir.ref24_Text.r5 (.cond (.tmp 12) (.exit 1) .skip)) (.seq (.seq ir.ref24_Text.r6 (.cond (.tmp 14) ir.ref24_Text.r7 .skip)) ir.ref24_Text.r8))) ir.ref24_Text.r4)) e h Q := (rfl)
def ir.ref24_Text.l1 : C := .loop ir.ref24_Text.l1.b
theorem ir.ref24_Text.l1.w (e : Env) (h : AHeap) (Q : Post) : wpC Tryd.prog nG ir.ref24_Text.l1 e h Q = loopV Tryd.prog nG ir.ref24_Text.l1.b e h Q () := (rfl)
def ir.ref24_Text.r9 : C := .region [2] [⟨some 27, .mv (.tmp 3), none⟩, ⟨some 2, .mv (.tmp 27), none⟩]
theorem ir.ref24_Text.r9.w (e : Env) (h : AHeap) (Q : Post) : wpC Tryd.prog nG ir.ref24_Text.r9 e h Q = lk (look e 3) (fun v3 => wI Tryd.prog nG (.mv (.const v3)) h fun v27 h => wI Tryd.prog nG (.mv (.const v27)) h fun v2 h => Q .normal [(2, v2)] h) () := lkm (wR (Rn rfl fun v27 h => Rn rfl fun v2 h => rfl))
def ir.ref24_Text : C := (.seq ir.ref24_Text.r0 (.seq ir.ref24_Text.r1 (.seq (.seq ir.ref24_Text.r2 (.block 0 ir.ref24_Text.l1)) (.seq ir.ref24_Text.r9 .ret))))
theorem ir.ref24_Text.bw (e : Env) (h : AHeap) (Q : Post) : wpC Tryd.prog nG ir.ref24_Text e h Q = wpC Tryd.prog nG (.seq ir.ref24_Text.r0 (.seq ir.ref24_Text.r1 (.seq (.seq ir.ref24_Text.r2 (.block 0 ir.ref24_Text.l1)) (.seq ir.ref24_Text.r9 .ret)))) e h Q := (rfl)
def ir.ref24_Text.rs : List RV := [.tmp 2]
theorem ir.ref24_Text.ok : resC Tryd.prog nG 28 ir.ref24_Text.ks (Tryd.f22.body.getD .skip) = some ir.ref24_Text := by kernel_rfl
theorem ir.ref24_Text.rok : Tryd.f22.results.toList.mapM (resR Tryd.prog) = some ir.ref24_Text.rs := by kernel_rfl
theorem ir.ref24_Text.spec {args : List Value} {h : AHeap} {v : Value} {h' : AHeap} (hn : args.length ≤ 28) :
    (wpC Tryd.prog nG ir.ref24_Text (args.zipIdx.map fun p => (p.2, p.1)) h (retQ ir.ref24_Text.rs h v h')) → Spec Tryd.prog nG fn.ref24_Text args h v h' :=
  Spec.intro (fn := Tryd.f22) Tryd.func22 (c := Tryd.f22.body.getD .skip) (by kernel_rfl) ir.ref24_Text.ok ir.ref24_Text.rok hn
attribute [go_sem ↓] ir.ref24_Text.r0.w ir.ref24_Text.r1.w ir.ref24_Text.r2.w ir.ref24_Text.r3.w ir.ref24_Text.r5.w ir.ref24_Text.r6.w ir.ref24_Text.r7.w ir.ref24_Text.r8.w ir.ref24_Text.r4.w ir.ref24_Text.l1.w ir.ref24_Text.r9.w
attribute [go_sem] ir.ref24_Text.rs

/-! ### (*fingerpost/count.Counters).All: function 23 -/
def ir.count_Counters_All.ks : Nat → List Nat := fun
  | 0 => [0]
  | 1 => [0, 3]
  | 2 => [0, 3, 5]
  | 3 => [0, 3, 5, 6]
  | 4 => [0, 3, 4, 5]
  | 5 => [0, 3, 5]
  | 6 => [0, 3, 5]
  | 7 => [2]
  | _ => []
def ir.count_Counters_All.r0 : C := .region [0] [⟨some 2, .mv (.const (.slice none 0 0)), none⟩]
theorem ir.count_Counters_All.r0.w (e : Env) (h : AHeap) (Q : Post) : wpC Tryd.prog nG ir.count_Counters_All.r0 e h Q = lk (look e 0) (fun v0 => wI Tryd.prog nG (.mv (.const (.slice none 0 0))) h fun v2 h => Q .normal [(0, v0)] h) () := lkm (wR (Rn rfl fun v2 h => rfl))
def ir.count_Counters_All.r1 : C := .region [0, 3] [⟨some 3, .mv (.const (.slice none 0 0)), none⟩]
theorem ir.count_Counters_All.r1.w (e : Env) (h : AHeap) (Q : Post) : wpC Tryd.prog nG ir.count_Counters_All.r1 e h Q = lk (look e 0) (fun v0 => wI Tryd.prog nG (.mv (.const (.slice none 0 0))) h fun v3 h => Q .normal [(0, v0), (3, v3)] h) () := lkm (wR (Rn rfl fun v3 h => rfl))
def ir.count_Counters_All.r2 : C := .region [0, 3, 5] [⟨some 5, .mv (.const (.int .i64 0)), none⟩]
theorem ir.count_Counters_All.r2.w (e : Env) (h : AHeap) (Q : Post) : wpC Tryd.prog nG ir.count_Counters_All.r2 e h Q = lk (look e 0) (fun v0 => lk (look e 3) (fun v3 => wI Tryd.prog nG (.mv (.const (.int .i64 0))) h fun v5 h => Q .normal [(0, v0), (3, v3), (5, v5)] h) ()) () := lkm (lkm (wR (Rn rfl fun v5 h => rfl)))
def ir.count_Counters_All.r3 : C := .region [0, 3, 5, 6] [⟨some 6, .bin .lss (.tmp 5) (.const (.int .i64 19)), none⟩]
theorem ir.count_Counters_All.r3.w (e : Env) (h : AHeap) (Q : Post) : wpC Tryd.prog nG ir.count_Counters_All.r3 e h Q = lk (look e 0) (fun v0 => lk (look e 3) (fun v3 => lk (look e 5) (fun v5 => wI Tryd.prog nG (.bin .lss (.const v5) (.const (.int .i64 19))) h fun v6 h => Q .normal [(0, v0), (3, v3), (5, v5), (6, v6)] h) ()) ()) () := lkm (lkm (lkm (wR (Rn rfl fun v6 h => rfl))))
def ir.count_Counters_All.r4 : C := .region [0, 3, 4, 5] [⟨some 7, .mv (.tmp 5), none⟩, ⟨some 4, .mv (.tmp 7), none⟩]
theorem ir.count_Counters_All.r4.w (e : Env) (h : AHeap) (Q : Post) : wpC Tryd.prog nG ir.count_Counters_All.r4 e h Q = lk (look e 0) (fun v0 => lk (look e 3) (fun v3 => lk (look e 5) (fun v5 => wI Tryd.prog nG (.mv (.const v5)) h fun v7 h => wI Tryd.prog nG (.mv (.const v7)) h fun v4 h => Q .normal [(0, v0), (3, v3), (4, v4), (5, v5)] h) ()) ()) () := lkm (lkm (lkm (wR (Rn rfl fun v7 h => Rn rfl fun v4 h => rfl))))
def ir.count_Counters_All.r5 : C := .region [0, 3, 5] [⟨some 8, .mv (.tmp 3), none⟩, ⟨some 9, .mv (.tmp 0), none⟩, ⟨some 10, .mv (.tmp 4), none⟩, ⟨some 11, .call fn.count_Counters_Get [.tmp 9, .tmp 10], none⟩, ⟨some 12, .row 1 1 [.int .i64 0] [(0, 1, .tmp 11)], none⟩, ⟨some 13, .app false 1 8 (.tmp 8) (.tmp 12), none⟩, ⟨some 3, .mv (.tmp 13), none⟩]
theorem ir.count_Counters_All.r5.w (e : Env) (h : AHeap) (Q : Post) : wpC Tryd.prog nG ir.count_Counters_All.r5 e h Q = lk (look e 0) (fun v0 => lk (look e 3) (fun v3 => lk (look e 4) (fun v4 => lk (look e 5) (fun v5 => wI Tryd.prog nG (.mv (.const v3)) h fun v8 h => wI Tryd.prog nG (.mv (.const v0)) h fun v9 h => wI Tryd.prog nG (.mv (.const v4)) h fun v10 h => wI Tryd.prog nG (.call fn.count_Counters_Get [.const v9, .const v10]) h fun v11 h => wI Tryd.prog nG (.row 1 1 [.int .i64 0] [(0, 1, .const v11)]) h fun v12 h => wI Tryd.prog nG (.app false 1 8 (.const v8) (.const v12)) h fun v13 h => wI Tryd.prog nG (.mv (.const v13)) h fun v3 h => Q .normal [(0, v0), (3, v3), (5, v5)] h) ()) ()) ()) () := lkm (lkm (lkm (lkm (wR (Rn rfl fun v8 h => Rn rfl fun v9 h => Rn rfl fun v10 h => Rn rfl fun v11 h => Rn rfl fun v12 h => Rn rfl fun v13 h => Rn rfl fun v3 h => rfl)))))
def ir.count_Counters_All.r6 : C := .region [0, 3, 5] [⟨some 14, .bin .add (.tmp 5) (.const (.int .i64 1)), none⟩, ⟨some 5, .mv (.tmp 14), none⟩]
theorem ir.count_Counters_All.r6.w (e : Env) (h : AHeap) (Q : Post) : wpC Tryd.prog nG ir.count_Counters_All.r6 e h Q = lk (look e 0) (fun v0 => lk (look e 3) (fun v3 => lk (look e 5) (fun v5 => wI Tryd.prog nG (.bin .add (.const v5) (.const (.int .i64 1))) h fun v14 h => wI Tryd.prog nG (.mv (.const v14)) h fun v5 h => Q .normal [(0, v0), (3, v3), (5, v5)] h) ()) ()) () := lkm (lkm (lkm (wR (Rn rfl fun v14 h => Rn rfl fun v5 h => rfl))))
def ir.count_Counters_All.l1.b : C := (.seq ir.count_Counters_All.r3 (.seq (.cond (.tmp 6) .skip (.exit 0)) (.seq (.block 1 (.seq ir.count_Counters_All.r4 ir.count_Counters_All.r5)) ir.count_Counters_All.r6)))
theorem ir.count_Counters_All.l1.bw (e : Env) (h : AHeap) (Q : Post) : wpC Tryd.prog nG ir.count_Counters_All.l1.b e h Q = wpC Tryd.prog nG (.seq ir.count_Counters_All.r3 (.seq (.cond (.tmp 6) .skip (.exit 0)) (.seq (.block 1 (.seq ir.count_Counters_All.r4 ir.count_Counters_All.r5)) ir.count_Counters_All.r6))) e h Q := (rfl)
def ir.count_Counters_All.l1 : C := .loop ir.count_Counters_All.l1.b
theorem ir.count_Counters_All.l1.w (e : Env) (h : AHeap) (Q : Post) : wpC Tryd.prog nG ir.count_Counters_All.l1 e h Q = loopV Tryd.prog nG ir.count_Counters_All.l1.b e h Q () := (rfl)
def ir.count_Counters_All.r7 : C := .region [2] [⟨some 15, .mv (.tmp 3), none⟩, ⟨some 2, .mv (.tmp 15), none⟩]
theorem ir.count_Counters_All.r7.w (e : Env) (h : AHeap) (Q : Post) : wpC Tryd.prog nG ir.count_Counters_All.r7 e h Q = lk (look e 3) (fun v3 => wI Tryd.prog nG (.mv (.const v3)) h fun v15 h => wI Tryd.prog nG (.mv (.const v15)) h fun v2 h => Q .normal [(2, v2)] h) () := lkm (wR (Rn rfl fun v15 h => Rn rfl fun v2 h => rfl))
def ir.count_Counters_All : C := (.seq ir.count_Counters_All.r0 (.seq ir.count_Counters_All.r1 (.seq (.seq ir.count_Counters_All.r2 (.block 0 ir.count_Counters_All.l1)) (.seq ir.count_Counters_All.r7 .ret))))
theorem ir.count_Counters_All.bw (e : Env) (h : AHeap) (Q : Post) : wpC Tryd.prog nG ir.count_Counters_All e h Q = wpC Tryd.prog nG (.seq ir.count_Counters_All.r0 (.seq ir.count_Counters_All.r1 (.seq (.seq ir.count_Counters_All.r2 (.block 0 ir.count_Counters_All.l1)) (.seq ir.count_Counters_All.r7 .ret)))) e h Q := (rfl)
def ir.count_Counters_All.rs : List RV := [.tmp 2]
theorem ir.count_Counters_All.ok : resC Tryd.prog nG 16 ir.count_Counters_All.ks (Tryd.f23.body.getD .skip) = some ir.count_Counters_All := by kernel_rfl
theorem ir.count_Counters_All.rok : Tryd.f23.results.toList.mapM (resR Tryd.prog) = some ir.count_Counters_All.rs := by kernel_rfl
theorem ir.count_Counters_All.spec {args : List Value} {h : AHeap} {v : Value} {h' : AHeap} (hn : args.length ≤ 16) :
    (wpC Tryd.prog nG ir.count_Counters_All (args.zipIdx.map fun p => (p.2, p.1)) h (retQ ir.count_Counters_All.rs h v h')) → Spec Tryd.prog nG fn.count_Counters_All args h v h' :=
  Spec.intro (fn := Tryd.f23) Tryd.func23 (c := Tryd.f23.body.getD .skip) (by kernel_rfl) ir.count_Counters_All.ok ir.count_Counters_All.rok hn
attribute [go_sem ↓] ir.count_Counters_All.r0.w ir.count_Counters_All.r1.w ir.count_Counters_All.r2.w ir.count_Counters_All.r3.w ir.count_Counters_All.r4.w ir.count_Counters_All.r5.w ir.count_Counters_All.r6.w ir.count_Counters_All.l1.w ir.count_Counters_All.r7.w
attribute [go_sem] ir.count_Counters_All.rs

/-! ### (*fingerpost/count.Counters).Bump: function 24 -/
def ir.count_Counters_Bump.ks : Nat → List Nat := fun
  | 0 => [0, 1]
  | 1 => [4]
  | _ => []
def ir.count_Counters_Bump.r0 : C := .region [0, 1] [⟨some 4, .mv (.const (.int .i64 0)), none⟩]
theorem ir.count_Counters_Bump.r0.w (e : Env) (h : AHeap) (Q : Post) : wpC Tryd.prog nG ir.count_Counters_Bump.r0 e h Q = lk (look e 0) (fun v0 => lk (look e 1) (fun v1 => wI Tryd.prog nG (.mv (.const (.int .i64 0))) h fun v4 h => Q .normal [(0, v0), (1, v1)] h) ()) () := lkm (lkm (wR (Rn rfl fun v4 h => rfl)))
def ir.count_Counters_Bump.r1 : C := .region [4] [⟨some 5, .mv (.tmp 0), none⟩, ⟨some 6, .mv (.tmp 1), none⟩, ⟨some 7, .call fn.count_Counters_Add [.tmp 5, .tmp 6, .const (.int .i64 1)], none⟩, ⟨some 4, .mv (.tmp 7), none⟩]
theorem ir.count_Counters_Bump.r1.w (e : Env) (h : AHeap) (Q : Post) : wpC Tryd.prog nG ir.count_Counters_Bump.r1 e h Q = lk (look e 0) (fun v0 => lk (look e 1) (fun v1 => wI Tryd.prog nG (.mv (.const v0)) h fun v5 h => wI Tryd.prog nG (.mv (.const v1)) h fun v6 h => wI Tryd.prog nG (.call fn.count_Counters_Add [.const v5, .const v6, .const (.int .i64 1)]) h fun v7 h => wI Tryd.prog nG (.mv (.const v7)) h fun v4 h => Q .normal [(4, v4)] h) ()) () := lkm (lkm (wR (Rn rfl fun v5 h => Rn rfl fun v6 h => Rn rfl fun v7 h => Rn rfl fun v4 h => rfl)))
def ir.count_Counters_Bump : C := (.seq ir.count_Counters_Bump.r0 (.seq ir.count_Counters_Bump.r1 .ret))
theorem ir.count_Counters_Bump.bw (e : Env) (h : AHeap) (Q : Post) : wpC Tryd.prog nG ir.count_Counters_Bump e h Q = wpC Tryd.prog nG (.seq ir.count_Counters_Bump.r0 (.seq ir.count_Counters_Bump.r1 .ret)) e h Q := (rfl)
def ir.count_Counters_Bump.rs : List RV := [.tmp 4]
theorem ir.count_Counters_Bump.ok : resC Tryd.prog nG 8 ir.count_Counters_Bump.ks (Tryd.f24.body.getD .skip) = some ir.count_Counters_Bump := by kernel_rfl
theorem ir.count_Counters_Bump.rok : Tryd.f24.results.toList.mapM (resR Tryd.prog) = some ir.count_Counters_Bump.rs := by kernel_rfl
theorem ir.count_Counters_Bump.spec {args : List Value} {h : AHeap} {v : Value} {h' : AHeap} (hn : args.length ≤ 8) :
    (wpC Tryd.prog nG ir.count_Counters_Bump (args.zipIdx.map fun p => (p.2, p.1)) h (retQ ir.count_Counters_Bump.rs h v h')) → Spec Tryd.prog nG fn.count_Counters_Bump args h v h' :=
  Spec.intro (fn := Tryd.f24) Tryd.func24 (c := Tryd.f24.body.getD .skip) (by kernel_rfl) ir.count_Counters_Bump.ok ir.count_Counters_Bump.rok hn
attribute [go_sem ↓] ir.count_Counters_Bump.r0.w ir.count_Counters_Bump.r1.w
attribute [go_sem] ir.count_Counters_Bump.rs

/-! ### fingerpost/fingerpostlaw24.awake: function 25 -/
def ir.law24_awake.ks : Nat → List Nat := fun
  | 0 => []
  | 1 => [1]
  | 2 => [1]
  | 3 => [1]
  | 4 => [0]
  | _ => []
def ir.law24_awake.r0 : C := .region [] [⟨some 0, .mv (.const (.bool false)), none⟩]
theorem ir.law24_awake.r0.w (e : Env) (h : AHeap) (Q : Post) : wpC Tryd.prog nG ir.law24_awake.r0 e h Q = wI Tryd.prog nG (.mv (.const (.bool false))) h fun v0 h => Q .normal [] h := wR (Rn rfl fun v0 h => rfl)
def ir.law24_awake.r1 : C := .region [1] [⟨some 2, .call fn.count_New [], none⟩, ⟨some 1, .mv (.tmp 2), none⟩]
theorem ir.law24_awake.r1.w (e : Env) (h : AHeap) (Q : Post) : wpC Tryd.prog nG ir.law24_awake.r1 e h Q = wI Tryd.prog nG (.call fn.count_New []) h fun v2 h => wI Tryd.prog nG (.mv (.const v2)) h fun v1 h => Q .normal [(1, v1)] h := wR (Rn rfl fun v2 h => Rn rfl fun v1 h => rfl)
def ir.law24_awake.r2 : C := .region [1] [⟨some 3, .mv (.tmp 1), none⟩, ⟨some 4, .call fn.count_Counters_Bump [.tmp 3, .const (.int .i64 4)], none⟩]
theorem ir.law24_awake.r2.w (e : Env) (h : AHeap) (Q : Post) : wpC Tryd.prog nG ir.law24_awake.r2 e h Q = lk (look e 1) (fun v1 => wI Tryd.prog nG (.mv (.const v1)) h fun v3 h => wI Tryd.prog nG (.call fn.count_Counters_Bump [.const v3, .const (.int .i64 4)]) h fun v4 h => Q .normal [(1, v1)] h) () := lkm (wR (Rn rfl fun v3 h => Rn rfl fun v4 h => rfl))
def ir.law24_awake.r3 : C := .region [1] [⟨some 5, .mv (.tmp 1), none⟩, ⟨some 6, .call fn.count_Counters_Add [.tmp 5, .const (.int .i64 0), .const (.int .i64 2)], none⟩]
theorem ir.law24_awake.r3.w (e : Env) (h : AHeap) (Q : Post) : wpC Tryd.prog nG ir.law24_awake.r3 e h Q = lk (look e 1) (fun v1 => wI Tryd.prog nG (.mv (.const v1)) h fun v5 h => wI Tryd.prog nG (.call fn.count_Counters_Add [.const v5, .const (.int .i64 0), .const (.int .i64 2)]) h fun v6 h => Q .normal [(1, v1)] h) () := lkm (wR (Rn rfl fun v5 h => Rn rfl fun v6 h => rfl))
def ir.law24_awake.r4 : C := .region [0] [⟨some 7, .mv (.tmp 1), none⟩, ⟨some 8, .call fn.count_Counters_Text [.tmp 7], none⟩, ⟨some 9, .bin .eql (.tmp 8) (.const (.string lit_bbc467c7)), none⟩, ⟨some 10, .mv (.tmp 9), none⟩, ⟨some 11, .call fn.count_Of [.const (.int .i64 24)], some (10, true)⟩, ⟨some 12, .bin .eql (.tmp 11) (.const (.int .i64 4)), some (10, true)⟩, ⟨some 13, .pick (.tmp 10) (.tmp 12) (.const (.bool false)), none⟩, ⟨some 0, .mv (.tmp 13), none⟩]
theorem ir.law24_awake.r4.w (e : Env) (h : AHeap) (Q : Post) : wpC Tryd.prog nG ir.law24_awake.r4 e h Q = lk (look e 1) (fun v1 => wI Tryd.prog nG (.mv (.const v1)) h fun v7 h => wI Tryd.prog nG (.call fn.count_Counters_Text [.const v7]) h fun v8 h => wI Tryd.prog nG (.bin .eql (.const v8) (.const (.string lit_bbc467c7))) h fun v9 h => wI Tryd.prog nG (.mv (.const v9)) h fun v10 h => gdK v10 true (wI Tryd.prog nG (.call fn.count_Of [.const (.int .i64 24)]) h) (fun v10 v11 h => gdK v10 true (wI Tryd.prog nG (.bin .eql (.const v11) (.const (.int .i64 4))) h) (fun v10 v12 h => wI Tryd.prog nG (.pick (.const v10) (.const v12) (.const (.bool false))) h fun v13 h => wI Tryd.prog nG (.mv (.const v13)) h fun v0 h => Q .normal [(0, v0)] h) h () ()) h () ()) () := lkm (wR (Rn rfl fun v7 h => Rn rfl fun v8 h => Rn rfl fun v9 h => Rn rfl fun v10 h => Rg rfl rfl fun v10 v11 h => Rg rfl rfl fun v10 v12 h => Rn rfl fun v13 h => Rn rfl fun v0 h => rfl))
def ir.law24_awake : C := (.seq ir.law24_awake.r0 (.seq ir.law24_awake.r1 (.seq ir.law24_awake.r2 (.seq ir.law24_awake.r3 (.seq ir.law24_awake.r4 .ret)))))
theorem ir.law24_awake.bw (e : Env) (h : AHeap) (Q : Post) : wpC Tryd.prog nG ir.law24_awake e h Q = wpC Tryd.prog nG (.seq ir.law24_awake.r0 (.seq ir.law24_awake.r1 (.seq ir.law24_awake.r2 (.seq ir.law24_awake.r3 (.seq ir.law24_awake.r4 .ret))))) e h Q := (rfl)
def ir.law24_awake.rs : List RV := [.tmp 0]
theorem ir.law24_awake.ok : resC Tryd.prog nG 14 ir.law24_awake.ks (Tryd.f25.body.getD .skip) = some ir.law24_awake := by kernel_rfl
theorem ir.law24_awake.rok : Tryd.f25.results.toList.mapM (resR Tryd.prog) = some ir.law24_awake.rs := by kernel_rfl
theorem ir.law24_awake.spec {args : List Value} {h : AHeap} {v : Value} {h' : AHeap} (hn : args.length ≤ 14) :
    (wpC Tryd.prog nG ir.law24_awake (args.zipIdx.map fun p => (p.2, p.1)) h (retQ ir.law24_awake.rs h v h')) → Spec Tryd.prog nG fn.law24_awake args h v h' :=
  Spec.intro (fn := Tryd.f25) Tryd.func25 (c := Tryd.f25.body.getD .skip) (by kernel_rfl) ir.law24_awake.ok ir.law24_awake.rok hn
attribute [go_sem ↓] ir.law24_awake.r0.w ir.law24_awake.r1.w ir.law24_awake.r2.w ir.law24_awake.r3.w ir.law24_awake.r4.w
attribute [go_sem] ir.law24_awake.rs

/-! ### fingerpost/count.Name: function 26 -/
def ir.count_Name.ks : Nat → List Nat := fun
  | 0 => [0]
  | 1 => [0, 8]
  | 2 => [2]
  | 3 => [2]
  | _ => []
def ir.count_Name.r0 : C := .region [0] [⟨some 2, .mv (.const (Go.Value.string { data := #[] })), none⟩]
theorem ir.count_Name.r0.w (e : Env) (h : AHeap) (Q : Post) : wpC Tryd.prog nG ir.count_Name.r0 e h Q = lk (look e 0) (fun v0 => wI Tryd.prog nG (.mv (.const (Go.Value.string { data := #[] }))) h fun v2 h => Q .normal [(0, v0)] h) () := lkm (wR (Rn rfl fun v2 h => rfl))
def ir.count_Name.r1 : C := .region [0, 8] [⟨some 3, .mv (.tmp 0), none⟩, ⟨some 4, .bin .lss (.tmp 3) (.const (.int .i64 0)), none⟩, ⟨some 5, .mv (.tmp 4), none⟩, ⟨some 6, .mv (.tmp 0), some (5, false)⟩, ⟨some 7, .bin .geq (.tmp 6) (.const (.int .i64 19)), some (5, false)⟩, ⟨some 8, .pick (.tmp 5) (.const (.bool true)) (.tmp 7), none⟩]
theorem ir.count_Name.r1.w (e : Env) (h : AHeap) (Q : Post) : wpC Tryd.prog nG ir.count_Name.r1 e h Q = lk (look e 0) (fun v0 => wI Tryd.prog nG (.mv (.const v0)) h fun v3 h => wI Tryd.prog nG (.bin .lss (.const v3) (.const (.int .i64 0))) h fun v4 h => wI Tryd.prog nG (.mv (.const v4)) h fun v5 h => gdK v5 false (wI Tryd.prog nG (.mv (.const v0)) h) (fun v5 v6 h => gdK v5 false (wI Tryd.prog nG (.bin .geq (.const v6) (.const (.int .i64 19))) h) (fun v5 v7 h => wI Tryd.prog nG (.pick (.const v5) (.const (.bool true)) (.const v7)) h fun v8 h => Q .normal [(0, v0), (8, v8)] h) h () ()) h () ()) () := lkm (wR (Rn rfl fun v3 h => Rn rfl fun v4 h => Rn rfl fun v5 h => Rg rfl rfl fun v5 v6 h => Rg rfl rfl fun v5 v7 h => Rn rfl fun v8 h => rfl))
def ir.count_Name.r2 : C := .region [2] [⟨some 2, .mv (.const (Go.Value.string { data := #[] })), none⟩]
theorem ir.count_Name.r2.w (e : Env) (h : AHeap) (Q : Post) : wpC Tryd.prog nG ir.count_Name.r2 e h Q = wI Tryd.prog nG (.mv (.const (Go.Value.string { data := #[] }))) h fun v2 h => Q .normal [(2, v2)] h := wR (Rn rfl fun v2 h => rfl)
def ir.count_Name.r3 : C := .region [2] [⟨some 9, .mv (.tmp 0), none⟩, ⟨some 10, .ixa 19 1 (.global 1) (.tmp 9), none⟩, ⟨some 11, .load false 1 (.tmp 10), none⟩, ⟨some 2, .mv (.tmp 11), none⟩]
theorem ir.count_Name.r3.w (e : Env) (h : AHeap) (Q : Post) : wpC Tryd.prog nG ir.count_Name.r3 e h Q = lk (look e 0) (fun v0 => wI Tryd.prog nG (.mv (.const v0)) h fun v9 h => wI Tryd.prog nG (.ixa 19 1 (.const (.pointer (some ⟨1, 0, none⟩))) (.const v9)) h fun v10 h => wI Tryd.prog nG (.load false 1 (.const v10)) h fun v11 h => wI Tryd.prog nG (.mv (.const v11)) h fun v2 h => Q .normal [(2, v2)] h) () := lkm (wR (Rn rfl fun v9 h => Rn rfl fun v10 h => Rn rfl fun v11 h => Rn rfl fun v2 h => rfl))
def ir.count_Name : C := (.seq ir.count_Name.r0 (.seq (.seq ir.count_Name.r1 (.cond (.tmp 8) (.seq ir.count_Name.r2 .ret) .skip)) (.seq ir.count_Name.r3 .ret)))
theorem ir.count_Name.bw (e : Env) (h : AHeap) (Q : Post) : wpC Tryd.prog nG ir.count_Name e h Q = wpC Tryd.prog nG (.seq ir.count_Name.r0 (.seq (.seq ir.count_Name.r1 (.cond (.tmp 8) (.seq ir.count_Name.r2 .ret) .skip)) (.seq ir.count_Name.r3 .ret))) e h Q := (rfl)
def ir.count_Name.rs : List RV := [.tmp 2]
theorem ir.count_Name.ok : resC Tryd.prog nG 12 ir.count_Name.ks (Tryd.f26.body.getD .skip) = some ir.count_Name := by kernel_rfl
theorem ir.count_Name.rok : Tryd.f26.results.toList.mapM (resR Tryd.prog) = some ir.count_Name.rs := by kernel_rfl
theorem ir.count_Name.spec {args : List Value} {h : AHeap} {v : Value} {h' : AHeap} (hn : args.length ≤ 12) :
    (wpC Tryd.prog nG ir.count_Name (args.zipIdx.map fun p => (p.2, p.1)) h (retQ ir.count_Name.rs h v h')) → Spec Tryd.prog nG fn.count_Name args h v h' :=
  Spec.intro (fn := Tryd.f26) Tryd.func26 (c := Tryd.f26.body.getD .skip) (by kernel_rfl) ir.count_Name.ok ir.count_Name.rok hn
attribute [go_sem ↓] ir.count_Name.r0.w ir.count_Name.r1.w ir.count_Name.r2.w ir.count_Name.r3.w
attribute [go_sem] ir.count_Name.rs

/-! ### fingerpost/fingerpostref24.Name: function 27 -/
def ir.ref24_Name.ks : Nat → List Nat := fun
  | 0 => [0]
  | 1 => [0, 8]
  | 2 => [2]
  | 3 => [2]
  | _ => []
def ir.ref24_Name.r0 : C := .region [0] [⟨some 2, .mv (.const (Go.Value.string { data := #[] })), none⟩]
theorem ir.ref24_Name.r0.w (e : Env) (h : AHeap) (Q : Post) : wpC Tryd.prog nG ir.ref24_Name.r0 e h Q = lk (look e 0) (fun v0 => wI Tryd.prog nG (.mv (.const (Go.Value.string { data := #[] }))) h fun v2 h => Q .normal [(0, v0)] h) () := lkm (wR (Rn rfl fun v2 h => rfl))
def ir.ref24_Name.r1 : C := .region [0, 8] [⟨some 3, .mv (.tmp 0), none⟩, ⟨some 4, .bin .lss (.tmp 3) (.const (.int .i64 0)), none⟩, ⟨some 5, .mv (.tmp 4), none⟩, ⟨some 6, .mv (.tmp 0), some (5, false)⟩, ⟨some 7, .bin .geq (.tmp 6) (.const (.int .i64 19)), some (5, false)⟩, ⟨some 8, .pick (.tmp 5) (.const (.bool true)) (.tmp 7), none⟩]
theorem ir.ref24_Name.r1.w (e : Env) (h : AHeap) (Q : Post) : wpC Tryd.prog nG ir.ref24_Name.r1 e h Q = lk (look e 0) (fun v0 => wI Tryd.prog nG (.mv (.const v0)) h fun v3 h => wI Tryd.prog nG (.bin .lss (.const v3) (.const (.int .i64 0))) h fun v4 h => wI Tryd.prog nG (.mv (.const v4)) h fun v5 h => gdK v5 false (wI Tryd.prog nG (.mv (.const v0)) h) (fun v5 v6 h => gdK v5 false (wI Tryd.prog nG (.bin .geq (.const v6) (.const (.int .i64 19))) h) (fun v5 v7 h => wI Tryd.prog nG (.pick (.const v5) (.const (.bool true)) (.const v7)) h fun v8 h => Q .normal [(0, v0), (8, v8)] h) h () ()) h () ()) () := lkm (wR (Rn rfl fun v3 h => Rn rfl fun v4 h => Rn rfl fun v5 h => Rg rfl rfl fun v5 v6 h => Rg rfl rfl fun v5 v7 h => Rn rfl fun v8 h => rfl))
def ir.ref24_Name.r2 : C := .region [2] [⟨some 2, .mv (.const (Go.Value.string { data := #[] })), none⟩]
theorem ir.ref24_Name.r2.w (e : Env) (h : AHeap) (Q : Post) : wpC Tryd.prog nG ir.ref24_Name.r2 e h Q = wI Tryd.prog nG (.mv (.const (Go.Value.string { data := #[] }))) h fun v2 h => Q .normal [(2, v2)] h := wR (Rn rfl fun v2 h => rfl)
def ir.ref24_Name.r3 : C := .region [2] [⟨some 9, .call fn.ref24_Names [], none⟩, ⟨some 10, .mv (.tmp 0), none⟩, ⟨some 11, .ixs 1 (.tmp 9) (.tmp 10), none⟩, ⟨some 12, .load false 1 (.tmp 11), none⟩, ⟨some 2, .mv (.tmp 12), none⟩]
theorem ir.ref24_Name.r3.w (e : Env) (h : AHeap) (Q : Post) : wpC Tryd.prog nG ir.ref24_Name.r3 e h Q = lk (look e 0) (fun v0 => wI Tryd.prog nG (.call fn.ref24_Names []) h fun v9 h => wI Tryd.prog nG (.mv (.const v0)) h fun v10 h => wI Tryd.prog nG (.ixs 1 (.const v9) (.const v10)) h fun v11 h => wI Tryd.prog nG (.load false 1 (.const v11)) h fun v12 h => wI Tryd.prog nG (.mv (.const v12)) h fun v2 h => Q .normal [(2, v2)] h) () := lkm (wR (Rn rfl fun v9 h => Rn rfl fun v10 h => Rn rfl fun v11 h => Rn rfl fun v12 h => Rn rfl fun v2 h => rfl))
def ir.ref24_Name : C := (.seq ir.ref24_Name.r0 (.seq (.seq ir.ref24_Name.r1 (.cond (.tmp 8) (.seq ir.ref24_Name.r2 .ret) .skip)) (.seq ir.ref24_Name.r3 .ret)))
theorem ir.ref24_Name.bw (e : Env) (h : AHeap) (Q : Post) : wpC Tryd.prog nG ir.ref24_Name e h Q = wpC Tryd.prog nG (.seq ir.ref24_Name.r0 (.seq (.seq ir.ref24_Name.r1 (.cond (.tmp 8) (.seq ir.ref24_Name.r2 .ret) .skip)) (.seq ir.ref24_Name.r3 .ret))) e h Q := (rfl)
def ir.ref24_Name.rs : List RV := [.tmp 2]
theorem ir.ref24_Name.ok : resC Tryd.prog nG 13 ir.ref24_Name.ks (Tryd.f27.body.getD .skip) = some ir.ref24_Name := by kernel_rfl
theorem ir.ref24_Name.rok : Tryd.f27.results.toList.mapM (resR Tryd.prog) = some ir.ref24_Name.rs := by kernel_rfl
theorem ir.ref24_Name.spec {args : List Value} {h : AHeap} {v : Value} {h' : AHeap} (hn : args.length ≤ 13) :
    (wpC Tryd.prog nG ir.ref24_Name (args.zipIdx.map fun p => (p.2, p.1)) h (retQ ir.ref24_Name.rs h v h')) → Spec Tryd.prog nG fn.ref24_Name args h v h' :=
  Spec.intro (fn := Tryd.f27) Tryd.func27 (c := Tryd.f27.body.getD .skip) (by kernel_rfl) ir.ref24_Name.ok ir.ref24_Name.rok hn
attribute [go_sem ↓] ir.ref24_Name.r0.w ir.ref24_Name.r1.w ir.ref24_Name.r2.w ir.ref24_Name.r3.w
attribute [go_sem] ir.ref24_Name.rs

/-! ### fingerpost/count.Which: function 28 -/
def ir.count_Which.ks : Nat → List Nat := fun
  | 0 => [0]
  | 1 => [0, 5, 6]
  | 2 => [0, 5, 6, 7]
  | 3 => [0, 3, 4, 5, 6]
  | 4 => [0, 3, 5, 6, 12]
  | 5 => [2]
  | 6 => [0, 5, 6]
  | 7 => [2]
  | _ => []
def ir.count_Which.r0 : C := .region [0] [⟨some 2, .mv (.const (.int .i64 0)), none⟩]
theorem ir.count_Which.r0.w (e : Env) (h : AHeap) (Q : Post) : wpC Tryd.prog nG ir.count_Which.r0 e h Q = lk (look e 0) (fun v0 => wI Tryd.prog nG (.mv (.const (.int .i64 0))) h fun v2 h => Q .normal [(0, v0)] h) () := lkm (wR (Rn rfl fun v2 h => rfl))
def ir.count_Which.r1 : C := .region [0, 5, 6] [⟨some 5, .load true 19 (.global 1), none⟩, ⟨some 6, .mv (.const (.int .i64 0)), none⟩]
theorem ir.count_Which.r1.w (e : Env) (h : AHeap) (Q : Post) : wpC Tryd.prog nG ir.count_Which.r1 e h Q = lk (look e 0) (fun v0 => wI Tryd.prog nG (.load true 19 (.const (.pointer (some ⟨1, 0, none⟩)))) h fun v5 h => wI Tryd.prog nG (.mv (.const (.int .i64 0))) h fun v6 h => Q .normal [(0, v0), (5, v5), (6, v6)] h) () := lkm (wR (Rn rfl fun v5 h => Rn rfl fun v6 h => rfl))
def ir.count_Which.r2 : C := .region [0, 5, 6, 7] [⟨some 7, .bin .lss (.tmp 6) (.const (.int .i64 19)), none⟩]
theorem ir.count_Which.r2.w (e : Env) (h : AHeap) (Q : Post) : wpC Tryd.prog nG ir.count_Which.r2 e h Q = lk (look e 0) (fun v0 => lk (look e 5) (fun v5 => lk (look e 6) (fun v6 => wI Tryd.prog nG (.bin .lss (.const v6) (.const (.int .i64 19))) h fun v7 h => Q .normal [(0, v0), (5, v5), (6, v6), (7, v7)] h) ()) ()) () := lkm (lkm (lkm (wR (Rn rfl fun v7 h => rfl))))
def ir.count_Which.r3 : C := .region [0, 3, 4, 5, 6] [⟨some 8, .mv (.tmp 6), none⟩, ⟨some 9, .ixv false 19 1 (.tmp 5) (.tmp 6), none⟩, ⟨some 3, .mv (.tmp 8), none⟩, ⟨some 4, .mv (.tmp 9), none⟩]
theorem ir.count_Which.r3.w (e : Env) (h : AHeap) (Q : Post) : wpC Tryd.prog nG ir.count_Which.r3 e h Q = lk (look e 0) (fun v0 => lk (look e 5) (fun v5 => lk (look e 6) (fun v6 => wI Tryd.prog nG (.mv (.const v6)) h fun v8 h => wI Tryd.prog nG (.ixv false 19 1 (.const v5) (.const v6)) h fun v9 h => wI Tryd.prog nG (.mv (.const v8)) h fun v3 h => wI Tryd.prog nG (.mv (.const v9)) h fun v4 h => Q .normal [(0, v0), (3, v3), (4, v4), (5, v5), (6, v6)] h) ()) ()) () := lkm (lkm (lkm (wR (Rn rfl fun v8 h => Rn rfl fun v9 h => Rn rfl fun v3 h => Rn rfl fun v4 h => rfl))))
def ir.count_Which.r4 : C := .region [0, 3, 5, 6, 12] [⟨some 10, .mv (.tmp 4), none⟩, ⟨some 11, .mv (.tmp 0), none⟩, ⟨some 12, .bin .eql (.tmp 10) (.tmp 11), none⟩]
theorem ir.count_Which.r4.w (e : Env) (h : AHeap) (Q : Post) : wpC Tryd.prog nG ir.count_Which.r4 e h Q = lk (look e 0) (fun v0 => lk (look e 3) (fun v3 => lk (look e 4) (fun v4 => lk (look e 5) (fun v5 => lk (look e 6) (fun v6 => wI Tryd.prog nG (.mv (.const v4)) h fun v10 h => wI Tryd.prog nG (.mv (.const v0)) h fun v11 h => wI Tryd.prog nG (.bin .eql (.const v10) (.const v11)) h fun v12 h => Q .normal [(0, v0), (3, v3), (5, v5), (6, v6), (12, v12)] h) ()) ()) ()) ()) () := lkm (lkm (lkm (lkm (lkm (wR (Rn rfl fun v10 h => Rn rfl fun v11 h => Rn rfl fun v12 h => rfl))))))
def ir.count_Which.r5 : C := .region [2] [⟨some 13, .mv (.tmp 3), none⟩, ⟨some 2, .mv (.tmp 13), none⟩]
theorem ir.count_Which.r5.w (e : Env) (h : AHeap) (Q : Post) : wpC Tryd.prog nG ir.count_Which.r5 e h Q = lk (look e 3) (fun v3 => wI Tryd.prog nG (.mv (.const v3)) h fun v13 h => wI Tryd.prog nG (.mv (.const v13)) h fun v2 h => Q .normal [(2, v2)] h) () := lkm (wR (Rn rfl fun v13 h => Rn rfl fun v2 h => rfl))
def ir.count_Which.r6 : C := .region [0, 5, 6] [⟨some 14, .bin .add (.tmp 6) (.const (.int .i64 1)), none⟩, ⟨some 6, .mv (.tmp 14), none⟩]
theorem ir.count_Which.r6.w (e : Env) (h : AHeap) (Q : Post) : wpC Tryd.prog nG ir.count_Which.r6 e h Q = lk (look e 0) (fun v0 => lk (look e 5) (fun v5 => lk (look e 6) (fun v6 => wI Tryd.prog nG (.bin .add (.const v6) (.const (.int .i64 1))) h fun v14 h => wI Tryd.prog nG (.mv (.const v14)) h fun v6 h => Q .normal [(0, v0), (5, v5), (6, v6)] h) ()) ()) () := lkm (lkm (lkm (wR (Rn rfl fun v14 h => Rn rfl fun v6 h => rfl))))
def ir.count_Which.l1.b : C := (.seq ir.count_Which.r2 (.seq (.cond (.tmp 7) .skip (.exit 0)) (.seq (.block 1 (.seq ir.count_Which.r3 (.seq ir.count_Which.r4 (.cond (.tmp 12) (.seq ir.count_Which.r5 .ret) .skip)))) ir.count_Which.r6)))
theorem ir.count_Which.l1.bw (e : Env) (h : AHeap) (Q : Post) : wpC Tryd.prog nG ir.count_Which.l1.b e h Q = wpC Tryd.prog nG (.seq ir.count_Which.r2 (.seq (.cond (.tmp 7) .skip (.exit 0)) (.seq (.block 1 (.seq ir.count_Which.r3 (.seq ir.count_Which.r4 (.cond (.tmp 12) (.seq ir.count_Which.r5 .ret) .skip)))) ir.count_Which.r6))) e h Q := (rfl)
def ir.count_Which.l1 : C := .loop ir.count_Which.l1.b
theorem ir.count_Which.l1.w (e : Env) (h : AHeap) (Q : Post) : wpC Tryd.prog nG ir.count_Which.l1 e h Q = loopV Tryd.prog nG ir.count_Which.l1.b e h Q () := (rfl)
def ir.count_Which.r7 : C := .region [2] [⟨some 2, .mv (.const (.int .i64 (-1))), none⟩]
theorem ir.count_Which.r7.w (e : Env) (h : AHeap) (Q : Post) : wpC Tryd.prog nG ir.count_Which.r7 e h Q = wI Tryd.prog nG (.mv (.const (.int .i64 (-1)))) h fun v2 h => Q .normal [(2, v2)] h := wR (Rn rfl fun v2 h => rfl)
def ir.count_Which : C := (.seq ir.count_Which.r0 (.seq (.seq ir.count_Which.r1 (.block 0 ir.count_Which.l1)) (.seq ir.count_Which.r7 .ret)))
theorem ir.count_Which.bw (e : Env) (h : AHeap) (Q : Post) : wpC Tryd.prog nG ir.count_Which e h Q = wpC Tryd.prog nG (.seq ir.count_Which.r0 (.seq (.seq ir.count_Which.r1 (.block 0 ir.count_Which.l1)) (.seq ir.count_Which.r7 .ret))) e h Q := (rfl)
def ir.count_Which.rs : List RV := [.tmp 2]
theorem ir.count_Which.ok : resC Tryd.prog nG 15 ir.count_Which.ks (Tryd.f28.body.getD .skip) = some ir.count_Which := by kernel_rfl
theorem ir.count_Which.rok : Tryd.f28.results.toList.mapM (resR Tryd.prog) = some ir.count_Which.rs := by kernel_rfl
theorem ir.count_Which.spec {args : List Value} {h : AHeap} {v : Value} {h' : AHeap} (hn : args.length ≤ 15) :
    (wpC Tryd.prog nG ir.count_Which (args.zipIdx.map fun p => (p.2, p.1)) h (retQ ir.count_Which.rs h v h')) → Spec Tryd.prog nG fn.count_Which args h v h' :=
  Spec.intro (fn := Tryd.f28) Tryd.func28 (c := Tryd.f28.body.getD .skip) (by kernel_rfl) ir.count_Which.ok ir.count_Which.rok hn
attribute [go_sem ↓] ir.count_Which.r0.w ir.count_Which.r1.w ir.count_Which.r2.w ir.count_Which.r3.w ir.count_Which.r4.w ir.count_Which.r5.w ir.count_Which.r6.w ir.count_Which.l1.w ir.count_Which.r7.w
attribute [go_sem] ir.count_Which.rs

/-! ### fingerpost/fingerpostref24.Which: function 29 -/
def ir.ref24_Which.ks : Nat → List Nat := fun
  | 0 => [0]
  | 1 => [0, 3]
  | 2 => [0, 3, 4]
  | 3 => [0, 3, 4, 7]
  | 4 => [0, 3, 4]
  | 5 => [0, 3, 4, 15]
  | 6 => [2]
  | 7 => [2]
  | _ => []
def ir.ref24_Which.r0 : C := .region [0] [⟨some 2, .mv (.const (.int .i64 0)), none⟩]
theorem ir.ref24_Which.r0.w (e : Env) (h : AHeap) (Q : Post) : wpC Tryd.prog nG ir.ref24_Which.r0 e h Q = lk (look e 0) (fun v0 => wI Tryd.prog nG (.mv (.const (.int .i64 0))) h fun v2 h => Q .normal [(0, v0)] h) () := lkm (wR (Rn rfl fun v2 h => rfl))
def ir.ref24_Which.r1 : C := .region [0, 3] [⟨some 5, .call fn.ref24_Names [], none⟩, ⟨some 3, .mv (.tmp 5), none⟩]
theorem ir.ref24_Which.r1.w (e : Env) (h : AHeap) (Q : Post) : wpC Tryd.prog nG ir.ref24_Which.r1 e h Q = lk (look e 0) (fun v0 => wI Tryd.prog nG (.call fn.ref24_Names []) h fun v5 h => wI Tryd.prog nG (.mv (.const v5)) h fun v3 h => Q .normal [(0, v0), (3, v3)] h) () := lkm (wR (Rn rfl fun v5 h => Rn rfl fun v3 h => rfl))
def ir.ref24_Which.r2 : C := .region [0, 3, 4] [⟨some 4, .mv (.const (.int .i64 0)), none⟩]
theorem ir.ref24_Which.r2.w (e : Env) (h : AHeap) (Q : Post) : wpC Tryd.prog nG ir.ref24_Which.r2 e h Q = lk (look e 0) (fun v0 => lk (look e 3) (fun v3 => wI Tryd.prog nG (.mv (.const (.int .i64 0))) h fun v4 h => Q .normal [(0, v0), (3, v3), (4, v4)] h) ()) () := lkm (lkm (wR (Rn rfl fun v4 h => rfl)))
def ir.ref24_Which.r3 : C := .region [0, 3, 4, 7] [⟨some 6, .mv (.tmp 4), none⟩, ⟨some 7, .bin .lss (.tmp 6) (.const (.int .i64 19)), none⟩]
theorem ir.ref24_Which.r3.w (e : Env) (h : AHeap) (Q : Post) : wpC Tryd.prog nG ir.ref24_Which.r3 e h Q = lk (look e 0) (fun v0 => lk (look e 3) (fun v3 => lk (look e 4) (fun v4 => wI Tryd.prog nG (.mv (.const v4)) h fun v6 h => wI Tryd.prog nG (.bin .lss (.const v6) (.const (.int .i64 19))) h fun v7 h => Q .normal [(0, v0), (3, v3), (4, v4), (7, v7)] h) ()) ()) () := lkm (lkm (lkm (wR (Rn rfl fun v6 h => Rn rfl fun v7 h => rfl))))
def ir.ref24_Which.r5 : C := .region [0, 3, 4, 15] [⟨some 10, .mv (.tmp 3), none⟩, ⟨some 11, .mv (.tmp 4), none⟩, ⟨some 12, .ixs 1 (.tmp 10) (.tmp 11), none⟩, ⟨some 13, .load false 1 (.tmp 12), none⟩, ⟨some 14, .mv (.tmp 0), none⟩, ⟨some 15, .bin .eql (.tmp 13) (.tmp 14), none⟩]
theorem ir.ref24_Which.r5.w (e : Env) (h : AHeap) (Q : Post) : wpC Tryd.prog nG ir.ref24_Which.r5 e h Q = lk (look e 0) (fun v0 => lk (look e 3) (fun v3 => lk (look e 4) (fun v4 => wI Tryd.prog nG (.mv (.const v3)) h fun v10 h => wI Tryd.prog nG (.mv (.const v4)) h fun v11 h => wI Tryd.prog nG (.ixs 1 (.const v10) (.const v11)) h fun v12 h => wI Tryd.prog nG (.load false 1 (.const v12)) h fun v13 h => wI Tryd.prog nG (.mv (.const v0)) h fun v14 h => wI Tryd.prog nG (.bin .eql (.const v13) (.const v14)) h fun v15 h => Q .normal [(0, v0), (3, v3), (4, v4), (15, v15)] h) ()) ()) () := lkm (lkm (lkm (wR (Rn rfl fun v10 h => Rn rfl fun v11 h => Rn rfl fun v12 h => Rn rfl fun v13 h => Rn rfl fun v14 h => Rn rfl fun v15 h => rfl))))
def ir.ref24_Which.r6 : C := .region [2] [⟨some 16, .mv (.tmp 4), none⟩, ⟨some 2, .mv (.tmp 16), none⟩]
theorem ir.ref24_Which.r6.w (e : Env) (h : AHeap) (Q : Post) : wpC Tryd.prog nG ir.ref24_Which.r6 e h Q = lk (look e 4) (fun v4 => wI Tryd.prog nG (.mv (.const v4)) h fun v16 h => wI Tryd.prog nG (.mv (.const v16)) h fun v2 h => Q .normal [(2, v2)] h) () := lkm (wR (Rn rfl fun v16 h => Rn rfl fun v2 h => rfl))
def ir.ref24_Which.r4 : C := .region [0, 3, 4] [⟨some 8, .mv (.tmp 4), none⟩, ⟨some 9, .bin .add (.tmp 8) (.const (.int .i64 1)), none⟩, ⟨some 4, .mv (.tmp 9), none⟩]
theorem ir.ref24_Which.r4.w (e : Env) (h : AHeap) (Q : Post) : wpC Tryd.prog nG ir.ref24_Which.r4 e h Q = lk (look e 0) (fun v0 => lk (look e 3) (fun v3 => lk (look e 4) (fun v4 => wI Tryd.prog nG (.mv (.const v4)) h fun v8 h => wI Tryd.prog nG (.bin .add (.const v8) (.const (.int .i64 1))) h fun v9 h => wI Tryd.prog nG (.mv (.const v9)) h fun v4 h => Q .normal [(0, v0), (3, v3), (4, v4)] h) ()) ()) () := lkm (lkm (lkm (wR (Rn rfl fun v8 h => Rn rfl fun v9 h => Rn rfl fun v4 h => rfl))))
def ir.ref24_Which.l1.b : C := (.seq (.seq ir.ref24_Which.r3 (.cond (.tmp 7) .skip (.exit 0))) (.seq (.block 1 (.seq ir.ref24_Which.r5 (.cond (.tmp 15) (.seq ir.ref24_Which.r6 .ret) .skip))) ir.ref24_Which.r4))
theorem ir.ref24_Which.l1.bw (e : Env) (h : AHeap) (Q : Post) : wpC Tryd.prog nG ir.ref24_Which.l1.b e h Q = wpC Tryd.prog nG (.seq (.seq ir.ref24_Which.r3 (.cond (.tmp 7) .skip (.exit 0))) (.seq (.block 1 (.seq ir.ref24_Which.r5 (.cond (.tmp 15) (.seq ir.ref24_Which.r6 .ret) .skip))) ir.ref24_Which.r4)) e h Q := (rfl)
def ir.ref24_Which.l1 : C := .loop ir.ref24_Which.l1.b
theorem ir.ref24_Which.l1.w (e : Env) (h : AHeap) (Q : Post) : wpC Tryd.prog nG ir.ref24_Which.l1 e h Q = loopV Tryd.prog nG ir.ref24_Which.l1.b e h Q () := (rfl)
def ir.ref24_Which.r7 : C := .region [2] [⟨some 2, .mv (.const (.int .i64 (-1))), none⟩]
theorem ir.ref24_Which.r7.w (e : Env) (h : AHeap) (Q : Post) : wpC Tryd.prog nG ir.ref24_Which.r7 e h Q = wI Tryd.prog nG (.mv (.const (.int .i64 (-1)))) h fun v2 h => Q .normal [(2, v2)] h := wR (Rn rfl fun v2 h => rfl)
def ir.ref24_Which : C := (.seq ir.ref24_Which.r0 (.seq ir.ref24_Which.r1 (.seq (.seq ir.ref24_Which.r2 (.block 0 ir.ref24_Which.l1)) (.seq ir.ref24_Which.r7 .ret))))
theorem ir.ref24_Which.bw (e : Env) (h : AHeap) (Q : Post) : wpC Tryd.prog nG ir.ref24_Which e h Q = wpC Tryd.prog nG (.seq ir.ref24_Which.r0 (.seq ir.ref24_Which.r1 (.seq (.seq ir.ref24_Which.r2 (.block 0 ir.ref24_Which.l1)) (.seq ir.ref24_Which.r7 .ret)))) e h Q := (rfl)
def ir.ref24_Which.rs : List RV := [.tmp 2]
theorem ir.ref24_Which.ok : resC Tryd.prog nG 17 ir.ref24_Which.ks (Tryd.f29.body.getD .skip) = some ir.ref24_Which := by kernel_rfl
theorem ir.ref24_Which.rok : Tryd.f29.results.toList.mapM (resR Tryd.prog) = some ir.ref24_Which.rs := by kernel_rfl
theorem ir.ref24_Which.spec {args : List Value} {h : AHeap} {v : Value} {h' : AHeap} (hn : args.length ≤ 17) :
    (wpC Tryd.prog nG ir.ref24_Which (args.zipIdx.map fun p => (p.2, p.1)) h (retQ ir.ref24_Which.rs h v h')) → Spec Tryd.prog nG fn.ref24_Which args h v h' :=
  Spec.intro (fn := Tryd.f29) Tryd.func29 (c := Tryd.f29.body.getD .skip) (by kernel_rfl) ir.ref24_Which.ok ir.ref24_Which.rok hn
attribute [go_sem ↓] ir.ref24_Which.r0.w ir.ref24_Which.r1.w ir.ref24_Which.r2.w ir.ref24_Which.r3.w ir.ref24_Which.r5.w ir.ref24_Which.r6.w ir.ref24_Which.r4.w ir.ref24_Which.l1.w ir.ref24_Which.r7.w
attribute [go_sem] ir.ref24_Which.rs

/-! ### fingerpost/count.Of: function 30 -/
def ir.count_Of.ks : Nat → List Nat := fun
  | 0 => [0]
  | 1 => [3]
  | 2 => [3, 4]
  | 3 => [3, 4]
  | 4 => [3, 4]
  | 5 => [3, 4]
  | 6 => [3, 4]
  | 7 => [2]
  | 8 => [3, 10]
  | 9 => [2]
  | 10 => [3, 12]
  | 11 => [2]
  | 12 => [3, 14]
  | 13 => [2]
  | 14 => [3, 16]
  | 15 => [2]
  | 16 => [3, 18]
  | 17 => [3, 18]
  | 18 => [2]
  | 19 => [3, 21]
  | 20 => [2]
  | 21 => [3, 23]
  | 22 => [2]
  | 23 => [3, 25]
  | 24 => [2]
  | 25 => [27]
  | 26 => [2]
  | 27 => [2]
  | _ => []
def ir.count_Of.r0 : C := .region [0] [⟨some 2, .mv (.const (.int .i64 0)), none⟩]
theorem ir.count_Of.r0.w (e : Env) (h : AHeap) (Q : Post) : wpC Tryd.prog nG ir.count_Of.r0 e h Q = lk (look e 0) (fun v0 => wI Tryd.prog nG (.mv (.const (.int .i64 0))) h fun v2 h => Q .normal [(0, v0)] h) () := lkm (wR (Rn rfl fun v2 h => rfl))
def ir.count_Of.r1 : C := .region [3] [⟨some 3, .mv (.tmp 0), none⟩]
theorem ir.count_Of.r1.w (e : Env) (h : AHeap) (Q : Post) : wpC Tryd.prog nG ir.count_Of.r1 e h Q = lk (look e 0) (fun v0 => wI Tryd.prog nG (.mv (.const v0)) h fun v3 h => Q .normal [(3, v3)] h) () := lkm (wR (Rn rfl fun v3 h => rfl))
def ir.count_Of.r2 : C := .region [3, 4] [⟨some 5, .bin .eql (.tmp 3) (.const (.int .i64 10)), none⟩, ⟨some 4, .mv (.tmp 5), none⟩]
theorem ir.count_Of.r2.w (e : Env) (h : AHeap) (Q : Post) : wpC Tryd.prog nG ir.count_Of.r2 e h Q = lk (look e 3) (fun v3 => wI Tryd.prog nG (.bin .eql (.const v3) (.const (.int .i64 10))) h fun v5 h => wI Tryd.prog nG (.mv (.const v5)) h fun v4 h => Q .normal [(3, v3), (4, v4)] h) () := lkm (wR (Rn rfl fun v5 h => Rn rfl fun v4 h => rfl))
def ir.count_Of.r3 : C := .region [3, 4] [⟨some 6, .bin .eql (.tmp 3) (.const (.int .i64 9)), none⟩, ⟨some 4, .mv (.tmp 6), none⟩]
theorem ir.count_Of.r3.w (e : Env) (h : AHeap) (Q : Post) : wpC Tryd.prog nG ir.count_Of.r3 e h Q = lk (look e 3) (fun v3 => wI Tryd.prog nG (.bin .eql (.const v3) (.const (.int .i64 9))) h fun v6 h => wI Tryd.prog nG (.mv (.const v6)) h fun v4 h => Q .normal [(3, v3), (4, v4)] h) () := lkm (wR (Rn rfl fun v6 h => Rn rfl fun v4 h => rfl))
def ir.count_Of.r4 : C := .region [3, 4] [⟨some 7, .bin .eql (.tmp 3) (.const (.int .i64 8)), none⟩, ⟨some 4, .mv (.tmp 7), none⟩]
theorem ir.count_Of.r4.w (e : Env) (h : AHeap) (Q : Post) : wpC Tryd.prog nG ir.count_Of.r4 e h Q = lk (look e 3) (fun v3 => wI Tryd.prog nG (.bin .eql (.const v3) (.const (.int .i64 8))) h fun v7 h => wI Tryd.prog nG (.mv (.const v7)) h fun v4 h => Q .normal [(3, v3), (4, v4)] h) () := lkm (wR (Rn rfl fun v7 h => Rn rfl fun v4 h => rfl))
def ir.count_Of.r5 : C := .region [3, 4] [⟨some 8, .bin .eql (.tmp 3) (.const (.int .i64 1)), none⟩, ⟨some 4, .mv (.tmp 8), none⟩]
theorem ir.count_Of.r5.w (e : Env) (h : AHeap) (Q : Post) : wpC Tryd.prog nG ir.count_Of.r5 e h Q = lk (look e 3) (fun v3 => wI Tryd.prog nG (.bin .eql (.const v3) (.const (.int .i64 1))) h fun v8 h => wI Tryd.prog nG (.mv (.const v8)) h fun v4 h => Q .normal [(3, v3), (4, v4)] h) () := lkm (wR (Rn rfl fun v8 h => Rn rfl fun v4 h => rfl))
def ir.count_Of.r6 : C := .region [3, 4] [⟨some 9, .bin .eql (.tmp 3) (.const (.int .i64 7)), none⟩, ⟨some 4, .mv (.tmp 9), none⟩]
theorem ir.count_Of.r6.w (e : Env) (h : AHeap) (Q : Post) : wpC Tryd.prog nG ir.count_Of.r6 e h Q = lk (look e 3) (fun v3 => wI Tryd.prog nG (.bin .eql (.const v3) (.const (.int .i64 7))) h fun v9 h => wI Tryd.prog nG (.mv (.const v9)) h fun v4 h => Q .normal [(3, v3), (4, v4)] h) () := lkm (wR (Rn rfl fun v9 h => Rn rfl fun v4 h => rfl))
def ir.count_Of.r7 : C := .region [2] [⟨some 2, .mv (.const (.int .i64 1)), none⟩]
theorem ir.count_Of.r7.w (e : Env) (h : AHeap) (Q : Post) : wpC Tryd.prog nG ir.count_Of.r7 e h Q = wI Tryd.prog nG (.mv (.const (.int .i64 1))) h fun v2 h => Q .normal [(2, v2)] h := wR (Rn rfl fun v2 h => rfl)
def ir.count_Of.r8 : C := .region [3, 10] [⟨some 11, .bin .eql (.tmp 3) (.const (.int .i64 29)), none⟩, ⟨some 10, .mv (.tmp 11), none⟩]
theorem ir.count_Of.r8.w (e : Env) (h : AHeap) (Q : Post) : wpC Tryd.prog nG ir.count_Of.r8 e h Q = lk (look e 3) (fun v3 => wI Tryd.prog nG (.bin .eql (.const v3) (.const (.int .i64 29))) h fun v11 h => wI Tryd.prog nG (.mv (.const v11)) h fun v10 h => Q .normal [(3, v3), (10, v10)] h) () := lkm (wR (Rn rfl fun v11 h => Rn rfl fun v10 h => rfl))
def ir.count_Of.r9 : C := .region [2] [⟨some 2, .mv (.const (.int .i64 2)), none⟩]
theorem ir.count_Of.r9.w (e : Env) (h : AHeap) (Q : Post) : wpC Tryd.prog nG ir.count_Of.r9 e h Q = wI Tryd.prog nG (.mv (.const (.int .i64 2))) h fun v2 h => Q .normal [(2, v2)] h := wR (Rn rfl fun v2 h => rfl)
def ir.count_Of.r10 : C := .region [3, 12] [⟨some 13, .bin .eql (.tmp 3) (.const (.int .i64 26)), none⟩, ⟨some 12, .mv (.tmp 13), none⟩]
theorem ir.count_Of.r10.w (e : Env) (h : AHeap) (Q : Post) : wpC Tryd.prog nG ir.count_Of.r10 e h Q = lk (look e 3) (fun v3 => wI Tryd.prog nG (.bin .eql (.const v3) (.const (.int .i64 26))) h fun v13 h => wI Tryd.prog nG (.mv (.const v13)) h fun v12 h => Q .normal [(3, v3), (12, v12)] h) () := lkm (wR (Rn rfl fun v13 h => Rn rfl fun v12 h => rfl))
def ir.count_Of.r11 : C := .region [2] [⟨some 2, .mv (.const (.int .i64 3)), none⟩]
theorem ir.count_Of.r11.w (e : Env) (h : AHeap) (Q : Post) : wpC Tryd.prog nG ir.count_Of.r11 e h Q = wI Tryd.prog nG (.mv (.const (.int .i64 3))) h fun v2 h => Q .normal [(2, v2)] h := wR (Rn rfl fun v2 h => rfl)
def ir.count_Of.r12 : C := .region [3, 14] [⟨some 15, .bin .eql (.tmp 3) (.const (.int .i64 24)), none⟩, ⟨some 14, .mv (.tmp 15), none⟩]
theorem ir.count_Of.r12.w (e : Env) (h : AHeap) (Q : Post) : wpC Tryd.prog nG ir.count_Of.r12 e h Q = lk (look e 3) (fun v3 => wI Tryd.prog nG (.bin .eql (.const v3) (.const (.int .i64 24))) h fun v15 h => wI Tryd.prog nG (.mv (.const v15)) h fun v14 h => Q .normal [(3, v3), (14, v14)] h) () := lkm (wR (Rn rfl fun v15 h => Rn rfl fun v14 h => rfl))
def ir.count_Of.r13 : C := .region [2] [⟨some 2, .mv (.const (.int .i64 4)), none⟩]
theorem ir.count_Of.r13.w (e : Env) (h : AHeap) (Q : Post) : wpC Tryd.prog nG ir.count_Of.r13 e h Q = wI Tryd.prog nG (.mv (.const (.int .i64 4))) h fun v2 h => Q .normal [(2, v2)] h := wR (Rn rfl fun v2 h => rfl)
def ir.count_Of.r14 : C := .region [3, 16] [⟨some 17, .bin .eql (.tmp 3) (.const (.int .i64 25)), none⟩, ⟨some 16, .mv (.tmp 17), none⟩]
theorem ir.count_Of.r14.w (e : Env) (h : AHeap) (Q : Post) : wpC Tryd.prog nG ir.count_Of.r14 e h Q = lk (look e 3) (fun v3 => wI Tryd.prog nG (.bin .eql (.const v3) (.const (.int .i64 25))) h fun v17 h => wI Tryd.prog nG (.mv (.const v17)) h fun v16 h => Q .normal [(3, v3), (16, v16)] h) () := lkm (wR (Rn rfl fun v17 h => Rn rfl fun v16 h => rfl))
def ir.count_Of.r15 : C := .region [2] [⟨some 2, .mv (.const (.int .i64 5)), none⟩]
theorem ir.count_Of.r15.w (e : Env) (h : AHeap) (Q : Post) : wpC Tryd.prog nG ir.count_Of.r15 e h Q = wI Tryd.prog nG (.mv (.const (.int .i64 5))) h fun v2 h => Q .normal [(2, v2)] h := wR (Rn rfl fun v2 h => rfl)
def ir.count_Of.r16 : C := .region [3, 18] [⟨some 19, .bin .eql (.tmp 3) (.const (.int .i64 27)), none⟩, ⟨some 18, .mv (.tmp 19), none⟩]
theorem ir.count_Of.r16.w (e : Env) (h : AHeap) (Q : Post) : wpC Tryd.prog nG ir.count_Of.r16 e h Q = lk (look e 3) (fun v3 => wI Tryd.prog nG (.bin .eql (.const v3) (.const (.int .i64 27))) h fun v19 h => wI Tryd.prog nG (.mv (.const v19)) h fun v18 h => Q .normal [(3, v3), (18, v18)] h) () := lkm (wR (Rn rfl fun v19 h => Rn rfl fun v18 h => rfl))
def ir.count_Of.r17 : C := .region [3, 18] [⟨some 20, .bin .eql (.tmp 3) (.const (.int .i64 3)), none⟩, ⟨some 18, .mv (.tmp 20), none⟩]
theorem ir.count_Of.r17.w (e : Env) (h : AHeap) (Q : Post) : wpC Tryd.prog nG ir.count_Of.r17 e h Q = lk (look e 3) (fun v3 => wI Tryd.prog nG (.bin .eql (.const v3) (.const (.int .i64 3))) h fun v20 h => wI Tryd.prog nG (.mv (.const v20)) h fun v18 h => Q .normal [(3, v3), (18, v18)] h) () := lkm (wR (Rn rfl fun v20 h => Rn rfl fun v18 h => rfl))
def ir.count_Of.r18 : C := .region [2] [⟨some 2, .mv (.const (.int .i64 9)), none⟩]
theorem ir.count_Of.r18.w (e : Env) (h : AHeap) (Q : Post) : wpC Tryd.prog nG ir.count_Of.r18 e h Q = wI Tryd.prog nG (.mv (.const (.int .i64 9))) h fun v2 h => Q .normal [(2, v2)] h := wR (Rn rfl fun v2 h => rfl)
def ir.count_Of.r19 : C := .region [3, 21] [⟨some 22, .bin .eql (.tmp 3) (.const (.int .i64 22)), none⟩, ⟨some 21, .mv (.tmp 22), none⟩]
theorem ir.count_Of.r19.w (e : Env) (h : AHeap) (Q : Post) : wpC Tryd.prog nG ir.count_Of.r19 e h Q = lk (look e 3) (fun v3 => wI Tryd.prog nG (.bin .eql (.const v3) (.const (.int .i64 22))) h fun v22 h => wI Tryd.prog nG (.mv (.const v22)) h fun v21 h => Q .normal [(3, v3), (21, v21)] h) () := lkm (wR (Rn rfl fun v22 h => Rn rfl fun v21 h => rfl))
def ir.count_Of.r20 : C := .region [2] [⟨some 2, .mv (.const (.int .i64 11)), none⟩]
theorem ir.count_Of.r20.w (e : Env) (h : AHeap) (Q : Post) : wpC Tryd.prog nG ir.count_Of.r20 e h Q = wI Tryd.prog nG (.mv (.const (.int .i64 11))) h fun v2 h => Q .normal [(2, v2)] h := wR (Rn rfl fun v2 h => rfl)
def ir.count_Of.r21 : C := .region [3, 23] [⟨some 24, .bin .eql (.tmp 3) (.const (.int .i64 28)), none⟩, ⟨some 23, .mv (.tmp 24), none⟩]
theorem ir.count_Of.r21.w (e : Env) (h : AHeap) (Q : Post) : wpC Tryd.prog nG ir.count_Of.r21 e h Q = lk (look e 3) (fun v3 => wI Tryd.prog nG (.bin .eql (.const v3) (.const (.int .i64 28))) h fun v24 h => wI Tryd.prog nG (.mv (.const v24)) h fun v23 h => Q .normal [(3, v3), (23, v23)] h) () := lkm (wR (Rn rfl fun v24 h => Rn rfl fun v23 h => rfl))
def ir.count_Of.r22 : C := .region [2] [⟨some 2, .mv (.const (.int .i64 12)), none⟩]
theorem ir.count_Of.r22.w (e : Env) (h : AHeap) (Q : Post) : wpC Tryd.prog nG ir.count_Of.r22 e h Q = wI Tryd.prog nG (.mv (.const (.int .i64 12))) h fun v2 h => Q .normal [(2, v2)] h := wR (Rn rfl fun v2 h => rfl)
def ir.count_Of.r23 : C := .region [3, 25] [⟨some 26, .bin .eql (.tmp 3) (.const (.int .i64 23)), none⟩, ⟨some 25, .mv (.tmp 26), none⟩]
theorem ir.count_Of.r23.w (e : Env) (h : AHeap) (Q : Post) : wpC Tryd.prog nG ir.count_Of.r23 e h Q = lk (look e 3) (fun v3 => wI Tryd.prog nG (.bin .eql (.const v3) (.const (.int .i64 23))) h fun v26 h => wI Tryd.prog nG (.mv (.const v26)) h fun v25 h => Q .normal [(3, v3), (25, v25)] h) () := lkm (wR (Rn rfl fun v26 h => Rn rfl fun v25 h => rfl))
def ir.count_Of.r24 : C := .region [2] [⟨some 2, .mv (.const (.int .i64 15)), none⟩]
theorem ir.count_Of.r24.w (e : Env) (h : AHeap) (Q : Post) : wpC Tryd.prog nG ir.count_Of.r24 e h Q = wI Tryd.prog nG (.mv (.const (.int .i64 15))) h fun v2 h => Q .normal [(2, v2)] h := wR (Rn rfl fun v2 h => rfl)
def ir.count_Of.r25 : C := .region [27] [⟨some 28, .bin .eql (.tmp 3) (.const (.int .i64 6)), none⟩, ⟨some 27, .mv (.tmp 28), none⟩]
theorem ir.count_Of.r25.w (e : Env) (h : AHeap) (Q : Post) : wpC Tryd.prog nG ir.count_Of.r25 e h Q = lk (look e 3) (fun v3 => wI Tryd.prog nG (.bin .eql (.const v3) (.const (.int .i64 6))) h fun v28 h => wI Tryd.prog nG (.mv (.const v28)) h fun v27 h => Q .normal [(27, v27)] h) () := lkm (wR (Rn rfl fun v28 h => Rn rfl fun v27 h => rfl))
def ir.count_Of.r26 : C := .region [2] [⟨some 2, .mv (.const (.int .i64 10)), none⟩]
theorem ir.count_Of.r26.w (e : Env) (h : AHeap) (Q : Post) : wpC Tryd.prog nG ir.count_Of.r26 e h Q = wI Tryd.prog nG (.mv (.const (.int .i64 10))) h fun v2 h => Q .normal [(2, v2)] h := wR (Rn rfl fun v2 h => rfl)
def ir.count_Of.r27 : C := .region [2] [⟨some 2, .mv (.const (.int .i64 (-1))), none⟩]
theorem ir.count_Of.r27.w (e : Env) (h : AHeap) (Q : Post) : wpC Tryd.prog nG ir.count_Of.r27 e h Q = wI Tryd.prog nG (.mv (.const (.int .i64 (-1)))) h fun v2 h => Q .normal [(2, v2)] h := wR (Rn rfl fun v2 h => rfl)
def ir.count_Of : C := (.seq ir.count_Of.r0 (.seq (.seq ir.count_Of.r1 (.block 0 (.seq (.seq ir.count_Of.r2 (.cond (.tmp 4) .skip (.seq ir.count_Of.r3 (.cond (.tmp 4) .skip (.seq ir.count_Of.r4 (.cond (.tmp 4) .skip (.seq ir.count_Of.r5 (.cond (.tmp 4) .skip ir.count_Of.r6)))))))) (.cond (.tmp 4) (.seq ir.count_Of.r7 .ret) (.seq ir.count_Of.r8 (.cond (.tmp 10) (.seq ir.count_Of.r9 .ret) (.seq ir.count_Of.r10 (.cond (.tmp 12) (.seq ir.count_Of.r11 .ret) (.seq ir.count_Of.r12 (.cond (.tmp 14) (.seq ir.count_Of.r13 .ret) (.seq ir.count_Of.r14 (.cond (.tmp 16) (.seq ir.count_Of.r15 .ret) (.seq (.seq ir.count_Of.r16 (.cond (.tmp 18) .skip ir.count_Of.r17)) (.cond (.tmp 18) (.seq ir.count_Of.r18 .ret) (.seq ir.count_Of.r19 (.cond (.tmp 21) (.seq ir.count_Of.r20 .ret) (.seq ir.count_Of.r21 (.cond (.tmp 23) (.seq ir.count_Of.r22 .ret) (.seq ir.count_Of.r23 (.cond (.tmp 25) (.seq ir.count_Of.r24 .ret) (.seq ir.count_Of.r25 (.cond (.tmp 27) (.seq ir.count_Of.r26 .ret) .skip)))))))))))))))))))))) (.seq ir.count_Of.r27 .ret)))
theorem ir.count_Of.bw (e : Env) (h : AHeap) (Q : Post) : wpC Tryd.prog nG ir.count_Of e h Q = wpC Tryd.prog nG (.seq ir.count_Of.r0 (.seq (.seq ir.count_Of.r1 (.block 0 (.seq (.seq ir.count_Of.r2 (.cond (.tmp 4) .skip (.seq ir.count_Of.r3 (.cond (.tmp 4) .skip (.seq ir.count_Of.r4 (.cond (.tmp 4) .skip (.seq ir.count_Of.r5 (.cond (.tmp 4) .skip ir.count_Of.r6)))))))) (.cond (.tmp 4) (.seq ir.count_Of.r7 .ret) (.seq ir.count_Of.r8 (.cond (.tmp 10) (.seq ir.count_Of.r9 .ret) (.seq ir.count_Of.r10 (.cond (.tmp 12) (.seq ir.count_Of.r11 .ret) (.seq ir.count_Of.r12 (.cond (.tmp 14) (.seq ir.count_Of.r13 .ret) (.seq ir.count_Of.r14 (.cond (.tmp 16) (.seq ir.count_Of.r15 .ret) (.seq (.seq ir.count_Of.r16 (.cond (.tmp 18) .skip ir.count_Of.r17)) (.cond (.tmp 18) (.seq ir.count_Of.r18 .ret) (.seq ir.count_Of.r19 (.cond (.tmp 21) (.seq ir.count_Of.r20 .ret) (.seq ir.count_Of.r21 (.cond (.tmp 23) (.seq ir.count_Of.r22 .ret) (.seq ir.count_Of.r23 (.cond (.tmp 25) (.seq ir.count_Of.r24 .ret) (.seq ir.count_Of.r25 (.cond (.tmp 27) (.seq ir.count_Of.r26 .ret) .skip)))))))))))))))))))))) (.seq ir.count_Of.r27 .ret))) e h Q := (rfl)
def ir.count_Of.rs : List RV := [.tmp 2]
theorem ir.count_Of.ok : resC Tryd.prog nG 29 ir.count_Of.ks (Tryd.f30.body.getD .skip) = some ir.count_Of := by kernel_rfl
theorem ir.count_Of.rok : Tryd.f30.results.toList.mapM (resR Tryd.prog) = some ir.count_Of.rs := by kernel_rfl
theorem ir.count_Of.spec {args : List Value} {h : AHeap} {v : Value} {h' : AHeap} (hn : args.length ≤ 29) :
    (wpC Tryd.prog nG ir.count_Of (args.zipIdx.map fun p => (p.2, p.1)) h (retQ ir.count_Of.rs h v h')) → Spec Tryd.prog nG fn.count_Of args h v h' :=
  Spec.intro (fn := Tryd.f30) Tryd.func30 (c := Tryd.f30.body.getD .skip) (by kernel_rfl) ir.count_Of.ok ir.count_Of.rok hn
attribute [go_sem ↓] ir.count_Of.r0.w ir.count_Of.r1.w ir.count_Of.r2.w ir.count_Of.r3.w ir.count_Of.r4.w ir.count_Of.r5.w ir.count_Of.r6.w ir.count_Of.r7.w ir.count_Of.r8.w ir.count_Of.r9.w ir.count_Of.r10.w ir.count_Of.r11.w ir.count_Of.r12.w ir.count_Of.r13.w ir.count_Of.r14.w ir.count_Of.r15.w ir.count_Of.r16.w ir.count_Of.r17.w ir.count_Of.r18.w ir.count_Of.r19.w ir.count_Of.r20.w ir.count_Of.r21.w ir.count_Of.r22.w ir.count_Of.r23.w ir.count_Of.r24.w ir.count_Of.r25.w ir.count_Of.r26.w ir.count_Of.r27.w
attribute [go_sem] ir.count_Of.rs

/-! ### fingerpost/fingerpostref24.Of: function 31 -/
def ir.ref24_Of.ks : Nat → List Nat := fun
  | 0 => [0]
  | 1 => [3]
  | 2 => [3, 4]
  | 3 => [3, 4]
  | 4 => [3, 4]
  | 5 => [3, 4]
  | 6 => [3, 4]
  | 7 => [2]
  | 8 => [3, 10]
  | 9 => [2]
  | 10 => [3, 12]
  | 11 => [2]
  | 12 => [3, 14]
  | 13 => [2]
  | 14 => [3, 16]
  | 15 => [2]
  | 16 => [3, 18]
  | 17 => [3, 18]
  | 18 => [2]
  | 19 => [3, 21]
  | 20 => [2]
  | 21 => [3, 23]
  | 22 => [2]
  | 23 => [3, 25]
  | 24 => [2]
  | 25 => [27]
  | 26 => [2]
  | 27 => [2]
  | _ => []
def ir.ref24_Of.r0 : C := .region [0] [⟨some 2, .mv (.const (.int .i64 0)), none⟩]
theorem ir.ref24_Of.r0.w (e : Env) (h : AHeap) (Q : Post) : wpC Tryd.prog nG ir.ref24_Of.r0 e h Q = lk (look e 0) (fun v0 => wI Tryd.prog nG (.mv (.const (.int .i64 0))) h fun v2 h => Q .normal [(0, v0)] h) () := lkm (wR (Rn rfl fun v2 h => rfl))
def ir.ref24_Of.r1 : C := .region [3] [⟨some 3, .mv (.tmp 0), none⟩]
theorem ir.ref24_Of.r1.w (e : Env) (h : AHeap) (Q : Post) : wpC Tryd.prog nG ir.ref24_Of.r1 e h Q = lk (look e 0) (fun v0 => wI Tryd.prog nG (.mv (.const v0)) h fun v3 h => Q .normal [(3, v3)] h) () := lkm (wR (Rn rfl fun v3 h => rfl))
def ir.ref24_Of.r2 : C := .region [3, 4] [⟨some 5, .bin .eql (.tmp 3) (.const (.int .i64 10)), none⟩, ⟨some 4, .mv (.tmp 5), none⟩]
theorem ir.ref24_Of.r2.w (e : Env) (h : AHeap) (Q : Post) : wpC Tryd.prog nG ir.ref24_Of.r2 e h Q = lk (look e 3) (fun v3 => wI Tryd.prog nG (.bin .eql (.const v3) (.const (.int .i64 10))) h fun v5 h => wI Tryd.prog nG (.mv (.const v5)) h fun v4 h => Q .normal [(3, v3), (4, v4)] h) () := lkm (wR (Rn rfl fun v5 h => Rn rfl fun v4 h => rfl))
def ir.ref24_Of.r3 : C := .region [3, 4] [⟨some 6, .bin .eql (.tmp 3) (.const (.int .i64 9)), none⟩, ⟨some 4, .mv (.tmp 6), none⟩]
theorem ir.ref24_Of.r3.w (e : Env) (h : AHeap) (Q : Post) : wpC Tryd.prog nG ir.ref24_Of.r3 e h Q = lk (look e 3) (fun v3 => wI Tryd.prog nG (.bin .eql (.const v3) (.const (.int .i64 9))) h fun v6 h => wI Tryd.prog nG (.mv (.const v6)) h fun v4 h => Q .normal [(3, v3), (4, v4)] h) () := lkm (wR (Rn rfl fun v6 h => Rn rfl fun v4 h => rfl))
def ir.ref24_Of.r4 : C := .region [3, 4] [⟨some 7, .bin .eql (.tmp 3) (.const (.int .i64 8)), none⟩, ⟨some 4, .mv (.tmp 7), none⟩]
theorem ir.ref24_Of.r4.w (e : Env) (h : AHeap) (Q : Post) : wpC Tryd.prog nG ir.ref24_Of.r4 e h Q = lk (look e 3) (fun v3 => wI Tryd.prog nG (.bin .eql (.const v3) (.const (.int .i64 8))) h fun v7 h => wI Tryd.prog nG (.mv (.const v7)) h fun v4 h => Q .normal [(3, v3), (4, v4)] h) () := lkm (wR (Rn rfl fun v7 h => Rn rfl fun v4 h => rfl))
def ir.ref24_Of.r5 : C := .region [3, 4] [⟨some 8, .bin .eql (.tmp 3) (.const (.int .i64 1)), none⟩, ⟨some 4, .mv (.tmp 8), none⟩]
theorem ir.ref24_Of.r5.w (e : Env) (h : AHeap) (Q : Post) : wpC Tryd.prog nG ir.ref24_Of.r5 e h Q = lk (look e 3) (fun v3 => wI Tryd.prog nG (.bin .eql (.const v3) (.const (.int .i64 1))) h fun v8 h => wI Tryd.prog nG (.mv (.const v8)) h fun v4 h => Q .normal [(3, v3), (4, v4)] h) () := lkm (wR (Rn rfl fun v8 h => Rn rfl fun v4 h => rfl))
def ir.ref24_Of.r6 : C := .region [3, 4] [⟨some 9, .bin .eql (.tmp 3) (.const (.int .i64 7)), none⟩, ⟨some 4, .mv (.tmp 9), none⟩]
theorem ir.ref24_Of.r6.w (e : Env) (h : AHeap) (Q : Post) : wpC Tryd.prog nG ir.ref24_Of.r6 e h Q = lk (look e 3) (fun v3 => wI Tryd.prog nG (.bin .eql (.const v3) (.const (.int .i64 7))) h fun v9 h => wI Tryd.prog nG (.mv (.const v9)) h fun v4 h => Q .normal [(3, v3), (4, v4)] h) () := lkm (wR (Rn rfl fun v9 h => Rn rfl fun v4 h => rfl))
def ir.ref24_Of.r7 : C := .region [2] [⟨some 2, .mv (.const (.int .i64 1)), none⟩]
theorem ir.ref24_Of.r7.w (e : Env) (h : AHeap) (Q : Post) : wpC Tryd.prog nG ir.ref24_Of.r7 e h Q = wI Tryd.prog nG (.mv (.const (.int .i64 1))) h fun v2 h => Q .normal [(2, v2)] h := wR (Rn rfl fun v2 h => rfl)
def ir.ref24_Of.r8 : C := .region [3, 10] [⟨some 11, .bin .eql (.tmp 3) (.const (.int .i64 29)), none⟩, ⟨some 10, .mv (.tmp 11), none⟩]
theorem ir.ref24_Of.r8.w (e : Env) (h : AHeap) (Q : Post) : wpC Tryd.prog nG ir.ref24_Of.r8 e h Q = lk (look e 3) (fun v3 => wI Tryd.prog nG (.bin .eql (.const v3) (.const (.int .i64 29))) h fun v11 h => wI Tryd.prog nG (.mv (.const v11)) h fun v10 h => Q .normal [(3, v3), (10, v10)] h) () := lkm (wR (Rn rfl fun v11 h => Rn rfl fun v10 h => rfl))
def ir.ref24_Of.r9 : C := .region [2] [⟨some 2, .mv (.const (.int .i64 2)), none⟩]
theorem ir.ref24_Of.r9.w (e : Env) (h : AHeap) (Q : Post) : wpC Tryd.prog nG ir.ref24_Of.r9 e h Q = wI Tryd.prog nG (.mv (.const (.int .i64 2))) h fun v2 h => Q .normal [(2, v2)] h := wR (Rn rfl fun v2 h => rfl)
def ir.ref24_Of.r10 : C := .region [3, 12] [⟨some 13, .bin .eql (.tmp 3) (.const (.int .i64 26)), none⟩, ⟨some 12, .mv (.tmp 13), none⟩]
theorem ir.ref24_Of.r10.w (e : Env) (h : AHeap) (Q : Post) : wpC Tryd.prog nG ir.ref24_Of.r10 e h Q = lk (look e 3) (fun v3 => wI Tryd.prog nG (.bin .eql (.const v3) (.const (.int .i64 26))) h fun v13 h => wI Tryd.prog nG (.mv (.const v13)) h fun v12 h => Q .normal [(3, v3), (12, v12)] h) () := lkm (wR (Rn rfl fun v13 h => Rn rfl fun v12 h => rfl))
def ir.ref24_Of.r11 : C := .region [2] [⟨some 2, .mv (.const (.int .i64 3)), none⟩]
theorem ir.ref24_Of.r11.w (e : Env) (h : AHeap) (Q : Post) : wpC Tryd.prog nG ir.ref24_Of.r11 e h Q = wI Tryd.prog nG (.mv (.const (.int .i64 3))) h fun v2 h => Q .normal [(2, v2)] h := wR (Rn rfl fun v2 h => rfl)
def ir.ref24_Of.r12 : C := .region [3, 14] [⟨some 15, .bin .eql (.tmp 3) (.const (.int .i64 24)), none⟩, ⟨some 14, .mv (.tmp 15), none⟩]
theorem ir.ref24_Of.r12.w (e : Env) (h : AHeap) (Q : Post) : wpC Tryd.prog nG ir.ref24_Of.r12 e h Q = lk (look e 3) (fun v3 => wI Tryd.prog nG (.bin .eql (.const v3) (.const (.int .i64 24))) h fun v15 h => wI Tryd.prog nG (.mv (.const v15)) h fun v14 h => Q .normal [(3, v3), (14, v14)] h) () := lkm (wR (Rn rfl fun v15 h => Rn rfl fun v14 h => rfl))
def ir.ref24_Of.r13 : C := .region [2] [⟨some 2, .mv (.const (.int .i64 4)), none⟩]
theorem ir.ref24_Of.r13.w (e : Env) (h : AHeap) (Q : Post) : wpC Tryd.prog nG ir.ref24_Of.r13 e h Q = wI Tryd.prog nG (.mv (.const (.int .i64 4))) h fun v2 h => Q .normal [(2, v2)] h := wR (Rn rfl fun v2 h => rfl)
def ir.ref24_Of.r14 : C := .region [3, 16] [⟨some 17, .bin .eql (.tmp 3) (.const (.int .i64 25)), none⟩, ⟨some 16, .mv (.tmp 17), none⟩]
theorem ir.ref24_Of.r14.w (e : Env) (h : AHeap) (Q : Post) : wpC Tryd.prog nG ir.ref24_Of.r14 e h Q = lk (look e 3) (fun v3 => wI Tryd.prog nG (.bin .eql (.const v3) (.const (.int .i64 25))) h fun v17 h => wI Tryd.prog nG (.mv (.const v17)) h fun v16 h => Q .normal [(3, v3), (16, v16)] h) () := lkm (wR (Rn rfl fun v17 h => Rn rfl fun v16 h => rfl))
def ir.ref24_Of.r15 : C := .region [2] [⟨some 2, .mv (.const (.int .i64 5)), none⟩]
theorem ir.ref24_Of.r15.w (e : Env) (h : AHeap) (Q : Post) : wpC Tryd.prog nG ir.ref24_Of.r15 e h Q = wI Tryd.prog nG (.mv (.const (.int .i64 5))) h fun v2 h => Q .normal [(2, v2)] h := wR (Rn rfl fun v2 h => rfl)
def ir.ref24_Of.r16 : C := .region [3, 18] [⟨some 19, .bin .eql (.tmp 3) (.const (.int .i64 27)), none⟩, ⟨some 18, .mv (.tmp 19), none⟩]
theorem ir.ref24_Of.r16.w (e : Env) (h : AHeap) (Q : Post) : wpC Tryd.prog nG ir.ref24_Of.r16 e h Q = lk (look e 3) (fun v3 => wI Tryd.prog nG (.bin .eql (.const v3) (.const (.int .i64 27))) h fun v19 h => wI Tryd.prog nG (.mv (.const v19)) h fun v18 h => Q .normal [(3, v3), (18, v18)] h) () := lkm (wR (Rn rfl fun v19 h => Rn rfl fun v18 h => rfl))
def ir.ref24_Of.r17 : C := .region [3, 18] [⟨some 20, .bin .eql (.tmp 3) (.const (.int .i64 3)), none⟩, ⟨some 18, .mv (.tmp 20), none⟩]
theorem ir.ref24_Of.r17.w (e : Env) (h : AHeap) (Q : Post) : wpC Tryd.prog nG ir.ref24_Of.r17 e h Q = lk (look e 3) (fun v3 => wI Tryd.prog nG (.bin .eql (.const v3) (.const (.int .i64 3))) h fun v20 h => wI Tryd.prog nG (.mv (.const v20)) h fun v18 h => Q .normal [(3, v3), (18, v18)] h) () := lkm (wR (Rn rfl fun v20 h => Rn rfl fun v18 h => rfl))
def ir.ref24_Of.r18 : C := .region [2] [⟨some 2, .mv (.const (.int .i64 9)), none⟩]
theorem ir.ref24_Of.r18.w (e : Env) (h : AHeap) (Q : Post) : wpC Tryd.prog nG ir.ref24_Of.r18 e h Q = wI Tryd.prog nG (.mv (.const (.int .i64 9))) h fun v2 h => Q .normal [(2, v2)] h := wR (Rn rfl fun v2 h => rfl)
def ir.ref24_Of.r19 : C := .region [3, 21] [⟨some 22, .bin .eql (.tmp 3) (.const (.int .i64 22)), none⟩, ⟨some 21, .mv (.tmp 22), none⟩]
theorem ir.ref24_Of.r19.w (e : Env) (h : AHeap) (Q : Post) : wpC Tryd.prog nG ir.ref24_Of.r19 e h Q = lk (look e 3) (fun v3 => wI Tryd.prog nG (.bin .eql (.const v3) (.const (.int .i64 22))) h fun v22 h => wI Tryd.prog nG (.mv (.const v22)) h fun v21 h => Q .normal [(3, v3), (21, v21)] h) () := lkm (wR (Rn rfl fun v22 h => Rn rfl fun v21 h => rfl))
def ir.ref24_Of.r20 : C := .region [2] [⟨some 2, .mv (.const (.int .i64 11)), none⟩]
theorem ir.ref24_Of.r20.w (e : Env) (h : AHeap) (Q : Post) : wpC Tryd.prog nG ir.ref24_Of.r20 e h Q = wI Tryd.prog nG (.mv (.const (.int .i64 11))) h fun v2 h => Q .normal [(2, v2)] h := wR (Rn rfl fun v2 h => rfl)
def ir.ref24_Of.r21 : C := .region [3, 23] [⟨some 24, .bin .eql (.tmp 3) (.const (.int .i64 28)), none⟩, ⟨some 23, .mv (.tmp 24), none⟩]
theorem ir.ref24_Of.r21.w (e : Env) (h : AHeap) (Q : Post) : wpC Tryd.prog nG ir.ref24_Of.r21 e h Q = lk (look e 3) (fun v3 => wI Tryd.prog nG (.bin .eql (.const v3) (.const (.int .i64 28))) h fun v24 h => wI Tryd.prog nG (.mv (.const v24)) h fun v23 h => Q .normal [(3, v3), (23, v23)] h) () := lkm (wR (Rn rfl fun v24 h => Rn rfl fun v23 h => rfl))
def ir.ref24_Of.r22 : C := .region [2] [⟨some 2, .mv (.const (.int .i64 12)), none⟩]
theorem ir.ref24_Of.r22.w (e : Env) (h : AHeap) (Q : Post) : wpC Tryd.prog nG ir.ref24_Of.r22 e h Q = wI Tryd.prog nG (.mv (.const (.int .i64 12))) h fun v2 h => Q .normal [(2, v2)] h := wR (Rn rfl fun v2 h => rfl)
def ir.ref24_Of.r23 : C := .region [3, 25] [⟨some 26, .bin .eql (.tmp 3) (.const (.int .i64 23)), none⟩, ⟨some 25, .mv (.tmp 26), none⟩]
theorem ir.ref24_Of.r23.w (e : Env) (h : AHeap) (Q : Post) : wpC Tryd.prog nG ir.ref24_Of.r23 e h Q = lk (look e 3) (fun v3 => wI Tryd.prog nG (.bin .eql (.const v3) (.const (.int .i64 23))) h fun v26 h => wI Tryd.prog nG (.mv (.const v26)) h fun v25 h => Q .normal [(3, v3), (25, v25)] h) () := lkm (wR (Rn rfl fun v26 h => Rn rfl fun v25 h => rfl))
def ir.ref24_Of.r24 : C := .region [2] [⟨some 2, .mv (.const (.int .i64 15)), none⟩]
theorem ir.ref24_Of.r24.w (e : Env) (h : AHeap) (Q : Post) : wpC Tryd.prog nG ir.ref24_Of.r24 e h Q = wI Tryd.prog nG (.mv (.const (.int .i64 15))) h fun v2 h => Q .normal [(2, v2)] h := wR (Rn rfl fun v2 h => rfl)
def ir.ref24_Of.r25 : C := .region [27] [⟨some 28, .bin .eql (.tmp 3) (.const (.int .i64 6)), none⟩, ⟨some 27, .mv (.tmp 28), none⟩]
theorem ir.ref24_Of.r25.w (e : Env) (h : AHeap) (Q : Post) : wpC Tryd.prog nG ir.ref24_Of.r25 e h Q = lk (look e 3) (fun v3 => wI Tryd.prog nG (.bin .eql (.const v3) (.const (.int .i64 6))) h fun v28 h => wI Tryd.prog nG (.mv (.const v28)) h fun v27 h => Q .normal [(27, v27)] h) () := lkm (wR (Rn rfl fun v28 h => Rn rfl fun v27 h => rfl))
def ir.ref24_Of.r26 : C := .region [2] [⟨some 2, .mv (.const (.int .i64 10)), none⟩]
theorem ir.ref24_Of.r26.w (e : Env) (h : AHeap) (Q : Post) : wpC Tryd.prog nG ir.ref24_Of.r26 e h Q = wI Tryd.prog nG (.mv (.const (.int .i64 10))) h fun v2 h => Q .normal [(2, v2)] h := wR (Rn rfl fun v2 h => rfl)
def ir.ref24_Of.r27 : C := .region [2] [⟨some 2, .mv (.const (.int .i64 (-1))), none⟩]
theorem ir.ref24_Of.r27.w (e : Env) (h : AHeap) (Q : Post) : wpC Tryd.prog nG ir.ref24_Of.r27 e h Q = wI Tryd.prog nG (.mv (.const (.int .i64 (-1)))) h fun v2 h => Q .normal [(2, v2)] h := wR (Rn rfl fun v2 h => rfl)
def ir.ref24_Of : C := (.seq ir.ref24_Of.r0 (.seq (.seq ir.ref24_Of.r1 (.block 0 (.seq (.seq ir.ref24_Of.r2 (.cond (.tmp 4) .skip (.seq ir.ref24_Of.r3 (.cond (.tmp 4) .skip (.seq ir.ref24_Of.r4 (.cond (.tmp 4) .skip (.seq ir.ref24_Of.r5 (.cond (.tmp 4) .skip ir.ref24_Of.r6)))))))) (.cond (.tmp 4) (.seq ir.ref24_Of.r7 .ret) (.seq ir.ref24_Of.r8 (.cond (.tmp 10) (.seq ir.ref24_Of.r9 .ret) (.seq ir.ref24_Of.r10 (.cond (.tmp 12) (.seq ir.ref24_Of.r11 .ret) (.seq ir.ref24_Of.r12 (.cond (.tmp 14) (.seq ir.ref24_Of.r13 .ret) (.seq ir.ref24_Of.r14 (.cond (.tmp 16) (.seq ir.ref24_Of.r15 .ret) (.seq (.seq ir.ref24_Of.r16 (.cond (.tmp 18) .skip ir.ref24_Of.r17)) (.cond (.tmp 18) (.seq ir.ref24_Of.r18 .ret) (.seq ir.ref24_Of.r19 (.cond (.tmp 21) (.seq ir.ref24_Of.r20 .ret) (.seq ir.ref24_Of.r21 (.cond (.tmp 23) (.seq ir.ref24_Of.r22 .ret) (.seq ir.ref24_Of.r23 (.cond (.tmp 25) (.seq ir.ref24_Of.r24 .ret) (.seq ir.ref24_Of.r25 (.cond (.tmp 27) (.seq ir.ref24_Of.r26 .ret) .skip)))))))))))))))))))))) (.seq ir.ref24_Of.r27 .ret)))
theorem ir.ref24_Of.bw (e : Env) (h : AHeap) (Q : Post) : wpC Tryd.prog nG ir.ref24_Of e h Q = wpC Tryd.prog nG (.seq ir.ref24_Of.r0 (.seq (.seq ir.ref24_Of.r1 (.block 0 (.seq (.seq ir.ref24_Of.r2 (.cond (.tmp 4) .skip (.seq ir.ref24_Of.r3 (.cond (.tmp 4) .skip (.seq ir.ref24_Of.r4 (.cond (.tmp 4) .skip (.seq ir.ref24_Of.r5 (.cond (.tmp 4) .skip ir.ref24_Of.r6)))))))) (.cond (.tmp 4) (.seq ir.ref24_Of.r7 .ret) (.seq ir.ref24_Of.r8 (.cond (.tmp 10) (.seq ir.ref24_Of.r9 .ret) (.seq ir.ref24_Of.r10 (.cond (.tmp 12) (.seq ir.ref24_Of.r11 .ret) (.seq ir.ref24_Of.r12 (.cond (.tmp 14) (.seq ir.ref24_Of.r13 .ret) (.seq ir.ref24_Of.r14 (.cond (.tmp 16) (.seq ir.ref24_Of.r15 .ret) (.seq (.seq ir.ref24_Of.r16 (.cond (.tmp 18) .skip ir.ref24_Of.r17)) (.cond (.tmp 18) (.seq ir.ref24_Of.r18 .ret) (.seq ir.ref24_Of.r19 (.cond (.tmp 21) (.seq ir.ref24_Of.r20 .ret) (.seq ir.ref24_Of.r21 (.cond (.tmp 23) (.seq ir.ref24_Of.r22 .ret) (.seq ir.ref24_Of.r23 (.cond (.tmp 25) (.seq ir.ref24_Of.r24 .ret) (.seq ir.ref24_Of.r25 (.cond (.tmp 27) (.seq ir.ref24_Of.r26 .ret) .skip)))))))))))))))))))))) (.seq ir.ref24_Of.r27 .ret))) e h Q := (rfl)
def ir.ref24_Of.rs : List RV := [.tmp 2]
theorem ir.ref24_Of.ok : resC Tryd.prog nG 29 ir.ref24_Of.ks (Tryd.f31.body.getD .skip) = some ir.ref24_Of := by kernel_rfl
theorem ir.ref24_Of.rok : Tryd.f31.results.toList.mapM (resR Tryd.prog) = some ir.ref24_Of.rs := by kernel_rfl
theorem ir.ref24_Of.spec {args : List Value} {h : AHeap} {v : Value} {h' : AHeap} (hn : args.length ≤ 29) :
    (wpC Tryd.prog nG ir.ref24_Of (args.zipIdx.map fun p => (p.2, p.1)) h (retQ ir.ref24_Of.rs h v h')) → Spec Tryd.prog nG fn.ref24_Of args h v h' :=
  Spec.intro (fn := Tryd.f31) Tryd.func31 (c := Tryd.f31.body.getD .skip) (by kernel_rfl) ir.ref24_Of.ok ir.ref24_Of.rok hn
attribute [go_sem ↓] ir.ref24_Of.r0.w ir.ref24_Of.r1.w ir.ref24_Of.r2.w ir.ref24_Of.r3.w ir.ref24_Of.r4.w ir.ref24_Of.r5.w ir.ref24_Of.r6.w ir.ref24_Of.r7.w ir.ref24_Of.r8.w ir.ref24_Of.r9.w ir.ref24_Of.r10.w ir.ref24_Of.r11.w ir.ref24_Of.r12.w ir.ref24_Of.r13.w ir.ref24_Of.r14.w ir.ref24_Of.r15.w ir.ref24_Of.r16.w ir.ref24_Of.r17.w ir.ref24_Of.r18.w ir.ref24_Of.r19.w ir.ref24_Of.r20.w ir.ref24_Of.r21.w ir.ref24_Of.r22.w ir.ref24_Of.r23.w ir.ref24_Of.r24.w ir.ref24_Of.r25.w ir.ref24_Of.r26.w ir.ref24_Of.r27.w
attribute [go_sem] ir.ref24_Of.rs

/-! ### (*sync/atomic.Int64).Add: function 48 -/
def ir.sync_atomic_Int64_Add.ks : Nat → List Nat := fun
  | 0 => [0, 1]
  | 1 => [4]
  | _ => []
def ir.sync_atomic_Int64_Add.r0 : C := .region [0, 1] [⟨some 4, .mv (.const (.int .i64 0)), none⟩]
theorem ir.sync_atomic_Int64_Add.r0.w (e : Env) (h : AHeap) (Q : Post) : wpC Tryd.prog nG ir.sync_atomic_Int64_Add.r0 e h Q = lk (look e 0) (fun v0 => lk (look e 1) (fun v1 => wI Tryd.prog nG (.mv (.const (.int .i64 0))) h fun v4 h => Q .normal [(0, v0), (1, v1)] h) ()) () := lkm (lkm (wR (Rn rfl fun v4 h => rfl)))
def ir.sync_atomic_Int64_Add.r1 : C := .region [4] [⟨some 5, .mv (.tmp 0), none⟩, ⟨some 6, .nilck (.tmp 5), none⟩, ⟨some 7, .fld 0 (.tmp 6), none⟩, ⟨some 8, .mv (.tmp 1), none⟩, ⟨some 9, .xc none fn.sync_atomic_AddInt64 [.tmp 7, .tmp 8], none⟩, ⟨some 4, .mv (.tmp 9), none⟩]
theorem ir.sync_atomic_Int64_Add.r1.w (e : Env) (h : AHeap) (Q : Post) : wpC Tryd.prog nG ir.sync_atomic_Int64_Add.r1 e h Q = lk (look e 0) (fun v0 => lk (look e 1) (fun v1 => wI Tryd.prog nG (.mv (.const v0)) h fun v5 h => wI Tryd.prog nG (.nilck (.const v5)) h fun v6 h => wI Tryd.prog nG (.fld 0 (.const v6)) h fun v7 h => wI Tryd.prog nG (.mv (.const v1)) h fun v8 h => wI Tryd.prog nG (.xc none fn.sync_atomic_AddInt64 [.const v7, .const v8]) h fun v9 h => wI Tryd.prog nG (.mv (.const v9)) h fun v4 h => Q .normal [(4, v4)] h) ()) () := lkm (lkm (wR (Rn rfl fun v5 h => Rn rfl fun v6 h => Rn rfl fun v7 h => Rn rfl fun v8 h => Rn rfl fun v9 h => Rn rfl fun v4 h => rfl)))
def ir.sync_atomic_Int64_Add : C := (.seq ir.sync_atomic_Int64_Add.r0 (.seq ir.sync_atomic_Int64_Add.r1 .ret))
theorem ir.sync_atomic_Int64_Add.bw (e : Env) (h : AHeap) (Q : Post) : wpC Tryd.prog nG ir.sync_atomic_Int64_Add e h Q = wpC Tryd.prog nG (.seq ir.sync_atomic_Int64_Add.r0 (.seq ir.sync_atomic_Int64_Add.r1 .ret)) e h Q := (rfl)
def ir.sync_atomic_Int64_Add.rs : List RV := [.tmp 4]
theorem ir.sync_atomic_Int64_Add.ok : resC Tryd.prog nG 10 ir.sync_atomic_Int64_Add.ks (Tryd.f48.body.getD .skip) = some ir.sync_atomic_Int64_Add := by kernel_rfl
theorem ir.sync_atomic_Int64_Add.rok : Tryd.f48.results.toList.mapM (resR Tryd.prog) = some ir.sync_atomic_Int64_Add.rs := by kernel_rfl
theorem ir.sync_atomic_Int64_Add.spec {args : List Value} {h : AHeap} {v : Value} {h' : AHeap} (hn : args.length ≤ 10) :
    (wpC Tryd.prog nG ir.sync_atomic_Int64_Add (args.zipIdx.map fun p => (p.2, p.1)) h (retQ ir.sync_atomic_Int64_Add.rs h v h')) → Spec Tryd.prog nG fn.sync_atomic_Int64_Add args h v h' :=
  Spec.intro (fn := Tryd.f48) Tryd.func48 (c := Tryd.f48.body.getD .skip) (by kernel_rfl) ir.sync_atomic_Int64_Add.ok ir.sync_atomic_Int64_Add.rok hn
attribute [go_sem ↓] ir.sync_atomic_Int64_Add.r0.w ir.sync_atomic_Int64_Add.r1.w
attribute [go_sem] ir.sync_atomic_Int64_Add.rs

/-! ### (*sync/atomic.Int64).Load: function 49 -/
def ir.sync_atomic_Int64_Load.ks : Nat → List Nat := fun
  | 0 => [0]
  | 1 => [2]
  | _ => []
def ir.sync_atomic_Int64_Load.r0 : C := .region [0] [⟨some 2, .mv (.const (.int .i64 0)), none⟩]
theorem ir.sync_atomic_Int64_Load.r0.w (e : Env) (h : AHeap) (Q : Post) : wpC Tryd.prog nG ir.sync_atomic_Int64_Load.r0 e h Q = lk (look e 0) (fun v0 => wI Tryd.prog nG (.mv (.const (.int .i64 0))) h fun v2 h => Q .normal [(0, v0)] h) () := lkm (wR (Rn rfl fun v2 h => rfl))
def ir.sync_atomic_Int64_Load.r1 : C := .region [2] [⟨some 3, .mv (.tmp 0), none⟩, ⟨some 4, .nilck (.tmp 3), none⟩, ⟨some 5, .fld 0 (.tmp 4), none⟩, ⟨some 6, .xc none fn.sync_atomic_LoadInt64 [.tmp 5], none⟩, ⟨some 2, .mv (.tmp 6), none⟩]
theorem ir.sync_atomic_Int64_Load.r1.w (e : Env) (h : AHeap) (Q : Post) : wpC Tryd.prog nG ir.sync_atomic_Int64_Load.r1 e h Q = lk (look e 0) (fun v0 => wI Tryd.prog nG (.mv (.const v0)) h fun v3 h => wI Tryd.prog nG (.nilck (.const v3)) h fun v4 h => wI Tryd.prog nG (.fld 0 (.const v4)) h fun v5 h => wI Tryd.prog nG (.xc none fn.sync_atomic_LoadInt64 [.const v5]) h fun v6 h => wI Tryd.prog nG (.mv (.const v6)) h fun v2 h => Q .normal [(2, v2)] h) () := lkm (wR (Rn rfl fun v3 h => Rn rfl fun v4 h => Rn rfl fun v5 h => Rn rfl fun v6 h => Rn rfl fun v2 h => rfl))
def ir.sync_atomic_Int64_Load : C := (.seq ir.sync_atomic_Int64_Load.r0 (.seq ir.sync_atomic_Int64_Load.r1 .ret))
theorem ir.sync_atomic_Int64_Load.bw (e : Env) (h : AHeap) (Q : Post) : wpC Tryd.prog nG ir.sync_atomic_Int64_Load e h Q = wpC Tryd.prog nG (.seq ir.sync_atomic_Int64_Load.r0 (.seq ir.sync_atomic_Int64_Load.r1 .ret)) e h Q := (rfl)
def ir.sync_atomic_Int64_Load.rs : List RV := [.tmp 2]
theorem ir.sync_atomic_Int64_Load.ok : resC Tryd.prog nG 7 ir.sync_atomic_Int64_Load.ks (Tryd.f49.body.getD .skip) = some ir.sync_atomic_Int64_Load := by kernel_rfl
theorem ir.sync_atomic_Int64_Load.rok : Tryd.f49.results.toList.mapM (resR Tryd.prog) = some ir.sync_atomic_Int64_Load.rs := by kernel_rfl
theorem ir.sync_atomic_Int64_Load.spec {args : List Value} {h : AHeap} {v : Value} {h' : AHeap} (hn : args.length ≤ 7) :
    (wpC Tryd.prog nG ir.sync_atomic_Int64_Load (args.zipIdx.map fun p => (p.2, p.1)) h (retQ ir.sync_atomic_Int64_Load.rs h v h')) → Spec Tryd.prog nG fn.sync_atomic_Int64_Load args h v h' :=
  Spec.intro (fn := Tryd.f49) Tryd.func49 (c := Tryd.f49.body.getD .skip) (by kernel_rfl) ir.sync_atomic_Int64_Load.ok ir.sync_atomic_Int64_Load.rok hn
attribute [go_sem ↓] ir.sync_atomic_Int64_Load.r0.w ir.sync_atomic_Int64_Load.r1.w
attribute [go_sem] ir.sync_atomic_Int64_Load.rs

/-! ### fingerpost/fingerpostref24.Names: function 52 -/
def ir.ref24_Names.ks : Nat → List Nat := fun
  | 0 => []
  | 1 => [0]
  | _ => []
def ir.ref24_Names.r0 : C := .region [] [⟨some 0, .mv (.const (.slice none 0 0)), none⟩]
theorem ir.ref24_Names.r0.w (e : Env) (h : AHeap) (Q : Post) : wpC Tryd.prog nG ir.ref24_Names.r0 e h Q = wI Tryd.prog nG (.mv (.const (.slice none 0 0))) h fun v0 h => Q .normal [] h := wR (Rn rfl fun v0 h => rfl)
def ir.ref24_Names.r1 : C := .region [0] [⟨some 1, .row 1 19 [.string ByteArray.empty] [(0, 1, .const (Go.Value.string { data := #[102, 114, 97, 109, 101, 115] })), (1, 1, .const (Go.Value.string { data := #[102, 111, 114, 109] })), (2, 1, .const (Go.Value.string { data := #[115, 116, 114, 97, 110, 103, 101, 114, 115] })), (3, 1, .const (Go.Value.string { data := #[116, 111, 108, 108, 115] })), (4, 1, .const (Go.Value.string { data := #[116, 97, 103, 115] })), (5, 1, .const (Go.Value.string { data := #[114, 101, 112, 108, 97, 121, 115] })), (6, 1, .const (Go.Value.string { data := #[104, 101, 108, 108, 111, 115] })), (7, 1, .const (Go.Value.string { data := #[117, 112, 100, 97, 116, 101, 115] })), (8, 1, .const (Go.Value.string { data := #[101, 110, 116, 114, 105, 101, 115] })), (9, 1, .const (Go.Value.string { data := #[115, 116, 97, 108, 101] })), (10, 1, .const (Go.Value.string { data := #[114, 111, 111, 116, 108, 101, 115, 115] })), (11, 1, .const (Go.Value.string { data := #[112, 114, 111, 111, 102, 115] })), (12, 1, .const (Go.Value.string { data := #[104, 101, 108, 100] })), (13, 1, .const (Go.Value.string { data := #[116, 97, 107, 101, 110] })), (14, 1, .const (Go.Value.string { data := #[114, 101, 110, 101, 119, 97, 108, 115] })), (15, 1, .const (Go.Value.string { data := #[115, 105, 103, 110, 115] })), (16, 1, .const (Go.Value.string { data := #[112, 105, 101, 99, 101, 115] })), (17, 1, .const (Go.Value.string { data := #[115, 101, 110, 116] })), (18, 1, .const (Go.Value.string { data := #[98, 114, 111, 107, 101, 110] }))], none⟩, ⟨some 0, .mv (.tmp 1), none⟩]
theorem ir.ref24_Names.r1.w (e : Env) (h : AHeap) (Q : Post) : wpC Tryd.prog nG ir.ref24_Names.r1 e h Q = wI Tryd.prog nG (.row 1 19 [.string ByteArray.empty] [(0, 1, .const (Go.Value.string { data := #[102, 114, 97, 109, 101, 115] })), (1, 1, .const (Go.Value.string { data := #[102, 111, 114, 109] })), (2, 1, .const (Go.Value.string { data := #[115, 116, 114, 97, 110, 103, 101, 114, 115] })), (3, 1, .const (Go.Value.string { data := #[116, 111, 108, 108, 115] })), (4, 1, .const (Go.Value.string { data := #[116, 97, 103, 115] })), (5, 1, .const (Go.Value.string { data := #[114, 101, 112, 108, 97, 121, 115] })), (6, 1, .const (Go.Value.string { data := #[104, 101, 108, 108, 111, 115] })), (7, 1, .const (Go.Value.string { data := #[117, 112, 100, 97, 116, 101, 115] })), (8, 1, .const (Go.Value.string { data := #[101, 110, 116, 114, 105, 101, 115] })), (9, 1, .const (Go.Value.string { data := #[115, 116, 97, 108, 101] })), (10, 1, .const (Go.Value.string { data := #[114, 111, 111, 116, 108, 101, 115, 115] })), (11, 1, .const (Go.Value.string { data := #[112, 114, 111, 111, 102, 115] })), (12, 1, .const (Go.Value.string { data := #[104, 101, 108, 100] })), (13, 1, .const (Go.Value.string { data := #[116, 97, 107, 101, 110] })), (14, 1, .const (Go.Value.string { data := #[114, 101, 110, 101, 119, 97, 108, 115] })), (15, 1, .const (Go.Value.string { data := #[115, 105, 103, 110, 115] })), (16, 1, .const (Go.Value.string { data := #[112, 105, 101, 99, 101, 115] })), (17, 1, .const (Go.Value.string { data := #[115, 101, 110, 116] })), (18, 1, .const (Go.Value.string { data := #[98, 114, 111, 107, 101, 110] }))]) h fun v1 h => wI Tryd.prog nG (.mv (.const v1)) h fun v0 h => Q .normal [(0, v0)] h := wR (Rn rfl fun v1 h => Rn rfl fun v0 h => rfl)
def ir.ref24_Names : C := (.seq ir.ref24_Names.r0 (.seq ir.ref24_Names.r1 .ret))
theorem ir.ref24_Names.bw (e : Env) (h : AHeap) (Q : Post) : wpC Tryd.prog nG ir.ref24_Names e h Q = wpC Tryd.prog nG (.seq ir.ref24_Names.r0 (.seq ir.ref24_Names.r1 .ret)) e h Q := (rfl)
def ir.ref24_Names.rs : List RV := [.tmp 0]
theorem ir.ref24_Names.ok : resC Tryd.prog nG 2 ir.ref24_Names.ks (Tryd.f52.body.getD .skip) = some ir.ref24_Names := by kernel_rfl
theorem ir.ref24_Names.rok : Tryd.f52.results.toList.mapM (resR Tryd.prog) = some ir.ref24_Names.rs := by kernel_rfl
theorem ir.ref24_Names.spec {args : List Value} {h : AHeap} {v : Value} {h' : AHeap} (hn : args.length ≤ 2) :
    (wpC Tryd.prog nG ir.ref24_Names (args.zipIdx.map fun p => (p.2, p.1)) h (retQ ir.ref24_Names.rs h v h')) → Spec Tryd.prog nG fn.ref24_Names args h v h' :=
  Spec.intro (fn := Tryd.f52) Tryd.func52 (c := Tryd.f52.body.getD .skip) (by kernel_rfl) ir.ref24_Names.ok ir.ref24_Names.rok hn
attribute [go_sem ↓] ir.ref24_Names.r0.w ir.ref24_Names.r1.w
attribute [go_sem] ir.ref24_Names.rs
def tbl.law24_awake : List (FuncId × FnE) := [(fn.count_New, ⟨ir.count_New, ir.count_New.rs, 3⟩), (fn.count_Counters_Add, ⟨ir.count_Counters_Add, ir.count_Counters_Add.rs, 28⟩), (fn.count_Counters_Get, ⟨ir.count_Counters_Get, ir.count_Counters_Get.rs, 21⟩), (fn.count_Counters_Text, ⟨ir.count_Counters_Text, ir.count_Counters_Text.rs, 29⟩), (fn.count_Counters_All, ⟨ir.count_Counters_All, ir.count_Counters_All.rs, 16⟩), (fn.count_Counters_Bump, ⟨ir.count_Counters_Bump, ir.count_Counters_Bump.rs, 8⟩), (fn.law24_awake, ⟨ir.law24_awake, ir.law24_awake.rs, 14⟩), (fn.count_Of, ⟨ir.count_Of, ir.count_Of.rs, 29⟩), (fn.sync_atomic_Int64_Add, ⟨ir.sync_atomic_Int64_Add, ir.sync_atomic_Int64_Add.rs, 10⟩), (fn.sync_atomic_Int64_Load, ⟨ir.sync_atomic_Int64_Load, ir.sync_atomic_Int64_Load.rs, 7⟩), (fn.strconv_FormatInt, ⟨ir.strconv_FormatInt, ir.strconv_FormatInt.rs, 8⟩), (fn.internal_strconv_FormatInt, ⟨ir.internal_strconv_FormatInt, ir.internal_strconv_FormatInt.rs, 54⟩), (fn.internal_strconv_small, ⟨ir.internal_strconv_small, ir.internal_strconv_small.rs, 15⟩), (fn.internal_strconv_numDigits, ⟨ir.internal_strconv_numDigits, ir.internal_strconv_numDigits.rs, 15⟩), (fn.internal_strconv_formatBase10, ⟨ir.internal_strconv_formatBase10, ir.internal_strconv_formatBase10.rs, 167⟩), (fn.internal_strconv_formatBits, ⟨ir.internal_strconv_formatBits, ir.internal_strconv_formatBits.rs, 102⟩), (fn.internal_strconv_log10Pow2, ⟨ir.internal_strconv_log10Pow2, ir.internal_strconv_log10Pow2.rs, 6⟩), (fn.math_bits_Len64, ⟨ir.math_bits_Len64, ir.math_bits_Len64.rs, 25⟩), (fn.internal_strconv_bool2_int, ⟨ir.internal_strconv_bool2_int, ir.internal_strconv_bool2_int.rs, 4⟩), (fn.internal_strconv_isPowerOfTwo, ⟨ir.internal_strconv_isPowerOfTwo, ir.internal_strconv_isPowerOfTwo.rs, 8⟩), (fn.math_bits_TrailingZeros, ⟨ir.math_bits_TrailingZeros, ir.math_bits_TrailingZeros.rs, 8⟩), (fn.math_bits_TrailingZeros32, ⟨ir.math_bits_TrailingZeros32, ir.math_bits_TrailingZeros32.rs, 14⟩), (fn.math_bits_TrailingZeros64, ⟨ir.math_bits_TrailingZeros64, ir.math_bits_TrailingZeros64.rs, 14⟩)]
theorem tbl.law24_awake.ok : ∀ f x, lookT tbl.law24_awake f = some x → x.ok Tryd.prog nG f := lookT_ok (fun p hp => by
  simp only [tbl.law24_awake, List.mem_cons, List.not_mem_nil, or_false] at hp
  rcases hp with rfl | rfl | rfl | rfl | rfl | rfl | rfl | rfl | rfl | rfl | rfl | rfl | rfl | rfl | rfl | rfl | rfl | rfl | rfl | rfl | rfl | rfl | rfl
  · exact ⟨by kernel_rfl, fun hn => ir.count_New.spec hn⟩
  · exact ⟨by kernel_rfl, fun hn => ir.count_Counters_Add.spec hn⟩
  · exact ⟨by kernel_rfl, fun hn => ir.count_Counters_Get.spec hn⟩
  · exact ⟨by kernel_rfl, fun hn => ir.count_Counters_Text.spec hn⟩
  · exact ⟨by kernel_rfl, fun hn => ir.count_Counters_All.spec hn⟩
  · exact ⟨by kernel_rfl, fun hn => ir.count_Counters_Bump.spec hn⟩
  · exact ⟨by kernel_rfl, fun hn => ir.law24_awake.spec hn⟩
  · exact ⟨by kernel_rfl, fun hn => ir.count_Of.spec hn⟩
  · exact ⟨by kernel_rfl, fun hn => ir.sync_atomic_Int64_Add.spec hn⟩
  · exact ⟨by kernel_rfl, fun hn => ir.sync_atomic_Int64_Load.spec hn⟩
  · exact ⟨by kernel_rfl, fun hn => ir.strconv_FormatInt.spec hn⟩
  · exact ⟨by kernel_rfl, fun hn => ir.internal_strconv_FormatInt.spec hn⟩
  · exact ⟨by kernel_rfl, fun hn => ir.internal_strconv_small.spec hn⟩
  · exact ⟨by kernel_rfl, fun hn => ir.internal_strconv_numDigits.spec hn⟩
  · exact ⟨by kernel_rfl, fun hn => ir.internal_strconv_formatBase10.spec hn⟩
  · exact ⟨by kernel_rfl, fun hn => ir.internal_strconv_formatBits.spec hn⟩
  · exact ⟨by kernel_rfl, fun hn => ir.internal_strconv_log10Pow2.spec hn⟩
  · exact ⟨by kernel_rfl, fun hn => ir.math_bits_Len64.spec hn⟩
  · exact ⟨by kernel_rfl, fun hn => ir.internal_strconv_bool2_int.spec hn⟩
  · exact ⟨by kernel_rfl, fun hn => ir.internal_strconv_isPowerOfTwo.spec hn⟩
  · exact ⟨by kernel_rfl, fun hn => ir.math_bits_TrailingZeros.spec hn⟩
  · exact ⟨by kernel_rfl, fun hn => ir.math_bits_TrailingZeros32.spec hn⟩
  · exact ⟨by kernel_rfl, fun hn => ir.math_bits_TrailingZeros64.spec hn⟩)
end Go.Proofs.YtgndlhmjolaeiaaDoor.B
