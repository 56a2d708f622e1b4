/-
  Layer 32 (packet) over the abstract heap: networks; where a packet goes.
-/
import Derived.Test.YtmeojocmngbpaaaDoorF3
import Derived.Test.YtmeojocmngbpaaaDoorArF
import Derived.Test.YtmeojocmngbpaaaDoorIr32
namespace Go.Proofs.YtmeojocmngbpaaaDoor.B
open Go Go.IntWalk
set_option linter.unusedVariables false
set_option linter.unusedSimpArgs false

def atB (l : List Bool) (n : Int) : Bool := decide (0 ≤ n) && l.getD n.toNat false
theorem atB_get {l : List Bool} {n : Int} (h0 : 0 ≤ n) (h1 : n.toNat < l.length) : atB l n = l[n.toNat] := by simp [atB, h0, h1]
theorem atB_out {l : List Bool} {n : Int} (h : ¬ (0 ≤ n ∧ n < l.length)) : atB l n = false := by
  unfold atB
  by_cases h0 : 0 ≤ n
  · have : l.length ≤ n.toNat := by omega
    simp [h0, List.getElem?_eq_none this]
  · simp [h0]

theorem is_spec {h : AHeap} {v : Value} {l : List Bool} (hv : Ls h 1 isB v l) (n : Int) : SpecX Tryd.prog nG fn.packet_is [v, .int .i64 n] h fun v' h' => Pre h h' ∧ v' = .bool (atB l n) := by
  refine SpecX.of_body (ir.packet_is.spec (Nat.le_of_ble_eq_true rfl)) ?_
  simp (dsimp := false) only [↓ir.packet_is.bw, ir.packet_is.rs, ↓ir.packet_is.r0.w, ↓ir.packet_is.r1.w, ir.packet_is.rs, go_sem, Nat.reduceAdd, Nat.reduceEqDiff, Nat.reduceMul, Nat.reduceLeDiff, Nat.reduceSub, Nat.reduceLT, ↓reduceIte, reduceCtorEq, List.reduceReplicate, List.flatten_cons, List.flatten_nil, List.append_nil, eq_self, Int.reduceLE, Int.reduceLT, Int.reduceToNat, Nat.min_eq_left, Int.reducePow, Int.reduceNeg, Int.reduceEq]
  refine gTd (fun c1 => ?_) (fun c1 => ?_)
  · simp (dsimp := false) only [↓ir.packet_is.r0.w, ↓ir.packet_is.r1.w, ir.packet_is.rs, go_sem, Nat.reduceAdd, Nat.reduceEqDiff, Nat.reduceMul, Nat.reduceLeDiff, Nat.reduceSub, Nat.reduceLT, ↓reduceIte, reduceCtorEq, List.reduceReplicate, List.flatten_cons, List.flatten_nil, List.append_nil, eq_self, Int.reduceLE, Int.reduceLT, Int.reduceToNat, Nat.min_eq_left, Int.reducePow, Int.reduceNeg, Int.reduceEq, hv.lenV]
    refine gTd (fun c2 => ?_) (fun c2 => ?_)
    · have hn : n.toNat < l.length := by omega
      obtain ⟨_, _, t, r0, _⟩ := hv.rd2 (.refl _) hn
      subst t
      have e1 : ∀ {h2 : AHeap} {K : Value → AHeap → Prop}, ixsV 1 v (.int .i64 n) h2 K () = mvV (.pointer (some ⟨sb v, so v + n.toNat * 1, none⟩)) h2 K () := hv.ixs (by omega) (by omega)
      simp (dsimp := false) only [↓ir.packet_is.r0.w, ↓ir.packet_is.r1.w, ir.packet_is.rs, go_sem, Nat.reduceAdd, Nat.reduceEqDiff, Nat.reduceMul, Nat.reduceLeDiff, Nat.reduceSub, Nat.reduceLT, ↓reduceIte, reduceCtorEq, List.reduceReplicate, List.flatten_cons, List.flatten_nil, List.append_nil, eq_self, Int.reduceLE, Int.reduceLT, Int.reduceToNat, Nat.min_eq_left, Int.reducePow, Int.reduceNeg, Int.reduceEq, e1, r0]
      rw [atB_get c1 hn]
    · simp (dsimp := false) only [↓ir.packet_is.r0.w, ↓ir.packet_is.r1.w, ir.packet_is.rs, go_sem, Nat.reduceAdd, Nat.reduceEqDiff, Nat.reduceMul, Nat.reduceLeDiff, Nat.reduceSub, Nat.reduceLT, ↓reduceIte, reduceCtorEq, List.reduceReplicate, List.flatten_cons, List.flatten_nil, List.append_nil, eq_self, Int.reduceLE, Int.reduceLT, Int.reduceToNat, Nat.min_eq_left, Int.reducePow, Int.reduceNeg, Int.reduceEq]
      rw [atB_out (by omega)]
  · simp (dsimp := false) only [↓ir.packet_is.r0.w, ↓ir.packet_is.r1.w, ir.packet_is.rs, go_sem, Nat.reduceAdd, Nat.reduceEqDiff, Nat.reduceMul, Nat.reduceLeDiff, Nat.reduceSub, Nat.reduceLT, ↓reduceIte, reduceCtorEq, List.reduceReplicate, List.flatten_cons, List.flatten_nil, List.append_nil, eq_self, Int.reduceLE, Int.reduceLT, Int.reduceToNat, Nat.min_eq_left, Int.reducePow, Int.reduceNeg, Int.reduceEq]
    rw [atB_out (by omega)]
theorem at_spec {h : AHeap} {v : Value} {l : List Bool} (hv : Ls h 1 isB v l) (n : Int) : SpecX Tryd.prog nG fn.ref32_At [v, .int .i64 n] h fun v' h' => Pre h h' ∧ v' = .bool (atB l n) := by
  refine SpecX.of_body (ir.ref32_At.spec (Nat.le_of_ble_eq_true rfl)) ?_
  simp (dsimp := false) only [↓ir.ref32_At.bw, ir.ref32_At.rs, ↓ir.ref32_At.r0.w, ↓ir.ref32_At.r1.w, ir.ref32_At.rs, go_sem, Nat.reduceAdd, Nat.reduceEqDiff, Nat.reduceMul, Nat.reduceLeDiff, Nat.reduceSub, Nat.reduceLT, ↓reduceIte, reduceCtorEq, List.reduceReplicate, List.flatten_cons, List.flatten_nil, List.append_nil, eq_self, Int.reduceLE, Int.reduceLT, Int.reduceToNat, Nat.min_eq_left, Int.reducePow, Int.reduceNeg, Int.reduceEq]
  refine gTd (fun c1 => ?_) (fun c1 => ?_)
  · simp (dsimp := false) only [↓ir.ref32_At.r0.w, ↓ir.ref32_At.r1.w, ir.ref32_At.rs, go_sem, Nat.reduceAdd, Nat.reduceEqDiff, Nat.reduceMul, Nat.reduceLeDiff, Nat.reduceSub, Nat.reduceLT, ↓reduceIte, reduceCtorEq, List.reduceReplicate, List.flatten_cons, List.flatten_nil, List.append_nil, eq_self, Int.reduceLE, Int.reduceLT, Int.reduceToNat, Nat.min_eq_left, Int.reducePow, Int.reduceNeg, Int.reduceEq, hv.lenV]
    refine gTd (fun c2 => ?_) (fun c2 => ?_)
    · have hn : n.toNat < l.length := by omega
      obtain ⟨_, _, t, r0, _⟩ := hv.rd2 (.refl _) hn
      subst t
      have e1 : ∀ {h2 : AHeap} {K : Value → AHeap → Prop}, ixsV 1 v (.int .i64 n) h2 K () = mvV (.pointer (some ⟨sb v, so v + n.toNat * 1, none⟩)) h2 K () := hv.ixs (by omega) (by omega)
      simp (dsimp := false) only [↓ir.ref32_At.r0.w, ↓ir.ref32_At.r1.w, ir.ref32_At.rs, go_sem, Nat.reduceAdd, Nat.reduceEqDiff, Nat.reduceMul, Nat.reduceLeDiff, Nat.reduceSub, Nat.reduceLT, ↓reduceIte, reduceCtorEq, List.reduceReplicate, List.flatten_cons, List.flatten_nil, List.append_nil, eq_self, Int.reduceLE, Int.reduceLT, Int.reduceToNat, Nat.min_eq_left, Int.reducePow, Int.reduceNeg, Int.reduceEq, e1, r0]
      rw [atB_get c1 hn]
    · simp (dsimp := false) only [↓ir.ref32_At.r0.w, ↓ir.ref32_At.r1.w, ir.ref32_At.rs, go_sem, Nat.reduceAdd, Nat.reduceEqDiff, Nat.reduceMul, Nat.reduceLeDiff, Nat.reduceSub, Nat.reduceLT, ↓reduceIte, reduceCtorEq, List.reduceReplicate, List.flatten_cons, List.flatten_nil, List.append_nil, eq_self, Int.reduceLE, Int.reduceLT, Int.reduceToNat, Nat.min_eq_left, Int.reducePow, Int.reduceNeg, Int.reduceEq]
      rw [atB_out (by omega)]
  · simp (dsimp := false) only [↓ir.ref32_At.r0.w, ↓ir.ref32_At.r1.w, ir.ref32_At.rs, go_sem, Nat.reduceAdd, Nat.reduceEqDiff, Nat.reduceMul, Nat.reduceLeDiff, Nat.reduceSub, Nat.reduceLT, ↓reduceIte, reduceCtorEq, List.reduceReplicate, List.flatten_cons, List.flatten_nil, List.append_nil, eq_self, Int.reduceLE, Int.reduceLT, Int.reduceToNat, Nat.min_eq_left, Int.reducePow, Int.reduceNeg, Int.reduceEq]
    rw [atB_out (by omega)]

/-- What packets go through. -/
structure Net where
  T : List (List Hop)
  H : List Bool
  U : List Bool
  K : List (List Bool)
structure NetV (h : AHeap) (tv hv uv kv : Value) (N : Net) : Prop where
  T : Ls h 1 (isT h) tv N.T
  H : Ls h 1 isB hv N.H
  U : Ls h 1 isB uv N.U
  K : Ls h 1 (isR h) kv N.K
theorem NetV.pre {h h' : AHeap} {tv hv uv kv : Value} {N : Net} (p : Pre h h') (k : NetV h tv hv uv kv N) : NetV h' tv hv uv kv N := ⟨k.T.isTpre p, k.H.pre p, k.U.pre p, k.K.isRpre p⟩

def linkN (N : Net) (a b : Int) : Bool := decide (0 ≤ a) && decide (a < N.K.length) && atB (N.K.getD a.toNat []) b

theorem plinked_spec {h : AHeap} {tv hv uv kv : Value} {N : Net} (k : NetV h tv hv uv kv N) (a b : Int) : SpecX Tryd.prog nG fn.packet_Net_linked [.agg ⟨[tv, hv, uv, kv]⟩, .int .i64 a, .int .i64 b] h fun v' h' => Pre h h' ∧ v' = .bool (linkN N a b) := by
  refine SpecX.of_body (ir.packet_Net_linked.spec (Nat.le_of_ble_eq_true rfl)) ?_
  simp (dsimp := false) only [↓ir.packet_Net_linked.bw, ir.packet_Net_linked.rs, ↓ir.packet_Net_linked.r0.w, ↓ir.packet_Net_linked.r1.w, ir.packet_Net_linked.rs, go_sem, Nat.reduceAdd, Nat.reduceEqDiff, Nat.reduceMul, Nat.reduceLeDiff, Nat.reduceSub, Nat.reduceLT, ↓reduceIte, reduceCtorEq, List.reduceReplicate, List.flatten_cons, List.flatten_nil, List.append_nil, eq_self, Int.reduceLE, Int.reduceLT, Int.reduceToNat, Nat.min_eq_left, Int.reducePow, Int.reduceNeg, Int.reduceEq]
  refine gTd (fun c1 => ?_) (fun c1 => ?_)
  · simp (dsimp := false) only [↓ir.packet_Net_linked.r0.w, ↓ir.packet_Net_linked.r1.w, ir.packet_Net_linked.rs, go_sem, Nat.reduceAdd, Nat.reduceEqDiff, Nat.reduceMul, Nat.reduceLeDiff, Nat.reduceSub, Nat.reduceLT, ↓reduceIte, reduceCtorEq, List.reduceReplicate, List.flatten_cons, List.flatten_nil, List.append_nil, eq_self, Int.reduceLE, Int.reduceLT, Int.reduceToNat, Nat.min_eq_left, Int.reducePow, Int.reduceNeg, Int.reduceEq, k.K.lenV]
    refine gTd (fun c2 => ?_) (fun c2 => ?_)
    · have hn : a.toNat < N.K.length := by omega
      obtain ⟨_, _, ⟨rv, t, hr⟩, r0, r1⟩ := k.K.rd2 (.refl _) hn
      subst t
      have e1 : ∀ {h2 : AHeap} {K : Value → AHeap → Prop}, ixsV 1 kv (.int .i64 a) h2 K () = mvV (.pointer (some ⟨sb kv, so kv + a.toNat * 1, none⟩)) h2 K () := k.K.ixs (by omega) (by omega)
      simp (dsimp := false) only [↓ir.packet_Net_linked.r0.w, ↓ir.packet_Net_linked.r1.w, ir.packet_Net_linked.rs, go_sem, Nat.reduceAdd, Nat.reduceEqDiff, Nat.reduceMul, Nat.reduceLeDiff, Nat.reduceSub, Nat.reduceLT, ↓reduceIte, reduceCtorEq, List.reduceReplicate, List.flatten_cons, List.flatten_nil, List.append_nil, eq_self, Int.reduceLE, Int.reduceLT, Int.reduceToNat, Nat.min_eq_left, Int.reducePow, Int.reduceNeg, Int.reduceEq, e1, r1]
      refine callV_x (is_spec (hr.pre (.app _ _)) b) ?_
      rintro _ h1 ⟨hp1, rfl⟩
      simp (dsimp := false) only [↓ir.packet_Net_linked.r0.w, ↓ir.packet_Net_linked.r1.w, ir.packet_Net_linked.rs, go_sem, Nat.reduceAdd, Nat.reduceEqDiff, Nat.reduceMul, Nat.reduceLeDiff, Nat.reduceSub, Nat.reduceLT, ↓reduceIte, reduceCtorEq, List.reduceReplicate, List.flatten_cons, List.flatten_nil, List.append_nil, eq_self, Int.reduceLE, Int.reduceLT, Int.reduceToNat, Nat.min_eq_left, Int.reducePow, Int.reduceNeg, Int.reduceEq]
      refine ⟨(Pre.app _ _).trans hp1, ?_⟩
      simp [linkN, c1, c2, hn]
    · simp (dsimp := false) only [↓ir.packet_Net_linked.r0.w, ↓ir.packet_Net_linked.r1.w, ir.packet_Net_linked.rs, go_sem, Nat.reduceAdd, Nat.reduceEqDiff, Nat.reduceMul, Nat.reduceLeDiff, Nat.reduceSub, Nat.reduceLT, ↓reduceIte, reduceCtorEq, List.reduceReplicate, List.flatten_cons, List.flatten_nil, List.append_nil, eq_self, Int.reduceLE, Int.reduceLT, Int.reduceToNat, Nat.min_eq_left, Int.reducePow, Int.reduceNeg, Int.reduceEq]
      simp [linkN, c2]
  · simp (dsimp := false) only [↓ir.packet_Net_linked.r0.w, ↓ir.packet_Net_linked.r1.w, ir.packet_Net_linked.rs, go_sem, Nat.reduceAdd, Nat.reduceEqDiff, Nat.reduceMul, Nat.reduceLeDiff, Nat.reduceSub, Nat.reduceLT, ↓reduceIte, reduceCtorEq, List.reduceReplicate, List.flatten_cons, List.flatten_nil, List.append_nil, eq_self, Int.reduceLE, Int.reduceLT, Int.reduceToNat, Nat.min_eq_left, Int.reducePow, Int.reduceNeg, Int.reduceEq]
    simp [linkN, c1]
end Go.Proofs.YtmeojocmngbpaaaDoor.B
