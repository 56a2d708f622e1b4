/-
  Layer 32 (packet) over the abstract heap: the document's example; the law of all packets.
-/
import Derived.Test.YtmeojocmngbpaaaDoorP5
namespace Go.Proofs.YtmeojocmngbpaaaDoor.B
open Go Go.IntWalk
set_option linter.unusedVariables false
set_option linter.unusedSimpArgs false

def awakeN : Net := ⟨[[⟨1, 1, 0⟩], [⟨0, 0, 0⟩]], [true, true], [true, true], [[false, true], [true, false]]⟩
abbrev awakeH (h : AHeap) : AHeap := h ++ [.row (.grow 3) (Hop.c ⟨1, 1, 0⟩), .row (.grow 3) (Hop.c ⟨0, 0, 0⟩), .row (.grow 1) [.slice (some ⟨h.length, 0, none⟩) 1 1, .slice (some ⟨h.length + 1, 0, none⟩) 1 1],
  .row (.grow 1) [.bool true, .bool true], .row (.grow 1) [.bool true, .bool true], .row (.grow 1) [.bool false, .bool true], .row (.grow 1) [.bool true, .bool false], .row (.grow 1) [.slice (some ⟨h.length + 5, 0, none⟩) 2 2, .slice (some ⟨h.length + 6, 0, none⟩) 2 2],
  .row .fix [.slice (some ⟨h.length + 2, 0, none⟩) 2 2, .slice (some ⟨h.length + 3, 0, none⟩) 2 2, .slice (some ⟨h.length + 4, 0, none⟩) 2 2, .slice (some ⟨h.length + 7, 0, none⟩) 2 2]]
theorem litB {h : AHeap} {b : Nat} {l : List Bool} (hb : h[b]? = some (.row (.grow 1) (l.flatMap fun x => [.bool x]))) (hn : l.length ≤ maxI) : Ls h 1 isB (.slice (some ⟨b, 0, none⟩) l.length l.length) l :=
  (litS hb (flatMap_len (enc := fun x => [Value.bool x]) (sz := 1) (fun _ => rfl) l) hn).ls (fun _ => rfl) rfl
theorem awake_net (h : AHeap) : NetV (awakeH h) (.slice (some ⟨h.length + 2, 0, none⟩) 2 2) (.slice (some ⟨h.length + 3, 0, none⟩) 2 2) (.slice (some ⟨h.length + 4, 0, none⟩) 2 2) (.slice (some ⟨h.length + 7, 0, none⟩) 2 2) awakeN := by
  have h0 : Ls (awakeH h) 3 isH (.slice (some ⟨h.length, 0, none⟩) 1 1) [⟨1, 1, 0⟩] :=
    (litS (sz := 3) (n := 1) (cells := [Hop.mk 1 1 0].flatMap Hop.c) (by simp) rfl (by unfold maxI; omega)).ls (fun _ => rfl) rfl
  have h1 : Ls (awakeH h) 3 isH (.slice (some ⟨h.length + 1, 0, none⟩) 1 1) [⟨0, 0, 0⟩] :=
    (litS (sz := 3) (n := 1) (cells := [Hop.mk 0 0 0].flatMap Hop.c) (by simp [get_app]) rfl (by unfold maxI; omega)).ls (fun _ => rfl) rfl
  refine ⟨⟨_, litS (sz := 1) (n := 2) (cells := [.slice (some ⟨h.length, 0, none⟩) 1 1, .slice (some ⟨h.length + 1, 0, none⟩) 1 1]) (by simp [get_app]) rfl (by unfold maxI; omega), fun i hi => ?_⟩, ?_, ?_, ⟨_, litS (sz := 1) (n := 2) (cells := [.slice (some ⟨h.length + 5, 0, none⟩) 2 2, .slice (some ⟨h.length + 6, 0, none⟩) 2 2]) (by simp [get_app]) rfl (by unfold maxI; omega), fun i hi => ?_⟩⟩
  · match i, hi with
    | 0, _ => exact ⟨_, rfl, h0⟩
    | 1, _ => exact ⟨_, rfl, h1⟩
  · exact litB (l := [true, true]) (by simp [get_app]) (Nat.le_of_ble_eq_true rfl)
  · exact litB (l := [true, true]) (by simp [get_app]) (Nat.le_of_ble_eq_true rfl)
  · match i, hi with
    | 0, _ => exact ⟨_, rfl, litB (l := [false, true]) (by simp [get_app]) (Nat.le_of_ble_eq_true rfl)⟩
    | 1, _ => exact ⟨_, rfl, litB (l := [true, false]) (by simp [get_app]) (Nat.le_of_ble_eq_true rfl)⟩
theorem awake_all : allP awakeN 3 2 = [2, 0, 0, 0, 0, 0, 2, 1] := by decide

theorem awake32_spec {h : AHeap} : SpecX Tryd.prog nG fn.law32_awake [] h fun v' h' => Pre h h' ∧ v' = .bool true := by
  refine SpecX.of_body (ir.law32_awake.spec (Nat.le_of_ble_eq_true rfl)) ?_
  simp (dsimp := false) only [↓ir.law32_awake.bw, ir.law32_awake.rs, ↓ir.law32_awake.r0.w, ↓ir.law32_awake.r1.w, ↓ir.law32_awake.r2.w, ↓ir.law32_awake.r3.w, ir.law32_awake.rs, go_sem, Nat.reduceAdd, Nat.reduceEqDiff, Nat.reduceMul, Nat.reduceLeDiff, Nat.reduceSub, Nat.reduceLT, ↓reduceIte, reduceCtorEq, List.reduceReplicate, List.flatten_cons, List.flatten_nil, List.append_nil, eq_self, Int.reduceLE, Int.reduceLT, Int.reduceToNat, Nat.min_eq_left, Int.reducePow, Int.reduceNeg, Int.reduceEq]
  refine callV_x (all_spec (awake_net h) ?_ 3) ?_
  · intro t ht i j hi hj
    simp [awakeN] at ht
    rcases ht with rfl | rfl <;> simp at hj <;> omega
  rintro _ h2 ⟨hp2, rfl⟩
  rw [show awakeN.T.length = 2 from rfl, awake_all]
  simp (dsimp := false) only [↓ir.law32_awake.r0.w, ↓ir.law32_awake.r1.w, ↓ir.law32_awake.r2.w, ↓ir.law32_awake.r3.w, ir.law32_awake.rs, go_sem, Nat.reduceAdd, Nat.reduceEqDiff, Nat.reduceMul, Nat.reduceLeDiff, Nat.reduceSub, Nat.reduceLT, ↓reduceIte, reduceCtorEq, List.reduceReplicate, List.flatten_cons, List.flatten_nil, List.append_nil, eq_self, Int.reduceLE, Int.reduceLT, Int.reduceToNat, Nat.min_eq_left, Int.reducePow, Int.reduceNeg, Int.reduceEq, ints, List.map_cons, List.map_nil, beq_self_eq_true]
  exact ⟨by omega, ((Pre.app _ _).trans hp2).app' _⟩

theorem stepP_parts {L : List Int} (hl : L.length = 8) {w : List Int} {n : Int} (h0 : 0 ≤ n) (h6 : n < 6) :
    (stepP L (w, n)).take 6 = (L.take 6).set n.toNat (IntKind.i64.wrap ((L.take 6).getD n.toNat 0 + 1)) ∧
    (stepP L (w, n)).getD 6 0 = (if n = 0 then IntKind.i64.wrap (L.getD 6 0 + IntKind.i64.wrap ((w.length : Int) - 1)) else L.getD 6 0) ∧
    (stepP L (w, n)).getD 7 0 = (if n = 0 then max (L.getD 7 0) (IntKind.i64.wrap ((w.length : Int) - 1)) else L.getD 7 0) := by
  obtain ⟨x0, x1, x2, x3, x4, x5, x6, x7, rfl⟩ := eight hl
  obtain ⟨k, rfl⟩ : ∃ k : Nat, n = k := ⟨n.toNat, by omega⟩
  have hk : k = 0 ∨ k = 1 ∨ k = 2 ∨ k = 3 ∨ k = 4 ∨ k = 5 := by omega
  rcases hk with rfl | rfl | rfl | rfl | rfl | rfl <;> simp [stepP]

end Go.Proofs.YtmeojocmngbpaaaDoor.B
