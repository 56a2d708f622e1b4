/-
  Layer 32 (packet) over the abstract heap: names of ends; the law of any packet.
-/
import Derived.Test.YtmeojocmngbpaaaDoorP6
namespace Go.Proofs.YtmeojocmngbpaaaDoor.B
open Go Go.IntWalk
set_option linter.unusedVariables false
set_option linter.unusedSimpArgs false

def nameL : List ByteArray := [⟨#[97, 114, 114, 105, 118, 101, 100]⟩, ⟨#[110, 111, 32, 114, 111, 117, 116, 101]⟩, ⟨#[101, 120, 112, 105, 114, 101, 100]⟩, ⟨#[115, 116, 111, 108, 101, 110]⟩, ⟨#[100, 111, 119, 110]⟩, ⟨#[99, 117, 116]⟩]
abbrev isS (c : List Value) (s : ByteArray) : Prop := c = [.string s]
abbrev Named (h : AHeap) : Prop := rds h 0 0 6 = some (nameL.map Value.string)
def nameS (n : Int) : ByteArray := if n < 0 ∨ 6 ≤ n then ⟨#[]⟩ else nameL.getD n.toNat ⟨#[]⟩

theorem name_spec {h : AHeap} (hN : Named h) (n : Int) : SpecX Tryd.prog nG fn.packet_Name [.int .i64 n] h fun v' h' => Pre h h' ∧ v' = .string (nameS n) := by
  refine SpecX.of_body (ir.packet_Name.spec (Nat.le_of_ble_eq_true rfl)) ?_
  simp (dsimp := false) only [↓ir.packet_Name.bw, ir.packet_Name.rs, ↓ir.packet_Name.r0.w, ↓ir.packet_Name.r1.w, ↓ir.packet_Name.r2.w, ↓ir.packet_Name.r3.w, ir.packet_Name.rs, go_sem, Nat.reduceAdd, Nat.reduceEqDiff, Nat.reduceMul, Nat.reduceLeDiff, Nat.reduceSub, Nat.reduceLT, ↓reduceIte, reduceCtorEq, List.reduceReplicate, List.flatten_cons, List.flatten_nil, List.append_nil, eq_self, Int.reduceLE, Int.reduceLT, Int.reduceToNat, Nat.min_eq_left, Int.reducePow, Int.reduceNeg, Int.reduceEq]
  refine gFd (fun c1 => ?_) (fun c1 => ?_)
  · simp (dsimp := false) only [↓ir.packet_Name.r0.w, ↓ir.packet_Name.r1.w, ↓ir.packet_Name.r2.w, ↓ir.packet_Name.r3.w, ir.packet_Name.rs, go_sem, Nat.reduceAdd, Nat.reduceEqDiff, Nat.reduceMul, Nat.reduceLeDiff, Nat.reduceSub, Nat.reduceLT, ↓reduceIte, reduceCtorEq, List.reduceReplicate, List.flatten_cons, List.flatten_nil, List.append_nil, eq_self, Int.reduceLE, Int.reduceLT, Int.reduceToNat, Nat.min_eq_left, Int.reducePow, Int.reduceNeg, Int.reduceEq]
    simp [nameS, c1]
  simp (dsimp := false) only [↓ir.packet_Name.r0.w, ↓ir.packet_Name.r1.w, ↓ir.packet_Name.r2.w, ↓ir.packet_Name.r3.w, ir.packet_Name.rs, go_sem, Nat.reduceAdd, Nat.reduceEqDiff, Nat.reduceMul, Nat.reduceLeDiff, Nat.reduceSub, Nat.reduceLT, ↓reduceIte, reduceCtorEq, List.reduceReplicate, List.flatten_cons, List.flatten_nil, List.append_nil, eq_self, Int.reduceLE, Int.reduceLT, Int.reduceToNat, Nat.min_eq_left, Int.reducePow, Int.reduceNeg, Int.reduceEq]
  refine cVd (fun c2 => ?_) (fun c2 => ?_)
  · simp (dsimp := false) only [↓ir.packet_Name.r0.w, ↓ir.packet_Name.r1.w, ↓ir.packet_Name.r2.w, ↓ir.packet_Name.r3.w, ir.packet_Name.rs, go_sem, Nat.reduceAdd, Nat.reduceEqDiff, Nat.reduceMul, Nat.reduceLeDiff, Nat.reduceSub, Nat.reduceLT, ↓reduceIte, reduceCtorEq, List.reduceReplicate, List.flatten_cons, List.flatten_nil, List.append_nil, eq_self, Int.reduceLE, Int.reduceLT, Int.reduceToNat, Nat.min_eq_left, Int.reducePow, Int.reduceNeg, Int.reduceEq]
    simp [nameS, c2]
  obtain ⟨k, rfl⟩ : ∃ k : Nat, n = k := ⟨n.toNat, by omega⟩
  have hk : k < 6 := by omega
  have r0 : rds h 0 (((k : Nat) : Int).toNat * 1) 1 = some [.string (nameL.getD k ⟨#[]⟩)] := by
    have := rds_sub hN (i := k) (m := 1) (by omega)
    rw [Nat.zero_add] at this
    rw [Int.toNat_natCast, Nat.mul_one, this]
    have hk' : k = 0 ∨ k = 1 ∨ k = 2 ∨ k = 3 ∨ k = 4 ∨ k = 5 := by omega
    rcases hk' with rfl | rfl | rfl | rfl | rfl | rfl <;> rfl
  simp (dsimp := false) only [↓ir.packet_Name.r0.w, ↓ir.packet_Name.r1.w, ↓ir.packet_Name.r2.w, ↓ir.packet_Name.r3.w, ir.packet_Name.rs, go_sem, Nat.reduceAdd, Nat.reduceEqDiff, Nat.reduceMul, Nat.reduceLeDiff, Nat.reduceSub, Nat.reduceLT, ↓reduceIte, reduceCtorEq, List.reduceReplicate, List.flatten_cons, List.flatten_nil, List.append_nil, eq_self, Int.reduceLE, Int.reduceLT, Int.reduceToNat, Nat.min_eq_left, Int.reducePow, Int.reduceNeg, Int.reduceEq, r0]
  refine ⟨⟨by omega, by omega⟩, ?_⟩
  rw [nameS, if_neg (by omega), Int.toNat_natCast]

theorem names_spec {h : AHeap} : SpecX Tryd.prog nG fn.ref32_Names [] h fun v' h' => Pre h h' ∧ Ls h' 1 isS v' nameL := by
  refine SpecX.of_body (ir.ref32_Names.spec (Nat.le_of_ble_eq_true rfl)) ?_
  simp (dsimp := false) only [↓ir.ref32_Names.bw, ir.ref32_Names.rs, ↓ir.ref32_Names.r0.w, ↓ir.ref32_Names.r1.w, ir.ref32_Names.rs, go_sem, Nat.reduceAdd, Nat.reduceEqDiff, Nat.reduceMul, Nat.reduceLeDiff, Nat.reduceSub, Nat.reduceLT, ↓reduceIte, reduceCtorEq, List.reduceReplicate, List.flatten_cons, List.flatten_nil, List.append_nil, eq_self, Int.reduceLE, Int.reduceLT, Int.reduceToNat, Nat.min_eq_left, Int.reducePow, Int.reduceNeg, Int.reduceEq]
  exact (litS (sz := 1) (n := 6) (cells := nameL.flatMap fun s => [Value.string s]) (by simp [nameL]) rfl (by unfold maxI; omega)).ls (fun _ => rfl) rfl

theorem packetSends_spec {h : AHeap} {tv hv uv kv : Value} {N : Net} (k : NetV h tv hv uv kv N) (hF : ∀ t ∈ N.T, Fits t) (hN : Named h) (a dest ttl : Int) (httl : -9223372036854775808 ≤ ttl) : SpecX Tryd.prog nG fn.law32_PacketSends [.agg ⟨[tv, hv, uv, kv]⟩, .int .i64 a, .int .i64 dest, .int .i64 ttl] h fun v' _ => v' = .bool true := by
  refine SpecX.of_body (ir.law32_PacketSends.spec (Nat.le_of_ble_eq_true rfl)) ?_
  simp (dsimp := false) only [↓ir.law32_PacketSends.bw, ir.law32_PacketSends.rs, ↓ir.law32_PacketSends.r0.w, ↓ir.law32_PacketSends.r1.w, ↓ir.law32_PacketSends.r2.w, ↓ir.law32_PacketSends.r3.w, ↓ir.law32_PacketSends.r4.w, ↓ir.law32_PacketSends.r5.w, ↓ir.law32_PacketSends.r6.w, ir.law32_PacketSends.rs, go_sem, Nat.reduceAdd, Nat.reduceEqDiff, Nat.reduceMul, Nat.reduceLeDiff, Nat.reduceSub, Nat.reduceLT, ↓reduceIte, reduceCtorEq, List.reduceReplicate, List.flatten_cons, List.flatten_nil, List.append_nil, eq_self, Int.reduceLE, Int.reduceLT, Int.reduceToNat, Nat.min_eq_left, Int.reducePow, Int.reduceNeg, Int.reduceEq]
  refine callV_x (fits_spec (k.pre (.app _ _))) ?_
  rintro _ h2 ⟨hp2, b, rfl, hb⟩
  have x2 := (Fx.here h [tv, hv, uv, kv] []).pre hp2
  have p2 := (Pre.app h [.row .fix [tv, hv, uv, kv]]).trans hp2
  generalize hA : h.length = A at x2 ⊢
  cases b with
  | false =>
    simp (dsimp := false) only [↓ir.law32_PacketSends.r0.w, ↓ir.law32_PacketSends.r1.w, ↓ir.law32_PacketSends.r2.w, ↓ir.law32_PacketSends.r3.w, ↓ir.law32_PacketSends.r4.w, ↓ir.law32_PacketSends.r5.w, ↓ir.law32_PacketSends.r6.w, ir.law32_PacketSends.rs, go_sem, Nat.reduceAdd, Nat.reduceEqDiff, Nat.reduceMul, Nat.reduceLeDiff, Nat.reduceSub, Nat.reduceLT, ↓reduceIte, reduceCtorEq, List.reduceReplicate, List.flatten_cons, List.flatten_nil, List.append_nil, eq_self, Int.reduceLE, Int.reduceLT, Int.reduceToNat, Nat.min_eq_left, Int.reducePow, Int.reduceNeg, Int.reduceEq, Bool.not_false]
    refine callV_x awake32_spec ?_
    rintro _ h3 ⟨_, rfl⟩
    simp (dsimp := false) only [↓ir.law32_PacketSends.r0.w, ↓ir.law32_PacketSends.r1.w, ↓ir.law32_PacketSends.r2.w, ↓ir.law32_PacketSends.r3.w, ↓ir.law32_PacketSends.r4.w, ↓ir.law32_PacketSends.r5.w, ↓ir.law32_PacketSends.r6.w, ir.law32_PacketSends.rs, go_sem, Nat.reduceAdd, Nat.reduceEqDiff, Nat.reduceMul, Nat.reduceLeDiff, Nat.reduceSub, Nat.reduceLT, ↓reduceIte, reduceCtorEq, List.reduceReplicate, List.flatten_cons, List.flatten_nil, List.append_nil, eq_self, Int.reduceLE, Int.reduceLT, Int.reduceToNat, Nat.min_eq_left, Int.reducePow, Int.reduceNeg, Int.reduceEq]
  | true =>
    obtain ⟨hT, hT10, hK⟩ := hb.1 rfl
    have hr : ∀ t ∈ N.T, Rises t := fun t q => (hT t q).rises
    simp (dsimp := false) only [↓ir.law32_PacketSends.r0.w, ↓ir.law32_PacketSends.r1.w, ↓ir.law32_PacketSends.r2.w, ↓ir.law32_PacketSends.r3.w, ↓ir.law32_PacketSends.r4.w, ↓ir.law32_PacketSends.r5.w, ↓ir.law32_PacketSends.r6.w, ir.law32_PacketSends.rs, go_sem, Nat.reduceAdd, Nat.reduceEqDiff, Nat.reduceMul, Nat.reduceLeDiff, Nat.reduceSub, Nat.reduceLT, ↓reduceIte, reduceCtorEq, List.reduceReplicate, List.flatten_cons, List.flatten_nil, List.append_nil, eq_self, Int.reduceLE, Int.reduceLT, Int.reduceToNat, Nat.min_eq_left, Int.reducePow, Int.reduceNeg, Int.reduceEq, Bool.not_true, x2.rd (off := 0) (n := 4) (vs := [tv, hv, uv, kv]) rfl (Nat.le_of_ble_eq_true rfl)]
    refine callV_x (to_spec (k.pre p2) hT10 hF) ?_
    rintro _ h3 ⟨hp3, tv', rfl, k3⟩
    simp (dsimp := false) only [↓ir.law32_PacketSends.r0.w, ↓ir.law32_PacketSends.r1.w, ↓ir.law32_PacketSends.r2.w, ↓ir.law32_PacketSends.r3.w, ↓ir.law32_PacketSends.r4.w, ↓ir.law32_PacketSends.r5.w, ↓ir.law32_PacketSends.r6.w, ir.law32_PacketSends.rs, go_sem, Nat.reduceAdd, Nat.reduceEqDiff, Nat.reduceMul, Nat.reduceLeDiff, Nat.reduceSub, Nat.reduceLT, ↓reduceIte, reduceCtorEq, List.reduceReplicate, List.flatten_cons, List.flatten_nil, List.append_nil, eq_self, Int.reduceLE, Int.reduceLT, Int.reduceToNat, Nat.min_eq_left, Int.reducePow, Int.reduceNeg, Int.reduceEq]
    refine callV_x (send_spec k3 hr a dest ttl) ?_
    rintro _ h4 ⟨hp4, u, w, n, rfl, o4, hw⟩
    have p4 := (p2.trans hp3).trans hp4
    have x4 := ((x2.pre hp3).pre hp4).app [.row .fix [u, .int .i64 n]]
    have y4 : Fx (h4 ++ [.row .fix [u, .int .i64 n]]) h4.length [u, .int .i64 n] := Fx.here _ _ _
    have u4 := o4.ints.pre (.app h4 [.row .fix [u, .int .i64 n]])
    have p5 := p4.app' [.row .fix [u, .int .i64 n]]
    have one := o4.ints.oneA
    have cel := o4.ints.cellsA
    simp (dsimp := false) only [↓ir.law32_PacketSends.r0.w, ↓ir.law32_PacketSends.r1.w, ↓ir.law32_PacketSends.r2.w, ↓ir.law32_PacketSends.r3.w, ↓ir.law32_PacketSends.r4.w, ↓ir.law32_PacketSends.r5.w, ↓ir.law32_PacketSends.r6.w, ir.law32_PacketSends.rs, go_sem, Nat.reduceAdd, Nat.reduceEqDiff, Nat.reduceMul, Nat.reduceLeDiff, Nat.reduceSub, Nat.reduceLT, ↓reduceIte, reduceCtorEq, List.reduceReplicate, List.flatten_cons, List.flatten_nil, List.append_nil, eq_self, Int.reduceLE, Int.reduceLT, Int.reduceToNat, Nat.min_eq_left, Int.reducePow, Int.reduceNeg, Int.reduceEq, one, cel]
    generalize h4 ++ [.row .fix [u, .int .i64 n]] = h5 at x4 y4 u4 p5 ⊢
    generalize h4.length = T at y4 ⊢
    clear o4 hp4 hp3 k3 p4 x2 hp2 p2 hb
    simp (dsimp := false) only [↓ir.law32_PacketSends.r0.w, ↓ir.law32_PacketSends.r1.w, ↓ir.law32_PacketSends.r2.w, ↓ir.law32_PacketSends.r3.w, ↓ir.law32_PacketSends.r4.w, ↓ir.law32_PacketSends.r5.w, ↓ir.law32_PacketSends.r6.w, ir.law32_PacketSends.rs, go_sem, Nat.reduceAdd, Nat.reduceEqDiff, Nat.reduceMul, Nat.reduceLeDiff, Nat.reduceSub, Nat.reduceLT, ↓reduceIte, reduceCtorEq, List.reduceReplicate, List.flatten_cons, List.flatten_nil, List.append_nil, eq_self, Int.reduceLE, Int.reduceLT, Int.reduceToNat, Nat.min_eq_left, Int.reducePow, Int.reduceNeg, Int.reduceEq, x4.rd (off := 0) (n := 4) (vs := [tv, hv, uv, kv]) rfl (Nat.le_of_ble_eq_true rfl)]
    refine callV_x (rsend_spec (k.pre p5) a dest ttl httl) ?_
    rintro _ h6 ⟨hp6, u', w', n', rfl, o6, hw'⟩
    rw [← hw] at hw'
    simp only [Prod.mk.injEq] at hw'
    obtain ⟨rfl, rfl⟩ := hw'
    have hn := sendF_end N dest 300 [] a (min ttl 255)
    rw [← hw] at hn
    have n0 : 0 ≤ n' := hn.1
    have n6 : n' < 6 := hn.2
    have y6 := y4.pre hp6
    simp (dsimp := false) only [↓ir.law32_PacketSends.r0.w, ↓ir.law32_PacketSends.r1.w, ↓ir.law32_PacketSends.r2.w, ↓ir.law32_PacketSends.r3.w, ↓ir.law32_PacketSends.r4.w, ↓ir.law32_PacketSends.r5.w, ↓ir.law32_PacketSends.r6.w, ir.law32_PacketSends.rs, go_sem, Nat.reduceAdd, Nat.reduceEqDiff, Nat.reduceMul, Nat.reduceLeDiff, Nat.reduceSub, Nat.reduceLT, ↓reduceIte, reduceCtorEq, List.reduceReplicate, List.flatten_cons, List.flatten_nil, List.append_nil, eq_self, Int.reduceLE, Int.reduceLT, Int.reduceToNat, Nat.min_eq_left, Int.reducePow, Int.reduceNeg, Int.reduceEq, y6.rd (off := 1) (n := 1) (vs := [.int .i64 n']) rfl (Nat.le_of_ble_eq_true rfl)]
    have hN6 : Named h6 := rds_pre (p5.trans hp6) hN
    refine callV_x (name_spec hN6 n') ?_
    rintro _ h7 ⟨hp7, rfl⟩
    simp (dsimp := false) only [↓ir.law32_PacketSends.r0.w, ↓ir.law32_PacketSends.r1.w, ↓ir.law32_PacketSends.r2.w, ↓ir.law32_PacketSends.r3.w, ↓ir.law32_PacketSends.r4.w, ↓ir.law32_PacketSends.r5.w, ↓ir.law32_PacketSends.r6.w, ir.law32_PacketSends.rs, go_sem, Nat.reduceAdd, Nat.reduceEqDiff, Nat.reduceMul, Nat.reduceLeDiff, Nat.reduceSub, Nat.reduceLT, ↓reduceIte, reduceCtorEq, List.reduceReplicate, List.flatten_cons, List.flatten_nil, List.append_nil, eq_self, Int.reduceLE, Int.reduceLT, Int.reduceToNat, Nat.min_eq_left, Int.reducePow, Int.reduceNeg, Int.reduceEq]
    refine callV_x awake32_spec ?_
    rintro _ h8 ⟨hp8, rfl⟩
    have p68 := hp7.trans hp8
    have y8 := y6.pre p68
    have u8 := (u4.pre hp6).pre p68
    have v8 := o6.ints.pre p68
    simp (dsimp := false) only [↓ir.law32_PacketSends.r0.w, ↓ir.law32_PacketSends.r1.w, ↓ir.law32_PacketSends.r2.w, ↓ir.law32_PacketSends.r3.w, ↓ir.law32_PacketSends.r4.w, ↓ir.law32_PacketSends.r5.w, ↓ir.law32_PacketSends.r6.w, ir.law32_PacketSends.rs, go_sem, Nat.reduceAdd, Nat.reduceEqDiff, Nat.reduceMul, Nat.reduceLeDiff, Nat.reduceSub, Nat.reduceLT, ↓reduceIte, reduceCtorEq, List.reduceReplicate, List.flatten_cons, List.flatten_nil, List.append_nil, eq_self, Int.reduceLE, Int.reduceLT, Int.reduceToNat, Nat.min_eq_left, Int.reducePow, Int.reduceNeg, Int.reduceEq, y8.rd (off := 1) (n := 1) (vs := [.int .i64 n']) rfl (Nat.le_of_ble_eq_true rfl), y8.rd (off := 0) (n := 1) (vs := [u]) rfl (Nat.le_of_ble_eq_true rfl), beq_self_eq_true]
    refine callV_x (same_spec u8 v8) ?_
    rintro _ h9 ⟨hp9, rfl⟩
    simp (dsimp := false) only [↓ir.law32_PacketSends.r0.w, ↓ir.law32_PacketSends.r1.w, ↓ir.law32_PacketSends.r2.w, ↓ir.law32_PacketSends.r3.w, ↓ir.law32_PacketSends.r4.w, ↓ir.law32_PacketSends.r5.w, ↓ir.law32_PacketSends.r6.w, ir.law32_PacketSends.rs, go_sem, Nat.reduceAdd, Nat.reduceEqDiff, Nat.reduceMul, Nat.reduceLeDiff, Nat.reduceSub, Nat.reduceLT, ↓reduceIte, reduceCtorEq, List.reduceReplicate, List.flatten_cons, List.flatten_nil, List.append_nil, eq_self, Int.reduceLE, Int.reduceLT, Int.reduceToNat, Nat.min_eq_left, Int.reducePow, Int.reduceNeg, Int.reduceEq, decide_true]
    refine callV_x names_spec ?_
    rintro s h10 ⟨hp10, hs⟩
    have hn' : n'.toNat < nameL.length := by simp [nameL]; omega
    obtain ⟨_, _, t0, s0, _⟩ := hs.rd2 (.refl _) hn'
    subst t0
    have e1 : ∀ {h2 : AHeap} {K : Value → AHeap → Prop}, ixsV 1 s (.int .i64 n') h2 K () = mvV (.pointer (some ⟨sb s, so s + n'.toNat * 1, none⟩)) h2 K () := hs.ixs n0 (by simp [nameL]; omega)
    have hname : nameS n' = nameL[n'.toNat] := by simp [nameS, List.getD, hn']; omega
    rw [hname]
    simp (dsimp := false) only [↓ir.law32_PacketSends.r0.w, ↓ir.law32_PacketSends.r1.w, ↓ir.law32_PacketSends.r2.w, ↓ir.law32_PacketSends.r3.w, ↓ir.law32_PacketSends.r4.w, ↓ir.law32_PacketSends.r5.w, ↓ir.law32_PacketSends.r6.w, ir.law32_PacketSends.rs, go_sem, Nat.reduceAdd, Nat.reduceEqDiff, Nat.reduceMul, Nat.reduceLeDiff, Nat.reduceSub, Nat.reduceLT, ↓reduceIte, reduceCtorEq, List.reduceReplicate, List.flatten_cons, List.flatten_nil, List.append_nil, eq_self, Int.reduceLE, Int.reduceLT, Int.reduceToNat, Nat.min_eq_left, Int.reducePow, Int.reduceNeg, Int.reduceEq, e1, s0, beq_self_eq_true, decide_true]
    have hN10 : Named h10 := rds_pre ((p68.trans hp9).trans hp10) hN6
    refine callV_x (name_spec hN10 (-1)) ?_
    rintro _ h11 ⟨hp11, rfl⟩
    rw [show nameS (-1) = ⟨#[]⟩ from rfl]
    simp (dsimp := false) only [↓ir.law32_PacketSends.r0.w, ↓ir.law32_PacketSends.r1.w, ↓ir.law32_PacketSends.r2.w, ↓ir.law32_PacketSends.r3.w, ↓ir.law32_PacketSends.r4.w, ↓ir.law32_PacketSends.r5.w, ↓ir.law32_PacketSends.r6.w, ir.law32_PacketSends.rs, go_sem, Nat.reduceAdd, Nat.reduceEqDiff, Nat.reduceMul, Nat.reduceLeDiff, Nat.reduceSub, Nat.reduceLT, ↓reduceIte, reduceCtorEq, List.reduceReplicate, List.flatten_cons, List.flatten_nil, List.append_nil, eq_self, Int.reduceLE, Int.reduceLT, Int.reduceToNat, Nat.min_eq_left, Int.reducePow, Int.reduceNeg, Int.reduceEq, beq_self_eq_true, decide_true]
    refine callV_x (name_spec (rds_pre hp11 hN10) 6) ?_
    rintro _ h12 ⟨hp12, rfl⟩
    rw [show nameS 6 = ⟨#[]⟩ from rfl]
    simp (dsimp := false) only [↓ir.law32_PacketSends.r0.w, ↓ir.law32_PacketSends.r1.w, ↓ir.law32_PacketSends.r2.w, ↓ir.law32_PacketSends.r3.w, ↓ir.law32_PacketSends.r4.w, ↓ir.law32_PacketSends.r5.w, ↓ir.law32_PacketSends.r6.w, ir.law32_PacketSends.rs, go_sem, Nat.reduceAdd, Nat.reduceEqDiff, Nat.reduceMul, Nat.reduceLeDiff, Nat.reduceSub, Nat.reduceLT, ↓reduceIte, reduceCtorEq, List.reduceReplicate, List.flatten_cons, List.flatten_nil, List.append_nil, eq_self, Int.reduceLE, Int.reduceLT, Int.reduceToNat, Nat.min_eq_left, Int.reducePow, Int.reduceNeg, Int.reduceEq, beq_self_eq_true, decide_true]
end Go.Proofs.YtmeojocmngbpaaaDoor.B
