/-
  Layer 32 (packet) over the abstract heap: all packets; the document's example.
-/
import Derived.Test.YtmeojocmngbpaaaDoorP4
namespace Go.Proofs.YtmeojocmngbpaaaDoor.B
open Go Go.IntWalk
set_option linter.unusedVariables false
set_option linter.unusedSimpArgs false

/-- Six counts of ends, the hops, the most hops. -/
def stepP (L : List Int) (r : List Int × Int) : List Int :=
  let L1 := L.set r.2.toNat (IntKind.i64.wrap (L.getD r.2.toNat 0 + 1))
  if r.2 = 0 then
    let L2 := L1.set 6 (IntKind.i64.wrap (L1.getD 6 0 + IntKind.i64.wrap ((r.1.length : Int) - 1)))
    L2.set 7 (max (L2.getD 7 0) (IntKind.i64.wrap ((r.1.length : Int) - 1)))
  else L1
def rowP (N : Net) (ttl : Int) (a : Nat) : Nat → List Int → List Int
  | 0, L => L
  | k + 1, L => if k = a then rowP N ttl a k L else stepP (rowP N ttl a k L) (sendF N k 300 [] a (min ttl 255))
def allP (N : Net) (ttl : Int) : Nat → List Int
  | 0 => List.replicate 8 0
  | k + 1 => if atB N.U k = true ∧ atB N.H k = true then rowP N ttl k N.T.length (allP N ttl k) else allP N ttl k

theorem stepP_len (L : List Int) (r : List Int × Int) : (stepP L r).length = L.length := by
  unfold stepP
  simp only
  split <;> simp
theorem rowP_len (N : Net) (ttl : Int) (a : Nat) : ∀ (k : Nat) (L : List Int), (rowP N ttl a k L).length = L.length
  | 0, L => rfl
  | k + 1, L => by
    rw [rowP]
    split
    · exact rowP_len N ttl a k L
    · rw [stepP_len, rowP_len N ttl a k L]
theorem allP_len (N : Net) (ttl : Int) : ∀ k, (allP N ttl k).length = 8
  | 0 => rfl
  | k + 1 => by
    rw [allP]
    split
    · rw [rowP_len, allP_len N ttl k]
    · exact allP_len N ttl k
theorem sendF_end (N : Net) (dest : Int) : ∀ (f : Nat) (w : List Int) (a t : Int), 0 ≤ (sendF N dest f w a t).2 ∧ (sendF N dest f w a t).2 < 6
  | 0, w, a, t => by simp [sendF]
  | f + 1, w, a, t => by
    rw [sendF]
    repeat' (split; · simp)
    exact sendF_end N dest f _ _ _

abbrev ints (L : List Int) : List Value := L.map (Value.int .i64)
theorem ints_rd {L : List Int} {i : Nat} (hi : i < L.length) : ((ints L).drop i).take 1 = [.int .i64 (L.getD i 0)] := by
  rw [List.drop_eq_getElem_cons (by simpa using hi)]
  simp [List.getD, hi]
theorem ints_set (L : List Int) (i : Nat) (x : Int) : setC (ints L) i [.int .i64 x] = ints (L.set i x) := by
  show (L.map (Value.int .i64)).set i (.int .i64 x) = (L.set i x).map (Value.int .i64)
  rw [List.map_set]
theorem eight {L : List Int} (h : L.length = 8) : ∃ a b c d e f g i, L = [a, b, c, d, e, f, g, i] := by
  match L, h with
  | [a, b, c, d, e, f, g, i], _ => exact ⟨a, b, c, d, e, f, g, i, rfl⟩
/-- A count is read, and written. -/
theorem Fx.irdA {h : AHeap} {b : Nat} {L : List Int} (k : Fx h b (ints L)) {i : Nat} (hi : i < L.length) (g : AHeap) : rds (h ++ g) b i 1 = some [.int .i64 (L.getD i 0)] := k.rdA (ints_rd hi) (by simp; omega) g
theorem Fx.iwrA {h : AHeap} {b : Nat} {L : List Int} (k : Fx h b (ints L)) {i : Nat} (hi : i < L.length) (x : Int) (g : AHeap) : wrs (h ++ g) b i [.int .i64 x] = some (h.set b (.row .fix (ints (L.set i x))) ++ g) := by
  rw [k.wrA (by simp; omega), ints_set]
theorem Fx.ird {h : AHeap} {b : Nat} {L : List Int} (k : Fx h b (ints L)) {i : Nat} (hi : i < L.length) : rds h b i 1 = some [.int .i64 (L.getD i 0)] := k.rd (ints_rd hi) (by simp; omega)
theorem Fx.iwr {h : AHeap} {b : Nat} {L : List Int} (k : Fx h b (ints L)) {i : Nat} (hi : i < L.length) (x : Int) : wrs h b i [.int .i64 x] = some (h.set b (.row .fix (ints (L.set i x)))) := by
  rw [k.wr (by simp; omega), ints_set]

theorem all_spec {h : AHeap} {tv hv uv kv : Value} {N : Net} (k : NetV h tv hv uv kv N) (hr : ∀ t ∈ N.T, Rises t) (ttl : Int) : SpecX Tryd.prog nG fn.packet_All [.agg ⟨[tv, hv, uv, kv]⟩, .int .i64 ttl] h fun v' h' =>
    Pre h h' ∧ v' = .agg ⟨ints (allP N ttl N.T.length)⟩ := by
  refine SpecX.of_body (ir.packet_All.spec (Nat.le_of_ble_eq_true rfl)) ?_
  simp (dsimp := false) only [↓ir.packet_All.bw, ir.packet_All.rs, ↓ir.packet_All.r0.w, ↓ir.packet_All.r1.w, ↓ir.packet_All.r2.w, ↓ir.packet_All.r3.w, ↓ir.packet_All.r4.w, ↓ir.packet_All.r5.w, ↓ir.packet_All.r6.w, ↓ir.packet_All.r7.w, ↓ir.packet_All.r8.w, ↓ir.packet_All.r9.w, ↓ir.packet_All.r10.w, ↓ir.packet_All.r11.w, ↓ir.packet_All.r12.w, ↓ir.packet_All.r13.w, ↓ir.packet_All.r14.w, ↓ir.packet_All.r15.w, ↓ir.packet_All.l1.w, ↓ir.packet_All.r16.w, ↓ir.packet_All.l2.w, ↓ir.packet_All.r17.w, ir.packet_All.rs, go_sem, Nat.reduceAdd, Nat.reduceEqDiff, Nat.reduceMul, Nat.reduceLeDiff, Nat.reduceSub, Nat.reduceLT, ↓reduceIte, reduceCtorEq, List.reduceReplicate, List.flatten_cons, List.flatten_nil, List.append_nil, eq_self, Int.reduceLE, Int.reduceLT, Int.reduceToNat, Nat.min_eq_left, Int.reducePow, Int.reduceNeg, Int.reduceEq, k.T.lenV]
  obtain ⟨X, hX⟩ : ∃ X, h.length + 1 = X := ⟨_, rfl⟩
  obtain ⟨B, hB⟩ : ∃ B, h.length + 2 = B := ⟨_, rfl⟩
  obtain ⟨A, hA⟩ : ∃ A, h.length = A := ⟨_, rfl⟩
  have hx0 : Fx (h ++ [.row .fix [tv, hv, uv, kv], .row .fix (ints (List.replicate 8 0)), .row .fix (ints (List.replicate 8 0))]) A [tv, hv, uv, kv] := by subst hA; simp [Fx]
  have hx1 : Fx (h ++ [.row .fix [tv, hv, uv, kv], .row .fix (ints (List.replicate 8 0)), .row .fix (ints (List.replicate 8 0))]) X (ints (List.replicate 8 0)) := by subst hX; simp [Fx]
  have hx2 : Fx (h ++ [.row .fix [tv, hv, uv, kv], .row .fix (ints (List.replicate 8 0)), .row .fix (ints (List.replicate 8 0))]) B (ints (allP N ttl 0)) := by subst hB; simp [Fx, allP]
  rw [hX, hB, hA]
  refine loopV_of (fun m e h2 => ∃ (i : Nat), m = N.T.length - i ∧ i ≤ N.T.length ∧ Pre h h2 ∧ Fx h2 A [tv, hv, uv, kv] ∧ Fx h2 X (ints (List.replicate 8 0)) ∧ Fx h2 B (ints (allP N ttl i)) ∧
    e = [(1, .int .i64 ttl), (2, .pointer (some ⟨A, 0, none⟩)), (4, .pointer (some ⟨X, 0, none⟩)), (5, .pointer (some ⟨B, 0, none⟩)), (11, .int .i64 N.T.length), (12, .int .i64 i)]) _ ⟨0, rfl, Nat.zero_le _, .app _ _, hx0, hx1, hx2, rfl⟩ ?_
  clear hx0 hx1 hx2
  rintro m e h2 ⟨i, rfl, hi, hp, hx0, hx1, hx2, rfl⟩
  have hlen := allP_len N ttl i
  rcases Nat.lt_or_ge i N.T.length with hlt | hge
  case inr =>
    obtain rfl : i = N.T.length := by omega
    obtain ⟨x0, x1, x2, x3, x4, x5, x6, x7, hL⟩ := eight hlen
    rw [hL] at hx2 ⊢
    have r0 := hx2.rd (off := 0) (n := 8) (vs := ints [x0, x1, x2, x3, x4, x5, x6, x7]) rfl (Nat.le_of_ble_eq_true rfl)
    have w0 : wrs h2 X 0 (ints [x0, x1, x2, x3, x4, x5, x6, x7]) = some (h2.set X (.row .fix (ints [x0, x1, x2, x3, x4, x5, x6, x7]))) := hx1.wr (vs := ints [x0, x1, x2, x3, x4, x5, x6, x7]) (Nat.le_of_ble_eq_true rfl)
    have r1 := (hx1.set (ints [x0, x1, x2, x3, x4, x5, x6, x7])).rd (off := 0) (n := 8) (vs := ints [x0, x1, x2, x3, x4, x5, x6, x7]) rfl (Nat.le_of_ble_eq_true rfl)
    simp only [ints, List.map_cons, List.map_nil] at r0 w0 r1
    simp (dsimp := false) only [↓ir.packet_All.l2.bw, ↓ir.packet_All.r0.w, ↓ir.packet_All.r1.w, ↓ir.packet_All.r2.w, ↓ir.packet_All.r3.w, ↓ir.packet_All.r4.w, ↓ir.packet_All.r5.w, ↓ir.packet_All.r6.w, ↓ir.packet_All.r7.w, ↓ir.packet_All.r8.w, ↓ir.packet_All.r9.w, ↓ir.packet_All.r10.w, ↓ir.packet_All.r11.w, ↓ir.packet_All.r12.w, ↓ir.packet_All.r13.w, ↓ir.packet_All.r14.w, ↓ir.packet_All.r15.w, ↓ir.packet_All.l1.w, ↓ir.packet_All.r16.w, ↓ir.packet_All.l2.w, ↓ir.packet_All.r17.w, ir.packet_All.rs, go_sem, Nat.reduceAdd, Nat.reduceEqDiff, Nat.reduceMul, Nat.reduceLeDiff, Nat.reduceSub, Nat.reduceLT, ↓reduceIte, reduceCtorEq, List.reduceReplicate, List.flatten_cons, List.flatten_nil, List.append_nil, eq_self, Int.reduceLE, Int.reduceLT, Int.reduceToNat, Nat.min_eq_left, Int.reducePow, Int.reduceNeg, Int.reduceEq, Int.ofNat_lt, Nat.lt_irrefl, decide_false, r0, w0, r1]
    exact hp.put (b := X) (by omega) _
  have rx2 := hx0.rd (off := 2) (n := 1) (vs := [uv]) rfl (Nat.le_of_ble_eq_true rfl)
  simp (dsimp := false) only [↓ir.packet_All.l2.bw, ↓ir.packet_All.r0.w, ↓ir.packet_All.r1.w, ↓ir.packet_All.r2.w, ↓ir.packet_All.r3.w, ↓ir.packet_All.r4.w, ↓ir.packet_All.r5.w, ↓ir.packet_All.r6.w, ↓ir.packet_All.r7.w, ↓ir.packet_All.r8.w, ↓ir.packet_All.r9.w, ↓ir.packet_All.r10.w, ↓ir.packet_All.r11.w, ↓ir.packet_All.r12.w, ↓ir.packet_All.r13.w, ↓ir.packet_All.r14.w, ↓ir.packet_All.r15.w, ↓ir.packet_All.l1.w, ↓ir.packet_All.r16.w, ↓ir.packet_All.l2.w, ↓ir.packet_All.r17.w, ir.packet_All.rs, go_sem, Nat.reduceAdd, Nat.reduceEqDiff, Nat.reduceMul, Nat.reduceLeDiff, Nat.reduceSub, Nat.reduceLT, ↓reduceIte, reduceCtorEq, List.reduceReplicate, List.flatten_cons, List.flatten_nil, List.append_nil, eq_self, Int.reduceLE, Int.reduceLT, Int.reduceToNat, Nat.min_eq_left, Int.reducePow, Int.reduceNeg, Int.reduceEq, Int.ofNat_lt, hlt, decide_true, rx2]
  refine callV_x (is_spec (k.U.pre hp) i) ?_
  rintro _ h3 ⟨hp3, rfl⟩
  simp (dsimp := false) only [↓ir.packet_All.r0.w, ↓ir.packet_All.r1.w, ↓ir.packet_All.r2.w, ↓ir.packet_All.r3.w, ↓ir.packet_All.r4.w, ↓ir.packet_All.r5.w, ↓ir.packet_All.r6.w, ↓ir.packet_All.r7.w, ↓ir.packet_All.r8.w, ↓ir.packet_All.r9.w, ↓ir.packet_All.r10.w, ↓ir.packet_All.r11.w, ↓ir.packet_All.r12.w, ↓ir.packet_All.r13.w, ↓ir.packet_All.r14.w, ↓ir.packet_All.r15.w, ↓ir.packet_All.l1.w, ↓ir.packet_All.r16.w, ↓ir.packet_All.l2.w, ↓ir.packet_All.r17.w, ir.packet_All.rs, go_sem, Nat.reduceAdd, Nat.reduceEqDiff, Nat.reduceMul, Nat.reduceLeDiff, Nat.reduceSub, Nat.reduceLT, ↓reduceIte, reduceCtorEq, List.reduceReplicate, List.flatten_cons, List.flatten_nil, List.append_nil, eq_self, Int.reduceLE, Int.reduceLT, Int.reduceToNat, Nat.min_eq_left, Int.reducePow, Int.reduceNeg, Int.reduceEq]
  have next : ∀ {h'}, Pre h2 h' → (atB N.U i && atB N.H i) = false → ∃ m', m' < N.T.length - i ∧ ∃ (j : Nat), m' = N.T.length - j ∧ j ≤ N.T.length ∧ Pre h h' ∧ Fx h' A [tv, hv, uv, kv] ∧ Fx h' X (ints (List.replicate 8 0)) ∧ Fx h' B (ints (allP N ttl j)) ∧
      [(1, Value.int .i64 ttl), (2, .pointer (some ⟨A, 0, none⟩)), (4, .pointer (some ⟨X, 0, none⟩)), (5, .pointer (some ⟨B, 0, none⟩)), (11, .int .i64 N.T.length), (12, .int .i64 ((i + 1 : Nat) : Int))] = [(1, .int .i64 ttl), (2, .pointer (some ⟨A, 0, none⟩)), (4, .pointer (some ⟨X, 0, none⟩)), (5, .pointer (some ⟨B, 0, none⟩)), (11, .int .i64 N.T.length), (12, .int .i64 j)] := fun {h'} p q =>
    ⟨N.T.length - (i + 1), by omega, i + 1, rfl, hlt, hp.trans p, hx0.pre p, hx1.pre p, by
      rw [allP, if_neg (by intro z; rw [z.1, z.2] at q; cases q)]
      exact hx2.pre p, rfl⟩
  cases c1 : atB N.U i
  · simp (dsimp := false) only [↓ir.packet_All.r0.w, ↓ir.packet_All.r1.w, ↓ir.packet_All.r2.w, ↓ir.packet_All.r3.w, ↓ir.packet_All.r4.w, ↓ir.packet_All.r5.w, ↓ir.packet_All.r6.w, ↓ir.packet_All.r7.w, ↓ir.packet_All.r8.w, ↓ir.packet_All.r9.w, ↓ir.packet_All.r10.w, ↓ir.packet_All.r11.w, ↓ir.packet_All.r12.w, ↓ir.packet_All.r13.w, ↓ir.packet_All.r14.w, ↓ir.packet_All.r15.w, ↓ir.packet_All.l1.w, ↓ir.packet_All.r16.w, ↓ir.packet_All.l2.w, ↓ir.packet_All.r17.w, ir.packet_All.rs, go_sem, Nat.reduceAdd, Nat.reduceEqDiff, Nat.reduceMul, Nat.reduceLeDiff, Nat.reduceSub, Nat.reduceLT, ↓reduceIte, reduceCtorEq, List.reduceReplicate, List.flatten_cons, List.flatten_nil, List.append_nil, eq_self, Int.reduceLE, Int.reduceLT, Int.reduceToNat, Nat.min_eq_left, Int.reducePow, Int.reduceNeg, Int.reduceEq, Bool.not_false, wrap_succ hlt k.T.le]
    exact next hp3 (by rw [c1]; rfl)
  simp (dsimp := false) only [↓ir.packet_All.r0.w, ↓ir.packet_All.r1.w, ↓ir.packet_All.r2.w, ↓ir.packet_All.r3.w, ↓ir.packet_All.r4.w, ↓ir.packet_All.r5.w, ↓ir.packet_All.r6.w, ↓ir.packet_All.r7.w, ↓ir.packet_All.r8.w, ↓ir.packet_All.r9.w, ↓ir.packet_All.r10.w, ↓ir.packet_All.r11.w, ↓ir.packet_All.r12.w, ↓ir.packet_All.r13.w, ↓ir.packet_All.r14.w, ↓ir.packet_All.r15.w, ↓ir.packet_All.l1.w, ↓ir.packet_All.r16.w, ↓ir.packet_All.l2.w, ↓ir.packet_All.r17.w, ir.packet_All.rs, go_sem, Nat.reduceAdd, Nat.reduceEqDiff, Nat.reduceMul, Nat.reduceLeDiff, Nat.reduceSub, Nat.reduceLT, ↓reduceIte, reduceCtorEq, List.reduceReplicate, List.flatten_cons, List.flatten_nil, List.append_nil, eq_self, Int.reduceLE, Int.reduceLT, Int.reduceToNat, Nat.min_eq_left, Int.reducePow, Int.reduceNeg, Int.reduceEq, Bool.not_true, (hx0.pre hp3).rd (off := 1) (n := 1) (vs := [hv]) rfl (Nat.le_of_ble_eq_true rfl)]
  refine callV_x (is_spec (k.H.pre (hp.trans hp3)) i) ?_
  rintro _ h4 ⟨hp4, rfl⟩
  simp (dsimp := false) only [↓ir.packet_All.r0.w, ↓ir.packet_All.r1.w, ↓ir.packet_All.r2.w, ↓ir.packet_All.r3.w, ↓ir.packet_All.r4.w, ↓ir.packet_All.r5.w, ↓ir.packet_All.r6.w, ↓ir.packet_All.r7.w, ↓ir.packet_All.r8.w, ↓ir.packet_All.r9.w, ↓ir.packet_All.r10.w, ↓ir.packet_All.r11.w, ↓ir.packet_All.r12.w, ↓ir.packet_All.r13.w, ↓ir.packet_All.r14.w, ↓ir.packet_All.r15.w, ↓ir.packet_All.l1.w, ↓ir.packet_All.r16.w, ↓ir.packet_All.l2.w, ↓ir.packet_All.r17.w, ir.packet_All.rs, go_sem, Nat.reduceAdd, Nat.reduceEqDiff, Nat.reduceMul, Nat.reduceLeDiff, Nat.reduceSub, Nat.reduceLT, ↓reduceIte, reduceCtorEq, List.reduceReplicate, List.flatten_cons, List.flatten_nil, List.append_nil, eq_self, Int.reduceLE, Int.reduceLT, Int.reduceToNat, Nat.min_eq_left, Int.reducePow, Int.reduceNeg, Int.reduceEq]
  have p4 := hp3.trans hp4
  cases c2 : atB N.H i
  · simp (dsimp := false) only [↓ir.packet_All.r0.w, ↓ir.packet_All.r1.w, ↓ir.packet_All.r2.w, ↓ir.packet_All.r3.w, ↓ir.packet_All.r4.w, ↓ir.packet_All.r5.w, ↓ir.packet_All.r6.w, ↓ir.packet_All.r7.w, ↓ir.packet_All.r8.w, ↓ir.packet_All.r9.w, ↓ir.packet_All.r10.w, ↓ir.packet_All.r11.w, ↓ir.packet_All.r12.w, ↓ir.packet_All.r13.w, ↓ir.packet_All.r14.w, ↓ir.packet_All.r15.w, ↓ir.packet_All.l1.w, ↓ir.packet_All.r16.w, ↓ir.packet_All.l2.w, ↓ir.packet_All.r17.w, ir.packet_All.rs, go_sem, Nat.reduceAdd, Nat.reduceEqDiff, Nat.reduceMul, Nat.reduceLeDiff, Nat.reduceSub, Nat.reduceLT, ↓reduceIte, reduceCtorEq, List.reduceReplicate, List.flatten_cons, List.flatten_nil, List.append_nil, eq_self, Int.reduceLE, Int.reduceLT, Int.reduceToNat, Nat.min_eq_left, Int.reducePow, Int.reduceNeg, Int.reduceEq, Bool.not_false, wrap_succ hlt k.T.le]
    exact next p4 (by rw [c2]; simp)
  clear next
  simp (dsimp := false) only [↓ir.packet_All.r0.w, ↓ir.packet_All.r1.w, ↓ir.packet_All.r2.w, ↓ir.packet_All.r3.w, ↓ir.packet_All.r4.w, ↓ir.packet_All.r5.w, ↓ir.packet_All.r6.w, ↓ir.packet_All.r7.w, ↓ir.packet_All.r8.w, ↓ir.packet_All.r9.w, ↓ir.packet_All.r10.w, ↓ir.packet_All.r11.w, ↓ir.packet_All.r12.w, ↓ir.packet_All.r13.w, ↓ir.packet_All.r14.w, ↓ir.packet_All.r15.w, ↓ir.packet_All.l1.w, ↓ir.packet_All.r16.w, ↓ir.packet_All.l2.w, ↓ir.packet_All.r17.w, ir.packet_All.rs, go_sem, Nat.reduceAdd, Nat.reduceEqDiff, Nat.reduceMul, Nat.reduceLeDiff, Nat.reduceSub, Nat.reduceLT, ↓reduceIte, reduceCtorEq, List.reduceReplicate, List.flatten_cons, List.flatten_nil, List.append_nil, eq_self, Int.reduceLE, Int.reduceLT, Int.reduceToNat, Nat.min_eq_left, Int.reducePow, Int.reduceNeg, Int.reduceEq, Bool.not_true, (hx0.pre p4).rd (off := 0) (n := 1) (vs := [tv]) rfl (Nat.le_of_ble_eq_true rfl), k.T.lenV]
  refine loopV_of (fun m e h2 => ∃ (j : Nat), m = N.T.length - j ∧ j ≤ N.T.length ∧ Pre h h2 ∧ Fx h2 A [tv, hv, uv, kv] ∧ Fx h2 X (ints (List.replicate 8 0)) ∧ Fx h2 B (ints (rowP N ttl i j (allP N ttl i))) ∧
    e = [(1, .int .i64 ttl), (2, .pointer (some ⟨A, 0, none⟩)), (4, .pointer (some ⟨X, 0, none⟩)), (5, .pointer (some ⟨B, 0, none⟩)), (6, .int .i64 i), (11, .int .i64 N.T.length), (12, .int .i64 i), (29, .int .i64 N.T.length), (30, .int .i64 j)]) _ ⟨0, rfl, Nat.zero_le _, hp.trans p4, hx0.pre p4, hx1.pre p4, hx2.pre p4, rfl⟩ ?_
  clear hp hx0 hx1 hx2 rx2 p4 hp3 hp4
  rintro m e h5 ⟨j, rfl, hj, hp, hx0, hx1, hx2, rfl⟩
  rcases Nat.lt_or_ge j N.T.length with hjl | hjg
  case inr =>
    obtain rfl : j = N.T.length := by omega
    simp (dsimp := false) only [↓ir.packet_All.l1.bw, ↓ir.packet_All.r0.w, ↓ir.packet_All.r1.w, ↓ir.packet_All.r2.w, ↓ir.packet_All.r3.w, ↓ir.packet_All.r4.w, ↓ir.packet_All.r5.w, ↓ir.packet_All.r6.w, ↓ir.packet_All.r7.w, ↓ir.packet_All.r8.w, ↓ir.packet_All.r9.w, ↓ir.packet_All.r10.w, ↓ir.packet_All.r11.w, ↓ir.packet_All.r12.w, ↓ir.packet_All.r13.w, ↓ir.packet_All.r14.w, ↓ir.packet_All.r15.w, ↓ir.packet_All.l1.w, ↓ir.packet_All.r16.w, ↓ir.packet_All.l2.w, ↓ir.packet_All.r17.w, ir.packet_All.rs, go_sem, Nat.reduceAdd, Nat.reduceEqDiff, Nat.reduceMul, Nat.reduceLeDiff, Nat.reduceSub, Nat.reduceLT, ↓reduceIte, reduceCtorEq, List.reduceReplicate, List.flatten_cons, List.flatten_nil, List.append_nil, eq_self, Int.reduceLE, Int.reduceLT, Int.reduceToNat, Nat.min_eq_left, Int.reducePow, Int.reduceNeg, Int.reduceEq, Int.ofNat_lt, Nat.lt_irrefl, decide_false, wrap_succ hlt k.T.le]
    exact ⟨N.T.length - (i + 1), by omega, i + 1, rfl, hlt, hp, hx0, hx1, by rw [allP, if_pos ⟨c1, c2⟩]; exact hx2, rfl⟩
  simp (dsimp := false) only [↓ir.packet_All.l1.bw, ↓ir.packet_All.r0.w, ↓ir.packet_All.r1.w, ↓ir.packet_All.r2.w, ↓ir.packet_All.r3.w, ↓ir.packet_All.r4.w, ↓ir.packet_All.r5.w, ↓ir.packet_All.r6.w, ↓ir.packet_All.r7.w, ↓ir.packet_All.r8.w, ↓ir.packet_All.r9.w, ↓ir.packet_All.r10.w, ↓ir.packet_All.r11.w, ↓ir.packet_All.r12.w, ↓ir.packet_All.r13.w, ↓ir.packet_All.r14.w, ↓ir.packet_All.r15.w, ↓ir.packet_All.l1.w, ↓ir.packet_All.r16.w, ↓ir.packet_All.l2.w, ↓ir.packet_All.r17.w, ir.packet_All.rs, go_sem, Nat.reduceAdd, Nat.reduceEqDiff, Nat.reduceMul, Nat.reduceLeDiff, Nat.reduceSub, Nat.reduceLT, ↓reduceIte, reduceCtorEq, List.reduceReplicate, List.flatten_cons, List.flatten_nil, List.append_nil, eq_self, Int.reduceLE, Int.reduceLT, Int.reduceToNat, Nat.min_eq_left, Int.reducePow, Int.reduceNeg, Int.reduceEq, Int.ofNat_lt, hjl, decide_true]
  refine cVe (fun c3 => ?_) (fun c3 => ?_)
  · simp (dsimp := false) only [↓ir.packet_All.r0.w, ↓ir.packet_All.r1.w, ↓ir.packet_All.r2.w, ↓ir.packet_All.r3.w, ↓ir.packet_All.r4.w, ↓ir.packet_All.r5.w, ↓ir.packet_All.r6.w, ↓ir.packet_All.r7.w, ↓ir.packet_All.r8.w, ↓ir.packet_All.r9.w, ↓ir.packet_All.r10.w, ↓ir.packet_All.r11.w, ↓ir.packet_All.r12.w, ↓ir.packet_All.r13.w, ↓ir.packet_All.r14.w, ↓ir.packet_All.r15.w, ↓ir.packet_All.l1.w, ↓ir.packet_All.r16.w, ↓ir.packet_All.l2.w, ↓ir.packet_All.r17.w, ir.packet_All.rs, go_sem, Nat.reduceAdd, Nat.reduceEqDiff, Nat.reduceMul, Nat.reduceLeDiff, Nat.reduceSub, Nat.reduceLT, ↓reduceIte, reduceCtorEq, List.reduceReplicate, List.flatten_cons, List.flatten_nil, List.append_nil, eq_self, Int.reduceLE, Int.reduceLT, Int.reduceToNat, Nat.min_eq_left, Int.reducePow, Int.reduceNeg, Int.reduceEq, wrap_succ hjl k.T.le]
    exact ⟨N.T.length - (j + 1), by omega, j + 1, rfl, hjl, hp, hx0, hx1, by rw [rowP, if_pos (by omega)]; exact hx2, rfl⟩
  have hl8 : (rowP N ttl i j (allP N ttl i)).length = 8 := by rw [rowP_len]; exact hlen
  have hrow : rowP N ttl i (j + 1) (allP N ttl i) = stepP (rowP N ttl i j (allP N ttl i)) (sendF N j 300 [] i (min ttl 255)) := by rw [rowP, if_neg (by omega)]
  generalize hL : rowP N ttl i j (allP N ttl i) = L at hx2 hl8 hrow
  simp (dsimp := false) only [↓ir.packet_All.r0.w, ↓ir.packet_All.r1.w, ↓ir.packet_All.r2.w, ↓ir.packet_All.r3.w, ↓ir.packet_All.r4.w, ↓ir.packet_All.r5.w, ↓ir.packet_All.r6.w, ↓ir.packet_All.r7.w, ↓ir.packet_All.r8.w, ↓ir.packet_All.r9.w, ↓ir.packet_All.r10.w, ↓ir.packet_All.r11.w, ↓ir.packet_All.r12.w, ↓ir.packet_All.r13.w, ↓ir.packet_All.r14.w, ↓ir.packet_All.r15.w, ↓ir.packet_All.l1.w, ↓ir.packet_All.r16.w, ↓ir.packet_All.l2.w, ↓ir.packet_All.r17.w, ir.packet_All.rs, go_sem, Nat.reduceAdd, Nat.reduceEqDiff, Nat.reduceMul, Nat.reduceLeDiff, Nat.reduceSub, Nat.reduceLT, ↓reduceIte, reduceCtorEq, List.reduceReplicate, List.flatten_cons, List.flatten_nil, List.append_nil, eq_self, Int.reduceLE, Int.reduceLT, Int.reduceToNat, Nat.min_eq_left, Int.reducePow, Int.reduceNeg, Int.reduceEq, hx0.rd (off := 0) (n := 4) (vs := [tv, hv, uv, kv]) rfl (Nat.le_of_ble_eq_true rfl)]
  refine callV_x (send_spec (k.pre hp) hr i j ttl) ?_
  rintro _ h6 ⟨hp6, u, w, n, rfl, ou, hw⟩
  have hn := sendF_end N j 300 [] i (min ttl 255)
  rw [← hw] at hrow hn
  have hn0 : 0 ≤ n := hn.1
  have hn6 : n < ((6 : Nat) : Int) := hn.2
  clear hn hw
  have hn8 : n.toNat < L.length := by omega
  have one := ou.ints.oneA
  have cel := ou.ints.cellsA
  have f0 := hx0.pre hp6
  have f1 := hx1.pre hp6
  have f2 := hx2.pre hp6
  have q0 : ∀ g, rds (h6 ++ g) B (n.toNat * 1) 1 = some [.int .i64 (L.getD n.toNat 0)] := fun g => by rw [Nat.mul_one]; exact f2.irdA hn8 g
  have q1 : ∀ x g, wrs (h6 ++ g) B (n.toNat * 1) [.int .i64 x] = some (h6.set B (.row .fix (ints (L.set n.toNat x))) ++ g) := fun x g => by rw [Nat.mul_one]; exact f2.iwrA hn8 x g
  simp (dsimp := false) only [↓ir.packet_All.r0.w, ↓ir.packet_All.r1.w, ↓ir.packet_All.r2.w, ↓ir.packet_All.r3.w, ↓ir.packet_All.r4.w, ↓ir.packet_All.r5.w, ↓ir.packet_All.r6.w, ↓ir.packet_All.r7.w, ↓ir.packet_All.r8.w, ↓ir.packet_All.r9.w, ↓ir.packet_All.r10.w, ↓ir.packet_All.r11.w, ↓ir.packet_All.r12.w, ↓ir.packet_All.r13.w, ↓ir.packet_All.r14.w, ↓ir.packet_All.r15.w, ↓ir.packet_All.l1.w, ↓ir.packet_All.r16.w, ↓ir.packet_All.l2.w, ↓ir.packet_All.r17.w, ir.packet_All.rs, go_sem, Nat.reduceAdd, Nat.reduceEqDiff, Nat.reduceMul, Nat.reduceLeDiff, Nat.reduceSub, Nat.reduceLT, ↓reduceIte, reduceCtorEq, List.reduceReplicate, List.flatten_cons, List.flatten_nil, List.append_nil, eq_self, Int.reduceLE, Int.reduceLT, Int.reduceToNat, Nat.min_eq_left, Int.reducePow, Int.reduceNeg, Int.reduceEq, one, cel, hn0, hn6, q0, q1]
  have hp6' := hp.trans hp6
  obtain ⟨L1, hL1⟩ : ∃ L1, L.set n.toNat (IntKind.i64.wrap (L.getD n.toNat 0 + 1)) = L1 := ⟨_, rfl⟩
  have hl1 : L1.length = 8 := by rw [← hL1]; simpa using hl8
  have hst : rowP N ttl i (j + 1) (allP N ttl i) = if n = 0 then (L1.set 6 (IntKind.i64.wrap (L1.getD 6 0 + IntKind.i64.wrap ((w.length : Int) - 1)))).set 7 (max ((L1.set 6 (IntKind.i64.wrap (L1.getD 6 0 + IntKind.i64.wrap ((w.length : Int) - 1)))).getD 7 0) (IntKind.i64.wrap ((w.length : Int) - 1))) else L1 := by
    rw [hrow, ← hL1]; rfl
  have g0 : Fx (h6.set B (.row .fix (ints L1)) ++ [.row .fix [u, .int .i64 n]]) A [tv, hv, uv, kv] := (f0.other (by omega) _).app _
  have g1 : Fx (h6.set B (.row .fix (ints L1)) ++ [.row .fix [u, .int .i64 n]]) X (ints (List.replicate 8 0)) := (f1.other (by omega) _).app _
  have g2 : Fx (h6.set B (.row .fix (ints L1)) ++ [.row .fix [u, .int .i64 n]]) B (ints L1) := (f2.set _).app _
  have gt : Fx (h6.set B (.row .fix (ints L1)) ++ [.row .fix [u, .int .i64 n]]) h6.length [u, .int .i64 n] := by simp [Fx]
  have gp : Pre h (h6.set B (.row .fix (ints L1)) ++ [.row .fix [u, .int .i64 n]]) := (hp6'.put (by omega) _).app' _
  have hBt : B ≠ h6.length := by have := f2.lt; omega
  have hXt : X ≠ h6.length := by have := f1.lt; omega
  rw [hL1]
  clear hL1 hrow q0 q1 f0 f1 f2 hx0 hx1 hx2 hn8 hL
  generalize h6.set B (.row .fix (ints L1)) ++ [.row .fix [u, .int .i64 n]] = h7 at g0 g1 g2 gt gp ⊢
  generalize h6.length = tb at gt hBt hXt ⊢
  have rt1 := gt.rd (off := 1) (n := 1) (vs := [.int .i64 n]) rfl (Nat.le_of_ble_eq_true rfl)
  simp (dsimp := false) only [↓ir.packet_All.r0.w, ↓ir.packet_All.r1.w, ↓ir.packet_All.r2.w, ↓ir.packet_All.r3.w, ↓ir.packet_All.r4.w, ↓ir.packet_All.r5.w, ↓ir.packet_All.r6.w, ↓ir.packet_All.r7.w, ↓ir.packet_All.r8.w, ↓ir.packet_All.r9.w, ↓ir.packet_All.r10.w, ↓ir.packet_All.r11.w, ↓ir.packet_All.r12.w, ↓ir.packet_All.r13.w, ↓ir.packet_All.r14.w, ↓ir.packet_All.r15.w, ↓ir.packet_All.l1.w, ↓ir.packet_All.r16.w, ↓ir.packet_All.l2.w, ↓ir.packet_All.r17.w, ir.packet_All.rs, go_sem, Nat.reduceAdd, Nat.reduceEqDiff, Nat.reduceMul, Nat.reduceLeDiff, Nat.reduceSub, Nat.reduceLT, ↓reduceIte, reduceCtorEq, List.reduceReplicate, List.flatten_cons, List.flatten_nil, List.append_nil, eq_self, Int.reduceLE, Int.reduceLT, Int.reduceToNat, Nat.min_eq_left, Int.reducePow, Int.reduceNeg, Int.reduceEq, rt1]
  refine cVe (fun c4 => ?_) (fun c4 => ?_)
  case refine_2 =>
    simp (dsimp := false) only [↓ir.packet_All.r0.w, ↓ir.packet_All.r1.w, ↓ir.packet_All.r2.w, ↓ir.packet_All.r3.w, ↓ir.packet_All.r4.w, ↓ir.packet_All.r5.w, ↓ir.packet_All.r6.w, ↓ir.packet_All.r7.w, ↓ir.packet_All.r8.w, ↓ir.packet_All.r9.w, ↓ir.packet_All.r10.w, ↓ir.packet_All.r11.w, ↓ir.packet_All.r12.w, ↓ir.packet_All.r13.w, ↓ir.packet_All.r14.w, ↓ir.packet_All.r15.w, ↓ir.packet_All.l1.w, ↓ir.packet_All.r16.w, ↓ir.packet_All.l2.w, ↓ir.packet_All.r17.w, ir.packet_All.rs, go_sem, Nat.reduceAdd, Nat.reduceEqDiff, Nat.reduceMul, Nat.reduceLeDiff, Nat.reduceSub, Nat.reduceLT, ↓reduceIte, reduceCtorEq, List.reduceReplicate, List.flatten_cons, List.flatten_nil, List.append_nil, eq_self, Int.reduceLE, Int.reduceLT, Int.reduceToNat, Nat.min_eq_left, Int.reducePow, Int.reduceNeg, Int.reduceEq, wrap_succ hjl k.T.le]
    exact ⟨N.T.length - (j + 1), by omega, j + 1, rfl, hjl, gp, g0, g1, by rw [hst, if_neg c4]; exact g2, rfl⟩
  rw [if_pos c4] at hst
  obtain ⟨z, hz⟩ : ∃ z, IntKind.i64.wrap ((w.length : Int) - 1) = z := ⟨_, rfl⟩
  rw [hz] at hst
  obtain ⟨L2, hL2⟩ : ∃ L2, L1.set 6 (IntKind.i64.wrap (L1.getD 6 0 + z)) = L2 := ⟨_, rfl⟩
  rw [hL2] at hst
  have hl2 : L2.length = 8 := by rw [← hL2]; simpa using hl1
  have s0 := g2.ird (i := 6) (by omega)
  have s1 : wrs h7 B 6 [.int .i64 (IntKind.i64.wrap (L1.getD 6 0 + z))] = some (h7.set B (.row .fix (ints L2))) := by rw [← hL2]; exact g2.iwr (by omega) _
  have rt0 := gt.rd (off := 0) (n := 1) (vs := [u]) rfl (Nat.le_of_ble_eq_true rfl)
  have rt0' := (gt.other hBt (.row .fix (ints L2))).rd (off := 0) (n := 1) (vs := [u]) rfl (Nat.le_of_ble_eq_true rfl)
  have s2 := (g2.set (ints L2)).ird (i := 7) (by omega)
  have s3 := (g2.set (ints L2)).iwr (i := 7) (by omega)
  simp (dsimp := false) only [↓ir.packet_All.r0.w, ↓ir.packet_All.r1.w, ↓ir.packet_All.r2.w, ↓ir.packet_All.r3.w, ↓ir.packet_All.r4.w, ↓ir.packet_All.r5.w, ↓ir.packet_All.r6.w, ↓ir.packet_All.r7.w, ↓ir.packet_All.r8.w, ↓ir.packet_All.r9.w, ↓ir.packet_All.r10.w, ↓ir.packet_All.r11.w, ↓ir.packet_All.r12.w, ↓ir.packet_All.r13.w, ↓ir.packet_All.r14.w, ↓ir.packet_All.r15.w, ↓ir.packet_All.l1.w, ↓ir.packet_All.r16.w, ↓ir.packet_All.l2.w, ↓ir.packet_All.r17.w, ir.packet_All.rs, go_sem, Nat.reduceAdd, Nat.reduceEqDiff, Nat.reduceMul, Nat.reduceLeDiff, Nat.reduceSub, Nat.reduceLT, ↓reduceIte, reduceCtorEq, List.reduceReplicate, List.flatten_cons, List.flatten_nil, List.append_nil, eq_self, Int.reduceLE, Int.reduceLT, Int.reduceToNat, Nat.min_eq_left, Int.reducePow, Int.reduceNeg, Int.reduceEq, rt0, ou.ints.lenV, hz, s0, s1, rt0', s2, s3, wrap_succ hjl k.T.le]
  refine ⟨N.T.length - (j + 1), by omega, j + 1, rfl, hjl, (gp.put (b := B) (by omega) _).put (b := B) (by omega) _, (g0.other (by omega) _).other (by omega) _, (g1.other (by omega) _).other (by omega) _, ?_, rfl⟩
  rw [hst]
  have := (g2.set (ints L2)).set (ints (L2.set 7 (if z > L2.getD 7 0 then z else L2.getD 7 0)))
  rw [show max (L2.getD 7 0) z = (if z > L2.getD 7 0 then z else L2.getD 7 0) by omega]
  exact this
end Go.Proofs.YtmeojocmngbpaaaDoor.B
