/-
  The abstract heap: blocks of cells under names of their own, and what it means that a world of the model holds such a heap.
  A text of our own; generic over programs.
-/
import Derived.Orders
import Derived.Below
namespace Go.Proofs.YtpnpccnbpgckhabGreat.B
open Go
set_option linter.unusedVariables false

/-- Where an abstract block lies in the world. -/
structure Pl where
  blk : Nat
  off : Nat
  size : Nat

abbrev Ren := Nat → Option Pl

/-- How a row of cells may be used: read alone; written in place; written and appended to (so many cells an element). -/
inductive Mode where
  | ro
  | fix
  | grow (sz : Nat)

inductive AObj where
  | dead
  | row (m : Mode) (cells : List Value)
  | map (rw : Bool) (es : List (Value × Value))

abbrev AHeap := List AObj

def AObj.rw : AObj → Prop
  | .dead => False
  | .row .ro _ => False
  | .row _ _ => True
  | .map rw _ => rw = true

def capOK (h : AHeap) (b : Nat) (x : Pl) (off cap cap' : Nat) : Prop :=
  match h[b]? with
  | some (.row (.grow sz) _) => cap ≤ cap' ∧ x.off + off + cap' * sz ≤ x.size
  | some .dead => cap ≤ cap'
  | _ => cap' = cap

/-- An empty slice behind the end of its row may lie anywhere in it. -/
def capE (h : AHeap) (b : Nat) (x : Pl) (o' cap' : Nat) : Prop :=
  match h[b]? with
  | some (.row (.grow sz) _) => o' + cap' * sz ≤ x.size
  | some .dead => True
  | _ => cap' = 0

/-- The address of an empty slice of which nothing is known. -/
def voidA : Addr := ⟨0, 0, some default⟩

/-- The world's value for an abstract one. An abstract undefined value stands for anything; a complex zero for an operation that was passed by. -/
inductive VR (μ : Ren) (h : AHeap) : Value → Value → Prop where
  | any (v : Value) : VR μ h (.tuple #[]) v
  | skip : VR μ h (.complex .f32 0 0) (.tuple #[])
  | bool (b : Bool) : VR μ h (.bool b) (.bool b)
  | int (k : IntKind) (n : Int) : VR μ h (.int k n) (.int k n)
  | string (s : ByteArray) : VR μ h (.string s) (.string s)
  | nilPtr : VR μ h (.pointer none) (.pointer none)
  | ptr {b : Nat} {x : Pl} (off : Nat) (hb : μ b = some x) : VR μ h (.pointer (some ⟨b, off, none⟩)) (.pointer (some ⟨x.blk, x.off + off, none⟩))
  | nilSlice : VR μ h (.slice none 0 0) (.slice none 0 0)
  | slice {b : Nat} {x : Pl} (off len cap cap' : Nat) (hb : μ b = some x) (hc : capOK h b x off cap cap') :
      VR μ h (.slice (some ⟨b, off, none⟩) len cap) (.slice (some ⟨x.blk, x.off + off, none⟩) len cap')
  | empty {b : Nat} {x : Pl} (off o' cap' : Nat) (hb : μ b = some x) (hc : capE h b x o' cap') :
      VR μ h (.slice (some ⟨b, off, none⟩) 0 0) (.slice (some ⟨x.blk, o', none⟩) 0 cap')
  | void (a : Addr) : VR μ h (.slice (some voidA) 0 0) (.slice (some a) 0 0)
  | nilMap : VR μ h (.map none) (.map none)
  | map {b : Nat} {x : Pl} (hb : μ b = some x) : VR μ h (.map (some b)) (.map (some x.blk))
  | func (f : Fn) {as bs cs ds : Array Value} (h1 : as.size = bs.size) (h2 : cs.size = ds.size)
      (h3 : ∀ i : Nat, VR μ h (as.getD i (.tuple #[])) (bs.getD i (.tuple #[]))) (h4 : ∀ i : Nat, VR μ h (cs.getD i (.tuple #[])) (ds.getD i (.tuple #[]))) :
      VR μ h (.func f as cs) (.func f bs ds)
  | nilFunc : VR μ h .nilFunc .nilFunc
  | nilIface : VR μ h .nilIface .nilIface
  | iface (t : TypeId) {v v' : Value} (hv : VR μ h v v') : VR μ h (.iface t v) (.iface t v')
  | agg {as bs : Array Value} (hs : as.size = bs.size) (hv : ∀ i : Nat, VR μ h (as.getD i (.tuple #[])) (bs.getD i (.tuple #[]))) : VR μ h (.agg as) (.agg bs)
  | tuple {as bs : Array Value} (hs : as.size = bs.size) (hv : ∀ i : Nat, VR μ h (as.getD i (.tuple #[])) (bs.getD i (.tuple #[]))) : VR μ h (.tuple as) (.tuple bs)

def OLe : AObj → AObj → Prop
  | .dead, .dead => True
  | .row m cs, .row m' cs' => m = m' ∧ cs.length = cs'.length
  | .row _ _, .dead => True
  | .map r _, .map r' _ => r = r'
  | .map _ _, .dead => True
  | _, _ => False

def HLe (h h' : AHeap) : Prop := ∀ (b : Nat) (o : AObj), h[b]? = some o → ∃ o', h'[b]? = some o' ∧ OLe o o'

theorem OLe.refl (o : AObj) : OLe o o := by cases o <;> simp [OLe]
theorem OLe.trans {a b c : AObj} (h : OLe a b) (k : OLe b c) : OLe a c := by
  cases a <;> cases b <;> cases c <;> simp_all [OLe]
theorem OLe.rw_back {a b : AObj} (h : OLe a b) (k : b.rw) : a.rw := by
  cases a with
  | dead => cases b <;> simp_all [OLe, AObj.rw]
  | map r es => cases b <;> simp_all [OLe, AObj.rw]
  | row m cs =>
    cases b with
    | dead => simp_all [AObj.rw]
    | map => simp_all [OLe]
    | row m' cs' =>
      simp only [OLe] at h
      obtain ⟨rfl, _⟩ := h
      cases m <;> simp_all [AObj.rw]
theorem OLe.live_back {a b : AObj} (h : OLe a b) (k : b ≠ .dead) : a ≠ .dead := by
  rintro rfl; cases b <;> simp_all [OLe]

theorem HLe.refl (h : AHeap) : HLe h h := fun b o hb => ⟨o, hb, OLe.refl o⟩
theorem HLe.trans {a b c : AHeap} (h : HLe a b) (k : HLe b c) : HLe a c := fun i o hi =>
  let ⟨o1, h1, l1⟩ := h i o hi
  let ⟨o2, h2, l2⟩ := k i o1 h1
  ⟨o2, h2, l1.trans l2⟩
theorem HLe.length {h h' : AHeap} (k : HLe h h') : h.length ≤ h'.length := by
  rcases Nat.lt_or_ge h'.length h.length with hlt | hge
  · obtain ⟨o', h1, _⟩ := k h'.length h[h'.length] (List.getElem?_eq_getElem hlt)
    simp at h1
  · exact hge
theorem HLe.append (h g : AHeap) : HLe h (h ++ g) := fun b o hb =>
  ⟨o, by rw [List.getElem?_append_left (List.getElem?_eq_some_iff.1 hb).1]; exact hb, OLe.refl o⟩
theorem HLe.set {h : AHeap} {b : Nat} {o o' : AObj} (hb : h[b]? = some o) (l : OLe o o') : HLe h (h.set b o') := by
  intro c u hc
  by_cases e : b = c
  · subst e
    rw [hb] at hc; cases hc
    exact ⟨o', by rw [List.getElem?_set_self (List.getElem?_eq_some_iff.1 hb).1], l⟩
  · exact ⟨u, by rw [List.getElem?_set_ne e]; exact hc, OLe.refl u⟩

theorem capOK.mono {h h' : AHeap} {b : Nat} {x : Pl} {off cap cap' : Nat} (hb : b < h.length) (k : HLe h h') (c : capOK h b x off cap cap') : capOK h' b x off cap cap' := by
  obtain ⟨o', h1, l⟩ := k b h[b] (List.getElem?_eq_getElem hb)
  unfold capOK at *
  rw [List.getElem?_eq_getElem hb] at c
  rw [h1]
  generalize h[b] = o at *
  cases o with
  | dead => cases o' <;> simp_all [OLe]
  | map r es => cases o' <;> simp_all [OLe]
  | row m cs =>
    cases o' with
    | dead => cases m <;> simp_all
    | map => simp_all [OLe]
    | row m' cs' =>
      simp only [OLe] at l
      obtain ⟨rfl, _⟩ := l
      cases m <;> simpa using c

theorem capE.mono {h h' : AHeap} {b : Nat} {x : Pl} {o' cap' : Nat} (hb : b < h.length) (k : HLe h h') (c : capE h b x o' cap') : capE h' b x o' cap' := by
  obtain ⟨o', h1, l⟩ := k b h[b] (List.getElem?_eq_getElem hb)
  unfold capE at *
  rw [List.getElem?_eq_getElem hb] at c
  rw [h1]
  generalize h[b] = o at *
  cases o with
  | dead => cases o' <;> simp_all [OLe]
  | map r es => cases o' <;> simp_all [OLe]
  | row m cs =>
    cases o' with
    | dead => trivial
    | map => simp_all [OLe]
    | row m' cs' =>
      simp only [OLe] at l
      obtain ⟨rfl, _⟩ := l
      cases m <;> simpa using c

theorem VR.mono {μ μ' : Ren} {h h' : AHeap} (hd : ∀ b x, μ b = some x → b < h.length) (hr : ∀ b x, μ b = some x → μ' b = some x) (hh : HLe h h')
    {v v' : Value} (k : VR μ h v v') : VR μ' h' v v' := by
  induction k with
  | any v => exact .any v
  | skip => exact .skip
  | bool b => exact .bool b
  | int k n => exact .int k n
  | string s => exact .string s
  | nilPtr => exact .nilPtr
  | ptr off hb => exact .ptr off (hr _ _ hb)
  | nilSlice => exact .nilSlice
  | slice off len cap cap' hb hc => exact .slice off len cap cap' (hr _ _ hb) (hc.mono (hd _ _ hb) hh)
  | empty off o' cap' hb hc => exact .empty off o' cap' (hr _ _ hb) (hc.mono (hd _ _ hb) hh)
  | void a => exact .void a
  | nilMap => exact .nilMap
  | map hb => exact .map (hr _ _ hb)
  | func f h1 h2 _ _ i1 i2 => exact .func f h1 h2 i1 i2
  | nilFunc => exact .nilFunc
  | nilIface => exact .nilIface
  | iface t _ ih => exact .iface t ih
  | agg hs _ ih => exact .agg hs ih
  | tuple hs _ ih => exact .tuple hs ih

/-- The stamps of a map's entries: each its own, each below the map's clock. -/
def Born (fs : Array MapEntry) (clock : Nat) : Prop := (∀ x ∈ fs.toList, x.born < clock) ∧ (fs.toList.map (·.born)).Nodup
/-- What the world holds for an abstract block. -/
def ObjR (μ : Ren) (h : AHeap) (w : World) (x : Pl) : AObj → Prop
  | .dead => True
  | .row m cells => ∃ cs t fz, w.heap[x.blk]? = some (.cells cs t fz) ∧ cs.size = x.size ∧ ((AObj.row m cells).rw → ∀ j, j < cs.size → ¬ (fz.1 ≤ j ∧ j < fz.2)) ∧
      ∀ (i : Nat) (v : Value), cells[i]? = some v → ∃ v', cs[x.off + i]? = some v' ∧ VR μ h v v'
  | .map rw es => ∃ fs clock, w.heap[x.blk]? = some (.map fs clock) ∧ (fs.size = es.length ∧ (rw = true → Born fs clock)) ∧
      ∀ (i : Nat) (kv : Value × Value), es[i]? = some kv → ∃ e : MapEntry, fs[i]? = some e ∧ VR μ h kv.1 e.key ∧ VR μ h kv.2 e.val

def Live (h : AHeap) (b : Nat) : Prop := ∃ o, h[b]? = some o ∧ o ≠ .dead
def RW (h : AHeap) (b : Nat) : Prop := ∃ o, h[b]? = some o ∧ o.rw

theorem Live.back {h h' : AHeap} (k : HLe h h') {b : Nat} (hb : b < h.length) (l : Live h' b) : Live h b := by
  obtain ⟨o', h1, n⟩ := l
  obtain ⟨o2, h2, l2⟩ := k b h[b] (List.getElem?_eq_getElem hb)
  rw [h1] at h2; cases h2
  exact ⟨h[b], List.getElem?_eq_getElem hb, l2.live_back n⟩
theorem RW.back {h h' : AHeap} (k : HLe h h') {b : Nat} (hb : b < h.length) (l : RW h' b) : RW h b := by
  obtain ⟨o', h1, n⟩ := l
  obtain ⟨o2, h2, l2⟩ := k b h[b] (List.getElem?_eq_getElem hb)
  rw [h1] at h2; cases h2
  exact ⟨h[b], List.getElem?_eq_getElem hb, l2.rw_back n⟩
theorem RW.live {h : AHeap} {b : Nat} (l : RW h b) : Live h b := by
  obtain ⟨o, h1, n⟩ := l
  exact ⟨o, h1, by rintro rfl; exact n⟩

/-- The world holds the part of the abstract heap that has a place; the first G blocks are the program's variables, each in its own place. -/
structure Sim (G : Nat) (μ : Ren) (h : AHeap) (w : World) : Prop where
  glob : ∀ g, g < G → ∃ n, μ g = some ⟨g, 0, n⟩
  dom : ∀ b x, μ b = some x → b < h.length
  obj : ∀ (b : Nat) (x : Pl) (o : AObj), μ b = some x → h[b]? = some o → ObjR μ h w x o
  inj : ∀ b c x y, μ b = some x → μ c = some y → Live h b → Live h c → x.blk = y.blk → b = c

theorem ObjR.bound {μ : Ren} {h : AHeap} {w : World} {x : Pl} {o : AObj} (k : ObjR μ h w x o) (hn : o ≠ .dead) : x.blk < w.heap.size := by
  cases o with
  | dead => exact absurd rfl hn
  | row m cells => obtain ⟨cs, t, fz, h1, _⟩ := k; exact (Array.getElem?_eq_some_iff.1 h1).1
  | map r es => obtain ⟨fs, c, h1, _⟩ := k; exact (Array.getElem?_eq_some_iff.1 h1).1

theorem ObjR.mono {μ μ' : Ren} {h h' : AHeap} {w w' : World} {x : Pl} {o : AObj} (hd : ∀ b x, μ b = some x → b < h.length) (hr : ∀ b x, μ b = some x → μ' b = some x) (hh : HLe h h')
    (hw : w'.heap[x.blk]? = w.heap[x.blk]?) (k : ObjR μ h w x o) : ObjR μ' h' w' x o := by
  cases o with
  | dead => trivial
  | row m cells =>
    obtain ⟨cs, t, fz, h1, h2, h3, h4⟩ := k
    exact ⟨cs, t, fz, hw.trans h1, h2, h3, fun i v hi => let ⟨v', a, b⟩ := h4 i v hi; ⟨v', a, b.mono hd hr hh⟩⟩
  | map r es =>
    obtain ⟨fs, c, h1, h2, h4⟩ := k
    exact ⟨fs, c, hw.trans h1, h2, fun i kv hi => let ⟨e, a, b, c⟩ := h4 i kv hi; ⟨e, a, b.mono hd hr hh, c.mono hd hr hh⟩⟩

/-- Nothing outside the blocks that may be written has turned. -/
structure Fr (μ : Ren) (h : AHeap) (w w' : World) : Prop where
  os : w'.os = w.os
  tape : w'.tape = w.tape
  output : w'.output = w.output
  size : w.heap.size ≤ w'.heap.size
  block : ∀ c, c < w.heap.size → (∀ b x, μ b = some x → RW h b → x.blk ≠ c) → w'.heap[c]? = w.heap[c]?

structure Step (G : Nat) (μ : Ren) (h : AHeap) (w : World) (μ' : Ren) (h' : AHeap) (w' : World) : Prop where
  ren : ∀ b x, μ b = some x → μ' b = some x
  new : ∀ b x, μ' b = some x → μ b = some x ∨ h.length ≤ b
  hle : HLe h h'
  sim : Sim G μ' h' w'
  fr : Fr μ h w w'
  fresh : ∀ b x, μ' b = some x → h.length ≤ b → w.heap.size ≤ x.blk ∨ ∃ b0 x0, μ b0 = some x0 ∧ RW h b0 ∧ x0.blk = x.blk

variable {G : Nat}

theorem Step.refl {μ : Ren} {h : AHeap} {w : World} (s : Sim G μ h w) : Step G μ h w μ h w :=
  ⟨fun _ _ k => k, fun _ _ k => .inl k, HLe.refl h, s, ⟨rfl, rfl, rfl, Nat.le_refl _, fun _ _ _ => rfl⟩, fun b x k l => absurd (s.dom b x k) (by omega)⟩

theorem Step.trans {μ μ1 μ2 : Ren} {h h1 h2 : AHeap} {w w1 w2 : World} (s : Step G μ h w μ1 h1 w1) (t : Step G μ1 h1 w1 μ2 h2 w2) : Step G μ h w μ2 h2 w2 where
  ren b x k := t.ren b x (s.ren b x k)
  new b x k := by
    rcases t.new b x k with k | k
    · exact s.new b x k
    · exact .inr (Nat.le_trans s.hle.length k)
  hle := s.hle.trans t.hle
  sim := t.sim
  fr := by
    refine ⟨t.fr.os.trans s.fr.os, t.fr.tape.trans s.fr.tape, t.fr.output.trans s.fr.output, Nat.le_trans s.fr.size t.fr.size, fun c hc hn => ?_⟩
    rw [t.fr.block c (Nat.lt_of_lt_of_le hc s.fr.size) ?_, s.fr.block c hc hn]
    intro b x hb hrw he
    rcases s.new b x hb with k | k
    · exact hn b x k (hrw.back s.hle (by
        rcases Nat.lt_or_ge b h.length with q | q
        · exact q
        · rcases s.fresh b x hb q with q | ⟨b0, x0, q1, q2, q3⟩
          · omega
          · exact absurd (q3.trans he) (hn b0 x0 q1 q2))) he
    · rcases s.fresh b x hb k with q | ⟨b0, x0, q1, q2, q3⟩
      · omega
      · exact hn b0 x0 q1 q2 (q3.trans he)
  fresh b x k l := by
    rcases Nat.lt_or_ge b h1.length with q | q
    · rcases t.new b x k with k1 | k1
      · exact s.fresh b x k1 l
      · omega
    · rcases t.fresh b x k q with r | ⟨b0, x0, r1, r2, r3⟩
      · exact .inl (Nat.le_trans s.fr.size r)
      · rcases s.new b0 x0 r1 with m | m
        · rcases Nat.lt_or_ge b0 h.length with n | n
          · exact .inr ⟨b0, x0, m, r2.back s.hle n, r3⟩
          · rcases s.fresh b0 x0 r1 n with n | ⟨c, y, n1, n2, n3⟩
            · exact .inl (r3 ▸ n)
            · exact .inr ⟨c, y, n1, n2, n3.trans r3⟩
        · rcases s.fresh b0 x0 r1 m with n | ⟨c, y, n1, n2, n3⟩
          · exact .inl (r3 ▸ n)
          · exact .inr ⟨c, y, n1, n2, n3.trans r3⟩

theorem Step.vr {μ μ1 : Ren} {h h1 : AHeap} {w w1 : World} (s : Sim G μ h w) (t : Step G μ h w μ1 h1 w1) {v v' : Value} (k : VR μ h v v') : VR μ1 h1 v v' :=
  k.mono s.dom t.ren t.hle

/-- A draw turns nothing. -/
theorem Step.drawn {μ : Ren} {h : AHeap} {w : World} (s : Sim G μ h w) (n : Nat) : Step G μ h w μ h { w with drawn := n } :=
  ⟨fun _ _ k => k, fun _ _ k => .inl k, HLe.refl h,
    ⟨s.glob, s.dom, fun b x o hb ho => (s.obj b x o hb ho).mono s.dom (fun _ _ k => k) (HLe.refl h) rfl, s.inj⟩,
    ⟨rfl, rfl, rfl, Nat.le_refl _, fun _ _ _ => rfl⟩, fun b x k l => absurd (s.dom b x k) (by omega)⟩

/-- A new block at the end of both heaps. -/
theorem Step.alloc {μ : Ren} {h : AHeap} {w : World} (s : Sim G μ h w) (o : AObj) (ob : Obj) (x : Pl) (hx : x.blk = w.heap.size)
    (ho : ∀ (μ' : Ren) (h' : AHeap) (w' : World), (∀ b x, μ b = some x → μ' b = some x) → HLe h h' → w'.heap[x.blk]? = some ob → ObjR μ' h' w' x o) :
    Step G μ h w (fun b => if b = h.length then some x else μ b) (h ++ [o]) { w with heap := w.heap.push ob } := by
  have hr : ∀ b y, μ b = some y → (if b = h.length then some x else μ b) = some y := fun b y k => by
    have := s.dom b y k
    rw [if_neg (by omega)]; exact k
  have hg : ∀ c, c < w.heap.size → (w.heap.push ob)[c]? = w.heap[c]? := fun c hc => by rw [Array.getElem?_push, if_neg (by omega)]
  refine ⟨hr, ?_, HLe.append _ _, ⟨fun g hg => let ⟨n, e⟩ := s.glob g hg; ⟨n, hr _ _ e⟩, ?_, ?_, ?_⟩, ⟨rfl, rfl, rfl, by simp, fun c hc _ => hg c hc⟩, ?_⟩
  · intro b y k
    split at k
    · exact .inr (by omega)
    · exact .inl k
  · intro b y k
    simp only [List.length_append, List.length_cons, List.length_nil]
    split at k
    · omega
    · have := s.dom b y k; omega
  · intro b y u k hu
    split at k
    · rename_i e
      subst e
      cases k
      simp at hu
      subst hu
      exact ho _ _ _ hr (HLe.append _ _) (by rw [hx]; simp)
    · have hb := s.dom b y k
      rw [List.getElem?_append_left hb] at hu
      have q := s.obj b y u k hu
      by_cases hd : u = .dead
      · subst hd; trivial
      · exact q.mono s.dom hr (HLe.append _ _) (hg _ (q.bound hd))
  · intro b c y z k l lb lc e
    have key : ∀ b y, μ b = some y → Live (h ++ [o]) b → y.blk < w.heap.size := fun b y k lb => by
      obtain ⟨u, hu, hn⟩ := lb
      rw [List.getElem?_append_left (s.dom b y k)] at hu
      exact (s.obj b y u k hu).bound hn
    split at k <;> split at l
    · omega
    · cases k; have := key c z l lc; omega
    · cases l; have := key b y k lb; omega
    · exact s.inj b c y z k l (lb.back (HLe.append _ _) (s.dom b y k)) (lc.back (HLe.append _ _) (s.dom c z l)) e
  · intro b y k l
    split at k
    · cases k; left; omega
    · have := s.dom b y k; omega

/-- A block that is written in place. -/
theorem Step.write {μ : Ren} {h : AHeap} {w w' : World} (s : Sim G μ h w) {b : Nat} {x : Pl} {o o' : AObj} (hb : μ b = some x) (ho : h[b]? = some o) (hrw : o.rw) (hle : OLe o o')
    (hos : w'.os = w.os) (ht : w'.tape = w.tape) (hout : w'.output = w.output) (hsz : w'.heap.size = w.heap.size) (hoth : ∀ c, c ≠ x.blk → w'.heap[c]? = w.heap[c]?)
    (hobj : ObjR μ (h.set b o') w' x o') : Step G μ h w μ (h.set b o') w' := by
  have hl : HLe h (h.set b o') := HLe.set ho hle
  refine ⟨fun _ _ k => k, fun _ _ k => .inl k, hl, ⟨s.glob, fun c y k => by rw [List.length_set]; exact s.dom c y k, ?_, ?_⟩,
    ⟨hos, ht, hout, by omega, fun c hc hn => hoth c (fun e => hn b x hb ⟨o, ho, hrw⟩ e.symm)⟩, fun c y k l => absurd (s.dom c y k) (by omega)⟩
  · intro c y u k hu
    by_cases e : b = c
    · subst e
      rw [List.getElem?_set_self (s.dom b x hb)] at hu
      cases hu
      rw [hb] at k; cases k
      exact hobj
    · rw [List.getElem?_set_ne e] at hu
      by_cases hd : u = .dead
      · subst hd; trivial
      · refine (s.obj c y u k hu).mono s.dom (fun _ _ k => k) hl (hoth _ fun e2 => e ?_)
        exact s.inj b c x y hb k ⟨o, ho, fun z => by subst z; exact hrw⟩ ⟨u, hu, hd⟩ e2.symm
  · intro c d y z k l lc ld e
    exact s.inj c d y z k l (lc.back hl (s.dom c y k)) (ld.back hl (s.dom d z l)) e

/-- A block is let go. -/
theorem Step.kill {μ : Ren} {h : AHeap} {w : World} (s : Sim G μ h w) {b : Nat} {o : AObj} (ho : h[b]? = some o) (hk : OLe o .dead) : Step G μ h w μ (h.set b .dead) w := by
  have hl : HLe h (h.set b .dead) := HLe.set ho hk
  refine ⟨fun _ _ k => k, fun _ _ k => .inl k, hl, ⟨s.glob, fun c y k => by rw [List.length_set]; exact s.dom c y k, ?_, ?_⟩,
    ⟨rfl, rfl, rfl, Nat.le_refl _, fun c hc hn => rfl⟩, fun c y k l => absurd (s.dom c y k) (by omega)⟩
  · intro c y u k hu
    by_cases e : b = c
    · subst e
      rw [List.getElem?_set_self (s.dom b y k)] at hu
      cases hu; trivial
    · rw [List.getElem?_set_ne e] at hu
      exact (s.obj c y u k hu).mono s.dom (fun _ _ k => k) hl rfl
  · intro c d y z k l lc ld e
    exact s.inj c d y z k l (lc.back hl (s.dom c y k)) (ld.back hl (s.dom d z l)) e

/-- A block is let go, and another takes over its place. -/
theorem Step.takeover {μ : Ren} {h : AHeap} {w w' : World} (s : Sim G μ h w) {b : Nat} {x y : Pl} {o o' : AObj} (hb : μ b = some x) (ho : h[b]? = some o) (hrw : o.rw) (hk : OLe o .dead) (hy : y.blk = x.blk)
    (hos : w'.os = w.os) (ht : w'.tape = w.tape) (hout : w'.output = w.output) (hsz : w'.heap.size = w.heap.size) (hoth : ∀ c, c ≠ x.blk → w'.heap[c]? = w.heap[c]?)
    (hobj : ∀ μ' h', (∀ b x, μ b = some x → μ' b = some x) → HLe h h' → ObjR μ' h' w' y o') :
    Step G μ h w (fun c => if c = h.length then some y else μ c) (h.set b .dead ++ [o']) w' := by
  have hlen : (h.set b .dead).length = h.length := List.length_set
  have hl : HLe h (h.set b .dead ++ [o']) := (HLe.set ho hk).trans (HLe.append _ _)
  have hr : ∀ c z, μ c = some z → (if c = h.length then some y else μ c) = some z := fun c z k => by
    have := s.dom c z k
    rw [if_neg (by omega)]; exact k
  have lb : Live h b := ⟨o, ho, fun z => by subst z; exact hrw⟩
  refine ⟨hr, ?_, hl, ⟨fun g hg => let ⟨n, e⟩ := s.glob g hg; ⟨n, hr _ _ e⟩, ?_, ?_, ?_⟩, ⟨hos, ht, hout, by omega, fun c hc hn => hoth c (fun e => hn b x hb ⟨o, ho, hrw⟩ e.symm)⟩, ?_⟩
  · intro c z k
    split at k
    · exact .inr (by omega)
    · exact .inl k
  · intro c z k
    simp only [List.length_append, List.length_cons, List.length_nil, hlen]
    split at k
    · omega
    · have := s.dom c z k; omega
  · intro c z u k hu
    split at k
    · rename_i e
      subst e
      cases k
      rw [← hlen] at hu
      simp at hu
      subst hu
      exact hobj _ _ hr hl
    · have hc := s.dom c z k
      rw [List.getElem?_append_left (by omega)] at hu
      by_cases e : b = c
      · subst e
        rw [List.getElem?_set_self hc] at hu
        cases hu; trivial
      · rw [List.getElem?_set_ne e] at hu
        by_cases hd : u = .dead
        · subst hd; trivial
        · refine (s.obj c z u k hu).mono s.dom hr hl (hoth _ fun e2 => e ?_)
          exact s.inj b c x z hb k lb ⟨u, hu, hd⟩ e2.symm
  · intro c d z u k l lc ld e
    have key : ∀ c z, μ c = some z → Live (h.set b .dead ++ [o']) c → z.blk ≠ x.blk := fun c z k lc e => by
      have hc := s.dom c z k
      have := s.inj c b z x k hb (lc.back hl hc) lb e
      subst this
      obtain ⟨u, hu, hn⟩ := lc
      rw [List.getElem?_append_left (by omega), List.getElem?_set_self hc] at hu
      cases hu; exact hn rfl
    split at k <;> split at l
    · omega
    · cases k; exact absurd (e.symm.trans hy) (key d u l ld)
    · cases l; exact absurd (e.trans hy) (key c z k lc)
    · exact s.inj c d z u k l (lc.back hl (s.dom c z k)) (ld.back hl (s.dom d u l)) e
  · intro c z k l
    split at k
    · cases k; exact .inr ⟨b, x, hb, ⟨o, ho, hrw⟩, hy.symm⟩
    · have := s.dom c z k; omega

end Go.Proofs.YtpnpccnbpgckhabGreat.B
