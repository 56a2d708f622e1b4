/-
  Regions in words of their values: what a region of instructions does, as a function of the values that come in, with no slots.
-/
import Derived.Test.YtpnpccnbpgckhabGreatAbT
namespace Go.Proofs.YtpnpccnbpgckhabGreat.B
open Go
set_option linter.unusedVariables false
set_option linter.unusedSimpArgs false
variable {G : Nat} {P : Program}

/-- A heap that holds all that another one holds. -/
def Pre (h h' : AHeap) : Prop := ∃ g, h' = h ++ g
theorem Pre.refl (h : AHeap) : Pre h h := ⟨[], by simp⟩
theorem Pre.app (h g : AHeap) : Pre h (h ++ g) := ⟨g, rfl⟩
theorem Pre.trans {a b c : AHeap} (h : Pre a b) (k : Pre b c) : Pre a c := by
  obtain ⟨g, rfl⟩ := h; obtain ⟨g', rfl⟩ := k; exact ⟨g ++ g', by simp⟩
theorem Pre.len {a b : AHeap} (h : Pre a b) : a.length ≤ b.length := by obtain ⟨g, rfl⟩ := h; simp
theorem Pre.get {a b : AHeap} (h : Pre a b) {i : Nat} (hi : i < a.length) : b[i]? = a[i]? := by
  obtain ⟨g, rfl⟩ := h; exact List.getElem?_append_left hi
theorem Pre.app' {a b : AHeap} (h : Pre a b) (g : AHeap) : Pre a (b ++ g) := h.trans (.app _ _)
theorem Pre.qt {a b : AHeap} (h : Pre a b) (i : I) : qt i a b := by
  obtain ⟨g, rfl⟩ := h; rw [qt_app]; trivial
/-- Two heaps agree but for one block. -/
theorem Pre.set {a b : AHeap} (h : Pre a b) {i : Nat} (hi : a.length ≤ i) (o : AObj) : Pre a (b.set i o) := by
  obtain ⟨g, rfl⟩ := h
  exact ⟨g.set (i - a.length) o, by rw [List.set_append_right _ _ hi]⟩

/-- An instruction with its operands' values in their place. -/
def cO (ρ : Nat → Value) (x : Operand) : Operand := .const (evO ρ x)
def cI (ρ : Nat → Value) : I → I
  | .mv x => .mv (cO ρ x)
  | .pick c a b => .pick (cO ρ c) (cO ρ a) (cO ρ b)
  | .new cells => .new cells
  | .box x => .box (cO ρ x)
  | .build z ps => .build z (ps.map fun p => (p.1, p.2.1, cO ρ p.2.2))
  | .row sz len z ps => .row sz len z (ps.map fun p => (p.1, p.2.1, cO ρ p.2.2))
  | .load g n a => .load g n (cO ρ a)
  | .store n a x => .store n (cO ρ a) (cO ρ x)
  | .nilck x => .nilck (cO ρ x)
  | .bin op x y => .bin op (cO ρ x) (cO ρ y)
  | .eqb n x y => .eqb n (cO ρ x) (cO ρ y)
  | .un op x => .un op (cO ρ x)
  | .conv k x => .conv k (cO ρ x)
  | .fld o a => .fld o (cO ρ a)
  | .part g o n x => .part g o n (cO ρ x)
  | .ixs sz x i => .ixs sz (cO ρ x) (cO ρ i)
  | .ixa l sz x i => .ixa l sz (cO ρ x) (cO ρ i)
  | .sl sz x lo hi => .sl sz (cO ρ x) (lo.map (cO ρ)) (hi.map (cO ρ))
  | .mkslice sz b z x y => .mkslice sz b z (cO ρ x) (cO ρ y)
  | .ext x i => .ext (cO ρ x) i
  | .len s x => .len s (cO ρ x)
  | .app s sz b x y => .app s sz b (cO ρ x) (cO ρ y)
  | .mm m x y => .mm m (cO ρ x) (cO ρ y)
  | .mkfunc f xs => .mkfunc f (xs.map (cO ρ))
  | .mkiface t x => .mkiface t (cO ρ x)
  | .eqs ks n x y => .eqs ks n (cO ρ x) (cO ρ y)
  | .eqn kd n x => .eqn kd n (cO ρ x)
  | .mkmap => .mkmap
  | .lookup kd z ok m k => .lookup kd z ok (cO ρ m) (cO ρ k)
  | .mapset kd m k v => .mapset kd (cO ρ m) (cO ρ k) (cO ρ v)
  | .lenm m => .lenm (cO ρ m)
  | .ixv g l sz x i => .ixv g l sz (cO ρ x) (cO ρ i)
  | .ixstr x i => .ixstr (cO ρ x) (cO ρ i)
  | .slstr x lo hi => .slstr (cO ρ x) (lo.map (cO ρ)) (hi.map (cO ρ))
  | .sla l sz x lo hi => .sla l sz (cO ρ x) (lo.map (cO ρ)) (hi.map (cO ρ))
  | .call f args => .call f (args.map (cO ρ))
  | .callw f args => .callw f (args.map (cO ρ))
  | .callv f args => .callv (cO ρ f) (args.map (cO ρ))
  | .stop => .stop
  | .cpy sz x y => .cpy sz (cO ρ x) (cO ρ y)
  | .clr sz z x => .clr sz z (cO ρ x)
  | .bts x => .bts (cO ρ x)
  | .xc m f args => .xc m f (args.map (cO ρ))

theorem fillA_cut {ρ ρ' : Nat → Value} : ∀ (ps : List (Nat × Nat × Operand)) (cells : List Value), fillA ρ' cells (ps.map fun p => (p.1, p.2.1, cO ρ p.2.2)) = fillA ρ cells ps
  | [], cells => rfl
  | (off, sz, x) :: r, cells => by
    simp only [List.map_cons, fillA, cO, evO]
    split
    · split
      · exact fillA_cut r _
      · rfl
    · rfl
theorem map_cut {ρ ρ' : Nat → Value} (xs : List Operand) : (xs.map (cO ρ)).map (evO ρ') = xs.map (evO ρ) := by
  rw [List.map_map]; exact List.map_congr_left fun x _ => rfl
theorem opt_cut {ρ ρ' : Nat → Value} (x : Option Operand) : (x.map (cO ρ)).map (evO ρ') = x.map (evO ρ) := by
  cases x <;> rfl

def ρ0 : Nat → Value := fun _ => .tuple #[]

/-- An instruction over values. -/
def wI (P : Program) (G : Nat) (i : I) (h : AHeap) (K : Value → AHeap → Prop) : Prop := wpI P G i ρ0 h K

theorem wpI_cut {i : I} {ρ ρ' : Nat → Value} {h : AHeap} {K : Value → AHeap → Prop} : wpI P G (cI ρ i) ρ' h K = wpI P G i ρ h K := by
  cases i <;> simp only [cI, wpI, fillA_cut, map_cut, opt_cut]
  all_goals first
    | rfl
    | simp only [cO, evO]

theorem wI_of {i i' : I} {ρ : Nat → Value} {h : AHeap} {K : Value → AHeap → Prop} (hi : cI ρ i = i') : wpI P G i ρ h K = wI P G i' h K := by
  subst hi; exact wpI_cut.symm

theorem wI_eq {i i' : I} {ρ : Nat → Value} (hi : cI ρ i = i') : wpI P G i ρ = wI P G i' := by
  funext h K; exact wI_of hi

def callI : I → Bool
  | .call .. | .callv .. | .xc .. => true
  | _ => false

/-- A call among operations whose order is open: it leaves what was as it was. -/
def wD (P : Program) (G : Nat) (i : I) (h : AHeap) (K : Value → AHeap → Prop) : Prop := wpI P G i ρ0 h fun v h' => qt i h h' ∧ K v h'

theorem qt_cut {i : I} {ρ : Nat → Value} {h h' : AHeap} : qt (cI ρ i) h h' = qt i h h' := by
  unfold qt
  cases i <;> rfl
theorem wD_of {i i' : I} {ρ : Nat → Value} {h : AHeap} {K : Value → AHeap → Prop} (hi : cI ρ i = i') : wpI P G i ρ h (fun v h' => qt i h h' ∧ K v h') = wD P G i' h K := by
  subst hi
  unfold wD
  simp only [qt_cut, wpI_cut]

theorem qt_kind {i : I} {h h' : AHeap} (k : kindI i ≠ 1) : qt i h h' = True := by
  unfold qt; rw [if_neg k]

theorem wpI_qt {i : I} {ρ : Nat → Value} {h : AHeap} {K : Value → AHeap → Prop} (hi : callI i = false) : wpI P G i ρ h (fun v h' => qt i h h' ∧ K v h') = wpI P G i ρ h K := by
  by_cases hk : kindI i = 1
  · cases i <;> simp [kindI] at hk
    case call => cases hi
    case callv => cases hi
    case xc => cases hi
    case sl => simp only [wpI, slK, qt_self, true_and]
    all_goals simp only [wpI, qt_self, qt_app, true_and]
  · have : (fun v h' => qt i h h' ∧ K v h') = K := by funext v h'; rw [qt_kind hk, true_and]
    rw [this]

/-- A test that another operation waits for: what comes behind it, by the test's value and by what came out. -/
def gdK (x : Value) (w : Bool) (A : (Value → AHeap → Prop) → Prop) (k : Value → Value → AHeap → Prop) (h : AHeap) (_ : Hold A) (_ : Hold k) : Prop := match x with
  | .bool b => (b = w → A fun v h' => k (.bool w) v h') ∧ (b = !w → k (.bool (!w)) (.complex .f32 0 0) h)
  | .complex _ _ _ => k x (.complex .f32 0 0) h
  | _ => False
section
variable (A : (Value → AHeap → Prop) → Prop) (k : Value → Value → AHeap → Prop) (h : AHeap) (u : Hold A) (w : Hold k)
theorem gdK_tt : gdK (.bool true) true A k h u w = A fun v h' => k (.bool true) v h' := by simp [gdK]
theorem gdK_tf : gdK (.bool true) false A k h u w = k (.bool true) (.complex .f32 0 0) h := by simp [gdK]
theorem gdK_ft : gdK (.bool false) true A k h u w = k (.bool false) (.complex .f32 0 0) h := by simp [gdK]
theorem gdK_ff : gdK (.bool false) false A k h u w = A fun v h' => k (.bool false) v h' := by simp [gdK]
theorem gdK_c (x : FloatKind) (a b : Nat) (t : Bool) : gdK (.complex x a b) t A k h u w = k (.complex x a b) (.complex .f32 0 0) h := (rfl)
end
theorem gdK_of {b w : Bool} {A : (Value → AHeap → Prop) → Prop} {k : Value → Value → AHeap → Prop} {h : AHeap} {u : Hold A} {z : Hold k} (h1 : b = w → A fun v h' => k (.bool w) v h') (h2 : b = !w → k (.bool (!w)) (.complex .f32 0 0) h) : gdK (.bool b) w A k h u z := ⟨h1, h2⟩
/-- .. by the test's truth. -/
theorem gdK_t {b : Bool} {A : (Value → AHeap → Prop) → Prop} {k : Value → Value → AHeap → Prop} {h : AHeap} {u : Hold A} {z : Hold k} (h1 : b = true → A fun v h' => k (.bool true) v h') (h2 : b = false → k (.bool false) (.complex .f32 0 0) h) : gdK (.bool b) true A k h u z := ⟨h1, h2⟩
theorem gdK_f {b : Bool} {A : (Value → AHeap → Prop) → Prop} {k : Value → Value → AHeap → Prop} {h : AHeap} {u : Hold A} {z : Hold k} (h1 : b = true → k (.bool true) (.complex .f32 0 0) h) (h2 : b = false → A fun v h' => k (.bool false) v h') : gdK (.bool b) false A k h u z := ⟨h2, h1⟩

theorem wR {keep : List Nat} {ops : List GI} {e : Env} {h : AHeap} {Q : Post} {X : Prop} (k : wpL2 P G ops e h (fun e h => Q .normal (sel keep e) h) = X) : wpC P G (.region keep ops) e h Q = X := k
theorem wDr {keep : List Nat} {ops : List GI} {e : Env} {h : AHeap} {Q : Post} {X : Prop} (k : wpD2 P G ops e h (fun e h => Q .normal (sel keep e) h) = X) : wpC P G (.draw keep ops) e h Q = X := k

/-- What a slot holds, looked up before it is used. -/
def lk (x : Value) (K : Value → Prop) (_ : Hold K) : Prop := K x
theorem lkm {X : Prop} {x : Value} {K : Value → Prop} (k : X = K x) : X = lk x K () := k
theorem lk_go (x : Value) (K : Value → Prop) (u : Hold K) : lk x K u = K x := (rfl)

/-- A loop, not yet gone into. -/
def loopV (P : Program) (G : Nat) (a : C) (e : Env) (h : AHeap) (Q : Post) (_ : Hold Q) : Prop := wpC P G (.loop a) e h Q
theorem loopV_of {a : C} {e : Env} {h : AHeap} {Q : Post} (I : Nat → Env → AHeap → Prop) (m : Nat) (h0 : I m e h)
    (round : ∀ m e h, I m e h → wpC P G a e h (thenC (fun e' h' => ∃ m', m' < m ∧ I m' e' h') Q)) {u : Hold Q} : loopV P G a e h Q u := wpC_loop I m h0 round

/-! ### Regions in the order of the text -/
theorem wpL2_look : ∀ (l : List GI) {e e' : Env} {h : AHeap} {keep : List Nat} {N : Env → AHeap → Prop}, look e = look e' → wpL2 P G l e h (fun e h => N (sel keep e) h) = wpL2 P G l e' h (fun e h => N (sel keep e) h)
  | [], e, e', h, keep, N, he => by simp only [wpL2, sel_look he]
  | g :: l, e, e', h, keep, N, he => by
    have step : ∀ {e e' : Env}, look e = look e' → ∀ (d : Option Nat) (v : Value) (h' : AHeap), wpL2 P G l (putE e d v) h' (fun e h => N (sel keep e) h) = wpL2 P G l (putE e' d v) h' (fun e h => N (sel keep e) h) :=
      fun q d v h' => wpL2_look l (look_put q d v)
    have cons : ∀ {e e' : Env} (s : Nat) (v : Value), look e = look e' → look ((s, v) :: e) = look ((s, v) :: e') := fun s v q => look_put q (some s) v
    simp only [wpL2]
    rw [he]
    split
    · simp only [step he]
    · split
      · rw [cons _ _ he]
        simp only [step (cons _ _ he)]
      · rw [step he]
      · rfl

section
variable {d s : Nat} {i i' : I} {w : Bool} {x : Value} {r : List GI} {e : Env} {h : AHeap} {keep : List Nat} {N : Env → AHeap → Prop}

theorem Rn {k : Value → AHeap → Prop} (hi : cI (look e) i = i') (hk : ∀ v h', wpL2 P G r ((d, v) :: e) h' (fun e h => N (sel keep e) h) = k v h') :
    wpL2 P G (⟨some d, i, none⟩ :: r) e h (fun e h => N (sel keep e) h) = wI P G i' h k := by
  rw [← wI_of hi]
  show wpI P G i (look e) h (fun v h' => wpL2 P G r ((d, v) :: e) h' _) = _
  congr 1; funext v h'; exact hk v h'
theorem Rz {k : Value → AHeap → Prop} (hi : cI (look e) i = i') (hk : ∀ v h', wpL2 P G r e h' (fun e h => N (sel keep e) h) = k v h') :
    wpL2 P G (⟨none, i, none⟩ :: r) e h (fun e h => N (sel keep e) h) = wI P G i' h k := by
  rw [← wI_of hi]
  show wpI P G i (look e) h (fun v h' => wpL2 P G r e h' _) = _
  congr 1; funext v h'; exact hk v h'
theorem Rg {k : Value → Value → AHeap → Prop} (hx : look e s = x) (hi : cI (look ((s, .bool w) :: e)) i = i') (hk : ∀ z v h', wpL2 P G r ((d, v) :: (s, z) :: e) h' (fun e h => N (sel keep e) h) = k z v h') :
    wpL2 P G (⟨some d, i, some (s, w)⟩ :: r) e h (fun e h => N (sel keep e) h) = gdK x w (wI P G i' h) k h () () := by
  subst hx
  simp only [wpL2, putE]
  rw [wI_eq hi]
  unfold gdK
  simp only [← hk]
  generalize hb : look e s = x
  cases x
  case complex => exact wpL2_look r (look_put (look_over hb).symm (some d) _)
  all_goals rfl
theorem Rgz {k : Value → Value → AHeap → Prop} (hx : look e s = x) (hi : cI (look ((s, .bool w) :: e)) i = i') (hk : ∀ z v h', wpL2 P G r ((s, z) :: e) h' (fun e h => N (sel keep e) h) = k z v h') :
    wpL2 P G (⟨none, i, some (s, w)⟩ :: r) e h (fun e h => N (sel keep e) h) = gdK x w (wI P G i' h) k h () () := by
  subst hx
  simp only [wpL2, putE]
  rw [wI_eq hi]
  unfold gdK
  simp only [← hk]
  generalize hb : look e s = x
  cases x
  case complex => exact wpL2_look r (look_over hb).symm
  all_goals rfl
end

/-! ### Regions whose order is open -/
theorem wpD2_look : ∀ (l : List GI) {e e' : Env} {h : AHeap} {keep : List Nat} {N : Env → AHeap → Prop}, look e = look e' → wpD2 P G l e h (fun e h => N (sel keep e) h) = wpD2 P G l e' h (fun e h => N (sel keep e) h)
  | [], e, e', h, keep, N, he => by simp only [wpD2, sel_look he]
  | g :: l, e, e', h, keep, N, he => by
    have step : ∀ {e e' : Env}, look e = look e' → ∀ (d : Option Nat) (v : Value) (h' : AHeap), wpD2 P G l (putE e d v) h' (fun e h => N (sel keep e) h) = wpD2 P G l (putE e' d v) h' (fun e h => N (sel keep e) h) :=
      fun q d v h' => wpD2_look l (look_put q d v)
    have cons : ∀ {e e' : Env} (s : Nat) (v : Value), look e = look e' → look ((s, v) :: e) = look ((s, v) :: e') := fun s v q => look_put q (some s) v
    simp only [wpD2]
    rw [he]
    split
    · simp only [step he]
    · split
      · rw [cons _ _ he]
        simp only [step (cons _ _ he)]
      · rw [step he]
      · rfl

theorem wDn {i i' : I} {ρ : Nat → Value} {h : AHeap} {K : Value → AHeap → Prop} (hi : cI ρ i = i') (hc : callI i' = false) : wpI P G i ρ h (fun v h' => qt i h h' ∧ K v h') = wI P G i' h K := by
  have : callI (cI ρ i) = callI i := by cases i <;> rfl
  rw [wpI_qt (by rw [← this, hi]; exact hc)]
  exact wI_of hi

section
variable {d s : Nat} {i i' : I} {w : Bool} {x : Value} {r : List GI} {e : Env} {h : AHeap} {keep : List Nat} {N : Env → AHeap → Prop}
theorem Dn {k : Value → AHeap → Prop} (hi : cI (look e) i = i') (hc : callI i' = false) (hk : ∀ v h', wpD2 P G r ((d, v) :: e) h' (fun e h => N (sel keep e) h) = k v h') :
    wpD2 P G (⟨some d, i, none⟩ :: r) e h (fun e h => N (sel keep e) h) = wI P G i' h k := by
  rw [← wDn hi hc]
  show wpI P G i (look e) h (fun v h' => qt i h h' ∧ wpD2 P G r ((d, v) :: e) h' _) = _
  congr 1; funext v h'; rw [hk v h']
theorem Dz {k : Value → AHeap → Prop} (hi : cI (look e) i = i') (hc : callI i' = false) (hk : ∀ v h', wpD2 P G r e h' (fun e h => N (sel keep e) h) = k v h') :
    wpD2 P G (⟨none, i, none⟩ :: r) e h (fun e h => N (sel keep e) h) = wI P G i' h k := by
  rw [← wDn hi hc]
  show wpI P G i (look e) h (fun v h' => qt i h h' ∧ wpD2 P G r e h' _) = _
  congr 1; funext v h'; rw [hk v h']
theorem Dg {k : Value → Value → AHeap → Prop} (hx : look e s = x) (hi : cI (look ((s, .bool w) :: e)) i = i') (hc : callI i' = false) (hk : ∀ z v h', wpD2 P G r ((d, v) :: (s, z) :: e) h' (fun e h => N (sel keep e) h) = k z v h') :
    wpD2 P G (⟨some d, i, some (s, w)⟩ :: r) e h (fun e h => N (sel keep e) h) = gdK x w (wI P G i' h) k h () () := by
  subst hx
  simp only [wpD2, putE]
  unfold gdK
  simp only [← hk, wDn hi hc]
  generalize hb : look e s = x
  cases x
  case complex => exact wpD2_look r (look_put (look_over hb).symm (some d) _)
  all_goals rfl
theorem Dgz {k : Value → Value → AHeap → Prop} (hx : look e s = x) (hi : cI (look ((s, .bool w) :: e)) i = i') (hc : callI i' = false) (hk : ∀ z v h', wpD2 P G r ((s, z) :: e) h' (fun e h => N (sel keep e) h) = k z v h') :
    wpD2 P G (⟨none, i, some (s, w)⟩ :: r) e h (fun e h => N (sel keep e) h) = gdK x w (wI P G i' h) k h () () := by
  subst hx
  simp only [wpD2, putE]
  unfold gdK
  simp only [← hk, wDn hi hc]
  generalize hb : look e s = x
  cases x
  case complex => exact wpD2_look r (look_over hb).symm
  all_goals rfl
theorem DnC {k : Value → AHeap → Prop} (hi : cI (look e) i = i') (hc : callI i' = true) (hk : ∀ v h', wpD2 P G r ((d, v) :: e) h' (fun e h => N (sel keep e) h) = k v h') :
    wpD2 P G (⟨some d, i, none⟩ :: r) e h (fun e h => N (sel keep e) h) = wD P G i' h k := by
  rw [← wD_of hi]
  show wpI P G i (look e) h (fun v h' => qt i h h' ∧ wpD2 P G r ((d, v) :: e) h' _) = _
  congr 1; funext v h'; rw [hk v h']
theorem DzC {k : Value → AHeap → Prop} (hi : cI (look e) i = i') (hc : callI i' = true) (hk : ∀ v h', wpD2 P G r e h' (fun e h => N (sel keep e) h) = k v h') :
    wpD2 P G (⟨none, i, none⟩ :: r) e h (fun e h => N (sel keep e) h) = wD P G i' h k := by
  rw [← wD_of hi]
  show wpI P G i (look e) h (fun v h' => qt i h h' ∧ wpD2 P G r e h' _) = _
  congr 1; funext v h'; rw [hk v h']
theorem DgC {k : Value → Value → AHeap → Prop} (hx : look e s = x) (hi : cI (look ((s, .bool w) :: e)) i = i') (hc : callI i' = true) (hk : ∀ z v h', wpD2 P G r ((d, v) :: (s, z) :: e) h' (fun e h => N (sel keep e) h) = k z v h') :
    wpD2 P G (⟨some d, i, some (s, w)⟩ :: r) e h (fun e h => N (sel keep e) h) = gdK x w (wD P G i' h) k h () () := by
  subst hx
  simp only [wpD2, putE]
  unfold gdK
  simp only [← hk, wD_of hi]
  generalize hb : look e s = x
  cases x
  case complex => exact wpD2_look r (look_put (look_over hb).symm (some d) _)
  all_goals rfl
theorem DgzC {k : Value → Value → AHeap → Prop} (hx : look e s = x) (hi : cI (look ((s, .bool w) :: e)) i = i') (hc : callI i' = true) (hk : ∀ z v h', wpD2 P G r ((s, z) :: e) h' (fun e h => N (sel keep e) h) = k z v h') :
    wpD2 P G (⟨none, i, some (s, w)⟩ :: r) e h (fun e h => N (sel keep e) h) = gdK x w (wD P G i' h) k h () () := by
  subst hx
  simp only [wpD2, putE]
  unfold gdK
  simp only [← hk, wD_of hi]
  generalize hb : look e s = x
  cases x
  case complex => exact wpD2_look r (look_over hb).symm
  all_goals rfl
end

/-! ### How they are worked out -/
theorem wI_go (i : I) (h : AHeap) (K : Value → AHeap → Prop) : wI P G i h K = wpI P G i ρ0 h K := (rfl)
theorem wD_call (f : FuncId) (args : List Operand) (h : AHeap) (K : Value → AHeap → Prop) : wD P G (.call f args) h K = callV P G f (args.map (evO ρ0)) h (fun v h' => Pre h h' ∧ K v h') () := by
  simp only [wD, wpI, callV, qt, kindI, if_true, Pre]
theorem wD_callv (f : Operand) (args : List Operand) (h : AHeap) (K : Value → AHeap → Prop) : wD P G (.callv f args) h K = callvV P G (evO ρ0 f) (args.map (evO ρ0)) h (fun v h' => Pre h h' ∧ K v h') () := by
  simp only [wD, wpI, callvV, callV, qt, kindI, if_true, Pre]
  generalize evO ρ0 f = x
  cases x with
  | func q a b => cases q <;> rfl
  | _ => rfl
theorem wD_xc (m : Option String) (f : FuncId) (args : List Operand) (h : AHeap) (K : Value → AHeap → Prop) : wD P G (.xc m f args) h K = xcV P G m f (args.map (evO ρ0)) h (fun v h' => Pre h h' ∧ K v h') () := by
  simp only [wD, wpI, xcV, qt, kindI, if_true, Pre]
theorem Pre_self (h : AHeap) : Pre h h = True := eq_true (.refl h)
theorem Pre_app (h g : AHeap) : Pre h (h ++ g) = True := eq_true (.app h g)
theorem Pre_app2 (h a b : AHeap) : Pre (h ++ a) (h ++ (a ++ b)) = True := by rw [← List.append_assoc]; exact Pre_app _ _

theorem gT {b : Bool} {A : (Value → AHeap → Prop) → Prop} {k : Value → Value → AHeap → Prop} {h : AHeap} {u : Hold A} {z : Hold k} (h1 : b = true → A fun v h' => k (.bool true) v h') (h2 : b = false → k (.bool false) (.complex .f32 0 0) h) : gdK (.bool b) true A k h u z := gdK_t (fun q => h1 (by simpa using q)) (fun q => h2 (by simpa using q))
theorem gF {b : Bool} {A : (Value → AHeap → Prop) → Prop} {k : Value → Value → AHeap → Prop} {h : AHeap} {u : Hold A} {z : Hold k} (h1 : b = true → k (.bool true) (.complex .f32 0 0) h) (h2 : b = false → A fun v h' => k (.bool false) v h') : gdK (.bool b) false A k h u z := gdK_f (fun q => h1 (by simpa using q)) (fun q => h2 (by simpa using q))
theorem cV {b : Bool} {A B : Prop} (h1 : b = true → A) (h2 : b = false → B) {u : Hold A} {w : Hold B} : condV (.bool b) A B u w := ⟨fun q => h1 (by simpa using q), fun q => h2 (by simpa using q)⟩
theorem gTd {p : Prop} [Decidable p] {A : (Value → AHeap → Prop) → Prop} {k : Value → Value → AHeap → Prop} {h : AHeap} {u : Hold A} {z : Hold k} (h1 : p → A fun v h' => k (.bool true) v h') (h2 : ¬ p → k (.bool false) (.complex .f32 0 0) h) : gdK (.bool (decide p)) true A k h u z := gdK_t (fun q => h1 (by simpa using q)) (fun q => h2 (by simpa using q))
theorem gFd {p : Prop} [Decidable p] {A : (Value → AHeap → Prop) → Prop} {k : Value → Value → AHeap → Prop} {h : AHeap} {u : Hold A} {z : Hold k} (h1 : p → k (.bool true) (.complex .f32 0 0) h) (h2 : ¬ p → A fun v h' => k (.bool false) v h') : gdK (.bool (decide p)) false A k h u z := gdK_f (fun q => h1 (by simpa using q)) (fun q => h2 (by simpa using q))
theorem cVd {p : Prop} [Decidable p] {A B : Prop} (h1 : p → A) (h2 : ¬ p → B) {u : Hold A} {w : Hold B} : condV (.bool (decide p)) A B u w := ⟨fun q => h1 (by simpa using q), fun q => h2 (by simpa using q)⟩
theorem gTe {a b : Int} {A : (Value → AHeap → Prop) → Prop} {k : Value → Value → AHeap → Prop} {h : AHeap} {u : Hold A} {z : Hold k} (h1 : a = b → A fun v h' => k (.bool true) v h') (h2 : a ≠ b → k (.bool false) (.complex .f32 0 0) h) : gdK (.bool (a == b)) true A k h u z := gdK_t (fun q => h1 (by simpa using q)) (fun q => h2 (by simpa using q))
theorem gFe {a b : Int} {A : (Value → AHeap → Prop) → Prop} {k : Value → Value → AHeap → Prop} {h : AHeap} {u : Hold A} {z : Hold k} (h1 : a = b → k (.bool true) (.complex .f32 0 0) h) (h2 : a ≠ b → A fun v h' => k (.bool false) v h') : gdK (.bool (a == b)) false A k h u z := gdK_f (fun q => h1 (by simpa using q)) (fun q => h2 (by simpa using q))
theorem cVe {a b : Int} {A B : Prop} (h1 : a = b → A) (h2 : a ≠ b → B) {u : Hold A} {w : Hold B} : condV (.bool (a == b)) A B u w := ⟨fun q => h1 (by simpa using q), fun q => h2 (by simpa using q)⟩
theorem gTn {a b : Int} {A : (Value → AHeap → Prop) → Prop} {k : Value → Value → AHeap → Prop} {h : AHeap} {u : Hold A} {z : Hold k} (h1 : a ≠ b → A fun v h' => k (.bool true) v h') (h2 : a = b → k (.bool false) (.complex .f32 0 0) h) : gdK (.bool (a != b)) true A k h u z := gdK_t (fun q => h1 (by simpa using q)) (fun q => h2 (by simpa using q))
theorem gFn {a b : Int} {A : (Value → AHeap → Prop) → Prop} {k : Value → Value → AHeap → Prop} {h : AHeap} {u : Hold A} {z : Hold k} (h1 : a ≠ b → k (.bool true) (.complex .f32 0 0) h) (h2 : a = b → A fun v h' => k (.bool false) v h') : gdK (.bool (a != b)) false A k h u z := gdK_f (fun q => h1 (by simpa using q)) (fun q => h2 (by simpa using q))
theorem cVn {a b : Int} {A B : Prop} (h1 : a ≠ b → A) (h2 : a = b → B) {u : Hold A} {w : Hold B} : condV (.bool (a != b)) A B u w := ⟨fun q => h1 (by simpa using q), fun q => h2 (by simpa using q)⟩

attribute [go_sem] lk_go gdK_tt gdK_tf gdK_ft gdK_ff gdK_c Pre_self Pre_app Pre_app2
attribute [go_sem ↓] wI_go wD_call wD_callv wD_xc

end Go.Proofs.YtpnpccnbpgckhabGreat.B
