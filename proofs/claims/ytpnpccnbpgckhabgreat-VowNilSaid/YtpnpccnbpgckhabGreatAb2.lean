/-
  Lists of cells, plain constants, and single operations of the model over an abstract heap: small lemmas.
-/
import Derived.Test.YtpnpccnbpgckhabGreatAb1
import Derived.Laws.Rows
import Derived.WalkKit
import Derived.RowKit3
namespace Go.Proofs.YtpnpccnbpgckhabGreat.B
open Go
set_option linter.unusedVariables false
variable {G : Nat} {P : Program} {μ : Ren} {h : AHeap} {w : World}

/-- Lists of values, place by place. -/
def VL (μ : Ren) (h : AHeap) (as bs : List Value) : Prop := as.length = bs.length ∧ ∀ (i : Nat) v v', as[i]? = some v → bs[i]? = some v' → VR μ h v v'

theorem VL.nil : VL μ h [] [] := ⟨rfl, fun i v v' k => by simp at k⟩
theorem VL.cons {a b : Value} {as bs : List Value} (k : VR μ h a b) (l : VL μ h as bs) : VL μ h (a :: as) (b :: bs) :=
  ⟨by simp [l.1], fun i v v' p q => by
    cases i with
    | zero => simp at p q; subst p; subst q; exact k
    | succ i => simp at p q; exact l.2 i v v' p q⟩
theorem VL.get {as bs : List Value} (l : VL μ h as bs) {i : Nat} {v : Value} (p : as[i]? = some v) : ∃ v', bs[i]? = some v' ∧ VR μ h v v' := by
  have hi := (List.getElem?_eq_some_iff.1 p).1
  have hj : i < bs.length := by rw [← l.1]; exact hi
  exact ⟨bs[i], List.getElem?_eq_getElem hj, l.2 i v _ p (List.getElem?_eq_getElem hj)⟩
theorem VL.mono {μ' : Ren} {h' : AHeap} (hd : ∀ b x, μ b = some x → b < h.length) (hr : ∀ b x, μ b = some x → μ' b = some x) (hh : HLe h h')
    {as bs : List Value} (l : VL μ h as bs) : VL μ' h' as bs := ⟨l.1, fun i v v' p q => (l.2 i v v' p q).mono hd hr hh⟩
theorem VL.set {as bs : List Value} {a b : Value} (l : VL μ h as bs) (k : VR μ h a b) (i : Nat) : VL μ h (as.set i a) (bs.set i b) := by
  refine ⟨by simp [l.1], fun j v v' p q => ?_⟩
  by_cases e : i = j
  · subst e
    have hi : i < as.length := by have := (List.getElem?_eq_some_iff.1 p).1; simpa using this
    rw [List.getElem?_set_self hi] at p
    rw [List.getElem?_set_self (l.1 ▸ hi)] at q
    cases p; cases q; exact k
  · rw [List.getElem?_set_ne e] at p q
    exact l.2 j v v' p q
theorem VL.append {as bs cs ds : List Value} (l : VL μ h as bs) (k : VL μ h cs ds) : VL μ h (as ++ cs) (bs ++ ds) := by
  refine ⟨by simp [l.1, k.1], fun i v v' p q => ?_⟩
  rcases Nat.lt_or_ge i as.length with e | e
  · rw [List.getElem?_append_left e] at p
    rw [List.getElem?_append_left (l.1 ▸ e)] at q
    exact l.2 i v v' p q
  · rw [List.getElem?_append_right e] at p
    rw [List.getElem?_append_right (l.1 ▸ e), ← l.1] at q
    exact k.2 _ v v' p q
theorem VL.map_any {as bs : List Value} (k : as.length = bs.length) : VL μ h (as.map fun _ => .tuple #[]) bs :=
  ⟨by simpa using k, fun i v v' p q => by simp at p; obtain ⟨_, _, rfl⟩ := p; exact .any _⟩

/-- Write a list of cells from a place on. -/
def setC : List Value → Nat → List Value → List Value
  | cells, _, [] => cells
  | cells, off, v :: r => setC (cells.set off v) (off + 1) r

@[simp] theorem setC_length (vs : List Value) : ∀ (cells : List Value) (off : Nat), (setC cells off vs).length = cells.length := by
  induction vs with
  | nil => intros; rfl
  | cons v r ih => intro cells off; simp [setC, ih]

theorem VL.setC {cs ds : List Value} (k : VL μ h cs ds) : ∀ {as bs : List Value} (off : Nat), VL μ h as bs → VL μ h (setC as off cs) (setC bs off ds) := by
  induction cs generalizing ds with
  | nil => intro as bs off l; cases ds with
    | nil => exact l
    | cons => simp [VL] at k
  | cons c r ih =>
    intro as bs off l
    cases ds with
    | nil => simp [VL] at k
    | cons d s =>
      have k0 : VR μ h c d := k.2 0 c d rfl rfl
      have k1 : VL μ h r s := ⟨by simpa using k.1, fun i v v' p q => k.2 (i + 1) v v' (by simpa using p) (by simpa using q)⟩
      exact ih k1 (off + 1) (l.set k0 off)

/-- The cells of a value, where it has any of its own. -/
def cellsA : Value → Option (List Value)
  | .agg cs => some cs.toList
  | .tuple _ => none
  | .complex .. => none
  | v => some [v]

theorem VR.agg_list {as bs : Array Value} (hs : as.size = bs.size) (hv : ∀ i : Nat, VR μ h (as.getD i (.tuple #[])) (bs.getD i (.tuple #[]))) : VL μ h as.toList bs.toList := by
  refine ⟨by simpa using hs, fun i v v' p q => ?_⟩
  have := hv i
  simp at p q
  simpa [p, q] using this
theorem VL.agg {as bs : Array Value} (l : VL μ h as.toList bs.toList) : VR μ h (.agg as) (.agg bs) := by
  refine .agg (by simpa using l.1) fun i => ?_
  cases p : as[i]? with
  | none => simp [p]; exact .any _
  | some v =>
    obtain ⟨v', q, r⟩ := l.get (i := i) (v := v) (by simpa using p)
    simp at q
    simpa [p, q] using r
theorem VL.tuple {as bs : Array Value} (l : VL μ h as.toList bs.toList) : VR μ h (.tuple as) (.tuple bs) := by
  refine .tuple (by simpa using l.1) fun i => ?_
  cases p : as[i]? with
  | none => simp [p]; exact .any _
  | some v =>
    obtain ⟨v', q, r⟩ := l.get (i := i) (v := v) (by simpa using p)
    simp at q
    simpa [p, q] using r

theorem VR.cells {v v' : Value} {cs : List Value} (k : VR μ h v v') (hc : cellsA v = some cs) : VL μ h cs v'.cells.toList := by
  cases k <;> simp only [cellsA, Option.some.injEq, reduceCtorEq] at hc <;> try (subst hc)
  case agg hs hv => exact VR.agg_list hs hv
  all_goals (simp only [Value.cells]; exact VL.cons (by constructor <;> assumption) VL.nil)

/-- A value of one cell. -/
def oneA : Value → Bool
  | .agg _ | .tuple _ | .complex .. => false
  | _ => true

theorem VR.oneCell {v v' : Value} (k : VR μ h v v') (ho : oneA v = true) : v'.oneCell' = true := by
  cases k <;> simp_all [Value.oneCell', oneA]

/-- Constants that hold no place of memory. -/
def scalarB : Value → Bool
  | .bool _ | .int _ _ | .string _ | .pointer none | .slice none 0 0 | .map none | .nilFunc | .nilIface => true
  | _ => false
def plainB : Value → Bool
  | .agg cs => cs.toList.all scalarB
  | .iface _ v => scalarB v
  | v => scalarB v

theorem VR.of_scalar {v : Value} (k : scalarB v = true) : VR μ h v v := by
  unfold scalarB at k
  split at k
  all_goals first
    | (cases k; done)
    | constructor
theorem VL.of_scalar {l : List Value} (k : l.all scalarB = true) : VL μ h l l :=
  ⟨rfl, fun i v v' p q => by
    rw [p] at q; cases q
    exact VR.of_scalar (List.all_eq_true.1 k v (List.mem_of_getElem? p))⟩
theorem VR.of_plain {v : Value} (k : plainB v = true) : VR μ h v v := by
  cases v <;> first
    | exact VR.of_scalar k
    | exact VL.agg (VL.of_scalar k)
    | exact .iface _ (VR.of_scalar k)

def evO (ρ : Nat → Value) : Operand → Value
  | .tmp t => ρ t
  | .const v => v
  | .global g => .pointer (some ⟨g, 0, none⟩)
  | .func f => .func (.func f) #[] #[]

def okO (G : Nat) : Operand → Bool
  | .const v => plainB v
  | .global g => decide (g < G)
  | _ => true

/-- The world's slots stand for the abstract ones. -/
def SR (μ : Ren) (h : AHeap) (ρ : Nat → Value) (a : Act) : Prop := ∀ t, VR μ h (ρ t) (a.tmps.getD t undef)

theorem SR.mono {μ' : Ren} {h' : AHeap} (hd : ∀ b x, μ b = some x → b < h.length) (hr : ∀ b x, μ b = some x → μ' b = some x) (hh : HLe h h')
    {ρ : Nat → Value} {a : Act} (l : SR μ h ρ a) : SR μ' h' ρ a := fun t => (l t).mono hd hr hh

theorem evO_vr (s : Sim G μ h w) {ρ : Nat → Value} {a : Act} (r : SR μ h ρ a) {x : Operand} (k : okO G x = true) : VR μ h (evO ρ x) (a.eval x) := by
  cases x with
  | tmp t => exact r t
  | const v => exact VR.of_plain k
  | global g =>
    obtain ⟨n, e⟩ := s.glob g (by simpa [okO] using k)
    have := VR.ptr (h := h) 0 e
    simpa [evO, Act.eval] using this
  | func f => exact .func _ rfl rfl (fun i => by simpa using VR.any _) (fun i => by simpa using VR.any _)

/-- One operation: from values that stand for ρ's, it comes to a value that stands for v, in a world that holds h'. -/
def OpJ (P : Program) (G : Nat) (o : Oper) (ρ : Nat → Value) (h : AHeap) (v : Value) (h' : AHeap) : Prop :=
  ∀ μ w a, Sim G μ h w → SR μ h ρ a → ∀ next Q,
    (∀ v' μ' w', VR μ' h' v v' → Step G μ h w μ' h' w' → next (a.put o.dst v') w') → o.wp P a w next Q

theorem OpJ.of_value {o : Oper} {ρ : Nat → Value} {h h' : AHeap} {v : Value}
    (k : ∀ μ w a, Sim G μ h w → SR μ h ρ a → ∃ v' μ' w', (execOp a.eval o).run P w = .ok (.value v') w' ∧ VR μ' h' v v' ∧ Step G μ h w μ' h' w') : OpJ P G o ρ h v h' := by
  intro μ w a s r next Q hn
  obtain ⟨v', μ', w', h1, h2, h3⟩ := k μ w a s r
  unfold Oper.wp
  rw [h1]
  exact hn v' μ' w' h2 h3

/-- One that makes no memory and turns none. -/
def OpV (P : Program) (G : Nat) (o : Oper) (ρ : Nat → Value) (h : AHeap) (v : Value) : Prop :=
  ∀ μ w a, Sim G μ h w → SR μ h ρ a → ∃ v', (execOp a.eval o).run P w = .ok (.value v') w ∧ VR μ h v v'

theorem OpV.j {o : Oper} {ρ : Nat → Value} {h : AHeap} {v : Value} (k : OpV P G o ρ h v) : OpJ P G o ρ h v h :=
  OpJ.of_value fun μ w a s r => let ⟨v', h1, h2⟩ := k μ w a s r; ⟨v', μ, w, h1, h2, Step.refl s⟩

end Go.Proofs.YtpnpccnbpgckhabGreat.B
