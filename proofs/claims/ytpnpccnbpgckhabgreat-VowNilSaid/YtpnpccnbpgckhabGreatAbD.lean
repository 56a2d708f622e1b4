/-
  A region whose order Go leaves open: one evaluation in the order of the text serves every order,
  where what is written is ordered against all that looks at memory.
-/
import Derived.Test.YtpnpccnbpgckhabGreatAb10
namespace Go.Proofs.YtpnpccnbpgckhabGreat.B
open Go
set_option linter.unusedVariables false
set_option linter.unusedSimpArgs false
variable {G : Nat} {P : Program}

def opsI : I → List Operand
  | .mv x | .box x | .nilck x | .un _ x | .conv _ x | .part _ _ _ x | .ext x _ | .len _ x | .mkiface _ x | .eqn _ _ x | .lenm x | .bts x | .clr _ _ x => [x]
  | .load _ _ a | .fld _ a => [a]
  | .pick c a b => [c, a, b]
  | .new _ | .mkmap | .stop => []
  | .build _ ps | .row _ _ _ ps => ps.map (·.2.2)
  | .store _ a x => [a, x]
  | .bin _ x y | .eqb _ x y | .ixs _ x y | .ixa _ _ x y | .mkslice _ _ _ x y | .app _ _ _ x y | .mm _ x y | .eqs _ _ x y | .lookup _ _ _ x y | .ixv _ _ _ x y | .ixstr x y | .cpy _ x y => [x, y]
  | .mapset _ m k v => [m, k, v]
  | .sl _ x lo hi | .slstr x lo hi | .sla _ _ x lo hi => x :: (lo.toList ++ hi.toList)
  | .mkfunc _ xs => xs
  | .call _ args => args
  | .callw _ args => args
  | .xc _ _ args => args
  | .callv f args => f :: args

theorem fillA_congr {ρ ρ' : Nat → Value} : ∀ (ps : List (Nat × Nat × Operand)) (cells : List Value), (∀ x ∈ ps.map (·.2.2), evO ρ' x = evO ρ x) → fillA ρ' cells ps = fillA ρ cells ps
  | [], cells, _ => rfl
  | (off, sz, x) :: r, cells, hx => by
    simp only [fillA]
    rw [hx x (by simp)]
    split
    · split
      · exact fillA_congr r _ fun y hy => hx y (by simp at hy ⊢; exact .inr hy)
      · rfl
    · rfl

theorem map_congr_opt {ρ ρ' : Nat → Value} {lo : Option Operand} (hx : ∀ x ∈ lo.toList, evO ρ' x = evO ρ x) : lo.map (evO ρ') = lo.map (evO ρ) := by
  cases lo with
  | none => rfl
  | some x => simp [hx x (by simp)]

theorem wpI_congr {i : I} {ρ ρ' : Nat → Value} {h : AHeap} {K : Value → AHeap → Prop} (hx : ∀ x ∈ opsI i, evO ρ' x = evO ρ x) : wpI P G i ρ' h K = wpI P G i ρ h K := by
  cases i with
  | build z ps => simp only [wpI, fillA_congr ps _ hx]
  | row a b z ps => simp only [wpI, fillA_congr ps _ hx]
  | sl sz x lo hi =>
    simp only [opsI, List.mem_cons, List.mem_append] at hx
    simp only [wpI, hx x (.inl rfl), map_congr_opt (lo := lo) fun y hy => hx y (.inr (.inl hy)), map_congr_opt (lo := hi) fun y hy => hx y (.inr (.inr hy))]
  | slstr x lo hi =>
    simp only [opsI, List.mem_cons, List.mem_append] at hx
    simp only [wpI, hx x (.inl rfl), map_congr_opt (lo := lo) fun y hy => hx y (.inr (.inl hy)), map_congr_opt (lo := hi) fun y hy => hx y (.inr (.inr hy))]
  | sla n sz x lo hi =>
    simp only [opsI, List.mem_cons, List.mem_append] at hx
    simp only [wpI, hx x (.inl rfl), map_congr_opt (lo := lo) fun y hy => hx y (.inr (.inl hy)), map_congr_opt (lo := hi) fun y hy => hx y (.inr (.inr hy))]
  | mkfunc f xs => have : xs.map (evO ρ') = xs.map (evO ρ) := List.map_congr_left hx
                   simp only [wpI, this]
  | call f xs => have : xs.map (evO ρ') = xs.map (evO ρ) := List.map_congr_left hx
                 simp only [wpI, this]
  | callw f xs =>
    have : xs.map (evO ρ') = xs.map (evO ρ) := List.map_congr_left hx
    simp only [wpI, this]
  | xc m f xs => have : xs.map (evO ρ') = xs.map (evO ρ) := List.map_congr_left hx
                 simp only [wpI, this]
  | callv f xs =>
    simp only [opsI, List.mem_cons] at hx
    simp only [wpI, hx f (.inl rfl), List.map_congr_left fun x hq => hx x (.inr hq)]
  | _ =>
    simp only [opsI, List.mem_cons, List.not_mem_nil, or_false, forall_eq_or_imp, forall_eq, forall_const, false_imp_iff] at hx
    simp only [wpI, hx]

def slotO : Operand → Option Nat
  | .tmp t => some t
  | _ => none

def slotsG (g : GI) : List Nat := (opsI g.i).filterMap slotO ++ (match g.g with | some (s, _) => [s] | none => [])

/-- The two stand in an order that every schedule keeps. -/
def ordB (A : Array Nat) (i j : Nat) : Bool := if j < i then (A.getD i 0).testBit j else (A.getD j 0).testBit i

def pairOK (A : Array Nat) (gi gj : GI) (i j : Nat) : Bool :=
  (match gi.dst, gj.dst with | some a, some b => a != b | _, _ => true) &&
  (match gj.dst with | some t => !(slotsG gi).contains t || ordB A i j | none => true) &&
  (kindI gi.i != 2 || kindI gj.i == 0 || ordB A i j)

def backOK (ops : Array Oper) : Bool := (List.range ops.size).all fun i => match ops[i]? with
  | some o => o.after.toList.all fun e => !Region.binds .any e || decide (e.on < i)
  | none => true

def dOK (ops : Array Oper) (l : List GI) : Bool :=
  let A := Region.before ops
  backOK ops && (List.range l.length).all fun i => (List.range l.length).all fun j => i == j || (match l[i]?, l[j]? with | some gi, some gj => pairOK A gi gj i j | _, _ => true)

/-- What may be left of memory as it was. -/
def qt (i : I) (h h' : AHeap) : Prop := if kindI i = 1 then ∃ g, h' = h ++ g else True

def wpD (P : Program) (G : Nat) : List GI → Env → AHeap → (Env → AHeap → Prop) → Prop
  | [], e, h, K => K e h
  | g :: r, e, h, K => match g.g with
    | none => wpI P G g.i (look e) h fun v h' => qt g.i h h' ∧ wpD P G r (putE e g.dst v) h' K
    | some (s, want) => match look e s with
      | .bool b => (b = want → wpI P G g.i (look e) h fun v h' => qt g.i h h' ∧ wpD P G r (putE e g.dst v) h' K) ∧ (b = !want → wpD P G r (putE e g.dst (.complex .f32 0 0)) h K)
      | .complex _ _ _ => wpD P G r (putE e g.dst (.complex .f32 0 0)) h K
      | _ => False

theorem wpD_mono : ∀ (l : List GI) {e : Env} {h : AHeap} {K K' : Env → AHeap → Prop} (hm : ∀ e h, K e h → K' e h) (hk : wpD P G l e h K), wpD P G l e h K'
  | [], e, h, K, K', hm, hk => hm _ _ hk
  | g :: l, e, h, K, K', hm, hk => by
    simp only [wpD] at hk ⊢
    split at hk
    · exact wpI_mono (fun v h' q => ⟨q.1, wpD_mono l hm q.2⟩) hk
    · split at hk
      · exact ⟨fun e1 => wpI_mono (fun v h' q => ⟨q.1, wpD_mono l hm q.2⟩) (hk.1 e1), fun e1 => wpD_mono l hm (hk.2 e1)⟩
      · exact wpD_mono l hm hk
      · exact hk.elim

/-! ### The evaluation in the order of the text, laid down -/

def Wan (g : GI) (e : Env) : Prop := g.g = none ∨ ∃ s b, g.g = some (s, b) ∧ look e s = .bool b
def Unw (g : GI) (e : Env) : Prop := ∃ s want, g.g = some (s, want) ∧ (look e s = .bool (!want) ∨ ∃ k a b, look e s = .complex k a b)

/-- One step of it. -/
def TrStep (P : Program) (G : Nat) (o : Oper) (g : GI) (e : Env) (h : AHeap) (v : Value) (e' : Env) (h' : AHeap) (sk : Bool) : Prop :=
  e' = putE e g.dst v ∧
  ((sk = true ∧ v = .complex .f32 0 0 ∧ h' = h ∧ Unw g e) ∨
   (sk = false ∧ Wan g e ∧ (∀ ρ', (∀ x ∈ opsI g.i, evO ρ' x = evO (look e) x) → Met P G o g.i ρ' h v h') ∧ (kindI g.i ≠ 2 → ∃ q, h' = h ++ q)))

/-- The frame cut down to an instruction's operands. -/
def cutR (i : I) (ρ : Nat → Value) : Nat → Value := fun t => if t ∈ (opsI i).filterMap slotO then ρ t else .tuple #[]

theorem cutR_ev {i : I} {ρ : Nat → Value} : ∀ x ∈ opsI i, evO (cutR i ρ) x = evO ρ x := by
  intro x hx
  cases x with
  | tmp t =>
    have : t ∈ (opsI i).filterMap slotO := List.mem_filterMap.2 ⟨_, hx, rfl⟩
    simp [evO, cutR, this]
  | _ => rfl

theorem Met.of_cut {o : Oper} {i : I} {ρ ρ' : Nat → Value} {h h' : AHeap} {v : Value} (k : Met P G o i (cutR i ρ) h v h') (hx : ∀ x ∈ opsI i, evO ρ' x = evO ρ x) : Met P G o i ρ' h v h' := by
  have key : ∀ (μ : Ren) (h : AHeap) (a : Act), SR μ h ρ' a → SR μ h (cutR i ρ) a := fun μ h a hs t => by
    unfold cutR
    split
    · rename_i ht
      obtain ⟨x, h1, h2⟩ := List.mem_filterMap.1 ht
      cases x <;> simp [slotO] at h2
      subst h2
      have := hx _ h1
      simp only [evO] at this
      rw [← this]; exact hs _
    · exact .any _
  rcases k with ⟨k0, k1, k2⟩ | ⟨k0, k1⟩
  · exact .inl ⟨k0, fun h2 μ w a s r => k1 h2 μ w a s (key _ _ _ r), k2⟩
  · exact .inr ⟨k0, fun μ w a s r => k1 μ w a s (key _ _ _ r)⟩

theorem met_any {o : Oper} {g : GI} {e : Env} {h : AHeap} {K : Value → AHeap → Prop} (hr : resI P G o.op = some g.i) (hk : wpI P G g.i (look e) h fun v h' => qt g.i h h' ∧ K v h') :
    ∃ v h', (∀ ρ', (∀ x ∈ opsI g.i, evO ρ' x = evO (look e) x) → Met P G o g.i ρ' h v h') ∧ (kindI g.i ≠ 2 → ∃ q, h' = h ++ q) ∧ K v h' := by
  rw [← wpI_congr (cutR_ev (i := g.i) (ρ := look e))] at hk
  obtain ⟨v, h', hm, hq, hK⟩ := resI_sound hr hk
  refine ⟨v, h', fun ρ' hx => hm.of_cut hx, fun h2 => ?_, hK⟩
  unfold qt at hq
  rcases hm with ⟨k0, _, rfl⟩ | ⟨k0, _⟩
  · exact ⟨[], by simp⟩
  · have : kindI g.i ≤ 2 := by cases g.i <;> simp [kindI]
    rw [if_pos (by omega)] at hq
    exact hq

/-- A call that may turn memory, among operations whose order is open. -/
def toW : I → I
  | .call f xs => .callw f xs
  | i => i
def mw (ms : List Nat) (g : GI) : GI := ⟨g.dst, if g.dst.any (fun d => ms.contains d) then toW g.i else g.i, g.g⟩
theorem wpI_toW {i : I} {ρ : Nat → Value} {h : AHeap} {K : Value → AHeap → Prop} : wpI P G (toW i) ρ h K = wpI P G i ρ h K := by cases i <;> rfl
theorem Met_toW {o : Oper} {i : I} {ρ : Nat → Value} {h h' : AHeap} {v : Value} (k : Met P G o i ρ h v h') : Met P G o (toW i) ρ h v h' := by
  cases i
  case call =>
    rcases k with k | k
    · exact absurd k.1 (by simp [kindI])
    · exact .inr ⟨by simp [toW, kindI], k.2⟩
  all_goals exact k
theorem met_any2 {o : Oper} {g : GI} {i0 : I} {e : Env} {h : AHeap} {K : Value → AHeap → Prop} (hr : resI P G o.op = some i0) (hgi : g.i = toW i0) (hk : wpI P G g.i (look e) h fun v h' => qt g.i h h' ∧ K v h') :
    ∃ v h', (∀ ρ', (∀ x ∈ opsI g.i, evO ρ' x = evO (look e) x) → Met P G o g.i ρ' h v h') ∧ (kindI g.i ≠ 2 → ∃ q, h' = h ++ q) ∧ K v h' := by
  rw [← wpI_congr (cutR_ev (i := g.i) (ρ := look e))] at hk
  have hk2 : wpI P G i0 (cutR g.i (look e)) h fun v h' => qt g.i h h' ∧ K v h' := by
    rw [← wpI_toW, ← hgi]; exact hk
  obtain ⟨v, h', hm0, hq, hK⟩ := resI_sound hr hk2
  have hm : Met P G o g.i (cutR g.i (look e)) h v h' := by
    have := Met_toW hm0
    rwa [← hgi] at this
  refine ⟨v, h', fun ρ' hx => hm.of_cut hx, fun h2 => ?_, hK⟩
  unfold qt at hq
  rcases hm with ⟨k0, _, rfl⟩ | ⟨k0, _⟩
  · exact ⟨[], by simp⟩
  · have : kindI g.i ≤ 2 := by cases g.i <;> simp [kindI]
    rw [if_pos (by omega)] at hq
    exact hq
/-- The whole of it: values, heaps and frames, step by step. -/
theorem trace {n : Nat} {ops : Array Oper} (ms : List Nat) : ∀ (os : List Oper) (l0 : List GI) {e : Env} {h : AHeap} {K : Env → AHeap → Prop}, os.mapM (resG P G n ops) = some l0 → ∀ l, l = l0.map (mw ms) → wpD P G l e h K →
    ∃ (val : Nat → Value) (hp : Nat → AHeap) (en : Nat → Env) (sk : Nat → Bool), en 0 = e ∧ hp 0 = h ∧ K (en l.length) (hp l.length) ∧
      ∀ (i : Nat) o g, os[i]? = some o → l[i]? = some g → TrStep P G o g (en i) (hp i) (val i) (en (i + 1)) (hp (i + 1)) (sk i)
  | [], l0, e, h, K, hm, l, hl0, hk => by
    simp at hm; subst hm; subst hl0
    exact ⟨fun _ => undef, fun _ => h, fun _ => e, fun _ => false, rfl, rfl, hk, fun i o g ho => by simp at ho⟩
  | o :: os, l0, e, h, K, hm, l, hl0, hk => by
    simp only [List.mapM_cons, Option.pure_def, Option.bind_eq_bind, Option.bind_eq_some_iff, Option.some.injEq] at hm
    obtain ⟨g0, hg, l0', hl, rfl⟩ := hm
    obtain ⟨g, hgm⟩ : ∃ g, g = mw ms g0 := ⟨_, rfl⟩
    obtain ⟨l', hlm⟩ : ∃ l', l' = l0'.map (mw ms) := ⟨_, rfl⟩
    rw [List.map_cons, ← hgm, ← hlm] at hl0
    subst hl0
    have hres : resI P G o.op = some g0.i := by
      simp only [resG, Option.bind_eq_bind, Option.bind_eq_some_iff] at hg
      obtain ⟨i, hi, gg, _, hg⟩ := hg
      split at hg <;> cases hg
      exact hi
    have fin : ∀ (v : Value) (h1 : AHeap) (b : Bool), TrStep P G o g e h v (putE e g.dst v) h1 b → wpD P G l' (putE e g.dst v) h1 K → ∃ (val : Nat → Value) (hp : Nat → AHeap) (en : Nat → Env) (sk : Nat → Bool), en 0 = e ∧ hp 0 = h ∧ K (en (g :: l').length) (hp (g :: l').length) ∧
        ∀ (i : Nat) o1 g1, (o :: os)[i]? = some o1 → (g :: l')[i]? = some g1 → TrStep P G o1 g1 (en i) (hp i) (val i) (en (i + 1)) (hp (i + 1)) (sk i) := by
      intro v h1 b ht hk1
      obtain ⟨val, hp, en, sk, e1, e2, e3, e4⟩ := trace ms os l0' hl l' hlm hk1
      refine ⟨fun i => match i with | 0 => v | i + 1 => val i, fun i => match i with | 0 => h | i + 1 => hp i, fun i => match i with | 0 => e | i + 1 => en i, fun i => match i with | 0 => b | i + 1 => sk i, rfl, rfl, e3, ?_⟩
      intro i o1 g1 ho1 hg1
      cases i with
      | zero =>
        simp at ho1 hg1
        subst ho1; subst hg1
        simp only [e1, e2]
        exact ht
      | succ i => exact e4 i o1 g1 (by simpa using ho1) (by simpa using hg1)
    simp only [wpD] at hk
    have run : Wan g e → wpI P G g.i (look e) h (fun v h' => qt g.i h h' ∧ wpD P G l' (putE e g.dst v) h' K) → ∃ (val : Nat → Value) (hp : Nat → AHeap) (en : Nat → Env) (sk : Nat → Bool), en 0 = e ∧ hp 0 = h ∧ K (en (g :: l').length) (hp (g :: l').length) ∧
        ∀ (i : Nat) o1 g1, (o :: os)[i]? = some o1 → (g :: l')[i]? = some g1 → TrStep P G o1 g1 (en i) (hp i) (val i) (en (i + 1)) (hp (i + 1)) (sk i) := by
      intro hw hq
      have hgi : g.i = g0.i ∨ g.i = toW g0.i := by
        rw [hgm]; unfold mw; simp only
        split <;> simp
      rcases hgi with hgi | hgi
      · obtain ⟨v, h', m1, m2, m3⟩ := met_any (hgi ▸ hres) hq
        exact fin v h' false ⟨rfl, .inr ⟨rfl, hw, m1, m2⟩⟩ m3
      · obtain ⟨v, h', m1, m2, m3⟩ := met_any2 hres hgi hq
        exact fin v h' false ⟨rfl, .inr ⟨rfl, hw, m1, m2⟩⟩ m3
    split at hk
    · rename_i hgn
      exact run (.inl hgn) hk
    · rename_i s want hgs
      split at hk
      · rename_i b hb
        by_cases hbw : b = want
        · subst hbw
          exact run (.inr ⟨s, b, hgs, hb⟩) (hk.1 rfl)
        · have : b = !want := by cases b <;> cases want <;> simp_all
          exact fin _ h true ⟨rfl, .inl ⟨rfl, rfl, rfl, s, want, hgs, .inl (by rw [hb, this])⟩⟩ (hk.2 this)
      · rename_i c1 c2 c3 hb
        exact fin _ h true ⟨rfl, .inl ⟨rfl, rfl, rfl, s, want, hgs, .inr ⟨_, _, _, hb⟩⟩⟩ hk
      · exact hk.elim

/-! ### Orders -/

def Closed (ops : Array Oper) (listed : Array Bool) : Prop := ∀ (i : Nat) o, ops[i]? = some o → listed.getD i false = true → ∀ e ∈ o.after, Region.binds .any e = true → listed.getD e.on false = true

theorem before_sound {ops : Array Oper} {listed : Array Bool} (hc : Closed ops listed) {i j : Nat} (hb : ((Region.before ops).getD i 0).testBit j = true) (hi : listed.getD i false = true) : listed.getD j false = true := by
  have key : ∀ (rest : List Oper) (k : Nat) (acc : Array Nat), ops.toList.drop k = rest → acc.size = k → (∀ i j, (acc.getD i 0).testBit j = true → listed.getD i false = true → listed.getD j false = true) →
      ∀ i j, ((rest.foldl (fun acc o => acc.push (o.after.foldl (fun s e => if Region.binds .any e then s ||| 2 ^ e.on ||| acc.getD e.on 0 else s) 0)) acc).getD i 0).testBit j = true → listed.getD i false = true → listed.getD j false = true := by
    intro rest
    induction rest with
    | nil => intro k acc _ _ hacc; exact hacc
    | cons o rest ih =>
      intro k acc hd hs hacc
      simp only [List.foldl_cons]
      have ho : ops[k]? = some o := by
        have : (ops.toList.drop k)[0]? = some o := by rw [hd]; rfl
        simpa using this
      refine ih (k + 1) _ (by rw [← List.drop_drop, hd]; rfl) (by simp [hs]) ?_
      intro i j ht hi
      by_cases hik : i = k
      · subst hik
        have hpush : ∀ x : Nat, (acc.push x).getD i 0 = x := fun x => by simp [← hs]
        rw [hpush] at ht
        have hf : ∀ (es : List Edge) (s : Nat), (∀ e ∈ es, e ∈ o.after.toList) → (∀ j, s.testBit j = true → listed.getD j false = true) →
            ∀ j, (es.foldl (fun s e => if Region.binds .any e then s ||| 2 ^ e.on ||| acc.getD e.on 0 else s) s).testBit j = true → listed.getD j false = true := by
          intro es
          induction es with
          | nil => intro s _ hs j hj; exact hs j hj
          | cons e es ihe =>
            intro s hin hs j hj
            simp only [List.foldl_cons] at hj
            refine ihe _ (fun e' he' => hin e' (by simp [he'])) ?_ j hj
            intro j2 hj2
            split at hj2
            · rename_i hbind
              have hon : listed.getD e.on false = true := hc i o ho hi e (by simpa using hin e (by simp)) hbind
              simp only [Nat.testBit_or, Bool.or_eq_true, Nat.testBit_two_pow, decide_eq_true_eq] at hj2
              rcases hj2 with (hj2 | hj2) | hj2
              · exact hs j2 hj2
              · subst hj2; exact hon
              · exact hacc _ _ hj2 hon
            · exact hs j2 hj2
        rw [← Array.foldl_toList] at ht
        exact hf o.after.toList 0 (fun _ h => h) (fun j hj => by simp at hj) j ht
      · have hpush : ∀ x : Nat, (acc.push x).getD i 0 = acc.getD i 0 := fun x => by
          simp only [Array.getD_eq_getD_getElem?, Array.getElem?_push]
          rw [if_neg (by omega)]
        rw [hpush] at ht
        exact hacc i j ht hi
  unfold Region.before at hb
  rw [← Array.foldl_toList] at hb
  exact key ops.toList 0 #[] rfl rfl (fun i j h => by simp at h) i j hb hi

theorem Closed.set {ops : Array Oper} {listed : Array Bool} (hc : Closed ops listed) {i : Nat} (hr : i ∈ Region.ready .any ops listed) : Closed ops (listed.setIfInBounds i true) := by
  rw [mem_ready] at hr
  obtain ⟨h0, o, ho, hall⟩ := hr
  intro j oj hoj hj e he hb
  by_cases hij : i = j
  · subst hij
    rw [ho] at hoj; cases hoj
    exact getD_set_true (hall e he hb)
  · rw [getD_set_ne false hij] at hj
    exact getD_set_true (hc j oj hoj hj e he hb)

end Go.Proofs.YtpnpccnbpgckhabGreat.B
