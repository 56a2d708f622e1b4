/-
  How the evaluation over an abstract heap is simplified: from the front, never ahead of itself; each step an equation of its own.
-/
import Derived.Test.YtpnpccnbpgckhabGreatAb11
namespace Go.Proofs.YtpnpccnbpgckhabGreat.B
open Go
set_option linter.unusedVariables false
variable {G : Nat} {P : Program}

/-- What comes next is not looked into before it is reached. -/
abbrev Hold {α : Type} (_ : α) : Type := Unit

def optV {α : Type} (o : Option α) (F : α → Prop) (_ : Hold F) : Prop := match o with
  | some v => F v
  | none => False
theorem optV_some {α : Type} (v : α) (F : α → Prop) (u : Hold F) : optV (some v) F u = F v := (rfl)
theorem optV_none {α : Type} (F : α → Prop) (u : Hold F) : optV none F u = False := (rfl)

section
variable (K : Value → AHeap → Prop) (h : AHeap) (ρ : Nat → Value) (u : Hold K)

def mvV (v : Value) (h : AHeap) (K : Value → AHeap → Prop) (_ : Hold K) : Prop := K v h
theorem wpI_mv (x : Operand) : wpI P G (.mv x) ρ h K = mvV (evO ρ x) h K () := (rfl)
theorem mvV_go (v : Value) : mvV v h K u = K v h := (rfl)

def pickV (c a b : Value) (h : AHeap) (K : Value → AHeap → Prop) (_ : Hold K) : Prop := match c with
  | .bool t => K (if t then a else b) h
  | _ => False
theorem wpI_pick (c a b : Operand) : wpI P G (.pick c a b) ρ h K = pickV (evO ρ c) (evO ρ a) (evO ρ b) h K () := (rfl)
theorem pickV_true (a b : Value) : pickV (.bool true) a b h K u = mvV a h K u := (rfl)
theorem pickV_false (a b : Value) : pickV (.bool false) a b h K u = mvV b h K u := (rfl)
theorem pickV_bool (t a b : Bool) : pickV (.bool t) (.bool a) (.bool b) h K u = mvV (.bool (if t then a else b)) h K u := by cases t <;> rfl

theorem wpI_new (cells : List Value) : wpI P G (.new cells) ρ h K = mvV (.pointer (some ⟨h.length, 0, none⟩)) (h ++ [.row .fix cells]) K () := (rfl)
theorem wpI_box (x : Operand) : wpI P G (.box x) ρ h K = optV (cellsA (evO ρ x)) (fun cs => mvV (.pointer (some ⟨h.length, 0, none⟩)) (h ++ [.row .fix cs]) K ()) () := by simp only [wpI]; cases cellsA (evO ρ x) <;> rfl
theorem wpI_build (z : List Value) (ps : List (Nat × Nat × Operand)) : wpI P G (.build z ps) ρ h K = optV (fillA ρ z ps) (fun cs => K (.agg cs.toArray) h) () := by simp only [wpI]; cases fillA ρ z ps <;> rfl
theorem wpI_row (sz len : Nat) (z : List Value) (ps : List (Nat × Nat × Operand)) : wpI P G (.row sz len z ps) ρ h K = optV (fillA ρ ((List.replicate len z).flatten) ps) (fun cs => mvV (.slice (some ⟨h.length, 0, none⟩) len len) (h ++ [.row (.grow sz) cs]) K ()) () := by simp only [wpI]; cases fillA ρ ((List.replicate len z).flatten) ps <;> rfl

def loadV (agg : Bool) (n : Nat) (a : Value) (h : AHeap) (K : Value → AHeap → Prop) (_ : Hold K) : Prop := match a with
  | .pointer (some ⟨b, off, none⟩) => optV ((rds h b off n).bind (aggOf agg)) (fun v => K v h) ()
  | _ => False
theorem wpI_load (agg : Bool) (n : Nat) (a : Operand) : wpI P G (.load agg n a) ρ h K = loadV agg n (evO ρ a) h K () := by
  simp only [wpI]; unfold loadV; generalize evO ρ a = v
  split
  · rename_i b off; simp only; cases (rds h b off n).bind (aggOf agg) <;> rfl
  · rename_i hne; split
    · rename_i b off; exact absurd rfl (hne b off)
    · rfl
theorem loadV_ptr (agg : Bool) (n b off : Nat) : loadV agg n (.pointer (some ⟨b, off, none⟩)) h K u = optV ((rds h b off n).bind (aggOf agg)) (fun v => K v h) () := (rfl)

def storeV (n : Nat) (a : Value) (c : Option (List Value)) (h : AHeap) (K : Value → AHeap → Prop) (_ : Hold K) : Prop := match a, c with
  | .pointer (some ⟨b, off, none⟩), some vs => vs.length = n ∧ vs.all oneA = true ∧ optV (wrs h b off vs) (fun h' => K undef h') ()
  | _, _ => False
theorem wpI_store (n : Nat) (a x : Operand) : wpI P G (.store n a x) ρ h K = storeV n (evO ρ a) (cellsA (evO ρ x)) h K () := by
  simp only [wpI]; unfold storeV; generalize evO ρ a = v; generalize cellsA (evO ρ x) = c
  split
  · rename_i b off vs; simp only; cases wrs h b off vs <;> rfl
  · rename_i hne; split
    · rename_i b off vs; exact (hne b off vs rfl rfl).elim
    · rfl
theorem storeV_ptr (n b off : Nat) (vs : List Value) : storeV n (.pointer (some ⟨b, off, none⟩)) (some vs) h K u = (vs.length = n ∧ vs.all oneA = true ∧ optV (wrs h b off vs) (fun h' => K undef h') ()) := (rfl)

def nilckV (v : Value) (h : AHeap) (K : Value → AHeap → Prop) (_ : Hold K) : Prop := match v with
  | .pointer (some a) => K (.pointer (some a)) h
  | .iface t v => K (.iface t v) h
  | _ => False
theorem wpI_nilck (x : Operand) : wpI P G (.nilck x) ρ h K = nilckV (evO ρ x) h K () := (rfl)
theorem nilckV_ptr (a : Addr) : nilckV (.pointer (some a)) h K u = K (.pointer (some a)) h := (rfl)
theorem nilckV_iface (t : TypeId) (v : Value) : nilckV (.iface t v) h K u = K (.iface t v) h := (rfl)

def binV (op : BinOp) (x y : Value) (h : AHeap) (K : Value → AHeap → Prop) (_ : Hold K) : Prop := binA op x y (K · h)
theorem wpI_bin (op : BinOp) (x y : Operand) : wpI P G (.bin op x y) ρ h K = binV op (evO ρ x) (evO ρ y) h K () := (rfl)
theorem binV_add (k : IntKind) (a b : Int) : binV .add (.int k a) (.int k b) h K u = mvV (.int k (k.wrap (a + b))) h K u := by simp [binV, binA, mvV]
theorem binV_sub (k : IntKind) (a b : Int) : binV .sub (.int k a) (.int k b) h K u = mvV (.int k (k.wrap (a - b))) h K u := by simp [binV, binA, mvV]
theorem binV_mul (k : IntKind) (a b : Int) : binV .mul (.int k a) (.int k b) h K u = mvV (.int k (k.wrap (a * b))) h K u := by simp [binV, binA, mvV]
theorem binV_quo (k : IntKind) (a b : Int) : binV .quo (.int k a) (.int k b) h K u = (b ≠ 0 ∧ mvV (.int k (k.wrap (a.tdiv b))) h K u) := by simp [binV, binA, mvV]
theorem binV_rem (k : IntKind) (a b : Int) : binV .rem (.int k a) (.int k b) h K u = (b ≠ 0 ∧ mvV (.int k (a.tmod b)) h K u) := by simp [binV, binA, mvV]
theorem binV_shl (k j : IntKind) (a b : Int) : binV .shl (.int k a) (.int j b) h K u = (0 ≤ b ∧ mvV (.int k (k.wrap (a * 2 ^ min b.toNat k.bits))) h K u) := (rfl)
theorem binV_shr (k j : IntKind) (a b : Int) : binV .shr (.int k a) (.int j b) h K u = (0 ≤ b ∧ mvV (.int k (a.fdiv (2 ^ min b.toNat k.bits))) h K u) := (rfl)
theorem binV_and (k : IntKind) (a b : Int) : binV .and (.int k a) (.int k b) h K u = mvV (.int k (k.wrap (BitVec.ofInt k.bits a &&& BitVec.ofInt k.bits b).toNat)) h K u := by simp [binV, binA, mvV]
theorem binV_or (k : IntKind) (a b : Int) : binV .or (.int k a) (.int k b) h K u = mvV (.int k (k.wrap (BitVec.ofInt k.bits a ||| BitVec.ofInt k.bits b).toNat)) h K u := by simp [binV, binA, mvV]
theorem binV_xor (k : IntKind) (a b : Int) : binV .xor (.int k a) (.int k b) h K u = mvV (.int k (k.wrap (BitVec.ofInt k.bits a ^^^ BitVec.ofInt k.bits b).toNat)) h K u := by simp [binV, binA, mvV]
theorem binV_eql (k : IntKind) (a b : Int) : binV .eql (.int k a) (.int k b) h K u = mvV (.bool (a == b)) h K u := by simp [binV, binA, mvV]
theorem binV_neq (k : IntKind) (a b : Int) : binV .neq (.int k a) (.int k b) h K u = mvV (.bool (a != b)) h K u := by simp [binV, binA, mvV]
theorem binV_lss (k : IntKind) (a b : Int) : binV .lss (.int k a) (.int k b) h K u = mvV (.bool (decide (a < b))) h K u := by simp [binV, binA, mvV]
theorem binV_leq (k : IntKind) (a b : Int) : binV .leq (.int k a) (.int k b) h K u = mvV (.bool (decide (a ≤ b))) h K u := by simp [binV, binA, mvV]
theorem binV_gtr (k : IntKind) (a b : Int) : binV .gtr (.int k a) (.int k b) h K u = mvV (.bool (decide (b < a))) h K u := by simp [binV, binA, mvV]
theorem binV_geq (k : IntKind) (a b : Int) : binV .geq (.int k a) (.int k b) h K u = mvV (.bool (decide (b ≤ a))) h K u := by simp [binV, binA, mvV]
theorem binV_sadd (a b : ByteArray) : binV .add (.string a) (.string b) h K u = ((a.size + b.size ≤ 9223372036854775807) ∧ mvV (.string (a ++ b)) h K u) := (rfl)
theorem binV_seql (a b : ByteArray) : binV .eql (.string a) (.string b) h K u = mvV (.bool (a.toList == b.toList)) h K u := (rfl)
theorem binV_sneq (a b : ByteArray) : binV .neq (.string a) (.string b) h K u = mvV (.bool (!(a.toList == b.toList))) h K u := (rfl)

def eqbV (neg : Bool) (x y : Value) (h : AHeap) (K : Value → AHeap → Prop) (_ : Hold K) : Prop := match x, y with
  | .bool a, .bool b => K (.bool (if neg then a != b else a == b)) h
  | _, _ => False
theorem wpI_eqb (neg : Bool) (x y : Operand) : wpI P G (.eqb neg x y) ρ h K = eqbV neg (evO ρ x) (evO ρ y) h K () := (rfl)
theorem eqbV_eq (a b : Bool) : eqbV false (.bool a) (.bool b) h K u = mvV (.bool (a == b)) h K u := (rfl)
theorem eqbV_ne (a b : Bool) : eqbV true (.bool a) (.bool b) h K u = mvV (.bool (a != b)) h K u := (rfl)

def unV (op : UnOp) (x : Value) (h : AHeap) (K : Value → AHeap → Prop) (_ : Hold K) : Prop := unA op x (K · h)
theorem wpI_un (op : UnOp) (x : Operand) : wpI P G (.un op x) ρ h K = unV op (evO ρ x) h K () := (rfl)
theorem unV_neg (k : IntKind) (n : Int) : unV .neg (.int k n) h K u = mvV (.int k (k.wrap (0 - n))) h K u := (rfl)
theorem unV_not (b : Bool) : unV .not (.bool b) h K u = mvV (.bool (!b)) h K u := (rfl)

def convV (k : IntKind) (x : Value) (h : AHeap) (K : Value → AHeap → Prop) (_ : Hold K) : Prop := match x with
  | .int _ n => K (.int k (k.wrap n)) h
  | _ => False
theorem wpI_conv (k : IntKind) (x : Operand) : wpI P G (.conv k x) ρ h K = convV k (evO ρ x) h K () := (rfl)
theorem convV_int (k j : IntKind) (n : Int) : convV k (.int j n) h K u = mvV (.int k (k.wrap n)) h K u := (rfl)

def fldV (off : Nat) (a : Value) (h : AHeap) (K : Value → AHeap → Prop) (_ : Hold K) : Prop := match a with
  | .pointer (some ⟨b, o, none⟩) => K (.pointer (some ⟨b, o + off, none⟩)) h
  | _ => False
theorem wpI_fld (off : Nat) (a : Operand) : wpI P G (.fld off a) ρ h K = fldV off (evO ρ a) h K () := (rfl)
theorem fldV_ptr (off b o : Nat) : fldV off (.pointer (some ⟨b, o, none⟩)) h K u = mvV (.pointer (some ⟨b, o + off, none⟩)) h K u := (rfl)

def partV (agg : Bool) (off n : Nat) (x : Value) (h : AHeap) (K : Value → AHeap → Prop) (_ : Hold K) : Prop := match x with
  | .agg cs => off + n ≤ cs.size ∧ optV (aggOf agg ((cs.toList.drop off).take n)) (fun v => K v h) ()
  | _ => False
theorem wpI_part (agg : Bool) (off n : Nat) (x : Operand) : wpI P G (.part agg off n x) ρ h K = partV agg off n (evO ρ x) h K () := by
  simp only [wpI]; unfold partV; generalize evO ρ x = v
  split
  · rename_i cs; simp only; cases aggOf agg ((cs.toList.drop off).take n) <;> rfl
  · rename_i hne; split
    · rename_i cs; exact absurd rfl (hne cs)
    · rfl
theorem partV_agg (agg : Bool) (off n : Nat) (cs : Array Value) : partV agg off n (.agg cs) h K u = (off + n ≤ cs.size ∧ optV (aggOf agg ((cs.toList.drop off).take n)) (fun v => K v h) ()) := (rfl)

def ixsV (sz : Nat) (x i : Value) (h : AHeap) (K : Value → AHeap → Prop) (_ : Hold K) : Prop := match x, i with
  | .slice (some ⟨b, o, none⟩) len _, .int _ n => (0 ≤ n ∧ n < len) ∧ K (.pointer (some ⟨b, o + n.toNat * sz, none⟩)) h
  | _, _ => False
theorem wpI_ixs (sz : Nat) (x i : Operand) : wpI P G (.ixs sz x i) ρ h K = ixsV sz (evO ρ x) (evO ρ i) h K () := (rfl)
theorem ixsV_slice (sz b o len cap : Nat) (k : IntKind) (n : Int) : ixsV sz (.slice (some ⟨b, o, none⟩) len cap) (.int k n) h K u = ((0 ≤ n ∧ n < len) ∧ mvV (.pointer (some ⟨b, o + n.toNat * sz, none⟩)) h K u) := (rfl)
theorem ixsV_nil (sz len cap : Nat) (k : IntKind) (n : Int) : ixsV sz (.slice none len cap) (.int k n) h K u = False := (rfl)

def ixaV (len sz : Nat) (x i : Value) (h : AHeap) (K : Value → AHeap → Prop) (_ : Hold K) : Prop := match x, i with
  | .pointer (some ⟨b, o, none⟩), .int _ n => (0 ≤ n ∧ n < len) ∧ K (.pointer (some ⟨b, o + n.toNat * sz, none⟩)) h
  | _, _ => False
theorem wpI_ixa (len sz : Nat) (x i : Operand) : wpI P G (.ixa len sz x i) ρ h K = ixaV len sz (evO ρ x) (evO ρ i) h K () := (rfl)
theorem ixaV_ptr (len sz b o : Nat) (k : IntKind) (n : Int) : ixaV len sz (.pointer (some ⟨b, o, none⟩)) (.int k n) h K u = ((0 ≤ n ∧ n < len) ∧ mvV (.pointer (some ⟨b, o + n.toNat * sz, none⟩)) h K u) := (rfl)

def slV (sz : Nat) (x : Value) (lo hi : Option (Option Int)) (h : AHeap) (K : Value → AHeap → Prop) (_ : Hold K) : Prop := match x, lo, hi with
  | .slice a len cap, some l, some u => (0 ≤ l.getD 0 ∧ l.getD 0 ≤ u.getD len ∧ u.getD len ≤ len ∧ len ≤ cap) ∧ slK h sz (l.getD 0).toNat (u.getD len).toNat cap K a
  | _, _, _ => False
theorem wpI_sl (sz : Nat) (x : Operand) (lo hi : Option Operand) : wpI P G (.sl sz x lo hi) ρ h K = slV sz (evO ρ x) (intO (lo.map (evO ρ))) (intO (hi.map (evO ρ))) h K () := (rfl)
theorem slV_slice (sz : Nat) (a : Option Addr) (len cap : Nat) (l v : Option Int) : slV sz (.slice a len cap) (some l) (some v) h K u =
    ((0 ≤ l.getD 0 ∧ l.getD 0 ≤ v.getD len ∧ v.getD len ≤ len ∧ len ≤ cap) ∧ slK h sz (l.getD 0).toNat (v.getD len).toNat cap K a) := (rfl)
theorem slK_some (sz l u cap b o : Nat) : slK h sz l u cap K (some ⟨b, o, none⟩) = (slOK h b sz ∧ K (.slice (some ⟨b, if l < cap then o + l * sz else o, none⟩) (u - l) (cap - l)) h) := (rfl)
theorem slK_none (sz l u cap : Nat) : slK h sz l u cap K none = (cap = 0 ∧ K (.slice none 0 0) h) := (rfl)

def mksV (sz bytes : Nat) (z : List Value) (x y : Value) (h : AHeap) (K : Value → AHeap → Prop) (_ : Hold K) : Prop := match x, y with
  | .int .i64 l, .int .i64 c => (0 ≤ l ∧ l ≤ c ∧ c ≤ 9223372036854775807 ∧ (bytes : Int) * c ≤ 281474976710656) ∧
      K (.slice (some ⟨h.length, 0, none⟩) l.toNat c.toNat) (h ++ [.row (.grow sz) ((List.replicate c.toNat z).flatten)])
  | _, _ => False
theorem wpI_mkslice (sz bytes : Nat) (z : List Value) (x y : Operand) : wpI P G (.mkslice sz bytes z x y) ρ h K = mksV sz bytes z (evO ρ x) (evO ρ y) h K () := (rfl)
theorem mksV_int (sz bytes : Nat) (z : List Value) (l c : Int) : mksV sz bytes z (.int .i64 l) (.int .i64 c) h K u = ((0 ≤ l ∧ l ≤ c ∧ c ≤ 9223372036854775807 ∧ (bytes : Int) * c ≤ 281474976710656) ∧
      K (.slice (some ⟨h.length, 0, none⟩) l.toNat c.toNat) (h ++ [.row (.grow sz) ((List.replicate c.toNat z).flatten)])) := (rfl)

def extV (x : Value) (i : Nat) (h : AHeap) (K : Value → AHeap → Prop) (_ : Hold K) : Prop := match x with
  | .tuple vs => optV vs[i]? (fun v => K v h) ()
  | _ => False
theorem wpI_ext (x : Operand) (i : Nat) : wpI P G (.ext x i) ρ h K = extV (evO ρ x) i h K () := by
  simp only [wpI]; unfold extV; generalize evO ρ x = v
  split
  · rename_i vs; simp only; cases vs[i]? <;> rfl
  · rename_i hne; split
    · rename_i vs; exact absurd rfl (hne vs)
    · rfl
theorem extV_0 (a : Value) (l : List Value) : extV (.tuple ⟨a :: l⟩) 0 h K u = K a h := (rfl)
theorem extV_1 (a b : Value) (l : List Value) : extV (.tuple ⟨a :: b :: l⟩) 1 h K u = K b h := (rfl)
theorem extV_2 (a b c : Value) (l : List Value) : extV (.tuple ⟨a :: b :: c :: l⟩) 2 h K u = K c h := (rfl)

def lenV (str : Bool) (x : Value) (h : AHeap) (K : Value → AHeap → Prop) (_ : Hold K) : Prop := match str, x with
  | false, .slice _ n _ => K (.int .i64 n) h
  | true, .string s => K (.int .i64 s.size) h
  | _, _ => False
theorem wpI_len (str : Bool) (x : Operand) : wpI P G (.len str x) ρ h K = lenV str (evO ρ x) h K () := (rfl)
theorem lenV_slice (a : Option Addr) (n c : Nat) : lenV false (.slice a n c) h K u = mvV (.int .i64 n) h K u := (rfl)
theorem lenV_string (s : ByteArray) : lenV true (.string s) h K u = mvV (.int .i64 s.size) h K u := (rfl)

def mmV (mx : Bool) (x y : Value) (h : AHeap) (K : Value → AHeap → Prop) (_ : Hold K) : Prop := match x, y with
  | .int k a, .int k' b => k = k' ∧ K (.int k (if mx then (if b > a then b else a) else (if b < a then b else a))) h
  | _, _ => False
theorem wpI_mm (mx : Bool) (x y : Operand) : wpI P G (.mm mx x y) ρ h K = mmV mx (evO ρ x) (evO ρ y) h K () := (rfl)
theorem mmV_max (k : IntKind) (a b : Int) : mmV true (.int k a) (.int k b) h K u = mvV (.int k (if b > a then b else a)) h K u := by simp [mmV, mvV]
theorem mmV_min (k : IntKind) (a b : Int) : mmV false (.int k a) (.int k b) h K u = mvV (.int k (if b < a then b else a)) h K u := by simp [mmV, mvV]

theorem wpI_mkfunc (f : Fn) (xs : List Operand) : wpI P G (.mkfunc f xs) ρ h K = K (.func f #[] (xs.map (evO ρ)).toArray) h := (rfl)
theorem wpI_call (f : FuncId) (args : List Operand) : wpI P G (.call f args) ρ h K = ∃ v h', Spec P G f (args.map (evO ρ)) h v h' ∧ K v h' := (rfl)

/-- A call, by the callee's contract. -/
def callV (P : Program) (G : Nat) (f : FuncId) (args : List Value) (h : AHeap) (K : Value → AHeap → Prop) (_ : Hold K) : Prop := ∃ v h', Spec P G f args h v h' ∧ K v h'
theorem wpI_callw (f : FuncId) (args : List Operand) : wpI P G (.callw f args) ρ h K = callV P G f (args.map (evO ρ)) h K () := (rfl)
theorem wpI_call' (f : FuncId) (args : List Operand) : wpI P G (.call f args) ρ h K = callV P G f (args.map (evO ρ)) h K () := (rfl)
def callvV (P : Program) (G : Nat) (f : Value) (args : List Value) (h : AHeap) (K : Value → AHeap → Prop) (_ : Hold K) : Prop := match f with
  | .func (.func g) first captured => goodFn P g = true ∧ callV P G g (first.toList ++ args ++ captured.toList) h K ()
  | _ => False
theorem wpI_callv (f : Operand) (args : List Operand) : wpI P G (.callv f args) ρ h K = callvV P G (evO ρ f) (args.map (evO ρ)) h K () := (rfl)
theorem callvV_func (g : FuncId) (first captured : Array Value) (args : List Value) : callvV P G (.func (.func g) first captured) args h K u = (goodFn P g = true ∧ callV P G g (first.toList ++ args ++ captured.toList) h K ()) := (rfl)

def ifaceV (t : TypeId) (x : Value) (h : AHeap) (K : Value → AHeap → Prop) (_ : Hold K) : Prop := match x with
  | .tuple _ => False
  | v => K (.iface t v) h
def btsV (x : Value) (h : AHeap) (K : Value → AHeap → Prop) (_ : Hold K) : Prop := match x with
  | .slice _ 0 _ => K (.string ByteArray.empty) h
  | .slice (some ⟨b, off, none⟩) (n + 1) _ => match (rds h b off (n + 1)).bind bytesA with
    | some ns => K (.string (bytesS ns)) h
    | none => False
  | _ => False
def xcV (P : Program) (G : Nat) (m : Option String) (f : FuncId) (args : List Value) (h : AHeap) (K : Value → AHeap → Prop) (_ : Hold K) : Prop := ∃ v h', XSpec P G m f args h v h' ∧ K v h'
theorem wpI_xc (m : Option String) (f : FuncId) (args : List Operand) : wpI P G (.xc m f args) ρ h K = xcV P G m f (args.map (evO ρ)) h K () := (rfl)
theorem wpI_bts (x : Operand) : wpI P G (.bts x) ρ h K = btsV (evO ρ x) h K () := (rfl)
theorem wpI_stop : wpI P G .stop ρ h K = False := (rfl)
theorem wpI_mkiface (t : TypeId) (x : Operand) : wpI P G (.mkiface t x) ρ h K = ifaceV t (evO ρ x) h K () := (rfl)

end

section
variable (K : Value → AHeap → Prop) (h : AHeap) (ρ : Nat → Value) (u : Hold K)
def eqsV (ks : List Nat) (neg : Bool) (x y : Value) (h : AHeap) (K : Value → AHeap → Prop) (_ : Hold K) : Prop := match x, y with
  | .agg a, .agg b => optV (eqCells ks a.toList b.toList) (fun r => K (.bool (if neg then !r else r)) h) ()
  | _, _ => False
theorem wpI_eqs (ks : List Nat) (neg : Bool) (x y : Operand) : wpI P G (.eqs ks neg x y) ρ h K = eqsV ks neg (evO ρ x) (evO ρ y) h K () := by
  simp only [wpI]; unfold eqsV; generalize evO ρ x = v; generalize evO ρ y = v'
  split
  · rename_i a b; simp only; cases eqCells ks a.toList b.toList <;> rfl
  · rename_i hne; split
    · rename_i a b; exact (hne a b rfl rfl).elim
    · rfl
theorem eqsV_eq (ks : List Nat) (a b : List Value) : eqsV ks false (.agg ⟨a⟩) (.agg ⟨b⟩) h K u = optV (eqCells ks a b) (fun r => K (.bool r) h) () := (rfl)
theorem eqsV_ne (ks : List Nat) (a b : List Value) : eqsV ks true (.agg ⟨a⟩) (.agg ⟨b⟩) h K u = optV (eqCells ks a b) (fun r => K (.bool (!r)) h) () := (rfl)

def eqnV (kd : Nat) (neg : Bool) (x : Value) (h : AHeap) (K : Value → AHeap → Prop) (_ : Hold K) : Prop := optV (nilOf kd x) (fun r => K (.bool (if neg then !r else r)) h) ()
theorem wpI_eqn (kd : Nat) (neg : Bool) (x : Operand) : wpI P G (.eqn kd neg x) ρ h K = eqnV kd neg (evO ρ x) h K () := by
  simp only [wpI]; unfold eqnV; generalize evO ρ x = v
  cases nilOf kd v <;> rfl
theorem eqnV_eq (kd : Nat) (x : Value) : eqnV kd false x h K u = optV (nilOf kd x) (fun r => K (.bool r) h) () := (rfl)
theorem eqnV_ne (kd : Nat) (x : Value) : eqnV kd true x h K u = optV (nilOf kd x) (fun r => K (.bool (!r)) h) () := (rfl)

theorem wpI_mkmap : wpI P G .mkmap ρ h K = K (.map (some h.length)) (h ++ [.map true []]) := (rfl)

def lookupV (kd : Nat) (z : Value) (ok : Bool) (m k : Value) (h : AHeap) (K : Value → AHeap → Prop) (_ : Hold K) : Prop :=
  optV ((mapEs h m).bind (findV kd k)) (fun r => K (lookV z ok r) h) ()
theorem wpI_lookup (kd : Nat) (z : Value) (ok : Bool) (m k : Operand) : wpI P G (.lookup kd z ok m k) ρ h K = lookupV kd z ok (evO ρ m) (evO ρ k) h K () := by
  simp only [wpI]; unfold lookupV; generalize evO ρ m = v; generalize evO ρ k = v'
  cases mapEs h v with
  | none => rfl
  | some es => simp only [Option.bind_some]; cases findV kd v' es <;> rfl

def cpyV (sz : Nat) (x y : Value) (h : AHeap) (K : Value → AHeap → Prop) (_ : Hold K) : Prop := optV (cpyA h sz x y) (fun r => K (.int .i64 r.1) r.2) ()
theorem wpI_cpy (sz : Nat) (x y : Operand) : wpI P G (.cpy sz x y) ρ h K = cpyV sz (evO ρ x) (evO ρ y) h K () := by
  simp only [wpI]; unfold cpyV; generalize evO ρ x = v; generalize evO ρ y = v'
  cases cpyA h sz v v' <;> rfl
def clrV (sz : Nat) (z : List Value) (x : Value) (h : AHeap) (K : Value → AHeap → Prop) (_ : Hold K) : Prop := optV (clrA h sz z x) (fun h' => K undef h') ()
theorem wpI_clr (sz : Nat) (z : List Value) (x : Operand) : wpI P G (.clr sz z x) ρ h K = clrV sz z (evO ρ x) h K () := by
  simp only [wpI]; unfold clrV; generalize evO ρ x = v
  cases clrA h sz z v <;> rfl

def mapAt (h : AHeap) (b : Nat) : Option (List (Value × Value)) := match h[b]? with
  | some (.map true es) => some es
  | _ => none
def mapsetV (kd : Nat) (m k v : Value) (h : AHeap) (K : Value → AHeap → Prop) (_ : Hold K) : Prop := match m with
  | .map (some b) => optV ((mapAt h b).bind (setEs kd k v)) (fun es => K undef (h.set b (.map true es))) ()
  | _ => False
theorem wpI_mapset (kd : Nat) (m k v : Operand) : wpI P G (.mapset kd m k v) ρ h K = mapsetV kd (evO ρ m) (evO ρ k) (evO ρ v) h K () := by
  simp only [wpI]; unfold mapsetV mapAt; generalize evO ρ m = vm; generalize evO ρ k = vk; generalize evO ρ v = vv
  cases vm with
  | map r =>
    cases r with
    | none => rfl
    | some b =>
      simp only
      cases h[b]? with
      | none => rfl
      | some o =>
        cases o with
        | dead => rfl
        | row => rfl
        | map rw es =>
          cases rw
          · rfl
          · simp only [Option.bind_some]; cases setEs kd vk vv es <;> rfl
  | _ => rfl
theorem mapsetV_map (kd b : Nat) (k v : Value) : mapsetV kd (.map (some b)) k v h K u = optV ((mapAt h b).bind (setEs kd k v)) (fun es => K undef (h.set b (.map true es))) () := (rfl)

def lenmV (m : Value) (h : AHeap) (K : Value → AHeap → Prop) (_ : Hold K) : Prop := optV (mapEs h m) (fun es => K (.int .i64 es.length) h) ()
theorem wpI_lenm (m : Operand) : wpI P G (.lenm m) ρ h K = lenmV (evO ρ m) h K () := by
  simp only [wpI]; unfold lenmV; generalize evO ρ m = v
  cases mapEs h v <;> rfl

def ixvV (agg : Bool) (len sz : Nat) (x i : Value) (h : AHeap) (K : Value → AHeap → Prop) (_ : Hold K) : Prop := match x, i with
  | .agg cs, .int _ n => (0 ≤ n ∧ n < len) ∧ n.toNat * sz + sz ≤ cs.size ∧ optV (aggOf agg ((cs.toList.drop (n.toNat * sz)).take sz)) (fun v => K v h) ()
  | _, _ => False
theorem wpI_ixv (agg : Bool) (len sz : Nat) (x i : Operand) : wpI P G (.ixv agg len sz x i) ρ h K = ixvV agg len sz (evO ρ x) (evO ρ i) h K () := by
  simp only [wpI]; unfold ixvV; generalize evO ρ x = v; generalize evO ρ i = v'
  split
  · rename_i cs _ n; simp only; cases aggOf agg ((cs.toList.drop (n.toNat * sz)).take sz) <;> rfl
  · rename_i hne; split
    · rename_i cs k n; exact (hne cs k n rfl rfl).elim
    · rfl
theorem ixvV_agg (agg : Bool) (len sz : Nat) (cs : Array Value) (k : IntKind) (n : Int) : ixvV agg len sz (.agg cs) (.int k n) h K u = ((0 ≤ n ∧ n < len) ∧ n.toNat * sz + sz ≤ cs.size ∧ optV (aggOf agg ((cs.toList.drop (n.toNat * sz)).take sz)) (fun v => K v h) ()) := (rfl)

def ixstrV (x i : Value) (h : AHeap) (K : Value → AHeap → Prop) (_ : Hold K) : Prop := match x, i with
  | .string s, .int _ n => 0 ≤ n ∧ optV s[n.toNat]? (fun b => K (.int .u8 b.toNat) h) ()
  | _, _ => False
theorem wpI_ixstr (x i : Operand) : wpI P G (.ixstr x i) ρ h K = ixstrV (evO ρ x) (evO ρ i) h K () := by
  simp only [wpI]; unfold ixstrV; generalize evO ρ x = v; generalize evO ρ i = v'
  split
  · rename_i s _ n; simp only; cases s[n.toNat]? <;> rfl
  · rename_i hne; split
    · rename_i s k n; exact (hne s k n rfl rfl).elim
    · rfl
theorem ixstrV_str (s : ByteArray) (k : IntKind) (n : Int) : ixstrV (.string s) (.int k n) h K u = (0 ≤ n ∧ optV s[n.toNat]? (fun b => K (.int .u8 b.toNat) h) ()) := (rfl)

def slstrV (x : Value) (lo hi : Option (Option Int)) (h : AHeap) (K : Value → AHeap → Prop) (_ : Hold K) : Prop := match x, lo, hi with
  | .string s, some l, some u => (0 ≤ l.getD 0 ∧ l.getD 0 ≤ u.getD s.size ∧ u.getD s.size ≤ s.size) ∧ K (.string (s.extract (l.getD 0).toNat (u.getD s.size).toNat)) h
  | _, _, _ => False
theorem wpI_slstr (x : Operand) (lo hi : Option Operand) : wpI P G (.slstr x lo hi) ρ h K = slstrV (evO ρ x) (intO (lo.map (evO ρ))) (intO (hi.map (evO ρ))) h K () := (rfl)
theorem slstrV_str (s : ByteArray) (l v : Option Int) : slstrV (.string s) (some l) (some v) h K u = ((0 ≤ l.getD 0 ∧ l.getD 0 ≤ v.getD s.size ∧ v.getD s.size ≤ s.size) ∧ K (.string (s.extract (l.getD 0).toNat (v.getD s.size).toNat)) h) := (rfl)

def slaV (len sz : Nat) (x : Value) (lo hi : Option (Option Int)) (h : AHeap) (K : Value → AHeap → Prop) (_ : Hold K) : Prop := match x, lo, hi with
  | .pointer (some ⟨b, o, none⟩), some l, some u => (0 ≤ l.getD 0 ∧ l.getD 0 ≤ u.getD len ∧ u.getD len ≤ len) ∧ slaOK h b ∧
        K (.slice (some ⟨b, if (l.getD 0).toNat = len then o else o + (l.getD 0).toNat * sz, none⟩) ((u.getD len).toNat - (l.getD 0).toNat) (len - (l.getD 0).toNat)) h
  | _, _, _ => False
theorem wpI_sla (len sz : Nat) (x : Operand) (lo hi : Option Operand) : wpI P G (.sla len sz x lo hi) ρ h K = slaV len sz (evO ρ x) (intO (lo.map (evO ρ))) (intO (hi.map (evO ρ))) h K () := (rfl)
theorem slaV_ptr (len sz b o : Nat) (l v : Option Int) : slaV len sz (.pointer (some ⟨b, o, none⟩)) (some l) (some v) h K u = ((0 ≤ l.getD 0 ∧ l.getD 0 ≤ v.getD len ∧ v.getD len ≤ len) ∧ slaOK h b ∧
        K (.slice (some ⟨b, if (l.getD 0).toNat = len then o else o + (l.getD 0).toNat * sz, none⟩) ((v.getD len).toNat - (l.getD 0).toNat) (len - (l.getD 0).toNat)) h) := (rfl)
end

theorem eqCells_nil : eqCells [] [] [] = some true := rfl
theorem eqCells_cons (k : Nat) (ks : List Nat) (x y : Value) (a b : List Value) : eqCells (k :: ks) (x :: a) (y :: b) = (keyEq k x y).bind fun r => (eqCells ks a b).map (r && ·) := rfl
theorem keyEqI (k : IntKind) (a b : Int) : keyEq 0 (.int k a) (.int k b) = some (a == b) := by simp [keyEq]
theorem keyEqS (a b : ByteArray) : keyEq 1 (.string a) (.string b) = some (a.toList == b.toList) := rfl
theorem keyEqB (a b : Bool) : keyEq 2 (.bool a) (.bool b) = some (a == b) := rfl
theorem nilOf_p0 : nilOf 0 (.pointer none) = some true := rfl
theorem nilOf_p1 (a : Addr) : nilOf 0 (.pointer (some a)) = some false := rfl
theorem nilOf_s0 (n c : Nat) : nilOf 1 (.slice none n c) = some true := rfl
theorem nilOf_s1 (a : Addr) (n c : Nat) : nilOf 1 (.slice (some a) n c) = some false := rfl
theorem nilOf_m0 : nilOf 2 (.map none) = some true := rfl
theorem nilOf_m1 (a : Nat) : nilOf 2 (.map (some a)) = some false := rfl
theorem nilOf_f0 : nilOf 3 .nilFunc = some true := rfl
theorem nilOf_f1 (f : Fn) (a b : Array Value) : nilOf 3 (.func f a b) = some false := rfl
theorem nilOf_i0 : nilOf 4 .nilIface = some true := rfl
theorem nilOf_i1 (t : TypeId) (v : Value) : nilOf 4 (.iface t v) = some false := rfl

theorem callV_of {f : FuncId} {args : List Value} {h h' : AHeap} {v : Value} {K : Value → AHeap → Prop} (hs : Spec P G f args h v h') (hk : K v h') {u : Hold K} : callV P G f args h K u := ⟨v, h', hs, hk⟩

/-! ### append -/
def appV (sz bytes : Nat) (x : Value) (src : Option (Nat × List Value)) (h : AHeap) (K : Value → AHeap → Prop) (_ : Hold K) : Prop := match x, src with
  | .slice none 0 0, some (n, vs) =>
      vs.all oneA = true ∧ room n bytes ∧
        if n = 0 then K (.slice none 0 0) h else K (.slice (some ⟨h.length, 0, none⟩) n n) (h ++ [.row (.grow sz) vs])
  | .slice (some ⟨b, off, none⟩) len cap, some (n, vs) =>
      vs.all oneA = true ∧ room (len + n) bytes ∧ len ≤ cap ∧
        match h[b]? with
        | some (.row (.grow s2) cells) =>
          s2 = sz ∧
            if len + n ≤ cap then off + (len + n) * sz ≤ cells.length ∧ K (.slice (some ⟨b, off, none⟩) (len + n) cap) (h.set b (.row (.grow s2) (setC cells (off + len * sz) vs)))
            else off + len * sz ≤ cells.length ∧ K (.slice (some ⟨h.length, 0, none⟩) (len + n) (len + n)) (h.set b .dead ++ [.row (.grow sz) ((cells.drop off).take (len * sz) ++ vs)])
        | some (.row _ cells) => cap < len + n ∧ off + len * sz ≤ cells.length ∧ K (.slice (some ⟨h.length, 0, none⟩) (len + n) (len + n)) (h ++ [.row (.grow sz) ((cells.drop off).take (len * sz) ++ vs)])
        | _ => False
  | _, _ => False
theorem wpI_app (K : Value → AHeap → Prop) (h : AHeap) (ρ : Nat → Value) (str : Bool) (sz bytes : Nat) (x y : Operand) : wpI P G (.app str sz bytes x y) ρ h K = appV sz bytes (evO ρ x) (appSrc h sz str (evO ρ y)) h K () := by
  simp only [wpI, appV]
  rfl
theorem appV_nil (K : Value → AHeap → Prop) (u : Hold K) (h : AHeap) (sz bytes n : Nat) (vs : List Value) : appV sz bytes (.slice none 0 0) (some (n, vs)) h K u =
    (vs.all oneA = true ∧ room n bytes ∧
        if n = 0 then K (.slice none 0 0) h else K (.slice (some ⟨h.length, 0, none⟩) n n) (h ++ [.row (.grow sz) vs])) := (rfl)
/-- The end of a row that may grow and has no room to spare that is known of. -/
theorem appV_grow (K : Value → AHeap → Prop) (u : Hold K) {h : AHeap} {b sz : Nat} {cells : List Value} (hb : h[b]? = some (.row (.grow sz) cells)) (bytes off len n : Nat) (vs : List Value) (hn : 0 < n) : appV sz bytes (.slice (some ⟨b, off, none⟩) len len) (some (n, vs)) h K u =
    (vs.all oneA = true ∧ room (len + n) bytes ∧ off + len * sz ≤ cells.length ∧
      K (.slice (some ⟨h.length, 0, none⟩) (len + n) (len + n)) (h.set b .dead ++ [.row (.grow sz) ((cells.drop off).take (len * sz) ++ vs)])) := by
  have e : ¬ (len + n ≤ len) := by omega
  simp only [appV, hb, e, if_false, Nat.le_refl, true_and]

/-! ### lists of instructions -/
def gdV (v : Value) (want : Bool) (A B D : Prop) : Prop := match v with
  | .bool b => (b = want → A) ∧ (b = !want → B)
  | .complex _ _ _ => D
  | _ => False
theorem gdV_tt (A B D : Prop) : gdV (.bool true) true A B D = A := by simp [gdV]
theorem gdV_tf (A B D : Prop) : gdV (.bool true) false A B D = B := by simp [gdV]
theorem gdV_ft (A B D : Prop) : gdV (.bool false) true A B D = B := by simp [gdV]
theorem gdV_ff (A B D : Prop) : gdV (.bool false) false A B D = A := by simp [gdV]
theorem gdV_c (k : FloatKind) (a b : Nat) (w : Bool) (A B D : Prop) : gdV (.complex k a b) w A B D = D := (rfl)
theorem gdV_t (b : Bool) (A B D : Prop) : gdV (.bool b) true A B D = ((b = true → A) ∧ (b = false → B)) := (rfl)
theorem gdV_f (b : Bool) (A B D : Prop) : gdV (.bool b) false A B D = ((b = false → A) ∧ (b = true → B)) := (rfl)
theorem gdV_dt (p : Prop) [Decidable p] (A B D : Prop) : gdV (.bool (decide p)) true A B D = ((p → A) ∧ (¬ p → B)) := by simp [gdV]
theorem gdV_df (p : Prop) [Decidable p] (A B D : Prop) : gdV (.bool (decide p)) false A B D = ((¬ p → A) ∧ (p → B)) := by simp [gdV]
theorem gdV_et (a b : Int) (A B D : Prop) : gdV (.bool (a == b)) true A B D = ((a = b → A) ∧ (a ≠ b → B)) := by simp [gdV]
theorem gdV_ef (a b : Int) (A B D : Prop) : gdV (.bool (a == b)) false A B D = ((a ≠ b → A) ∧ (a = b → B)) := by simp [gdV]
theorem gdV_nt (a b : Int) (A B D : Prop) : gdV (.bool (a != b)) true A B D = ((a ≠ b → A) ∧ (a = b → B)) := by simp [gdV]
theorem gdV_nf (a b : Int) (A B D : Prop) : gdV (.bool (a != b)) false A B D = ((a = b → A) ∧ (a ≠ b → B)) := by simp [gdV]
@[congr] theorem gdV_cg {v v' : Value} {w : Bool} {A B D : Prop} (h : v = v') : gdV v w A B D = gdV v' w A B D := by rw [h]

theorem wpL2_nil (e : Env) (h : AHeap) (K : Env → AHeap → Prop) : wpL2 P G [] e h K = K e h := (rfl)
theorem wpL2_none (d : Option Nat) (i : I) (r : List GI) (e : Env) (h : AHeap) (K : Env → AHeap → Prop) : wpL2 P G (⟨d, i, none⟩ :: r) e h K = wpI P G i (look e) h fun v h' => wpL2 P G r (putE e d v) h' K := (rfl)
theorem wpL2_some (d : Option Nat) (i : I) (s : Nat) (w : Bool) (r : List GI) (e : Env) (h : AHeap) (K : Env → AHeap → Prop) : wpL2 P G (⟨d, i, some (s, w)⟩ :: r) e h K =
    gdV (look e s) w (wpI P G i (look ((s, .bool w) :: e)) h fun v h' => wpL2 P G r (putE ((s, .bool w) :: e) d v) h' K) (wpL2 P G r (putE ((s, .bool (!w)) :: e) d (.complex .f32 0 0)) h K) (wpL2 P G r (putE e d (.complex .f32 0 0)) h K) := by
  simp only [wpL2]
  split <;> simp_all [gdV]
theorem wpD2_nil (e : Env) (h : AHeap) (K : Env → AHeap → Prop) : wpD2 P G [] e h K = K e h := (rfl)
theorem wpD2_none (d : Option Nat) (i : I) (r : List GI) (e : Env) (h : AHeap) (K : Env → AHeap → Prop) : wpD2 P G (⟨d, i, none⟩ :: r) e h K = wpI P G i (look e) h fun v h' => qt i h h' ∧ wpD2 P G r (putE e d v) h' K := (rfl)
theorem wpD2_some (d : Option Nat) (i : I) (s : Nat) (w : Bool) (r : List GI) (e : Env) (h : AHeap) (K : Env → AHeap → Prop) : wpD2 P G (⟨d, i, some (s, w)⟩ :: r) e h K =
    gdV (look e s) w (wpI P G i (look ((s, .bool w) :: e)) h fun v h' => qt i h h' ∧ wpD2 P G r (putE ((s, .bool w) :: e) d v) h' K) (wpD2 P G r (putE ((s, .bool (!w)) :: e) d (.complex .f32 0 0)) h K) (wpD2 P G r (putE e d (.complex .f32 0 0)) h K) := by
  simp only [wpD2]
  split <;> simp_all [gdV]
theorem putE_none (e : Env) (v : Value) : putE e none v = e := rfl
theorem putE_some (e : Env) (d : Nat) (v : Value) : putE e (some d) v = (d, v) :: e := rfl
theorem look_nil (t : Nat) : look [] t = .tuple #[] := rfl
theorem look_cons (k : Nat) (v : Value) (r : Env) (t : Nat) : look ((k, v) :: r) t = if k = t then v else look r t := rfl
theorem sel_nil (e : Env) : sel [] e = [] := rfl
theorem sel_cons (t : Nat) (r : List Nat) (e : Env) : sel (t :: r) e = (t, look e t) :: sel r e := rfl
theorem evO_tmp (ρ : Nat → Value) (t : Nat) : evO ρ (.tmp t) = ρ t := rfl
theorem evO_const (ρ : Nat → Value) (v : Value) : evO ρ (.const v) = v := rfl
theorem evO_func (ρ : Nat → Value) (f : FuncId) : evO ρ (.func f) = .func (.func f) #[] #[] := rfl
theorem evO_global (ρ : Nat → Value) (g : Nat) : evO ρ (.global g) = .pointer (some ⟨g, 0, none⟩) := rfl

theorem qt_self (i : I) (h : AHeap) : qt i h h = True := by
  unfold qt; split
  · exact eq_true ⟨[], by simp⟩
  · rfl
theorem qt_app (i : I) (h g : AHeap) : qt i h (h ++ g) = True := by
  unfold qt; split <;> simp
theorem qt_pre (i : I) (h a b : AHeap) : qt i (h ++ a) (h ++ b) = qt i a b := by
  unfold qt; split
  · apply propext
    constructor
    · rintro ⟨g, e⟩; rw [List.append_assoc] at e; exact ⟨g, List.append_cancel_left e⟩
    · rintro ⟨g, e⟩; exact ⟨g, by rw [e, List.append_assoc]⟩
  · rfl
theorem qt_cons (i : I) (o : AObj) (a b : AHeap) : qt i (o :: a) (o :: b) = qt i a b := qt_pre i [o] a b
theorem qt_nil (i : I) (b : AHeap) : qt i [] b = True := qt_app i [] b
theorem qt_store (n : Nat) (a x : Operand) (h h' : AHeap) : qt (.store n a x) h h' = True := by unfold qt; simp [kindI]
theorem qt_callw (f : FuncId) (args : List Operand) (h h' : AHeap) : qt (.callw f args) h h' = True := by unfold qt; simp [kindI]
theorem qt_apd (str : Bool) (sz by_ : Nat) (a x : Operand) (h h' : AHeap) : qt (.app str sz by_ a x) h h' = True := by unfold qt; simp [kindI]
theorem qt_cpy (sz : Nat) (x y : Operand) (h h' : AHeap) : qt (.cpy sz x y) h h' = True := by unfold qt; simp [kindI]
theorem qt_clr (sz : Nat) (z : List Value) (x : Operand) (h h' : AHeap) : qt (.clr sz z x) h h' = True := by unfold qt; simp [kindI]
theorem qt_mapset (kd : Nat) (a x y : Operand) (h h' : AHeap) : qt (.mapset kd a x y) h h' = True := by unfold qt; simp [kindI]
theorem qt_app2 (i : I) (h a b : AHeap) : qt i (h ++ a) (h ++ (a ++ b)) = True := by
  rw [← List.append_assoc]; exact qt_app _ _ _

/-! ### code -/
theorem wpC_skip (e : Env) (h : AHeap) (Q : Post) : wpC P G .skip e h Q = Q .normal e h := (rfl)
def nextV (e : Env) (h : AHeap) (Q : Post) (_ : Hold Q) : Prop := Q .normal e h
theorem nextV_go (e : Env) (h : AHeap) (Q : Post) (u : Hold Q) : nextV e h Q u = Q .normal e h := (rfl)
theorem wpC_region (keep : List Nat) (ops : List GI) (e : Env) (h : AHeap) (Q : Post) : wpC P G (.region keep ops) e h Q = wpL2 P G ops e h fun e' h' => nextV (sel keep e') h' Q () := (rfl)
theorem wpC_draw (keep : List Nat) (ops : List GI) (e : Env) (h : AHeap) (Q : Post) : wpC P G (.draw keep ops) e h Q = wpD2 P G ops e h fun e' h' => nextV (sel keep e') h' Q () := (rfl)
/-- A region in each order that may be: all come to one end. -/
def anyV (P : Program) (G : Nat) (keep : List Nat) (ops : List GI) (preds : List (List Nat)) (e : Env) (h : AHeap) (Q : Post) (_ : Hold Q) : Prop :=
  ∃ e1 h1, wpA P G ops preds ops.length (List.replicate ops.length false) e h (fun e' h' => SameN h e1 h1 (sel keep e') h') ∧ Q .normal e1 h1
theorem anyV_of {keep : List Nat} {ops : List GI} {preds : List (List Nat)} {e : Env} {h : AHeap} {Q : Post} {u : Hold Q} (e1 : Env) (h1 : AHeap) (ha : wpA P G ops preds ops.length (List.replicate ops.length false) e h (fun e' h' => sel keep e' = e1 ∧ h' = h1)) (hq : Q .normal e1 h1) : anyV P G keep ops preds e h Q u := ⟨e1, h1, wpA_mono _ (fun _ _ q => .inl q) ha, hq⟩
theorem wpC_seq (a b : C) (e : Env) (h : AHeap) (Q : Post) : wpC P G (.seq a b) e h Q = wpC P G a e h (thenC (fun e' h' => wpC P G b e' h' Q) Q) := (rfl)
def condV (v : Value) (A B : Prop) (_ : Hold A) (_ : Hold B) : Prop := match v with
  | .bool t => (t = true → A) ∧ (t = false → B)
  | _ => False
theorem wpC_cond (c : Operand) (a b : C) (e : Env) (h : AHeap) (Q : Post) : wpC P G (.cond c a b) e h Q = condV (evO (look e) c) (wpC P G a e h Q) (wpC P G b e h Q) () () := (rfl)
theorem condV_true (A B : Prop) (u : Hold A) (w : Hold B) : condV (.bool true) A B u w = A := by simp [condV]
theorem condV_false (A B : Prop) (u : Hold A) (w : Hold B) : condV (.bool false) A B u w = B := by simp [condV]
theorem wpC_block (id : Nat) (a : C) (e : Env) (h : AHeap) (Q : Post) : wpC P G (.block id a) e h Q = wpC P G a e h (blockC id Q) := (rfl)
theorem wpC_exit (id : Nat) (e : Env) (h : AHeap) (Q : Post) : wpC P G (.exit id) e h Q = Q (.exit id) e h := (rfl)
theorem wpC_ret (e : Env) (h : AHeap) (Q : Post) : wpC P G .ret e h Q = Q .ret e h := (rfl)
theorem thenC_normal (next : Env → AHeap → Prop) (Q : Post) (e : Env) (h : AHeap) : thenC next Q .normal e h = next e h := (rfl)
theorem thenC_exit (next : Env → AHeap → Prop) (Q : Post) (i : Nat) (e : Env) (h : AHeap) : thenC next Q (.exit i) e h = Q (.exit i) e h := (rfl)
theorem thenC_ret (next : Env → AHeap → Prop) (Q : Post) (e : Env) (h : AHeap) : thenC next Q .ret e h = Q .ret e h := (rfl)
theorem blockC_normal (id : Nat) (Q : Post) (e : Env) (h : AHeap) : blockC id Q .normal e h = Q .normal e h := (rfl)
theorem blockC_ret (id : Nat) (Q : Post) (e : Env) (h : AHeap) : blockC id Q .ret e h = Q .ret e h := (rfl)
theorem blockC_exit (id i : Nat) (Q : Post) (e : Env) (h : AHeap) : blockC id Q (.exit i) e h = if i = id then Q .normal e h else Q (.exit i) e h := (rfl)

/-- How a function ends. -/
def retQ (rs : List RV) (h : AHeap) (v : Value) (h' : AHeap) : Post := fun x e h'' => (x = .normal ∨ x = .ret) ∧ ∃ vs, resA rs e h'' = some vs ∧ Fin h v h' (outV vs) h''
theorem retQ_ret (rs : List RV) (h : AHeap) (v : Value) (h' : AHeap) (e : Env) (h'' : AHeap) : retQ rs h v h' .ret e h'' = optV (resA rs e h'') (fun vs => Fin h v h' (outV vs) h'') () := by
  unfold retQ optV
  cases resA rs e h'' <;> simp
theorem retQ_normal (rs : List RV) (h : AHeap) (v : Value) (h' : AHeap) (e : Env) (h'' : AHeap) : retQ rs h v h' .normal e h'' = optV (resA rs e h'') (fun vs => Fin h v h' (outV vs) h'') () := by
  unfold retQ optV
  cases resA rs e h'' <;> simp
theorem resA_nil (e : Env) (h : AHeap) : resA [] e h = some [] := rfl
theorem resA_cons (r : RV) (rs : List RV) (e : Env) (h : AHeap) : resA (r :: rs) e h = (resA1 e h r).bind fun v => (resA rs e h).bind fun vs => some (v :: vs) := rfl
theorem resA1_tmp (e : Env) (h : AHeap) (t : Nat) : resA1 e h (.tmp t) = some (look e t) := rfl
def cellV (v : Value) (h : AHeap) (agg : Bool) (n : Nat) : Option Value := match v with
  | .pointer (some ⟨b, off, none⟩) => (rds h b off n).bind (aggOf agg)
  | _ => none
theorem resA1_cell (e : Env) (h : AHeap) (t : Nat) (agg : Bool) (n : Nat) : resA1 e h (.cell t agg n) = cellV (look e t) h agg n := rfl
theorem cellV_ptr (b off : Nat) (h : AHeap) (agg : Bool) (n : Nat) : cellV (.pointer (some ⟨b, off, none⟩)) h agg n = (rds h b off n).bind (aggOf agg) := rfl
theorem Fin.sc {h g : AHeap} {v v' : Value} (hv : scalarB v = true) (e : v = v') : Fin h v h v' (h ++ g) := e ▸ Fin.scalar hv g
theorem Fin.sc0 {h : AHeap} {v v' : Value} (e : v = v') : Fin h v h v' h := .inl ⟨e, rfl⟩
/-- Several results, none of them a place. -/
theorem Fin.tup {h g : AHeap} {l l' : List Value} (hv : l.all scalarB = true) (e : l = l') : Fin h (.tuple ⟨l⟩) h (.tuple ⟨l'⟩) (h ++ g) := by
  subst e
  refine Fin.plain (.tuple rfl fun i => ?_) g
  cases q : l[i]? with
  | none => simp [q]; exact .any _
  | some v => simp [q]; exact .scalar (List.all_eq_true.1 hv v (List.mem_of_getElem? q))
theorem Fin.agg {h g : AHeap} {l l' : List Value} (hv : l.all scalarB = true) (e : l = l') : Fin h (.agg ⟨l⟩) h (.agg ⟨l'⟩) (h ++ g) := by
  subst e
  refine Fin.plain (.agg rfl fun i => ?_) g
  cases q : l[i]? with
  | none => simp [q]; exact .any _
  | some v => simp [q]; exact .scalar (List.all_eq_true.1 hv v (List.mem_of_getElem? q))
theorem outV_one (v : Value) : outV [v] = v := (rfl)
theorem outV_two (a b : Value) : outV [a, b] = .tuple #[a, b] := (rfl)
theorem outV_three (a b c : Value) : outV [a, b, c] = .tuple #[a, b, c] := (rfl)

/-! ### Blocks behind a heap that is not known -/
theorem get_app (h l : AHeap) (k : Nat) : (h ++ l)[h.length + k]? = l[k]? := by
  rw [List.getElem?_append_right (by omega)]; congr 1; omega
theorem get_app0 (h l : AHeap) : (h ++ l)[h.length]? = l[0]? := get_app h l 0
theorem rds_app (h l : AHeap) (k off n : Nat) : rds (h ++ l) (h.length + k) off n = rds l k off n := by
  unfold rds; rw [get_app]
theorem rds_app0 (h l : AHeap) (off n : Nat) : rds (h ++ l) h.length off n = rds l 0 off n := rds_app h l 0 off n
theorem rds_zero (m : Mode) (cells : List Value) (l : AHeap) (off n : Nat) : rds (.row m cells :: l) 0 off n = if off + n ≤ cells.length then some ((cells.drop off).take n) else none := rfl
theorem rds_succ (o : AObj) (l : AHeap) (k off n : Nat) : rds (o :: l) (k + 1) off n = rds l k off n := rfl
theorem rds_1 (o : AObj) (l : AHeap) (off n : Nat) : rds (o :: l) 1 off n = rds l 0 off n := rfl
theorem rds_2 (o p : AObj) (l : AHeap) (off n : Nat) : rds (o :: p :: l) 2 off n = rds l 0 off n := rfl
theorem rds_3 (o p q : AObj) (l : AHeap) (off n : Nat) : rds (o :: p :: q :: l) 3 off n = rds l 0 off n := rfl
theorem rds_old {h : AHeap} {b off n : Nat} {vs : List Value} (k : rds h b off n = some vs) (l : AHeap) : rds (h ++ l) b off n = some vs := by
  unfold rds at *
  split at k
  · rename_i m cells hb
    rw [List.getElem?_append_left (List.getElem?_eq_some_iff.1 hb).1, hb]
    exact k
  · cases k

theorem len_app (h l : AHeap) : (h ++ l).length = h.length + l.length := List.length_append
theorem set_app (h l : AHeap) (k : Nat) (o : AObj) : (h ++ l).set (h.length + k) o = h ++ l.set k o := by
  rw [List.set_append_right _ _ (by omega)]; congr 2; omega
theorem set_app0 (h l : AHeap) (o : AObj) : (h ++ l).set h.length o = h ++ l.set 0 o := set_app h l 0 o
theorem wrs_app (h l : AHeap) (k off : Nat) (vs : List Value) : wrs (h ++ l) (h.length + k) off vs = (wrs l k off vs).map (h ++ ·) := by
  unfold wrs
  rw [get_app]
  generalize l[k]? = q
  cases q with
  | none => rfl
  | some u =>
    cases u with
    | dead => rfl
    | map => rfl
    | row m cells => cases m <;> first | rfl | (simp only; split <;> simp)
theorem wrs_app0 (h l : AHeap) (off : Nat) (vs : List Value) : wrs (h ++ l) h.length off vs = (wrs l 0 off vs).map (h ++ ·) := wrs_app h l 0 off vs
theorem wrs_zero_fix (cells : List Value) (l : AHeap) (off : Nat) (vs : List Value) : wrs (.row .fix cells :: l) 0 off vs = if off + vs.length ≤ cells.length then some (.row .fix (setC cells off vs) :: l) else none := by
  simp [wrs]
theorem wrs_zero_grow (sz : Nat) (cells : List Value) (l : AHeap) (off : Nat) (vs : List Value) : wrs (.row (.grow sz) cells :: l) 0 off vs = if off + vs.length ≤ cells.length then some (.row (.grow sz) (setC cells off vs) :: l) else none := by
  simp [wrs]
theorem wrs_succ (o : AObj) (l : AHeap) (k off : Nat) (vs : List Value) : wrs (o :: l) (k + 1) off vs = (wrs l k off vs).map (o :: ·) := by
  unfold wrs
  simp only [List.getElem?_cons_succ]
  generalize l[k]? = q
  cases q with
  | none => rfl
  | some u =>
    cases u with
    | dead => rfl
    | map => rfl
    | row m cells => cases m <;> first | rfl | (simp only; split <;> simp)
theorem wrs_1 (o : AObj) (l : AHeap) (off : Nat) (vs : List Value) : wrs (o :: l) 1 off vs = (wrs l 0 off vs).map (o :: ·) := wrs_succ o l 0 off vs
theorem wrs_2 (o p : AObj) (l : AHeap) (off : Nat) (vs : List Value) : wrs (o :: p :: l) 2 off vs = (wrs l 0 off vs).map (fun z => o :: p :: z) := by
  rw [show (2 : Nat) = 1 + 1 from rfl, wrs_succ, wrs_1]; simp [Function.comp_def]
theorem wrs_3 (o p q : AObj) (l : AHeap) (off : Nat) (vs : List Value) : wrs (o :: p :: q :: l) 3 off vs = (wrs l 0 off vs).map (fun z => o :: p :: q :: z) := by
  rw [show (3 : Nat) = 2 + 1 from rfl, wrs_succ, wrs_2]; simp [Function.comp_def]
theorem setC_nil (cells : List Value) (off : Nat) : setC cells off [] = cells := rfl
theorem setC_cons (cells : List Value) (off : Nat) (v : Value) (r : List Value) : setC cells off (v :: r) = setC (cells.set off v) (off + 1) r := rfl
theorem undef_eq : undef = .tuple #[] := rfl
theorem aggOf_true (vs : List Value) : aggOf true vs = some (.agg vs.toArray) := rfl
theorem aggOf_one (v : Value) : aggOf false [v] = some v := rfl
theorem oneA_int (k : IntKind) (n : Int) : oneA (.int k n) = true := rfl
theorem oneA_bool (b : Bool) : oneA (.bool b) = true := rfl
theorem oneA_string (b : ByteArray) : oneA (.string b) = true := rfl
theorem oneA_slice (a : Option Addr) (n c : Nat) : oneA (.slice a n c) = true := rfl
theorem oneA_ptr (a : Option Addr) : oneA (.pointer a) = true := rfl
theorem fillA_nil (ρ : Nat → Value) (cells : List Value) : fillA ρ cells [] = some cells := rfl
theorem fillA_cons (ρ : Nat → Value) (cells : List Value) (off sz : Nat) (x : Operand) (r : List (Nat × Nat × Operand)) : fillA ρ cells ((off, sz, x) :: r) =
    (cellsA (evO ρ x)).bind fun vs => if vs.length = sz ∧ off + sz ≤ cells.length then fillA ρ (setC cells off vs) r else none := by
  simp only [fillA]; cases cellsA (evO ρ x) <;> rfl
theorem cellsA_int (k : IntKind) (n : Int) : cellsA (.int k n) = some [.int k n] := rfl
theorem cellsA_bool (b : Bool) : cellsA (.bool b) = some [.bool b] := rfl
theorem cellsA_string (b : ByteArray) : cellsA (.string b) = some [.string b] := rfl
theorem cellsA_slice (a : Option Addr) (n c : Nat) : cellsA (.slice a n c) = some [.slice a n c] := rfl
theorem cellsA_ptr (a : Option Addr) : cellsA (.pointer a) = some [.pointer a] := rfl
theorem cellsA_func (f : Fn) (a b : Array Value) : cellsA (.func f a b) = some [.func f a b] := rfl
theorem cellsA_agg (cs : List Value) : cellsA (.agg ⟨cs⟩) = some cs := rfl
theorem intO_none : intO none = some none := rfl
theorem intO_some (k : IntKind) (n : Int) : intO (some (.int k n)) = some (some n) := rfl
theorem appSrc_nil (h : AHeap) (sz c : Nat) : appSrc h sz false (.slice none 0 c) = some (0, []) := rfl
theorem appSrc_slice (h : AHeap) (sz b off n c : Nat) : appSrc h sz false (.slice (some ⟨b, off, none⟩) (n + 1) c) = (rds h b off ((n + 1) * sz)).map fun vs => (n + 1, vs) := rfl
theorem appSrc_zero (h : AHeap) (sz c : Nat) (a : Addr) : appSrc h sz false (.slice (some a) 0 c) = some (0, []) := rfl
theorem appSrc_one (h : AHeap) (sz b off c : Nat) : appSrc h sz false (.slice (some ⟨b, off, none⟩) 1 c) = (rds h b off (1 * sz)).map fun vs => (1, vs) := rfl

attribute [go_sem] condV_true condV_false gdV_tt gdV_tf gdV_ft gdV_ff gdV_c putE_none putE_some look_nil look_cons sel_nil sel_cons evO_tmp evO_const evO_func evO_global qt_self qt_app qt_pre qt_cons qt_nil qt_store qt_callw qt_apd qt_cpy qt_clr qt_mapset mvV_go nextV_go pickV_true pickV_false loadV_ptr storeV_ptr nilckV_ptr nilckV_iface binV_add binV_sub binV_mul binV_quo binV_rem binV_shl binV_shr binV_and binV_or binV_xor binV_eql binV_neq binV_lss binV_leq binV_gtr binV_geq binV_sadd binV_seql binV_sneq eqbV_eq eqbV_ne unV_neg unV_not convV_int fldV_ptr partV_agg ixsV_slice ixsV_nil ixaV_ptr slV_slice slK_some slK_none mksV_int extV_0 extV_1 extV_2 lenV_slice lenV_string mmV_max mmV_min callvV_func eqsV_eq eqsV_ne eqnV_eq eqnV_ne mapsetV_map ixvV_agg ixstrV_str slstrV_str slaV_ptr eqCells_nil eqCells_cons keyEqI keyEqS keyEqB nilOf_p0 nilOf_p1 nilOf_s0 nilOf_s1 nilOf_m0 nilOf_m1 nilOf_f0 nilOf_f1 nilOf_i0 nilOf_i1 appV_nil resA_nil resA_cons resA1_tmp outV_one outV_two outV_three get_app get_app0 rds_app rds_app0 rds_zero rds_succ rds_1 rds_2 rds_3 len_app set_app set_app0 wrs_app wrs_app0 wrs_zero_fix wrs_zero_grow wrs_1 wrs_2 wrs_3 wrs_succ setC_nil setC_cons undef_eq aggOf_true aggOf_one oneA_int oneA_bool oneA_string oneA_slice oneA_ptr fillA_nil fillA_cons cellsA_int cellsA_bool cellsA_string cellsA_slice cellsA_ptr cellsA_func cellsA_agg intO_none intO_some appSrc_nil appSrc_slice appSrc_zero appSrc_one optV_some optV_none
attribute [go_sem ↓] wpC_skip wpC_region wpC_draw wpC_seq wpC_cond condV_true condV_false wpC_block wpC_exit wpC_ret thenC_normal thenC_exit thenC_ret blockC_normal blockC_ret blockC_exit wpL2_nil wpL2_none wpL2_some wpD2_nil wpD2_none wpD2_some gdV_tt gdV_tf gdV_ft gdV_ff gdV_c wpI_mv wpI_pick wpI_new wpI_box wpI_build wpI_row wpI_load wpI_store wpI_nilck wpI_bin wpI_eqb wpI_un wpI_conv wpI_fld wpI_part wpI_ixs wpI_ixa wpI_sl wpI_mkslice wpI_ext wpI_len wpI_mm wpI_mkfunc wpI_call' wpI_callw wpI_callv wpI_app wpI_eqs wpI_eqn wpI_mkmap wpI_lookup wpI_mapset wpI_lenm wpI_ixv wpI_ixstr wpI_slstr wpI_sla wpI_stop wpI_bts wpI_xc wpI_cpy wpI_clr retQ_ret retQ_normal

attribute [go_sem] resA1_cell cellV_ptr Bool.not_true Bool.not_false true_and and_true forall_const false_imp_iff true_imp_iff List.map_cons List.map_nil List.zipIdx_cons List.zipIdx_nil List.all_cons List.all_nil Bool.and_self List.set_cons_zero List.set_cons_succ Nat.zero_add Nat.add_zero if_true if_false Bool.false_eq_true Bool.true_eq_false List.length_cons List.length_nil List.append_assoc List.cons_append List.nil_append Option.bind_some Option.map_some Option.map_none List.drop_zero List.take_succ_cons List.take_zero List.drop_succ_cons and_self

end Go.Proofs.YtpnpccnbpgckhabGreat.B
