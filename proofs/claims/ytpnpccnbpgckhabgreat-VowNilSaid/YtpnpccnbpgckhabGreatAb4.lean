/-
  Instructions over an abstract heap, and that the model's operations do what they say.
-/
import Derived.Test.YtpnpccnbpgckhabGreatAb3
namespace Go.Proofs.YtpnpccnbpgckhabGreat.B
open Go
set_option linter.unusedVariables false
set_option linter.unusedSimpArgs false
variable {G : Nat} {P : Program} {μ : Ren} {h : AHeap} {w : World}

inductive I where
  | mv (x : Operand)
  | pick (c a b : Operand)
  | new (cells : List Value)
  | box (x : Operand)
  | build (zero : List Value) (parts : List (Nat × Nat × Operand))
  | row (sz len : Nat) (zero : List Value) (parts : List (Nat × Nat × Operand))
  | load (agg : Bool) (n : Nat) (a : Operand)
  | store (n : Nat) (a x : Operand)
  | nilck (x : Operand)
  | bin (op : BinOp) (x y : Operand)
  | eqb (neg : Bool) (x y : Operand)
  | un (op : UnOp) (x : Operand)
  | conv (k : IntKind) (x : Operand)
  | fld (off : Nat) (a : Operand)
  | part (agg : Bool) (off n : Nat) (x : Operand)
  | ixs (sz : Nat) (x i : Operand)
  | ixa (len sz : Nat) (x i : Operand)
  | sl (sz : Nat) (x : Operand) (lo hi : Option Operand)
  | mkslice (sz bytes : Nat) (zero : List Value) (x y : Operand)
  | ext (x : Operand) (i : Nat)
  | len (str : Bool) (x : Operand)
  | app (str : Bool) (sz bytes : Nat) (x y : Operand)
  | mm (mx : Bool) (x y : Operand)
  | mkfunc (f : Fn) (xs : List Operand)
  | mkiface (t : TypeId) (x : Operand)
  | eqs (ks : List Nat) (neg : Bool) (x y : Operand)
  | eqn (kd : Nat) (neg : Bool) (x : Operand)
  | mkmap
  | lookup (kd : Nat) (zero : Value) (ok : Bool) (m k : Operand)
  | mapset (kd : Nat) (m k v : Operand)
  | lenm (m : Operand)
  | ixv (agg : Bool) (len sz : Nat) (x i : Operand)
  | ixstr (x i : Operand)
  | slstr (x : Operand) (lo hi : Option Operand)
  | sla (len sz : Nat) (x : Operand) (lo hi : Option Operand)
  | call (f : FuncId) (args : List Operand)
  | callv (f : Operand) (args : List Operand)
  | stop
  | bts (x : Operand)
  | callw (f : FuncId) (args : List Operand)
  | xc (m : Option String) (f : FuncId) (args : List Operand)
  | cpy (sz : Nat) (x y : Operand)
  | clr (sz : Nat) (zero : List Value) (x : Operand)

def infoOf (P : Program) (t : TypeId) : Option (Nat × Nat) := (P.info? t).map fun i => (i.size, i.bytes)
def isAggD : TypeDesc → Bool
  | .struct _ | .array _ _ => true
  | _ => false
def zeroOf (P : Program) (t : TypeId) : Option (List Value) := ((P.info? t).bind (·.zero)).map fun z => z.cells.toList
def okZero (l : List Value) : Bool := l.all fun v => scalarB v
def goodFn (P : Program) (f : FuncId) : Bool :=
  match P.funcs[f]? with
  | some fn => fn.body.isSome && !(fn.name == "runtime.NumGoroutine")
  | none => false
def okOs (G : Nat) (xs : List Operand) : Bool := xs.all (okO G)
/-- A function without a body: the model's own. -/
def extFn (P : Program) (f : FuncId) : Bool :=
  match P.funcs[f]? with
  | some fn => fn.body.isNone && !(fn.name == "runtime.NumGoroutine")
  | none => false

def fieldsOf (P : Program) (t : TypeId) : Option (List (Nat × Nat)) :=
  match P.underlying t with
  | some (.struct fs) => fs.toList.mapM fun f => (P.info? f.type).map fun i => (f.offset, i.size)
  | _ => none

def partsS (fs : List (Nat × Nat)) (parts : List (Nat × Operand)) : Option (List (Nat × Nat × Operand)) :=
  parts.mapM fun p => (fs[p.1]?).map fun q => (q.1, q.2, p.2)

def flatFs (k : TypeId → Option (List Nat)) : List Field → Nat → Option (List Nat)
  | [], _ => some []
  | f :: r, o => if f.name = "_" then none else if f.offset = o then (k f.type).bind fun ks => (flatFs k r (o + ks.length)).map (ks ++ ·) else none

/-- The kinds of the cells (int, string, bool) of a type whose values are cells without places, all of which '==' asks. -/
def flatK (P : Program) : Nat → TypeId → Option (List Nat)
  | 0, _ => none
  | d + 1, t =>
    ((match P.underlying t with
    | some (.int _) => some [0]
    | some .string => some [1]
    | some .bool => some [2]
    | some (.struct fs) => if P.stoodInHeld t then none else flatFs (flatK P d) fs.toList 0
    | some (.array n e) => (flatK P d e).map fun ks => (List.replicate n ks).flatten
    | _ => none) : Option (List Nat)).bind fun ks => if (infoOf P t).map (·.1) = some ks.length then some ks else none

def kindD : TypeDesc → Option Nat
  | .int _ => some 0
  | .string => some 1
  | .bool => some 2
  | _ => none

def isNilO : Nat → Operand → Bool
  | 0, .const (.pointer none) | 1, .const (.slice none 0 0) | 2, .const (.map none) | 3, .const .nilFunc | 4, .const .nilIface => true
  | _, _ => false

/-- What kind of nil a type has. -/
def nilD : TypeDesc → Option Nat
  | .pointer _ => some 0
  | .slice _ => some 1
  | .map _ _ => some 2
  | .func _ _ _ => some 3
  | .interface _ => some 4
  | _ => none

def resI (P : Program) (G : Nat) (op : Op) : Option I :=
  match op with
  | .move x | .assign x => if okO G x then some (.mv x) else none
  | .pick c a b => if okOs G [c, a, b] then some (.pick c a b) else none
  | .alloc e => do let z ← zeroOf P e; if okZero z then some (.new z) else none
  | .box e x => if okO G x then some (.box x) else none
  | .build t parts =>
    match P.underlying t with
    | some (.struct _) => do
      let z ← zeroOf P t
      let fs ← fieldsOf P t
      let ps ← partsS fs parts.toList
      if okZero z && okOs G (parts.toList.map (·.2)) then some (.build z ps) else none
    | some (.array _ e) => do
      let z ← zeroOf P t
      let (sz, _) ← infoOf P e
      if okZero z && okOs G (parts.toList.map (·.2)) then some (.build z (parts.toList.map fun p => (p.1 * sz, sz, p.2))) else none
    | _ => none
  | .buildSlice t len parts =>
    match P.underlying t with
    | some (.slice e) => do
      let z ← zeroOf P e
      let (sz, _) ← infoOf P e
      if okZero z && okOs G (parts.toList.map (·.2)) && z.length == sz && decide (0 < sz) && decide (len * sz ≤ 2 ^ 24) then some (.row sz len z (parts.toList.map fun p => (p.1 * sz, sz, p.2))) else none
    | _ => none
  | .load t a => do
    let d ← P.underlying t
    let (sz, _) ← infoOf P t
    if okO G a then some (.load (isAggD d) sz a) else none
  | .store t a x => do
    let (sz, _) ← infoOf P t
    if okO G a && okO G x then some (.store sz a x) else none
  | .nilCheck x => if okO G x then some (.nilck x) else none
  | .binOp op t x y _ =>
    if okO G x && okO G y then
      match P.underlying t with
      | some (.int _) | some .string => some (.bin op x y)
      | some .bool => match op with
        | .eql => some (.eqb false x y)
        | .neq => some (.eqb true x y)
        | _ => none
      | some (.struct _) | some (.array _ _) => (flatK P 8 t).bind fun ks => if P.eqGuardType P.depth t then none else (match op with
        | .eql => some (.eqs ks false x y)
        | .neq => some (.eqs ks true x y)
        | _ => none)
      | some d => (nilD d).bind fun kd => match op with
        | .eql => if isNilO kd y then some (.eqn kd false x) else if isNilO kd x then some (.eqn kd false y) else none
        | .neq => if isNilO kd y then some (.eqn kd true x) else if isNilO kd x then some (.eqn kd true y) else none
        | _ => none
      | _ => none
    else none
  | .unOp op _ x => if okO G x then some (.un op x) else none
  | .convert s t x =>
    match P.underlying s, P.underlying t with
    | some (.int _), some (.int k) => if okO G x then some (.conv k x) else none
    | some (.slice e), some .string => match P.underlying e with
      | some (.int .u8) => if okO G x then some (.bts x) else none
      | _ => none
    | _, _ => none
  | .fieldAddr t a f => do
    let fs ← fieldsOf P t
    let q ← fs[f]?
    if okO G a && decide (0 < q.2) then some (.fld q.1 a) else none
  | .field t x f =>
    match P.underlying t with
    | some (.struct fs) => do
      let q ← fs[f]?
      let d ← P.underlying q.type
      let (sz, _) ← infoOf P q.type
      if okO G x then some (.part (isAggD d) q.offset sz x) else none
    | _ => none
  | .indexAddr t x i =>
    match P.underlying t with
    | some (.slice e) => do
      let (sz, _) ← infoOf P e
      if okO G x && okO G i then some (.ixs sz x i) else none
    | some (.array n e) => do
      let (sz, _) ← infoOf P e
      if okO G x && okO G i then some (.ixa n sz x i) else none
    | _ => none
  | .slice t x lo hi none =>
    match P.underlying t with
    | some (.slice e) => do
      let (sz, _) ← infoOf P e
      if okO G x && okOs G lo.toList && okOs G hi.toList then some (.sl sz x lo hi) else none
    | some .string => if okO G x && okOs G lo.toList && okOs G hi.toList then some (.slstr x lo hi) else none
    | some (.array n e) => do
      let (sz, _) ← infoOf P e
      if okO G x && okOs G lo.toList && okOs G hi.toList then some (.sla n sz x lo hi) else none
    | _ => none
  | .makeSlice t l c =>
    match P.underlying t with
    | some (.slice e) => do
      let z ← zeroOf P e
      let (sz, by_) ← infoOf P e
      if okZero z && okO G l && okO G c && z.length == sz && decide (0 < sz) then some (.mkslice sz by_ z l c) else none
    | _ => none
  | .makeMap t none =>
    match P.underlying t with
    | some (.map _ _) => some .mkmap
    | _ => none
  | .lookup t m k ok =>
    match P.underlying t with
    | some (.map kt e) => do
      let d ← P.underlying kt
      let kd ← kindD d
      let z ← (P.info? e).bind (·.zero)
      if okO G m && okO G k && plainB z then some (.lookup kd z ok m k) else none
    | _ => none
  | .mapUpdate t m k v =>
    match P.underlying t with
    | some (.map kt _) => do
      let d ← P.underlying kt
      let kd ← kindD d
      if okO G m && okO G k && okO G v then some (.mapset kd m k v) else none
    | _ => none
  | .index t x i =>
    match P.underlying t with
    | some (.array n e) => do
      let d ← P.underlying e
      let (sz, _) ← infoOf P e
      if okO G x && okO G i then some (.ixv (isAggD d) n sz x i) else none
    | some .string => if okO G x && okO G i then some (.ixstr x i) else none
    | _ => none
  | .extract x i => if okO G x then some (.ext x i) else none
  | .makeFunc f fs cs => if fs.isEmpty && okOs G cs.toList then some (.mkfunc f cs.toList) else none
  | .makeInterface t x =>
    match P.underlying t with
    | some (.interface _) => none
    | some _ => if okO G x then some (.mkiface t x) else none
    | none => none
  | .panic _ => some .stop
  | .call c =>
    match c.callee with
    | .value (.func f) => if okOs G c.args.toList && goodFn P f then some (.call f c.args.toList) else if okOs G c.args.toList && extFn P f then some (.xc none f c.args.toList) else none
    | .invoke r name => if okO G r && okOs G c.args.toList then some (.xc (some name) 0 (r :: c.args.toList)) else none
    | .value f => if okOs G c.args.toList && okO G f then some (.callv f c.args.toList) else none
    | .builtin .len =>
      match c.args.toList, (c.argTypes[0]?).bind (P.underlying ·) with
      | [x], some (.slice _) => if okO G x then some (.len false x) else none
      | [x], some .string => if okO G x then some (.len true x) else none
      | [x], some (.map _ _) => if okO G x then some (.lenm x) else none
      | _, _ => none
    | .builtin .append =>
      match c.args.toList, c.argTypes.toList with
      | [x, y], [t, u] =>
        match P.underlying t, P.underlying u with
        | some (.slice e), some (.slice _) => do
          let (sz, by_) ← infoOf P e
          let z ← zeroOf P e
          if okO G x && okO G y && z.length == sz then some (.app false sz by_ x y) else none
        | some (.slice e), some .string => do
          let (sz, by_) ← infoOf P e
          let z ← zeroOf P e
          if okO G x && okO G y && z.length == sz then some (.app true sz by_ x y) else none
        | _, _ => none
      | _, _ => none
    | .builtin .copy =>
      match c.args.toList, c.argTypes.toList with
      | [x, y], [t, u] =>
        match P.underlying t, P.underlying u with
        | some (.slice e), some (.slice _) => do
          let (sz, _) ← infoOf P e
          if okO G x && okO G y then some (.cpy sz x y) else none
        | _, _ => none
      | _, _ => none
    | .builtin .clear =>
      match c.args.toList, c.argTypes.toList with
      | [x], [t] =>
        match P.underlying t with
        | some (.slice e) => do
          let (sz, _) ← infoOf P e
          let z ← zeroOf P e
          if okO G x && okZero z then some (.clr sz z x) else none
        | _ => none
      | _, _ => none
    | .builtin .max => match c.args.toList with
      | [x, y] => if okO G x && okO G y then some (.mm true x y) else none
      | _ => none
    | .builtin .min => match c.args.toList with
      | [x, y] => if okO G x && okO G y then some (.mm false x y) else none
      | _ => none
    | _ => none
  | _ => none

/-- A function, called: from values that stand for the arguments, it comes to one that stands for v, in a world that holds h'. -/
def Spec (P : Program) (G : Nat) (f : FuncId) (args : List Value) (h : AHeap) (v : Value) (h' : AHeap) : Prop :=
  ∀ μ w (args' : Array Value), Sim G μ h w → VL μ h args args'.toList →
    Calls P f args' w fun e w' => ∃ v' μ', e = .returned v' ∧ VR μ' h' v v' ∧ Step G μ h w μ' h' w'

/-- What a call that is no function of the program's text comes to: the model's own function, or a method behind an interface value (the first argument). -/
def runX (m : Option String) (f : FuncId) (args : Array Value) : Sem Next :=
  match m with
  | none => callFunc f args
  | some name => callMethod (args.getD 0 undef) name (args.extract 1 args.size)
def XSpec (P : Program) (G : Nat) (m : Option String) (f : FuncId) (args : List Value) (h : AHeap) (v : Value) (h' : AHeap) : Prop :=
  ∀ μ w (args' : Array Value), Sim G μ h w → VL μ h args args'.toList → ∀ (o : Oper) (a : Act) (next : Act → World → Prop) (Q : Exit → Act → World → Prop),
    (∀ v' μ' w', VR μ' h' v v' → Step G μ h w μ' h' w' → next (a.put o.dst v') w') → o.upon P a next Q ((runX m f args').run P w)

def fillA (ρ : Nat → Value) : List Value → List (Nat × Nat × Operand) → Option (List Value)
  | cells, [] => some cells
  | cells, (off, sz, x) :: r =>
    match cellsA (evO ρ x) with
    | some vs => if vs.length = sz ∧ off + sz ≤ cells.length then fillA ρ (setC cells off vs) r else none
    | none => none

def binA (op : BinOp) (x y : Value) (K : Value → Prop) : Prop :=
  match op, x, y with
  | .shl, .int k a, .int _ b => 0 ≤ b ∧ K (.int k (k.wrap (a * 2 ^ min b.toNat k.bits)))
  | .shr, .int k a, .int _ b => 0 ≤ b ∧ K (.int k (a.fdiv (2 ^ min b.toNat k.bits)))
  | .add, .int k a, .int k' b => k = k' ∧ K (.int k (k.wrap (a + b)))
  | .sub, .int k a, .int k' b => k = k' ∧ K (.int k (k.wrap (a - b)))
  | .mul, .int k a, .int k' b => k = k' ∧ K (.int k (k.wrap (a * b)))
  | .quo, .int k a, .int k' b => k = k' ∧ b ≠ 0 ∧ K (.int k (k.wrap (a.tdiv b)))
  | .rem, .int k a, .int k' b => k = k' ∧ b ≠ 0 ∧ K (.int k (a.tmod b))
  | .and, .int k a, .int k' b => k = k' ∧ K (.int k (k.wrap (BitVec.ofInt k.bits a &&& BitVec.ofInt k.bits b).toNat))
  | .or, .int k a, .int k' b => k = k' ∧ K (.int k (k.wrap (BitVec.ofInt k.bits a ||| BitVec.ofInt k.bits b).toNat))
  | .xor, .int k a, .int k' b => k = k' ∧ K (.int k (k.wrap (BitVec.ofInt k.bits a ^^^ BitVec.ofInt k.bits b).toNat))
  | .andNot, .int k a, .int k' b => k = k' ∧ K (.int k (k.wrap (BitVec.ofInt k.bits a &&& ~~~ BitVec.ofInt k.bits b).toNat))
  | .eql, .int k a, .int k' b => k = k' ∧ K (.bool (a == b))
  | .neq, .int k a, .int k' b => k = k' ∧ K (.bool (a != b))
  | .lss, .int k a, .int k' b => k = k' ∧ K (.bool (decide (a < b)))
  | .leq, .int k a, .int k' b => k = k' ∧ K (.bool (decide (a ≤ b)))
  | .gtr, .int k a, .int k' b => k = k' ∧ K (.bool (decide (b < a)))
  | .geq, .int k a, .int k' b => k = k' ∧ K (.bool (decide (b ≤ a)))
  | .add, .string a, .string b => (a.size + b.size ≤ 9223372036854775807) ∧ K (.string (a ++ b))
  | .eql, .string a, .string b => K (.bool (a.toList == b.toList))
  | .neq, .string a, .string b => K (.bool (!(a.toList == b.toList)))
  | .lss, .string a, .string b => K (.bool (Op.bytesLess a.toList b.toList))
  | .leq, .string a, .string b => K (.bool (Op.bytesLess a.toList b.toList || a.toList == b.toList))
  | .gtr, .string a, .string b => K (.bool (!(Op.bytesLess a.toList b.toList || a.toList == b.toList)))
  | .geq, .string a, .string b => K (.bool (!(Op.bytesLess a.toList b.toList)))
  | _, _, _ => False

def unA (op : UnOp) (x : Value) (K : Value → Prop) : Prop :=
  match op, x with
  | .neg, .int k n => K (.int k (k.wrap (0 - n)))
  | .not, .bool b => K (.bool (!b))
  | .xor, .int k n => K (.int k (k.wrap (BitVec.ofInt k.bits (if k.signed then -1 else k.max) ^^^ BitVec.ofInt k.bits n).toNat))
  | _, _ => False

def intO : Option Value → Option (Option Int)
  | none => some none
  | some (.int _ n) => some (some n)
  | _ => none

/-- An array that is sliced lies in a block that doesn't grow. -/
def slaOK (h : AHeap) (b : Nat) : Prop :=
  match h[b]? with
  | some (.row .ro _) | some (.row .fix _) => True
  | _ => False

/-- A slice of a row that may grow is sliced by its own elements. -/
def slOK (h : AHeap) (b sz : Nat) : Prop :=
  match h[b]? with
  | some (.row (.grow s2) _) => s2 = sz
  | _ => True

def nilOf : Nat → Value → Option Bool
  | 0, .pointer a => some a.isNone
  | 1, .slice a _ _ => some a.isNone
  | 2, .map r => some r.isNone
  | 3, .nilFunc => some true
  | 3, .func .. => some false
  | 4, .nilIface => some true
  | 4, .iface .. => some false
  | _, _ => none

def keyEq (kd : Nat) (a b : Value) : Option Bool :=
  match kd, a, b with
  | 0, .int k x, .int j y => if k = j then some (x == y) else none
  | 1, .string x, .string y => some (x.toList == y.toList)
  | 2, .bool x, .bool y => some (x == y)
  | _, _, _ => none

def eqCells : List Nat → List Value → List Value → Option Bool
  | [], [], [] => some true
  | k :: ks, x :: xs, y :: ys => (keyEq k x y).bind fun r => (eqCells ks xs ys).map (r && ·)
  | _, _, _ => none

/-- The place of a key among a map's entries. -/
def findIx (kd : Nat) (k : Value) : List (Value × Value) → Option (Option Nat)
  | [] => some none
  | (a, _) :: r => match keyEq kd k a with
    | some true => some (some 0)
    | some false => (findIx kd k r).map fun o => o.map (· + 1)
    | none => none

def mapEs (h : AHeap) : Value → Option (List (Value × Value))
  | .map none => some []
  | .map (some b) => match h[b]? with
    | some (.map _ es) => some es
    | _ => none
  | _ => none

def findV (kd : Nat) (k : Value) (es : List (Value × Value)) : Option (Option Value) :=
  (findIx kd k es).map fun o => o.bind fun i => (es[i]?).map (·.2)

def lookV (zero : Value) (ok : Bool) (r : Option Value) : Value := if ok then .tuple #[r.getD zero, .bool r.isSome] else r.getD zero

def setEs (kd : Nat) (k v : Value) (es : List (Value × Value)) : Option (List (Value × Value)) :=
  (findIx kd k es).map fun o => match o with
    | some i => es.set i (k, v)
    | none => es ++ [(k, v)]

def slK (h : AHeap) (sz l u cap : Nat) (K : Value → AHeap → Prop) : Option Addr → Prop
  | some ⟨b, o, none⟩ => slOK h b sz ∧ K (.slice (some ⟨b, if l < cap then o + l * sz else o, none⟩) (u - l) (cap - l)) h
  | none => cap = 0 ∧ K (.slice none 0 0) h
  | _ => False

/-- What append makes: the elements that were, and those that come. -/
def appSrc (h : AHeap) (sz : Nat) (str : Bool) (y : Value) : Option (Nat × List Value) :=
  match str, y with
  | false, .slice none 0 _ => some (0, [])
  | false, .slice (some _) 0 _ => some (0, [])
  | false, .slice (some ⟨b, off, none⟩) n _ => (rds h b off (n * sz)).map fun vs => (n, vs)
  | true, .string s => if sz = 1 then some (s.size, s.data.toList.map fun b => .int .u8 b.toNat) else none
  | _, _ => none

/-- An append to so many elements is within what Go's memory bears. -/
def room (n bytes : Nat) : Prop := (n + n / 4 + 512) * bytes ≤ 281474976710656 ∧ n ≤ 9223372036854775807

/-- The bytes in some cells. -/
def bytesA : List Value → Option (List Int)
  | [] => some []
  | .int .u8 n :: r => (bytesA r).map (n :: ·)
  | _ => none
def bytesS (ns : List Int) : ByteArray := ns.foldl (fun r n => r.push (UInt8.ofNat n.toNat)) ByteArray.empty

/-- What copy does: how many elements went over, and memory then. -/
def cpyA (h : AHeap) (sz : Nat) : Value → Value → Option (Nat × AHeap)
  | .slice d len _, .slice s n _ =>
    if min n len = 0 then some (0, h) else
    match s, d with
    | some ⟨b, off, none⟩, some ⟨b2, off2, none⟩ => match rds h b off (min n len * sz) with
      | some vs => if vs.all oneA = true then (wrs h b2 off2 vs).map fun h' => (min n len, h') else none
      | none => none
    | _, _ => none
  | _, _ => none
/-- What clear does to a slice. -/
def clrA (h : AHeap) (sz : Nat) (zero : List Value) : Value → Option AHeap
  | .slice _ 0 _ => some h
  | .slice (some ⟨b, off, none⟩) n _ => if zero.all oneA = true then wrs h b off (List.replicate n zero).flatten else none
  | _ => none

def wpI (P : Program) (G : Nat) (i : I) (ρ : Nat → Value) (h : AHeap) (K : Value → AHeap → Prop) : Prop :=
  match i with
  | .mv x => K (evO ρ x) h
  | .pick c a b => match evO ρ c with
    | .bool t => K (if t then evO ρ a else evO ρ b) h
    | _ => False
  | .new cells => K (.pointer (some ⟨h.length, 0, none⟩)) (h ++ [.row .fix cells])
  | .box x => match cellsA (evO ρ x) with
    | some cs => K (.pointer (some ⟨h.length, 0, none⟩)) (h ++ [.row .fix cs])
    | none => False
  | .build zero parts => match fillA ρ zero parts with
    | some cs => K (.agg cs.toArray) h
    | none => False
  | .row sz len zero parts => match fillA ρ ((List.replicate len zero).flatten) parts with
    | some cs => K (.slice (some ⟨h.length, 0, none⟩) len len) (h ++ [.row (.grow sz) cs])
    | none => False
  | .load agg n a => match evO ρ a with
    | .pointer (some ⟨b, off, none⟩) => match (rds h b off n).bind (aggOf agg) with
      | some v => K v h
      | none => False
    | _ => False
  | .store n a x => match evO ρ a, cellsA (evO ρ x) with
    | .pointer (some ⟨b, off, none⟩), some vs => vs.length = n ∧ vs.all oneA = true ∧ match wrs h b off vs with
      | some h' => K undef h'
      | none => False
    | _, _ => False
  | .nilck x => match evO ρ x with
    | .pointer (some a) => K (.pointer (some a)) h
    | .iface t v => K (.iface t v) h
    | _ => False
  | .bin op x y => binA op (evO ρ x) (evO ρ y) (K · h)
  | .eqb neg x y => match evO ρ x, evO ρ y with
    | .bool a, .bool b => K (.bool (if neg then a != b else a == b)) h
    | _, _ => False
  | .un op x => unA op (evO ρ x) (K · h)
  | .conv k x => match evO ρ x with
    | .int _ n => K (.int k (k.wrap n)) h
    | _ => False
  | .fld off a => match evO ρ a with
    | .pointer (some ⟨b, o, none⟩) => K (.pointer (some ⟨b, o + off, none⟩)) h
    | _ => False
  | .part agg off n x => match evO ρ x with
    | .agg cs => off + n ≤ cs.size ∧ match aggOf agg ((cs.toList.drop off).take n) with
      | some v => K v h
      | none => False
    | _ => False
  | .ixs sz x i => match evO ρ x, evO ρ i with
    | .slice (some ⟨b, o, none⟩) len _, .int _ n => (0 ≤ n ∧ n < len) ∧ K (.pointer (some ⟨b, o + n.toNat * sz, none⟩)) h
    | _, _ => False
  | .ixa len sz x i => match evO ρ x, evO ρ i with
    | .pointer (some ⟨b, o, none⟩), .int _ n => (0 ≤ n ∧ n < len) ∧ K (.pointer (some ⟨b, o + n.toNat * sz, none⟩)) h
    | _, _ => False
  | .sl sz x lo hi => match evO ρ x, intO (lo.map (evO ρ)), intO (hi.map (evO ρ)) with
    | .slice a len cap, some l, some u =>
      (0 ≤ l.getD 0 ∧ l.getD 0 ≤ u.getD len ∧ u.getD len ≤ len ∧ len ≤ cap) ∧
        slK h sz (l.getD 0).toNat (u.getD len).toNat cap K a
    | _, _, _ => False
  | .mkslice sz bytes zero x y => match evO ρ x, evO ρ y with
    | .int .i64 l, .int .i64 c => (0 ≤ l ∧ l ≤ c ∧ c ≤ 9223372036854775807 ∧ (bytes : Int) * c ≤ 281474976710656) ∧
      K (.slice (some ⟨h.length, 0, none⟩) l.toNat c.toNat) (h ++ [.row (.grow sz) ((List.replicate c.toNat zero).flatten)])
    | _, _ => False
  | .ext x i => match evO ρ x with
    | .tuple vs => match vs[i]? with
      | some v => K v h
      | none => False
    | _ => False
  | .len str x => match str, evO ρ x with
    | false, .slice _ n _ => K (.int .i64 n) h
    | true, .string s => K (.int .i64 s.size) h
    | _, _ => False
  | .app str sz bytes x y => match evO ρ x, appSrc h sz str (evO ρ y) with
    | .slice none 0 0, some (n, vs) =>
      vs.all oneA = true ∧ room n bytes ∧
        if n = 0 then K (.slice none 0 0) h else K (.slice (some ⟨h.length, 0, none⟩) n n) (h ++ [.row (.grow sz) vs])
    | .slice (some ⟨b, off, none⟩) len cap, some (n, vs) =>
      vs.all oneA = true ∧ room (len + n) bytes ∧ len ≤ cap ∧
        match h[b]? with
        | some (.row (.grow s2) cells) =>
          s2 = sz ∧
            if len + n ≤ cap then off + (len + n) * sz ≤ cells.length ∧ K (.slice (some ⟨b, off, none⟩) (len + n) cap) (h.set b (.row (.grow s2) (setC cells (off + len * sz) vs)))
            else off + len * sz ≤ cells.length ∧ K (.slice (some ⟨h.length, 0, none⟩) (len + n) (len + n)) (h.set b .dead ++ [.row (.grow sz) ((cells.drop off).take (len * sz) ++ vs)])
        | some (.row _ cells) => cap < len + n ∧ off + len * sz ≤ cells.length ∧ K (.slice (some ⟨h.length, 0, none⟩) (len + n) (len + n)) (h ++ [.row (.grow sz) ((cells.drop off).take (len * sz) ++ vs)])
        | _ => False
    | _, _ => False
  | .mm mx x y => match evO ρ x, evO ρ y with
    | .int k a, .int k' b => k = k' ∧ K (.int k (if mx then (if b > a then b else a) else (if b < a then b else a))) h
    | _, _ => False
  | .mkfunc f xs => K (.func f #[] (xs.map (evO ρ)).toArray) h
  | .mkiface t x => match evO ρ x with
    | .tuple _ => False
    | v => K (.iface t v) h
  | .eqs ks neg x y => match evO ρ x, evO ρ y with
    | .agg a, .agg b => match eqCells ks a.toList b.toList with
      | some r => K (.bool (if neg then !r else r)) h
      | none => False
    | _, _ => False
  | .eqn kd neg x => match nilOf kd (evO ρ x) with
    | some r => K (.bool (if neg then !r else r)) h
    | none => False
  | .mkmap => K (.map (some h.length)) (h ++ [.map true []])
  | .lookup kd z ok m k => match mapEs h (evO ρ m) with
    | some es => match findV kd (evO ρ k) es with
      | some r => K (lookV z ok r) h
      | none => False
    | none => False
  | .mapset kd m k v => match evO ρ m with
    | .map (some b) => match h[b]? with
      | some (.map true es) => match setEs kd (evO ρ k) (evO ρ v) es with
        | some es' => K undef (h.set b (.map true es'))
        | none => False
      | _ => False
    | _ => False
  | .lenm m => match mapEs h (evO ρ m) with
    | some es => K (.int .i64 es.length) h
    | none => False
  | .ixv agg len sz x i => match evO ρ x, evO ρ i with
    | .agg cs, .int _ n => (0 ≤ n ∧ n < len) ∧ n.toNat * sz + sz ≤ cs.size ∧ match aggOf agg ((cs.toList.drop (n.toNat * sz)).take sz) with
      | some v => K v h
      | none => False
    | _, _ => False
  | .ixstr x i => match evO ρ x, evO ρ i with
    | .string s, .int _ n => 0 ≤ n ∧ match s[n.toNat]? with
      | some b => K (.int .u8 b.toNat) h
      | none => False
    | _, _ => False
  | .slstr x lo hi => match evO ρ x, intO (lo.map (evO ρ)), intO (hi.map (evO ρ)) with
    | .string s, some l, some u => (0 ≤ l.getD 0 ∧ l.getD 0 ≤ u.getD s.size ∧ u.getD s.size ≤ s.size) ∧ K (.string (s.extract (l.getD 0).toNat (u.getD s.size).toNat)) h
    | _, _, _ => False
  | .sla len sz x lo hi => match evO ρ x, intO (lo.map (evO ρ)), intO (hi.map (evO ρ)) with
    | .pointer (some ⟨b, o, none⟩), some l, some u => (0 ≤ l.getD 0 ∧ l.getD 0 ≤ u.getD len ∧ u.getD len ≤ len) ∧ slaOK h b ∧
        K (.slice (some ⟨b, if (l.getD 0).toNat = len then o else o + (l.getD 0).toNat * sz, none⟩) ((u.getD len).toNat - (l.getD 0).toNat) (len - (l.getD 0).toNat)) h
    | _, _, _ => False
  | .call f args => ∃ v h', Spec P G f (args.map (evO ρ)) h v h' ∧ K v h'
  | .callw f args => ∃ v h', Spec P G f (args.map (evO ρ)) h v h' ∧ K v h'
  | .callv f args => match evO ρ f with
    | .func (.func g) first captured => goodFn P g = true ∧ ∃ v h', Spec P G g (first.toList ++ args.map (evO ρ) ++ captured.toList) h v h' ∧ K v h'
    | _ => False
  | .stop => False
  | .cpy sz x y => match cpyA h sz (evO ρ x) (evO ρ y) with
    | some r => K (.int .i64 r.1) r.2
    | none => False
  | .clr sz z x => match clrA h sz z (evO ρ x) with
    | some h' => K undef h'
    | none => False
  | .xc m f args => ∃ v h', XSpec P G m f (args.map (evO ρ)) h v h' ∧ K v h'
  | .bts x => match evO ρ x with
    | .slice _ 0 _ => K (.string ByteArray.empty) h
    | .slice (some ⟨b, off, none⟩) (n + 1) _ => match (rds h b off (n + 1)).bind bytesA with
      | some ns => K (.string (bytesS ns)) h
      | none => False
    | _ => False

end Go.Proofs.YtpnpccnbpgckhabGreat.B
