/-
  An interpreter of the instructions over an abstract heap: what it comes to, the weakest precondition allows. For calls of given values the kernel runs it.
-/
import Derived.Test.YtpnpccnbpgckhabGreatAbV
import Derived.Test.YtpnpccnbpgckhabGreatAbW
namespace Go.Proofs.YtpnpccnbpgckhabGreat.B
open Go
set_option linter.unusedVariables false
set_option linter.unusedSimpArgs false
variable {G : Nat} {P : Program}

abbrev Res := Option (Value × AHeap)
abbrev CallF := FuncId → List Value → AHeap → Res
abbrev XCallF := Option String → FuncId → List Value → AHeap → Res
/-- What is known of calls. -/
structure Orc where
  call : CallF
  xc : XCallF
def Orc.ok (P : Program) (G : Nat) (r : Orc) : Prop :=
  (∀ f args h v h', r.call f args h = some (v, h') → Spec P G f args h v h' ∧ goodFn P f = true) ∧ ∀ m f args h v h', r.xc m f args h = some (v, h') → XSpec P G m f args h v h'

def slOKb (h : AHeap) (b sz : Nat) : Bool :=
  match h[b]? with
  | some (.row (.grow s2) _) => s2 == sz
  | _ => true
def slaOKb (h : AHeap) (b : Nat) : Bool :=
  match h[b]? with
  | some (.row .ro _) | some (.row .fix _) => true
  | _ => false
def roomB (n bytes : Nat) : Bool := decide ((n + n / 4 + 512) * bytes ≤ 281474976710656) && decide (n ≤ 9223372036854775807)

def binE (op : BinOp) (x y : Value) : Option Value :=
  match op, x, y with
  | .shl, .int k a, .int _ b => if 0 ≤ b then some (.int k (k.wrap (a * 2 ^ min b.toNat k.bits))) else none
  | .shr, .int k a, .int _ b => if 0 ≤ b then some (.int k (a.fdiv (2 ^ min b.toNat k.bits))) else none
  | .add, .int k a, .int k' b => if k = k' then some (.int k (k.wrap (a + b))) else none
  | .sub, .int k a, .int k' b => if k = k' then some (.int k (k.wrap (a - b))) else none
  | .mul, .int k a, .int k' b => if k = k' then some (.int k (k.wrap (a * b))) else none
  | .quo, .int k a, .int k' b => if k = k' ∧ b ≠ 0 then some (.int k (k.wrap (a.tdiv b))) else none
  | .rem, .int k a, .int k' b => if k = k' ∧ b ≠ 0 then some (.int k (a.tmod b)) else none
  | .and, .int k a, .int k' b => if k = k' then some (.int k (k.wrap (BitVec.ofInt k.bits a &&& BitVec.ofInt k.bits b).toNat)) else none
  | .or, .int k a, .int k' b => if k = k' then some (.int k (k.wrap (BitVec.ofInt k.bits a ||| BitVec.ofInt k.bits b).toNat)) else none
  | .xor, .int k a, .int k' b => if k = k' then some (.int k (k.wrap (BitVec.ofInt k.bits a ^^^ BitVec.ofInt k.bits b).toNat)) else none
  | .andNot, .int k a, .int k' b => if k = k' then some (.int k (k.wrap (BitVec.ofInt k.bits a &&& ~~~ BitVec.ofInt k.bits b).toNat)) else none
  | .eql, .int k a, .int k' b => if k = k' then some (.bool (a == b)) else none
  | .neq, .int k a, .int k' b => if k = k' then some (.bool (a != b)) else none
  | .lss, .int k a, .int k' b => if k = k' then some (.bool (decide (a < b))) else none
  | .leq, .int k a, .int k' b => if k = k' then some (.bool (decide (a ≤ b))) else none
  | .gtr, .int k a, .int k' b => if k = k' then some (.bool (decide (b < a))) else none
  | .geq, .int k a, .int k' b => if k = k' then some (.bool (decide (b ≤ a))) else none
  | .add, .string a, .string b => if a.size + b.size ≤ 9223372036854775807 then some (.string (a ++ b)) else none
  | .eql, .string a, .string b => some (.bool (a.toList == b.toList))
  | .neq, .string a, .string b => some (.bool (!(a.toList == b.toList)))
  | .lss, .string a, .string b => some (.bool (Op.bytesLess a.toList b.toList))
  | .leq, .string a, .string b => some (.bool (Op.bytesLess a.toList b.toList || a.toList == b.toList))
  | .gtr, .string a, .string b => some (.bool (!(Op.bytesLess a.toList b.toList || a.toList == b.toList)))
  | .geq, .string a, .string b => some (.bool (!(Op.bytesLess a.toList b.toList)))
  | _, _, _ => none
theorem binE_sound {op : BinOp} {x y v : Value} {K : Value → Prop} (he : binE op x y = some v) (hk : K v) : binA op x y K := by
  unfold binE at he
  split at he <;> simp only [binA] <;> (try split at he) <;> (try (cases he)) <;> (try exact ⟨by assumption, hk⟩) <;> (try exact hk)
  all_goals rename_i hc; exact ⟨hc.1, hc.2, hk⟩

def unE (op : UnOp) (x : Value) : Option Value :=
  match op, x with
  | .neg, .int k n => some (.int k (k.wrap (0 - n)))
  | .not, .bool b => some (.bool (!b))
  | .xor, .int k n => some (.int k (k.wrap (BitVec.ofInt k.bits (if k.signed then -1 else k.max) ^^^ BitVec.ofInt k.bits n).toNat))
  | _, _ => none
theorem unE_sound {op : UnOp} {x v : Value} {K : Value → Prop} (he : unE op x = some v) (hk : K v) : unA op x K := by
  unfold unE at he
  split at he <;> simp only [unA] <;> cases he <;> exact hk

def slE (h : AHeap) (sz l u cap : Nat) : Option Addr → Res
  | some ⟨b, o, none⟩ => if slOKb h b sz then some (.slice (some ⟨b, if l < cap then o + l * sz else o, none⟩) (u - l) (cap - l), h) else none
  | none => if cap = 0 then some (.slice none 0 0, h) else none
  | _ => none
theorem slOKb_ok {h : AHeap} {b sz : Nat} (k : slOKb h b sz = true) : slOK h b sz := by
  unfold slOKb at k; unfold slOK
  split at k <;> simp_all
theorem slaOKb_ok {h : AHeap} {b : Nat} (k : slaOKb h b = true) : slaOK h b := by
  unfold slaOKb at k; unfold slaOK
  split at k <;> simp_all
theorem roomB_ok {n bytes : Nat} (k : roomB n bytes = true) : room n bytes := by
  simpa [roomB, room] using k
theorem slE_sound {h : AHeap} {sz l u cap : Nat} {a : Option Addr} {v : Value} {h' : AHeap} {K : Value → AHeap → Prop} (he : slE h sz l u cap a = some (v, h')) (hk : K v h') : slK h sz l u cap K a := by
  unfold slE at he
  split at he
  · split at he
    · cases he; rename_i q; exact ⟨slOKb_ok q, hk⟩
    · cases he
  · split at he
    · cases he; rename_i q; exact ⟨q, hk⟩
    · cases he
  · cases he

/-! Rows of many cells: lengths and writings that the kernel reckons step by step -/
def lenGe : List Value → Nat → Bool
  | _, 0 => true
  | [], _ + 1 => false
  | _ :: l, n + 1 => lenGe l n
theorem lenGe_iff : ∀ (l : List Value) (n : Nat), lenGe l n = true ↔ n ≤ l.length
  | l, 0 => by simp [lenGe]
  | [], n + 1 => by simp [lenGe]
  | _ :: l, n + 1 => by simp [lenGe, lenGe_iff l n]
def over : List Value → List Value → List Value
  | l, [] => l
  | [], _ :: _ => []
  | _ :: l, v :: vs => v :: over l vs
def spl : List Value → Nat → List Value → List Value
  | l, 0, vs => over l vs
  | [], _ + 1, _ => []
  | x :: l, n + 1, vs => x :: spl l n vs
theorem over_get : ∀ (l vs : List Value) (i : Nat), vs.length ≤ l.length → (over l vs)[i]? = if i < vs.length then vs[i]? else l[i]?
  | l, [], i, h => by simp [over]
  | [], _ :: _, i, h => by simp at h
  | x :: l, v :: vs, 0, h => by simp [over]
  | x :: l, v :: vs, i + 1, h => by simp [over, over_get l vs i (by simpa using h)]
theorem spl_get : ∀ (l : List Value) (n : Nat) (vs : List Value) (i : Nat), n + vs.length ≤ l.length → (spl l n vs)[i]? = if n ≤ i ∧ i < n + vs.length then vs[i - n]? else l[i]?
  | l, 0, vs, i, h => by simp [spl, over_get l vs i (by omega)]
  | [], n + 1, vs, i, h => by simp at h
  | x :: l, n + 1, vs, 0, h => by simp [spl]
  | x :: l, n + 1, vs, i + 1, h => by
    simp only [spl, List.getElem?_cons_succ, spl_get l n vs i (by simp only [List.length_cons] at h; omega)]
    by_cases q : n ≤ i ∧ i < n + vs.length
    · rw [if_pos q, if_pos (by omega)]; congr 1; omega
    · rw [if_neg q, if_neg (by omega)]
theorem spl_eq {l : List Value} {n : Nat} {vs : List Value} (h : n + vs.length ≤ l.length) : spl l n vs = setC l n vs := by
  apply List.ext_getElem?
  intro i
  rw [spl_get _ _ _ _ h, setC_get _ _ _ _ h]
def rdsE (h : AHeap) (b off n : Nat) : Option (List Value) :=
  match h[b]? with
  | some (.row _ cells) => if lenGe cells (off + n) = true then some ((cells.drop off).take n) else none
  | _ => none
def wrsE (h : AHeap) (b off : Nat) (vs : List Value) : Option AHeap :=
  match h[b]? with
  | some (.row .ro _) => none
  | some (.row m cells) => if lenGe cells (off + vs.length) = true then some (h.set b (.row m (spl cells off vs))) else none
  | _ => none
theorem rdsE_eq {h : AHeap} {b off n : Nat} : rdsE h b off n = rds h b off n := by
  unfold rdsE rds
  cases h[b]? with
  | none => rfl
  | some o =>
    cases o with
    | dead => rfl
    | map => rfl
    | row m cells =>
      simp only
      by_cases q : off + n ≤ cells.length
      · rw [if_pos q, if_pos ((lenGe_iff _ _).2 q)]
      · rw [if_neg q, if_neg (fun k => q ((lenGe_iff _ _).1 k))]
theorem wrsE_eq {h : AHeap} {b off : Nat} {vs : List Value} : wrsE h b off vs = wrs h b off vs := by
  unfold wrsE wrs
  cases h[b]? with
  | none => rfl
  | some o =>
    cases o with
    | dead => rfl
    | map => rfl
    | row m cells =>
      have key : ∀ m, (if lenGe cells (off + vs.length) = true then some (h.set b (.row m (spl cells off vs))) else none) = if off + vs.length ≤ cells.length then some (h.set b (.row m (setC cells off vs))) else none := fun m => by
        by_cases q : off + vs.length ≤ cells.length
        · rw [if_pos q, if_pos ((lenGe_iff _ _).2 q), spl_eq q]
        · rw [if_neg q, if_neg (fun k => q ((lenGe_iff _ _).1 k))]
      cases m with
      | ro => rfl
      | fix => exact key _
      | grow sz => exact key _

def fillE (ρ : Nat → Value) : List Value → List (Nat × Nat × Operand) → Option (List Value)
  | cells, [] => some cells
  | cells, (off, sz, x) :: r =>
    match cellsA (evO ρ x) with
    | some vs => if vs.length = sz ∧ lenGe cells (off + sz) = true then fillE ρ (spl cells off vs) r else none
    | none => none
theorem fillE_eq {ρ : Nat → Value} : ∀ (ps : List (Nat × Nat × Operand)) (cells : List Value), fillE ρ cells ps = fillA ρ cells ps
  | [], cells => rfl
  | (off, sz, x) :: r, cells => by
    simp only [fillE, fillA]
    cases cellsA (evO ρ x) with
    | none => rfl
    | some vs =>
      simp only
      by_cases q : vs.length = sz ∧ off + sz ≤ cells.length
      · rw [if_pos q, if_pos ⟨q.1, (lenGe_iff _ _).2 q.2⟩, spl_eq (by rw [q.1]; exact q.2), fillE_eq r]
      · rw [if_neg q, if_neg (fun k => q ⟨k.1, (lenGe_iff _ _).1 k.2⟩)]
def evI (call : Orc) (i : I) (ρ : Nat → Value) (h : AHeap) : Res :=
  match i with
  | .mv x => some (evO ρ x, h)
  | .pick c a b => match evO ρ c with
    | .bool t => some (if t then evO ρ a else evO ρ b, h)
    | _ => none
  | .new cells => some (.pointer (some ⟨h.length, 0, none⟩), h ++ [.row .fix cells])
  | .box x => match cellsA (evO ρ x) with
    | some cs => some (.pointer (some ⟨h.length, 0, none⟩), h ++ [.row .fix cs])
    | none => none
  | .build zero parts => match fillE ρ zero parts with
    | some cs => some (.agg cs.toArray, h)
    | none => none
  | .row sz len zero parts => match fillE ρ ((List.replicate len zero).flatten) parts with
    | some cs => some (.slice (some ⟨h.length, 0, none⟩) len len, h ++ [.row (.grow sz) cs])
    | none => none
  | .load agg n a => match evO ρ a with
    | .pointer (some ⟨b, off, none⟩) => match (rdsE h b off n).bind (aggOf agg) with
      | some v => some (v, h)
      | none => none
    | _ => none
  | .store n a x => match evO ρ a, cellsA (evO ρ x) with
    | .pointer (some ⟨b, off, none⟩), some vs => if vs.length = n ∧ vs.all oneA = true then (match wrsE h b off vs with
      | some h' => some (undef, h')
      | none => none) else none
    | _, _ => none
  | .nilck x => match evO ρ x with
    | .pointer (some a) => some (.pointer (some a), h)
    | .iface t v => some (.iface t v, h)
    | _ => none
  | .bin op x y => (binE op (evO ρ x) (evO ρ y)).map fun v => (v, h)
  | .eqb neg x y => match evO ρ x, evO ρ y with
    | .bool a, .bool b => some (.bool (if neg then a != b else a == b), h)
    | _, _ => none
  | .un op x => (unE op (evO ρ x)).map fun v => (v, h)
  | .conv k x => match evO ρ x with
    | .int _ n => some (.int k (k.wrap n), h)
    | _ => none
  | .fld off a => match evO ρ a with
    | .pointer (some ⟨b, o, none⟩) => some (.pointer (some ⟨b, o + off, none⟩), h)
    | _ => none
  | .part agg off n x => match evO ρ x with
    | .agg cs => if off + n ≤ cs.size then (match aggOf agg ((cs.toList.drop off).take n) with
      | some v => some (v, h)
      | none => none) else none
    | _ => none
  | .ixs sz x i => match evO ρ x, evO ρ i with
    | .slice (some ⟨b, o, none⟩) len _, .int _ n => if 0 ≤ n ∧ n < len then some (.pointer (some ⟨b, o + n.toNat * sz, none⟩), h) else none
    | _, _ => none
  | .ixa len sz x i => match evO ρ x, evO ρ i with
    | .pointer (some ⟨b, o, none⟩), .int _ n => if 0 ≤ n ∧ n < len then some (.pointer (some ⟨b, o + n.toNat * sz, none⟩), h) else none
    | _, _ => none
  | .sl sz x lo hi => match evO ρ x, intO (lo.map (evO ρ)), intO (hi.map (evO ρ)) with
    | .slice a len cap, some l, some u =>
      if 0 ≤ l.getD 0 ∧ l.getD 0 ≤ u.getD len ∧ u.getD len ≤ len ∧ len ≤ cap then slE h sz (l.getD 0).toNat (u.getD len).toNat cap a else none
    | _, _, _ => none
  | .mkslice sz bytes zero x y => match evO ρ x, evO ρ y with
    | .int .i64 l, .int .i64 c => if 0 ≤ l ∧ l ≤ c ∧ c ≤ 9223372036854775807 ∧ (bytes : Int) * c ≤ 281474976710656 then
      some (.slice (some ⟨h.length, 0, none⟩) l.toNat c.toNat, h ++ [.row (.grow sz) ((List.replicate c.toNat zero).flatten)]) else none
    | _, _ => none
  | .ext x i => match evO ρ x with
    | .tuple vs => match vs[i]? with
      | some v => some (v, h)
      | none => none
    | _ => none
  | .len str x => match str, evO ρ x with
    | false, .slice _ n _ => some (.int .i64 n, h)
    | true, .string s => some (.int .i64 s.size, h)
    | _, _ => none
  | .app str sz bytes x y => match evO ρ x, appSrc h sz str (evO ρ y) with
    | .slice none 0 0, some (n, vs) =>
      if vs.all oneA = true ∧ roomB n bytes = true then
        (if n = 0 then some (.slice none 0 0, h) else some (.slice (some ⟨h.length, 0, none⟩) n n, h ++ [.row (.grow sz) vs])) else none
    | .slice (some ⟨b, off, none⟩) len cap, some (n, vs) =>
      if vs.all oneA = true ∧ roomB (len + n) bytes = true ∧ len ≤ cap then
        (match h[b]? with
        | some (.row (.grow s2) cells) =>
          if s2 = sz then
            (if len + n ≤ cap then (if off + (len + n) * sz ≤ cells.length then some (.slice (some ⟨b, off, none⟩) (len + n) cap, h.set b (.row (.grow s2) (setC cells (off + len * sz) vs))) else none)
            else (if off + len * sz ≤ cells.length then some (.slice (some ⟨h.length, 0, none⟩) (len + n) (len + n), h.set b .dead ++ [.row (.grow sz) ((cells.drop off).take (len * sz) ++ vs)]) else none)) else none
        | _ => none) else none
    | _, _ => none
  | .mm mx x y => match evO ρ x, evO ρ y with
    | .int k a, .int k' b => if k = k' then some (.int k (if mx then (if b > a then b else a) else (if b < a then b else a)), h) else none
    | _, _ => none
  | .mkfunc f xs => some (.func f #[] (xs.map (evO ρ)).toArray, h)
  | .eqs ks neg x y => match evO ρ x, evO ρ y with
    | .agg a, .agg b => match eqCells ks a.toList b.toList with
      | some r => some (.bool (if neg then !r else r), h)
      | none => none
    | _, _ => none
  | .eqn kd neg x => match nilOf kd (evO ρ x) with
    | some r => some (.bool (if neg then !r else r), h)
    | none => none
  | .mkmap => some (.map (some h.length), h ++ [.map true []])
  | .lookup kd z ok m k => match mapEs h (evO ρ m) with
    | some es => match findV kd (evO ρ k) es with
      | some r => some (lookV z ok r, h)
      | none => none
    | none => none
  | .mapset kd m k v => match evO ρ m with
    | .map (some b) => match h[b]? with
      | some (.map true es) => match setEs kd (evO ρ k) (evO ρ v) es with
        | some es' => some (undef, h.set b (.map true es'))
        | none => none
      | _ => none
    | _ => none
  | .lenm m => match mapEs h (evO ρ m) with
    | some es => some (.int .i64 es.length, h)
    | none => none
  | .ixv agg len sz x i => match evO ρ x, evO ρ i with
    | .agg cs, .int _ n => if (0 ≤ n ∧ n < len) ∧ n.toNat * sz + sz ≤ cs.size then (match aggOf agg ((cs.toList.drop (n.toNat * sz)).take sz) with
      | some v => some (v, h)
      | none => none) else none
    | _, _ => none
  | .ixstr x i => match evO ρ x, evO ρ i with
    | .string s, .int _ n => if 0 ≤ n then (match s[n.toNat]? with
      | some b => some (.int .u8 b.toNat, h)
      | none => none) else none
    | _, _ => none
  | .slstr x lo hi => match evO ρ x, intO (lo.map (evO ρ)), intO (hi.map (evO ρ)) with
    | .string s, some l, some u => if 0 ≤ l.getD 0 ∧ l.getD 0 ≤ u.getD s.size ∧ u.getD s.size ≤ s.size then some (.string (s.extract (l.getD 0).toNat (u.getD s.size).toNat), h) else none
    | _, _, _ => none
  | .sla len sz x lo hi => match evO ρ x, intO (lo.map (evO ρ)), intO (hi.map (evO ρ)) with
    | .pointer (some ⟨b, o, none⟩), some l, some u => if (0 ≤ l.getD 0 ∧ l.getD 0 ≤ u.getD len ∧ u.getD len ≤ len) ∧ slaOKb h b = true then
        some (.slice (some ⟨b, if (l.getD 0).toNat = len then o else o + (l.getD 0).toNat * sz, none⟩) ((u.getD len).toNat - (l.getD 0).toNat) (len - (l.getD 0).toNat), h) else none
    | _, _, _ => none
  | .call f args => call.call f (args.map (evO ρ)) h
  | .callw f args => call.call f (args.map (evO ρ)) h
  | .callv f args => match evO ρ f with
    | .func (.func g) first captured => call.call g (first.toList ++ args.map (evO ρ) ++ captured.toList) h
    | _ => none
  | .mkiface t x => match evO ρ x with
    | .tuple _ => none
    | v => some (.iface t v, h)
  | .stop => none
  | .cpy sz x y => match cpyA h sz (evO ρ x) (evO ρ y) with
    | some r => some (.int .i64 r.1, r.2)
    | none => none
  | .clr sz z x => match clrA h sz z (evO ρ x) with
    | some h' => some (undef, h')
    | none => none
  | .xc m f args => call.xc m f (args.map (evO ρ)) h
  | .bts x => match evO ρ x with
    | .slice _ 0 _ => some (.string ByteArray.empty, h)
    | .slice (some ⟨b, off, none⟩) (n + 1) _ => match (rds h b off (n + 1)).bind bytesA with
      | some ns => some (.string (bytesS ns), h)
      | none => none
    | _ => none

theorem evI_sound {call : Orc} (hc : call.ok P G) {i : I} {ρ : Nat → Value} {h : AHeap} {v : Value} {h' : AHeap} {K : Value → AHeap → Prop}
    (he : evI call i ρ h = some (v, h')) (hk : K v h') : wpI P G i ρ h K := by
  cases i with
  | bin op x y =>
    simp only [evI, Option.map_eq_some_iff, Prod.mk.injEq] at he
    obtain ⟨u, h1, rfl, rfl⟩ := he
    exact binE_sound (K := (K · h)) h1 hk
  | un op x =>
    simp only [evI, Option.map_eq_some_iff, Prod.mk.injEq] at he
    obtain ⟨u, h1, rfl, rfl⟩ := he
    exact unE_sound (K := (K · h)) h1 hk
  | call f args => exact ⟨v, h', (hc.1 _ _ _ _ _ he).1, hk⟩
  | callw f args => exact ⟨v, h', (hc.1 _ _ _ _ _ he).1, hk⟩
  | xc m f args => exact ⟨v, h', hc.2 _ _ _ _ _ _ he, hk⟩
  | mkiface t x =>
    simp only [evI] at he
    simp only [wpI]
    split at he
    · cases he
    · rename_i hx
      split
      · rename_i q; exact absurd q (hx _)
      · cases he; exact hk
  | callv f args =>
    simp only [evI] at he
    simp only [wpI]
    split at he
    · rename_i hq; rw [hq]
      exact ⟨(hc.1 _ _ _ _ _ he).2, v, h', (hc.1 _ _ _ _ _ he).1, hk⟩
    · cases he
  | sl sz x lo hi =>
    simp only [evI] at he
    simp only [wpI]
    split at he
    · rename_i h1 h2 h3
      rw [h1, h2, h3]
      split at he
      · rename_i q; exact ⟨q, slE_sound he hk⟩
      · cases he
    · cases he
  | mm mx x y =>
    simp only [evI] at he
    simp only [wpI]
    split at he
    · rename_i h1 h2
      rw [h1, h2]
      split at he
      · rename_i q; cases he; exact ⟨q, hk⟩
      · cases he
    · cases he
  | app str sz bytes x y =>
    simp only [evI] at he
    simp only [wpI]
    split at he
    · rename_i h1 h2
      rw [h1, h2]
      split at he
      · rename_i q
        refine ⟨q.1, roomB_ok q.2, ?_⟩
        split at he <;> rename_i r <;> cases he
        · rw [if_pos r]; exact hk
        · rw [if_neg r]; exact hk
      · cases he
    · rename_i h1 h2
      rw [h1, h2]
      split at he
      · rename_i q
        refine ⟨q.1, roomB_ok q.2.1, q.2.2, ?_⟩
        split at he
        · rename_i hb
          rw [hb]
          split at he
          · rename_i r
            refine ⟨r, ?_⟩
            split at he <;> rename_i t
            · rw [if_pos t]
              split at he
              · rename_i w; cases he; exact ⟨w, hk⟩
              · cases he
            · rw [if_neg t]
              split at he
              · rename_i w; cases he; exact ⟨w, hk⟩
              · cases he
          · cases he
        · cases he
      · cases he
    · cases he
  | _ =>
    simp only [evI, rdsE_eq, wrsE_eq, fillE_eq] at he
    simp only [wpI]
    repeat' (split at he)
    all_goals (try cases he)
    all_goals (try (simp_all [roomB_ok, slaOKb_ok]; done))

/-! ### Whether a heap goes on another one -/
def aEq : Option Addr → Option Addr → Bool
  | none, none => true
  | some ⟨b, o, none⟩, some ⟨c, p, none⟩ => b == c && o == p
  | _, _ => false
theorem aEq_ok {a b : Option Addr} (h : aEq a b = true) : a = b := by
  unfold aEq at h
  split at h
  · rfl
  · simp at h; obtain ⟨rfl, rfl⟩ := h; rfl
  · cases h
def vEq : Value → Value → Bool
  | .bool a, .bool b => a == b
  | .int k a, .int j b => decide (k = j) && a == b
  | .string a, .string b => a.data.toList == b.data.toList
  | .pointer a, .pointer b => aEq a b
  | .slice a n c, .slice b m d => aEq a b && n == m && c == d
  | .map a, .map b => a == b
  | .nilFunc, .nilFunc => true
  | .nilIface, .nilIface => true
  | _, _ => false
theorem vEq_ok {a b : Value} (h : vEq a b = true) : a = b := by
  unfold vEq at h
  split at h
  · simp at h; rw [h]
  · simp at h; rw [h.1, h.2]
  · rename_i x y
    obtain ⟨⟨x⟩⟩ := x
    obtain ⟨⟨y⟩⟩ := y
    have : x = y := by simpa using h
    rw [this]
  · rw [aEq_ok h]
  · simp only [Bool.and_eq_true, beq_iff_eq] at h
    rw [aEq_ok h.1.1, h.1.2, h.2]
  · simp at h; rw [h]
  · rfl
  · rfl
  · cases h
def vsEq : List Value → List Value → Bool
  | [], [] => true
  | a :: r, b :: s => vEq a b && vsEq r s
  | _, _ => false
theorem vsEq_ok : ∀ {a b : List Value}, vsEq a b = true → a = b
  | [], [], _ => rfl
  | a :: r, b :: s, h => by
    simp only [vsEq, Bool.and_eq_true] at h
    rw [vEq_ok h.1, vsEq_ok h.2]
  | [], _ :: _, h => by cases h
  | _ :: _, [], h => by cases h
def esEq : List (Value × Value) → List (Value × Value) → Bool
  | [], [] => true
  | a :: r, b :: s => vEq a.1 b.1 && vEq a.2 b.2 && esEq r s
  | _, _ => false
theorem esEq_ok : ∀ {a b : List (Value × Value)}, esEq a b = true → a = b
  | [], [], _ => rfl
  | (a, a') :: r, (b, b') :: s, h => by
    simp only [esEq, Bool.and_eq_true] at h
    have h1 : a = b := vEq_ok h.1.1
    have h2 : a' = b' := vEq_ok h.1.2
    rw [h1, h2, esEq_ok h.2]
  | [], _ :: _, h => by cases h
  | _ :: _, [], h => by cases h
def mEq : Mode → Mode → Bool
  | .ro, .ro => true
  | .fix, .fix => true
  | .grow a, .grow b => a == b
  | _, _ => false
theorem mEq_ok {a b : Mode} (h : mEq a b = true) : a = b := by
  unfold mEq at h
  split at h
  · rfl
  · rfl
  · simp at h; rw [h]
  · cases h
def oEq : AObj → AObj → Bool
  | .dead, .dead => true
  | .row m cs, .row k ds => mEq m k && vsEq cs ds
  | .map r es, .map q fs => r == q && esEq es fs
  | _, _ => false
theorem oEq_ok {a b : AObj} (h : oEq a b = true) : a = b := by
  unfold oEq at h
  split at h
  · rfl
  · simp only [Bool.and_eq_true] at h; rw [mEq_ok h.1, vsEq_ok h.2]
  · simp only [Bool.and_eq_true, beq_iff_eq] at h; rw [h.1, esEq_ok h.2]
  · cases h
def preB : AHeap → AHeap → Bool
  | [], _ => true
  | a :: r, b :: s => oEq a b && preB r s
  | _ :: _, [] => false
theorem preB_ok : ∀ {h h' : AHeap}, preB h h' = true → ∃ g, h' = h ++ g
  | [], h', _ => ⟨h', rfl⟩
  | a :: r, b :: s, h => by
    simp only [preB, Bool.and_eq_true] at h
    obtain ⟨g, hg⟩ := preB_ok h.2
    exact ⟨g, by rw [oEq_ok h.1, hg]; rfl⟩
  | _ :: _, [], h => by cases h

/-! ### Code -/
def evL (call : Orc) (draw : Bool) : List GI → Env → AHeap → Option (Env × AHeap)
  | [], e, h => some (e, h)
  | g :: r, e, h => match g.g with
    | none => match evI call g.i (look e) h with
      | some (v, h') => if !draw || !callI g.i || preB h h' then evL call draw r (putE e g.dst v) h' else none
      | none => none
    | some (s, want) => match look e s with
      | .bool b => if b = want then (match evI call g.i (look ((s, .bool want) :: e)) h with
          | some (v, h') => if !draw || !callI g.i || preB h h' then evL call draw r (putE ((s, .bool want) :: e) g.dst v) h' else none
          | none => none) else evL call draw r (putE ((s, .bool (!want)) :: e) g.dst (.complex .f32 0 0)) h
      | .complex _ _ _ => evL call draw r (putE e g.dst (.complex .f32 0 0)) h
      | _ => none

section
variable {call : Orc} (hc : call.ok P G)
include hc
theorem evL_sound : ∀ {l : List GI} {e e' : Env} {h h' : AHeap} {K : Env → AHeap → Prop}, evL call false l e h = some (e', h') → K e' h' → wpL2 P G l e h K
  | [], e, e', h, h', K, he, hk => by cases he; exact hk
  | g :: r, e, e', h, h', K, he, hk => by
    simp only [evL, Bool.not_false, Bool.true_or, if_true] at he
    simp only [wpL2]
    split at he
    · rename_i hg
      rw [hg]
      simp only
      split at he
      · rename_i v h2 hi
        exact evI_sound hc hi (evL_sound he hk)
      · cases he
    · rename_i s want hg
      rw [hg]
      simp only
      split at he
      · rename_i b hb
        rw [hb]
        simp only
        split at he
        · rename_i hbw
          subst hbw
          refine ⟨fun _ => ?_, fun q => absurd q (by cases b <;> simp)⟩
          split at he
          · rename_i v h2 hi
            exact evI_sound hc hi (evL_sound he hk)
          · cases he
        · rename_i hbw
          exact ⟨fun q => absurd q hbw, fun _ => evL_sound he hk⟩
      · rename_i hb
        rw [hb]
        exact evL_sound he hk
      · cases he
theorem evI_qt {i : I} {ρ : Nat → Value} {h : AHeap} {v : Value} {h' : AHeap} {K : Value → AHeap → Prop} (he : evI call i ρ h = some (v, h')) (hp : (!callI i || preB h h') = true) (hk : K v h') : wpI P G i ρ h fun v h' => qt i h h' ∧ K v h' := by
  cases hcl : callI i with
  | false => rw [wpI_qt hcl]; exact evI_sound hc he hk
  | true =>
    rw [hcl] at hp
    refine evI_sound hc (K := fun v h' => qt i h h' ∧ K v h') he ⟨?_, hk⟩
    unfold qt
    split
    · exact preB_ok (by simpa using hp)
    · trivial
theorem evD_sound : ∀ {l : List GI} {e e' : Env} {h h' : AHeap} {K : Env → AHeap → Prop}, evL call true l e h = some (e', h') → K e' h' → wpD2 P G l e h K
  | [], e, e', h, h', K, he, hk => by cases he; exact hk
  | g :: r, e, e', h, h', K, he, hk => by
    simp only [evL, Bool.not_true, Bool.false_or] at he
    simp only [wpD2]
    split at he
    · rename_i hg
      rw [hg]
      simp only
      split at he
      · rename_i v h2 hi
        split at he
        · rename_i hp
          exact evI_qt hc hi hp (evD_sound he hk)
        · cases he
      · cases he
    · rename_i s want hg
      rw [hg]
      simp only
      split at he
      · rename_i b hb
        rw [hb]
        simp only
        split at he
        · rename_i hbw
          subst hbw
          refine ⟨fun _ => ?_, fun q => absurd q (by cases b <;> simp)⟩
          split at he
          · rename_i v h2 hi
            split at he
            · rename_i hp
              exact evI_qt hc hi hp (evD_sound he hk)
            · cases he
          · cases he
        · rename_i hbw
          exact ⟨fun q => absurd q hbw, fun _ => evD_sound he hk⟩
      · rename_i hb
        rw [hb]
        exact evD_sound he hk
      · cases he
end

/-! ### A region whose order is open: each order that may be is run -/
def hEq : AHeap → AHeap → Bool
  | [], [] => true
  | a :: l, b :: m => oEq a b && hEq l m
  | _, _ => false
theorem hEq_ok : ∀ {l m : AHeap}, hEq l m = true → l = m
  | [], [], _ => rfl
  | a :: l, b :: m, h => by
    simp only [hEq, Bool.and_eq_true] at h
    rw [oEq_ok h.1, hEq_ok h.2]
  | [], _ :: _, h => by cases h
  | _ :: _, [], h => by cases h
def eEq : Env → Env → Bool
  | [], [] => true
  | a :: l, b :: m => a.1 == b.1 && vEq a.2 b.2 && eEq l m
  | _, _ => false
theorem eEq_ok : ∀ {l m : Env}, eEq l m = true → l = m
  | [], [], _ => rfl
  | (a, b) :: l, (c, d) :: m, h => by
    simp only [eEq, Bool.and_eq_true, beq_iff_eq] at h
    rw [h.1.1, vEq_ok h.1.2, eEq_ok h.2]
  | [], _ :: _, h => by cases h
  | _ :: _, [], h => by cases h
/-! Two new blocks may come in either order -/
def swN (n b : Nat) : Nat := if b = n then n + 1 else if b = n + 1 then n else b
def vnB (n : Nat) : Value → Value → Bool
  | .pointer (some ⟨b, o, none⟩), .pointer (some ⟨c, p, none⟩) => decide (b < n + 2) && c == swN n b && o == p
  | .slice (some ⟨b, o, none⟩) l k, .slice (some ⟨c, p, none⟩) l' k' => decide (b < n + 2) && c == swN n b && o == p && l == l' && k == k'
  | .tuple ⟨[]⟩, _ => true
  | a, b => scalarB a && vEq a b
theorem vnB_ok {n : Nat} {a b : Value} (h : vnB n a b = true) : VN (swN n) (n + 2) a b := by
  unfold vnB at h
  split at h
  · simp only [Bool.and_eq_true, decide_eq_true_eq, beq_iff_eq] at h
    obtain ⟨⟨h1, rfl⟩, rfl⟩ := h
    exact .ptr _ _ h1
  · simp only [Bool.and_eq_true, decide_eq_true_eq, beq_iff_eq] at h
    obtain ⟨⟨⟨⟨h1, rfl⟩, rfl⟩, rfl⟩, rfl⟩ := h
    exact .slice _ _ _ _ h1
  · exact .any _
  · simp only [Bool.and_eq_true] at h
    rw [← vEq_ok h.2]
    exact .scalar h.1
def vnsB (n : Nat) : List Value → List Value → Bool
  | [], [] => true
  | a :: l, b :: m => vnB n a b && vnsB n l m
  | _, _ => false
theorem vnsB_ok {n : Nat} : ∀ {l m : List Value}, vnsB n l m = true → l.length = m.length ∧ ∀ (i : Nat) v v', l[i]? = some v → m[i]? = some v' → VN (swN n) (n + 2) v v'
  | [], [], _ => ⟨rfl, fun i v v' h => by simp at h⟩
  | a :: l, b :: m, h => by
    simp only [vnsB, Bool.and_eq_true] at h
    obtain ⟨q1, q2⟩ := vnsB_ok h.2
    refine ⟨by simp [q1], fun i v v' h1 h2 => ?_⟩
    cases i with
    | zero => simp at h1 h2; subst h1; subst h2; exact vnB_ok h.1
    | succ i => simp at h1 h2; exact q2 i v v' h1 h2
  | [], _ :: _, h => by cases h
  | _ :: _, [], h => by cases h
def onB (n : Nat) : AObj → AObj → Bool
  | .row m cs, .row m' cs' => mEq m m' && vnsB n cs cs'
  | _, _ => false
theorem onB_ok {n : Nat} {a b : AObj} (h : onB n a b = true) : ON (swN n) (n + 2) a b := by
  unfold onB at h
  split at h
  · simp only [Bool.and_eq_true] at h
    obtain ⟨q1, q2⟩ := vnsB_ok h.2
    exact ⟨mEq_ok h.1, q1, q2⟩
  · cases h
def evnB (n : Nat) : Env → Env → Bool
  | [], [] => true
  | a :: l, b :: m => a.1 == b.1 && vnB n a.2 b.2 && evnB n l m
  | _, _ => false
theorem evnB_ok {n : Nat} : ∀ {l m : Env}, evnB n l m = true → ∀ t, VN (swN n) (n + 2) (look l t) (look m t)
  | [], [], _, t => .any _
  | (a, v) :: l, (b, w) :: m, h, t => by
    simp only [evnB, Bool.and_eq_true, beq_iff_eq] at h
    obtain ⟨⟨rfl, h2⟩, h3⟩ := h
    simp only [look]
    split
    · exact vnB_ok h2
    · exact evnB_ok h3 t
  | [], _ :: _, h, t => by cases h
  | _ :: _, [], h, t => by cases h
def swB (h : AHeap) (e1 : Env) (h1 : AHeap) (e' : Env) (h' : AHeap) : Bool :=
  evnB h.length e1 e' && (preB h h1 && (preB h h' && match h1.drop h.length, h'.drop h.length with
    | [x, y], [x', y'] => onB h.length x y' && onB h.length y x'
    | _, _ => false))
theorem swB_ok {h h1 h' : AHeap} {e1 e' : Env} (k : swB h e1 h1 e' h' = true) : SameN h e1 h1 e' h' := by
  simp only [swB, Bool.and_eq_true] at k
  obtain ⟨k1, k2, k3, k4⟩ := k
  obtain ⟨g, rfl⟩ := preB_ok k2
  obtain ⟨g', rfl⟩ := preB_ok k3
  simp only [List.drop_left] at k4
  split at k4
  · rename_i x y x' y'
    simp only [Bool.and_eq_true] at k4
    have hl : (h ++ [x, y]).length = h.length + 2 := by simp
    refine .inr ⟨HLe.append _ _, swN h.length, ⟨fun b hb => ?_, fun b hb => ?_, fun b c hb hc q => ?_, fun b o ho => ?_⟩, fun t => by rw [hl]; exact evnB_ok k1 t⟩
    · unfold swN; rw [if_neg (by omega), if_neg (by omega)]
    · unfold swN; split
      · omega
      · split <;> omega
    · rw [hl] at hb hc
      unfold swN at q
      split at q <;> split at q <;> (try split at q) <;> (try split at q) <;> omega
    · rcases Nat.lt_or_ge b h.length with q | q
      · rw [List.getElem?_append_left q] at ho
        exact .inl ⟨q, ho, by rw [List.getElem?_append_left q]; exact ho⟩
      · right
        rw [hl]
        rw [List.getElem?_append_right q] at ho
        have hb : b = h.length ∨ b = h.length + 1 := by
          have := (List.getElem?_eq_some_iff.1 ho).1
          simp only [List.length_cons, List.length_nil] at this
          omega
        rcases hb with rfl | rfl
        · rw [Nat.sub_self] at ho
          cases ho
          refine ⟨y', ?_, onB_ok k4.1⟩
          unfold swN
          rw [if_pos rfl, List.getElem?_append_right (by omega), show h.length + 1 - h.length = 1 by omega]; rfl
        · rw [show h.length + 1 - h.length = 1 by omega] at ho
          cases ho
          refine ⟨x', ?_, onB_ok k4.2⟩
          unfold swN
          rw [if_neg (by omega), if_pos rfl, List.getElem?_append_right (by omega), Nat.sub_self]; rfl
  · cases k4
def chkA (call : Orc) (h0 : AHeap) (l : List GI) (preds : List (List Nat)) (keep : List Nat) (e1 : Env) (h1 : AHeap) : Nat → List Bool → Env → AHeap → Bool
  | 0, dn, e, h => (readyL preds dn).isEmpty && ((eEq (sel keep e) e1 && hEq h h1) || swB h0 e1 h1 (sel keep e) h)
  | n + 1, dn, e, h => !(readyL preds dn).isEmpty && (readyL preds dn).all fun i => match l[i]? with
    | some ⟨d, ins, none⟩ => match evI call ins (look e) h with
      | some (v, h') => chkA call h0 l preds keep e1 h1 n (dn.set i true) (putE e d v) h'
      | none => false
    | _ => false
theorem allL_all {α : Type} {p : α → Prop} : ∀ {l : List α}, (∀ a ∈ l, p a) → allL l p
  | [], _ => trivial
  | b :: l, k => ⟨k b (by simp), allL_all fun a h => k a (by simp [h])⟩
theorem chkA_sound {call : Orc} (hc : call.ok P G) {h0 : AHeap} {l : List GI} {preds : List (List Nat)} {keep : List Nat} {e1 : Env} {h1 : AHeap} : ∀ (n : Nat) (dn : List Bool) (e : Env) (h : AHeap), chkA call h0 l preds keep e1 h1 n dn e h = true → wpA P G l preds n dn e h fun e' h' => SameN h0 e1 h1 (sel keep e') h'
  | 0, dn, e, h, k => by
    simp only [chkA, Bool.and_eq_true, List.isEmpty_iff, Bool.or_eq_true] at k
    refine ⟨k.1, ?_⟩
    rcases k.2 with q | q
    · exact .inl ⟨eEq_ok q.1, hEq_ok q.2⟩
    · exact swB_ok q
  | n + 1, dn, e, h, k => by
    simp only [chkA, Bool.and_eq_true, Bool.not_eq_true', List.all_eq_true] at k
    refine ⟨fun q => by rw [q] at k; simp at k, allL_all fun i hi => ?_⟩
    have := k.2 i hi
    split at this
    · rename_i d ins hli
      simp only [hli]
      split at this
      · rename_i v h' hv
        exact evI_sound hc hv (chkA_sound hc n _ _ _ this)
      · cases this
    · cases this

def evC (call : Orc) : Nat → C → Env → AHeap → Option (Exit × Env × AHeap)
  | 0, _, _, _ => none
  | n + 1, c, e, h => match c with
    | .skip => some (.normal, e, h)
    | .region keep ops => match evL call false ops e h with
      | some (e', h') => some (.normal, sel keep e', h')
      | none => none
    | .draw keep ops => match evL call true ops e h with
      | some (e', h') => some (.normal, sel keep e', h')
      | none => none
    | .seq a b => match evC call n a e h with
      | some (.normal, e', h') => evC call n b e' h'
      | r => r
    | .cond x a b => match evO (look e) x with
      | .bool true => evC call n a e h
      | .bool false => evC call n b e h
      | _ => none
    | .block id a => match evC call n a e h with
      | some (.exit i, e', h') => if i = id then some (.normal, e', h') else some (.exit i, e', h')
      | r => r
    | .loop a => match evC call n a e h with
      | some (.normal, e', h') => evC call n (.loop a) e' h'
      | r => r
    | .exit id => some (.exit id, e, h)
    | .ret => some (.ret, e, h)
    | .bad => none
    | .any keep ops preds => match evL call false ops e h with
      | some (e', h') => if chkA call h ops preds keep (sel keep e') h' ops.length (List.replicate ops.length false) e h = true then some (.normal, sel keep e', h') else none
      | none => none

theorem evC_sound {call : Orc} (hc : call.ok P G) :
    ∀ (n : Nat) {c : C} {e : Env} {h : AHeap} {x : Exit} {e' : Env} {h' : AHeap} {Q : Post}, evC call n c e h = some (x, e', h') → Q x e' h' → wpC P G c e h Q
  | 0, c, e, h, x, e', h', Q, he, hk => by cases he
  | n + 1, c, e, h, x, e', h', Q, he, hk => by
    cases c with
    | skip => cases he; exact hk
    | region keep ops =>
      simp only [evC] at he
      split at he
      · rename_i e2 h2 hl; cases he; exact evL_sound hc hl hk
      · cases he
    | draw keep ops =>
      simp only [evC] at he
      split at he
      · rename_i e2 h2 hl; cases he; exact evD_sound hc hl hk
      · cases he
    | seq a b =>
      simp only [evC] at he
      simp only [wpC]
      split at he
      · rename_i e2 h2 hl
        exact evC_sound hc n hl (evC_sound hc n he hk)
      · rename_i hne
        refine evC_sound hc n he ?_
        cases x with
        | normal => exact absurd he (hne _ _)
        | _ => exact hk
    | cond y a b =>
      simp only [evC] at he
      simp only [wpC]
      split at he
      · rename_i hb; rw [hb]; exact ⟨fun _ => evC_sound hc n he hk, fun q => by cases q⟩
      · rename_i hb; rw [hb]; exact ⟨fun q => (by cases q), fun _ => evC_sound hc n he hk⟩
      · cases he
    | block id a =>
      simp only [evC] at he
      simp only [wpC]
      split at he
      · rename_i i e2 h2 hl
        refine evC_sound hc n hl ?_
        split at he
        · rename_i q; cases he; simp only [blockC, q, if_true]; exact hk
        · rename_i q; cases he; simp only [blockC, if_neg q]; exact hk
      · rename_i hne
        refine evC_sound hc n he ?_
        cases x with
        | exit i => exact absurd he (hne _ _ _)
        | _ => exact hk
    | loop a =>
      simp only [evC] at he
      simp only [wpC]
      intro X hX
      split at he
      · rename_i e2 h2 hl
        refine hX _ _ (evC_sound hc n hl ?_)
        have := evC_sound hc n he hk
        simp only [wpC] at this
        exact this X hX
      · rename_i hne
        refine hX _ _ (evC_sound hc n he ?_)
        cases x with
        | normal => exact absurd he (hne _ _)
        | _ => exact hk
    | exit id => cases he; exact hk
    | ret => cases he; exact hk
    | bad => cases he
    | any keep ops preds =>
      simp only [evC] at he
      split at he
      · split at he
        · rename_i e2 h2 _ hck
          cases he
          exact ⟨_, _, chkA_sound hc _ _ _ _ hck, hk⟩
        · cases he
      · cases he

/-- A function's code, its results, and how many slots it has. -/
structure FnE where
  c : C
  rs : List RV
  n : Nat
def FnE.ok (P : Program) (G : Nat) (f : FuncId) (x : FnE) : Prop := goodFn P f = true ∧ ∀ {args : List Value} {h : AHeap} {v : Value} {h' : AHeap}, args.length ≤ x.n → wpC P G x.c (args.zipIdx.map fun p => (p.2, p.1)) h (retQ x.rs h v h') → Spec P G f args h v h'

def evF (tbl : FuncId → Option FnE) (orc : Orc) (m : Nat) : Nat → CallF
  | 0, _, _, _ => none
  | n + 1, f, args, h => match tbl f with
    | some x => if args.length ≤ x.n then (match evC ⟨evF tbl orc m n, orc.xc⟩ m x.c (args.zipIdx.map fun p => (p.2, p.1)) h with
      | some (.normal, e, h'') => match resA x.rs e h'' with
        | some vs => some (outV vs, h'')
        | none => none
      | some (.ret, e, h'') => match resA x.rs e h'' with
        | some vs => some (outV vs, h'')
        | none => none
      | _ => none) else none
    | none => orc.call f args h

theorem evF_sound {tbl : FuncId → Option FnE} {orc : Orc} {m : Nat} (ht : ∀ f x, tbl f = some x → x.ok P G f) (hx : orc.ok P G) : ∀ (n : Nat) (f : FuncId) (args : List Value) (h : AHeap) (v : Value) (h' : AHeap), evF tbl orc m n f args h = some (v, h') → Spec P G f args h v h' ∧ goodFn P f = true
  | 0, f, args, h, v, h', he => by cases he
  | n + 1, f, args, h, v, h', he => by
    simp only [evF] at he
    split at he
    · rename_i x hx'
      split at he
      · rename_i hn
        refine ⟨(ht f x hx').2 hn ?_, (ht f x hx').1⟩
        split at he
        · rename_i e h2 hl
          split at he
          · rename_i vs hv
            cases he
            exact evC_sound (call := ⟨evF tbl orc m n, orc.xc⟩) ⟨evF_sound ht hx n, hx.2⟩ m hl ⟨.inl rfl, vs, hv, .inl ⟨rfl, rfl⟩⟩
          · cases he
        · rename_i e h2 hl
          split at he
          · rename_i vs hv
            cases he
            exact evC_sound (call := ⟨evF tbl orc m n, orc.xc⟩) ⟨evF_sound ht hx n, hx.2⟩ m hl ⟨.inr rfl, vs, hv, .inl ⟨rfl, rfl⟩⟩
          · cases he
        · cases he
      · cases he
    · exact hx.1 f args h v h' he

/-- Nothing is known of calls. -/
def noOrc : Orc := ⟨fun _ _ _ => none, fun _ _ _ _ => none⟩
theorem noOrc_ok : noOrc.ok P G := ⟨fun _ _ _ _ _ h => (by cases h), fun _ _ _ _ _ _ h => (by cases h)⟩

/-- A table of functions, by a list. -/
def lookT : List (FuncId × FnE) → FuncId → Option FnE
  | [], _ => none
  | p :: r, f => if p.1 = f then some p.2 else lookT r f
theorem lookT_ok : ∀ {l : List (FuncId × FnE)} (hl : ∀ p ∈ l, p.2.ok P G p.1) (f : FuncId) (x : FnE), lookT l f = some x → x.ok P G f
  | [], _, f, x, h => by cases h
  | p :: r, hl, f, x, h => by
    simp only [lookT] at h
    split at h
    · rename_i e; cases h; subst e; exact hl p (List.mem_cons_self ..)
    · exact lookT_ok (fun q hq => hl q (List.mem_cons_of_mem _ hq)) f x h

/-- A call of plain values that is run from the package's variables. -/
theorem Spec.of_run {tbl : FuncId → Option FnE} {m n : Nat} (ht : ∀ f x, tbl f = some x → x.ok P G f) {f : FuncId} {args : List Value} {v : Value} {h h0 : AHeap} (ha : args.all plain = true) (hv : plain v = true) (hc : h0.all constRow = true) (hG : h0.length = G)
    (hp : ∀ (b : Nat) (o : AObj), h0[b]? = some o → o ≠ .dead → h[b]? = some o) (he : (match evF tbl noOrc m n f args h0 with | some (w, _) => vEq w v | none => false) = true) : Spec P G f args h v h := by
  split at he
  · rename_i w h' hw
    rw [vEq_ok he] at hw
    exact Spec.of_vars ha hv hc hG hp (evF_sound ht noOrc_ok n f args h0 v h' hw).1
  · cases he
/-- .. with what is known of calls. -/
theorem Spec.of_runX {tbl : FuncId → Option FnE} {orc : Orc} {m n : Nat} (ht : ∀ f x, tbl f = some x → x.ok P G f) (ho : orc.ok P G) {f : FuncId} {args : List Value} {v : Value} {h h0 : AHeap} (ha : args.all plain = true) (hv : plain v = true) (hc : h0.all constRow = true) (hG : h0.length = G)
    (hp : ∀ (b : Nat) (o : AObj), h0[b]? = some o → o ≠ .dead → h[b]? = some o) (he : (match evF tbl orc m n f args h0 with | some (w, _) => vEq w v | none => false) = true) : Spec P G f args h v h := by
  split at he
  · rename_i w h' hw
    rw [vEq_ok he] at hw
    exact Spec.of_vars ha hv hc hG hp (evF_sound ht ho n f args h0 v h' hw).1
  · cases he
end Go.Proofs.YtpnpccnbpgckhabGreat.B
