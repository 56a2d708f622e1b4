/-
  The start of a call: any world, as an abstract heap that is read alone; and what a contract over it says of the call.
-/
import Derived.Test.YtpnpccnbpgckhabGreatAbS
import Derived.Below
import Derived.Carry
namespace Go.Proofs.YtpnpccnbpgckhabGreat.B
open Go Go.RowKit
set_option linter.unusedVariables false
set_option linter.unusedSimpArgs false
variable {G : Nat} {P : Program}

/-- A value of one cell, as far as it can be told. -/
def abs1 (n : Nat) : Value → Value
  | .bool b => .bool b
  | .int k a => .int k a
  | .string s => .string s
  | .pointer none => .pointer none
  | .pointer (some ⟨b, o, none⟩) => if b < n then .pointer (some ⟨b, o, none⟩) else undef
  | .slice none 0 0 => .slice none 0 0
  | .slice (some ⟨b, o, none⟩) l c => if b < n then .slice (some ⟨b, o, none⟩) l c else if l = 0 ∧ c = 0 then .slice (some voidA) 0 0 else undef
  | .slice (some ⟨_, _, some _⟩) 0 0 => .slice (some voidA) 0 0
  | .map none => .map none
  | .map (some b) => if b < n then .map (some b) else undef
  | .nilFunc => .nilFunc
  | .nilIface => .nilIface
  | .iface t _ => .iface t undef
  | _ => undef

def absO (n : Nat) : Obj → AObj
  | .cells cs _ _ => .row .ro (cs.toList.map (abs1 n))
  | .map es _ => .map false (es.toList.map fun e => (abs1 n e.key, abs1 n e.val))
  | _ => .dead

def absH (W : World) : AHeap := W.heap.toList.map (absO W.heap.size)

def objSize : Obj → Nat
  | .cells cs _ _ => cs.size
  | _ => 0

def rid (W : World) : Ren := fun b => (W.heap[b]?).map fun o => ⟨b, 0, objSize o⟩

theorem rid_some {W : World} {b : Nat} (h : b < W.heap.size) : rid W b = some ⟨b, 0, objSize W.heap[b]⟩ := by
  simp [rid, Array.getElem?_eq_getElem h]

theorem absH_get {W : World} {b : Nat} : (absH W)[b]? = (W.heap[b]?).map (absO W.heap.size) := by
  simp [absH]

theorem absH_ro {W : World} {b : Nat} : ¬ RW (absH W) b := by
  rintro ⟨o, h, r⟩
  rw [absH_get] at h
  cases hq : W.heap[b]? with
  | none => simp [hq] at h
  | some q => simp [hq] at h; subst h; cases q <;> simp [absO, AObj.rw] at r

theorem abs1_vr (W : World) (v : Value) : VR (rid W) (absH W) (abs1 W.heap.size v) v := by
  unfold abs1
  split
  all_goals first
    | (constructor; done)
    | skip
  · split
    · rename_i b o hb
      have := VR.ptr (h := absH W) (x := ⟨b, 0, objSize W.heap[b]⟩) o (rid_some hb)
      simpa using this
    · exact .any _
  · split
    · rename_i b o l c hb
      have := VR.slice (h := absH W) (x := ⟨b, 0, objSize W.heap[b]⟩) o l c c (rid_some hb) (by
        unfold capOK
        rw [absH_get, Array.getElem?_eq_getElem hb]
        simp only [Option.map_some]
        cases W.heap[b] <;> simp [absO])
      simpa using this
    · split
      · rename_i hlc; obtain ⟨rfl, rfl⟩ := hlc; exact .void _
      · exact .any _
  · split
    · rename_i b hb
      exact VR.map (x := ⟨b, 0, objSize W.heap[b]⟩) (rid_some hb)
    · exact .any _
  · exact .iface _ (.any _)

theorem root_sim (W : World) (hG : G ≤ W.heap.size) : Sim G (rid W) (absH W) W where
  glob g hg := ⟨_, rid_some (by omega)⟩
  dom b x hb := by
    cases hq : W.heap[b]? with
    | none => simp [rid, hq] at hb
    | some q => have := (Array.getElem?_eq_some_iff.1 hq).1; simpa [absH] using this
  obj b x o hb ho := by
    rw [absH_get] at ho
    cases hq : W.heap[b]? with
    | none => simp [hq] at ho
    | some q =>
      simp [hq] at ho
      simp [rid, hq] at hb
      subst ho; subst hb
      cases q with
      | cells cs t fz =>
        refine ⟨cs, t, fz, hq, rfl, fun r => (by simp [AObj.rw] at r), fun i v hi => ?_⟩
        simp only [List.getElem?_map, Array.getElem?_toList, Option.map_eq_some_iff] at hi
        obtain ⟨u, hu, rfl⟩ := hi
        exact ⟨u, by simpa using hu, abs1_vr W u⟩
      | map es clock =>
        refine ⟨es, clock, hq, by simp, fun i kv hi => ?_⟩
        simp only [List.getElem?_map, Array.getElem?_toList, Option.map_eq_some_iff] at hi
        obtain ⟨u, hu, rfl⟩ := hi
        exact ⟨u, hu, abs1_vr W _, abs1_vr W _⟩
      | _ => trivial
  inj b c x y hb hc _ _ e := by
    cases hq : W.heap[b]? with
    | none => simp [rid, hq] at hb
    | some q =>
      cases hr : W.heap[c]? with
      | none => simp [rid, hr] at hc
      | some r =>
        simp [rid, hq] at hb
        simp [rid, hr] at hc
        subst hb; subst hc
        exact e

/-- A call whose contract answers true, from any world. -/
theorem root {f : FuncId} {args : List Value} {args' : Array Value} {h' : AHeap} (W : World) (hG : G ≤ W.heap.size) (hl : VL (rid W) (absH W) args args'.toList) (hs : Spec P G f args (absH W) (.bool true) h') :
    Calls P f args' W fun e w' => e = .returned (.bool true) ∧ Below W.heap.size W w' := by
  refine (hs (rid W) W args' (root_sim W hG) hl).mono fun e w' ⟨v', μ', h1, h2, h3⟩ => ?_
  subst h1
  rw [h2.bool_inv]
  refine ⟨rfl, h3.fr.os, h3.fr.tape, h3.fr.output, h3.fr.size, fun k hk => h3.fr.block k hk fun b x hb hr => absurd hr absH_ro⟩

/-- The cells of an argument's row. -/
theorem root_rds {W : World} {b off n : Nat} {vs : List Value} (hn : vs.length = n) (hb : b < W.heap.size) (h : ∀ i : Nat, i < vs.length → W.cell? ⟨b, off + i, none⟩ = vs[i]?) (h0 : vs.length ≠ 0) : rds (absH W) b off n = some (vs.map (abs1 W.heap.size)) := by
  subst hn
  unfold rds
  rw [absH_get, Array.getElem?_eq_getElem hb]
  have e0 := h 0 (by omega)
  cases hq : W.heap[b] with
  | cells cs t fz =>
    have hg : W.heap[b]? = some (.cells cs t fz) := by rw [Array.getElem?_eq_getElem hb, hq]
    simp only [Option.map_some, absO]
    have hcell : ∀ i : Nat, i < vs.length → cs[off + i]? = vs[i]? := fun i hi => by
      have := h i hi
      rwa [cell_at hg] at this
    have hle : off + vs.length ≤ cs.size := by
      have := hcell (vs.length - 1) (by omega)
      rw [List.getElem?_eq_getElem (by omega)] at this
      have := (Array.getElem?_eq_some_iff.1 this).1
      omega
    rw [if_pos (by simpa using hle), ← List.map_drop, ← List.map_take]
    congr 2
    apply List.ext_getElem?
    intro i
    rw [List.getElem?_take]
    split
    · rename_i hi
      rw [List.getElem?_drop, Array.getElem?_toList, hcell i hi]
    · rename_i hi
      rw [List.getElem?_eq_none (by omega)]
  | _ =>
    rw [World.cell?, List.getElem?_eq_getElem (by omega)] at e0
    simp [Array.getElem?_eq_getElem hb, hq] at e0
end Go.Proofs.YtpnpccnbpgckhabGreat.B
