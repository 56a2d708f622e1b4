/-
  Contracts, with what was made let go.
-/
import Derived.Test.YtpnpccnbpgckhabGreatArF
namespace Go.Proofs.YtpnpccnbpgckhabGreat.B
open Go
set_option linter.unusedVariables false
variable {G : Nat} {P : Program}
theorem Spec.fin {f : FuncId} {args : List Value} {h h' h2 : AHeap} {v v2 : Value} (hs : Spec P G f args h v2 h2) (hf : Fin h v h' v2 h2) : Spec P G f args h v h' := by
  intro μ w a s l
  refine (hs μ w a s l).mono fun e w' ⟨v', μ', he, hr, st⟩ => ?_
  rcases hf with ⟨rfl, rfl⟩ | ⟨hle, σ, hemb, hvn⟩
  · exact ⟨v', μ', he, hr, st⟩
  · exact ⟨_, _, he, hvn.vr (fun b hb => hemb.tr hb) hr, Step.emb s st hemb hle⟩
/-- An answer without places: the heap is as it was. -/
theorem Spec.drop {f : FuncId} {args : List Value} {h h2 : AHeap} {v : Value} (hs : Spec P G f args h v h2) (p : Pre h h2) (hv : scalarB v = true) : Spec P G f args h v h := by
  obtain ⟨g, rfl⟩ := p
  exact hs.fin (Fin.scalar hv g)
theorem SpecX.bool {f : FuncId} {args : List Value} {h : AHeap} {q : Bool → Prop} (hs : SpecX P G f args h fun v' h' => Pre h h' ∧ ∃ b : Bool, v' = .bool b ∧ q b) : ∃ b : Bool, Spec P G f args h (.bool b) h ∧ q b := by
  obtain ⟨v', h', k, p, b, rfl, hq⟩ := hs
  exact ⟨b, k.drop p rfl, hq⟩
theorem SpecX.int {f : FuncId} {args : List Value} {h : AHeap} {ik : IntKind} {q : Int → Prop} (hs : SpecX P G f args h fun v' h' => Pre h h' ∧ ∃ n : Int, v' = .int ik n ∧ q n) : ∃ n : Int, Spec P G f args h (.int ik n) h ∧ q n := by
  obtain ⟨v', h', k, p, n, rfl, hq⟩ := hs
  exact ⟨n, k.drop p rfl, hq⟩
theorem SpecX.str {f : FuncId} {args : List Value} {h : AHeap} {q : ByteArray → Prop} (hs : SpecX P G f args h fun v' h' => Pre h h' ∧ ∃ s : ByteArray, v' = .string s ∧ q s) : ∃ s : ByteArray, Spec P G f args h (.string s) h ∧ q s := by
  obtain ⟨v', h', k, p, s, rfl, hq⟩ := hs
  exact ⟨s, k.drop p rfl, hq⟩
end Go.Proofs.YtpnpccnbpgckhabGreat.B
