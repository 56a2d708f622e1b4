/-
  Rows of names.
-/
import Derived.Test.YtoiihalnbdehkaaDoorSr
namespace Go.Proofs.YtoiihalnbdehkaaDoor.B
open Go
set_option linter.unusedVariables false
set_option linter.unusedSimpArgs false
def nmS (L : List ByteArray) (n : Int) : ByteArray := if 0 ≤ n ∧ n < L.length then L.getD n.toNat ⟨#[]⟩ else ⟨#[]⟩
theorem nmS_out {L : List ByteArray} {n : Int} (h : ¬ (0 ≤ n ∧ n < L.length)) : nmS L n = ⟨#[]⟩ := by unfold nmS; rw [if_neg h]
theorem nmS_size {L : List ByteArray} {c : Nat} (h : L.all (fun x => decide (x.size ≤ c)) = true) (n : Int) : (nmS L n).size ≤ c := by
  unfold nmS
  split
  · rename_i q
    have hlt : n.toNat < L.length := by omega
    rw [List.getD_eq_getElem?_getD, List.getElem?_eq_getElem hlt]
    have := List.all_eq_true.1 h _ (List.getElem_mem hlt)
    simpa using this
  · exact Nat.zero_le _
theorem strs_at {L : List ByteArray} {k : Nat} (hk : k < L.length) : ((L.map Value.string).drop k).take 1 = [.string (L.getD k ⟨#[]⟩)] := by
  rw [List.drop_eq_getElem_cons (by simpa using hk), List.getD_eq_getElem?_getD, List.getElem?_eq_getElem hk]
  simp
theorem nm_rds {h : AHeap} {b : Nat} {m : Mode} {L : List ByteArray} {n : Int} (k : h[b]? = some (.row m (L.map Value.string))) (hn : 0 ≤ n ∧ n < L.length) : rds h b n.toNat 1 = some [.string (nmS L n)] := by
  have e : nmS L n = L.getD n.toNat ⟨#[]⟩ := by unfold nmS; rw [if_pos hn]
  rw [e]
  simp only [rds, k, List.length_map]
  rw [if_pos (by omega), strs_at (by omega)]
end Go.Proofs.YtoiihalnbdehkaaDoor.B
