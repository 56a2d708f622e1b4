/-
  No cell of these rows narrows 'for every input' (looked for: loops, veiled, ifaces, maps, wideKeys, modest, calm, conditions, laid).
  DERIVED. THE GIVEN ROWS OF THIS SEAT. 10 by the template 'for every input the law returns true; each argument reads behind the call as it read before'; 0 by the template 'total and deterministic' (their statements: YtmeojocmngbpaaaTotals.lean).
  GIVEN WITH THE SEED: the statements are not yours to turn. If you find one false, say at which input.
  Laid BY PROGRAM, IN A SANDBOX (cutbox-rows.mjs): the forced cells as the released guide's own fill.sh prints them over the translation 14bec09c36fbbd7e… (all of the seat's roots in one cut). By AI agents, Wed Nov 11 2026. No macro, syntax, notation, axiom, sorry.
-/
import Derived.Test.YtmeojocmngbpaaaChecked
import GoSem.Claim
import GoSem.ClaimJoined
import GoSem.ClaimMapViews
import Derived.JoinedTies
import Derived.KernelRfl
namespace Go.Proofs.Ytmeojocmngbpaaa
/- THE CELL 'sum', in the pinned program and in every row, IS THE sha256 OF THE DUMP (.gsa) THAT YtmeojocmngbpaaaProg.lean LOADS. Nothing in Lean hashes anything: it is a label: what it is worth is what the hold of that sum in a sandbox is worth. -/
noncomputable def Try.pinned : Pinned := { name := "ytmeojocmngbpaaa", sum := "14bec09c36fbbd7e94387454367b0b06400854cd7144bb66b43ef074f88079d6", checked := Try.checked }
namespace Rows
def none {H : Type} : Left H := { results := [], args := [] }

/-- 'fingerpostlaw01.RankOrders': WHATEVER THE INPUT: true; the input reads as it did. -/
def rankOrdersSpec : ChangeSpec := { name := "rankOrders", fn := fun _ => fun
  | [d1, d2] => { results := [.lit (.bool true)], args := [d1, d2] }
  | _ => none }
def rankOrdersRow : OpenClaim := { program := "ytmeojocmngbpaaa", sum := "14bec09c36fbbd7e94387454367b0b06400854cd7144bb66b43ef074f88079d6", func := "fingerpost/fingerpostlaw01.RankOrders", spec := "rankOrders", apart := false }
def RankOrdersSaid : Prop := rankOrdersRow.holds Try.pinned (OpenSpec.ofChange rankOrdersSpec)

/-- ITS FALSE NEIGHBOUR: 'it returns false'. Refute it at one input. -/
def rankOrdersWrong : ChangeSpec := { name := "rankOrders", fn := fun _ => fun
  | [d1, d2] => { results := [.lit (.bool false)], args := [d1, d2] }
  | _ => none }
def RankOrdersWrongFalsely : Prop := rankOrdersRow.holds Try.pinned (OpenSpec.ofChange rankOrdersWrong)

/-- 'fingerpostlaw01.RankLine': WHATEVER THE INPUT: true; the input reads as it did. -/
def rankLineSpec : ChangeSpec := { name := "rankLine", fn := fun _ => fun
  | [d1, d2, d3] => { results := [.lit (.bool true)], args := [d1, d2, d3] }
  | _ => none }
def rankLineRow : OpenClaim := { program := "ytmeojocmngbpaaa", sum := "14bec09c36fbbd7e94387454367b0b06400854cd7144bb66b43ef074f88079d6", func := "fingerpost/fingerpostlaw01.RankLine", spec := "rankLine", apart := false }
def RankLineSaid : Prop := rankLineRow.holds Try.pinned (OpenSpec.ofChange rankLineSpec)

/-- ITS FALSE NEIGHBOUR: 'it returns false'. Refute it at one input. -/
def rankLineWrong : ChangeSpec := { name := "rankLine", fn := fun _ => fun
  | [d1, d2, d3] => { results := [.lit (.bool false)], args := [d1, d2, d3] }
  | _ => none }
def RankLineWrongFalsely : Prop := rankLineRow.holds Try.pinned (OpenSpec.ofChange rankLineWrong)

/-- 'fingerpostlaw01.RankHops': WHATEVER THE INPUT: true; the input reads as it did. -/
def rankHopsSpec : ChangeSpec := { name := "rankHops", fn := fun _ => fun
  | [d1, d2] => { results := [.lit (.bool true)], args := [d1, d2] }
  | _ => none }
def rankHopsRow : OpenClaim := { program := "ytmeojocmngbpaaa", sum := "14bec09c36fbbd7e94387454367b0b06400854cd7144bb66b43ef074f88079d6", func := "fingerpost/fingerpostlaw01.RankHops", spec := "rankHops", apart := false }
def RankHopsSaid : Prop := rankHopsRow.holds Try.pinned (OpenSpec.ofChange rankHopsSpec)

/-- ITS FALSE NEIGHBOUR: 'it returns false'. Refute it at one input. -/
def rankHopsWrong : ChangeSpec := { name := "rankHops", fn := fun _ => fun
  | [d1, d2] => { results := [.lit (.bool false)], args := [d1, d2] }
  | _ => none }
def RankHopsWrongFalsely : Prop := rankHopsRow.holds Try.pinned (OpenSpec.ofChange rankHopsWrong)

/-- 'fingerpostlaw01.RankBests': WHATEVER THE INPUT: true; the input reads as it did. -/
def rankBestsSpec : ChangeSpec := { name := "rankBests", fn := fun _ => fun
  | [d] => { results := [.lit (.bool true)], args := [d] }
  | _ => none }
def rankBestsRow : OpenClaim := { program := "ytmeojocmngbpaaa", sum := "14bec09c36fbbd7e94387454367b0b06400854cd7144bb66b43ef074f88079d6", func := "fingerpost/fingerpostlaw01.RankBests", spec := "rankBests", apart := false }
def RankBestsSaid : Prop := rankBestsRow.holds Try.pinned (OpenSpec.ofChange rankBestsSpec)

/-- ITS FALSE NEIGHBOUR: 'it returns false'. Refute it at one input. -/
def rankBestsWrong : ChangeSpec := { name := "rankBests", fn := fun _ => fun
  | [d] => { results := [.lit (.bool false)], args := [d] }
  | _ => none }
def RankBestsWrongFalsely : Prop := rankBestsRow.holds Try.pinned (OpenSpec.ofChange rankBestsWrong)

/-- 'fingerpostlaw01.RankSteps': WHATEVER THE INPUT: true; the input reads as it did. -/
def rankStepsSpec : ChangeSpec := { name := "rankSteps", fn := fun _ => fun
  | [d1, d2] => { results := [.lit (.bool true)], args := [d1, d2] }
  | _ => none }
def rankStepsRow : OpenClaim := { program := "ytmeojocmngbpaaa", sum := "14bec09c36fbbd7e94387454367b0b06400854cd7144bb66b43ef074f88079d6", func := "fingerpost/fingerpostlaw01.RankSteps", spec := "rankSteps", apart := false }
def RankStepsSaid : Prop := rankStepsRow.holds Try.pinned (OpenSpec.ofChange rankStepsSpec)

/-- ITS FALSE NEIGHBOUR: 'it returns false'. Refute it at one input. -/
def rankStepsWrong : ChangeSpec := { name := "rankSteps", fn := fun _ => fun
  | [d1, d2] => { results := [.lit (.bool false)], args := [d1, d2] }
  | _ => none }
def RankStepsWrongFalsely : Prop := rankStepsRow.holds Try.pinned (OpenSpec.ofChange rankStepsWrong)

/-- 'fingerpostlaw22.FibNearer': WHATEVER THE INPUT: true; the input reads as it did. -/
def fibNearerSpec : ChangeSpec := { name := "fibNearer", fn := fun _ => fun
  | [d1, d2, d3] => { results := [.lit (.bool true)], args := [d1, d2, d3] }
  | _ => none }
def fibNearerRow : OpenClaim := { program := "ytmeojocmngbpaaa", sum := "14bec09c36fbbd7e94387454367b0b06400854cd7144bb66b43ef074f88079d6", func := "fingerpost/fingerpostlaw22.FibNearer", spec := "fibNearer", unfollowed := true, recurses := true, apart := false }
def FibNearerSaid : Prop := fibNearerRow.holds Try.pinned (OpenSpec.ofChange fibNearerSpec)

/-- ITS FALSE NEIGHBOUR: 'it returns false'. Refute it at one input. -/
def fibNearerWrong : ChangeSpec := { name := "fibNearer", fn := fun _ => fun
  | [d1, d2, d3] => { results := [.lit (.bool false)], args := [d1, d2, d3] }
  | _ => none }
def FibNearerWrongFalsely : Prop := fibNearerRow.holds Try.pinned (OpenSpec.ofChange fibNearerWrong)

/-- 'fingerpostlaw22.FibDiffs': WHATEVER THE INPUT: true; the input reads as it did. -/
def fibDiffsSpec : ChangeSpec := { name := "fibDiffs", fn := fun _ => fun
  | [d1, d2, d3] => { results := [.lit (.bool true)], args := [d1, d2, d3] }
  | _ => none }
def fibDiffsRow : OpenClaim := { program := "ytmeojocmngbpaaa", sum := "14bec09c36fbbd7e94387454367b0b06400854cd7144bb66b43ef074f88079d6", func := "fingerpost/fingerpostlaw22.FibDiffs", spec := "fibDiffs", unfollowed := true, recurses := true, apart := false }
def FibDiffsSaid : Prop := fibDiffsRow.holds Try.pinned (OpenSpec.ofChange fibDiffsSpec)

/-- ITS FALSE NEIGHBOUR: 'it returns false'. Refute it at one input. -/
def fibDiffsWrong : ChangeSpec := { name := "fibDiffs", fn := fun _ => fun
  | [d1, d2, d3] => { results := [.lit (.bool false)], args := [d1, d2, d3] }
  | _ => none }
def FibDiffsWrongFalsely : Prop := fibDiffsRow.holds Try.pinned (OpenSpec.ofChange fibDiffsWrong)

/-- 'fingerpostlaw22.FibWalks': WHATEVER THE INPUT: true; the input reads as it did. -/
def fibWalksSpec : ChangeSpec := { name := "fibWalks", fn := fun _ => fun
  | [d1, d2, d3] => { results := [.lit (.bool true)], args := [d1, d2, d3] }
  | _ => none }
def fibWalksRow : OpenClaim := { program := "ytmeojocmngbpaaa", sum := "14bec09c36fbbd7e94387454367b0b06400854cd7144bb66b43ef074f88079d6", func := "fingerpost/fingerpostlaw22.FibWalks", spec := "fibWalks", unfollowed := true, recurses := true, apart := false }
def FibWalksSaid : Prop := fibWalksRow.holds Try.pinned (OpenSpec.ofChange fibWalksSpec)

/-- ITS FALSE NEIGHBOUR: 'it returns false'. Refute it at one input. -/
def fibWalksWrong : ChangeSpec := { name := "fibWalks", fn := fun _ => fun
  | [d1, d2, d3] => { results := [.lit (.bool false)], args := [d1, d2, d3] }
  | _ => none }
def FibWalksWrongFalsely : Prop := fibWalksRow.holds Try.pinned (OpenSpec.ofChange fibWalksWrong)

/-- 'fingerpostlaw22.FibFar': WHATEVER THE INPUT: true; the input reads as it did. -/
def fibFarSpec : ChangeSpec := { name := "fibFar", fn := fun _ => fun
  | [d1, d2] => { results := [.lit (.bool true)], args := [d1, d2] }
  | _ => none }
def fibFarRow : OpenClaim := { program := "ytmeojocmngbpaaa", sum := "14bec09c36fbbd7e94387454367b0b06400854cd7144bb66b43ef074f88079d6", func := "fingerpost/fingerpostlaw22.FibFar", spec := "fibFar", unfollowed := true, recurses := true, apart := false }
def FibFarSaid : Prop := fibFarRow.holds Try.pinned (OpenSpec.ofChange fibFarSpec)

/-- ITS FALSE NEIGHBOUR: 'it returns false'. Refute it at one input. -/
def fibFarWrong : ChangeSpec := { name := "fibFar", fn := fun _ => fun
  | [d1, d2] => { results := [.lit (.bool false)], args := [d1, d2] }
  | _ => none }
def FibFarWrongFalsely : Prop := fibFarRow.holds Try.pinned (OpenSpec.ofChange fibFarWrong)

/-- 'fingerpostlaw32.PacketAll': WHATEVER THE INPUT: true; the input reads as it did. -/
def packetAllSpec : ChangeSpec := { name := "packetAll", fn := fun _ => fun
  | [d1, d2] => { results := [.lit (.bool true)], args := [d1, d2] }
  | _ => none }
def packetAllRow : OpenClaim := { program := "ytmeojocmngbpaaa", sum := "14bec09c36fbbd7e94387454367b0b06400854cd7144bb66b43ef074f88079d6", func := "fingerpost/fingerpostlaw32.PacketAll", spec := "packetAll", unfollowed := true, recurses := true, apart := false }
def PacketAllSaid : Prop := packetAllRow.holds Try.pinned (OpenSpec.ofChange packetAllSpec)

/-- ITS FALSE NEIGHBOUR: 'it returns false'. Refute it at one input. -/
def packetAllWrong : ChangeSpec := { name := "packetAll", fn := fun _ => fun
  | [d1, d2] => { results := [.lit (.bool false)], args := [d1, d2] }
  | _ => none }
def PacketAllWrongFalsely : Prop := packetAllRow.holds Try.pinned (OpenSpec.ofChange packetAllWrong)

/- THE SECOND FORM. 'bulk': how many values and letters a reading holds, each counted each time it is reached (what is shared counts as often as it is met; a slice's spare places count too). A statement '..UptoSaid' is the law's where the arguments, and the package variables that the reading takes, are together of bulk at most 1048576: NARROWER than '..Said'. Prove '..Said' where nothing that the law and all that it calls make is longer than what came in: it says more and counts as full. Else prove '..UptoSaid'. A law counts once. -/
mutual
def uptoBulk {H : Type} : DataW H → Nat
  | .lit (.string bytes) => bytes.length + 1
  | .lit _ => 1
  | .nil => 1
  | .ptr d => uptoBulk d + 1
  | .slice elems spare => uptoBulkAll elems + uptoBulkAll spare + 1
  | .agg parts => uptoBulkAll parts + 1
  | .iface _ d => uptoBulk d + 1
  | .map entries => uptoBulkEntries entries + 1
  | .held _ => 1
def uptoBulkAll {H : Type} : List (DataW H) → Nat
  | [] => 0
  | d :: r => uptoBulk d + uptoBulkAll r
def uptoBulkEntries {H : Type} : List (Lit × DataW H) → Nat
  | [] => 0
  | x :: r => uptoBulkEntry x + uptoBulkEntries r
def uptoBulkEntry {H : Type} : Lit × DataW H → Nat
  | (.string bytes, d) => bytes.length + uptoBulk d + 1
  | (_, d) => uptoBulk d + 1
 end
def uptoSmall : (H : Type) → List (DataW H) → Bool := fun _ ds => decide (uptoBulkAll ds ≤ 1048576)
def OpenSpec.upto (s : _root_.Go.ChangeSpec) : _root_.Go.OpenSpec := { _root_.Go.OpenSpec.ofChange s with cond := some uptoSmall }

/-- 'fingerpostlaw01.RankOrders', WHERE WHAT IT READS IS OF BULK AT MOST 1048576: true; the input reads as it did. -/
def rankOrdersUptoRow : OpenClaim := { program := "ytmeojocmngbpaaa", sum := "14bec09c36fbbd7e94387454367b0b06400854cd7144bb66b43ef074f88079d6", func := "fingerpost/fingerpostlaw01.RankOrders", spec := "rankOrders", apart := false, narrowed := true }
def RankOrdersUptoSaid : Prop := rankOrdersUptoRow.holds Try.pinned (OpenSpec.upto rankOrdersSpec)

/-- 'fingerpostlaw01.RankLine', WHERE WHAT IT READS IS OF BULK AT MOST 1048576: true; the input reads as it did. -/
def rankLineUptoRow : OpenClaim := { program := "ytmeojocmngbpaaa", sum := "14bec09c36fbbd7e94387454367b0b06400854cd7144bb66b43ef074f88079d6", func := "fingerpost/fingerpostlaw01.RankLine", spec := "rankLine", apart := false, narrowed := true }
def RankLineUptoSaid : Prop := rankLineUptoRow.holds Try.pinned (OpenSpec.upto rankLineSpec)

/-- 'fingerpostlaw01.RankHops', WHERE WHAT IT READS IS OF BULK AT MOST 1048576: true; the input reads as it did. -/
def rankHopsUptoRow : OpenClaim := { program := "ytmeojocmngbpaaa", sum := "14bec09c36fbbd7e94387454367b0b06400854cd7144bb66b43ef074f88079d6", func := "fingerpost/fingerpostlaw01.RankHops", spec := "rankHops", apart := false, narrowed := true }
def RankHopsUptoSaid : Prop := rankHopsUptoRow.holds Try.pinned (OpenSpec.upto rankHopsSpec)

/-- 'fingerpostlaw01.RankBests', WHERE WHAT IT READS IS OF BULK AT MOST 1048576: true; the input reads as it did. -/
def rankBestsUptoRow : OpenClaim := { program := "ytmeojocmngbpaaa", sum := "14bec09c36fbbd7e94387454367b0b06400854cd7144bb66b43ef074f88079d6", func := "fingerpost/fingerpostlaw01.RankBests", spec := "rankBests", apart := false, narrowed := true }
def RankBestsUptoSaid : Prop := rankBestsUptoRow.holds Try.pinned (OpenSpec.upto rankBestsSpec)

/-- 'fingerpostlaw01.RankSteps', WHERE WHAT IT READS IS OF BULK AT MOST 1048576: true; the input reads as it did. -/
def rankStepsUptoRow : OpenClaim := { program := "ytmeojocmngbpaaa", sum := "14bec09c36fbbd7e94387454367b0b06400854cd7144bb66b43ef074f88079d6", func := "fingerpost/fingerpostlaw01.RankSteps", spec := "rankSteps", apart := false, narrowed := true }
def RankStepsUptoSaid : Prop := rankStepsUptoRow.holds Try.pinned (OpenSpec.upto rankStepsSpec)

/-- 'fingerpostlaw22.FibNearer', WHERE WHAT IT READS IS OF BULK AT MOST 1048576: true; the input reads as it did. -/
def fibNearerUptoRow : OpenClaim := { program := "ytmeojocmngbpaaa", sum := "14bec09c36fbbd7e94387454367b0b06400854cd7144bb66b43ef074f88079d6", func := "fingerpost/fingerpostlaw22.FibNearer", spec := "fibNearer", unfollowed := true, recurses := true, apart := false, narrowed := true }
def FibNearerUptoSaid : Prop := fibNearerUptoRow.holds Try.pinned (OpenSpec.upto fibNearerSpec)

/-- 'fingerpostlaw22.FibDiffs', WHERE WHAT IT READS IS OF BULK AT MOST 1048576: true; the input reads as it did. -/
def fibDiffsUptoRow : OpenClaim := { program := "ytmeojocmngbpaaa", sum := "14bec09c36fbbd7e94387454367b0b06400854cd7144bb66b43ef074f88079d6", func := "fingerpost/fingerpostlaw22.FibDiffs", spec := "fibDiffs", unfollowed := true, recurses := true, apart := false, narrowed := true }
def FibDiffsUptoSaid : Prop := fibDiffsUptoRow.holds Try.pinned (OpenSpec.upto fibDiffsSpec)

/-- 'fingerpostlaw22.FibWalks', WHERE WHAT IT READS IS OF BULK AT MOST 1048576: true; the input reads as it did. -/
def fibWalksUptoRow : OpenClaim := { program := "ytmeojocmngbpaaa", sum := "14bec09c36fbbd7e94387454367b0b06400854cd7144bb66b43ef074f88079d6", func := "fingerpost/fingerpostlaw22.FibWalks", spec := "fibWalks", unfollowed := true, recurses := true, apart := false, narrowed := true }
def FibWalksUptoSaid : Prop := fibWalksUptoRow.holds Try.pinned (OpenSpec.upto fibWalksSpec)

/-- 'fingerpostlaw22.FibFar', WHERE WHAT IT READS IS OF BULK AT MOST 1048576: true; the input reads as it did. -/
def fibFarUptoRow : OpenClaim := { program := "ytmeojocmngbpaaa", sum := "14bec09c36fbbd7e94387454367b0b06400854cd7144bb66b43ef074f88079d6", func := "fingerpost/fingerpostlaw22.FibFar", spec := "fibFar", unfollowed := true, recurses := true, apart := false, narrowed := true }
def FibFarUptoSaid : Prop := fibFarUptoRow.holds Try.pinned (OpenSpec.upto fibFarSpec)

/-- 'fingerpostlaw32.PacketAll', WHERE WHAT IT READS IS OF BULK AT MOST 1048576: true; the input reads as it did. -/
def packetAllUptoRow : OpenClaim := { program := "ytmeojocmngbpaaa", sum := "14bec09c36fbbd7e94387454367b0b06400854cd7144bb66b43ef074f88079d6", func := "fingerpost/fingerpostlaw32.PacketAll", spec := "packetAll", unfollowed := true, recurses := true, apart := false, narrowed := true }
def PacketAllUptoSaid : Prop := packetAllUptoRow.holds Try.pinned (OpenSpec.upto packetAllSpec)

end Rows
end Go.Proofs.Ytmeojocmngbpaaa
