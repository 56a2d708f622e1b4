/-
  DERIVED. GIVEN WITH THE SEED: THE CARDS: each row of YtmeojocmngbpaaaDoorRows.lean that lists a variable, with what it lists TIED to the program's text (the seventh form; the later family's looks); each row that meets fmt, with fmt's text TOLD by the authors' own Lean function (tested against real Go, not proved from fmt's source: count such statements apart). THE CARD IS WHAT COUNTS. Prove the row's statement (the work); the ties are given (YtmeojocmngbpaaaDoorTie.lean); close each card by the builder's one call (the guide's Derived/Test/ToyasCard.lean, 'card_holds'). Laid BY PROGRAM, IN A SANDBOX (cutbox-door.mjs). By AI agents, Wed Nov 11 2026. No macro, syntax, notation, axiom, sorry.
-/
import Derived.Test.YtmeojocmngbpaaaDoorRows
import GoSem.ClaimSeven
namespace Go.Proofs.YtmeojocmngbpaaaDoor
namespace Rows

/-- THE TIED CARD OF 'fingerpostlaw32.PacketSends'. -/
def packetSendsCard : Claim7 := { stood := { row := packetSendsRow, standIns := [], harness := (true, "d4259191199b9035d05d4efc754804410cf8c863495305dd58ef4556dd3269b4"), looks := false }, kinds := [], alts := [], laidByText := true, laidKinds := [.data], laidTests := true, laidLooks := .later }
def PacketSendsCardSaid : Prop := Claim7.holds Tryd.pinned (.plain (OpenSpec.ofChange packetSendsSpec)) packetSendsCard

/-- THE SECOND FORM's CARD OF 'fingerpostlaw32.PacketSends'. -/
def packetSendsUptoCard : Claim7 := { stood := { row := packetSendsUptoRow, standIns := [], harness := (true, "d4259191199b9035d05d4efc754804410cf8c863495305dd58ef4556dd3269b4"), looks := false }, kinds := [], alts := [], laidByText := true, laidKinds := [.data], laidTests := true, laidLooks := .later }
def PacketSendsUptoCardSaid : Prop := Claim7.holds Tryd.pinned (.plain (OpenSpec.upto packetSendsSpec)) packetSendsUptoCard
end Rows
end Go.Proofs.YtmeojocmngbpaaaDoor
