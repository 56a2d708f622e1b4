/-
  DERIVED. GIVEN WITH THE SEED: THE CARDS: each row of YtgndlhmjolaeiaaDoorRows.lean that lists a variable, with what it lists TIED to the program's text (the seventh form; the later family's looks); each row that meets fmt, with fmt's text TOLD by the authors' own Lean function (tested against real Go, not proved from fmt's source: count such statements apart). THE CARD IS WHAT COUNTS. Prove the row's statement (the work); the ties are given (YtgndlhmjolaeiaaDoorTie.lean); close each card by the builder's one call (the guide's Derived/Test/ToyasCard.lean, 'card_holds'). Laid BY PROGRAM, IN A SANDBOX (cutbox-door.mjs). By AI agents, Wed Nov 11 2026. No macro, syntax, notation, axiom, sorry.
-/
import Derived.Test.YtgndlhmjolaeiaaDoorRows
import GoSem.ClaimSeven
namespace Go.Proofs.YtgndlhmjolaeiaaDoor
namespace Rows

/-- THE TIED CARD OF 'fingerpostlaw34.WatchDiffs'. -/
def watchDiffsCard : Claim7 := { stood := { row := watchDiffsRow, standIns := [], harness := (true, "8c6035247f630bbcef24d337744d6729ade85e32a1f77da51964e48e03581f47"), looks := false }, kinds := [], alts := [], laidByText := true, laidKinds := [.data, .data, .data, .data], laidTests := true, laidLooks := .later }
def WatchDiffsCardSaid : Prop := Claim7.holds Tryd.pinned (.plain (OpenSpec.ofChange watchDiffsSpec)) watchDiffsCard

/-- THE TIED CARD OF 'fingerpostlaw34.WatchTexts'. -/
def watchTextsCard : Claim7 := { stood := { row := watchTextsRow, standIns := [], harness := (true, "8c6035247f630bbcef24d337744d6729ade85e32a1f77da51964e48e03581f47"), looks := false }, kinds := [], alts := [], laidByText := true, laidKinds := [.data, .data, .data, .data], laidTests := true, laidLooks := .later }
def WatchTextsCardSaid : Prop := Claim7.holds Tryd.pinned (.plain (OpenSpec.ofChange watchTextsSpec)) watchTextsCard

/-- THE TIED CARD OF 'fingerpostlaw24.CountPlays'. -/
def countPlaysCard : Claim7 := { stood := { row := countPlaysRow, standIns := [], harness := (true, "8c6035247f630bbcef24d337744d6729ade85e32a1f77da51964e48e03581f47"), looks := false }, kinds := [], alts := [], laidByText := true, laidKinds := [.data, .data, .data, .data], laidTests := true, laidLooks := .later }
def CountPlaysCardSaid : Prop := Claim7.holds Tryd.pinned (.plain (OpenSpec.ofChange countPlaysSpec)) countPlaysCard

/-- THE TIED CARD OF 'fingerpostlaw24.CountNames'. -/
def countNamesCard : Claim7 := { stood := { row := countNamesRow, standIns := [], harness := (true, "8c6035247f630bbcef24d337744d6729ade85e32a1f77da51964e48e03581f47"), looks := false }, kinds := [], alts := [], laidByText := true, laidKinds := [.data, .data, .data, .data], laidTests := true, laidLooks := .later }
def CountNamesCardSaid : Prop := Claim7.holds Tryd.pinned (.plain (OpenSpec.ofChange countNamesSpec)) countNamesCard

/-- THE TIED CARD OF 'fingerpostlaw33.DoctorTexts'. -/
def doctorTextsCard : Claim7 := { stood := { row := doctorTextsRow, standIns := [], harness := (true, "8c6035247f630bbcef24d337744d6729ade85e32a1f77da51964e48e03581f47"), looks := false }, kinds := [], alts := [], laidByText := true, laidKinds := [.data, .data, .data, .data], laidTests := true, laidLooks := .later }
def DoctorTextsCardSaid : Prop := Claim7.holds Tryd.pinned (.plain (OpenSpec.ofChange doctorTextsSpec)) doctorTextsCard

/-- THE SECOND FORM's CARD OF 'fingerpostlaw34.WatchDiffs'. -/
def watchDiffsUptoCard : Claim7 := { stood := { row := watchDiffsUptoRow, standIns := [], harness := (true, "8c6035247f630bbcef24d337744d6729ade85e32a1f77da51964e48e03581f47"), looks := false }, kinds := [], alts := [], laidByText := true, laidKinds := [.data, .data, .data, .data], laidTests := true, laidLooks := .later }
def WatchDiffsUptoCardSaid : Prop := Claim7.holds Tryd.pinned (.plain (OpenSpec.upto watchDiffsSpec)) watchDiffsUptoCard

/-- THE SECOND FORM's CARD OF 'fingerpostlaw34.WatchTexts'. -/
def watchTextsUptoCard : Claim7 := { stood := { row := watchTextsUptoRow, standIns := [], harness := (true, "8c6035247f630bbcef24d337744d6729ade85e32a1f77da51964e48e03581f47"), looks := false }, kinds := [], alts := [], laidByText := true, laidKinds := [.data, .data, .data, .data], laidTests := true, laidLooks := .later }
def WatchTextsUptoCardSaid : Prop := Claim7.holds Tryd.pinned (.plain (OpenSpec.upto watchTextsSpec)) watchTextsUptoCard

/-- THE SECOND FORM's CARD OF 'fingerpostlaw24.CountPlays'. -/
def countPlaysUptoCard : Claim7 := { stood := { row := countPlaysUptoRow, standIns := [], harness := (true, "8c6035247f630bbcef24d337744d6729ade85e32a1f77da51964e48e03581f47"), looks := false }, kinds := [], alts := [], laidByText := true, laidKinds := [.data, .data, .data, .data], laidTests := true, laidLooks := .later }
def CountPlaysUptoCardSaid : Prop := Claim7.holds Tryd.pinned (.plain (OpenSpec.upto countPlaysSpec)) countPlaysUptoCard

/-- THE SECOND FORM's CARD OF 'fingerpostlaw24.CountNames'. -/
def countNamesUptoCard : Claim7 := { stood := { row := countNamesUptoRow, standIns := [], harness := (true, "8c6035247f630bbcef24d337744d6729ade85e32a1f77da51964e48e03581f47"), looks := false }, kinds := [], alts := [], laidByText := true, laidKinds := [.data, .data, .data, .data], laidTests := true, laidLooks := .later }
def CountNamesUptoCardSaid : Prop := Claim7.holds Tryd.pinned (.plain (OpenSpec.upto countNamesSpec)) countNamesUptoCard

/-- THE SECOND FORM's CARD OF 'fingerpostlaw33.DoctorTexts'. -/
def doctorTextsUptoCard : Claim7 := { stood := { row := doctorTextsUptoRow, standIns := [], harness := (true, "8c6035247f630bbcef24d337744d6729ade85e32a1f77da51964e48e03581f47"), looks := false }, kinds := [], alts := [], laidByText := true, laidKinds := [.data, .data, .data, .data], laidTests := true, laidLooks := .later }
def DoctorTextsUptoCardSaid : Prop := Claim7.holds Tryd.pinned (.plain (OpenSpec.upto doctorTextsSpec)) doctorTextsUptoCard
end Rows
end Go.Proofs.YtgndlhmjolaeiaaDoor
