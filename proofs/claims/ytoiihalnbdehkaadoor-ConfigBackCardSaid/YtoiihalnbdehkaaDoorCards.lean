/-
  DERIVED. GIVEN WITH THE SEED: THE CARDS: each row of YtoiihalnbdehkaaDoorRows.lean that lists a variable, with what it lists TIED to the program's text (the seventh form; the later family's looks); each row that meets fmt, with fmt's text TOLD by the authors' own Lean function (tested against real Go, not proved from fmt's source: count such statements apart). THE CARD IS WHAT COUNTS. Prove the row's statement (the work); the ties are given (YtoiihalnbdehkaaDoorTie.lean); close each card by the builder's one call (the guide's Derived/Test/ToyasCard.lean, 'card_holds'). Laid BY PROGRAM, IN A SANDBOX (cutbox-door.mjs). By AI agents, Wed Nov 11 2026. No macro, syntax, notation, axiom, sorry.
-/
import Derived.Test.YtoiihalnbdehkaaDoorRows
import GoSem.ClaimSeven
namespace Go.Proofs.YtoiihalnbdehkaaDoor
namespace Rows

/-- THE TIED CARD OF 'fingerpostlaw34.WatchApplies'. -/
def watchAppliesCard : Claim7 := { stood := { row := watchAppliesRow, standIns := [], harness := (true, "e0dd6696a6847588ba36fa923254bf5b8f8e8902f17cf53f99328e207e323d13"), looks := true }, kinds := [], alts := [], laidByText := true, laidKinds := [.data, .data, .data, .data], laidTests := true, laidLooks := .later }
def WatchAppliesCardSaid : Prop := Claim7.holds Tryd.pinned (.plain (OpenSpec.ofChange watchAppliesSpec)) watchAppliesCard

/-- THE TIED CARD OF 'fingerpostlaw01.RankTexts'. -/
def rankTextsCard : Claim7 := { stood := { row := rankTextsRow, standIns := [], harness := (true, "e0dd6696a6847588ba36fa923254bf5b8f8e8902f17cf53f99328e207e323d13"), looks := true }, kinds := [], alts := [], laidByText := true, laidKinds := [.data, .data, .data, .sentinel, .sentinel], laidTests := true, laidLooks := .later }
def RankTextsCardSaid : Prop := Claim7.holds Tryd.pinned (.plain (OpenSpec.ofChange rankTextsSpec)) rankTextsCard

/-- THE TIED CARD OF 'fingerpostlaw23.ConfigReads'. -/
def configReadsCard : Claim7 := { stood := { row := configReadsRow, standIns := [], harness := (true, "e0dd6696a6847588ba36fa923254bf5b8f8e8902f17cf53f99328e207e323d13"), looks := true }, kinds := [], alts := [], laidByText := true, laidKinds := [.data, .data, .data, .data, .sentinel, .sentinel, .pinned], laidTests := true, laidLooks := .later }
def ConfigReadsCardSaid : Prop := Claim7.holds Tryd.pinned (.plain (OpenSpec.ofChange configReadsSpec)) configReadsCard

/-- THE TIED CARD OF 'fingerpostlaw23.ConfigWrites'. -/
def configWritesCard : Claim7 := { stood := { row := configWritesRow, standIns := [], harness := (true, "e0dd6696a6847588ba36fa923254bf5b8f8e8902f17cf53f99328e207e323d13"), looks := true }, kinds := [], alts := [], laidByText := true, laidKinds := [.data, .data, .data, .data, .sentinel, .sentinel, .pinned], laidTests := true, laidLooks := .later }
def ConfigWritesCardSaid : Prop := Claim7.holds Tryd.pinned (.plain (OpenSpec.ofChange configWritesSpec)) configWritesCard

/-- THE TIED CARD OF 'fingerpostlaw23.ConfigBack'. -/
def configBackCard : Claim7 := { stood := { row := configBackRow, standIns := [], harness := (true, "e0dd6696a6847588ba36fa923254bf5b8f8e8902f17cf53f99328e207e323d13"), looks := true }, kinds := [], alts := [], laidByText := true, laidKinds := [.data, .data, .data, .data, .sentinel, .sentinel, .pinned], laidTests := true, laidLooks := .later }
def ConfigBackCardSaid : Prop := Claim7.holds Tryd.pinned (.plain (OpenSpec.ofChange configBackSpec)) configBackCard

/-- THE TIED CARD OF 'fingerpostlaw23.ConfigFits'. -/
def configFitsCard : Claim7 := { stood := { row := configFitsRow, standIns := [], harness := (true, "e0dd6696a6847588ba36fa923254bf5b8f8e8902f17cf53f99328e207e323d13"), looks := true }, kinds := [], alts := [], laidByText := true, laidKinds := [.data, .data, .data, .data, .sentinel, .sentinel, .pinned], laidTests := true, laidLooks := .later }
def ConfigFitsCardSaid : Prop := Claim7.holds Tryd.pinned (.plain (OpenSpec.ofChange configFitsSpec)) configFitsCard

/-- THE TIED CARD OF 'fingerpostlaw26.QueryAsks'. -/
def queryAsksCard : Claim7 := { stood := { row := queryAsksRow, standIns := [], harness := (true, "e0dd6696a6847588ba36fa923254bf5b8f8e8902f17cf53f99328e207e323d13"), looks := true }, kinds := [], alts := [], laidByText := true, laidKinds := [.data, .data, .data, .data], laidTests := true, laidLooks := .later }
def QueryAsksCardSaid : Prop := Claim7.holds Tryd.pinned (.plain (OpenSpec.ofChange queryAsksSpec)) queryAsksCard

/-- THE TIED CARD OF 'fingerpostlaw26.QueryEach'. -/
def queryEachCard : Claim7 := { stood := { row := queryEachRow, standIns := [], harness := (true, "e0dd6696a6847588ba36fa923254bf5b8f8e8902f17cf53f99328e207e323d13"), looks := true }, kinds := [], alts := [], laidByText := true, laidKinds := [.data, .data, .data, .data], laidTests := true, laidLooks := .later }
def QueryEachCardSaid : Prop := Claim7.holds Tryd.pinned (.plain (OpenSpec.ofChange queryEachSpec)) queryEachCard

/-- THE TIED CARD OF 'fingerpostlaw26.QueryStatus'. -/
def queryStatusCard : Claim7 := { stood := { row := queryStatusRow, standIns := [], harness := (true, "e0dd6696a6847588ba36fa923254bf5b8f8e8902f17cf53f99328e207e323d13"), looks := true }, kinds := [], alts := [], laidByText := true, laidKinds := [.data, .data, .data, .data], laidTests := true, laidLooks := .later }
def QueryStatusCardSaid : Prop := Claim7.holds Tryd.pinned (.plain (OpenSpec.ofChange queryStatusSpec)) queryStatusCard

/-- THE SECOND FORM's CARD OF 'fingerpostlaw34.WatchApplies'. -/
def watchAppliesUptoCard : Claim7 := { stood := { row := watchAppliesUptoRow, standIns := [], harness := (true, "e0dd6696a6847588ba36fa923254bf5b8f8e8902f17cf53f99328e207e323d13"), looks := true }, kinds := [], alts := [], laidByText := true, laidKinds := [.data, .data, .data, .data], laidTests := true, laidLooks := .later }
def WatchAppliesUptoCardSaid : Prop := Claim7.holds Tryd.pinned (.plain (OpenSpec.upto watchAppliesSpec)) watchAppliesUptoCard

/-- THE SECOND FORM's CARD OF 'fingerpostlaw01.RankTexts'. -/
def rankTextsUptoCard : Claim7 := { stood := { row := rankTextsUptoRow, standIns := [], harness := (true, "e0dd6696a6847588ba36fa923254bf5b8f8e8902f17cf53f99328e207e323d13"), looks := true }, kinds := [], alts := [], laidByText := true, laidKinds := [.data, .data, .data, .sentinel, .sentinel], laidTests := true, laidLooks := .later }
def RankTextsUptoCardSaid : Prop := Claim7.holds Tryd.pinned (.plain (OpenSpec.upto rankTextsSpec)) rankTextsUptoCard

/-- THE SECOND FORM's CARD OF 'fingerpostlaw23.ConfigReads'. -/
def configReadsUptoCard : Claim7 := { stood := { row := configReadsUptoRow, standIns := [], harness := (true, "e0dd6696a6847588ba36fa923254bf5b8f8e8902f17cf53f99328e207e323d13"), looks := true }, kinds := [], alts := [], laidByText := true, laidKinds := [.data, .data, .data, .data, .sentinel, .sentinel, .pinned], laidTests := true, laidLooks := .later }
def ConfigReadsUptoCardSaid : Prop := Claim7.holds Tryd.pinned (.plain (OpenSpec.upto configReadsSpec)) configReadsUptoCard

/-- THE SECOND FORM's CARD OF 'fingerpostlaw23.ConfigWrites'. -/
def configWritesUptoCard : Claim7 := { stood := { row := configWritesUptoRow, standIns := [], harness := (true, "e0dd6696a6847588ba36fa923254bf5b8f8e8902f17cf53f99328e207e323d13"), looks := true }, kinds := [], alts := [], laidByText := true, laidKinds := [.data, .data, .data, .data, .sentinel, .sentinel, .pinned], laidTests := true, laidLooks := .later }
def ConfigWritesUptoCardSaid : Prop := Claim7.holds Tryd.pinned (.plain (OpenSpec.upto configWritesSpec)) configWritesUptoCard

/-- THE SECOND FORM's CARD OF 'fingerpostlaw23.ConfigBack'. -/
def configBackUptoCard : Claim7 := { stood := { row := configBackUptoRow, standIns := [], harness := (true, "e0dd6696a6847588ba36fa923254bf5b8f8e8902f17cf53f99328e207e323d13"), looks := true }, kinds := [], alts := [], laidByText := true, laidKinds := [.data, .data, .data, .data, .sentinel, .sentinel, .pinned], laidTests := true, laidLooks := .later }
def ConfigBackUptoCardSaid : Prop := Claim7.holds Tryd.pinned (.plain (OpenSpec.upto configBackSpec)) configBackUptoCard

/-- THE SECOND FORM's CARD OF 'fingerpostlaw23.ConfigFits'. -/
def configFitsUptoCard : Claim7 := { stood := { row := configFitsUptoRow, standIns := [], harness := (true, "e0dd6696a6847588ba36fa923254bf5b8f8e8902f17cf53f99328e207e323d13"), looks := true }, kinds := [], alts := [], laidByText := true, laidKinds := [.data, .data, .data, .data, .sentinel, .sentinel, .pinned], laidTests := true, laidLooks := .later }
def ConfigFitsUptoCardSaid : Prop := Claim7.holds Tryd.pinned (.plain (OpenSpec.upto configFitsSpec)) configFitsUptoCard

/-- THE SECOND FORM's CARD OF 'fingerpostlaw26.QueryAsks'. -/
def queryAsksUptoCard : Claim7 := { stood := { row := queryAsksUptoRow, standIns := [], harness := (true, "e0dd6696a6847588ba36fa923254bf5b8f8e8902f17cf53f99328e207e323d13"), looks := true }, kinds := [], alts := [], laidByText := true, laidKinds := [.data, .data, .data, .data], laidTests := true, laidLooks := .later }
def QueryAsksUptoCardSaid : Prop := Claim7.holds Tryd.pinned (.plain (OpenSpec.upto queryAsksSpec)) queryAsksUptoCard

/-- THE SECOND FORM's CARD OF 'fingerpostlaw26.QueryEach'. -/
def queryEachUptoCard : Claim7 := { stood := { row := queryEachUptoRow, standIns := [], harness := (true, "e0dd6696a6847588ba36fa923254bf5b8f8e8902f17cf53f99328e207e323d13"), looks := true }, kinds := [], alts := [], laidByText := true, laidKinds := [.data, .data, .data, .data], laidTests := true, laidLooks := .later }
def QueryEachUptoCardSaid : Prop := Claim7.holds Tryd.pinned (.plain (OpenSpec.upto queryEachSpec)) queryEachUptoCard

/-- THE SECOND FORM's CARD OF 'fingerpostlaw26.QueryStatus'. -/
def queryStatusUptoCard : Claim7 := { stood := { row := queryStatusUptoRow, standIns := [], harness := (true, "e0dd6696a6847588ba36fa923254bf5b8f8e8902f17cf53f99328e207e323d13"), looks := true }, kinds := [], alts := [], laidByText := true, laidKinds := [.data, .data, .data, .data], laidTests := true, laidLooks := .later }
def QueryStatusUptoCardSaid : Prop := Claim7.holds Tryd.pinned (.plain (OpenSpec.upto queryStatusSpec)) queryStatusUptoCard
end Rows
end Go.Proofs.YtoiihalnbdehkaaDoor
