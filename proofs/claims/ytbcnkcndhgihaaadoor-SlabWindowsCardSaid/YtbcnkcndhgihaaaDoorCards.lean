/-
  DERIVED. GIVEN WITH THE SEED: THE CARDS: each row of YtbcnkcndhgihaaaDoorRows.lean that lists a variable, with what it lists TIED to the program's text (the seventh form; the later family's looks); each row that meets fmt, with fmt's text TOLD by the authors' own Lean function (tested against real Go, not proved from fmt's source: count such statements apart). THE CARD IS WHAT COUNTS. Prove the row's statement (the work); the ties are given (YtbcnkcndhgihaaaDoorTie.lean); close each card by the builder's one call (the guide's Derived/Test/ToyasCard.lean, 'card_holds'). Laid BY PROGRAM, IN A SANDBOX (cutbox-door.mjs). By AI agents, Wed Nov 11 2026. No macro, syntax, notation, axiom, sorry.
-/
import Derived.Test.YtbcnkcndhgihaaaDoorRows
import GoSem.ClaimSeven
namespace Go.Proofs.YtbcnkcndhgihaaaDoor
namespace Rows

/-- THE TIED CARD OF 'pantoscopelaw02.SlabChecks'. -/
def slabChecksCard : Claim7 := { stood := { row := slabChecksRow, standIns := [], harness := (true, "32c6d57e1df517c5e357f1ad462dc051173112090b7fcd93149509a75ed890d0"), looks := true }, kinds := [], alts := [], laidByText := true, laidKinds := [.data, .data, .data, .data, .sentinel, .sentinel, .pinned], laidTests := true, laidLooks := .later }
def SlabChecksCardSaid : Prop := Claim7.holds Tryd.pinned (.plain (OpenSpec.ofChange slabChecksSpec)) slabChecksCard

/-- THE TIED CARD OF 'pantoscopelaw02.SlabCells'. -/
def slabCellsCard : Claim7 := { stood := { row := slabCellsRow, standIns := [], harness := (true, "32c6d57e1df517c5e357f1ad462dc051173112090b7fcd93149509a75ed890d0"), looks := true }, kinds := [], alts := [], laidByText := true, laidKinds := [.data, .data, .data, .data, .sentinel, .sentinel, .pinned], laidTests := true, laidLooks := .later }
def SlabCellsCardSaid : Prop := Claim7.holds Tryd.pinned (.plain (OpenSpec.ofChange slabCellsSpec)) slabCellsCard

/-- THE TIED CARD OF 'pantoscopelaw02.SlabEquals'. -/
def slabEqualsCard : Claim7 := { stood := { row := slabEqualsRow, standIns := [], harness := (true, "32c6d57e1df517c5e357f1ad462dc051173112090b7fcd93149509a75ed890d0"), looks := true }, kinds := [], alts := [], laidByText := true, laidKinds := [.data, .data, .data, .data, .sentinel, .sentinel, .pinned], laidTests := true, laidLooks := .later }
def SlabEqualsCardSaid : Prop := Claim7.holds Tryd.pinned (.plain (OpenSpec.ofChange slabEqualsSpec)) slabEqualsCard

/-- THE TIED CARD OF 'pantoscopelaw02.SlabTurns'. -/
def slabTurnsCard : Claim7 := { stood := { row := slabTurnsRow, standIns := [], harness := (true, "32c6d57e1df517c5e357f1ad462dc051173112090b7fcd93149509a75ed890d0"), looks := true }, kinds := [], alts := [], laidByText := true, laidKinds := [.data, .data, .data, .data, .sentinel, .sentinel, .pinned], laidTests := true, laidLooks := .later }
def SlabTurnsCardSaid : Prop := Claim7.holds Tryd.pinned (.plain (OpenSpec.ofChange slabTurnsSpec)) slabTurnsCard

/-- THE TIED CARD OF 'pantoscopelaw02.SlabAlgebra'. -/
def slabAlgebraCard : Claim7 := { stood := { row := slabAlgebraRow, standIns := [], harness := (true, "32c6d57e1df517c5e357f1ad462dc051173112090b7fcd93149509a75ed890d0"), looks := true }, kinds := [], alts := [], laidByText := true, laidKinds := [.data, .data, .data, .data, .sentinel, .sentinel, .pinned], laidTests := true, laidLooks := .later }
def SlabAlgebraCardSaid : Prop := Claim7.holds Tryd.pinned (.plain (OpenSpec.ofChange slabAlgebraSpec)) slabAlgebraCard

/-- THE TIED CARD OF 'pantoscopelaw02.SlabVolumes'. -/
def slabVolumesCard : Claim7 := { stood := { row := slabVolumesRow, standIns := [], harness := (true, "32c6d57e1df517c5e357f1ad462dc051173112090b7fcd93149509a75ed890d0"), looks := true }, kinds := [], alts := [], laidByText := true, laidKinds := [.data, .data, .data, .data, .sentinel, .sentinel, .pinned], laidTests := true, laidLooks := .later }
def SlabVolumesCardSaid : Prop := Claim7.holds Tryd.pinned (.plain (OpenSpec.ofChange slabVolumesSpec)) slabVolumesCard

/-- THE TIED CARD OF 'pantoscopelaw02.SlabWindows'. -/
def slabWindowsCard : Claim7 := { stood := { row := slabWindowsRow, standIns := [], harness := (true, "32c6d57e1df517c5e357f1ad462dc051173112090b7fcd93149509a75ed890d0"), looks := true }, kinds := [], alts := [], laidByText := true, laidKinds := [.data, .data, .data, .data, .sentinel, .sentinel, .pinned], laidTests := true, laidLooks := .later }
def SlabWindowsCardSaid : Prop := Claim7.holds Tryd.pinned (.plain (OpenSpec.ofChange slabWindowsSpec)) slabWindowsCard

/-- THE TIED CARD OF 'pantoscopelaw02.SlabSheets'. -/
def slabSheetsCard : Claim7 := { stood := { row := slabSheetsRow, standIns := [], harness := (true, "32c6d57e1df517c5e357f1ad462dc051173112090b7fcd93149509a75ed890d0"), looks := true }, kinds := [], alts := [], laidByText := true, laidKinds := [.data, .data, .data, .data, .sentinel, .sentinel, .pinned], laidTests := true, laidLooks := .later }
def SlabSheetsCardSaid : Prop := Claim7.holds Tryd.pinned (.plain (OpenSpec.ofChange slabSheetsSpec)) slabSheetsCard

/-- THE TIED CARD OF 'pantoscopelaw02.SlabSeasons'. -/
def slabSeasonsCard : Claim7 := { stood := { row := slabSeasonsRow, standIns := [], harness := (true, "32c6d57e1df517c5e357f1ad462dc051173112090b7fcd93149509a75ed890d0"), looks := true }, kinds := [], alts := [], laidByText := true, laidKinds := [.data, .data, .data, .data, .sentinel, .sentinel, .pinned], laidTests := true, laidLooks := .later }
def SlabSeasonsCardSaid : Prop := Claim7.holds Tryd.pinned (.plain (OpenSpec.ofChange slabSeasonsSpec)) slabSeasonsCard

/-- THE TIED CARD OF 'pantoscopelaw02.SlabOvens'. -/
def slabOvensCard : Claim7 := { stood := { row := slabOvensRow, standIns := [], harness := (true, "32c6d57e1df517c5e357f1ad462dc051173112090b7fcd93149509a75ed890d0"), looks := true }, kinds := [], alts := [], laidByText := true, laidKinds := [.data, .data, .data, .data, .sentinel, .sentinel, .pinned], laidTests := true, laidLooks := .later }
def SlabOvensCardSaid : Prop := Claim7.holds Tryd.pinned (.plain (OpenSpec.ofChange slabOvensSpec)) slabOvensCard

/-- THE SECOND FORM's CARD OF 'pantoscopelaw02.SlabChecks'. -/
def slabChecksUptoCard : Claim7 := { stood := { row := slabChecksUptoRow, standIns := [], harness := (true, "32c6d57e1df517c5e357f1ad462dc051173112090b7fcd93149509a75ed890d0"), looks := true }, kinds := [], alts := [], laidByText := true, laidKinds := [.data, .data, .data, .data, .sentinel, .sentinel, .pinned], laidTests := true, laidLooks := .later }
def SlabChecksUptoCardSaid : Prop := Claim7.holds Tryd.pinned (.plain (OpenSpec.upto slabChecksSpec)) slabChecksUptoCard

/-- THE SECOND FORM's CARD OF 'pantoscopelaw02.SlabCells'. -/
def slabCellsUptoCard : Claim7 := { stood := { row := slabCellsUptoRow, standIns := [], harness := (true, "32c6d57e1df517c5e357f1ad462dc051173112090b7fcd93149509a75ed890d0"), looks := true }, kinds := [], alts := [], laidByText := true, laidKinds := [.data, .data, .data, .data, .sentinel, .sentinel, .pinned], laidTests := true, laidLooks := .later }
def SlabCellsUptoCardSaid : Prop := Claim7.holds Tryd.pinned (.plain (OpenSpec.upto slabCellsSpec)) slabCellsUptoCard

/-- THE SECOND FORM's CARD OF 'pantoscopelaw02.SlabEquals'. -/
def slabEqualsUptoCard : Claim7 := { stood := { row := slabEqualsUptoRow, standIns := [], harness := (true, "32c6d57e1df517c5e357f1ad462dc051173112090b7fcd93149509a75ed890d0"), looks := true }, kinds := [], alts := [], laidByText := true, laidKinds := [.data, .data, .data, .data, .sentinel, .sentinel, .pinned], laidTests := true, laidLooks := .later }
def SlabEqualsUptoCardSaid : Prop := Claim7.holds Tryd.pinned (.plain (OpenSpec.upto slabEqualsSpec)) slabEqualsUptoCard

/-- THE SECOND FORM's CARD OF 'pantoscopelaw02.SlabTurns'. -/
def slabTurnsUptoCard : Claim7 := { stood := { row := slabTurnsUptoRow, standIns := [], harness := (true, "32c6d57e1df517c5e357f1ad462dc051173112090b7fcd93149509a75ed890d0"), looks := true }, kinds := [], alts := [], laidByText := true, laidKinds := [.data, .data, .data, .data, .sentinel, .sentinel, .pinned], laidTests := true, laidLooks := .later }
def SlabTurnsUptoCardSaid : Prop := Claim7.holds Tryd.pinned (.plain (OpenSpec.upto slabTurnsSpec)) slabTurnsUptoCard

/-- THE SECOND FORM's CARD OF 'pantoscopelaw02.SlabAlgebra'. -/
def slabAlgebraUptoCard : Claim7 := { stood := { row := slabAlgebraUptoRow, standIns := [], harness := (true, "32c6d57e1df517c5e357f1ad462dc051173112090b7fcd93149509a75ed890d0"), looks := true }, kinds := [], alts := [], laidByText := true, laidKinds := [.data, .data, .data, .data, .sentinel, .sentinel, .pinned], laidTests := true, laidLooks := .later }
def SlabAlgebraUptoCardSaid : Prop := Claim7.holds Tryd.pinned (.plain (OpenSpec.upto slabAlgebraSpec)) slabAlgebraUptoCard

/-- THE SECOND FORM's CARD OF 'pantoscopelaw02.SlabVolumes'. -/
def slabVolumesUptoCard : Claim7 := { stood := { row := slabVolumesUptoRow, standIns := [], harness := (true, "32c6d57e1df517c5e357f1ad462dc051173112090b7fcd93149509a75ed890d0"), looks := true }, kinds := [], alts := [], laidByText := true, laidKinds := [.data, .data, .data, .data, .sentinel, .sentinel, .pinned], laidTests := true, laidLooks := .later }
def SlabVolumesUptoCardSaid : Prop := Claim7.holds Tryd.pinned (.plain (OpenSpec.upto slabVolumesSpec)) slabVolumesUptoCard

/-- THE SECOND FORM's CARD OF 'pantoscopelaw02.SlabWindows'. -/
def slabWindowsUptoCard : Claim7 := { stood := { row := slabWindowsUptoRow, standIns := [], harness := (true, "32c6d57e1df517c5e357f1ad462dc051173112090b7fcd93149509a75ed890d0"), looks := true }, kinds := [], alts := [], laidByText := true, laidKinds := [.data, .data, .data, .data, .sentinel, .sentinel, .pinned], laidTests := true, laidLooks := .later }
def SlabWindowsUptoCardSaid : Prop := Claim7.holds Tryd.pinned (.plain (OpenSpec.upto slabWindowsSpec)) slabWindowsUptoCard

/-- THE SECOND FORM's CARD OF 'pantoscopelaw02.SlabSheets'. -/
def slabSheetsUptoCard : Claim7 := { stood := { row := slabSheetsUptoRow, standIns := [], harness := (true, "32c6d57e1df517c5e357f1ad462dc051173112090b7fcd93149509a75ed890d0"), looks := true }, kinds := [], alts := [], laidByText := true, laidKinds := [.data, .data, .data, .data, .sentinel, .sentinel, .pinned], laidTests := true, laidLooks := .later }
def SlabSheetsUptoCardSaid : Prop := Claim7.holds Tryd.pinned (.plain (OpenSpec.upto slabSheetsSpec)) slabSheetsUptoCard

/-- THE SECOND FORM's CARD OF 'pantoscopelaw02.SlabSeasons'. -/
def slabSeasonsUptoCard : Claim7 := { stood := { row := slabSeasonsUptoRow, standIns := [], harness := (true, "32c6d57e1df517c5e357f1ad462dc051173112090b7fcd93149509a75ed890d0"), looks := true }, kinds := [], alts := [], laidByText := true, laidKinds := [.data, .data, .data, .data, .sentinel, .sentinel, .pinned], laidTests := true, laidLooks := .later }
def SlabSeasonsUptoCardSaid : Prop := Claim7.holds Tryd.pinned (.plain (OpenSpec.upto slabSeasonsSpec)) slabSeasonsUptoCard

/-- THE SECOND FORM's CARD OF 'pantoscopelaw02.SlabOvens'. -/
def slabOvensUptoCard : Claim7 := { stood := { row := slabOvensUptoRow, standIns := [], harness := (true, "32c6d57e1df517c5e357f1ad462dc051173112090b7fcd93149509a75ed890d0"), looks := true }, kinds := [], alts := [], laidByText := true, laidKinds := [.data, .data, .data, .data, .sentinel, .sentinel, .pinned], laidTests := true, laidLooks := .later }
def SlabOvensUptoCardSaid : Prop := Claim7.holds Tryd.pinned (.plain (OpenSpec.upto slabOvensSpec)) slabOvensUptoCard
end Rows
end Go.Proofs.YtbcnkcndhgihaaaDoor
