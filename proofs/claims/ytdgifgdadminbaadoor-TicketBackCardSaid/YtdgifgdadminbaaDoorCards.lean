/-
  DERIVED. GIVEN WITH THE SEED: THE CARDS: each row of YtdgifgdadminbaaDoorRows.lean that lists a variable, with what it lists TIED to the program's text (the seventh form; the later family's looks); each row that meets fmt, with fmt's text TOLD by the authors' own Lean function (tested against real Go, not proved from fmt's source: count such statements apart). THE CARD IS WHAT COUNTS. Prove the row's statement (the work); the ties are given (YtdgifgdadminbaaDoorTie.lean); close each card by the builder's one call (the guide's Derived/Test/ToyasCard.lean, 'card_holds'). Laid BY PROGRAM, IN A SANDBOX (cutbox-door.mjs). By AI agents, Wed Nov 11 2026. No macro, syntax, notation, axiom, sorry.
-/
import Derived.Test.YtdgifgdadminbaaDoorRows
import GoSem.ClaimSeven
namespace Go.Proofs.YtdgifgdadminbaaDoor
namespace Rows

/-- THE TIED CARD OF 'jitneylaw23.FileParses'. -/
def fileParsesCard : Claim7 := { stood := { row := fileParsesRow, standIns := [], harness := (true, "b578caee980649a427b8f2d14350d3eef8716f974663b603e5d8645bef35537d"), looks := true }, kinds := [], alts := [], laidByText := true, laidKinds := [.data, .data, .data, .data, .pinned], laidTests := true, laidLooks := .later }
def FileParsesCardSaid : Prop := Claim7.holds Tryd.pinned (.plain (OpenSpec.ofChange fileParsesSpec)) fileParsesCard

/-- THE TIED CARD OF 'jitneylaw23.FileLines'. -/
def fileLinesCard : Claim7 := { stood := { row := fileLinesRow, standIns := [], harness := (true, "b578caee980649a427b8f2d14350d3eef8716f974663b603e5d8645bef35537d"), looks := true }, kinds := [], alts := [], laidByText := true, laidKinds := [.data, .data, .data, .data, .pinned], laidTests := true, laidLooks := .later }
def FileLinesCardSaid : Prop := Claim7.holds Tryd.pinned (.plain (OpenSpec.ofChange fileLinesSpec)) fileLinesCard

/-- THE TIED CARD OF 'jitneylaw23.FilePrints'. -/
def filePrintsCard : Claim7 := { stood := { row := filePrintsRow, standIns := [], harness := (true, "b578caee980649a427b8f2d14350d3eef8716f974663b603e5d8645bef35537d"), looks := true }, kinds := [], alts := [], laidByText := true, laidKinds := [.data, .data, .data, .data, .pinned], laidTests := true, laidLooks := .later }
def FilePrintsCardSaid : Prop := Claim7.holds Tryd.pinned (.plain (OpenSpec.ofChange filePrintsSpec)) filePrintsCard

/-- THE TIED CARD OF 'jitneylaw23.FileBack'. -/
def fileBackCard : Claim7 := { stood := { row := fileBackRow, standIns := [], harness := (true, "b578caee980649a427b8f2d14350d3eef8716f974663b603e5d8645bef35537d"), looks := true }, kinds := [], alts := [], laidByText := true, laidKinds := [.data, .data, .data, .data, .pinned], laidTests := true, laidLooks := .later }
def FileBackCardSaid : Prop := Claim7.holds Tryd.pinned (.plain (OpenSpec.ofChange fileBackSpec)) fileBackCard

/-- THE TIED CARD OF 'jitneylaw23.FileTurns'. -/
def fileTurnsCard : Claim7 := { stood := { row := fileTurnsRow, standIns := [], harness := (true, "b578caee980649a427b8f2d14350d3eef8716f974663b603e5d8645bef35537d"), looks := true }, kinds := [], alts := [], laidByText := true, laidKinds := [.data, .data, .data, .data, .pinned], laidTests := true, laidLooks := .later }
def FileTurnsCardSaid : Prop := Claim7.holds Tryd.pinned (.plain (OpenSpec.ofChange fileTurnsSpec)) fileTurnsCard

/-- THE TIED CARD OF 'jitneylaw27.VerbPrints'. -/
def verbPrintsCard : Claim7 := { stood := { row := verbPrintsRow, standIns := [], harness := (true, "b578caee980649a427b8f2d14350d3eef8716f974663b603e5d8645bef35537d"), looks := true }, kinds := [], alts := [], laidByText := true, laidKinds := [.data, .data, .data, .data, .widerDeep, .pinned], laidTests := true, laidLooks := .later }
def VerbPrintsCardSaid : Prop := Claim7.holds Tryd.pinned (.plain (OpenSpec.ofChange verbPrintsSpec)) verbPrintsCard

/-- THE TIED CARD OF 'jitneylaw27.VerbNames'. -/
def verbNamesCard : Claim7 := { stood := { row := verbNamesRow, standIns := [], harness := (true, "b578caee980649a427b8f2d14350d3eef8716f974663b603e5d8645bef35537d"), looks := true }, kinds := [], alts := [], laidByText := true, laidKinds := [.data, .data, .data, .data, .widerDeep, .pinned], laidTests := true, laidLooks := .later }
def VerbNamesCardSaid : Prop := Claim7.holds Tryd.pinned (.plain (OpenSpec.ofChange verbNamesSpec)) verbNamesCard

/-- THE TIED CARD OF 'jitneylaw24.TicketBack'. -/
def ticketBackCard : Claim7 := { stood := { row := ticketBackRow, standIns := [], harness := (true, "b578caee980649a427b8f2d14350d3eef8716f974663b603e5d8645bef35537d"), looks := true }, kinds := [], alts := [], laidByText := true, laidKinds := [.data, .data, .data, .data, .pinned], laidTests := true, laidLooks := .later }
def TicketBackCardSaid : Prop := Claim7.holds Tryd.pinned (.plain (OpenSpec.ofChange ticketBackSpec)) ticketBackCard

/-- THE SECOND FORM's CARD OF 'jitneylaw23.FileParses'. -/
def fileParsesUptoCard : Claim7 := { stood := { row := fileParsesUptoRow, standIns := [], harness := (true, "b578caee980649a427b8f2d14350d3eef8716f974663b603e5d8645bef35537d"), looks := true }, kinds := [], alts := [], laidByText := true, laidKinds := [.data, .data, .data, .data, .pinned], laidTests := true, laidLooks := .later }
def FileParsesUptoCardSaid : Prop := Claim7.holds Tryd.pinned (.plain (OpenSpec.upto fileParsesSpec)) fileParsesUptoCard

/-- THE SECOND FORM's CARD OF 'jitneylaw23.FileLines'. -/
def fileLinesUptoCard : Claim7 := { stood := { row := fileLinesUptoRow, standIns := [], harness := (true, "b578caee980649a427b8f2d14350d3eef8716f974663b603e5d8645bef35537d"), looks := true }, kinds := [], alts := [], laidByText := true, laidKinds := [.data, .data, .data, .data, .pinned], laidTests := true, laidLooks := .later }
def FileLinesUptoCardSaid : Prop := Claim7.holds Tryd.pinned (.plain (OpenSpec.upto fileLinesSpec)) fileLinesUptoCard

/-- THE SECOND FORM's CARD OF 'jitneylaw23.FilePrints'. -/
def filePrintsUptoCard : Claim7 := { stood := { row := filePrintsUptoRow, standIns := [], harness := (true, "b578caee980649a427b8f2d14350d3eef8716f974663b603e5d8645bef35537d"), looks := true }, kinds := [], alts := [], laidByText := true, laidKinds := [.data, .data, .data, .data, .pinned], laidTests := true, laidLooks := .later }
def FilePrintsUptoCardSaid : Prop := Claim7.holds Tryd.pinned (.plain (OpenSpec.upto filePrintsSpec)) filePrintsUptoCard

/-- THE SECOND FORM's CARD OF 'jitneylaw23.FileBack'. -/
def fileBackUptoCard : Claim7 := { stood := { row := fileBackUptoRow, standIns := [], harness := (true, "b578caee980649a427b8f2d14350d3eef8716f974663b603e5d8645bef35537d"), looks := true }, kinds := [], alts := [], laidByText := true, laidKinds := [.data, .data, .data, .data, .pinned], laidTests := true, laidLooks := .later }
def FileBackUptoCardSaid : Prop := Claim7.holds Tryd.pinned (.plain (OpenSpec.upto fileBackSpec)) fileBackUptoCard

/-- THE SECOND FORM's CARD OF 'jitneylaw23.FileTurns'. -/
def fileTurnsUptoCard : Claim7 := { stood := { row := fileTurnsUptoRow, standIns := [], harness := (true, "b578caee980649a427b8f2d14350d3eef8716f974663b603e5d8645bef35537d"), looks := true }, kinds := [], alts := [], laidByText := true, laidKinds := [.data, .data, .data, .data, .pinned], laidTests := true, laidLooks := .later }
def FileTurnsUptoCardSaid : Prop := Claim7.holds Tryd.pinned (.plain (OpenSpec.upto fileTurnsSpec)) fileTurnsUptoCard

/-- THE SECOND FORM's CARD OF 'jitneylaw27.VerbPrints'. -/
def verbPrintsUptoCard : Claim7 := { stood := { row := verbPrintsUptoRow, standIns := [], harness := (true, "b578caee980649a427b8f2d14350d3eef8716f974663b603e5d8645bef35537d"), looks := true }, kinds := [], alts := [], laidByText := true, laidKinds := [.data, .data, .data, .data, .widerDeep, .pinned], laidTests := true, laidLooks := .later }
def VerbPrintsUptoCardSaid : Prop := Claim7.holds Tryd.pinned (.plain (OpenSpec.upto verbPrintsSpec)) verbPrintsUptoCard

/-- THE SECOND FORM's CARD OF 'jitneylaw27.VerbNames'. -/
def verbNamesUptoCard : Claim7 := { stood := { row := verbNamesUptoRow, standIns := [], harness := (true, "b578caee980649a427b8f2d14350d3eef8716f974663b603e5d8645bef35537d"), looks := true }, kinds := [], alts := [], laidByText := true, laidKinds := [.data, .data, .data, .data, .widerDeep, .pinned], laidTests := true, laidLooks := .later }
def VerbNamesUptoCardSaid : Prop := Claim7.holds Tryd.pinned (.plain (OpenSpec.upto verbNamesSpec)) verbNamesUptoCard

/-- THE SECOND FORM's CARD OF 'jitneylaw24.TicketBack'. -/
def ticketBackUptoCard : Claim7 := { stood := { row := ticketBackUptoRow, standIns := [], harness := (true, "b578caee980649a427b8f2d14350d3eef8716f974663b603e5d8645bef35537d"), looks := true }, kinds := [], alts := [], laidByText := true, laidKinds := [.data, .data, .data, .data, .pinned], laidTests := true, laidLooks := .later }
def TicketBackUptoCardSaid : Prop := Claim7.holds Tryd.pinned (.plain (OpenSpec.upto ticketBackSpec)) ticketBackUptoCard
end Rows
end Go.Proofs.YtdgifgdadminbaaDoor
