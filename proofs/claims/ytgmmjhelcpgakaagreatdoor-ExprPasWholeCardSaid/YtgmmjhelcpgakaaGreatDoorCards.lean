/-
  DERIVED. GIVEN WITH THE SEED: THE CARDS: each row of YtgmmjhelcpgakaaGreatDoorRows.lean that lists a variable, with what it lists TIED to the program's text (the seventh form; the later family's looks); each row that meets fmt, with fmt's text TOLD by the authors' own Lean function (tested against real Go, not proved from fmt's source: count such statements apart). THE CARD IS WHAT COUNTS. Prove the row's statement (the work); the ties are given (YtgmmjhelcpgakaaGreatDoorTie.lean); close each card by the builder's one call (the guide's Derived/Test/ToyasCard.lean, 'card_holds'). Laid BY PROGRAM, IN A SANDBOX (cutbox-door.mjs). By AI agents, Wed Nov 11 2026. No macro, syntax, notation, axiom, sorry.
-/
import Derived.Test.YtgmmjhelcpgakaaGreatDoorRows
import GoSem.ClaimSeven
namespace Go.Proofs.YtgmmjhelcpgakaaGreatDoor
namespace Rows

/-- THE TIED CARD OF 'pantographlaw08.ExprPasReads'. -/
def exprPasReadsCard : Claim7 := { stood := { row := exprPasReadsRow, standIns := [], harness := (true, "e8fae074b7593f3b881103c13f815a26967287ddf004a34f54198e15b970721f"), looks := true }, kinds := [], alts := [], laidByText := true, laidKinds := [.data, .data, .data, .data, .sentinel, .sentinel, .listed, .data, .pinned, .pinned], laidTests := true, laidLooks := .later }
def ExprPasReadsCardSaid : Prop := Claim7.holds Tryz.pinned (.plain (OpenSpec.ofChange exprPasReadsSpec)) exprPasReadsCard

/-- THE TIED CARD OF 'pantographlaw08.ExprPasPrints'. -/
def exprPasPrintsCard : Claim7 := { stood := { row := exprPasPrintsRow, standIns := [], harness := (true, "e8fae074b7593f3b881103c13f815a26967287ddf004a34f54198e15b970721f"), looks := true }, kinds := [], alts := [], laidByText := true, laidKinds := [.data, .data, .data, .data, .sentinel, .sentinel, .listed, .data, .pinned, .pinned], laidTests := true, laidLooks := .later }
def ExprPasPrintsCardSaid : Prop := Claim7.holds Tryz.pinned (.plain (OpenSpec.ofChange exprPasPrintsSpec)) exprPasPrintsCard

/-- THE TIED CARD OF 'pantographlaw08.ExprPasBack'. -/
def exprPasBackCard : Claim7 := { stood := { row := exprPasBackRow, standIns := [], harness := (true, "e8fae074b7593f3b881103c13f815a26967287ddf004a34f54198e15b970721f"), looks := true }, kinds := [], alts := [], laidByText := true, laidKinds := [.data, .data, .data, .data, .sentinel, .sentinel, .listed, .data, .pinned, .pinned], laidTests := true, laidLooks := .later }
def ExprPasBackCardSaid : Prop := Claim7.holds Tryz.pinned (.plain (OpenSpec.ofChange exprPasBackSpec)) exprPasBackCard

/-- THE TIED CARD OF 'pantographlaw08.ExprPasLeast'. -/
def exprPasLeastCard : Claim7 := { stood := { row := exprPasLeastRow, standIns := [], harness := (true, "e8fae074b7593f3b881103c13f815a26967287ddf004a34f54198e15b970721f"), looks := true }, kinds := [], alts := [], laidByText := true, laidKinds := [.data, .data, .data, .data, .sentinel, .sentinel, .listed, .data, .pinned, .pinned], laidTests := true, laidLooks := .later }
def ExprPasLeastCardSaid : Prop := Claim7.holds Tryz.pinned (.plain (OpenSpec.ofChange exprPasLeastSpec)) exprPasLeastCard

/-- THE TIED CARD OF 'pantographlaw08.ExprPasGroups'. -/
def exprPasGroupsCard : Claim7 := { stood := { row := exprPasGroupsRow, standIns := [], harness := (true, "e8fae074b7593f3b881103c13f815a26967287ddf004a34f54198e15b970721f"), looks := true }, kinds := [], alts := [], laidByText := true, laidKinds := [.data, .data, .data, .data, .sentinel, .sentinel, .listed, .data, .pinned, .pinned], laidTests := true, laidLooks := .later }
def ExprPasGroupsCardSaid : Prop := Claim7.holds Tryz.pinned (.plain (OpenSpec.ofChange exprPasGroupsSpec)) exprPasGroupsCard

/-- THE TIED CARD OF 'pantographlaw08.ExprPasWhole'. -/
def exprPasWholeCard : Claim7 := { stood := { row := exprPasWholeRow, standIns := [], harness := (true, "e8fae074b7593f3b881103c13f815a26967287ddf004a34f54198e15b970721f"), looks := true }, kinds := [], alts := [], laidByText := true, laidKinds := [.data, .data, .data, .data, .sentinel, .sentinel, .listed, .data, .pinned, .pinned], laidTests := true, laidLooks := .later }
def ExprPasWholeCardSaid : Prop := Claim7.holds Tryz.pinned (.plain (OpenSpec.ofChange exprPasWholeSpec)) exprPasWholeCard

/-- THE SECOND FORM's CARD OF 'pantographlaw08.ExprPasReads'. -/
def exprPasReadsUptoCard : Claim7 := { stood := { row := exprPasReadsUptoRow, standIns := [], harness := (true, "e8fae074b7593f3b881103c13f815a26967287ddf004a34f54198e15b970721f"), looks := true }, kinds := [], alts := [], laidByText := true, laidKinds := [.data, .data, .data, .data, .sentinel, .sentinel, .listed, .data, .pinned, .pinned], laidTests := true, laidLooks := .later }
def ExprPasReadsUptoCardSaid : Prop := Claim7.holds Tryz.pinned (.plain (OpenSpec.upto exprPasReadsSpec)) exprPasReadsUptoCard

/-- THE SECOND FORM's CARD OF 'pantographlaw08.ExprPasPrints'. -/
def exprPasPrintsUptoCard : Claim7 := { stood := { row := exprPasPrintsUptoRow, standIns := [], harness := (true, "e8fae074b7593f3b881103c13f815a26967287ddf004a34f54198e15b970721f"), looks := true }, kinds := [], alts := [], laidByText := true, laidKinds := [.data, .data, .data, .data, .sentinel, .sentinel, .listed, .data, .pinned, .pinned], laidTests := true, laidLooks := .later }
def ExprPasPrintsUptoCardSaid : Prop := Claim7.holds Tryz.pinned (.plain (OpenSpec.upto exprPasPrintsSpec)) exprPasPrintsUptoCard

/-- THE SECOND FORM's CARD OF 'pantographlaw08.ExprPasBack'. -/
def exprPasBackUptoCard : Claim7 := { stood := { row := exprPasBackUptoRow, standIns := [], harness := (true, "e8fae074b7593f3b881103c13f815a26967287ddf004a34f54198e15b970721f"), looks := true }, kinds := [], alts := [], laidByText := true, laidKinds := [.data, .data, .data, .data, .sentinel, .sentinel, .listed, .data, .pinned, .pinned], laidTests := true, laidLooks := .later }
def ExprPasBackUptoCardSaid : Prop := Claim7.holds Tryz.pinned (.plain (OpenSpec.upto exprPasBackSpec)) exprPasBackUptoCard

/-- THE SECOND FORM's CARD OF 'pantographlaw08.ExprPasLeast'. -/
def exprPasLeastUptoCard : Claim7 := { stood := { row := exprPasLeastUptoRow, standIns := [], harness := (true, "e8fae074b7593f3b881103c13f815a26967287ddf004a34f54198e15b970721f"), looks := true }, kinds := [], alts := [], laidByText := true, laidKinds := [.data, .data, .data, .data, .sentinel, .sentinel, .listed, .data, .pinned, .pinned], laidTests := true, laidLooks := .later }
def ExprPasLeastUptoCardSaid : Prop := Claim7.holds Tryz.pinned (.plain (OpenSpec.upto exprPasLeastSpec)) exprPasLeastUptoCard

/-- THE SECOND FORM's CARD OF 'pantographlaw08.ExprPasGroups'. -/
def exprPasGroupsUptoCard : Claim7 := { stood := { row := exprPasGroupsUptoRow, standIns := [], harness := (true, "e8fae074b7593f3b881103c13f815a26967287ddf004a34f54198e15b970721f"), looks := true }, kinds := [], alts := [], laidByText := true, laidKinds := [.data, .data, .data, .data, .sentinel, .sentinel, .listed, .data, .pinned, .pinned], laidTests := true, laidLooks := .later }
def ExprPasGroupsUptoCardSaid : Prop := Claim7.holds Tryz.pinned (.plain (OpenSpec.upto exprPasGroupsSpec)) exprPasGroupsUptoCard

/-- THE SECOND FORM's CARD OF 'pantographlaw08.ExprPasWhole'. -/
def exprPasWholeUptoCard : Claim7 := { stood := { row := exprPasWholeUptoRow, standIns := [], harness := (true, "e8fae074b7593f3b881103c13f815a26967287ddf004a34f54198e15b970721f"), looks := true }, kinds := [], alts := [], laidByText := true, laidKinds := [.data, .data, .data, .data, .sentinel, .sentinel, .listed, .data, .pinned, .pinned], laidTests := true, laidLooks := .later }
def ExprPasWholeUptoCardSaid : Prop := Claim7.holds Tryz.pinned (.plain (OpenSpec.upto exprPasWholeSpec)) exprPasWholeUptoCard
end Rows
end Go.Proofs.YtgmmjhelcpgakaaGreatDoor
