/-
  DERIVED. GIVEN WITH THE SEED: THE CARDS: each row of YtcdmkmbbliaefaaGreatDoorRows.lean that lists a variable, with what it lists TIED to the program's text (the seventh form; the later family's looks); each row that meets fmt, with fmt's text TOLD by the authors' own Lean function (tested against real Go, not proved from fmt's source: count such statements apart). THE CARD IS WHAT COUNTS. Prove the row's statement (the work); the ties are given (YtcdmkmbbliaefaaGreatDoorTie.lean); close each card by the builder's one call (the guide's Derived/Test/ToyasCard.lean, 'card_holds'). Laid BY PROGRAM, IN A SANDBOX (cutbox-door.mjs). By AI agents, Wed Nov 11 2026. No macro, syntax, notation, axiom, sorry.
-/
import Derived.Test.YtcdmkmbbliaefaaGreatDoorRows
import GoSem.ClaimSeven
namespace Go.Proofs.YtcdmkmbbliaefaaGreatDoor
namespace Rows

/-- THE TIED CARD OF 'pantographlaw05.LexPasReads'. -/
def lexPasReadsCard : Claim7 := { stood := { row := lexPasReadsRow, standIns := [], harness := (true, "76ba72d71240f868451b96c6c72789a2c14e5cf2beec65134c19c10e65d2b5f5"), looks := true }, kinds := [], alts := [], laidByText := true, laidKinds := [.data, .data, .data, .data, .sentinel, .sentinel, .listed, .data, .pinned, .pinned], laidTests := true, laidLooks := .later }
def LexPasReadsCardSaid : Prop := Claim7.holds Tryz.pinned (.plain (OpenSpec.ofChange lexPasReadsSpec)) lexPasReadsCard

/-- THE TIED CARD OF 'pantographlaw05.LexPasBlanks'. -/
def lexPasBlanksCard : Claim7 := { stood := { row := lexPasBlanksRow, standIns := [], harness := (true, "76ba72d71240f868451b96c6c72789a2c14e5cf2beec65134c19c10e65d2b5f5"), looks := true }, kinds := [], alts := [], laidByText := true, laidKinds := [.data, .data, .data, .data, .sentinel, .sentinel, .listed, .data, .pinned, .pinned], laidTests := true, laidLooks := .later }
def LexPasBlanksCardSaid : Prop := Claim7.holds Tryz.pinned (.plain (OpenSpec.ofChange lexPasBlanksSpec)) lexPasBlanksCard

/-- THE TIED CARD OF 'pantographlaw05.LexPasGreat'. -/
def lexPasGreatCard : Claim7 := { stood := { row := lexPasGreatRow, standIns := [], harness := (true, "76ba72d71240f868451b96c6c72789a2c14e5cf2beec65134c19c10e65d2b5f5"), looks := true }, kinds := [], alts := [], laidByText := true, laidKinds := [.data, .data, .data, .data, .sentinel, .sentinel, .listed, .data, .pinned, .pinned], laidTests := true, laidLooks := .later }
def LexPasGreatCardSaid : Prop := Claim7.holds Tryz.pinned (.plain (OpenSpec.ofChange lexPasGreatSpec)) lexPasGreatCard

/-- THE TIED CARD OF 'pantographlaw05.LexPasPlaces'. -/
def lexPasPlacesCard : Claim7 := { stood := { row := lexPasPlacesRow, standIns := [], harness := (true, "76ba72d71240f868451b96c6c72789a2c14e5cf2beec65134c19c10e65d2b5f5"), looks := true }, kinds := [], alts := [], laidByText := true, laidKinds := [.data, .data, .data, .data, .sentinel, .sentinel, .listed, .data, .pinned, .pinned], laidTests := true, laidLooks := .later }
def LexPasPlacesCardSaid : Prop := Claim7.holds Tryz.pinned (.plain (OpenSpec.ofChange lexPasPlacesSpec)) lexPasPlacesCard

/-- THE TIED CARD OF 'pantographlaw05.LexPasJoins'. -/
def lexPasJoinsCard : Claim7 := { stood := { row := lexPasJoinsRow, standIns := [], harness := (true, "76ba72d71240f868451b96c6c72789a2c14e5cf2beec65134c19c10e65d2b5f5"), looks := true }, kinds := [], alts := [], laidByText := true, laidKinds := [.data, .data, .data, .data, .sentinel, .sentinel, .listed, .data, .pinned, .pinned], laidTests := true, laidLooks := .later }
def LexPasJoinsCardSaid : Prop := Claim7.holds Tryz.pinned (.plain (OpenSpec.ofChange lexPasJoinsSpec)) lexPasJoinsCard

/-- THE SECOND FORM's CARD OF 'pantographlaw05.LexPasReads'. -/
def lexPasReadsUptoCard : Claim7 := { stood := { row := lexPasReadsUptoRow, standIns := [], harness := (true, "76ba72d71240f868451b96c6c72789a2c14e5cf2beec65134c19c10e65d2b5f5"), looks := true }, kinds := [], alts := [], laidByText := true, laidKinds := [.data, .data, .data, .data, .sentinel, .sentinel, .listed, .data, .pinned, .pinned], laidTests := true, laidLooks := .later }
def LexPasReadsUptoCardSaid : Prop := Claim7.holds Tryz.pinned (.plain (OpenSpec.upto lexPasReadsSpec)) lexPasReadsUptoCard

/-- THE SECOND FORM's CARD OF 'pantographlaw05.LexPasBlanks'. -/
def lexPasBlanksUptoCard : Claim7 := { stood := { row := lexPasBlanksUptoRow, standIns := [], harness := (true, "76ba72d71240f868451b96c6c72789a2c14e5cf2beec65134c19c10e65d2b5f5"), looks := true }, kinds := [], alts := [], laidByText := true, laidKinds := [.data, .data, .data, .data, .sentinel, .sentinel, .listed, .data, .pinned, .pinned], laidTests := true, laidLooks := .later }
def LexPasBlanksUptoCardSaid : Prop := Claim7.holds Tryz.pinned (.plain (OpenSpec.upto lexPasBlanksSpec)) lexPasBlanksUptoCard

/-- THE SECOND FORM's CARD OF 'pantographlaw05.LexPasGreat'. -/
def lexPasGreatUptoCard : Claim7 := { stood := { row := lexPasGreatUptoRow, standIns := [], harness := (true, "76ba72d71240f868451b96c6c72789a2c14e5cf2beec65134c19c10e65d2b5f5"), looks := true }, kinds := [], alts := [], laidByText := true, laidKinds := [.data, .data, .data, .data, .sentinel, .sentinel, .listed, .data, .pinned, .pinned], laidTests := true, laidLooks := .later }
def LexPasGreatUptoCardSaid : Prop := Claim7.holds Tryz.pinned (.plain (OpenSpec.upto lexPasGreatSpec)) lexPasGreatUptoCard

/-- THE SECOND FORM's CARD OF 'pantographlaw05.LexPasPlaces'. -/
def lexPasPlacesUptoCard : Claim7 := { stood := { row := lexPasPlacesUptoRow, standIns := [], harness := (true, "76ba72d71240f868451b96c6c72789a2c14e5cf2beec65134c19c10e65d2b5f5"), looks := true }, kinds := [], alts := [], laidByText := true, laidKinds := [.data, .data, .data, .data, .sentinel, .sentinel, .listed, .data, .pinned, .pinned], laidTests := true, laidLooks := .later }
def LexPasPlacesUptoCardSaid : Prop := Claim7.holds Tryz.pinned (.plain (OpenSpec.upto lexPasPlacesSpec)) lexPasPlacesUptoCard

/-- THE SECOND FORM's CARD OF 'pantographlaw05.LexPasJoins'. -/
def lexPasJoinsUptoCard : Claim7 := { stood := { row := lexPasJoinsUptoRow, standIns := [], harness := (true, "76ba72d71240f868451b96c6c72789a2c14e5cf2beec65134c19c10e65d2b5f5"), looks := true }, kinds := [], alts := [], laidByText := true, laidKinds := [.data, .data, .data, .data, .sentinel, .sentinel, .listed, .data, .pinned, .pinned], laidTests := true, laidLooks := .later }
def LexPasJoinsUptoCardSaid : Prop := Claim7.holds Tryz.pinned (.plain (OpenSpec.upto lexPasJoinsSpec)) lexPasJoinsUptoCard
end Rows
end Go.Proofs.YtcdmkmbbliaefaaGreatDoor
