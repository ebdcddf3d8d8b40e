/-
  DERIVED. GIVEN WITH THE SEED: THE CARDS: each row of YtkcilagjhieapaaGreatDoorRows.lean that lists a variable, with what it lists TIED to the program's text (the seventh form; the later family's looks); each row that meets fmt, with fmt's text TOLD by the authors' own Lean function (tested against real Go, not proved from fmt's source: count such statements apart). THE CARD IS WHAT COUNTS. Prove the row's statement (the work); the ties are given (YtkcilagjhieapaaGreatDoorTie.lean); close each card by the builder's one call (the guide's Derived/Test/ToyasCard.lean, 'card_holds'). Laid BY PROGRAM, IN A SANDBOX (cutbox-door.mjs). By AI agents, Wed Nov 11 2026. No macro, syntax, notation, axiom, sorry.
-/
import Derived.Test.YtkcilagjhieapaaGreatDoorRows
import GoSem.ClaimSeven
namespace Go.Proofs.YtkcilagjhieapaaGreatDoor
namespace Rows

/-- THE TIED CARD OF 'cashbooklaw26.AvailTells'. -/
def availTellsCard : Claim7 := { stood := { row := availTellsRow, standIns := [], harness := (true, "b333b9a7da48aa090b8fb4c184cc8a1432ea4e46acd0569b70c4ad1dba03ef6d"), looks := true }, kinds := [], alts := [], laidByText := true, laidKinds := [.handle], laidTests := true, laidLooks := .later }
def AvailTellsCardSaid : Prop := Claim7.holds Tryz.pinned (.plain (OpenSpec.ofChange availTellsSpec)) availTellsCard

/-- THE TIED CARD OF 'cashbooklaw26.AvailRanks'. -/
def availRanksCard : Claim7 := { stood := { row := availRanksRow, standIns := [], harness := (true, "b333b9a7da48aa090b8fb4c184cc8a1432ea4e46acd0569b70c4ad1dba03ef6d"), looks := true }, kinds := [], alts := [], laidByText := true, laidKinds := [.handle], laidTests := true, laidLooks := .later }
def AvailRanksCardSaid : Prop := Claim7.holds Tryz.pinned (.plain (OpenSpec.ofChange availRanksSpec)) availRanksCard

/-- THE TIED CARD OF 'cashbooklaw26.AvailGrants'. -/
def availGrantsCard : Claim7 := { stood := { row := availGrantsRow, standIns := [], harness := (true, "b333b9a7da48aa090b8fb4c184cc8a1432ea4e46acd0569b70c4ad1dba03ef6d"), looks := true }, kinds := [], alts := [], laidByText := true, laidKinds := [.handle], laidTests := true, laidLooks := .later }
def AvailGrantsCardSaid : Prop := Claim7.holds Tryz.pinned (.plain (OpenSpec.ofChange availGrantsSpec)) availGrantsCard

/-- THE TIED CARD OF 'cashbooklaw26.AvailCovers'. -/
def availCoversCard : Claim7 := { stood := { row := availCoversRow, standIns := [], harness := (true, "b333b9a7da48aa090b8fb4c184cc8a1432ea4e46acd0569b70c4ad1dba03ef6d"), looks := true }, kinds := [], alts := [], laidByText := true, laidKinds := [.handle], laidTests := true, laidLooks := .later }
def AvailCoversCardSaid : Prop := Claim7.holds Tryz.pinned (.plain (OpenSpec.ofChange availCoversSpec)) availCoversCard

/-- THE SECOND FORM's CARD OF 'cashbooklaw26.AvailTells'. -/
def availTellsUptoCard : Claim7 := { stood := { row := availTellsUptoRow, standIns := [], harness := (true, "b333b9a7da48aa090b8fb4c184cc8a1432ea4e46acd0569b70c4ad1dba03ef6d"), looks := true }, kinds := [], alts := [], laidByText := true, laidKinds := [.handle], laidTests := true, laidLooks := .later }
def AvailTellsUptoCardSaid : Prop := Claim7.holds Tryz.pinned (.plain (OpenSpec.upto availTellsSpec)) availTellsUptoCard

/-- THE SECOND FORM's CARD OF 'cashbooklaw26.AvailRanks'. -/
def availRanksUptoCard : Claim7 := { stood := { row := availRanksUptoRow, standIns := [], harness := (true, "b333b9a7da48aa090b8fb4c184cc8a1432ea4e46acd0569b70c4ad1dba03ef6d"), looks := true }, kinds := [], alts := [], laidByText := true, laidKinds := [.handle], laidTests := true, laidLooks := .later }
def AvailRanksUptoCardSaid : Prop := Claim7.holds Tryz.pinned (.plain (OpenSpec.upto availRanksSpec)) availRanksUptoCard

/-- THE SECOND FORM's CARD OF 'cashbooklaw26.AvailGrants'. -/
def availGrantsUptoCard : Claim7 := { stood := { row := availGrantsUptoRow, standIns := [], harness := (true, "b333b9a7da48aa090b8fb4c184cc8a1432ea4e46acd0569b70c4ad1dba03ef6d"), looks := true }, kinds := [], alts := [], laidByText := true, laidKinds := [.handle], laidTests := true, laidLooks := .later }
def AvailGrantsUptoCardSaid : Prop := Claim7.holds Tryz.pinned (.plain (OpenSpec.upto availGrantsSpec)) availGrantsUptoCard

/-- THE SECOND FORM's CARD OF 'cashbooklaw26.AvailCovers'. -/
def availCoversUptoCard : Claim7 := { stood := { row := availCoversUptoRow, standIns := [], harness := (true, "b333b9a7da48aa090b8fb4c184cc8a1432ea4e46acd0569b70c4ad1dba03ef6d"), looks := true }, kinds := [], alts := [], laidByText := true, laidKinds := [.handle], laidTests := true, laidLooks := .later }
def AvailCoversUptoCardSaid : Prop := Claim7.holds Tryz.pinned (.plain (OpenSpec.upto availCoversSpec)) availCoversUptoCard
end Rows
end Go.Proofs.YtkcilagjhieapaaGreatDoor
