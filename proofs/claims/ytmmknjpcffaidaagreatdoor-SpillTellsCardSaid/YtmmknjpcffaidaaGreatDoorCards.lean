/-
  DERIVED. GIVEN WITH THE SEED: THE CARDS: each row of YtmmknjpcffaidaaGreatDoorRows.lean that lists a variable, with what it lists TIED to the program's text (the seventh form; the later family's looks); each row that meets fmt, with fmt's text TOLD by the authors' own Lean function (tested against real Go, not proved from fmt's source: count such statements apart). THE CARD IS WHAT COUNTS. Prove the row's statement (the work); the ties are given (YtmmknjpcffaidaaGreatDoorTie.lean); close each card by the builder's one call (the guide's Derived/Test/ToyasCard.lean, 'card_holds'). Laid BY PROGRAM, IN A SANDBOX (cutbox-door.mjs). By AI agents, Wed Nov 11 2026. No macro, syntax, notation, axiom, sorry.
-/
import Derived.Test.YtmmknjpcffaidaaGreatDoorRows
import GoSem.ClaimSeven
namespace Go.Proofs.YtmmknjpcffaidaaGreatDoor
namespace Rows

/-- THE TIED CARD OF 'tabulalaw14.SpillTells'. -/
def spillTellsCard : Claim7 := { stood := { row := spillTellsRow, standIns := [], harness := (true, "c85f2c943e6e02ad8e55fb0b6724a11ed4d36683a9ef96ef3ceb05c9857922f3"), looks := true }, kinds := [], alts := [], laidByText := true, laidKinds := [.data, .data, .data, .data, .sentinel, .sentinel, .data, .widerDeep, .pinned], laidTests := true, laidLooks := .later }
def SpillTellsCardSaid : Prop := Claim7.holds Tryz.pinned (.plain (OpenSpec.ofChange spillTellsSpec)) spillTellsCard

/-- THE TIED CARD OF 'tabulalaw14.SpillApart'. -/
def spillApartCard : Claim7 := { stood := { row := spillApartRow, standIns := [], harness := (true, "c85f2c943e6e02ad8e55fb0b6724a11ed4d36683a9ef96ef3ceb05c9857922f3"), looks := true }, kinds := [], alts := [], laidByText := true, laidKinds := [.data, .data, .data, .data, .sentinel, .sentinel, .data, .widerDeep, .pinned], laidTests := true, laidLooks := .later }
def SpillApartCardSaid : Prop := Claim7.holds Tryz.pinned (.plain (OpenSpec.ofChange spillApartSpec)) spillApartCard

/-- THE TIED CARD OF 'tabulalaw14.SpillReasons'. -/
def spillReasonsCard : Claim7 := { stood := { row := spillReasonsRow, standIns := [], harness := (true, "c85f2c943e6e02ad8e55fb0b6724a11ed4d36683a9ef96ef3ceb05c9857922f3"), looks := true }, kinds := [], alts := [], laidByText := true, laidKinds := [.data, .data, .data, .data, .sentinel, .sentinel, .data, .widerDeep, .pinned], laidTests := true, laidLooks := .later }
def SpillReasonsCardSaid : Prop := Claim7.holds Tryz.pinned (.plain (OpenSpec.ofChange spillReasonsSpec)) spillReasonsCard

/-- THE TIED CARD OF 'tabulalaw14.SpillMore'. -/
def spillMoreCard : Claim7 := { stood := { row := spillMoreRow, standIns := [], harness := (true, "c85f2c943e6e02ad8e55fb0b6724a11ed4d36683a9ef96ef3ceb05c9857922f3"), looks := true }, kinds := [], alts := [], laidByText := true, laidKinds := [.data, .data, .data, .data, .sentinel, .sentinel, .data, .widerDeep, .pinned], laidTests := true, laidLooks := .later }
def SpillMoreCardSaid : Prop := Claim7.holds Tryz.pinned (.plain (OpenSpec.ofChange spillMoreSpec)) spillMoreCard

/-- THE TIED CARD OF 'tabulalaw14.SpillSmall'. -/
def spillSmallCard : Claim7 := { stood := { row := spillSmallRow, standIns := [], harness := (true, "c85f2c943e6e02ad8e55fb0b6724a11ed4d36683a9ef96ef3ceb05c9857922f3"), looks := true }, kinds := [], alts := [], laidByText := true, laidKinds := [.data, .data, .data, .data, .sentinel, .sentinel, .data, .widerDeep, .pinned], laidTests := true, laidLooks := .later }
def SpillSmallCardSaid : Prop := Claim7.holds Tryz.pinned (.plain (OpenSpec.ofChange spillSmallSpec)) spillSmallCard

/-- THE TIED CARD OF 'tabulalaw14.SpillCover'. -/
def spillCoverCard : Claim7 := { stood := { row := spillCoverRow, standIns := [], harness := (true, "c85f2c943e6e02ad8e55fb0b6724a11ed4d36683a9ef96ef3ceb05c9857922f3"), looks := true }, kinds := [], alts := [], laidByText := true, laidKinds := [.data, .data, .data, .data, .sentinel, .sentinel, .data, .widerDeep, .pinned], laidTests := true, laidLooks := .later }
def SpillCoverCardSaid : Prop := Claim7.holds Tryz.pinned (.plain (OpenSpec.ofChange spillCoverSpec)) spillCoverCard

/-- THE TIED CARD OF 'tabulalaw14.SpillBlocks'. -/
def spillBlocksCard : Claim7 := { stood := { row := spillBlocksRow, standIns := [], harness := (true, "c85f2c943e6e02ad8e55fb0b6724a11ed4d36683a9ef96ef3ceb05c9857922f3"), looks := true }, kinds := [], alts := [], laidByText := true, laidKinds := [.data, .data, .data, .data, .sentinel, .sentinel, .data, .widerDeep, .pinned], laidTests := true, laidLooks := .later }
def SpillBlocksCardSaid : Prop := Claim7.holds Tryz.pinned (.plain (OpenSpec.ofChange spillBlocksSpec)) spillBlocksCard

/-- THE SECOND FORM's CARD OF 'tabulalaw14.SpillTells'. -/
def spillTellsUptoCard : Claim7 := { stood := { row := spillTellsUptoRow, standIns := [], harness := (true, "c85f2c943e6e02ad8e55fb0b6724a11ed4d36683a9ef96ef3ceb05c9857922f3"), looks := true }, kinds := [], alts := [], laidByText := true, laidKinds := [.data, .data, .data, .data, .sentinel, .sentinel, .data, .widerDeep, .pinned], laidTests := true, laidLooks := .later }
def SpillTellsUptoCardSaid : Prop := Claim7.holds Tryz.pinned (.plain (OpenSpec.upto spillTellsSpec)) spillTellsUptoCard

/-- THE SECOND FORM's CARD OF 'tabulalaw14.SpillApart'. -/
def spillApartUptoCard : Claim7 := { stood := { row := spillApartUptoRow, standIns := [], harness := (true, "c85f2c943e6e02ad8e55fb0b6724a11ed4d36683a9ef96ef3ceb05c9857922f3"), looks := true }, kinds := [], alts := [], laidByText := true, laidKinds := [.data, .data, .data, .data, .sentinel, .sentinel, .data, .widerDeep, .pinned], laidTests := true, laidLooks := .later }
def SpillApartUptoCardSaid : Prop := Claim7.holds Tryz.pinned (.plain (OpenSpec.upto spillApartSpec)) spillApartUptoCard

/-- THE SECOND FORM's CARD OF 'tabulalaw14.SpillReasons'. -/
def spillReasonsUptoCard : Claim7 := { stood := { row := spillReasonsUptoRow, standIns := [], harness := (true, "c85f2c943e6e02ad8e55fb0b6724a11ed4d36683a9ef96ef3ceb05c9857922f3"), looks := true }, kinds := [], alts := [], laidByText := true, laidKinds := [.data, .data, .data, .data, .sentinel, .sentinel, .data, .widerDeep, .pinned], laidTests := true, laidLooks := .later }
def SpillReasonsUptoCardSaid : Prop := Claim7.holds Tryz.pinned (.plain (OpenSpec.upto spillReasonsSpec)) spillReasonsUptoCard

/-- THE SECOND FORM's CARD OF 'tabulalaw14.SpillMore'. -/
def spillMoreUptoCard : Claim7 := { stood := { row := spillMoreUptoRow, standIns := [], harness := (true, "c85f2c943e6e02ad8e55fb0b6724a11ed4d36683a9ef96ef3ceb05c9857922f3"), looks := true }, kinds := [], alts := [], laidByText := true, laidKinds := [.data, .data, .data, .data, .sentinel, .sentinel, .data, .widerDeep, .pinned], laidTests := true, laidLooks := .later }
def SpillMoreUptoCardSaid : Prop := Claim7.holds Tryz.pinned (.plain (OpenSpec.upto spillMoreSpec)) spillMoreUptoCard

/-- THE SECOND FORM's CARD OF 'tabulalaw14.SpillSmall'. -/
def spillSmallUptoCard : Claim7 := { stood := { row := spillSmallUptoRow, standIns := [], harness := (true, "c85f2c943e6e02ad8e55fb0b6724a11ed4d36683a9ef96ef3ceb05c9857922f3"), looks := true }, kinds := [], alts := [], laidByText := true, laidKinds := [.data, .data, .data, .data, .sentinel, .sentinel, .data, .widerDeep, .pinned], laidTests := true, laidLooks := .later }
def SpillSmallUptoCardSaid : Prop := Claim7.holds Tryz.pinned (.plain (OpenSpec.upto spillSmallSpec)) spillSmallUptoCard

/-- THE SECOND FORM's CARD OF 'tabulalaw14.SpillCover'. -/
def spillCoverUptoCard : Claim7 := { stood := { row := spillCoverUptoRow, standIns := [], harness := (true, "c85f2c943e6e02ad8e55fb0b6724a11ed4d36683a9ef96ef3ceb05c9857922f3"), looks := true }, kinds := [], alts := [], laidByText := true, laidKinds := [.data, .data, .data, .data, .sentinel, .sentinel, .data, .widerDeep, .pinned], laidTests := true, laidLooks := .later }
def SpillCoverUptoCardSaid : Prop := Claim7.holds Tryz.pinned (.plain (OpenSpec.upto spillCoverSpec)) spillCoverUptoCard

/-- THE SECOND FORM's CARD OF 'tabulalaw14.SpillBlocks'. -/
def spillBlocksUptoCard : Claim7 := { stood := { row := spillBlocksUptoRow, standIns := [], harness := (true, "c85f2c943e6e02ad8e55fb0b6724a11ed4d36683a9ef96ef3ceb05c9857922f3"), looks := true }, kinds := [], alts := [], laidByText := true, laidKinds := [.data, .data, .data, .data, .sentinel, .sentinel, .data, .widerDeep, .pinned], laidTests := true, laidLooks := .later }
def SpillBlocksUptoCardSaid : Prop := Claim7.holds Tryz.pinned (.plain (OpenSpec.upto spillBlocksSpec)) spillBlocksUptoCard
end Rows
end Go.Proofs.YtmmknjpcffaidaaGreatDoor
