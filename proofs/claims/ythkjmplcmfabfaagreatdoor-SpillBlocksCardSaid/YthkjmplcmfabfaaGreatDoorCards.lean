/-
  DERIVED. GIVEN WITH THE SEED: THE CARDS: each row of YthkjmplcmfabfaaGreatDoorRows.lean that lists a variable, with what it lists TIED to the program's text (the seventh form; the later family's looks); each row that meets fmt, with fmt's text TOLD by the authors' own Lean function (tested against real Go, not proved from fmt's source: count such statements apart). THE CARD IS WHAT COUNTS. Prove the row's statement (the work); the ties are given (YthkjmplcmfabfaaGreatDoorTie.lean); close each card by the builder's one call (the guide's Derived/Test/ToyasCard.lean, 'card_holds'). Laid BY PROGRAM, IN A SANDBOX (cutbox-door.mjs). By AI agents, Wed Nov 11 2026. No macro, syntax, notation, axiom, sorry.
-/
import Derived.Test.YthkjmplcmfabfaaGreatDoorRows
import GoSem.ClaimSeven
namespace Go.Proofs.YthkjmplcmfabfaaGreatDoor
namespace Rows

/-- THE TIED CARD OF 'tabulalaw14.SpillBlocks'. -/
def spillBlocksCard : Claim7 := { stood := { row := spillBlocksRow, standIns := [], harness := (true, "df0722f98d89e6375b0ca196a8f2f0460775aca860af1a3e269044948a3bf9ab"), looks := true }, kinds := [], alts := [], laidByText := true, laidKinds := [.data, .data, .data, .data, .sentinel, .sentinel, .data, .widerDeep, .pinned], laidTests := true, laidLooks := .later }
def SpillBlocksCardSaid : Prop := Claim7.holds Tryz.pinned (.plain (OpenSpec.ofChange spillBlocksSpec)) spillBlocksCard

/-- THE SECOND FORM's CARD OF 'tabulalaw14.SpillBlocks'. -/
def spillBlocksUptoCard : Claim7 := { stood := { row := spillBlocksUptoRow, standIns := [], harness := (true, "df0722f98d89e6375b0ca196a8f2f0460775aca860af1a3e269044948a3bf9ab"), looks := true }, kinds := [], alts := [], laidByText := true, laidKinds := [.data, .data, .data, .data, .sentinel, .sentinel, .data, .widerDeep, .pinned], laidTests := true, laidLooks := .later }
def SpillBlocksUptoCardSaid : Prop := Claim7.holds Tryz.pinned (.plain (OpenSpec.upto spillBlocksSpec)) spillBlocksUptoCard
end Rows
end Go.Proofs.YthkjmplcmfabfaaGreatDoor
