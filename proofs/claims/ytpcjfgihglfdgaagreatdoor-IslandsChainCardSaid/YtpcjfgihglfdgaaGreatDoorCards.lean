/-
  DERIVED. GIVEN WITH THE SEED: THE CARDS: each row of YtpcjfgihglfdgaaGreatDoorRows.lean that lists a variable, with what it lists TIED to the program's text (the seventh form; the later family's looks); each row that meets fmt, with fmt's text TOLD by the authors' own Lean function (tested against real Go, not proved from fmt's source: count such statements apart). THE CARD IS WHAT COUNTS. Prove the row's statement (the work); the ties are given (YtpcjfgihglfdgaaGreatDoorTie.lean); close each card by the builder's one call (the guide's Derived/Test/ToyasCard.lean, 'card_holds'). Laid BY PROGRAM, IN A SANDBOX (cutbox-door.mjs). By AI agents, Wed Nov 11 2026. No macro, syntax, notation, axiom, sorry.
-/
import Derived.Test.YtpcjfgihglfdgaaGreatDoorRows
import GoSem.ClaimSeven
namespace Go.Proofs.YtpcjfgihglfdgaaGreatDoor
namespace Rows

/-- THE TIED CARD OF 'tabulalaw13.IslandsChain'. -/
def islandsChainCard : Claim7 := { stood := { row := islandsChainRow, standIns := [], harness := (true, "c5d5f39071bb045ed6705fabfe8966998c565a72f3b36533090a16b80d88d28b"), looks := true }, kinds := [], alts := [], laidByText := true, laidKinds := [.data, .data, .data, .data, .sentinel, .sentinel, .sentinel, .sentinel, .data, .widerDeep, .pinned], laidTests := true, laidLooks := .later }
def IslandsChainCardSaid : Prop := Claim7.holds Tryz.pinned (.plain (OpenSpec.ofChange islandsChainSpec)) islandsChainCard

/-- THE SECOND FORM's CARD OF 'tabulalaw13.IslandsChain'. -/
def islandsChainUptoCard : Claim7 := { stood := { row := islandsChainUptoRow, standIns := [], harness := (true, "c5d5f39071bb045ed6705fabfe8966998c565a72f3b36533090a16b80d88d28b"), looks := true }, kinds := [], alts := [], laidByText := true, laidKinds := [.data, .data, .data, .data, .sentinel, .sentinel, .sentinel, .sentinel, .data, .widerDeep, .pinned], laidTests := true, laidLooks := .later }
def IslandsChainUptoCardSaid : Prop := Claim7.holds Tryz.pinned (.plain (OpenSpec.upto islandsChainSpec)) islandsChainUptoCard
end Rows
end Go.Proofs.YtpcjfgihglfdgaaGreatDoor
