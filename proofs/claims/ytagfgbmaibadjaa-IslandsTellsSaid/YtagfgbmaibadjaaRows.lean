/-
  No cell of these rows narrows 'for every input' (looked for: loops, veiled, ifaces, maps, wideKeys, modest, calm, conditions, laid).
  DERIVED. THE GIVEN ROWS OF THIS SEAT. 7 by the template 'for every input the law returns true; each argument reads behind the call as it read before'; 0 by the template 'total and deterministic' (their statements: YtagfgbmaibadjaaTotals.lean).
  GIVEN WITH THE SEED: the statements are not yours to turn. If you find one false, say at which input.
  Laid BY PROGRAM, IN A SANDBOX (cutbox-rows.mjs): the forced cells as the released guide's own fill.sh prints them over the translation 55f8e46c750a69d6… (all of the seat's roots in one cut). By AI agents, Wed Nov 11 2026. No macro, syntax, notation, axiom, sorry.
-/
import Derived.Test.YtagfgbmaibadjaaChecked
import GoSem.Claim
import GoSem.ClaimJoined
import GoSem.ClaimMapViews
import Derived.JoinedTies
import Derived.KernelRfl
namespace Go.Proofs.Ytagfgbmaibadjaa
/- THE CELL 'sum', in the pinned program and in every row, IS THE sha256 OF THE DUMP (.gsa) THAT YtagfgbmaibadjaaProg.lean LOADS. Nothing in Lean hashes anything: it is a label: what it is worth is what the hold of that sum in a sandbox is worth. -/
noncomputable def Try.pinned : Pinned := { name := "ytagfgbmaibadjaa", sum := "55f8e46c750a69d6872572628be3c877a19f8a5d9eaf8c204fb51b40c6444821", checked := Try.checked }
namespace Rows
def none {H : Type} : Left H := { results := [], args := [] }

/-- 'tabulalaw13.IslandsTells': WHATEVER THE INPUT: true; the input reads as it did. -/
def islandsTellsSpec : ChangeSpec := { name := "islandsTells", fn := fun _ => fun
  | [d1, d2, d3] => { results := [.lit (.bool true)], args := [d1, d2, d3] }
  | _ => none }
def islandsTellsRow : OpenClaim := { program := "ytagfgbmaibadjaa", sum := "55f8e46c750a69d6872572628be3c877a19f8a5d9eaf8c204fb51b40c6444821", func := "tabula/tabulalaw13.IslandsTells", spec := "islandsTells", unfollowed := true, recurses := true, apart := false }
def IslandsTellsSaid : Prop := islandsTellsRow.holds Try.pinned (OpenSpec.ofChange islandsTellsSpec)

/-- ITS FALSE NEIGHBOUR: 'it returns false'. Refute it at one input. -/
def islandsTellsWrong : ChangeSpec := { name := "islandsTells", fn := fun _ => fun
  | [d1, d2, d3] => { results := [.lit (.bool false)], args := [d1, d2, d3] }
  | _ => none }
def IslandsTellsWrongFalsely : Prop := islandsTellsRow.holds Try.pinned (OpenSpec.ofChange islandsTellsWrong)

/-- 'tabulalaw13.IslandsApart': WHATEVER THE INPUT: true; the input reads as it did. -/
def islandsApartSpec : ChangeSpec := { name := "islandsApart", fn := fun _ => fun
  | [d] => { results := [.lit (.bool true)], args := [d] }
  | _ => none }
def islandsApartRow : OpenClaim := { program := "ytagfgbmaibadjaa", sum := "55f8e46c750a69d6872572628be3c877a19f8a5d9eaf8c204fb51b40c6444821", func := "tabula/tabulalaw13.IslandsApart", spec := "islandsApart", unfollowed := true, recurses := true, apart := false }
def IslandsApartSaid : Prop := islandsApartRow.holds Try.pinned (OpenSpec.ofChange islandsApartSpec)

/-- ITS FALSE NEIGHBOUR: 'it returns false'. Refute it at one input. -/
def islandsApartWrong : ChangeSpec := { name := "islandsApart", fn := fun _ => fun
  | [d] => { results := [.lit (.bool false)], args := [d] }
  | _ => none }
def IslandsApartWrongFalsely : Prop := islandsApartRow.holds Try.pinned (OpenSpec.ofChange islandsApartWrong)

/-- 'tabulalaw13.IslandsOrder': WHATEVER THE INPUT: true; the input reads as it did. -/
def islandsOrderSpec : ChangeSpec := { name := "islandsOrder", fn := fun _ => fun
  | [d] => { results := [.lit (.bool true)], args := [d] }
  | _ => none }
def islandsOrderRow : OpenClaim := { program := "ytagfgbmaibadjaa", sum := "55f8e46c750a69d6872572628be3c877a19f8a5d9eaf8c204fb51b40c6444821", func := "tabula/tabulalaw13.IslandsOrder", spec := "islandsOrder", unfollowed := true, recurses := true, apart := false }
def IslandsOrderSaid : Prop := islandsOrderRow.holds Try.pinned (OpenSpec.ofChange islandsOrderSpec)

/-- ITS FALSE NEIGHBOUR: 'it returns false'. Refute it at one input. -/
def islandsOrderWrong : ChangeSpec := { name := "islandsOrder", fn := fun _ => fun
  | [d] => { results := [.lit (.bool false)], args := [d] }
  | _ => none }
def IslandsOrderWrongFalsely : Prop := islandsOrderRow.holds Try.pinned (OpenSpec.ofChange islandsOrderWrong)

/-- 'tabulalaw13.IslandsTimes': WHATEVER THE INPUT: true; the input reads as it did. -/
def islandsTimesSpec : ChangeSpec := { name := "islandsTimes", fn := fun _ => fun
  | [d] => { results := [.lit (.bool true)], args := [d] }
  | _ => none }
def islandsTimesRow : OpenClaim := { program := "ytagfgbmaibadjaa", sum := "55f8e46c750a69d6872572628be3c877a19f8a5d9eaf8c204fb51b40c6444821", func := "tabula/tabulalaw13.IslandsTimes", spec := "islandsTimes", unfollowed := true, recurses := true, apart := false }
def IslandsTimesSaid : Prop := islandsTimesRow.holds Try.pinned (OpenSpec.ofChange islandsTimesSpec)

/-- ITS FALSE NEIGHBOUR: 'it returns false'. Refute it at one input. -/
def islandsTimesWrong : ChangeSpec := { name := "islandsTimes", fn := fun _ => fun
  | [d] => { results := [.lit (.bool false)], args := [d] }
  | _ => none }
def IslandsTimesWrongFalsely : Prop := islandsTimesRow.holds Try.pinned (OpenSpec.ofChange islandsTimesWrong)

/-- 'tabulalaw13.IslandsMore': WHATEVER THE INPUT: true; the input reads as it did. -/
def islandsMoreSpec : ChangeSpec := { name := "islandsMore", fn := fun _ => fun
  | [d1, d2, d3] => { results := [.lit (.bool true)], args := [d1, d2, d3] }
  | _ => none }
def islandsMoreRow : OpenClaim := { program := "ytagfgbmaibadjaa", sum := "55f8e46c750a69d6872572628be3c877a19f8a5d9eaf8c204fb51b40c6444821", func := "tabula/tabulalaw13.IslandsMore", spec := "islandsMore", unfollowed := true, recurses := true, apart := false }
def IslandsMoreSaid : Prop := islandsMoreRow.holds Try.pinned (OpenSpec.ofChange islandsMoreSpec)

/-- ITS FALSE NEIGHBOUR: 'it returns false'. Refute it at one input. -/
def islandsMoreWrong : ChangeSpec := { name := "islandsMore", fn := fun _ => fun
  | [d1, d2, d3] => { results := [.lit (.bool false)], args := [d1, d2, d3] }
  | _ => none }
def IslandsMoreWrongFalsely : Prop := islandsMoreRow.holds Try.pinned (OpenSpec.ofChange islandsMoreWrong)

/-- 'tabulalaw13.IslandsPlain': WHATEVER THE INPUT: true; the input reads as it did. -/
def islandsPlainSpec : ChangeSpec := { name := "islandsPlain", fn := fun _ => fun
  | [d] => { results := [.lit (.bool true)], args := [d] }
  | _ => none }
def islandsPlainRow : OpenClaim := { program := "ytagfgbmaibadjaa", sum := "55f8e46c750a69d6872572628be3c877a19f8a5d9eaf8c204fb51b40c6444821", func := "tabula/tabulalaw13.IslandsPlain", spec := "islandsPlain", unfollowed := true, recurses := true, apart := false }
def IslandsPlainSaid : Prop := islandsPlainRow.holds Try.pinned (OpenSpec.ofChange islandsPlainSpec)

/-- ITS FALSE NEIGHBOUR: 'it returns false'. Refute it at one input. -/
def islandsPlainWrong : ChangeSpec := { name := "islandsPlain", fn := fun _ => fun
  | [d] => { results := [.lit (.bool false)], args := [d] }
  | _ => none }
def IslandsPlainWrongFalsely : Prop := islandsPlainRow.holds Try.pinned (OpenSpec.ofChange islandsPlainWrong)

/-- 'tabulalaw13.IslandsRefused': WHATEVER THE INPUT: true; the input reads as it did. -/
def islandsRefusedSpec : ChangeSpec := { name := "islandsRefused", fn := fun _ => fun
  | [d1, d2, d3] => { results := [.lit (.bool true)], args := [d1, d2, d3] }
  | _ => none }
def islandsRefusedRow : OpenClaim := { program := "ytagfgbmaibadjaa", sum := "55f8e46c750a69d6872572628be3c877a19f8a5d9eaf8c204fb51b40c6444821", func := "tabula/tabulalaw13.IslandsRefused", spec := "islandsRefused", unfollowed := true, recurses := true, apart := false }
def IslandsRefusedSaid : Prop := islandsRefusedRow.holds Try.pinned (OpenSpec.ofChange islandsRefusedSpec)

/-- ITS FALSE NEIGHBOUR: 'it returns false'. Refute it at one input. -/
def islandsRefusedWrong : ChangeSpec := { name := "islandsRefused", fn := fun _ => fun
  | [d1, d2, d3] => { results := [.lit (.bool false)], args := [d1, d2, d3] }
  | _ => none }
def IslandsRefusedWrongFalsely : Prop := islandsRefusedRow.holds Try.pinned (OpenSpec.ofChange islandsRefusedWrong)

/- THE SECOND FORM. 'bulk': how many values and letters a reading holds, each counted each time it is reached (what is shared counts as often as it is met; a slice's spare places count too). A statement '..UptoSaid' is the law's where the arguments, and the package variables that the reading takes, are together of bulk at most 1048576: NARROWER than '..Said'. Prove '..Said' where nothing that the law and all that it calls make is longer than what came in: it says more and counts as full. Else prove '..UptoSaid'. A law counts once. -/
mutual
def uptoBulk {H : Type} : DataW H → Nat
  | .lit (.string bytes) => bytes.length + 1
  | .lit _ => 1
  | .nil => 1
  | .ptr d => uptoBulk d + 1
  | .slice elems spare => uptoBulkAll elems + uptoBulkAll spare + 1
  | .agg parts => uptoBulkAll parts + 1
  | .iface _ d => uptoBulk d + 1
  | .map entries => uptoBulkEntries entries + 1
  | .held _ => 1
def uptoBulkAll {H : Type} : List (DataW H) → Nat
  | [] => 0
  | d :: r => uptoBulk d + uptoBulkAll r
def uptoBulkEntries {H : Type} : List (Lit × DataW H) → Nat
  | [] => 0
  | x :: r => uptoBulkEntry x + uptoBulkEntries r
def uptoBulkEntry {H : Type} : Lit × DataW H → Nat
  | (.string bytes, d) => bytes.length + uptoBulk d + 1
  | (_, d) => uptoBulk d + 1
 end
def uptoSmall : (H : Type) → List (DataW H) → Bool := fun _ ds => decide (uptoBulkAll ds ≤ 1048576)
def OpenSpec.upto (s : _root_.Go.ChangeSpec) : _root_.Go.OpenSpec := { _root_.Go.OpenSpec.ofChange s with cond := some uptoSmall }

/-- 'tabulalaw13.IslandsTells', WHERE WHAT IT READS IS OF BULK AT MOST 1048576: true; the input reads as it did. -/
def islandsTellsUptoRow : OpenClaim := { program := "ytagfgbmaibadjaa", sum := "55f8e46c750a69d6872572628be3c877a19f8a5d9eaf8c204fb51b40c6444821", func := "tabula/tabulalaw13.IslandsTells", spec := "islandsTells", unfollowed := true, recurses := true, apart := false, narrowed := true }
def IslandsTellsUptoSaid : Prop := islandsTellsUptoRow.holds Try.pinned (OpenSpec.upto islandsTellsSpec)

/-- 'tabulalaw13.IslandsApart', WHERE WHAT IT READS IS OF BULK AT MOST 1048576: true; the input reads as it did. -/
def islandsApartUptoRow : OpenClaim := { program := "ytagfgbmaibadjaa", sum := "55f8e46c750a69d6872572628be3c877a19f8a5d9eaf8c204fb51b40c6444821", func := "tabula/tabulalaw13.IslandsApart", spec := "islandsApart", unfollowed := true, recurses := true, apart := false, narrowed := true }
def IslandsApartUptoSaid : Prop := islandsApartUptoRow.holds Try.pinned (OpenSpec.upto islandsApartSpec)

/-- 'tabulalaw13.IslandsOrder', WHERE WHAT IT READS IS OF BULK AT MOST 1048576: true; the input reads as it did. -/
def islandsOrderUptoRow : OpenClaim := { program := "ytagfgbmaibadjaa", sum := "55f8e46c750a69d6872572628be3c877a19f8a5d9eaf8c204fb51b40c6444821", func := "tabula/tabulalaw13.IslandsOrder", spec := "islandsOrder", unfollowed := true, recurses := true, apart := false, narrowed := true }
def IslandsOrderUptoSaid : Prop := islandsOrderUptoRow.holds Try.pinned (OpenSpec.upto islandsOrderSpec)

/-- 'tabulalaw13.IslandsTimes', WHERE WHAT IT READS IS OF BULK AT MOST 1048576: true; the input reads as it did. -/
def islandsTimesUptoRow : OpenClaim := { program := "ytagfgbmaibadjaa", sum := "55f8e46c750a69d6872572628be3c877a19f8a5d9eaf8c204fb51b40c6444821", func := "tabula/tabulalaw13.IslandsTimes", spec := "islandsTimes", unfollowed := true, recurses := true, apart := false, narrowed := true }
def IslandsTimesUptoSaid : Prop := islandsTimesUptoRow.holds Try.pinned (OpenSpec.upto islandsTimesSpec)

/-- 'tabulalaw13.IslandsMore', WHERE WHAT IT READS IS OF BULK AT MOST 1048576: true; the input reads as it did. -/
def islandsMoreUptoRow : OpenClaim := { program := "ytagfgbmaibadjaa", sum := "55f8e46c750a69d6872572628be3c877a19f8a5d9eaf8c204fb51b40c6444821", func := "tabula/tabulalaw13.IslandsMore", spec := "islandsMore", unfollowed := true, recurses := true, apart := false, narrowed := true }
def IslandsMoreUptoSaid : Prop := islandsMoreUptoRow.holds Try.pinned (OpenSpec.upto islandsMoreSpec)

/-- 'tabulalaw13.IslandsPlain', WHERE WHAT IT READS IS OF BULK AT MOST 1048576: true; the input reads as it did. -/
def islandsPlainUptoRow : OpenClaim := { program := "ytagfgbmaibadjaa", sum := "55f8e46c750a69d6872572628be3c877a19f8a5d9eaf8c204fb51b40c6444821", func := "tabula/tabulalaw13.IslandsPlain", spec := "islandsPlain", unfollowed := true, recurses := true, apart := false, narrowed := true }
def IslandsPlainUptoSaid : Prop := islandsPlainUptoRow.holds Try.pinned (OpenSpec.upto islandsPlainSpec)

/-- 'tabulalaw13.IslandsRefused', WHERE WHAT IT READS IS OF BULK AT MOST 1048576: true; the input reads as it did. -/
def islandsRefusedUptoRow : OpenClaim := { program := "ytagfgbmaibadjaa", sum := "55f8e46c750a69d6872572628be3c877a19f8a5d9eaf8c204fb51b40c6444821", func := "tabula/tabulalaw13.IslandsRefused", spec := "islandsRefused", unfollowed := true, recurses := true, apart := false, narrowed := true }
def IslandsRefusedUptoSaid : Prop := islandsRefusedUptoRow.holds Try.pinned (OpenSpec.upto islandsRefusedSpec)

end Rows
end Go.Proofs.Ytagfgbmaibadjaa
