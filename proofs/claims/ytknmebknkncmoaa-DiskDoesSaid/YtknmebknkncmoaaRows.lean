/-
  No cell of these rows narrows 'for every input' (looked for: loops, veiled, ifaces, maps, wideKeys, modest, calm, conditions, laid).
  DERIVED. THE GIVEN ROWS OF THIS SEAT. 7 by the template 'for every input the law returns true; each argument reads behind the call as it read before'; 0 by the template 'total and deterministic' (their statements: YtknmebknkncmoaaTotals.lean).
  GIVEN WITH THE SEED: the statements are not yours to turn. If you find one false, say at which input.
  Laid BY PROGRAM, IN A SANDBOX (cutbox-rows.mjs): the forced cells as the released guide's own fill.sh prints them over the translation 3ae7d8ef78f74871… (all of the seat's roots in one cut). By AI agents, Wed Nov 11 2026. No macro, syntax, notation, axiom, sorry.
-/
import Derived.Test.YtknmebknkncmoaaChecked
import GoSem.Claim
import GoSem.ClaimJoined
import GoSem.ClaimMapViews
import Derived.JoinedTies
import Derived.KernelRfl
namespace Go.Proofs.Ytknmebknkncmoaa
/- THE CELL 'sum', in the pinned program and in every row, IS THE sha256 OF THE DUMP (.gsa) THAT YtknmebknkncmoaaProg.lean LOADS. Nothing in Lean hashes anything: it is a label: what it is worth is what the hold of that sum in a sandbox is worth. -/
noncomputable def Try.pinned : Pinned := { name := "ytknmebknkncmoaa", sum := "3ae7d8ef78f74871ac3f173910ef5e6be5d8601676b832e21b6c6682d002073c", checked := Try.checked }
namespace Rows
def none {H : Type} : Left H := { results := [], args := [] }

/-- 'tabulalaw26.DiskDoes': WHATEVER THE INPUT: true; the input reads as it did. -/
def diskDoesSpec : ChangeSpec := { name := "diskDoes", fn := fun _ => fun
  | [d1, d2, d3, d4] => { results := [.lit (.bool true)], args := [d1, d2, d3, d4] }
  | _ => none }
def diskDoesRow : OpenClaim := { program := "ytknmebknkncmoaa", sum := "3ae7d8ef78f74871ac3f173910ef5e6be5d8601676b832e21b6c6682d002073c", func := "tabula/tabulalaw26.DiskDoes", spec := "diskDoes", unfollowed := true, recurses := true, apart := false }
def DiskDoesSaid : Prop := diskDoesRow.holds Try.pinned (OpenSpec.ofChange diskDoesSpec)

/-- ITS FALSE NEIGHBOUR: 'it returns false'. Refute it at one input. -/
def diskDoesWrong : ChangeSpec := { name := "diskDoes", fn := fun _ => fun
  | [d1, d2, d3, d4] => { results := [.lit (.bool false)], args := [d1, d2, d3, d4] }
  | _ => none }
def DiskDoesWrongFalsely : Prop := diskDoesRow.holds Try.pinned (OpenSpec.ofChange diskDoesWrong)

/-- 'tabulalaw26.DiskSynced': WHATEVER THE INPUT: true; the input reads as it did. -/
def diskSyncedSpec : ChangeSpec := { name := "diskSynced", fn := fun _ => fun
  | [d1, d2, d3] => { results := [.lit (.bool true)], args := [d1, d2, d3] }
  | _ => none }
def diskSyncedRow : OpenClaim := { program := "ytknmebknkncmoaa", sum := "3ae7d8ef78f74871ac3f173910ef5e6be5d8601676b832e21b6c6682d002073c", func := "tabula/tabulalaw26.DiskSynced", spec := "diskSynced", unfollowed := true, recurses := true, apart := false }
def DiskSyncedSaid : Prop := diskSyncedRow.holds Try.pinned (OpenSpec.ofChange diskSyncedSpec)

/-- ITS FALSE NEIGHBOUR: 'it returns false'. Refute it at one input. -/
def diskSyncedWrong : ChangeSpec := { name := "diskSynced", fn := fun _ => fun
  | [d1, d2, d3] => { results := [.lit (.bool false)], args := [d1, d2, d3] }
  | _ => none }
def DiskSyncedWrongFalsely : Prop := diskSyncedRow.holds Try.pinned (OpenSpec.ofChange diskSyncedWrong)

/-- 'tabulalaw26.DiskAllNone': WHATEVER THE INPUT: true; the input reads as it did. -/
def diskAllNoneSpec : ChangeSpec := { name := "diskAllNone", fn := fun _ => fun
  | [d1, d2] => { results := [.lit (.bool true)], args := [d1, d2] }
  | _ => none }
def diskAllNoneRow : OpenClaim := { program := "ytknmebknkncmoaa", sum := "3ae7d8ef78f74871ac3f173910ef5e6be5d8601676b832e21b6c6682d002073c", func := "tabula/tabulalaw26.DiskAllNone", spec := "diskAllNone", unfollowed := true, recurses := true, apart := false }
def DiskAllNoneSaid : Prop := diskAllNoneRow.holds Try.pinned (OpenSpec.ofChange diskAllNoneSpec)

/-- ITS FALSE NEIGHBOUR: 'it returns false'. Refute it at one input. -/
def diskAllNoneWrong : ChangeSpec := { name := "diskAllNone", fn := fun _ => fun
  | [d1, d2] => { results := [.lit (.bool false)], args := [d1, d2] }
  | _ => none }
def DiskAllNoneWrongFalsely : Prop := diskAllNoneRow.holds Try.pinned (OpenSpec.ofChange diskAllNoneWrong)

/-- 'tabulalaw26.DiskSectors': WHATEVER THE INPUT: true; the input reads as it did. -/
def diskSectorsSpec : ChangeSpec := { name := "diskSectors", fn := fun _ => fun
  | [d1, d2, d3] => { results := [.lit (.bool true)], args := [d1, d2, d3] }
  | _ => none }
def diskSectorsRow : OpenClaim := { program := "ytknmebknkncmoaa", sum := "3ae7d8ef78f74871ac3f173910ef5e6be5d8601676b832e21b6c6682d002073c", func := "tabula/tabulalaw26.DiskSectors", spec := "diskSectors", unfollowed := true, recurses := true, apart := false }
def DiskSectorsSaid : Prop := diskSectorsRow.holds Try.pinned (OpenSpec.ofChange diskSectorsSpec)

/-- ITS FALSE NEIGHBOUR: 'it returns false'. Refute it at one input. -/
def diskSectorsWrong : ChangeSpec := { name := "diskSectors", fn := fun _ => fun
  | [d1, d2, d3] => { results := [.lit (.bool false)], args := [d1, d2, d3] }
  | _ => none }
def DiskSectorsWrongFalsely : Prop := diskSectorsRow.holds Try.pinned (OpenSpec.ofChange diskSectorsWrong)

/-- 'tabulalaw26.DiskTorn': WHATEVER THE INPUT: true; the input reads as it did. -/
def diskTornSpec : ChangeSpec := { name := "diskTorn", fn := fun _ => fun
  | [d1, d2, d3, d4] => { results := [.lit (.bool true)], args := [d1, d2, d3, d4] }
  | _ => none }
def diskTornRow : OpenClaim := { program := "ytknmebknkncmoaa", sum := "3ae7d8ef78f74871ac3f173910ef5e6be5d8601676b832e21b6c6682d002073c", func := "tabula/tabulalaw26.DiskTorn", spec := "diskTorn", unfollowed := true, recurses := true, apart := false }
def DiskTornSaid : Prop := diskTornRow.holds Try.pinned (OpenSpec.ofChange diskTornSpec)

/-- ITS FALSE NEIGHBOUR: 'it returns false'. Refute it at one input. -/
def diskTornWrong : ChangeSpec := { name := "diskTorn", fn := fun _ => fun
  | [d1, d2, d3, d4] => { results := [.lit (.bool false)], args := [d1, d2, d3, d4] }
  | _ => none }
def DiskTornWrongFalsely : Prop := diskTornRow.holds Try.pinned (OpenSpec.ofChange diskTornWrong)

/-- 'tabulalaw26.DiskReads': WHATEVER THE INPUT: true; the input reads as it did. -/
def diskReadsSpec : ChangeSpec := { name := "diskReads", fn := fun _ => fun
  | [d1, d2, d3, d4] => { results := [.lit (.bool true)], args := [d1, d2, d3, d4] }
  | _ => none }
def diskReadsRow : OpenClaim := { program := "ytknmebknkncmoaa", sum := "3ae7d8ef78f74871ac3f173910ef5e6be5d8601676b832e21b6c6682d002073c", func := "tabula/tabulalaw26.DiskReads", spec := "diskReads", unfollowed := true, recurses := true, apart := false }
def DiskReadsSaid : Prop := diskReadsRow.holds Try.pinned (OpenSpec.ofChange diskReadsSpec)

/-- ITS FALSE NEIGHBOUR: 'it returns false'. Refute it at one input. -/
def diskReadsWrong : ChangeSpec := { name := "diskReads", fn := fun _ => fun
  | [d1, d2, d3, d4] => { results := [.lit (.bool false)], args := [d1, d2, d3, d4] }
  | _ => none }
def DiskReadsWrongFalsely : Prop := diskReadsRow.holds Try.pinned (OpenSpec.ofChange diskReadsWrong)

/-- 'tabulalaw26.DiskErrors': WHATEVER THE INPUT: true; the input reads as it did. -/
def diskErrorsSpec : ChangeSpec := { name := "diskErrors", fn := fun _ => fun
  | [d1, d2, d3, d4] => { results := [.lit (.bool true)], args := [d1, d2, d3, d4] }
  | _ => none }
def diskErrorsRow : OpenClaim := { program := "ytknmebknkncmoaa", sum := "3ae7d8ef78f74871ac3f173910ef5e6be5d8601676b832e21b6c6682d002073c", func := "tabula/tabulalaw26.DiskErrors", spec := "diskErrors", unfollowed := true, recurses := true, apart := false }
def DiskErrorsSaid : Prop := diskErrorsRow.holds Try.pinned (OpenSpec.ofChange diskErrorsSpec)

/-- ITS FALSE NEIGHBOUR: 'it returns false'. Refute it at one input. -/
def diskErrorsWrong : ChangeSpec := { name := "diskErrors", fn := fun _ => fun
  | [d1, d2, d3, d4] => { results := [.lit (.bool false)], args := [d1, d2, d3, d4] }
  | _ => none }
def DiskErrorsWrongFalsely : Prop := diskErrorsRow.holds Try.pinned (OpenSpec.ofChange diskErrorsWrong)

/- THE SECOND FORM. 'bulk': how many values and letters a reading holds, each counted each time it is reached (what is shared counts as often as it is met; a slice's spare places count too). A statement '..UptoSaid' is the law's where the arguments, and the package variables that the reading takes, are together of bulk at most 1048576: NARROWER than '..Said'. Prove '..Said' where nothing that the law and all that it calls make is longer than what came in: it says more and counts as full. Else prove '..UptoSaid'. A law counts once. -/
mutual
def uptoBulk {H : Type} : DataW H → Nat
  | .lit (.string bytes) => bytes.length + 1
  | .lit _ => 1
  | .nil => 1
  | .ptr d => uptoBulk d + 1
  | .slice elems spare => uptoBulkAll elems + uptoBulkAll spare + 1
  | .agg parts => uptoBulkAll parts + 1
  | .iface _ d => uptoBulk d + 1
  | .map entries => uptoBulkEntries entries + 1
  | .held _ => 1
def uptoBulkAll {H : Type} : List (DataW H) → Nat
  | [] => 0
  | d :: r => uptoBulk d + uptoBulkAll r
def uptoBulkEntries {H : Type} : List (Lit × DataW H) → Nat
  | [] => 0
  | x :: r => uptoBulkEntry x + uptoBulkEntries r
def uptoBulkEntry {H : Type} : Lit × DataW H → Nat
  | (.string bytes, d) => bytes.length + uptoBulk d + 1
  | (_, d) => uptoBulk d + 1
 end
def uptoSmall : (H : Type) → List (DataW H) → Bool := fun _ ds => decide (uptoBulkAll ds ≤ 1048576)
def OpenSpec.upto (s : _root_.Go.ChangeSpec) : _root_.Go.OpenSpec := { _root_.Go.OpenSpec.ofChange s with cond := some uptoSmall }

/-- 'tabulalaw26.DiskDoes', WHERE WHAT IT READS IS OF BULK AT MOST 1048576: true; the input reads as it did. -/
def diskDoesUptoRow : OpenClaim := { program := "ytknmebknkncmoaa", sum := "3ae7d8ef78f74871ac3f173910ef5e6be5d8601676b832e21b6c6682d002073c", func := "tabula/tabulalaw26.DiskDoes", spec := "diskDoes", unfollowed := true, recurses := true, apart := false, narrowed := true }
def DiskDoesUptoSaid : Prop := diskDoesUptoRow.holds Try.pinned (OpenSpec.upto diskDoesSpec)

/-- 'tabulalaw26.DiskSynced', WHERE WHAT IT READS IS OF BULK AT MOST 1048576: true; the input reads as it did. -/
def diskSyncedUptoRow : OpenClaim := { program := "ytknmebknkncmoaa", sum := "3ae7d8ef78f74871ac3f173910ef5e6be5d8601676b832e21b6c6682d002073c", func := "tabula/tabulalaw26.DiskSynced", spec := "diskSynced", unfollowed := true, recurses := true, apart := false, narrowed := true }
def DiskSyncedUptoSaid : Prop := diskSyncedUptoRow.holds Try.pinned (OpenSpec.upto diskSyncedSpec)

/-- 'tabulalaw26.DiskAllNone', WHERE WHAT IT READS IS OF BULK AT MOST 1048576: true; the input reads as it did. -/
def diskAllNoneUptoRow : OpenClaim := { program := "ytknmebknkncmoaa", sum := "3ae7d8ef78f74871ac3f173910ef5e6be5d8601676b832e21b6c6682d002073c", func := "tabula/tabulalaw26.DiskAllNone", spec := "diskAllNone", unfollowed := true, recurses := true, apart := false, narrowed := true }
def DiskAllNoneUptoSaid : Prop := diskAllNoneUptoRow.holds Try.pinned (OpenSpec.upto diskAllNoneSpec)

/-- 'tabulalaw26.DiskSectors', WHERE WHAT IT READS IS OF BULK AT MOST 1048576: true; the input reads as it did. -/
def diskSectorsUptoRow : OpenClaim := { program := "ytknmebknkncmoaa", sum := "3ae7d8ef78f74871ac3f173910ef5e6be5d8601676b832e21b6c6682d002073c", func := "tabula/tabulalaw26.DiskSectors", spec := "diskSectors", unfollowed := true, recurses := true, apart := false, narrowed := true }
def DiskSectorsUptoSaid : Prop := diskSectorsUptoRow.holds Try.pinned (OpenSpec.upto diskSectorsSpec)

/-- 'tabulalaw26.DiskTorn', WHERE WHAT IT READS IS OF BULK AT MOST 1048576: true; the input reads as it did. -/
def diskTornUptoRow : OpenClaim := { program := "ytknmebknkncmoaa", sum := "3ae7d8ef78f74871ac3f173910ef5e6be5d8601676b832e21b6c6682d002073c", func := "tabula/tabulalaw26.DiskTorn", spec := "diskTorn", unfollowed := true, recurses := true, apart := false, narrowed := true }
def DiskTornUptoSaid : Prop := diskTornUptoRow.holds Try.pinned (OpenSpec.upto diskTornSpec)

/-- 'tabulalaw26.DiskReads', WHERE WHAT IT READS IS OF BULK AT MOST 1048576: true; the input reads as it did. -/
def diskReadsUptoRow : OpenClaim := { program := "ytknmebknkncmoaa", sum := "3ae7d8ef78f74871ac3f173910ef5e6be5d8601676b832e21b6c6682d002073c", func := "tabula/tabulalaw26.DiskReads", spec := "diskReads", unfollowed := true, recurses := true, apart := false, narrowed := true }
def DiskReadsUptoSaid : Prop := diskReadsUptoRow.holds Try.pinned (OpenSpec.upto diskReadsSpec)

/-- 'tabulalaw26.DiskErrors', WHERE WHAT IT READS IS OF BULK AT MOST 1048576: true; the input reads as it did. -/
def diskErrorsUptoRow : OpenClaim := { program := "ytknmebknkncmoaa", sum := "3ae7d8ef78f74871ac3f173910ef5e6be5d8601676b832e21b6c6682d002073c", func := "tabula/tabulalaw26.DiskErrors", spec := "diskErrors", unfollowed := true, recurses := true, apart := false, narrowed := true }
def DiskErrorsUptoSaid : Prop := diskErrorsUptoRow.holds Try.pinned (OpenSpec.upto diskErrorsSpec)

end Rows
end Go.Proofs.Ytknmebknkncmoaa
