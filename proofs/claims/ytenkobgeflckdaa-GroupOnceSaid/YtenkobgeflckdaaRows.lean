/-
  No cell of these rows narrows 'for every input' (looked for: loops, veiled, ifaces, maps, wideKeys, modest, calm, conditions, laid).
  DERIVED. THE GIVEN ROWS OF THIS SEAT. 12 by the template 'for every input the law returns true; each argument reads behind the call as it read before'; 0 by the template 'total and deterministic' (their statements: YtenkobgeflckdaaTotals.lean).
  GIVEN WITH THE SEED: the statements are not yours to turn. If you find one false, say at which input.
  Laid BY PROGRAM, IN A SANDBOX (cutbox-rows.mjs): the forced cells as the released guide's own fill.sh prints them over the translation 32fc3498fba859fa… (all of the seat's roots in one cut). By AI agents, Wed Nov 11 2026. No macro, syntax, notation, axiom, sorry.
-/
import Derived.Test.YtenkobgeflckdaaChecked
import GoSem.Claim
import GoSem.ClaimJoined
import GoSem.ClaimMapViews
import Derived.JoinedTies
import Derived.KernelRfl
namespace Go.Proofs.Ytenkobgeflckdaa
/- THE CELL 'sum', in the pinned program and in every row, IS THE sha256 OF THE DUMP (.gsa) THAT YtenkobgeflckdaaProg.lean LOADS. Nothing in Lean hashes anything: it is a label: what it is worth is what the hold of that sum in a sandbox is worth. -/
noncomputable def Try.pinned : Pinned := { name := "ytenkobgeflckdaa", sum := "32fc3498fba859faa4aceb654a0eacbdc46e78c580c4930576d5e53efe8ae118", checked := Try.checked }
namespace Rows
def none {H : Type} : Left H := { results := [], args := [] }

/-- 'beaconrylaw18.BagPlays': WHATEVER THE INPUT: true; the input reads as it did. -/
def bagPlaysSpec : ChangeSpec := { name := "bagPlays", fn := fun _ => fun
  | [d1, d2] => { results := [.lit (.bool true)], args := [d1, d2] }
  | _ => none }
def bagPlaysRow : OpenClaim := { program := "ytenkobgeflckdaa", sum := "32fc3498fba859faa4aceb654a0eacbdc46e78c580c4930576d5e53efe8ae118", func := "beaconry/beaconrylaw18.BagPlays", spec := "bagPlays", inPlace := ["slices.overlaps[beaconry/api.Gram]"], unfollowed := true, recurses := true, apart := false }
def BagPlaysSaid : Prop := bagPlaysRow.holds Try.pinned (OpenSpec.ofChange bagPlaysSpec)

/-- ITS FALSE NEIGHBOUR: 'it returns false'. Refute it at one input. -/
def bagPlaysWrong : ChangeSpec := { name := "bagPlays", fn := fun _ => fun
  | [d1, d2] => { results := [.lit (.bool false)], args := [d1, d2] }
  | _ => none }
def BagPlaysWrongFalsely : Prop := bagPlaysRow.holds Try.pinned (OpenSpec.ofChange bagPlaysWrong)

/-- 'beaconrylaw18.BagTrue': WHATEVER THE INPUT: true; the input reads as it did. -/
def bagTrueSpec : ChangeSpec := { name := "bagTrue", fn := fun _ => fun
  | [d] => { results := [.lit (.bool true)], args := [d] }
  | _ => none }
def bagTrueRow : OpenClaim := { program := "ytenkobgeflckdaa", sum := "32fc3498fba859faa4aceb654a0eacbdc46e78c580c4930576d5e53efe8ae118", func := "beaconry/beaconrylaw18.BagTrue", spec := "bagTrue", inPlace := ["slices.overlaps[beaconry/api.Gram]"], unfollowed := true, recurses := true, apart := false }
def BagTrueSaid : Prop := bagTrueRow.holds Try.pinned (OpenSpec.ofChange bagTrueSpec)

/-- ITS FALSE NEIGHBOUR: 'it returns false'. Refute it at one input. -/
def bagTrueWrong : ChangeSpec := { name := "bagTrue", fn := fun _ => fun
  | [d] => { results := [.lit (.bool false)], args := [d] }
  | _ => none }
def BagTrueWrongFalsely : Prop := bagTrueRow.holds Try.pinned (OpenSpec.ofChange bagTrueWrong)

/-- 'beaconrylaw18.BagMoves': WHATEVER THE INPUT: true; the input reads as it did. -/
def bagMovesSpec : ChangeSpec := { name := "bagMoves", fn := fun _ => fun
  | [d1, d2, d3] => { results := [.lit (.bool true)], args := [d1, d2, d3] }
  | _ => none }
def bagMovesRow : OpenClaim := { program := "ytenkobgeflckdaa", sum := "32fc3498fba859faa4aceb654a0eacbdc46e78c580c4930576d5e53efe8ae118", func := "beaconry/beaconrylaw18.BagMoves", spec := "bagMoves", inPlace := ["slices.overlaps[beaconry/api.Gram]"], unfollowed := true, recurses := true, apart := false }
def BagMovesSaid : Prop := bagMovesRow.holds Try.pinned (OpenSpec.ofChange bagMovesSpec)

/-- ITS FALSE NEIGHBOUR: 'it returns false'. Refute it at one input. -/
def bagMovesWrong : ChangeSpec := { name := "bagMoves", fn := fun _ => fun
  | [d1, d2, d3] => { results := [.lit (.bool false)], args := [d1, d2, d3] }
  | _ => none }
def BagMovesWrongFalsely : Prop := bagMovesRow.holds Try.pinned (OpenSpec.ofChange bagMovesWrong)

/-- 'beaconrylaw18.BagFull': WHATEVER THE INPUT: true; the input reads as it did. -/
def bagFullSpec : ChangeSpec := { name := "bagFull", fn := fun _ => fun
  | [d] => { results := [.lit (.bool true)], args := [d] }
  | _ => none }
def bagFullRow : OpenClaim := { program := "ytenkobgeflckdaa", sum := "32fc3498fba859faa4aceb654a0eacbdc46e78c580c4930576d5e53efe8ae118", func := "beaconry/beaconrylaw18.BagFull", spec := "bagFull", inPlace := ["slices.overlaps[beaconry/api.Gram]"], unfollowed := true, recurses := true, apart := false }
def BagFullSaid : Prop := bagFullRow.holds Try.pinned (OpenSpec.ofChange bagFullSpec)

/-- ITS FALSE NEIGHBOUR: 'it returns false'. Refute it at one input. -/
def bagFullWrong : ChangeSpec := { name := "bagFull", fn := fun _ => fun
  | [d] => { results := [.lit (.bool false)], args := [d] }
  | _ => none }
def BagFullWrongFalsely : Prop := bagFullRow.holds Try.pinned (OpenSpec.ofChange bagFullWrong)

/-- 'beaconrylaw18.BagQueue': WHATEVER THE INPUT: true; the input reads as it did. -/
def bagQueueSpec : ChangeSpec := { name := "bagQueue", fn := fun _ => fun
  | [d1, d2] => { results := [.lit (.bool true)], args := [d1, d2] }
  | _ => none }
def bagQueueRow : OpenClaim := { program := "ytenkobgeflckdaa", sum := "32fc3498fba859faa4aceb654a0eacbdc46e78c580c4930576d5e53efe8ae118", func := "beaconry/beaconrylaw18.BagQueue", spec := "bagQueue", inPlace := ["slices.overlaps[beaconry/api.Gram]"], unfollowed := true, recurses := true, apart := false }
def BagQueueSaid : Prop := bagQueueRow.holds Try.pinned (OpenSpec.ofChange bagQueueSpec)

/-- ITS FALSE NEIGHBOUR: 'it returns false'. Refute it at one input. -/
def bagQueueWrong : ChangeSpec := { name := "bagQueue", fn := fun _ => fun
  | [d1, d2] => { results := [.lit (.bool false)], args := [d1, d2] }
  | _ => none }
def BagQueueWrongFalsely : Prop := bagQueueRow.holds Try.pinned (OpenSpec.ofChange bagQueueWrong)

/-- 'beaconrylaw13.DeltaDiffs': WHATEVER THE INPUT: true; the input reads as it did. -/
def deltaDiffsSpec : ChangeSpec := { name := "deltaDiffs", fn := fun _ => fun
  | [d1, d2] => { results := [.lit (.bool true)], args := [d1, d2] }
  | _ => none }
def deltaDiffsRow : OpenClaim := { program := "ytenkobgeflckdaa", sum := "32fc3498fba859faa4aceb654a0eacbdc46e78c580c4930576d5e53efe8ae118", func := "beaconry/beaconrylaw13.DeltaDiffs", spec := "deltaDiffs", inPlace := ["internal/bytealg.abigen_runtime_cmpstring"], unfollowed := true, recurses := true, apart := false }
def DeltaDiffsSaid : Prop := deltaDiffsRow.holds Try.pinned (OpenSpec.ofChange deltaDiffsSpec)

/-- ITS FALSE NEIGHBOUR: 'it returns false'. Refute it at one input. -/
def deltaDiffsWrong : ChangeSpec := { name := "deltaDiffs", fn := fun _ => fun
  | [d1, d2] => { results := [.lit (.bool false)], args := [d1, d2] }
  | _ => none }
def DeltaDiffsWrongFalsely : Prop := deltaDiffsRow.holds Try.pinned (OpenSpec.ofChange deltaDiffsWrong)

/-- 'beaconrylaw13.DeltaNothing': WHATEVER THE INPUT: true; the input reads as it did. -/
def deltaNothingSpec : ChangeSpec := { name := "deltaNothing", fn := fun _ => fun
  | [d] => { results := [.lit (.bool true)], args := [d] }
  | _ => none }
def deltaNothingRow : OpenClaim := { program := "ytenkobgeflckdaa", sum := "32fc3498fba859faa4aceb654a0eacbdc46e78c580c4930576d5e53efe8ae118", func := "beaconry/beaconrylaw13.DeltaNothing", spec := "deltaNothing", inPlace := ["internal/bytealg.abigen_runtime_cmpstring"], unfollowed := true, recurses := true, apart := false }
def DeltaNothingSaid : Prop := deltaNothingRow.holds Try.pinned (OpenSpec.ofChange deltaNothingSpec)

/-- ITS FALSE NEIGHBOUR: 'it returns false'. Refute it at one input. -/
def deltaNothingWrong : ChangeSpec := { name := "deltaNothing", fn := fun _ => fun
  | [d] => { results := [.lit (.bool false)], args := [d] }
  | _ => none }
def DeltaNothingWrongFalsely : Prop := deltaNothingRow.holds Try.pinned (OpenSpec.ofChange deltaNothingWrong)

/-- 'beaconrylaw11.GroupSets': WHATEVER THE INPUT: true; the input reads as it did. -/
def groupSetsSpec : ChangeSpec := { name := "groupSets", fn := fun _ => fun
  | [d1, d2, d3] => { results := [.lit (.bool true)], args := [d1, d2, d3] }
  | _ => none }
def groupSetsRow : OpenClaim := { program := "ytenkobgeflckdaa", sum := "32fc3498fba859faa4aceb654a0eacbdc46e78c580c4930576d5e53efe8ae118", func := "beaconry/beaconrylaw11.GroupSets", spec := "groupSets", inPlace := ["internal/bytealg.abigen_runtime_cmpstring", "slices.overlaps[beaconry/api.Value]"], unfollowed := true, recurses := true, apart := false }
def GroupSetsSaid : Prop := groupSetsRow.holds Try.pinned (OpenSpec.ofChange groupSetsSpec)

/-- ITS FALSE NEIGHBOUR: 'it returns false'. Refute it at one input. -/
def groupSetsWrong : ChangeSpec := { name := "groupSets", fn := fun _ => fun
  | [d1, d2, d3] => { results := [.lit (.bool false)], args := [d1, d2, d3] }
  | _ => none }
def GroupSetsWrongFalsely : Prop := groupSetsRow.holds Try.pinned (OpenSpec.ofChange groupSetsWrong)

/-- 'beaconrylaw11.GroupEnds': WHATEVER THE INPUT: true; the input reads as it did. -/
def groupEndsSpec : ChangeSpec := { name := "groupEnds", fn := fun _ => fun
  | [d1, d2] => { results := [.lit (.bool true)], args := [d1, d2] }
  | _ => none }
def groupEndsRow : OpenClaim := { program := "ytenkobgeflckdaa", sum := "32fc3498fba859faa4aceb654a0eacbdc46e78c580c4930576d5e53efe8ae118", func := "beaconry/beaconrylaw11.GroupEnds", spec := "groupEnds", inPlace := ["internal/bytealg.abigen_runtime_cmpstring", "slices.overlaps[beaconry/api.Value]"], unfollowed := true, recurses := true, apart := false }
def GroupEndsSaid : Prop := groupEndsRow.holds Try.pinned (OpenSpec.ofChange groupEndsSpec)

/-- ITS FALSE NEIGHBOUR: 'it returns false'. Refute it at one input. -/
def groupEndsWrong : ChangeSpec := { name := "groupEnds", fn := fun _ => fun
  | [d1, d2] => { results := [.lit (.bool false)], args := [d1, d2] }
  | _ => none }
def GroupEndsWrongFalsely : Prop := groupEndsRow.holds Try.pinned (OpenSpec.ofChange groupEndsWrong)

/-- 'beaconrylaw11.GroupCounts': WHATEVER THE INPUT: true; the input reads as it did. -/
def groupCountsSpec : ChangeSpec := { name := "groupCounts", fn := fun _ => fun
  | [d1, d2] => { results := [.lit (.bool true)], args := [d1, d2] }
  | _ => none }
def groupCountsRow : OpenClaim := { program := "ytenkobgeflckdaa", sum := "32fc3498fba859faa4aceb654a0eacbdc46e78c580c4930576d5e53efe8ae118", func := "beaconry/beaconrylaw11.GroupCounts", spec := "groupCounts", inPlace := ["internal/bytealg.abigen_runtime_cmpstring", "slices.overlaps[beaconry/api.Value]"], unfollowed := true, recurses := true, apart := false }
def GroupCountsSaid : Prop := groupCountsRow.holds Try.pinned (OpenSpec.ofChange groupCountsSpec)

/-- ITS FALSE NEIGHBOUR: 'it returns false'. Refute it at one input. -/
def groupCountsWrong : ChangeSpec := { name := "groupCounts", fn := fun _ => fun
  | [d1, d2] => { results := [.lit (.bool false)], args := [d1, d2] }
  | _ => none }
def GroupCountsWrongFalsely : Prop := groupCountsRow.holds Try.pinned (OpenSpec.ofChange groupCountsWrong)

/-- 'beaconrylaw11.GroupOnce': WHATEVER THE INPUT: true; the input reads as it did. -/
def groupOnceSpec : ChangeSpec := { name := "groupOnce", fn := fun _ => fun
  | [d1, d2] => { results := [.lit (.bool true)], args := [d1, d2] }
  | _ => none }
def groupOnceRow : OpenClaim := { program := "ytenkobgeflckdaa", sum := "32fc3498fba859faa4aceb654a0eacbdc46e78c580c4930576d5e53efe8ae118", func := "beaconry/beaconrylaw11.GroupOnce", spec := "groupOnce", inPlace := ["internal/bytealg.abigen_runtime_cmpstring", "slices.overlaps[beaconry/api.Value]"], unfollowed := true, recurses := true, apart := false }
def GroupOnceSaid : Prop := groupOnceRow.holds Try.pinned (OpenSpec.ofChange groupOnceSpec)

/-- ITS FALSE NEIGHBOUR: 'it returns false'. Refute it at one input. -/
def groupOnceWrong : ChangeSpec := { name := "groupOnce", fn := fun _ => fun
  | [d1, d2] => { results := [.lit (.bool false)], args := [d1, d2] }
  | _ => none }
def GroupOnceWrongFalsely : Prop := groupOnceRow.holds Try.pinned (OpenSpec.ofChange groupOnceWrong)

/-- 'beaconrylaw11.GroupTurns': WHATEVER THE INPUT: true; the input reads as it did. -/
def groupTurnsSpec : ChangeSpec := { name := "groupTurns", fn := fun _ => fun
  | [d1, d2, d3] => { results := [.lit (.bool true)], args := [d1, d2, d3] }
  | _ => none }
def groupTurnsRow : OpenClaim := { program := "ytenkobgeflckdaa", sum := "32fc3498fba859faa4aceb654a0eacbdc46e78c580c4930576d5e53efe8ae118", func := "beaconry/beaconrylaw11.GroupTurns", spec := "groupTurns", inPlace := ["internal/bytealg.abigen_runtime_cmpstring", "slices.overlaps[beaconry/api.Value]"], unfollowed := true, recurses := true, apart := false }
def GroupTurnsSaid : Prop := groupTurnsRow.holds Try.pinned (OpenSpec.ofChange groupTurnsSpec)

/-- ITS FALSE NEIGHBOUR: 'it returns false'. Refute it at one input. -/
def groupTurnsWrong : ChangeSpec := { name := "groupTurns", fn := fun _ => fun
  | [d1, d2, d3] => { results := [.lit (.bool false)], args := [d1, d2, d3] }
  | _ => none }
def GroupTurnsWrongFalsely : Prop := groupTurnsRow.holds Try.pinned (OpenSpec.ofChange groupTurnsWrong)

/- THE SECOND FORM. 'bulk': how many values and letters a reading holds, each counted each time it is reached (what is shared counts as often as it is met; a slice's spare places count too). A statement '..UptoSaid' is the law's where the arguments, and the package variables that the reading takes, are together of bulk at most 1048576: NARROWER than '..Said'. Prove '..Said' where nothing that the law and all that it calls make is longer than what came in: it says more and counts as full. Else prove '..UptoSaid'. A law counts once. -/
mutual
def uptoBulk {H : Type} : DataW H → Nat
  | .lit (.string bytes) => bytes.length + 1
  | .lit _ => 1
  | .nil => 1
  | .ptr d => uptoBulk d + 1
  | .slice elems spare => uptoBulkAll elems + uptoBulkAll spare + 1
  | .agg parts => uptoBulkAll parts + 1
  | .iface _ d => uptoBulk d + 1
  | .map entries => uptoBulkEntries entries + 1
  | .held _ => 1
def uptoBulkAll {H : Type} : List (DataW H) → Nat
  | [] => 0
  | d :: r => uptoBulk d + uptoBulkAll r
def uptoBulkEntries {H : Type} : List (Lit × DataW H) → Nat
  | [] => 0
  | x :: r => uptoBulkEntry x + uptoBulkEntries r
def uptoBulkEntry {H : Type} : Lit × DataW H → Nat
  | (.string bytes, d) => bytes.length + uptoBulk d + 1
  | (_, d) => uptoBulk d + 1
 end
def uptoSmall : (H : Type) → List (DataW H) → Bool := fun _ ds => decide (uptoBulkAll ds ≤ 1048576)
def OpenSpec.upto (s : _root_.Go.ChangeSpec) : _root_.Go.OpenSpec := { _root_.Go.OpenSpec.ofChange s with cond := some uptoSmall }

/-- 'beaconrylaw18.BagPlays', WHERE WHAT IT READS IS OF BULK AT MOST 1048576: true; the input reads as it did. -/
def bagPlaysUptoRow : OpenClaim := { program := "ytenkobgeflckdaa", sum := "32fc3498fba859faa4aceb654a0eacbdc46e78c580c4930576d5e53efe8ae118", func := "beaconry/beaconrylaw18.BagPlays", spec := "bagPlays", inPlace := ["slices.overlaps[beaconry/api.Gram]"], unfollowed := true, recurses := true, apart := false, narrowed := true }
def BagPlaysUptoSaid : Prop := bagPlaysUptoRow.holds Try.pinned (OpenSpec.upto bagPlaysSpec)

/-- 'beaconrylaw18.BagTrue', WHERE WHAT IT READS IS OF BULK AT MOST 1048576: true; the input reads as it did. -/
def bagTrueUptoRow : OpenClaim := { program := "ytenkobgeflckdaa", sum := "32fc3498fba859faa4aceb654a0eacbdc46e78c580c4930576d5e53efe8ae118", func := "beaconry/beaconrylaw18.BagTrue", spec := "bagTrue", inPlace := ["slices.overlaps[beaconry/api.Gram]"], unfollowed := true, recurses := true, apart := false, narrowed := true }
def BagTrueUptoSaid : Prop := bagTrueUptoRow.holds Try.pinned (OpenSpec.upto bagTrueSpec)

/-- 'beaconrylaw18.BagMoves', WHERE WHAT IT READS IS OF BULK AT MOST 1048576: true; the input reads as it did. -/
def bagMovesUptoRow : OpenClaim := { program := "ytenkobgeflckdaa", sum := "32fc3498fba859faa4aceb654a0eacbdc46e78c580c4930576d5e53efe8ae118", func := "beaconry/beaconrylaw18.BagMoves", spec := "bagMoves", inPlace := ["slices.overlaps[beaconry/api.Gram]"], unfollowed := true, recurses := true, apart := false, narrowed := true }
def BagMovesUptoSaid : Prop := bagMovesUptoRow.holds Try.pinned (OpenSpec.upto bagMovesSpec)

/-- 'beaconrylaw18.BagFull', WHERE WHAT IT READS IS OF BULK AT MOST 1048576: true; the input reads as it did. -/
def bagFullUptoRow : OpenClaim := { program := "ytenkobgeflckdaa", sum := "32fc3498fba859faa4aceb654a0eacbdc46e78c580c4930576d5e53efe8ae118", func := "beaconry/beaconrylaw18.BagFull", spec := "bagFull", inPlace := ["slices.overlaps[beaconry/api.Gram]"], unfollowed := true, recurses := true, apart := false, narrowed := true }
def BagFullUptoSaid : Prop := bagFullUptoRow.holds Try.pinned (OpenSpec.upto bagFullSpec)

/-- 'beaconrylaw18.BagQueue', WHERE WHAT IT READS IS OF BULK AT MOST 1048576: true; the input reads as it did. -/
def bagQueueUptoRow : OpenClaim := { program := "ytenkobgeflckdaa", sum := "32fc3498fba859faa4aceb654a0eacbdc46e78c580c4930576d5e53efe8ae118", func := "beaconry/beaconrylaw18.BagQueue", spec := "bagQueue", inPlace := ["slices.overlaps[beaconry/api.Gram]"], unfollowed := true, recurses := true, apart := false, narrowed := true }
def BagQueueUptoSaid : Prop := bagQueueUptoRow.holds Try.pinned (OpenSpec.upto bagQueueSpec)

/-- 'beaconrylaw13.DeltaDiffs', WHERE WHAT IT READS IS OF BULK AT MOST 1048576: true; the input reads as it did. -/
def deltaDiffsUptoRow : OpenClaim := { program := "ytenkobgeflckdaa", sum := "32fc3498fba859faa4aceb654a0eacbdc46e78c580c4930576d5e53efe8ae118", func := "beaconry/beaconrylaw13.DeltaDiffs", spec := "deltaDiffs", inPlace := ["internal/bytealg.abigen_runtime_cmpstring"], unfollowed := true, recurses := true, apart := false, narrowed := true }
def DeltaDiffsUptoSaid : Prop := deltaDiffsUptoRow.holds Try.pinned (OpenSpec.upto deltaDiffsSpec)

/-- 'beaconrylaw13.DeltaNothing', WHERE WHAT IT READS IS OF BULK AT MOST 1048576: true; the input reads as it did. -/
def deltaNothingUptoRow : OpenClaim := { program := "ytenkobgeflckdaa", sum := "32fc3498fba859faa4aceb654a0eacbdc46e78c580c4930576d5e53efe8ae118", func := "beaconry/beaconrylaw13.DeltaNothing", spec := "deltaNothing", inPlace := ["internal/bytealg.abigen_runtime_cmpstring"], unfollowed := true, recurses := true, apart := false, narrowed := true }
def DeltaNothingUptoSaid : Prop := deltaNothingUptoRow.holds Try.pinned (OpenSpec.upto deltaNothingSpec)

/-- 'beaconrylaw11.GroupSets', WHERE WHAT IT READS IS OF BULK AT MOST 1048576: true; the input reads as it did. -/
def groupSetsUptoRow : OpenClaim := { program := "ytenkobgeflckdaa", sum := "32fc3498fba859faa4aceb654a0eacbdc46e78c580c4930576d5e53efe8ae118", func := "beaconry/beaconrylaw11.GroupSets", spec := "groupSets", inPlace := ["internal/bytealg.abigen_runtime_cmpstring", "slices.overlaps[beaconry/api.Value]"], unfollowed := true, recurses := true, apart := false, narrowed := true }
def GroupSetsUptoSaid : Prop := groupSetsUptoRow.holds Try.pinned (OpenSpec.upto groupSetsSpec)

/-- 'beaconrylaw11.GroupEnds', WHERE WHAT IT READS IS OF BULK AT MOST 1048576: true; the input reads as it did. -/
def groupEndsUptoRow : OpenClaim := { program := "ytenkobgeflckdaa", sum := "32fc3498fba859faa4aceb654a0eacbdc46e78c580c4930576d5e53efe8ae118", func := "beaconry/beaconrylaw11.GroupEnds", spec := "groupEnds", inPlace := ["internal/bytealg.abigen_runtime_cmpstring", "slices.overlaps[beaconry/api.Value]"], unfollowed := true, recurses := true, apart := false, narrowed := true }
def GroupEndsUptoSaid : Prop := groupEndsUptoRow.holds Try.pinned (OpenSpec.upto groupEndsSpec)

/-- 'beaconrylaw11.GroupCounts', WHERE WHAT IT READS IS OF BULK AT MOST 1048576: true; the input reads as it did. -/
def groupCountsUptoRow : OpenClaim := { program := "ytenkobgeflckdaa", sum := "32fc3498fba859faa4aceb654a0eacbdc46e78c580c4930576d5e53efe8ae118", func := "beaconry/beaconrylaw11.GroupCounts", spec := "groupCounts", inPlace := ["internal/bytealg.abigen_runtime_cmpstring", "slices.overlaps[beaconry/api.Value]"], unfollowed := true, recurses := true, apart := false, narrowed := true }
def GroupCountsUptoSaid : Prop := groupCountsUptoRow.holds Try.pinned (OpenSpec.upto groupCountsSpec)

/-- 'beaconrylaw11.GroupOnce', WHERE WHAT IT READS IS OF BULK AT MOST 1048576: true; the input reads as it did. -/
def groupOnceUptoRow : OpenClaim := { program := "ytenkobgeflckdaa", sum := "32fc3498fba859faa4aceb654a0eacbdc46e78c580c4930576d5e53efe8ae118", func := "beaconry/beaconrylaw11.GroupOnce", spec := "groupOnce", inPlace := ["internal/bytealg.abigen_runtime_cmpstring", "slices.overlaps[beaconry/api.Value]"], unfollowed := true, recurses := true, apart := false, narrowed := true }
def GroupOnceUptoSaid : Prop := groupOnceUptoRow.holds Try.pinned (OpenSpec.upto groupOnceSpec)

/-- 'beaconrylaw11.GroupTurns', WHERE WHAT IT READS IS OF BULK AT MOST 1048576: true; the input reads as it did. -/
def groupTurnsUptoRow : OpenClaim := { program := "ytenkobgeflckdaa", sum := "32fc3498fba859faa4aceb654a0eacbdc46e78c580c4930576d5e53efe8ae118", func := "beaconry/beaconrylaw11.GroupTurns", spec := "groupTurns", inPlace := ["internal/bytealg.abigen_runtime_cmpstring", "slices.overlaps[beaconry/api.Value]"], unfollowed := true, recurses := true, apart := false, narrowed := true }
def GroupTurnsUptoSaid : Prop := groupTurnsUptoRow.holds Try.pinned (OpenSpec.upto groupTurnsSpec)

end Rows
end Go.Proofs.Ytenkobgeflckdaa
