/-
  No cell of these rows narrows 'for every input' (looked for: loops, veiled, ifaces, maps, wideKeys, modest, calm, conditions, laid).
  DERIVED. THE GIVEN ROWS OF THIS SEAT. 3 by the template 'for every input the law returns true; each argument reads behind the call as it read before'; 0 by the template 'total and deterministic' (their statements: YtenkobgeflckdabTotals.lean).
  GIVEN WITH THE SEED: the statements are not yours to turn. If you find one false, say at which input.
  Laid BY PROGRAM, IN A SANDBOX (cutbox-rows.mjs): the forced cells as the released guide's own fill.sh prints them over the translation 76aae0ce4707a2dc… (all of the seat's roots in one cut). By AI agents, Wed Nov 11 2026. No macro, syntax, notation, axiom, sorry.
-/
import Derived.Test.YtenkobgeflckdabChecked
import GoSem.Claim
import GoSem.ClaimJoined
import GoSem.ClaimMapViews
import Derived.JoinedTies
import Derived.KernelRfl
namespace Go.Proofs.Ytenkobgeflckdab
/- THE CELL 'sum', in the pinned program and in every row, IS THE sha256 OF THE DUMP (.gsa) THAT YtenkobgeflckdabProg.lean LOADS. Nothing in Lean hashes anything: it is a label: what it is worth is what the hold of that sum in a sandbox is worth. -/
noncomputable def Try.pinned : Pinned := { name := "ytenkobgeflckdab", sum := "76aae0ce4707a2dc962ccbf13975350911ac357273cc0efc36f095138052c5ca", checked := Try.checked }
namespace Rows
def none {H : Type} : Left H := { results := [], args := [] }

/-- 'beaconrylaw10.FireMerges': WHATEVER THE INPUT: true; the input reads as it did. -/
def fireMergesSpec : ChangeSpec := { name := "fireMerges", fn := fun _ => fun
  | [d] => { results := [.lit (.bool true)], args := [d] }
  | _ => none }
def fireMergesRow : OpenClaim := { program := "ytenkobgeflckdab", sum := "76aae0ce4707a2dc962ccbf13975350911ac357273cc0efc36f095138052c5ca", func := "beaconry/beaconrylaw10.FireMerges", spec := "fireMerges", inPlace := ["internal/bytealg.abigen_runtime_cmpstring"], unfollowed := true, recurses := true, apart := false }
def FireMergesSaid : Prop := fireMergesRow.holds Try.pinned (OpenSpec.ofChange fireMergesSpec)

/-- ITS FALSE NEIGHBOUR: 'it returns false'. Refute it at one input. -/
def fireMergesWrong : ChangeSpec := { name := "fireMerges", fn := fun _ => fun
  | [d] => { results := [.lit (.bool false)], args := [d] }
  | _ => none }
def FireMergesWrongFalsely : Prop := fireMergesRow.holds Try.pinned (OpenSpec.ofChange fireMergesWrong)

/-- 'beaconrylaw10.FireMore': WHATEVER THE INPUT: true; the input reads as it did. -/
def fireMoreSpec : ChangeSpec := { name := "fireMore", fn := fun _ => fun
  | [d1, d2, d3] => { results := [.lit (.bool true)], args := [d1, d2, d3] }
  | _ => none }
def fireMoreRow : OpenClaim := { program := "ytenkobgeflckdab", sum := "76aae0ce4707a2dc962ccbf13975350911ac357273cc0efc36f095138052c5ca", func := "beaconry/beaconrylaw10.FireMore", spec := "fireMore", inPlace := ["internal/bytealg.abigen_runtime_cmpstring"], unfollowed := true, recurses := true, apart := false }
def FireMoreSaid : Prop := fireMoreRow.holds Try.pinned (OpenSpec.ofChange fireMoreSpec)

/-- ITS FALSE NEIGHBOUR: 'it returns false'. Refute it at one input. -/
def fireMoreWrong : ChangeSpec := { name := "fireMore", fn := fun _ => fun
  | [d1, d2, d3] => { results := [.lit (.bool false)], args := [d1, d2, d3] }
  | _ => none }
def FireMoreWrongFalsely : Prop := fireMoreRow.holds Try.pinned (OpenSpec.ofChange fireMoreWrong)

/-- 'beaconrylaw10.FireOthers': WHATEVER THE INPUT: true; the input reads as it did. -/
def fireOthersSpec : ChangeSpec := { name := "fireOthers", fn := fun _ => fun
  | [d1, d2, d3] => { results := [.lit (.bool true)], args := [d1, d2, d3] }
  | _ => none }
def fireOthersRow : OpenClaim := { program := "ytenkobgeflckdab", sum := "76aae0ce4707a2dc962ccbf13975350911ac357273cc0efc36f095138052c5ca", func := "beaconry/beaconrylaw10.FireOthers", spec := "fireOthers", inPlace := ["internal/bytealg.abigen_runtime_cmpstring"], unfollowed := true, recurses := true, apart := false }
def FireOthersSaid : Prop := fireOthersRow.holds Try.pinned (OpenSpec.ofChange fireOthersSpec)

/-- ITS FALSE NEIGHBOUR: 'it returns false'. Refute it at one input. -/
def fireOthersWrong : ChangeSpec := { name := "fireOthers", fn := fun _ => fun
  | [d1, d2, d3] => { results := [.lit (.bool false)], args := [d1, d2, d3] }
  | _ => none }
def FireOthersWrongFalsely : Prop := fireOthersRow.holds Try.pinned (OpenSpec.ofChange fireOthersWrong)

/- THE SECOND FORM. 'bulk': how many values and letters a reading holds, each counted each time it is reached (what is shared counts as often as it is met; a slice's spare places count too). A statement '..UptoSaid' is the law's where the arguments, and the package variables that the reading takes, are together of bulk at most 1048576: NARROWER than '..Said'. Prove '..Said' where nothing that the law and all that it calls make is longer than what came in: it says more and counts as full. Else prove '..UptoSaid'. A law counts once. -/
mutual
def uptoBulk {H : Type} : DataW H → Nat
  | .lit (.string bytes) => bytes.length + 1
  | .lit _ => 1
  | .nil => 1
  | .ptr d => uptoBulk d + 1
  | .slice elems spare => uptoBulkAll elems + uptoBulkAll spare + 1
  | .agg parts => uptoBulkAll parts + 1
  | .iface _ d => uptoBulk d + 1
  | .map entries => uptoBulkEntries entries + 1
  | .held _ => 1
def uptoBulkAll {H : Type} : List (DataW H) → Nat
  | [] => 0
  | d :: r => uptoBulk d + uptoBulkAll r
def uptoBulkEntries {H : Type} : List (Lit × DataW H) → Nat
  | [] => 0
  | x :: r => uptoBulkEntry x + uptoBulkEntries r
def uptoBulkEntry {H : Type} : Lit × DataW H → Nat
  | (.string bytes, d) => bytes.length + uptoBulk d + 1
  | (_, d) => uptoBulk d + 1
 end
def uptoSmall : (H : Type) → List (DataW H) → Bool := fun _ ds => decide (uptoBulkAll ds ≤ 1048576)
def OpenSpec.upto (s : _root_.Go.ChangeSpec) : _root_.Go.OpenSpec := { _root_.Go.OpenSpec.ofChange s with cond := some uptoSmall }

/-- 'beaconrylaw10.FireMerges', WHERE WHAT IT READS IS OF BULK AT MOST 1048576: true; the input reads as it did. -/
def fireMergesUptoRow : OpenClaim := { program := "ytenkobgeflckdab", sum := "76aae0ce4707a2dc962ccbf13975350911ac357273cc0efc36f095138052c5ca", func := "beaconry/beaconrylaw10.FireMerges", spec := "fireMerges", inPlace := ["internal/bytealg.abigen_runtime_cmpstring"], unfollowed := true, recurses := true, apart := false, narrowed := true }
def FireMergesUptoSaid : Prop := fireMergesUptoRow.holds Try.pinned (OpenSpec.upto fireMergesSpec)

/-- 'beaconrylaw10.FireMore', WHERE WHAT IT READS IS OF BULK AT MOST 1048576: true; the input reads as it did. -/
def fireMoreUptoRow : OpenClaim := { program := "ytenkobgeflckdab", sum := "76aae0ce4707a2dc962ccbf13975350911ac357273cc0efc36f095138052c5ca", func := "beaconry/beaconrylaw10.FireMore", spec := "fireMore", inPlace := ["internal/bytealg.abigen_runtime_cmpstring"], unfollowed := true, recurses := true, apart := false, narrowed := true }
def FireMoreUptoSaid : Prop := fireMoreUptoRow.holds Try.pinned (OpenSpec.upto fireMoreSpec)

/-- 'beaconrylaw10.FireOthers', WHERE WHAT IT READS IS OF BULK AT MOST 1048576: true; the input reads as it did. -/
def fireOthersUptoRow : OpenClaim := { program := "ytenkobgeflckdab", sum := "76aae0ce4707a2dc962ccbf13975350911ac357273cc0efc36f095138052c5ca", func := "beaconry/beaconrylaw10.FireOthers", spec := "fireOthers", inPlace := ["internal/bytealg.abigen_runtime_cmpstring"], unfollowed := true, recurses := true, apart := false, narrowed := true }
def FireOthersUptoSaid : Prop := fireOthersUptoRow.holds Try.pinned (OpenSpec.upto fireOthersSpec)

end Rows
end Go.Proofs.Ytenkobgeflckdab
