/-
  No cell of these rows narrows 'for every input' (looked for: loops, veiled, ifaces, maps, wideKeys, modest, calm, conditions, laid).
  DERIVED. THE GIVEN ROWS OF THIS SEAT. 11 by the template 'for every input the law returns true; each argument reads behind the call as it read before'; 0 by the template 'total and deterministic' (their statements: YtbpgfnbhihklnaaGreatTotals.lean).
  GIVEN WITH THE SEED: the statements are not yours to turn. If you find one false, say at which input.
  Laid BY PROGRAM, IN A SANDBOX (cutbox-rows.mjs): the forced cells as the released guide's own fill.sh prints them over the translation d07b72d3b0fc836b… (all of the seat's roots in one cut). By AI agents, Wed Nov 11 2026. No macro, syntax, notation, axiom, sorry.
-/
import Derived.Test.YtbpgfnbhihklnaaGreatChecked
import GoSem.Claim
import GoSem.ClaimJoined
import GoSem.ClaimMapViews
import Derived.JoinedTies
import Derived.KernelRfl
namespace Go.Proofs.YtbpgfnbhihklnaaGreat
/- THE CELL 'sum', in the pinned program and in every row, IS THE sha256 OF THE DUMP (.gsa) THAT YtbpgfnbhihklnaaGreatProg.lean LOADS. Nothing in Lean hashes anything: it is a label: what it is worth is what the hold of that sum in a sandbox is worth. -/
noncomputable def Tryz.pinned : Pinned := { name := "ytbpgfnbhihklnaagreat", sum := "d07b72d3b0fc836b588c3fb7d04c08725f93e9b61a905b8b0ea2a73d6ced0843", checked := Tryz.checked }
namespace Rows
def none {H : Type} : Left H := { results := [], args := [] }

/-- 'beaconrylaw12.FixClosed': WHATEVER THE INPUT: true; the input reads as it did. -/
def fixClosedSpec : ChangeSpec := { name := "fixClosed", fn := fun _ => fun
  | [d1, d2] => { results := [.lit (.bool true)], args := [d1, d2] }
  | _ => none }
def fixClosedRow : OpenClaim := { program := "ytbpgfnbhihklnaagreat", sum := "d07b72d3b0fc836b588c3fb7d04c08725f93e9b61a905b8b0ea2a73d6ced0843", func := "beaconry/beaconrylaw12.FixClosed", spec := "fixClosed", inPlace := ["internal/bytealg.abigen_runtime_cmpstring", "slices.overlaps[beaconry/api.Value]"], unfollowed := true, recurses := true, apart := false }
def FixClosedSaid : Prop := fixClosedRow.holds Tryz.pinned (OpenSpec.ofChange fixClosedSpec)

/-- ITS FALSE NEIGHBOUR: 'it returns false'. Refute it at one input. -/
def fixClosedWrong : ChangeSpec := { name := "fixClosed", fn := fun _ => fun
  | [d1, d2] => { results := [.lit (.bool false)], args := [d1, d2] }
  | _ => none }
def FixClosedWrongFalsely : Prop := fixClosedRow.holds Tryz.pinned (OpenSpec.ofChange fixClosedWrong)

/-- 'beaconrylaw12.FixSound': WHATEVER THE INPUT: true; the input reads as it did. -/
def fixSoundSpec : ChangeSpec := { name := "fixSound", fn := fun _ => fun
  | [d1, d2] => { results := [.lit (.bool true)], args := [d1, d2] }
  | _ => none }
def fixSoundRow : OpenClaim := { program := "ytbpgfnbhihklnaagreat", sum := "d07b72d3b0fc836b588c3fb7d04c08725f93e9b61a905b8b0ea2a73d6ced0843", func := "beaconry/beaconrylaw12.FixSound", spec := "fixSound", inPlace := ["internal/bytealg.abigen_runtime_cmpstring", "slices.overlaps[beaconry/api.Value]"], unfollowed := true, recurses := true, apart := false }
def FixSoundSaid : Prop := fixSoundRow.holds Tryz.pinned (OpenSpec.ofChange fixSoundSpec)

/-- ITS FALSE NEIGHBOUR: 'it returns false'. Refute it at one input. -/
def fixSoundWrong : ChangeSpec := { name := "fixSound", fn := fun _ => fun
  | [d1, d2] => { results := [.lit (.bool false)], args := [d1, d2] }
  | _ => none }
def FixSoundWrongFalsely : Prop := fixSoundRow.holds Tryz.pinned (OpenSpec.ofChange fixSoundWrong)

/-- 'beaconrylaw12.FixMore': WHATEVER THE INPUT: true; the input reads as it did. -/
def fixMoreSpec : ChangeSpec := { name := "fixMore", fn := fun _ => fun
  | [d1, d2, d3] => { results := [.lit (.bool true)], args := [d1, d2, d3] }
  | _ => none }
def fixMoreRow : OpenClaim := { program := "ytbpgfnbhihklnaagreat", sum := "d07b72d3b0fc836b588c3fb7d04c08725f93e9b61a905b8b0ea2a73d6ced0843", func := "beaconry/beaconrylaw12.FixMore", spec := "fixMore", inPlace := ["internal/bytealg.abigen_runtime_cmpstring", "slices.overlaps[beaconry/api.Value]"], unfollowed := true, recurses := true, apart := false }
def FixMoreSaid : Prop := fixMoreRow.holds Tryz.pinned (OpenSpec.ofChange fixMoreSpec)

/-- ITS FALSE NEIGHBOUR: 'it returns false'. Refute it at one input. -/
def fixMoreWrong : ChangeSpec := { name := "fixMore", fn := fun _ => fun
  | [d1, d2, d3] => { results := [.lit (.bool false)], args := [d1, d2, d3] }
  | _ => none }
def FixMoreWrongFalsely : Prop := fixMoreRow.holds Tryz.pinned (OpenSpec.ofChange fixMoreWrong)

/-- 'beaconrylaw12.FixAgain': WHATEVER THE INPUT: true; the input reads as it did. -/
def fixAgainSpec : ChangeSpec := { name := "fixAgain", fn := fun _ => fun
  | [d1, d2, d3] => { results := [.lit (.bool true)], args := [d1, d2, d3] }
  | _ => none }
def fixAgainRow : OpenClaim := { program := "ytbpgfnbhihklnaagreat", sum := "d07b72d3b0fc836b588c3fb7d04c08725f93e9b61a905b8b0ea2a73d6ced0843", func := "beaconry/beaconrylaw12.FixAgain", spec := "fixAgain", inPlace := ["internal/bytealg.abigen_runtime_cmpstring", "slices.overlaps[beaconry/api.Value]"], unfollowed := true, recurses := true, apart := false }
def FixAgainSaid : Prop := fixAgainRow.holds Tryz.pinned (OpenSpec.ofChange fixAgainSpec)

/-- ITS FALSE NEIGHBOUR: 'it returns false'. Refute it at one input. -/
def fixAgainWrong : ChangeSpec := { name := "fixAgain", fn := fun _ => fun
  | [d1, d2, d3] => { results := [.lit (.bool false)], args := [d1, d2, d3] }
  | _ => none }
def FixAgainWrongFalsely : Prop := fixAgainRow.holds Tryz.pinned (OpenSpec.ofChange fixAgainWrong)

/-- 'beaconrylaw12.FixStamps': WHATEVER THE INPUT: true; the input reads as it did. -/
def fixStampsSpec : ChangeSpec := { name := "fixStamps", fn := fun _ => fun
  | [d1, d2] => { results := [.lit (.bool true)], args := [d1, d2] }
  | _ => none }
def fixStampsRow : OpenClaim := { program := "ytbpgfnbhihklnaagreat", sum := "d07b72d3b0fc836b588c3fb7d04c08725f93e9b61a905b8b0ea2a73d6ced0843", func := "beaconry/beaconrylaw12.FixStamps", spec := "fixStamps", inPlace := ["internal/bytealg.abigen_runtime_cmpstring", "slices.overlaps[beaconry/api.Value]"], unfollowed := true, recurses := true, apart := false }
def FixStampsSaid : Prop := fixStampsRow.holds Tryz.pinned (OpenSpec.ofChange fixStampsSpec)

/-- ITS FALSE NEIGHBOUR: 'it returns false'. Refute it at one input. -/
def fixStampsWrong : ChangeSpec := { name := "fixStamps", fn := fun _ => fun
  | [d1, d2] => { results := [.lit (.bool false)], args := [d1, d2] }
  | _ => none }
def FixStampsWrongFalsely : Prop := fixStampsRow.holds Tryz.pinned (OpenSpec.ofChange fixStampsWrong)

/-- 'beaconrylaw12.FixOver': WHATEVER THE INPUT: true; the input reads as it did. -/
def fixOverSpec : ChangeSpec := { name := "fixOver", fn := fun _ => fun
  | [d1, d2, d3] => { results := [.lit (.bool true)], args := [d1, d2, d3] }
  | _ => none }
def fixOverRow : OpenClaim := { program := "ytbpgfnbhihklnaagreat", sum := "d07b72d3b0fc836b588c3fb7d04c08725f93e9b61a905b8b0ea2a73d6ced0843", func := "beaconry/beaconrylaw12.FixOver", spec := "fixOver", inPlace := ["internal/bytealg.abigen_runtime_cmpstring", "slices.overlaps[beaconry/api.Value]"], unfollowed := true, recurses := true, apart := false }
def FixOverSaid : Prop := fixOverRow.holds Tryz.pinned (OpenSpec.ofChange fixOverSpec)

/-- ITS FALSE NEIGHBOUR: 'it returns false'. Refute it at one input. -/
def fixOverWrong : ChangeSpec := { name := "fixOver", fn := fun _ => fun
  | [d1, d2, d3] => { results := [.lit (.bool false)], args := [d1, d2, d3] }
  | _ => none }
def FixOverWrongFalsely : Prop := fixOverRow.holds Tryz.pinned (OpenSpec.ofChange fixOverWrong)

/-- 'beaconrylaw12.FixBase': WHATEVER THE INPUT: true; the input reads as it did. -/
def fixBaseSpec : ChangeSpec := { name := "fixBase", fn := fun _ => fun
  | [d1, d2, d3] => { results := [.lit (.bool true)], args := [d1, d2, d3] }
  | _ => none }
def fixBaseRow : OpenClaim := { program := "ytbpgfnbhihklnaagreat", sum := "d07b72d3b0fc836b588c3fb7d04c08725f93e9b61a905b8b0ea2a73d6ced0843", func := "beaconry/beaconrylaw12.FixBase", spec := "fixBase", inPlace := ["internal/bytealg.abigen_runtime_cmpstring", "slices.overlaps[beaconry/api.Value]"], unfollowed := true, recurses := true, apart := false }
def FixBaseSaid : Prop := fixBaseRow.holds Tryz.pinned (OpenSpec.ofChange fixBaseSpec)

/-- ITS FALSE NEIGHBOUR: 'it returns false'. Refute it at one input. -/
def fixBaseWrong : ChangeSpec := { name := "fixBase", fn := fun _ => fun
  | [d1, d2, d3] => { results := [.lit (.bool false)], args := [d1, d2, d3] }
  | _ => none }
def FixBaseWrongFalsely : Prop := fixBaseRow.holds Tryz.pinned (OpenSpec.ofChange fixBaseWrong)

/-- 'beaconrylaw12.FixPlaces': WHATEVER THE INPUT: true; the input reads as it did. -/
def fixPlacesSpec : ChangeSpec := { name := "fixPlaces", fn := fun _ => fun
  | [d1, d2] => { results := [.lit (.bool true)], args := [d1, d2] }
  | _ => none }
def fixPlacesRow : OpenClaim := { program := "ytbpgfnbhihklnaagreat", sum := "d07b72d3b0fc836b588c3fb7d04c08725f93e9b61a905b8b0ea2a73d6ced0843", func := "beaconry/beaconrylaw12.FixPlaces", spec := "fixPlaces", inPlace := ["internal/bytealg.abigen_runtime_cmpstring", "slices.overlaps[beaconry/api.Value]"], unfollowed := true, recurses := true, apart := false }
def FixPlacesSaid : Prop := fixPlacesRow.holds Tryz.pinned (OpenSpec.ofChange fixPlacesSpec)

/-- ITS FALSE NEIGHBOUR: 'it returns false'. Refute it at one input. -/
def fixPlacesWrong : ChangeSpec := { name := "fixPlaces", fn := fun _ => fun
  | [d1, d2] => { results := [.lit (.bool false)], args := [d1, d2] }
  | _ => none }
def FixPlacesWrongFalsely : Prop := fixPlacesRow.holds Tryz.pinned (OpenSpec.ofChange fixPlacesWrong)

/-- 'beaconrylaw13.DeltaParts': WHATEVER THE INPUT: true; the input reads as it did. -/
def deltaPartsSpec : ChangeSpec := { name := "deltaParts", fn := fun _ => fun
  | [d1, d2, d3] => { results := [.lit (.bool true)], args := [d1, d2, d3] }
  | _ => none }
def deltaPartsRow : OpenClaim := { program := "ytbpgfnbhihklnaagreat", sum := "d07b72d3b0fc836b588c3fb7d04c08725f93e9b61a905b8b0ea2a73d6ced0843", func := "beaconry/beaconrylaw13.DeltaParts", spec := "deltaParts", inPlace := ["internal/bytealg.abigen_runtime_cmpstring", "slices.overlaps[beaconry/api.Row]", "slices.overlaps[beaconry/api.Value]"], unfollowed := true, recurses := true, apart := false }
def DeltaPartsSaid : Prop := deltaPartsRow.holds Tryz.pinned (OpenSpec.ofChange deltaPartsSpec)

/-- ITS FALSE NEIGHBOUR: 'it returns false'. Refute it at one input. -/
def deltaPartsWrong : ChangeSpec := { name := "deltaParts", fn := fun _ => fun
  | [d1, d2, d3] => { results := [.lit (.bool false)], args := [d1, d2, d3] }
  | _ => none }
def DeltaPartsWrongFalsely : Prop := deltaPartsRow.holds Tryz.pinned (OpenSpec.ofChange deltaPartsWrong)

/-- 'beaconrylaw13.DeltaGrows': WHATEVER THE INPUT: true; the input reads as it did. -/
def deltaGrowsSpec : ChangeSpec := { name := "deltaGrows", fn := fun _ => fun
  | [d1, d2] => { results := [.lit (.bool true)], args := [d1, d2] }
  | _ => none }
def deltaGrowsRow : OpenClaim := { program := "ytbpgfnbhihklnaagreat", sum := "d07b72d3b0fc836b588c3fb7d04c08725f93e9b61a905b8b0ea2a73d6ced0843", func := "beaconry/beaconrylaw13.DeltaGrows", spec := "deltaGrows", inPlace := ["internal/bytealg.abigen_runtime_cmpstring", "slices.overlaps[beaconry/api.Row]", "slices.overlaps[beaconry/api.Value]"], unfollowed := true, recurses := true, apart := false }
def DeltaGrowsSaid : Prop := deltaGrowsRow.holds Tryz.pinned (OpenSpec.ofChange deltaGrowsSpec)

/-- ITS FALSE NEIGHBOUR: 'it returns false'. Refute it at one input. -/
def deltaGrowsWrong : ChangeSpec := { name := "deltaGrows", fn := fun _ => fun
  | [d1, d2] => { results := [.lit (.bool false)], args := [d1, d2] }
  | _ => none }
def DeltaGrowsWrongFalsely : Prop := deltaGrowsRow.holds Tryz.pinned (OpenSpec.ofChange deltaGrowsWrong)

/-- 'beaconrylaw13.DeltaFixes': WHATEVER THE INPUT: true; the input reads as it did. -/
def deltaFixesSpec : ChangeSpec := { name := "deltaFixes", fn := fun _ => fun
  | [d1, d2, d3] => { results := [.lit (.bool true)], args := [d1, d2, d3] }
  | _ => none }
def deltaFixesRow : OpenClaim := { program := "ytbpgfnbhihklnaagreat", sum := "d07b72d3b0fc836b588c3fb7d04c08725f93e9b61a905b8b0ea2a73d6ced0843", func := "beaconry/beaconrylaw13.DeltaFixes", spec := "deltaFixes", inPlace := ["internal/bytealg.abigen_runtime_cmpstring", "slices.overlaps[beaconry/api.Row]", "slices.overlaps[beaconry/api.Value]"], unfollowed := true, recurses := true, apart := false }
def DeltaFixesSaid : Prop := deltaFixesRow.holds Tryz.pinned (OpenSpec.ofChange deltaFixesSpec)

/-- ITS FALSE NEIGHBOUR: 'it returns false'. Refute it at one input. -/
def deltaFixesWrong : ChangeSpec := { name := "deltaFixes", fn := fun _ => fun
  | [d1, d2, d3] => { results := [.lit (.bool false)], args := [d1, d2, d3] }
  | _ => none }
def DeltaFixesWrongFalsely : Prop := deltaFixesRow.holds Tryz.pinned (OpenSpec.ofChange deltaFixesWrong)

/- THE SECOND FORM. 'bulk': how many values and letters a reading holds, each counted each time it is reached (what is shared counts as often as it is met; a slice's spare places count too). A statement '..UptoSaid' is the law's where the arguments, and the package variables that the reading takes, are together of bulk at most 1048576: NARROWER than '..Said'. Prove '..Said' where nothing that the law and all that it calls make is longer than what came in: it says more and counts as full. Else prove '..UptoSaid'. A law counts once. -/
mutual
def uptoBulk {H : Type} : DataW H → Nat
  | .lit (.string bytes) => bytes.length + 1
  | .lit _ => 1
  | .nil => 1
  | .ptr d => uptoBulk d + 1
  | .slice elems spare => uptoBulkAll elems + uptoBulkAll spare + 1
  | .agg parts => uptoBulkAll parts + 1
  | .iface _ d => uptoBulk d + 1
  | .map entries => uptoBulkEntries entries + 1
  | .held _ => 1
def uptoBulkAll {H : Type} : List (DataW H) → Nat
  | [] => 0
  | d :: r => uptoBulk d + uptoBulkAll r
def uptoBulkEntries {H : Type} : List (Lit × DataW H) → Nat
  | [] => 0
  | x :: r => uptoBulkEntry x + uptoBulkEntries r
def uptoBulkEntry {H : Type} : Lit × DataW H → Nat
  | (.string bytes, d) => bytes.length + uptoBulk d + 1
  | (_, d) => uptoBulk d + 1
 end
def uptoSmall : (H : Type) → List (DataW H) → Bool := fun _ ds => decide (uptoBulkAll ds ≤ 1048576)
def OpenSpec.upto (s : _root_.Go.ChangeSpec) : _root_.Go.OpenSpec := { _root_.Go.OpenSpec.ofChange s with cond := some uptoSmall }

/-- 'beaconrylaw12.FixClosed', WHERE WHAT IT READS IS OF BULK AT MOST 1048576: true; the input reads as it did. -/
def fixClosedUptoRow : OpenClaim := { program := "ytbpgfnbhihklnaagreat", sum := "d07b72d3b0fc836b588c3fb7d04c08725f93e9b61a905b8b0ea2a73d6ced0843", func := "beaconry/beaconrylaw12.FixClosed", spec := "fixClosed", inPlace := ["internal/bytealg.abigen_runtime_cmpstring", "slices.overlaps[beaconry/api.Value]"], unfollowed := true, recurses := true, apart := false, narrowed := true }
def FixClosedUptoSaid : Prop := fixClosedUptoRow.holds Tryz.pinned (OpenSpec.upto fixClosedSpec)

/-- 'beaconrylaw12.FixSound', WHERE WHAT IT READS IS OF BULK AT MOST 1048576: true; the input reads as it did. -/
def fixSoundUptoRow : OpenClaim := { program := "ytbpgfnbhihklnaagreat", sum := "d07b72d3b0fc836b588c3fb7d04c08725f93e9b61a905b8b0ea2a73d6ced0843", func := "beaconry/beaconrylaw12.FixSound", spec := "fixSound", inPlace := ["internal/bytealg.abigen_runtime_cmpstring", "slices.overlaps[beaconry/api.Value]"], unfollowed := true, recurses := true, apart := false, narrowed := true }
def FixSoundUptoSaid : Prop := fixSoundUptoRow.holds Tryz.pinned (OpenSpec.upto fixSoundSpec)

/-- 'beaconrylaw12.FixMore', WHERE WHAT IT READS IS OF BULK AT MOST 1048576: true; the input reads as it did. -/
def fixMoreUptoRow : OpenClaim := { program := "ytbpgfnbhihklnaagreat", sum := "d07b72d3b0fc836b588c3fb7d04c08725f93e9b61a905b8b0ea2a73d6ced0843", func := "beaconry/beaconrylaw12.FixMore", spec := "fixMore", inPlace := ["internal/bytealg.abigen_runtime_cmpstring", "slices.overlaps[beaconry/api.Value]"], unfollowed := true, recurses := true, apart := false, narrowed := true }
def FixMoreUptoSaid : Prop := fixMoreUptoRow.holds Tryz.pinned (OpenSpec.upto fixMoreSpec)

/-- 'beaconrylaw12.FixAgain', WHERE WHAT IT READS IS OF BULK AT MOST 1048576: true; the input reads as it did. -/
def fixAgainUptoRow : OpenClaim := { program := "ytbpgfnbhihklnaagreat", sum := "d07b72d3b0fc836b588c3fb7d04c08725f93e9b61a905b8b0ea2a73d6ced0843", func := "beaconry/beaconrylaw12.FixAgain", spec := "fixAgain", inPlace := ["internal/bytealg.abigen_runtime_cmpstring", "slices.overlaps[beaconry/api.Value]"], unfollowed := true, recurses := true, apart := false, narrowed := true }
def FixAgainUptoSaid : Prop := fixAgainUptoRow.holds Tryz.pinned (OpenSpec.upto fixAgainSpec)

/-- 'beaconrylaw12.FixStamps', WHERE WHAT IT READS IS OF BULK AT MOST 1048576: true; the input reads as it did. -/
def fixStampsUptoRow : OpenClaim := { program := "ytbpgfnbhihklnaagreat", sum := "d07b72d3b0fc836b588c3fb7d04c08725f93e9b61a905b8b0ea2a73d6ced0843", func := "beaconry/beaconrylaw12.FixStamps", spec := "fixStamps", inPlace := ["internal/bytealg.abigen_runtime_cmpstring", "slices.overlaps[beaconry/api.Value]"], unfollowed := true, recurses := true, apart := false, narrowed := true }
def FixStampsUptoSaid : Prop := fixStampsUptoRow.holds Tryz.pinned (OpenSpec.upto fixStampsSpec)

/-- 'beaconrylaw12.FixOver', WHERE WHAT IT READS IS OF BULK AT MOST 1048576: true; the input reads as it did. -/
def fixOverUptoRow : OpenClaim := { program := "ytbpgfnbhihklnaagreat", sum := "d07b72d3b0fc836b588c3fb7d04c08725f93e9b61a905b8b0ea2a73d6ced0843", func := "beaconry/beaconrylaw12.FixOver", spec := "fixOver", inPlace := ["internal/bytealg.abigen_runtime_cmpstring", "slices.overlaps[beaconry/api.Value]"], unfollowed := true, recurses := true, apart := false, narrowed := true }
def FixOverUptoSaid : Prop := fixOverUptoRow.holds Tryz.pinned (OpenSpec.upto fixOverSpec)

/-- 'beaconrylaw12.FixBase', WHERE WHAT IT READS IS OF BULK AT MOST 1048576: true; the input reads as it did. -/
def fixBaseUptoRow : OpenClaim := { program := "ytbpgfnbhihklnaagreat", sum := "d07b72d3b0fc836b588c3fb7d04c08725f93e9b61a905b8b0ea2a73d6ced0843", func := "beaconry/beaconrylaw12.FixBase", spec := "fixBase", inPlace := ["internal/bytealg.abigen_runtime_cmpstring", "slices.overlaps[beaconry/api.Value]"], unfollowed := true, recurses := true, apart := false, narrowed := true }
def FixBaseUptoSaid : Prop := fixBaseUptoRow.holds Tryz.pinned (OpenSpec.upto fixBaseSpec)

/-- 'beaconrylaw12.FixPlaces', WHERE WHAT IT READS IS OF BULK AT MOST 1048576: true; the input reads as it did. -/
def fixPlacesUptoRow : OpenClaim := { program := "ytbpgfnbhihklnaagreat", sum := "d07b72d3b0fc836b588c3fb7d04c08725f93e9b61a905b8b0ea2a73d6ced0843", func := "beaconry/beaconrylaw12.FixPlaces", spec := "fixPlaces", inPlace := ["internal/bytealg.abigen_runtime_cmpstring", "slices.overlaps[beaconry/api.Value]"], unfollowed := true, recurses := true, apart := false, narrowed := true }
def FixPlacesUptoSaid : Prop := fixPlacesUptoRow.holds Tryz.pinned (OpenSpec.upto fixPlacesSpec)

/-- 'beaconrylaw13.DeltaParts', WHERE WHAT IT READS IS OF BULK AT MOST 1048576: true; the input reads as it did. -/
def deltaPartsUptoRow : OpenClaim := { program := "ytbpgfnbhihklnaagreat", sum := "d07b72d3b0fc836b588c3fb7d04c08725f93e9b61a905b8b0ea2a73d6ced0843", func := "beaconry/beaconrylaw13.DeltaParts", spec := "deltaParts", inPlace := ["internal/bytealg.abigen_runtime_cmpstring", "slices.overlaps[beaconry/api.Row]", "slices.overlaps[beaconry/api.Value]"], unfollowed := true, recurses := true, apart := false, narrowed := true }
def DeltaPartsUptoSaid : Prop := deltaPartsUptoRow.holds Tryz.pinned (OpenSpec.upto deltaPartsSpec)

/-- 'beaconrylaw13.DeltaGrows', WHERE WHAT IT READS IS OF BULK AT MOST 1048576: true; the input reads as it did. -/
def deltaGrowsUptoRow : OpenClaim := { program := "ytbpgfnbhihklnaagreat", sum := "d07b72d3b0fc836b588c3fb7d04c08725f93e9b61a905b8b0ea2a73d6ced0843", func := "beaconry/beaconrylaw13.DeltaGrows", spec := "deltaGrows", inPlace := ["internal/bytealg.abigen_runtime_cmpstring", "slices.overlaps[beaconry/api.Row]", "slices.overlaps[beaconry/api.Value]"], unfollowed := true, recurses := true, apart := false, narrowed := true }
def DeltaGrowsUptoSaid : Prop := deltaGrowsUptoRow.holds Tryz.pinned (OpenSpec.upto deltaGrowsSpec)

/-- 'beaconrylaw13.DeltaFixes', WHERE WHAT IT READS IS OF BULK AT MOST 1048576: true; the input reads as it did. -/
def deltaFixesUptoRow : OpenClaim := { program := "ytbpgfnbhihklnaagreat", sum := "d07b72d3b0fc836b588c3fb7d04c08725f93e9b61a905b8b0ea2a73d6ced0843", func := "beaconry/beaconrylaw13.DeltaFixes", spec := "deltaFixes", inPlace := ["internal/bytealg.abigen_runtime_cmpstring", "slices.overlaps[beaconry/api.Row]", "slices.overlaps[beaconry/api.Value]"], unfollowed := true, recurses := true, apart := false, narrowed := true }
def DeltaFixesUptoSaid : Prop := deltaFixesUptoRow.holds Tryz.pinned (OpenSpec.upto deltaFixesSpec)

end Rows
end Go.Proofs.YtbpgfnbhihklnaaGreat
