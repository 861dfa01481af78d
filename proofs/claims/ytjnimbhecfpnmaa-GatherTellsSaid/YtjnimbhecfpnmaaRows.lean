/-
  No cell of these rows narrows 'for every input' (looked for: loops, veiled, ifaces, maps, wideKeys, modest, calm, conditions, laid).
  DERIVED. THE GIVEN ROWS OF THIS SEAT. 11 by the template 'for every input the law returns true; each argument reads behind the call as it read before'; 0 by the template 'total and deterministic' (their statements: YtjnimbhecfpnmaaTotals.lean).
  GIVEN WITH THE SEED: the statements are not yours to turn. If you find one false, say at which input.
  Laid BY PROGRAM, IN A SANDBOX (cutbox-rows.mjs): the forced cells as the released guide's own fill.sh prints them over the translation 697818086d4d1dfc… (all of the seat's roots in one cut). By AI agents, Wed Nov 11 2026. No macro, syntax, notation, axiom, sorry.
-/
import Derived.Test.YtjnimbhecfpnmaaChecked
import GoSem.Claim
import GoSem.ClaimJoined
import GoSem.ClaimMapViews
import Derived.JoinedTies
import Derived.KernelRfl
namespace Go.Proofs.Ytjnimbhecfpnmaa
/- THE CELL 'sum', in the pinned program and in every row, IS THE sha256 OF THE DUMP (.gsa) THAT YtjnimbhecfpnmaaProg.lean LOADS. Nothing in Lean hashes anything: it is a label: what it is worth is what the hold of that sum in a sandbox is worth. -/
noncomputable def Try.pinned : Pinned := { name := "ytjnimbhecfpnmaa", sum := "697818086d4d1dfc4e4686ef367376f143e0cd1d6057971116476d54fd0a39a8", checked := Try.checked }
namespace Rows
def none {H : Type} : Left H := { results := [], args := [] }

/-- 'bindlelaw18.PartCodes': WHATEVER THE INPUT: true; the input reads as it did. -/
def partCodesSpec : ChangeSpec := { name := "partCodes", fn := fun _ => fun
  | [d1, d2] => { results := [.lit (.bool true)], args := [d1, d2] }
  | _ => none }
def partCodesRow : OpenClaim := { program := "ytjnimbhecfpnmaa", sum := "697818086d4d1dfc4e4686ef367376f143e0cd1d6057971116476d54fd0a39a8", func := "bindle/bindlelaw18.PartCodes", spec := "partCodes", unfollowed := true, recurses := true, apart := false }
def PartCodesSaid : Prop := partCodesRow.holds Try.pinned (OpenSpec.ofChange partCodesSpec)

/-- ITS FALSE NEIGHBOUR: 'it returns false'. Refute it at one input. -/
def partCodesWrong : ChangeSpec := { name := "partCodes", fn := fun _ => fun
  | [d1, d2] => { results := [.lit (.bool false)], args := [d1, d2] }
  | _ => none }
def PartCodesWrongFalsely : Prop := partCodesRow.holds Try.pinned (OpenSpec.ofChange partCodesWrong)

/-- 'bindlelaw18.PartSplits': WHATEVER THE INPUT: true; the input reads as it did. -/
def partSplitsSpec : ChangeSpec := { name := "partSplits", fn := fun _ => fun
  | [d1, d2, d3] => { results := [.lit (.bool true)], args := [d1, d2, d3] }
  | _ => none }
def partSplitsRow : OpenClaim := { program := "ytjnimbhecfpnmaa", sum := "697818086d4d1dfc4e4686ef367376f143e0cd1d6057971116476d54fd0a39a8", func := "bindle/bindlelaw18.PartSplits", spec := "partSplits", unfollowed := true, recurses := true, apart := false }
def PartSplitsSaid : Prop := partSplitsRow.holds Try.pinned (OpenSpec.ofChange partSplitsSpec)

/-- ITS FALSE NEIGHBOUR: 'it returns false'. Refute it at one input. -/
def partSplitsWrong : ChangeSpec := { name := "partSplits", fn := fun _ => fun
  | [d1, d2, d3] => { results := [.lit (.bool false)], args := [d1, d2, d3] }
  | _ => none }
def PartSplitsWrongFalsely : Prop := partSplitsRow.holds Try.pinned (OpenSpec.ofChange partSplitsWrong)

/-- 'bindlelaw18.PartBack': WHATEVER THE INPUT: true; the input reads as it did. -/
def partBackSpec : ChangeSpec := { name := "partBack", fn := fun _ => fun
  | [d1, d2] => { results := [.lit (.bool true)], args := [d1, d2] }
  | _ => none }
def partBackRow : OpenClaim := { program := "ytjnimbhecfpnmaa", sum := "697818086d4d1dfc4e4686ef367376f143e0cd1d6057971116476d54fd0a39a8", func := "bindle/bindlelaw18.PartBack", spec := "partBack", unfollowed := true, recurses := true, apart := false }
def PartBackSaid : Prop := partBackRow.holds Try.pinned (OpenSpec.ofChange partBackSpec)

/-- ITS FALSE NEIGHBOUR: 'it returns false'. Refute it at one input. -/
def partBackWrong : ChangeSpec := { name := "partBack", fn := fun _ => fun
  | [d1, d2] => { results := [.lit (.bool false)], args := [d1, d2] }
  | _ => none }
def PartBackWrongFalsely : Prop := partBackRow.holds Try.pinned (OpenSpec.ofChange partBackWrong)

/-- 'bindlelaw18.PartWhole': WHATEVER THE INPUT: true; the input reads as it did. -/
def partWholeSpec : ChangeSpec := { name := "partWhole", fn := fun _ => fun
  | [d1, d2] => { results := [.lit (.bool true)], args := [d1, d2] }
  | _ => none }
def partWholeRow : OpenClaim := { program := "ytjnimbhecfpnmaa", sum := "697818086d4d1dfc4e4686ef367376f143e0cd1d6057971116476d54fd0a39a8", func := "bindle/bindlelaw18.PartWhole", spec := "partWhole", unfollowed := true, recurses := true, apart := false }
def PartWholeSaid : Prop := partWholeRow.holds Try.pinned (OpenSpec.ofChange partWholeSpec)

/-- ITS FALSE NEIGHBOUR: 'it returns false'. Refute it at one input. -/
def partWholeWrong : ChangeSpec := { name := "partWhole", fn := fun _ => fun
  | [d1, d2] => { results := [.lit (.bool false)], args := [d1, d2] }
  | _ => none }
def PartWholeWrongFalsely : Prop := partWholeRow.holds Try.pinned (OpenSpec.ofChange partWholeWrong)

/-- 'bindlelaw18.PartCuts': WHATEVER THE INPUT: true; the input reads as it did. -/
def partCutsSpec : ChangeSpec := { name := "partCuts", fn := fun _ => fun
  | [d1, d2, d3] => { results := [.lit (.bool true)], args := [d1, d2, d3] }
  | _ => none }
def partCutsRow : OpenClaim := { program := "ytjnimbhecfpnmaa", sum := "697818086d4d1dfc4e4686ef367376f143e0cd1d6057971116476d54fd0a39a8", func := "bindle/bindlelaw18.PartCuts", spec := "partCuts", unfollowed := true, recurses := true, apart := false }
def PartCutsSaid : Prop := partCutsRow.holds Try.pinned (OpenSpec.ofChange partCutsSpec)

/-- ITS FALSE NEIGHBOUR: 'it returns false'. Refute it at one input. -/
def partCutsWrong : ChangeSpec := { name := "partCuts", fn := fun _ => fun
  | [d1, d2, d3] => { results := [.lit (.bool false)], args := [d1, d2, d3] }
  | _ => none }
def PartCutsWrongFalsely : Prop := partCutsRow.holds Try.pinned (OpenSpec.ofChange partCutsWrong)

/-- 'bindlelaw18.PartMany': WHATEVER THE INPUT: true; the input reads as it did. -/
def partManySpec : ChangeSpec := { name := "partMany", fn := fun _ => fun
  | [d1, d2, d3] => { results := [.lit (.bool true)], args := [d1, d2, d3] }
  | _ => none }
def partManyRow : OpenClaim := { program := "ytjnimbhecfpnmaa", sum := "697818086d4d1dfc4e4686ef367376f143e0cd1d6057971116476d54fd0a39a8", func := "bindle/bindlelaw18.PartMany", spec := "partMany", unfollowed := true, recurses := true, apart := false }
def PartManySaid : Prop := partManyRow.holds Try.pinned (OpenSpec.ofChange partManySpec)

/-- ITS FALSE NEIGHBOUR: 'it returns false'. Refute it at one input. -/
def partManyWrong : ChangeSpec := { name := "partMany", fn := fun _ => fun
  | [d1, d2, d3] => { results := [.lit (.bool false)], args := [d1, d2, d3] }
  | _ => none }
def PartManyWrongFalsely : Prop := partManyRow.holds Try.pinned (OpenSpec.ofChange partManyWrong)

/-- 'bindlelaw19.GatherMakes': WHATEVER THE INPUT: true; the input reads as it did. -/
def gatherMakesSpec : ChangeSpec := { name := "gatherMakes", fn := fun _ => fun
  | [d1, d2, d3] => { results := [.lit (.bool true)], args := [d1, d2, d3] }
  | _ => none }
def gatherMakesRow : OpenClaim := { program := "ytjnimbhecfpnmaa", sum := "697818086d4d1dfc4e4686ef367376f143e0cd1d6057971116476d54fd0a39a8", func := "bindle/bindlelaw19.GatherMakes", spec := "gatherMakes", inPlace := ["internal/bytealg.Compare", "slices.overlaps[bindle/part.Part]"], unfollowed := true, recurses := true, apart := false }
def GatherMakesSaid : Prop := gatherMakesRow.holds Try.pinned (OpenSpec.ofChange gatherMakesSpec)

/-- ITS FALSE NEIGHBOUR: 'it returns false'. Refute it at one input. -/
def gatherMakesWrong : ChangeSpec := { name := "gatherMakes", fn := fun _ => fun
  | [d1, d2, d3] => { results := [.lit (.bool false)], args := [d1, d2, d3] }
  | _ => none }
def GatherMakesWrongFalsely : Prop := gatherMakesRow.holds Try.pinned (OpenSpec.ofChange gatherMakesWrong)

/-- 'bindlelaw19.GatherMissing': WHATEVER THE INPUT: true; the input reads as it did. -/
def gatherMissingSpec : ChangeSpec := { name := "gatherMissing", fn := fun _ => fun
  | [d1, d2] => { results := [.lit (.bool true)], args := [d1, d2] }
  | _ => none }
def gatherMissingRow : OpenClaim := { program := "ytjnimbhecfpnmaa", sum := "697818086d4d1dfc4e4686ef367376f143e0cd1d6057971116476d54fd0a39a8", func := "bindle/bindlelaw19.GatherMissing", spec := "gatherMissing", inPlace := ["internal/bytealg.Compare", "slices.overlaps[bindle/part.Part]"], unfollowed := true, recurses := true, apart := false }
def GatherMissingSaid : Prop := gatherMissingRow.holds Try.pinned (OpenSpec.ofChange gatherMissingSpec)

/-- ITS FALSE NEIGHBOUR: 'it returns false'. Refute it at one input. -/
def gatherMissingWrong : ChangeSpec := { name := "gatherMissing", fn := fun _ => fun
  | [d1, d2] => { results := [.lit (.bool false)], args := [d1, d2] }
  | _ => none }
def GatherMissingWrongFalsely : Prop := gatherMissingRow.holds Try.pinned (OpenSpec.ofChange gatherMissingWrong)

/-- 'bindlelaw19.GatherSorted': WHATEVER THE INPUT: true; the input reads as it did. -/
def gatherSortedSpec : ChangeSpec := { name := "gatherSorted", fn := fun _ => fun
  | [d] => { results := [.lit (.bool true)], args := [d] }
  | _ => none }
def gatherSortedRow : OpenClaim := { program := "ytjnimbhecfpnmaa", sum := "697818086d4d1dfc4e4686ef367376f143e0cd1d6057971116476d54fd0a39a8", func := "bindle/bindlelaw19.GatherSorted", spec := "gatherSorted", inPlace := ["internal/bytealg.Compare", "slices.overlaps[bindle/part.Part]"], unfollowed := true, recurses := true, apart := false }
def GatherSortedSaid : Prop := gatherSortedRow.holds Try.pinned (OpenSpec.ofChange gatherSortedSpec)

/-- ITS FALSE NEIGHBOUR: 'it returns false'. Refute it at one input. -/
def gatherSortedWrong : ChangeSpec := { name := "gatherSorted", fn := fun _ => fun
  | [d] => { results := [.lit (.bool false)], args := [d] }
  | _ => none }
def GatherSortedWrongFalsely : Prop := gatherSortedRow.holds Try.pinned (OpenSpec.ofChange gatherSortedWrong)

/-- 'bindlelaw19.GatherTells': WHATEVER THE INPUT: true; the input reads as it did. -/
def gatherTellsSpec : ChangeSpec := { name := "gatherTells", fn := fun _ => fun
  | [d1, d2, d3] => { results := [.lit (.bool true)], args := [d1, d2, d3] }
  | _ => none }
def gatherTellsRow : OpenClaim := { program := "ytjnimbhecfpnmaa", sum := "697818086d4d1dfc4e4686ef367376f143e0cd1d6057971116476d54fd0a39a8", func := "bindle/bindlelaw19.GatherTells", spec := "gatherTells", inPlace := ["internal/bytealg.Compare", "slices.overlaps[bindle/part.Part]"], unfollowed := true, recurses := true, apart := false }
def GatherTellsSaid : Prop := gatherTellsRow.holds Try.pinned (OpenSpec.ofChange gatherTellsSpec)

/-- ITS FALSE NEIGHBOUR: 'it returns false'. Refute it at one input. -/
def gatherTellsWrong : ChangeSpec := { name := "gatherTells", fn := fun _ => fun
  | [d1, d2, d3] => { results := [.lit (.bool false)], args := [d1, d2, d3] }
  | _ => none }
def GatherTellsWrongFalsely : Prop := gatherTellsRow.holds Try.pinned (OpenSpec.ofChange gatherTellsWrong)

/-- 'bindlelaw19.GatherWholes': WHATEVER THE INPUT: true; the input reads as it did. -/
def gatherWholesSpec : ChangeSpec := { name := "gatherWholes", fn := fun _ => fun
  | [d] => { results := [.lit (.bool true)], args := [d] }
  | _ => none }
def gatherWholesRow : OpenClaim := { program := "ytjnimbhecfpnmaa", sum := "697818086d4d1dfc4e4686ef367376f143e0cd1d6057971116476d54fd0a39a8", func := "bindle/bindlelaw19.GatherWholes", spec := "gatherWholes", inPlace := ["internal/bytealg.Compare", "slices.overlaps[bindle/part.Part]"], unfollowed := true, recurses := true, apart := false }
def GatherWholesSaid : Prop := gatherWholesRow.holds Try.pinned (OpenSpec.ofChange gatherWholesSpec)

/-- ITS FALSE NEIGHBOUR: 'it returns false'. Refute it at one input. -/
def gatherWholesWrong : ChangeSpec := { name := "gatherWholes", fn := fun _ => fun
  | [d] => { results := [.lit (.bool false)], args := [d] }
  | _ => none }
def GatherWholesWrongFalsely : Prop := gatherWholesRow.holds Try.pinned (OpenSpec.ofChange gatherWholesWrong)

/- THE SECOND FORM. 'bulk': how many values and letters a reading holds, each counted each time it is reached (what is shared counts as often as it is met; a slice's spare places count too). A statement '..UptoSaid' is the law's where the arguments, and the package variables that the reading takes, are together of bulk at most 1048576: NARROWER than '..Said'. Prove '..Said' where nothing that the law and all that it calls make is longer than what came in: it says more and counts as full. Else prove '..UptoSaid'. A law counts once. -/
mutual
def uptoBulk {H : Type} : DataW H → Nat
  | .lit (.string bytes) => bytes.length + 1
  | .lit _ => 1
  | .nil => 1
  | .ptr d => uptoBulk d + 1
  | .slice elems spare => uptoBulkAll elems + uptoBulkAll spare + 1
  | .agg parts => uptoBulkAll parts + 1
  | .iface _ d => uptoBulk d + 1
  | .map entries => uptoBulkEntries entries + 1
  | .held _ => 1
def uptoBulkAll {H : Type} : List (DataW H) → Nat
  | [] => 0
  | d :: r => uptoBulk d + uptoBulkAll r
def uptoBulkEntries {H : Type} : List (Lit × DataW H) → Nat
  | [] => 0
  | x :: r => uptoBulkEntry x + uptoBulkEntries r
def uptoBulkEntry {H : Type} : Lit × DataW H → Nat
  | (.string bytes, d) => bytes.length + uptoBulk d + 1
  | (_, d) => uptoBulk d + 1
 end
def uptoSmall : (H : Type) → List (DataW H) → Bool := fun _ ds => decide (uptoBulkAll ds ≤ 1048576)
def OpenSpec.upto (s : _root_.Go.ChangeSpec) : _root_.Go.OpenSpec := { _root_.Go.OpenSpec.ofChange s with cond := some uptoSmall }

/-- 'bindlelaw18.PartCodes', WHERE WHAT IT READS IS OF BULK AT MOST 1048576: true; the input reads as it did. -/
def partCodesUptoRow : OpenClaim := { program := "ytjnimbhecfpnmaa", sum := "697818086d4d1dfc4e4686ef367376f143e0cd1d6057971116476d54fd0a39a8", func := "bindle/bindlelaw18.PartCodes", spec := "partCodes", unfollowed := true, recurses := true, apart := false, narrowed := true }
def PartCodesUptoSaid : Prop := partCodesUptoRow.holds Try.pinned (OpenSpec.upto partCodesSpec)

/-- 'bindlelaw18.PartSplits', WHERE WHAT IT READS IS OF BULK AT MOST 1048576: true; the input reads as it did. -/
def partSplitsUptoRow : OpenClaim := { program := "ytjnimbhecfpnmaa", sum := "697818086d4d1dfc4e4686ef367376f143e0cd1d6057971116476d54fd0a39a8", func := "bindle/bindlelaw18.PartSplits", spec := "partSplits", unfollowed := true, recurses := true, apart := false, narrowed := true }
def PartSplitsUptoSaid : Prop := partSplitsUptoRow.holds Try.pinned (OpenSpec.upto partSplitsSpec)

/-- 'bindlelaw18.PartBack', WHERE WHAT IT READS IS OF BULK AT MOST 1048576: true; the input reads as it did. -/
def partBackUptoRow : OpenClaim := { program := "ytjnimbhecfpnmaa", sum := "697818086d4d1dfc4e4686ef367376f143e0cd1d6057971116476d54fd0a39a8", func := "bindle/bindlelaw18.PartBack", spec := "partBack", unfollowed := true, recurses := true, apart := false, narrowed := true }
def PartBackUptoSaid : Prop := partBackUptoRow.holds Try.pinned (OpenSpec.upto partBackSpec)

/-- 'bindlelaw18.PartWhole', WHERE WHAT IT READS IS OF BULK AT MOST 1048576: true; the input reads as it did. -/
def partWholeUptoRow : OpenClaim := { program := "ytjnimbhecfpnmaa", sum := "697818086d4d1dfc4e4686ef367376f143e0cd1d6057971116476d54fd0a39a8", func := "bindle/bindlelaw18.PartWhole", spec := "partWhole", unfollowed := true, recurses := true, apart := false, narrowed := true }
def PartWholeUptoSaid : Prop := partWholeUptoRow.holds Try.pinned (OpenSpec.upto partWholeSpec)

/-- 'bindlelaw18.PartCuts', WHERE WHAT IT READS IS OF BULK AT MOST 1048576: true; the input reads as it did. -/
def partCutsUptoRow : OpenClaim := { program := "ytjnimbhecfpnmaa", sum := "697818086d4d1dfc4e4686ef367376f143e0cd1d6057971116476d54fd0a39a8", func := "bindle/bindlelaw18.PartCuts", spec := "partCuts", unfollowed := true, recurses := true, apart := false, narrowed := true }
def PartCutsUptoSaid : Prop := partCutsUptoRow.holds Try.pinned (OpenSpec.upto partCutsSpec)

/-- 'bindlelaw18.PartMany', WHERE WHAT IT READS IS OF BULK AT MOST 1048576: true; the input reads as it did. -/
def partManyUptoRow : OpenClaim := { program := "ytjnimbhecfpnmaa", sum := "697818086d4d1dfc4e4686ef367376f143e0cd1d6057971116476d54fd0a39a8", func := "bindle/bindlelaw18.PartMany", spec := "partMany", unfollowed := true, recurses := true, apart := false, narrowed := true }
def PartManyUptoSaid : Prop := partManyUptoRow.holds Try.pinned (OpenSpec.upto partManySpec)

/-- 'bindlelaw19.GatherMakes', WHERE WHAT IT READS IS OF BULK AT MOST 1048576: true; the input reads as it did. -/
def gatherMakesUptoRow : OpenClaim := { program := "ytjnimbhecfpnmaa", sum := "697818086d4d1dfc4e4686ef367376f143e0cd1d6057971116476d54fd0a39a8", func := "bindle/bindlelaw19.GatherMakes", spec := "gatherMakes", inPlace := ["internal/bytealg.Compare", "slices.overlaps[bindle/part.Part]"], unfollowed := true, recurses := true, apart := false, narrowed := true }
def GatherMakesUptoSaid : Prop := gatherMakesUptoRow.holds Try.pinned (OpenSpec.upto gatherMakesSpec)

/-- 'bindlelaw19.GatherMissing', WHERE WHAT IT READS IS OF BULK AT MOST 1048576: true; the input reads as it did. -/
def gatherMissingUptoRow : OpenClaim := { program := "ytjnimbhecfpnmaa", sum := "697818086d4d1dfc4e4686ef367376f143e0cd1d6057971116476d54fd0a39a8", func := "bindle/bindlelaw19.GatherMissing", spec := "gatherMissing", inPlace := ["internal/bytealg.Compare", "slices.overlaps[bindle/part.Part]"], unfollowed := true, recurses := true, apart := false, narrowed := true }
def GatherMissingUptoSaid : Prop := gatherMissingUptoRow.holds Try.pinned (OpenSpec.upto gatherMissingSpec)

/-- 'bindlelaw19.GatherSorted', WHERE WHAT IT READS IS OF BULK AT MOST 1048576: true; the input reads as it did. -/
def gatherSortedUptoRow : OpenClaim := { program := "ytjnimbhecfpnmaa", sum := "697818086d4d1dfc4e4686ef367376f143e0cd1d6057971116476d54fd0a39a8", func := "bindle/bindlelaw19.GatherSorted", spec := "gatherSorted", inPlace := ["internal/bytealg.Compare", "slices.overlaps[bindle/part.Part]"], unfollowed := true, recurses := true, apart := false, narrowed := true }
def GatherSortedUptoSaid : Prop := gatherSortedUptoRow.holds Try.pinned (OpenSpec.upto gatherSortedSpec)

/-- 'bindlelaw19.GatherTells', WHERE WHAT IT READS IS OF BULK AT MOST 1048576: true; the input reads as it did. -/
def gatherTellsUptoRow : OpenClaim := { program := "ytjnimbhecfpnmaa", sum := "697818086d4d1dfc4e4686ef367376f143e0cd1d6057971116476d54fd0a39a8", func := "bindle/bindlelaw19.GatherTells", spec := "gatherTells", inPlace := ["internal/bytealg.Compare", "slices.overlaps[bindle/part.Part]"], unfollowed := true, recurses := true, apart := false, narrowed := true }
def GatherTellsUptoSaid : Prop := gatherTellsUptoRow.holds Try.pinned (OpenSpec.upto gatherTellsSpec)

/-- 'bindlelaw19.GatherWholes', WHERE WHAT IT READS IS OF BULK AT MOST 1048576: true; the input reads as it did. -/
def gatherWholesUptoRow : OpenClaim := { program := "ytjnimbhecfpnmaa", sum := "697818086d4d1dfc4e4686ef367376f143e0cd1d6057971116476d54fd0a39a8", func := "bindle/bindlelaw19.GatherWholes", spec := "gatherWholes", inPlace := ["internal/bytealg.Compare", "slices.overlaps[bindle/part.Part]"], unfollowed := true, recurses := true, apart := false, narrowed := true }
def GatherWholesUptoSaid : Prop := gatherWholesUptoRow.holds Try.pinned (OpenSpec.upto gatherWholesSpec)

end Rows
end Go.Proofs.Ytjnimbhecfpnmaa
