/-
  No cell of these rows narrows 'for every input' (looked for: loops, veiled, ifaces, maps, wideKeys, modest, calm, conditions, laid).
  DERIVED. THE GIVEN ROWS OF THIS SEAT. 12 by the template 'for every input the law returns true; each argument reads behind the call as it read before'; 0 by the template 'total and deterministic' (their statements: YtmcpiclmbehlnaaTotals.lean).
  GIVEN WITH THE SEED: the statements are not yours to turn. If you find one false, say at which input.
  Laid BY PROGRAM, IN A SANDBOX (cutbox-rows.mjs): the forced cells as the released guide's own fill.sh prints them over the translation 09392de88279c6ea… (all of the seat's roots in one cut). By AI agents, Wed Nov 11 2026. No macro, syntax, notation, axiom, sorry.
-/
import Derived.Test.YtmcpiclmbehlnaaChecked
import GoSem.Claim
import GoSem.ClaimJoined
import GoSem.ClaimMapViews
import Derived.JoinedTies
import Derived.KernelRfl
namespace Go.Proofs.Ytmcpiclmbehlnaa
/- THE CELL 'sum', in the pinned program and in every row, IS THE sha256 OF THE DUMP (.gsa) THAT YtmcpiclmbehlnaaProg.lean LOADS. Nothing in Lean hashes anything: it is a label: what it is worth is what the hold of that sum in a sandbox is worth. -/
noncomputable def Try.pinned : Pinned := { name := "ytmcpiclmbehlnaa", sum := "09392de88279c6eae8cbc3f1e1e5df988c03f09570bdfd17882d000cb3f64f97", checked := Try.checked }
namespace Rows
def none {H : Type} : Left H := { results := [], args := [] }

/-- 'bindlelaw01.BitsConstants': WHATEVER THE INPUT: true; the input reads as it did. -/
def bitsConstantsSpec : ChangeSpec := { name := "bitsConstants", fn := fun _ => fun
  | [d] => { results := [.lit (.bool true)], args := [d] }
  | _ => none }
def bitsConstantsRow : OpenClaim := { program := "ytmcpiclmbehlnaa", sum := "09392de88279c6eae8cbc3f1e1e5df988c03f09570bdfd17882d000cb3f64f97", func := "bindle/bindlelaw01.BitsConstants", spec := "bitsConstants", apart := false }
def BitsConstantsSaid : Prop := bitsConstantsRow.holds Try.pinned (OpenSpec.ofChange bitsConstantsSpec)

/-- ITS FALSE NEIGHBOUR: 'it returns false'. Refute it at one input. -/
def bitsConstantsWrong : ChangeSpec := { name := "bitsConstants", fn := fun _ => fun
  | [d] => { results := [.lit (.bool false)], args := [d] }
  | _ => none }
def BitsConstantsWrongFalsely : Prop := bitsConstantsRow.holds Try.pinned (OpenSpec.ofChange bitsConstantsWrong)

/-- 'bindlelaw01.BitsBack': WHATEVER THE INPUT: true; the input reads as it did. -/
def bitsBackSpec : ChangeSpec := { name := "bitsBack", fn := fun _ => fun
  | [d1, d2, d3] => { results := [.lit (.bool true)], args := [d1, d2, d3] }
  | _ => none }
def bitsBackRow : OpenClaim := { program := "ytmcpiclmbehlnaa", sum := "09392de88279c6eae8cbc3f1e1e5df988c03f09570bdfd17882d000cb3f64f97", func := "bindle/bindlelaw01.BitsBack", spec := "bitsBack", apart := false }
def BitsBackSaid : Prop := bitsBackRow.holds Try.pinned (OpenSpec.ofChange bitsBackSpec)

/-- ITS FALSE NEIGHBOUR: 'it returns false'. Refute it at one input. -/
def bitsBackWrong : ChangeSpec := { name := "bitsBack", fn := fun _ => fun
  | [d1, d2, d3] => { results := [.lit (.bool false)], args := [d1, d2, d3] }
  | _ => none }
def BitsBackWrongFalsely : Prop := bitsBackRow.holds Try.pinned (OpenSpec.ofChange bitsBackWrong)

/-- 'bindlelaw01.BitsTurns': WHATEVER THE INPUT: true; the input reads as it did. -/
def bitsTurnsSpec : ChangeSpec := { name := "bitsTurns", fn := fun _ => fun
  | [d1, d2] => { results := [.lit (.bool true)], args := [d1, d2] }
  | _ => none }
def bitsTurnsRow : OpenClaim := { program := "ytmcpiclmbehlnaa", sum := "09392de88279c6eae8cbc3f1e1e5df988c03f09570bdfd17882d000cb3f64f97", func := "bindle/bindlelaw01.BitsTurns", spec := "bitsTurns", apart := false }
def BitsTurnsSaid : Prop := bitsTurnsRow.holds Try.pinned (OpenSpec.ofChange bitsTurnsSpec)

/-- ITS FALSE NEIGHBOUR: 'it returns false'. Refute it at one input. -/
def bitsTurnsWrong : ChangeSpec := { name := "bitsTurns", fn := fun _ => fun
  | [d1, d2] => { results := [.lit (.bool false)], args := [d1, d2] }
  | _ => none }
def BitsTurnsWrongFalsely : Prop := bitsTurnsRow.holds Try.pinned (OpenSpec.ofChange bitsTurnsWrong)

/-- 'bindlelaw01.BitsChoice': WHATEVER THE INPUT: true; the input reads as it did. -/
def bitsChoiceSpec : ChangeSpec := { name := "bitsChoice", fn := fun _ => fun
  | [d1, d2, d3] => { results := [.lit (.bool true)], args := [d1, d2, d3] }
  | _ => none }
def bitsChoiceRow : OpenClaim := { program := "ytmcpiclmbehlnaa", sum := "09392de88279c6eae8cbc3f1e1e5df988c03f09570bdfd17882d000cb3f64f97", func := "bindle/bindlelaw01.BitsChoice", spec := "bitsChoice", apart := false }
def BitsChoiceSaid : Prop := bitsChoiceRow.holds Try.pinned (OpenSpec.ofChange bitsChoiceSpec)

/-- ITS FALSE NEIGHBOUR: 'it returns false'. Refute it at one input. -/
def bitsChoiceWrong : ChangeSpec := { name := "bitsChoice", fn := fun _ => fun
  | [d1, d2, d3] => { results := [.lit (.bool false)], args := [d1, d2, d3] }
  | _ => none }
def BitsChoiceWrongFalsely : Prop := bitsChoiceRow.holds Try.pinned (OpenSpec.ofChange bitsChoiceWrong)

/-- 'bindlelaw01.BitsSigmas': WHATEVER THE INPUT: true; the input reads as it did. -/
def bitsSigmasSpec : ChangeSpec := { name := "bitsSigmas", fn := fun _ => fun
  | [d] => { results := [.lit (.bool true)], args := [d] }
  | _ => none }
def bitsSigmasRow : OpenClaim := { program := "ytmcpiclmbehlnaa", sum := "09392de88279c6eae8cbc3f1e1e5df988c03f09570bdfd17882d000cb3f64f97", func := "bindle/bindlelaw01.BitsSigmas", spec := "bitsSigmas", apart := false }
def BitsSigmasSaid : Prop := bitsSigmasRow.holds Try.pinned (OpenSpec.ofChange bitsSigmasSpec)

/-- ITS FALSE NEIGHBOUR: 'it returns false'. Refute it at one input. -/
def bitsSigmasWrong : ChangeSpec := { name := "bitsSigmas", fn := fun _ => fun
  | [d] => { results := [.lit (.bool false)], args := [d] }
  | _ => none }
def BitsSigmasWrongFalsely : Prop := bitsSigmasRow.holds Try.pinned (OpenSpec.ofChange bitsSigmasWrong)

/-- 'bindlelaw01.BitsAdds': WHATEVER THE INPUT: true; the input reads as it did. -/
def bitsAddsSpec : ChangeSpec := { name := "bitsAdds", fn := fun _ => fun
  | [d1, d2] => { results := [.lit (.bool true)], args := [d1, d2] }
  | _ => none }
def bitsAddsRow : OpenClaim := { program := "ytmcpiclmbehlnaa", sum := "09392de88279c6eae8cbc3f1e1e5df988c03f09570bdfd17882d000cb3f64f97", func := "bindle/bindlelaw01.BitsAdds", spec := "bitsAdds", apart := false }
def BitsAddsSaid : Prop := bitsAddsRow.holds Try.pinned (OpenSpec.ofChange bitsAddsSpec)

/-- ITS FALSE NEIGHBOUR: 'it returns false'. Refute it at one input. -/
def bitsAddsWrong : ChangeSpec := { name := "bitsAdds", fn := fun _ => fun
  | [d1, d2] => { results := [.lit (.bool false)], args := [d1, d2] }
  | _ => none }
def BitsAddsWrongFalsely : Prop := bitsAddsRow.holds Try.pinned (OpenSpec.ofChange bitsAddsWrong)

/-- 'bindlelaw02.BlockSchedules': WHATEVER THE INPUT: true; the input reads as it did. -/
def blockSchedulesSpec : ChangeSpec := { name := "blockSchedules", fn := fun _ => fun
  | [d] => { results := [.lit (.bool true)], args := [d] }
  | _ => none }
def blockSchedulesRow : OpenClaim := { program := "ytmcpiclmbehlnaa", sum := "09392de88279c6eae8cbc3f1e1e5df988c03f09570bdfd17882d000cb3f64f97", func := "bindle/bindlelaw02.BlockSchedules", spec := "blockSchedules", apart := false }
def BlockSchedulesSaid : Prop := blockSchedulesRow.holds Try.pinned (OpenSpec.ofChange blockSchedulesSpec)

/-- ITS FALSE NEIGHBOUR: 'it returns false'. Refute it at one input. -/
def blockSchedulesWrong : ChangeSpec := { name := "blockSchedules", fn := fun _ => fun
  | [d] => { results := [.lit (.bool false)], args := [d] }
  | _ => none }
def BlockSchedulesWrongFalsely : Prop := blockSchedulesRow.holds Try.pinned (OpenSpec.ofChange blockSchedulesWrong)

/-- 'bindlelaw02.BlockRounds': WHATEVER THE INPUT: true; the input reads as it did. -/
def blockRoundsSpec : ChangeSpec := { name := "blockRounds", fn := fun _ => fun
  | [d1, d2, d3] => { results := [.lit (.bool true)], args := [d1, d2, d3] }
  | _ => none }
def blockRoundsRow : OpenClaim := { program := "ytmcpiclmbehlnaa", sum := "09392de88279c6eae8cbc3f1e1e5df988c03f09570bdfd17882d000cb3f64f97", func := "bindle/bindlelaw02.BlockRounds", spec := "blockRounds", apart := false }
def BlockRoundsSaid : Prop := blockRoundsRow.holds Try.pinned (OpenSpec.ofChange blockRoundsSpec)

/-- ITS FALSE NEIGHBOUR: 'it returns false'. Refute it at one input. -/
def blockRoundsWrong : ChangeSpec := { name := "blockRounds", fn := fun _ => fun
  | [d1, d2, d3] => { results := [.lit (.bool false)], args := [d1, d2, d3] }
  | _ => none }
def BlockRoundsWrongFalsely : Prop := blockRoundsRow.holds Try.pinned (OpenSpec.ofChange blockRoundsWrong)

/-- 'bindlelaw02.BlockUndone': WHATEVER THE INPUT: true; the input reads as it did. -/
def blockUndoneSpec : ChangeSpec := { name := "blockUndone", fn := fun _ => fun
  | [d1, d2, d3] => { results := [.lit (.bool true)], args := [d1, d2, d3] }
  | _ => none }
def blockUndoneRow : OpenClaim := { program := "ytmcpiclmbehlnaa", sum := "09392de88279c6eae8cbc3f1e1e5df988c03f09570bdfd17882d000cb3f64f97", func := "bindle/bindlelaw02.BlockUndone", spec := "blockUndone", apart := false }
def BlockUndoneSaid : Prop := blockUndoneRow.holds Try.pinned (OpenSpec.ofChange blockUndoneSpec)

/-- ITS FALSE NEIGHBOUR: 'it returns false'. Refute it at one input. -/
def blockUndoneWrong : ChangeSpec := { name := "blockUndone", fn := fun _ => fun
  | [d1, d2, d3] => { results := [.lit (.bool false)], args := [d1, d2, d3] }
  | _ => none }
def BlockUndoneWrongFalsely : Prop := blockUndoneRow.holds Try.pinned (OpenSpec.ofChange blockUndoneWrong)

/-- 'bindlelaw02.BlockWords': WHATEVER THE INPUT: true; the input reads as it did. -/
def blockWordsSpec : ChangeSpec := { name := "blockWords", fn := fun _ => fun
  | [d1, d2] => { results := [.lit (.bool true)], args := [d1, d2] }
  | _ => none }
def blockWordsRow : OpenClaim := { program := "ytmcpiclmbehlnaa", sum := "09392de88279c6eae8cbc3f1e1e5df988c03f09570bdfd17882d000cb3f64f97", func := "bindle/bindlelaw02.BlockWords", spec := "blockWords", apart := false }
def BlockWordsSaid : Prop := blockWordsRow.holds Try.pinned (OpenSpec.ofChange blockWordsSpec)

/-- ITS FALSE NEIGHBOUR: 'it returns false'. Refute it at one input. -/
def blockWordsWrong : ChangeSpec := { name := "blockWords", fn := fun _ => fun
  | [d1, d2] => { results := [.lit (.bool false)], args := [d1, d2] }
  | _ => none }
def BlockWordsWrongFalsely : Prop := blockWordsRow.holds Try.pinned (OpenSpec.ofChange blockWordsWrong)

/-- 'bindlelaw02.BlockCompresses': WHATEVER THE INPUT: true; the input reads as it did. -/
def blockCompressesSpec : ChangeSpec := { name := "blockCompresses", fn := fun _ => fun
  | [d1, d2] => { results := [.lit (.bool true)], args := [d1, d2] }
  | _ => none }
def blockCompressesRow : OpenClaim := { program := "ytmcpiclmbehlnaa", sum := "09392de88279c6eae8cbc3f1e1e5df988c03f09570bdfd17882d000cb3f64f97", func := "bindle/bindlelaw02.BlockCompresses", spec := "blockCompresses", apart := false }
def BlockCompressesSaid : Prop := blockCompressesRow.holds Try.pinned (OpenSpec.ofChange blockCompressesSpec)

/-- ITS FALSE NEIGHBOUR: 'it returns false'. Refute it at one input. -/
def blockCompressesWrong : ChangeSpec := { name := "blockCompresses", fn := fun _ => fun
  | [d1, d2] => { results := [.lit (.bool false)], args := [d1, d2] }
  | _ => none }
def BlockCompressesWrongFalsely : Prop := blockCompressesRow.holds Try.pinned (OpenSpec.ofChange blockCompressesWrong)

/-- 'bindlelaw02.BlockApart': WHATEVER THE INPUT: true; the input reads as it did. -/
def blockApartSpec : ChangeSpec := { name := "blockApart", fn := fun _ => fun
  | [d1, d2, d3] => { results := [.lit (.bool true)], args := [d1, d2, d3] }
  | _ => none }
def blockApartRow : OpenClaim := { program := "ytmcpiclmbehlnaa", sum := "09392de88279c6eae8cbc3f1e1e5df988c03f09570bdfd17882d000cb3f64f97", func := "bindle/bindlelaw02.BlockApart", spec := "blockApart", apart := false }
def BlockApartSaid : Prop := blockApartRow.holds Try.pinned (OpenSpec.ofChange blockApartSpec)

/-- ITS FALSE NEIGHBOUR: 'it returns false'. Refute it at one input. -/
def blockApartWrong : ChangeSpec := { name := "blockApart", fn := fun _ => fun
  | [d1, d2, d3] => { results := [.lit (.bool false)], args := [d1, d2, d3] }
  | _ => none }
def BlockApartWrongFalsely : Prop := blockApartRow.holds Try.pinned (OpenSpec.ofChange blockApartWrong)

/- THE SECOND FORM. 'bulk': how many values and letters a reading holds, each counted each time it is reached (what is shared counts as often as it is met; a slice's spare places count too). A statement '..UptoSaid' is the law's where the arguments, and the package variables that the reading takes, are together of bulk at most 1048576: NARROWER than '..Said'. Prove '..Said' where nothing that the law and all that it calls make is longer than what came in: it says more and counts as full. Else prove '..UptoSaid'. A law counts once. -/
mutual
def uptoBulk {H : Type} : DataW H → Nat
  | .lit (.string bytes) => bytes.length + 1
  | .lit _ => 1
  | .nil => 1
  | .ptr d => uptoBulk d + 1
  | .slice elems spare => uptoBulkAll elems + uptoBulkAll spare + 1
  | .agg parts => uptoBulkAll parts + 1
  | .iface _ d => uptoBulk d + 1
  | .map entries => uptoBulkEntries entries + 1
  | .held _ => 1
def uptoBulkAll {H : Type} : List (DataW H) → Nat
  | [] => 0
  | d :: r => uptoBulk d + uptoBulkAll r
def uptoBulkEntries {H : Type} : List (Lit × DataW H) → Nat
  | [] => 0
  | x :: r => uptoBulkEntry x + uptoBulkEntries r
def uptoBulkEntry {H : Type} : Lit × DataW H → Nat
  | (.string bytes, d) => bytes.length + uptoBulk d + 1
  | (_, d) => uptoBulk d + 1
 end
def uptoSmall : (H : Type) → List (DataW H) → Bool := fun _ ds => decide (uptoBulkAll ds ≤ 1048576)
def OpenSpec.upto (s : _root_.Go.ChangeSpec) : _root_.Go.OpenSpec := { _root_.Go.OpenSpec.ofChange s with cond := some uptoSmall }

/-- 'bindlelaw01.BitsConstants', WHERE WHAT IT READS IS OF BULK AT MOST 1048576: true; the input reads as it did. -/
def bitsConstantsUptoRow : OpenClaim := { program := "ytmcpiclmbehlnaa", sum := "09392de88279c6eae8cbc3f1e1e5df988c03f09570bdfd17882d000cb3f64f97", func := "bindle/bindlelaw01.BitsConstants", spec := "bitsConstants", apart := false, narrowed := true }
def BitsConstantsUptoSaid : Prop := bitsConstantsUptoRow.holds Try.pinned (OpenSpec.upto bitsConstantsSpec)

/-- 'bindlelaw01.BitsBack', WHERE WHAT IT READS IS OF BULK AT MOST 1048576: true; the input reads as it did. -/
def bitsBackUptoRow : OpenClaim := { program := "ytmcpiclmbehlnaa", sum := "09392de88279c6eae8cbc3f1e1e5df988c03f09570bdfd17882d000cb3f64f97", func := "bindle/bindlelaw01.BitsBack", spec := "bitsBack", apart := false, narrowed := true }
def BitsBackUptoSaid : Prop := bitsBackUptoRow.holds Try.pinned (OpenSpec.upto bitsBackSpec)

/-- 'bindlelaw01.BitsTurns', WHERE WHAT IT READS IS OF BULK AT MOST 1048576: true; the input reads as it did. -/
def bitsTurnsUptoRow : OpenClaim := { program := "ytmcpiclmbehlnaa", sum := "09392de88279c6eae8cbc3f1e1e5df988c03f09570bdfd17882d000cb3f64f97", func := "bindle/bindlelaw01.BitsTurns", spec := "bitsTurns", apart := false, narrowed := true }
def BitsTurnsUptoSaid : Prop := bitsTurnsUptoRow.holds Try.pinned (OpenSpec.upto bitsTurnsSpec)

/-- 'bindlelaw01.BitsChoice', WHERE WHAT IT READS IS OF BULK AT MOST 1048576: true; the input reads as it did. -/
def bitsChoiceUptoRow : OpenClaim := { program := "ytmcpiclmbehlnaa", sum := "09392de88279c6eae8cbc3f1e1e5df988c03f09570bdfd17882d000cb3f64f97", func := "bindle/bindlelaw01.BitsChoice", spec := "bitsChoice", apart := false, narrowed := true }
def BitsChoiceUptoSaid : Prop := bitsChoiceUptoRow.holds Try.pinned (OpenSpec.upto bitsChoiceSpec)

/-- 'bindlelaw01.BitsSigmas', WHERE WHAT IT READS IS OF BULK AT MOST 1048576: true; the input reads as it did. -/
def bitsSigmasUptoRow : OpenClaim := { program := "ytmcpiclmbehlnaa", sum := "09392de88279c6eae8cbc3f1e1e5df988c03f09570bdfd17882d000cb3f64f97", func := "bindle/bindlelaw01.BitsSigmas", spec := "bitsSigmas", apart := false, narrowed := true }
def BitsSigmasUptoSaid : Prop := bitsSigmasUptoRow.holds Try.pinned (OpenSpec.upto bitsSigmasSpec)

/-- 'bindlelaw01.BitsAdds', WHERE WHAT IT READS IS OF BULK AT MOST 1048576: true; the input reads as it did. -/
def bitsAddsUptoRow : OpenClaim := { program := "ytmcpiclmbehlnaa", sum := "09392de88279c6eae8cbc3f1e1e5df988c03f09570bdfd17882d000cb3f64f97", func := "bindle/bindlelaw01.BitsAdds", spec := "bitsAdds", apart := false, narrowed := true }
def BitsAddsUptoSaid : Prop := bitsAddsUptoRow.holds Try.pinned (OpenSpec.upto bitsAddsSpec)

/-- 'bindlelaw02.BlockSchedules', WHERE WHAT IT READS IS OF BULK AT MOST 1048576: true; the input reads as it did. -/
def blockSchedulesUptoRow : OpenClaim := { program := "ytmcpiclmbehlnaa", sum := "09392de88279c6eae8cbc3f1e1e5df988c03f09570bdfd17882d000cb3f64f97", func := "bindle/bindlelaw02.BlockSchedules", spec := "blockSchedules", apart := false, narrowed := true }
def BlockSchedulesUptoSaid : Prop := blockSchedulesUptoRow.holds Try.pinned (OpenSpec.upto blockSchedulesSpec)

/-- 'bindlelaw02.BlockRounds', WHERE WHAT IT READS IS OF BULK AT MOST 1048576: true; the input reads as it did. -/
def blockRoundsUptoRow : OpenClaim := { program := "ytmcpiclmbehlnaa", sum := "09392de88279c6eae8cbc3f1e1e5df988c03f09570bdfd17882d000cb3f64f97", func := "bindle/bindlelaw02.BlockRounds", spec := "blockRounds", apart := false, narrowed := true }
def BlockRoundsUptoSaid : Prop := blockRoundsUptoRow.holds Try.pinned (OpenSpec.upto blockRoundsSpec)

/-- 'bindlelaw02.BlockUndone', WHERE WHAT IT READS IS OF BULK AT MOST 1048576: true; the input reads as it did. -/
def blockUndoneUptoRow : OpenClaim := { program := "ytmcpiclmbehlnaa", sum := "09392de88279c6eae8cbc3f1e1e5df988c03f09570bdfd17882d000cb3f64f97", func := "bindle/bindlelaw02.BlockUndone", spec := "blockUndone", apart := false, narrowed := true }
def BlockUndoneUptoSaid : Prop := blockUndoneUptoRow.holds Try.pinned (OpenSpec.upto blockUndoneSpec)

/-- 'bindlelaw02.BlockWords', WHERE WHAT IT READS IS OF BULK AT MOST 1048576: true; the input reads as it did. -/
def blockWordsUptoRow : OpenClaim := { program := "ytmcpiclmbehlnaa", sum := "09392de88279c6eae8cbc3f1e1e5df988c03f09570bdfd17882d000cb3f64f97", func := "bindle/bindlelaw02.BlockWords", spec := "blockWords", apart := false, narrowed := true }
def BlockWordsUptoSaid : Prop := blockWordsUptoRow.holds Try.pinned (OpenSpec.upto blockWordsSpec)

/-- 'bindlelaw02.BlockCompresses', WHERE WHAT IT READS IS OF BULK AT MOST 1048576: true; the input reads as it did. -/
def blockCompressesUptoRow : OpenClaim := { program := "ytmcpiclmbehlnaa", sum := "09392de88279c6eae8cbc3f1e1e5df988c03f09570bdfd17882d000cb3f64f97", func := "bindle/bindlelaw02.BlockCompresses", spec := "blockCompresses", apart := false, narrowed := true }
def BlockCompressesUptoSaid : Prop := blockCompressesUptoRow.holds Try.pinned (OpenSpec.upto blockCompressesSpec)

/-- 'bindlelaw02.BlockApart', WHERE WHAT IT READS IS OF BULK AT MOST 1048576: true; the input reads as it did. -/
def blockApartUptoRow : OpenClaim := { program := "ytmcpiclmbehlnaa", sum := "09392de88279c6eae8cbc3f1e1e5df988c03f09570bdfd17882d000cb3f64f97", func := "bindle/bindlelaw02.BlockApart", spec := "blockApart", apart := false, narrowed := true }
def BlockApartUptoSaid : Prop := blockApartUptoRow.holds Try.pinned (OpenSpec.upto blockApartSpec)

end Rows
end Go.Proofs.Ytmcpiclmbehlnaa
