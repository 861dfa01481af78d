/-
  No cell of these rows narrows 'for every input' (looked for: loops, veiled, ifaces, maps, wideKeys, modest, calm, conditions, laid).
  DERIVED. THE GIVEN ROWS OF THIS SEAT. 6 by the template 'for every input the law returns true; each argument reads behind the call as it read before'; 0 by the template 'total and deterministic' (their statements: YtcijdceomgdakaaTotals.lean).
  GIVEN WITH THE SEED: the statements are not yours to turn. If you find one false, say at which input.
  Laid BY PROGRAM, IN A SANDBOX (cutbox-rows.mjs): the forced cells as the released guide's own fill.sh prints them over the translation 58ad02449d682ddc… (all of the seat's roots in one cut). By AI agents, Wed Nov 11 2026. No macro, syntax, notation, axiom, sorry.
-/
import Derived.Test.YtcijdceomgdakaaChecked
import GoSem.Claim
import GoSem.ClaimJoined
import GoSem.ClaimMapViews
import Derived.JoinedTies
import Derived.KernelRfl
namespace Go.Proofs.Ytcijdceomgdakaa
/- THE CELL 'sum', in the pinned program and in every row, IS THE sha256 OF THE DUMP (.gsa) THAT YtcijdceomgdakaaProg.lean LOADS. Nothing in Lean hashes anything: it is a label: what it is worth is what the hold of that sum in a sandbox is worth. -/
noncomputable def Try.pinned : Pinned := { name := "ytcijdceomgdakaa", sum := "58ad02449d682ddccef440745061c2036ca4447053a697b954f34e40f89badbc", checked := Try.checked }
namespace Rows
def none {H : Type} : Left H := { results := [], args := [] }

/-- 'bindlelaw03.ShaSums': WHATEVER THE INPUT: true; the input reads as it did. -/
def shaSumsSpec : ChangeSpec := { name := "shaSums", fn := fun _ => fun
  | [d] => { results := [.lit (.bool true)], args := [d] }
  | _ => none }
def shaSumsRow : OpenClaim := { program := "ytcijdceomgdakaa", sum := "58ad02449d682ddccef440745061c2036ca4447053a697b954f34e40f89badbc", func := "bindle/bindlelaw03.ShaSums", spec := "shaSums", apart := false }
def ShaSumsSaid : Prop := shaSumsRow.holds Try.pinned (OpenSpec.ofChange shaSumsSpec)

/-- ITS FALSE NEIGHBOUR: 'it returns false'. Refute it at one input. -/
def shaSumsWrong : ChangeSpec := { name := "shaSums", fn := fun _ => fun
  | [d] => { results := [.lit (.bool false)], args := [d] }
  | _ => none }
def ShaSumsWrongFalsely : Prop := shaSumsRow.holds Try.pinned (OpenSpec.ofChange shaSumsWrong)

/-- 'bindlelaw03.ShaPads': WHATEVER THE INPUT: true; the input reads as it did. -/
def shaPadsSpec : ChangeSpec := { name := "shaPads", fn := fun _ => fun
  | [d] => { results := [.lit (.bool true)], args := [d] }
  | _ => none }
def shaPadsRow : OpenClaim := { program := "ytcijdceomgdakaa", sum := "58ad02449d682ddccef440745061c2036ca4447053a697b954f34e40f89badbc", func := "bindle/bindlelaw03.ShaPads", spec := "shaPads", apart := false }
def ShaPadsSaid : Prop := shaPadsRow.holds Try.pinned (OpenSpec.ofChange shaPadsSpec)

/-- ITS FALSE NEIGHBOUR: 'it returns false'. Refute it at one input. -/
def shaPadsWrong : ChangeSpec := { name := "shaPads", fn := fun _ => fun
  | [d] => { results := [.lit (.bool false)], args := [d] }
  | _ => none }
def ShaPadsWrongFalsely : Prop := shaPadsRow.holds Try.pinned (OpenSpec.ofChange shaPadsWrong)

/-- 'bindlelaw03.ShaPieces': WHATEVER THE INPUT: true; the input reads as it did. -/
def shaPiecesSpec : ChangeSpec := { name := "shaPieces", fn := fun _ => fun
  | [d] => { results := [.lit (.bool true)], args := [d] }
  | _ => none }
def shaPiecesRow : OpenClaim := { program := "ytcijdceomgdakaa", sum := "58ad02449d682ddccef440745061c2036ca4447053a697b954f34e40f89badbc", func := "bindle/bindlelaw03.ShaPieces", spec := "shaPieces", apart := false }
def ShaPiecesSaid : Prop := shaPiecesRow.holds Try.pinned (OpenSpec.ofChange shaPiecesSpec)

/-- ITS FALSE NEIGHBOUR: 'it returns false'. Refute it at one input. -/
def shaPiecesWrong : ChangeSpec := { name := "shaPieces", fn := fun _ => fun
  | [d] => { results := [.lit (.bool false)], args := [d] }
  | _ => none }
def ShaPiecesWrongFalsely : Prop := shaPiecesRow.holds Try.pinned (OpenSpec.ofChange shaPiecesWrong)

/-- 'bindlelaw03.ShaBlocks': WHATEVER THE INPUT: true; the input reads as it did. -/
def shaBlocksSpec : ChangeSpec := { name := "shaBlocks", fn := fun _ => fun
  | [d] => { results := [.lit (.bool true)], args := [d] }
  | _ => none }
def shaBlocksRow : OpenClaim := { program := "ytcijdceomgdakaa", sum := "58ad02449d682ddccef440745061c2036ca4447053a697b954f34e40f89badbc", func := "bindle/bindlelaw03.ShaBlocks", spec := "shaBlocks", apart := false }
def ShaBlocksSaid : Prop := shaBlocksRow.holds Try.pinned (OpenSpec.ofChange shaBlocksSpec)

/-- ITS FALSE NEIGHBOUR: 'it returns false'. Refute it at one input. -/
def shaBlocksWrong : ChangeSpec := { name := "shaBlocks", fn := fun _ => fun
  | [d] => { results := [.lit (.bool false)], args := [d] }
  | _ => none }
def ShaBlocksWrongFalsely : Prop := shaBlocksRow.holds Try.pinned (OpenSpec.ofChange shaBlocksWrong)

/-- 'bindlelaw03.ShaStays': WHATEVER THE INPUT: true; the input reads as it did. -/
def shaStaysSpec : ChangeSpec := { name := "shaStays", fn := fun _ => fun
  | [d1, d2] => { results := [.lit (.bool true)], args := [d1, d2] }
  | _ => none }
def shaStaysRow : OpenClaim := { program := "ytcijdceomgdakaa", sum := "58ad02449d682ddccef440745061c2036ca4447053a697b954f34e40f89badbc", func := "bindle/bindlelaw03.ShaStays", spec := "shaStays", apart := false }
def ShaStaysSaid : Prop := shaStaysRow.holds Try.pinned (OpenSpec.ofChange shaStaysSpec)

/-- ITS FALSE NEIGHBOUR: 'it returns false'. Refute it at one input. -/
def shaStaysWrong : ChangeSpec := { name := "shaStays", fn := fun _ => fun
  | [d1, d2] => { results := [.lit (.bool false)], args := [d1, d2] }
  | _ => none }
def ShaStaysWrongFalsely : Prop := shaStaysRow.holds Try.pinned (OpenSpec.ofChange shaStaysWrong)

/-- 'bindlelaw03.ShaNobody': WHATEVER THE INPUT: true; the input reads as it did. -/
def shaNobodySpec : ChangeSpec := { name := "shaNobody", fn := fun _ => fun
  | [d] => { results := [.lit (.bool true)], args := [d] }
  | _ => none }
def shaNobodyRow : OpenClaim := { program := "ytcijdceomgdakaa", sum := "58ad02449d682ddccef440745061c2036ca4447053a697b954f34e40f89badbc", func := "bindle/bindlelaw03.ShaNobody", spec := "shaNobody", apart := false }
def ShaNobodySaid : Prop := shaNobodyRow.holds Try.pinned (OpenSpec.ofChange shaNobodySpec)

/-- ITS FALSE NEIGHBOUR: 'it returns false'. Refute it at one input. -/
def shaNobodyWrong : ChangeSpec := { name := "shaNobody", fn := fun _ => fun
  | [d] => { results := [.lit (.bool false)], args := [d] }
  | _ => none }
def ShaNobodyWrongFalsely : Prop := shaNobodyRow.holds Try.pinned (OpenSpec.ofChange shaNobodyWrong)

/- THE SECOND FORM. 'bulk': how many values and letters a reading holds, each counted each time it is reached (what is shared counts as often as it is met; a slice's spare places count too). A statement '..UptoSaid' is the law's where the arguments, and the package variables that the reading takes, are together of bulk at most 1048576: NARROWER than '..Said'. Prove '..Said' where nothing that the law and all that it calls make is longer than what came in: it says more and counts as full. Else prove '..UptoSaid'. A law counts once. -/
mutual
def uptoBulk {H : Type} : DataW H → Nat
  | .lit (.string bytes) => bytes.length + 1
  | .lit _ => 1
  | .nil => 1
  | .ptr d => uptoBulk d + 1
  | .slice elems spare => uptoBulkAll elems + uptoBulkAll spare + 1
  | .agg parts => uptoBulkAll parts + 1
  | .iface _ d => uptoBulk d + 1
  | .map entries => uptoBulkEntries entries + 1
  | .held _ => 1
def uptoBulkAll {H : Type} : List (DataW H) → Nat
  | [] => 0
  | d :: r => uptoBulk d + uptoBulkAll r
def uptoBulkEntries {H : Type} : List (Lit × DataW H) → Nat
  | [] => 0
  | x :: r => uptoBulkEntry x + uptoBulkEntries r
def uptoBulkEntry {H : Type} : Lit × DataW H → Nat
  | (.string bytes, d) => bytes.length + uptoBulk d + 1
  | (_, d) => uptoBulk d + 1
 end
def uptoSmall : (H : Type) → List (DataW H) → Bool := fun _ ds => decide (uptoBulkAll ds ≤ 1048576)
def OpenSpec.upto (s : _root_.Go.ChangeSpec) : _root_.Go.OpenSpec := { _root_.Go.OpenSpec.ofChange s with cond := some uptoSmall }

/-- 'bindlelaw03.ShaSums', WHERE WHAT IT READS IS OF BULK AT MOST 1048576: true; the input reads as it did. -/
def shaSumsUptoRow : OpenClaim := { program := "ytcijdceomgdakaa", sum := "58ad02449d682ddccef440745061c2036ca4447053a697b954f34e40f89badbc", func := "bindle/bindlelaw03.ShaSums", spec := "shaSums", apart := false, narrowed := true }
def ShaSumsUptoSaid : Prop := shaSumsUptoRow.holds Try.pinned (OpenSpec.upto shaSumsSpec)

/-- 'bindlelaw03.ShaPads', WHERE WHAT IT READS IS OF BULK AT MOST 1048576: true; the input reads as it did. -/
def shaPadsUptoRow : OpenClaim := { program := "ytcijdceomgdakaa", sum := "58ad02449d682ddccef440745061c2036ca4447053a697b954f34e40f89badbc", func := "bindle/bindlelaw03.ShaPads", spec := "shaPads", apart := false, narrowed := true }
def ShaPadsUptoSaid : Prop := shaPadsUptoRow.holds Try.pinned (OpenSpec.upto shaPadsSpec)

/-- 'bindlelaw03.ShaPieces', WHERE WHAT IT READS IS OF BULK AT MOST 1048576: true; the input reads as it did. -/
def shaPiecesUptoRow : OpenClaim := { program := "ytcijdceomgdakaa", sum := "58ad02449d682ddccef440745061c2036ca4447053a697b954f34e40f89badbc", func := "bindle/bindlelaw03.ShaPieces", spec := "shaPieces", apart := false, narrowed := true }
def ShaPiecesUptoSaid : Prop := shaPiecesUptoRow.holds Try.pinned (OpenSpec.upto shaPiecesSpec)

/-- 'bindlelaw03.ShaBlocks', WHERE WHAT IT READS IS OF BULK AT MOST 1048576: true; the input reads as it did. -/
def shaBlocksUptoRow : OpenClaim := { program := "ytcijdceomgdakaa", sum := "58ad02449d682ddccef440745061c2036ca4447053a697b954f34e40f89badbc", func := "bindle/bindlelaw03.ShaBlocks", spec := "shaBlocks", apart := false, narrowed := true }
def ShaBlocksUptoSaid : Prop := shaBlocksUptoRow.holds Try.pinned (OpenSpec.upto shaBlocksSpec)

/-- 'bindlelaw03.ShaStays', WHERE WHAT IT READS IS OF BULK AT MOST 1048576: true; the input reads as it did. -/
def shaStaysUptoRow : OpenClaim := { program := "ytcijdceomgdakaa", sum := "58ad02449d682ddccef440745061c2036ca4447053a697b954f34e40f89badbc", func := "bindle/bindlelaw03.ShaStays", spec := "shaStays", apart := false, narrowed := true }
def ShaStaysUptoSaid : Prop := shaStaysUptoRow.holds Try.pinned (OpenSpec.upto shaStaysSpec)

/-- 'bindlelaw03.ShaNobody', WHERE WHAT IT READS IS OF BULK AT MOST 1048576: true; the input reads as it did. -/
def shaNobodyUptoRow : OpenClaim := { program := "ytcijdceomgdakaa", sum := "58ad02449d682ddccef440745061c2036ca4447053a697b954f34e40f89badbc", func := "bindle/bindlelaw03.ShaNobody", spec := "shaNobody", apart := false, narrowed := true }
def ShaNobodyUptoSaid : Prop := shaNobodyUptoRow.holds Try.pinned (OpenSpec.upto shaNobodySpec)

end Rows
end Go.Proofs.Ytcijdceomgdakaa
