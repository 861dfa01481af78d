/-
  NARROWER THAN 'FOR EVERY INPUT', by the rows' own cells (each row's printed sentence says how): ViewAll: laid · ViewRises: laid · ViewShows: laid · ViewMain: laid · ViewTrees: laid.
  DERIVED. THE GIVEN ROWS OF THIS SEAT. 5 by the template 'for every input the law returns true; each argument reads behind the call as it read before'; 0 by the template 'total and deterministic' (their statements: YtagdlbadkmgdmaaDoorTotals.lean).
  GIVEN WITH THE SEED: the statements are not yours to turn. If you find one false, say at which input.
  Laid BY PROGRAM, IN A SANDBOX (cutbox-rows.mjs): the forced cells as the released guide's own fill.sh prints them over the translation c52d5c314b7cb40f… (all of the seat's roots in one cut). By AI agents, Wed Nov 11 2026. No macro, syntax, notation, axiom, sorry.
-/
import Derived.Test.YtagdlbadkmgdmaaDoorChecked
import GoSem.Claim
import GoSem.ClaimJoined
import GoSem.ClaimMapViews
import Derived.JoinedTies
import Derived.KernelRfl
namespace Go.Proofs.YtagdlbadkmgdmaaDoor
/- THE CELL 'sum', in the pinned program and in every row, IS THE sha256 OF THE DUMP (.gsa) THAT YtagdlbadkmgdmaaDoorProg.lean LOADS. Nothing in Lean hashes anything: it is a label: what it is worth is what the hold of that sum in a sandbox is worth. -/
noncomputable def Tryd.pinned : Pinned := { name := "ytagdlbadkmgdmaadoor", sum := "c52d5c314b7cb40f5fae6d22b74ab2ca59337825f2c96ab198ab921f74d2849b", checked := Tryd.checked }
namespace Rows
def none {H : Type} : Left H := { results := [], args := [] }

/- WHAT THE LISTED PACKAGE-LEVEL VARIABLES READ AS WHEN THE CALL BEGINS. Each datum BY PROGRAM (the guide's laid-datum.mjs) off the statement by which the dump's own 'gosem.cut.vars' lays the variable. In a bare row this is a premise. The card (YtagdlbadkmgdmaaDoorCards.lean) ties it to the program's text. -/
def laid_math_bits_deBruijn32tab {H : Type} : DataW H := .agg [.lit (.int .u8 0), .lit (.int .u8 1), .lit (.int .u8 28), .lit (.int .u8 2), .lit (.int .u8 29), .lit (.int .u8 14), .lit (.int .u8 24), .lit (.int .u8 3), .lit (.int .u8 30), .lit (.int .u8 22), .lit (.int .u8 20), .lit (.int .u8 15), .lit (.int .u8 25), .lit (.int .u8 17), .lit (.int .u8 4), .lit (.int .u8 8), .lit (.int .u8 31), .lit (.int .u8 27), .lit (.int .u8 13), .lit (.int .u8 23), .lit (.int .u8 21), .lit (.int .u8 19), .lit (.int .u8 16), .lit (.int .u8 7), .lit (.int .u8 26), .lit (.int .u8 12), .lit (.int .u8 18), .lit (.int .u8 6), .lit (.int .u8 11), .lit (.int .u8 5), .lit (.int .u8 10), .lit (.int .u8 9)]
def laid_math_bits_deBruijn64tab {H : Type} : DataW H := .agg [.lit (.int .u8 0), .lit (.int .u8 1), .lit (.int .u8 56), .lit (.int .u8 2), .lit (.int .u8 57), .lit (.int .u8 49), .lit (.int .u8 28), .lit (.int .u8 3), .lit (.int .u8 61), .lit (.int .u8 58), .lit (.int .u8 42), .lit (.int .u8 50), .lit (.int .u8 38), .lit (.int .u8 29), .lit (.int .u8 17), .lit (.int .u8 4), .lit (.int .u8 62), .lit (.int .u8 47), .lit (.int .u8 59), .lit (.int .u8 36), .lit (.int .u8 45), .lit (.int .u8 43), .lit (.int .u8 51), .lit (.int .u8 22), .lit (.int .u8 53), .lit (.int .u8 39), .lit (.int .u8 33), .lit (.int .u8 30), .lit (.int .u8 24), .lit (.int .u8 18), .lit (.int .u8 12), .lit (.int .u8 5), .lit (.int .u8 63), .lit (.int .u8 55), .lit (.int .u8 48), .lit (.int .u8 27), .lit (.int .u8 60), .lit (.int .u8 41), .lit (.int .u8 37), .lit (.int .u8 16), .lit (.int .u8 46), .lit (.int .u8 35), .lit (.int .u8 44), .lit (.int .u8 21), .lit (.int .u8 52), .lit (.int .u8 32), .lit (.int .u8 23), .lit (.int .u8 11), .lit (.int .u8 54), .lit (.int .u8 26), .lit (.int .u8 40), .lit (.int .u8 15), .lit (.int .u8 34), .lit (.int .u8 20), .lit (.int .u8 31), .lit (.int .u8 10), .lit (.int .u8 25), .lit (.int .u8 14), .lit (.int .u8 19), .lit (.int .u8 9), .lit (.int .u8 13), .lit (.int .u8 8), .lit (.int .u8 7), .lit (.int .u8 6)]
def laid_internal_strconv_uint64pow10 {H : Type} : DataW H := .agg [.lit (.int .u64 1), .lit (.int .u64 10), .lit (.int .u64 100), .lit (.int .u64 1000), .lit (.int .u64 10000), .lit (.int .u64 100000), .lit (.int .u64 1000000), .lit (.int .u64 10000000), .lit (.int .u64 100000000), .lit (.int .u64 1000000000), .lit (.int .u64 10000000000), .lit (.int .u64 100000000000), .lit (.int .u64 1000000000000), .lit (.int .u64 10000000000000), .lit (.int .u64 100000000000000), .lit (.int .u64 1000000000000000), .lit (.int .u64 10000000000000000), .lit (.int .u64 100000000000000000), .lit (.int .u64 1000000000000000000), .lit (.int .u64 10000000000000000000)]

/-- 'bindlelaw14.ViewAll': WHATEVER THE INPUT: true; the input reads as it did. -/
def viewAllSpec : ChangeSpec := { name := "viewAll", fn := fun _ => fun
  | [d] => { results := [.lit (.bool true)], args := [d] }
  | _ => none }
def viewAllRow : OpenClaim := { program := "ytagdlbadkmgdmaadoor", sum := "c52d5c314b7cb40f5fae6d22b74ab2ca59337825f2c96ab198ab921f74d2849b", func := "bindle/bindlelaw14.ViewAll", spec := "viewAll", unfollowed := true, recurses := true, named := ["internal/strconv.uint64pow10", "math/bits.deBruijn32tab", "math/bits.deBruijn64tab"], apart := false, laid := [("math/bits.deBruijn32tab", laid_math_bits_deBruijn32tab), ("math/bits.deBruijn64tab", laid_math_bits_deBruijn64tab), ("internal/strconv.uint64pow10", laid_internal_strconv_uint64pow10)] }
def ViewAllSaid : Prop := viewAllRow.holds Tryd.pinned (OpenSpec.ofChange viewAllSpec)

/-- ITS FALSE NEIGHBOUR: 'it returns false'. Refute it at one input. -/
def viewAllWrong : ChangeSpec := { name := "viewAll", fn := fun _ => fun
  | [d] => { results := [.lit (.bool false)], args := [d] }
  | _ => none }
def ViewAllWrongFalsely : Prop := viewAllRow.holds Tryd.pinned (OpenSpec.ofChange viewAllWrong)

/-- 'bindlelaw14.ViewRises': WHATEVER THE INPUT: true; the input reads as it did. -/
def viewRisesSpec : ChangeSpec := { name := "viewRises", fn := fun _ => fun
  | [d] => { results := [.lit (.bool true)], args := [d] }
  | _ => none }
def viewRisesRow : OpenClaim := { program := "ytagdlbadkmgdmaadoor", sum := "c52d5c314b7cb40f5fae6d22b74ab2ca59337825f2c96ab198ab921f74d2849b", func := "bindle/bindlelaw14.ViewRises", spec := "viewRises", unfollowed := true, recurses := true, named := ["internal/strconv.uint64pow10", "math/bits.deBruijn32tab", "math/bits.deBruijn64tab"], apart := false, laid := [("math/bits.deBruijn32tab", laid_math_bits_deBruijn32tab), ("math/bits.deBruijn64tab", laid_math_bits_deBruijn64tab), ("internal/strconv.uint64pow10", laid_internal_strconv_uint64pow10)] }
def ViewRisesSaid : Prop := viewRisesRow.holds Tryd.pinned (OpenSpec.ofChange viewRisesSpec)

/-- ITS FALSE NEIGHBOUR: 'it returns false'. Refute it at one input. -/
def viewRisesWrong : ChangeSpec := { name := "viewRises", fn := fun _ => fun
  | [d] => { results := [.lit (.bool false)], args := [d] }
  | _ => none }
def ViewRisesWrongFalsely : Prop := viewRisesRow.holds Tryd.pinned (OpenSpec.ofChange viewRisesWrong)

/-- 'bindlelaw14.ViewShows': WHATEVER THE INPUT: true; the input reads as it did. -/
def viewShowsSpec : ChangeSpec := { name := "viewShows", fn := fun _ => fun
  | [d1, d2] => { results := [.lit (.bool true)], args := [d1, d2] }
  | _ => none }
def viewShowsRow : OpenClaim := { program := "ytagdlbadkmgdmaadoor", sum := "c52d5c314b7cb40f5fae6d22b74ab2ca59337825f2c96ab198ab921f74d2849b", func := "bindle/bindlelaw14.ViewShows", spec := "viewShows", unfollowed := true, recurses := true, named := ["internal/strconv.uint64pow10", "math/bits.deBruijn32tab", "math/bits.deBruijn64tab"], apart := false, laid := [("math/bits.deBruijn32tab", laid_math_bits_deBruijn32tab), ("math/bits.deBruijn64tab", laid_math_bits_deBruijn64tab), ("internal/strconv.uint64pow10", laid_internal_strconv_uint64pow10)] }
def ViewShowsSaid : Prop := viewShowsRow.holds Tryd.pinned (OpenSpec.ofChange viewShowsSpec)

/-- ITS FALSE NEIGHBOUR: 'it returns false'. Refute it at one input. -/
def viewShowsWrong : ChangeSpec := { name := "viewShows", fn := fun _ => fun
  | [d1, d2] => { results := [.lit (.bool false)], args := [d1, d2] }
  | _ => none }
def ViewShowsWrongFalsely : Prop := viewShowsRow.holds Tryd.pinned (OpenSpec.ofChange viewShowsWrong)

/-- 'bindlelaw14.ViewMain': WHATEVER THE INPUT: true; the input reads as it did. -/
def viewMainSpec : ChangeSpec := { name := "viewMain", fn := fun _ => fun
  | [d1, d2] => { results := [.lit (.bool true)], args := [d1, d2] }
  | _ => none }
def viewMainRow : OpenClaim := { program := "ytagdlbadkmgdmaadoor", sum := "c52d5c314b7cb40f5fae6d22b74ab2ca59337825f2c96ab198ab921f74d2849b", func := "bindle/bindlelaw14.ViewMain", spec := "viewMain", unfollowed := true, recurses := true, named := ["internal/strconv.uint64pow10", "math/bits.deBruijn32tab", "math/bits.deBruijn64tab"], apart := false, laid := [("math/bits.deBruijn32tab", laid_math_bits_deBruijn32tab), ("math/bits.deBruijn64tab", laid_math_bits_deBruijn64tab), ("internal/strconv.uint64pow10", laid_internal_strconv_uint64pow10)] }
def ViewMainSaid : Prop := viewMainRow.holds Tryd.pinned (OpenSpec.ofChange viewMainSpec)

/-- ITS FALSE NEIGHBOUR: 'it returns false'. Refute it at one input. -/
def viewMainWrong : ChangeSpec := { name := "viewMain", fn := fun _ => fun
  | [d1, d2] => { results := [.lit (.bool false)], args := [d1, d2] }
  | _ => none }
def ViewMainWrongFalsely : Prop := viewMainRow.holds Tryd.pinned (OpenSpec.ofChange viewMainWrong)

/-- 'bindlelaw14.ViewTrees': WHATEVER THE INPUT: true; the input reads as it did. -/
def viewTreesSpec : ChangeSpec := { name := "viewTrees", fn := fun _ => fun
  | [d1, d2] => { results := [.lit (.bool true)], args := [d1, d2] }
  | _ => none }
def viewTreesRow : OpenClaim := { program := "ytagdlbadkmgdmaadoor", sum := "c52d5c314b7cb40f5fae6d22b74ab2ca59337825f2c96ab198ab921f74d2849b", func := "bindle/bindlelaw14.ViewTrees", spec := "viewTrees", unfollowed := true, recurses := true, named := ["internal/strconv.uint64pow10", "math/bits.deBruijn32tab", "math/bits.deBruijn64tab"], apart := false, laid := [("math/bits.deBruijn32tab", laid_math_bits_deBruijn32tab), ("math/bits.deBruijn64tab", laid_math_bits_deBruijn64tab), ("internal/strconv.uint64pow10", laid_internal_strconv_uint64pow10)] }
def ViewTreesSaid : Prop := viewTreesRow.holds Tryd.pinned (OpenSpec.ofChange viewTreesSpec)

/-- ITS FALSE NEIGHBOUR: 'it returns false'. Refute it at one input. -/
def viewTreesWrong : ChangeSpec := { name := "viewTrees", fn := fun _ => fun
  | [d1, d2] => { results := [.lit (.bool false)], args := [d1, d2] }
  | _ => none }
def ViewTreesWrongFalsely : Prop := viewTreesRow.holds Tryd.pinned (OpenSpec.ofChange viewTreesWrong)

/- THE SECOND FORM. 'bulk': how many values and letters a reading holds, each counted each time it is reached (what is shared counts as often as it is met; a slice's spare places count too). A statement '..UptoSaid' is the law's where the arguments, and the package variables that the reading takes, are together of bulk at most 1048576: NARROWER than '..Said'. Prove '..Said' where nothing that the law and all that it calls make is longer than what came in: it says more and counts as full. Else prove '..UptoSaid'. A law counts once. -/
mutual
def uptoBulk {H : Type} : DataW H → Nat
  | .lit (.string bytes) => bytes.length + 1
  | .lit _ => 1
  | .nil => 1
  | .ptr d => uptoBulk d + 1
  | .slice elems spare => uptoBulkAll elems + uptoBulkAll spare + 1
  | .agg parts => uptoBulkAll parts + 1
  | .iface _ d => uptoBulk d + 1
  | .map entries => uptoBulkEntries entries + 1
  | .held _ => 1
def uptoBulkAll {H : Type} : List (DataW H) → Nat
  | [] => 0
  | d :: r => uptoBulk d + uptoBulkAll r
def uptoBulkEntries {H : Type} : List (Lit × DataW H) → Nat
  | [] => 0
  | x :: r => uptoBulkEntry x + uptoBulkEntries r
def uptoBulkEntry {H : Type} : Lit × DataW H → Nat
  | (.string bytes, d) => bytes.length + uptoBulk d + 1
  | (_, d) => uptoBulk d + 1
 end
def uptoSmall : (H : Type) → List (DataW H) → Bool := fun _ ds => decide (uptoBulkAll ds ≤ 1048576)
def OpenSpec.upto (s : _root_.Go.ChangeSpec) : _root_.Go.OpenSpec := { _root_.Go.OpenSpec.ofChange s with cond := some uptoSmall }

/-- 'bindlelaw14.ViewAll', WHERE WHAT IT READS IS OF BULK AT MOST 1048576: true; the input reads as it did. -/
def viewAllUptoRow : OpenClaim := { program := "ytagdlbadkmgdmaadoor", sum := "c52d5c314b7cb40f5fae6d22b74ab2ca59337825f2c96ab198ab921f74d2849b", func := "bindle/bindlelaw14.ViewAll", spec := "viewAll", unfollowed := true, recurses := true, named := ["internal/strconv.uint64pow10", "math/bits.deBruijn32tab", "math/bits.deBruijn64tab"], apart := false, laid := [("math/bits.deBruijn32tab", laid_math_bits_deBruijn32tab), ("math/bits.deBruijn64tab", laid_math_bits_deBruijn64tab), ("internal/strconv.uint64pow10", laid_internal_strconv_uint64pow10)], narrowed := true }
def ViewAllUptoSaid : Prop := viewAllUptoRow.holds Tryd.pinned (OpenSpec.upto viewAllSpec)

/-- 'bindlelaw14.ViewRises', WHERE WHAT IT READS IS OF BULK AT MOST 1048576: true; the input reads as it did. -/
def viewRisesUptoRow : OpenClaim := { program := "ytagdlbadkmgdmaadoor", sum := "c52d5c314b7cb40f5fae6d22b74ab2ca59337825f2c96ab198ab921f74d2849b", func := "bindle/bindlelaw14.ViewRises", spec := "viewRises", unfollowed := true, recurses := true, named := ["internal/strconv.uint64pow10", "math/bits.deBruijn32tab", "math/bits.deBruijn64tab"], apart := false, laid := [("math/bits.deBruijn32tab", laid_math_bits_deBruijn32tab), ("math/bits.deBruijn64tab", laid_math_bits_deBruijn64tab), ("internal/strconv.uint64pow10", laid_internal_strconv_uint64pow10)], narrowed := true }
def ViewRisesUptoSaid : Prop := viewRisesUptoRow.holds Tryd.pinned (OpenSpec.upto viewRisesSpec)

/-- 'bindlelaw14.ViewShows', WHERE WHAT IT READS IS OF BULK AT MOST 1048576: true; the input reads as it did. -/
def viewShowsUptoRow : OpenClaim := { program := "ytagdlbadkmgdmaadoor", sum := "c52d5c314b7cb40f5fae6d22b74ab2ca59337825f2c96ab198ab921f74d2849b", func := "bindle/bindlelaw14.ViewShows", spec := "viewShows", unfollowed := true, recurses := true, named := ["internal/strconv.uint64pow10", "math/bits.deBruijn32tab", "math/bits.deBruijn64tab"], apart := false, laid := [("math/bits.deBruijn32tab", laid_math_bits_deBruijn32tab), ("math/bits.deBruijn64tab", laid_math_bits_deBruijn64tab), ("internal/strconv.uint64pow10", laid_internal_strconv_uint64pow10)], narrowed := true }
def ViewShowsUptoSaid : Prop := viewShowsUptoRow.holds Tryd.pinned (OpenSpec.upto viewShowsSpec)

/-- 'bindlelaw14.ViewMain', WHERE WHAT IT READS IS OF BULK AT MOST 1048576: true; the input reads as it did. -/
def viewMainUptoRow : OpenClaim := { program := "ytagdlbadkmgdmaadoor", sum := "c52d5c314b7cb40f5fae6d22b74ab2ca59337825f2c96ab198ab921f74d2849b", func := "bindle/bindlelaw14.ViewMain", spec := "viewMain", unfollowed := true, recurses := true, named := ["internal/strconv.uint64pow10", "math/bits.deBruijn32tab", "math/bits.deBruijn64tab"], apart := false, laid := [("math/bits.deBruijn32tab", laid_math_bits_deBruijn32tab), ("math/bits.deBruijn64tab", laid_math_bits_deBruijn64tab), ("internal/strconv.uint64pow10", laid_internal_strconv_uint64pow10)], narrowed := true }
def ViewMainUptoSaid : Prop := viewMainUptoRow.holds Tryd.pinned (OpenSpec.upto viewMainSpec)

/-- 'bindlelaw14.ViewTrees', WHERE WHAT IT READS IS OF BULK AT MOST 1048576: true; the input reads as it did. -/
def viewTreesUptoRow : OpenClaim := { program := "ytagdlbadkmgdmaadoor", sum := "c52d5c314b7cb40f5fae6d22b74ab2ca59337825f2c96ab198ab921f74d2849b", func := "bindle/bindlelaw14.ViewTrees", spec := "viewTrees", unfollowed := true, recurses := true, named := ["internal/strconv.uint64pow10", "math/bits.deBruijn32tab", "math/bits.deBruijn64tab"], apart := false, laid := [("math/bits.deBruijn32tab", laid_math_bits_deBruijn32tab), ("math/bits.deBruijn64tab", laid_math_bits_deBruijn64tab), ("internal/strconv.uint64pow10", laid_internal_strconv_uint64pow10)], narrowed := true }
def ViewTreesUptoSaid : Prop := viewTreesUptoRow.holds Tryd.pinned (OpenSpec.upto viewTreesSpec)

end Rows
end Go.Proofs.YtagdlbadkmgdmaaDoor
