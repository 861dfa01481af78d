/-
  DERIVED. GIVEN WITH THE SEED: THE CARDS: each row of YtagdlbadkmgdmaaDoorRows.lean that lists a variable, with what it lists TIED to the program's text (the seventh form; the later family's looks); each row that meets fmt, with fmt's text TOLD by the authors' own Lean function (tested against real Go, not proved from fmt's source: count such statements apart). THE CARD IS WHAT COUNTS. Prove the row's statement (the work); the ties are given (YtagdlbadkmgdmaaDoorTie.lean); close each card by the builder's one call (the guide's Derived/Test/ToyasCard.lean, 'card_holds'). Laid BY PROGRAM, IN A SANDBOX (cutbox-door.mjs). By AI agents, Wed Nov 11 2026. No macro, syntax, notation, axiom, sorry.
-/
import Derived.Test.YtagdlbadkmgdmaaDoorRows
import GoSem.ClaimSeven
namespace Go.Proofs.YtagdlbadkmgdmaaDoor
namespace Rows

/-- THE TIED CARD OF 'bindlelaw14.ViewAll'. -/
def viewAllCard : Claim7 := { stood := { row := viewAllRow, standIns := [], harness := (true, "840961ed01646c9ae4ce9ce9afe6ea5f8e9be941a0fe4cda68c6a7f07fed008a"), looks := false }, kinds := [], alts := [], laidByText := true, laidKinds := [.data, .data, .data], laidTests := true, laidLooks := .later }
def ViewAllCardSaid : Prop := Claim7.holds Tryd.pinned (.plain (OpenSpec.ofChange viewAllSpec)) viewAllCard

/-- THE TIED CARD OF 'bindlelaw14.ViewRises'. -/
def viewRisesCard : Claim7 := { stood := { row := viewRisesRow, standIns := [], harness := (true, "840961ed01646c9ae4ce9ce9afe6ea5f8e9be941a0fe4cda68c6a7f07fed008a"), looks := false }, kinds := [], alts := [], laidByText := true, laidKinds := [.data, .data, .data], laidTests := true, laidLooks := .later }
def ViewRisesCardSaid : Prop := Claim7.holds Tryd.pinned (.plain (OpenSpec.ofChange viewRisesSpec)) viewRisesCard

/-- THE TIED CARD OF 'bindlelaw14.ViewShows'. -/
def viewShowsCard : Claim7 := { stood := { row := viewShowsRow, standIns := [], harness := (true, "840961ed01646c9ae4ce9ce9afe6ea5f8e9be941a0fe4cda68c6a7f07fed008a"), looks := false }, kinds := [], alts := [], laidByText := true, laidKinds := [.data, .data, .data], laidTests := true, laidLooks := .later }
def ViewShowsCardSaid : Prop := Claim7.holds Tryd.pinned (.plain (OpenSpec.ofChange viewShowsSpec)) viewShowsCard

/-- THE TIED CARD OF 'bindlelaw14.ViewMain'. -/
def viewMainCard : Claim7 := { stood := { row := viewMainRow, standIns := [], harness := (true, "840961ed01646c9ae4ce9ce9afe6ea5f8e9be941a0fe4cda68c6a7f07fed008a"), looks := false }, kinds := [], alts := [], laidByText := true, laidKinds := [.data, .data, .data], laidTests := true, laidLooks := .later }
def ViewMainCardSaid : Prop := Claim7.holds Tryd.pinned (.plain (OpenSpec.ofChange viewMainSpec)) viewMainCard

/-- THE TIED CARD OF 'bindlelaw14.ViewTrees'. -/
def viewTreesCard : Claim7 := { stood := { row := viewTreesRow, standIns := [], harness := (true, "840961ed01646c9ae4ce9ce9afe6ea5f8e9be941a0fe4cda68c6a7f07fed008a"), looks := false }, kinds := [], alts := [], laidByText := true, laidKinds := [.data, .data, .data], laidTests := true, laidLooks := .later }
def ViewTreesCardSaid : Prop := Claim7.holds Tryd.pinned (.plain (OpenSpec.ofChange viewTreesSpec)) viewTreesCard

/-- THE SECOND FORM's CARD OF 'bindlelaw14.ViewAll'. -/
def viewAllUptoCard : Claim7 := { stood := { row := viewAllUptoRow, standIns := [], harness := (true, "840961ed01646c9ae4ce9ce9afe6ea5f8e9be941a0fe4cda68c6a7f07fed008a"), looks := false }, kinds := [], alts := [], laidByText := true, laidKinds := [.data, .data, .data], laidTests := true, laidLooks := .later }
def ViewAllUptoCardSaid : Prop := Claim7.holds Tryd.pinned (.plain (OpenSpec.upto viewAllSpec)) viewAllUptoCard

/-- THE SECOND FORM's CARD OF 'bindlelaw14.ViewRises'. -/
def viewRisesUptoCard : Claim7 := { stood := { row := viewRisesUptoRow, standIns := [], harness := (true, "840961ed01646c9ae4ce9ce9afe6ea5f8e9be941a0fe4cda68c6a7f07fed008a"), looks := false }, kinds := [], alts := [], laidByText := true, laidKinds := [.data, .data, .data], laidTests := true, laidLooks := .later }
def ViewRisesUptoCardSaid : Prop := Claim7.holds Tryd.pinned (.plain (OpenSpec.upto viewRisesSpec)) viewRisesUptoCard

/-- THE SECOND FORM's CARD OF 'bindlelaw14.ViewShows'. -/
def viewShowsUptoCard : Claim7 := { stood := { row := viewShowsUptoRow, standIns := [], harness := (true, "840961ed01646c9ae4ce9ce9afe6ea5f8e9be941a0fe4cda68c6a7f07fed008a"), looks := false }, kinds := [], alts := [], laidByText := true, laidKinds := [.data, .data, .data], laidTests := true, laidLooks := .later }
def ViewShowsUptoCardSaid : Prop := Claim7.holds Tryd.pinned (.plain (OpenSpec.upto viewShowsSpec)) viewShowsUptoCard

/-- THE SECOND FORM's CARD OF 'bindlelaw14.ViewMain'. -/
def viewMainUptoCard : Claim7 := { stood := { row := viewMainUptoRow, standIns := [], harness := (true, "840961ed01646c9ae4ce9ce9afe6ea5f8e9be941a0fe4cda68c6a7f07fed008a"), looks := false }, kinds := [], alts := [], laidByText := true, laidKinds := [.data, .data, .data], laidTests := true, laidLooks := .later }
def ViewMainUptoCardSaid : Prop := Claim7.holds Tryd.pinned (.plain (OpenSpec.upto viewMainSpec)) viewMainUptoCard

/-- THE SECOND FORM's CARD OF 'bindlelaw14.ViewTrees'. -/
def viewTreesUptoCard : Claim7 := { stood := { row := viewTreesUptoRow, standIns := [], harness := (true, "840961ed01646c9ae4ce9ce9afe6ea5f8e9be941a0fe4cda68c6a7f07fed008a"), looks := false }, kinds := [], alts := [], laidByText := true, laidKinds := [.data, .data, .data], laidTests := true, laidLooks := .later }
def ViewTreesUptoCardSaid : Prop := Claim7.holds Tryd.pinned (.plain (OpenSpec.upto viewTreesSpec)) viewTreesUptoCard
end Rows
end Go.Proofs.YtagdlbadkmgdmaaDoor
