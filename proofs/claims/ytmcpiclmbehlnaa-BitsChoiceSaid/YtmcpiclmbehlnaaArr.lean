/- Arrays of numbers in memory: a block's cells as a list of numbers; the walk's own rules for a whole array that is stored, loaded, read and written at a place. -/
import Derived.WalkKit
import Derived.ProofKit
import Derived.Below
import Derived.Great.BuildSlice
import Derived.Deep.WholeRow
import Derived.Test.YtmcpiclmbehlnaaWord
namespace Go.Proofs.Ytmcpiclmbehlnaa
open Go.RowKit

/-- the cells of an array (or of a slice's memory) of numbers -/
def row (k : IntKind) (l : List Int) : Array Value := (l.map (Value.int k)).toArray
/-- the cells of an array of words -/
def rowU (l : List (BitVec 32)) : Array Value := row .u32 (l.map U)

theorem row_size (k : IntKind) (l : List Int) : (row k l).size = l.length := by simp [row]
theorem rowU_size (l : List (BitVec 32)) : (rowU l).size = l.length := by simp [rowU, row]
theorem row_get (k : IntKind) (l : List Int) (i : Nat) (h : i < l.length) : (row k l)[i]? = some (.int k (l.getD i 0)) := by
  simp [row, h]
theorem rowU_get (l : List (BitVec 32)) (i : Nat) (h : i < l.length) : (rowU l)[i]? = some (.int .u32 (U (l.getD i 0))) := by
  simp [rowU, row, h]
theorem row_set (k : IntKind) (l : List Int) (i : Nat) (x : Int) : (row k l).setIfInBounds i (.int k x) = row k (l.set i x) := by
  simp [row]
theorem rowU_set (l : List (BitVec 32)) (i : Nat) (x : BitVec 32) : (rowU l).setIfInBounds i (.int .u32 (U x)) = rowU (l.set i x) := by
  simp [rowU, row]
theorem row_one (k : IntKind) (l : List Int) : (row k l).all (·.oneCell') = true := by
  simp [row, Value.oneCell']
theorem rowU_one (l : List (BitVec 32)) : (rowU l).all (·.oneCell') = true := row_one _ _
theorem row_inj {k : IntKind} {l m : List Int} (h : row k l = row k m) : l = m := by
  unfold row at h
  have h2 : l.map (Value.int k) = m.map (Value.int k) := by
    have := congrArg Array.toList h
    simpa using this
  exact List.map_inj_right (fun a b e => by injection e) |>.1 h2
theorem U_map_inj {l m : List (BitVec 32)} (h : l.map U = m.map U) : l = m := List.map_inj_right (fun _ _ e => U_inj e) |>.1 h
theorem rowU_inj {l m : List (BitVec 32)} (h : rowU l = rowU m) : l = m := U_map_inj (row_inj h)

theorem cell_new (w : World) (cs : Array Value) (t : TypeId) (i : Nat) : (w.alloc (.cells cs t)).cell? ⟨w.heap.size, i, none⟩ = cs[i]? :=
  cell_of_row _ _ _ _ _ _ (heap_alloc_new _ _)
theorem frozen_new (w : World) (cs : Array Value) (t : TypeId) (i : Nat) : (w.alloc (.cells cs t)).frozen? ⟨w.heap.size, i, none⟩ = false :=
  frozen_of_row _ _ _ _ _ (heap_alloc_new _ _)
end Go.Proofs.Ytmcpiclmbehlnaa
