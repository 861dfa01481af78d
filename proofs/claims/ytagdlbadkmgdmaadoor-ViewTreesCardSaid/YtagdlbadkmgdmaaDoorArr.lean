/- Arrays of numbers in memory: a block's cells as a list of numbers; the walk's own rules for a whole array that is stored, loaded, read and written at a place. -/
import Derived.WalkKit
import Derived.ProofKit
import Derived.Below
import Derived.Great.BuildSlice
import Derived.Deep.WholeRow
import Derived.Test.YtagdlbadkmgdmaaDoorWord
namespace Go.Proofs.YtagdlbadkmgdmaaDoor
open Go.RowKit

/-- the cells of an array (or of a slice's memory) of numbers -/
def row (k : IntKind) (l : List Int) : Array Value := (l.map (Value.int k)).toArray
/-- the cells of an array of words -/
def rowU (l : List (BitVec 32)) : Array Value := row .u32 (l.map U)

theorem row_size (k : IntKind) (l : List Int) : (row k l).size = l.length := by simp [row]
theorem rowU_size (l : List (BitVec 32)) : (rowU l).size = l.length := by simp [rowU, row]
theorem row_get (k : IntKind) (l : List Int) (i : Nat) (h : i < l.length) : (row k l)[i]? = some (.int k (l.getD i 0)) := by
  simp [row, h]
theorem rowU_get (l : List (BitVec 32)) (i : Nat) (h : i < l.length) : (rowU l)[i]? = some (.int .u32 (U (l.getD i 0))) := by
  simp [rowU, row, h]
theorem row_set (k : IntKind) (l : List Int) (i : Nat) (x : Int) : (row k l).setIfInBounds i (.int k x) = row k (l.set i x) := by
  simp [row]
theorem rowU_set (l : List (BitVec 32)) (i : Nat) (x : BitVec 32) : (rowU l).setIfInBounds i (.int .u32 (U x)) = rowU (l.set i x) := by
  simp [rowU, row]
theorem row_one (k : IntKind) (l : List Int) : (row k l).all (·.oneCell') = true := by
  simp [row, Value.oneCell']
theorem rowU_one (l : List (BitVec 32)) : (rowU l).all (·.oneCell') = true := row_one _ _
theorem row_inj {k : IntKind} {l m : List Int} (h : row k l = row k m) : l = m := by
  unfold row at h
  have h2 : l.map (Value.int k) = m.map (Value.int k) := by
    have := congrArg Array.toList h
    simpa using this
  exact List.map_inj_right (fun a b e => by injection e) |>.1 h2
theorem U_map_inj {l m : List (BitVec 32)} (h : l.map U = m.map U) : l = m := List.map_inj_right (fun _ _ e => U_inj e) |>.1 h
theorem rowU_inj {l m : List (BitVec 32)} (h : rowU l = rowU m) : l = m := U_map_inj (row_inj h)

theorem cell_new (w : World) (cs : Array Value) (t : TypeId) (i : Nat) : (w.alloc (.cells cs t)).cell? ⟨w.heap.size, i, none⟩ = cs[i]? :=
  cell_of_row _ _ _ _ _ _ (heap_alloc_new _ _)
theorem frozen_new (w : World) (cs : Array Value) (t : TypeId) (i : Nat) : (w.alloc (.cells cs t)).frozen? ⟨w.heap.size, i, none⟩ = false :=
  frozen_of_row _ _ _ _ _ (heap_alloc_new _ _)
theorem size_new (w : World) (o : Obj) : (w.alloc o).heap.size = w.heap.size + 1 := by
  show (w.heap.push o).size = _
  simp
theorem blk_lt {w : World} {g : Nat} {x : Obj} (h : w.heap[g]? = some x) : g < w.heap.size := (Array.getElem?_eq_some_iff.1 h).1
theorem blk_old {w : World} {g : Nat} {x : Obj} (h : w.heap[g]? = some x) (o : Obj) : (w.alloc o).heap[g]? = some x := by
  rw [Below.heap_alloc w o g (blk_lt h)]; exact h
theorem blk_new1 (w : World) (A B : Obj) : ((w.alloc A).alloc B).heap[w.heap.size + 1]? = some B := heap_alloc2_new w A B
theorem blk_new2 (w : World) (A B C : Obj) : (((w.alloc A).alloc B).alloc C).heap[w.heap.size + 1 + 1]? = some C := by
  have h := heap_alloc_new ((w.alloc A).alloc B) C
  rwa [size_new, size_new] at h
theorem blk2 (w : World) (A B : Obj) : ((w.alloc A).alloc B).heap[w.heap.size]? = some A ∧ ((w.alloc A).alloc B).heap[w.heap.size + 1]? = some B :=
  ⟨blk_old (heap_alloc_new _ _) _, blk_new1 _ _ _⟩
theorem blk3 (w : World) (A B C : Obj) : (((w.alloc A).alloc B).alloc C).heap[w.heap.size]? = some A ∧ (((w.alloc A).alloc B).alloc C).heap[w.heap.size + 1]? = some B ∧ (((w.alloc A).alloc B).alloc C).heap[w.heap.size + 1 + 1]? = some C :=
  ⟨blk_old (blk_old (heap_alloc_new _ _) _) _, blk_old (blk_new1 _ _ _) _, blk_new2 _ _ _ _⟩
theorem blk_new3 (w : World) (A B C D : Obj) : ((((w.alloc A).alloc B).alloc C).alloc D).heap[w.heap.size + 1 + 1 + 1]? = some D := by
  have h := heap_alloc_new (((w.alloc A).alloc B).alloc C) D
  rwa [size_new, size_new, size_new] at h
theorem blk4 (w : World) (A B C D : Obj) : ((((w.alloc A).alloc B).alloc C).alloc D).heap[w.heap.size]? = some A ∧ ((((w.alloc A).alloc B).alloc C).alloc D).heap[w.heap.size + 1]? = some B ∧ ((((w.alloc A).alloc B).alloc C).alloc D).heap[w.heap.size + 1 + 1]? = some C ∧ ((((w.alloc A).alloc B).alloc C).alloc D).heap[w.heap.size + 1 + 1 + 1]? = some D :=
  ⟨blk_old (blk3 _ _ _ _).1 _, blk_old (blk3 _ _ _ _).2.1 _, blk_old (blk3 _ _ _ _).2.2 _, blk_new3 _ _ _ _ _⟩
theorem below1 (w : World) (A : Obj) : Below w.heap.size w (w.alloc A) := (Below.refl _ _).alloc (Nat.le_refl _) _
theorem below2 (w : World) (A B : Obj) : Below w.heap.size w ((w.alloc A).alloc B) := (below1 w A).alloc (by rw [size_new]; omega) _
theorem below3 (w : World) (A B C : Obj) : Below w.heap.size w (((w.alloc A).alloc B).alloc C) := (below2 w A B).alloc (by rw [size_new, size_new]; omega) _
theorem below4 (w : World) (A B C D : Obj) : Below w.heap.size w ((((w.alloc A).alloc B).alloc C).alloc D) := (below3 w A B C).alloc (by rw [size_new, size_new, size_new]; omega) _
/-- a cell of a block whose cells are known -/
theorem cell_row {w : World} {g : Nat} {cs : Array Value} {t : TypeId} {v : Value} (h : w.heap[g]? = some (.cells cs t (0, 0))) (i : Nat) (hv : cs[i]? = some v) : w.cell? ⟨g, i, none⟩ = some v :=
  (cell_of_row w g i cs t _ h).trans hv
theorem free_row {w : World} {g : Nat} {cs : Array Value} {t : TypeId} (h : w.heap[g]? = some (.cells cs t (0, 0))) (i : Nat) : w.frozen? ⟨g, i, none⟩ = false := frozen_of_row _ _ _ _ _ h
/-- a block of an elder world behind something that changed nothing below B -/
theorem blk_below {B : Nat} {w w' : World} {g : Nat} {x : Obj} (hb : Below B w w') (h : w.heap[g]? = some x) (hg : g < B) : w'.heap[g]? = some x := (hb.block g hg).trans h
theorem blk_far {w : World} {g : Nat} {x : Obj} (h : w.heap[g]? = some x) {a : Addr} (hne : g ≠ a.block) (v : Value) : (w.setCell a v).heap[g]? = some x := (heap_setCell_other w a g v hne).trans h
theorem below_row {B g : Nat} {w0 w : World} (hb : Below B w0 w) (hBg : B ≤ g) (cs : Array Value) : Below B w0 (w.setRow g cs) :=
  hb.trans ⟨rfl, rfl, rfl, by rw [setRow_size]; omega, fun k hk => setRow_other w g k cs (by omega)⟩
end Go.Proofs.YtagdlbadkmgdmaaDoor
