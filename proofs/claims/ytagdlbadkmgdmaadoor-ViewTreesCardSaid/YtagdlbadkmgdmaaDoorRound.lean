/- The walks of block.Round, and of the reference's Round and Undo. -/
import Derived.Test.YtagdlbadkmgdmaaDoorBitsK
import Derived.Test.YtagdlbadkmgdmaaDoorReg
import Derived.WalkSmall
import Derived.Lib.Hide
namespace Go.Proofs.YtagdlbadkmgdmaaDoor
set_option maxRecDepth 100000
open Go.ChangeShapes Go.WideShapes Go.ChangeAt Go.RowKit

/-- eight words -/
structure W8 where
  a : BitVec 32
  b : BitVec 32
  c : BitVec 32
  d : BitVec 32
  e : BitVec 32
  f : BitVec 32
  g : BitVec 32
  h : BitVec 32
def W8.list (x : W8) : List (BitVec 32) := [x.a, x.b, x.c, x.d, x.e, x.f, x.g, x.h]
def W8.row (x : W8) : Array Value := #[.int .u32 (U x.a), .int .u32 (U x.b), .int .u32 (U x.c), .int .u32 (U x.d), .int .u32 (U x.e), .int .u32 (U x.f), .int .u32 (U x.g), .int .u32 (U x.h)]
theorem W8.row_eq (x : W8) : x.row = rowU x.list := rfl
theorem W8.row_one (x : W8) : x.row.all (·.oneCell') = true := rowU_one x.list
theorem W8.row_size (x : W8) : x.row.size = 8 := rfl
theorem W8.of_list {l : List (BitVec 32)} (h : l.length = 8) : ∃ x : W8, l = x.list := by
  match l, h with
  | [a, b, c, d, e, f, g, i], _ => exact ⟨⟨a, b, c, d, e, f, g, i⟩, rfl⟩
def one (x : W8) (k w : BitVec 32) : BitVec 32 := x.h + big1 x.e + ch x.e x.f x.g + k + w
def two (x : W8) : BitVec 32 := big0 x.a + maj x.a x.b x.c
def roundF (x : W8) (k w : BitVec 32) : W8 := ⟨one x k w + two x, x.a, x.b, x.c, x.d + one x k w, x.e, x.f, x.g⟩
attribute [local go_sem] U_wadd takes comesTo
set_option maxHeartbeats 1500000 in
theorem round_any (x : W8) (k v : BitVec 32) (w : World) :
    Calls Tryd.prog 87 #[.agg x.row, .int .u32 (U k), .int .u32 (U v)] w fun e w' => e = .returned (.agg (roundF x k v).row) ∧ Below w.heap.size w w' := by
  obtain ⟨a, b, c, d, e, f, g, h⟩ := x
  have e1 : one ⟨a, b, c, d, e, f, g, h⟩ k v = h + big1 e + ch e f g + k + v := rfl
  have e2 : two ⟨a, b, c, d, e, f, g, h⟩ = big0 a + maj a b c := rfl
  have er : (roundF ⟨a, b, c, d, e, f, g, h⟩ k v).row = #[.int .u32 (U (h + big1 e + ch e f g + k + v + (big0 a + maj a b c))), .int .u32 (U a), .int .u32 (U b), .int .u32 (U c), .int .u32 (U (d + (h + big1 e + ch e f g + k + v))), .int .u32 (U e), .int .u32 (U f), .int .u32 (U g)] := rfl
  rw [er]
  clear e1 e2 er
  have ha := alloc8
  go_enter Tryd.func87, Tryd.ntmps87
  go_wp2_with fail
  clear ha
  refine abs_world (fun W => W.heap[w.heap.size]? = some (.cells (W8.row ⟨a, b, c, d, e, f, g, h⟩) 95 (0, 0)) ∧ W.heap[w.heap.size + 1]? = some (.cells z8 95 (0, 0)) ∧ Below w.heap.size w W) ⟨(blk2 _ _ _).1, (blk2 _ _ _).2, below2 _ _ _⟩ ?_
  intro W1 h1
  have HH := Lib.hid h1
  clear h1
  have c0 := QC_cell (v := .int .u32 (U a)) (cell_row HH.out.1 0 rfl)
  have c1 := QC_cell (v := .int .u32 (U b)) (cell_row HH.out.1 1 rfl)
  have c2 := QC_cell (v := .int .u32 (U c)) (cell_row HH.out.1 2 rfl)
  have c3 := QC_cell (v := .int .u32 (U d)) (cell_row HH.out.1 3 rfl)
  have c4 := QC_cell (v := .int .u32 (U e)) (cell_row HH.out.1 4 rfl)
  have c5 := QC_cell (v := .int .u32 (U f)) (cell_row HH.out.1 5 rfl)
  have c6 := QC_cell (v := .int .u32 (U g)) (cell_row HH.out.1 6 rfl)
  have c7 := QC_cell (v := .int .u32 (U h)) (cell_row HH.out.1 7 rfl)
  have hS := @QC_all W1
  haveI := QC_inst W1
  refine wp_region_head (QC W1) 19 (by kernel_rfl) (by kernel_rfl) (QC_start _) ?_
  simp only [List.take_succ_cons, List.take_zero, List.drop_succ_cons, List.drop_zero]
  repeat (first
    | (refine headG_step (fun K hK => ?_)
       go_simp
       first
         | (refine hK _ ?_; clear hK K)
         | (apply Exists.intro
            refine ⟨fun x => ?_, hK _ ?_⟩
            (first
              | (go_at_call 98; exact QC_call x (big1_any _ _))
              | (go_at_call 99; exact QC_call x (ch_any _ _ _ _)))
            clear hK K)))
  refine headG_nil ?_
  rintro w1 ⟨n1, rfl⟩
  clear c0 c1 c2 c3 c4 c5 c6 c7 hS
  go_wp2_with fail
  refine abs_world (fun W => W.heap[w.heap.size]? = some (.cells (W8.row ⟨a, b, c, d, e, f, g, h⟩) 95 (0, 0)) ∧ W.heap[w.heap.size + 1]? = some (.cells z8 95 (0, 0)) ∧ Below w.heap.size w W) ⟨HH.out.1, HH.out.2.1, below_drewN HH.out.2.2 _⟩ ?_
  clear HH
  intro W1 h1
  have HH := Lib.hid h1
  clear h1
  have c0 := QC_cell (v := .int .u32 (U a)) (cell_row HH.out.1 0 rfl)
  have c1 := QC_cell (v := .int .u32 (U b)) (cell_row HH.out.1 1 rfl)
  have c2 := QC_cell (v := .int .u32 (U c)) (cell_row HH.out.1 2 rfl)
  have hS := @QC_all W1
  haveI := QC_inst W1
  refine wp_region_head (QC W1) 12 (by kernel_rfl) (by kernel_rfl) (QC_start _) ?_
  simp only [List.take_succ_cons, List.take_zero, List.drop_succ_cons, List.drop_zero]
  repeat (first
    | (refine headG_step (fun K hK => ?_)
       go_simp
       first
         | (refine hK _ ?_; clear hK K)
         | (apply Exists.intro
            refine ⟨fun x => ?_, hK _ ?_⟩
            (first
              | (go_at_call 100; exact QC_call x (big0_any _ _))
              | (go_at_call 101; exact QC_call x (maj_any _ _ _ _)))
            clear hK K)))
  refine headG_nil ?_
  clear c0 c1 c2 hS
  intro W2 hW
  have HH2 := Lib.hid (And.intro (QC_blk1 hW HH.out.1) (And.intro (QC_blk1 hW HH.out.2.1) (QC_below HH.out.2.2 hW)))
  clear HH hW
  have HH := Lib.hid HH2.out
  clear HH2
  have c0 : W2.cell? ⟨w.heap.size, 0, none⟩ = some (.int .u32 (U a)) := cell_row HH.out.1 0 rfl
  have c1 : W2.cell? ⟨w.heap.size, 1, none⟩ = some (.int .u32 (U b)) := cell_row HH.out.1 1 rfl
  have c2 : W2.cell? ⟨w.heap.size, 2, none⟩ = some (.int .u32 (U c)) := cell_row HH.out.1 2 rfl
  have c3 : W2.cell? ⟨w.heap.size, 3, none⟩ = some (.int .u32 (U d)) := cell_row HH.out.1 3 rfl
  have c4 : W2.cell? ⟨w.heap.size, 4, none⟩ = some (.int .u32 (U e)) := cell_row HH.out.1 4 rfl
  have c5 : W2.cell? ⟨w.heap.size, 5, none⟩ = some (.int .u32 (U f)) := cell_row HH.out.1 5 rfl
  have c6 : W2.cell? ⟨w.heap.size, 6, none⟩ = some (.int .u32 (U g)) := cell_row HH.out.1 6 rfl
  have c7 : W2.cell? ⟨w.heap.size, 7, none⟩ = some (.int .u32 (U h)) := cell_row HH.out.1 7 rfl
  have HR := Lib.hid HH.out.1
  have HZ := Lib.hid HH.out.2.1
  have HB := Lib.hid HH.out.2.2
  clear HH
  go_wp2_with (first
    | (refine wl_store_int rfl 94 _ _ rfl rfl _ _ _ _ rfl rfl (by kernel_rfl) HR.out (by first | decide | simp [W8.row]) ?_; intro W3 h1 h2 h3; simp only [W8.row, List.setIfInBounds_toArray, List.set_cons_zero, List.set_cons_succ] at h1; have HZ' := Lib.hid ((h2 _ (by omega)).trans HZ.out); have HB' := Lib.hid (h3 _ _ (by omega) HB.out); clear HR HZ HB h2 h3; have HR := Lib.hid h1; have HZ := HZ'; have HB := HB'; clear h1 HZ' HB')
    | (refine wpList_load_row rfl 95 _ rfl _ rfl _ (roundF ⟨a, b, c, d, e, f, g, h⟩ k v).row _ _ HR.out Tryd.underlying95 rfl (by kernel_rfl) ?_)
    | (refine wpList_store_rowTo rfl 95 _ _ rfl rfl _ (roundF ⟨a, b, c, d, e, f, g, h⟩ k v).row rfl rfl _ _ HZ.out (by rw [W8.row_size]; kernel_rfl) (by rw [W8.row_size]; kernel_rfl) (W8.row_one _) ?_))
  exact bodyPost_ret (results_cell_row (p := 6) (by kernel_rfl) _ _ _ _ _ _ _ rfl (setRow_heap _ _ _ _ _ _ HZ.out) Tryd.underlying95 rfl (by kernel_rfl)) rfl ⟨rfl, below_row HB.out (by omega) _⟩
end Go.Proofs.YtagdlbadkmgdmaaDoor
