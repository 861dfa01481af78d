/- The walks of package bindleref02's words, Round, Undo and Constants. -/
import Derived.Test.YtagdlbadkmgdmaaDoorRound
import Derived.Lib.Hide
namespace Go.Proofs.YtagdlbadkmgdmaaDoor
set_option maxRecDepth 100000
open Go.ChangeShapes Go.WideShapes Go.ChangeAt Go.RowKit

attribute [local go_sem] U_and U_or U_xor U_wadd U_wsub U_not' U_div U_mulp U_div8 U_div1024 takes comesTo
theorem rot2_any (x : BitVec 32) (k : Nat) (hk : k ≤ 32) (w : World) : Calls Tryd.prog 89 #[.int .u32 (U x), .int .u64 (k : Int)] w fun e w' => e = .returned (.int .u32 (U (rot x k))) ∧ w = w' := by
  have h2 : IntKind.u64.wrap (32 - (k : Int)) = ((32 - k : Nat) : Int) := by rw [IntKind.wrap_u64]; omega
  have h3 : (32 : Int) - (k : Int) = ((32 - k : Nat) : Int) := by omega
  have hd : rot x k = x >>> k ||| x <<< (32 - k) := rfl
  rw [hd]
  clear hd
  go_enter Tryd.func89, Tryd.ntmps89
  go_wp2
  go_ret
  exact ⟨rfl, rfl⟩
theorem r2big0_any (x : BitVec 32) (w : World) : Calls Tryd.prog 78 #[.int .u32 (U x)] w fun e w' => e = .returned (.int .u32 (U (big0 x))) ∧ w = w' := by
  have r2 := fun w => rot2_any x 2 (by omega) w
  have r13 := fun w => rot2_any x 13 (by omega) w
  have r22 := fun w => rot2_any x 22 (by omega) w
  go_enter Tryd.func78, Tryd.ntmps78
  go_wp2_with fail
  refine (r2 _).mono ?_
  rintro e w' ⟨rfl, rfl⟩
  go_wp2_with fail
  refine (r13 _).mono ?_
  rintro e w' ⟨rfl, rfl⟩
  go_wp2_with fail
  refine (r22 _).mono ?_
  rintro e w' ⟨rfl, rfl⟩
  go_wp2_with fail
  go_ret
  exact ⟨rfl, rfl⟩
theorem r2big1_any (x : BitVec 32) (w : World) : Calls Tryd.prog 76 #[.int .u32 (U x)] w fun e w' => e = .returned (.int .u32 (U (big1 x))) ∧ w = w' := by
  have r6 := fun w => rot2_any x 6 (by omega) w
  have r11 := fun w => rot2_any x 11 (by omega) w
  have r25 := fun w => rot2_any x 25 (by omega) w
  go_enter Tryd.func76, Tryd.ntmps76
  go_wp2_with fail
  refine (r6 _).mono ?_
  rintro e w' ⟨rfl, rfl⟩
  go_wp2_with fail
  refine (r11 _).mono ?_
  rintro e w' ⟨rfl, rfl⟩
  go_wp2_with fail
  refine (r25 _).mono ?_
  rintro e w' ⟨rfl, rfl⟩
  go_wp2_with fail
  go_ret
  exact ⟨rfl, rfl⟩
theorem r2small0_any (x : BitVec 32) (w : World) : Calls Tryd.prog 75 #[.int .u32 (U x)] w fun e w' => e = .returned (.int .u32 (U (small0 x))) ∧ w = w' := by
  have r7 := fun w => rot2_any x 7 (by omega) w
  have r18 := fun w => rot2_any x 18 (by omega) w
  go_enter Tryd.func75, Tryd.ntmps75
  go_wp2_with fail
  refine (r7 _).mono ?_
  rintro e w' ⟨rfl, rfl⟩
  go_wp2_with fail
  refine (r18 _).mono ?_
  rintro e w' ⟨rfl, rfl⟩
  go_wp2_with fail
  go_ret
  exact ⟨rfl, rfl⟩
theorem r2small1_any (x : BitVec 32) (w : World) : Calls Tryd.prog 74 #[.int .u32 (U x)] w fun e w' => e = .returned (.int .u32 (U (small1 x))) ∧ w = w' := by
  have r17 := fun w => rot2_any x 17 (by omega) w
  have r19 := fun w => rot2_any x 19 (by omega) w
  go_enter Tryd.func74, Tryd.ntmps74
  go_wp2_with fail
  refine (r17 _).mono ?_
  rintro e w' ⟨rfl, rfl⟩
  go_wp2_with fail
  refine (r19 _).mono ?_
  rintro e w' ⟨rfl, rfl⟩
  go_wp2_with fail
  go_ret
  exact ⟨rfl, rfl⟩
theorem ch_or (x y z : BitVec 32) : x &&& y ||| ~~~x &&& z = ch x y z := by
  apply BitVec.eq_of_getLsbD_eq
  intro i hi
  unfold ch
  simp only [BitVec.getLsbD_or, BitVec.getLsbD_xor, BitVec.getLsbD_and, BitVec.getLsbD_not, hi, decide_true, Bool.true_and]
  cases x.getLsbD i <;> cases y.getLsbD i <;> cases z.getLsbD i <;> rfl
theorem maj_or (x y z : BitVec 32) : x &&& y ||| x &&& z ||| y &&& z = maj x y z := by
  apply BitVec.eq_of_getLsbD_eq
  intro i _
  unfold maj
  simp only [BitVec.getLsbD_or, BitVec.getLsbD_xor, BitVec.getLsbD_and]
  cases x.getLsbD i <;> cases y.getLsbD i <;> cases z.getLsbD i <;> rfl
theorem r2ch_any (x y z : BitVec 32) (w : World) : Calls Tryd.prog 77 #[.int .u32 (U x), .int .u32 (U y), .int .u32 (U z)] w fun e w' => e = .returned (.int .u32 (U (ch x y z))) ∧ w = w' := by
  rw [← ch_or]
  go_enter Tryd.func77, Tryd.ntmps77
  go_wp2
  go_ret
  exact ⟨rfl, rfl⟩
theorem r2maj_any (x y z : BitVec 32) (w : World) : Calls Tryd.prog 79 #[.int .u32 (U x), .int .u32 (U y), .int .u32 (U z)] w fun e w' => e = .returned (.int .u32 (U (maj x y z))) ∧ w = w' := by
  rw [← maj_or]
  go_enter Tryd.func79, Tryd.ntmps79
  go_wp2
  go_ret
  exact ⟨rfl, rfl⟩
def undoF (x : W8) (k w : BitVec 32) : W8 :=
  ⟨x.b, x.c, x.d, x.e - (x.a - (big0 x.b + maj x.b x.c x.d)), x.f, x.g, x.h, x.a - (big0 x.b + maj x.b x.c x.d) - big1 x.f - ch x.f x.g x.h - k - w⟩
set_option maxHeartbeats 1500000 in
theorem r2round_any (x : W8) (k v : BitVec 32) (w : World) :
    Calls Tryd.prog 61 #[.agg x.row, .int .u32 (U k), .int .u32 (U v)] w fun e w' => e = .returned (.agg (roundF x k v).row) ∧ Below w.heap.size w w' := by
  obtain ⟨a, b, c, d, e, f, g, h⟩ := x
  have ha := alloc8
  go_enter Tryd.func61, Tryd.ntmps61
  go_wp2_with fail
  clear ha
  refine abs_world (fun W => W.heap[w.heap.size]? = some (.cells (W8.row ⟨a, b, c, d, e, f, g, h⟩) 95 (0, 0)) ∧ W.heap[w.heap.size + 1]? = some (.cells z8 95 (0, 0)) ∧ Below w.heap.size w W) ⟨(blk2 _ _ _).1, (blk2 _ _ _).2, below2 _ _ _⟩ ?_
  intro W1 h1
  have HH := Lib.hid h1
  clear h1
  have c0 := QC_cell (v := .int .u32 (U a)) (cell_row HH.out.1 0 rfl)
  have c1 := QC_cell (v := .int .u32 (U b)) (cell_row HH.out.1 1 rfl)
  have c2 := QC_cell (v := .int .u32 (U c)) (cell_row HH.out.1 2 rfl)
  have c3 := QC_cell (v := .int .u32 (U d)) (cell_row HH.out.1 3 rfl)
  have c4 := QC_cell (v := .int .u32 (U e)) (cell_row HH.out.1 4 rfl)
  have c5 := QC_cell (v := .int .u32 (U f)) (cell_row HH.out.1 5 rfl)
  have c6 := QC_cell (v := .int .u32 (U g)) (cell_row HH.out.1 6 rfl)
  have c7 := QC_cell (v := .int .u32 (U h)) (cell_row HH.out.1 7 rfl)
  have hS := @QC_all W1
  haveI := QC_inst W1
  refine wp_region_head (QC W1) 19 (by kernel_rfl) (by kernel_rfl) (QC_start _) ?_
  simp only [List.take_succ_cons, List.take_zero, List.drop_succ_cons, List.drop_zero]
  repeat (first
    | (refine headG_step (fun K hK => ?_)
       go_simp
       first
         | (refine hK _ ?_; clear hK K)
         | (apply Exists.intro
            refine ⟨fun x => ?_, hK _ ?_⟩
            (first
              | (go_at_call 76; exact QC_call x (r2big1_any _ _))
              | (go_at_call 77; exact QC_call x (r2ch_any _ _ _ _)))
            clear hK K)))
  refine headG_nil ?_
  clear c0 c1 c2 c3 c4 c5 c6 c7
  clear hS
  intro W2 hW
  have HH2 := Lib.hid (And.intro (QC_blk1 hW HH.out.1) (And.intro (QC_blk1 hW HH.out.2.1) (QC_below HH.out.2.2 hW)))
  clear HH hW
  have HH := Lib.hid HH2.out
  clear HH2
  go_wp2_with fail
  have c0 := QC_cell (v := .int .u32 (U a)) (cell_row HH.out.1 0 rfl)
  have c1 := QC_cell (v := .int .u32 (U b)) (cell_row HH.out.1 1 rfl)
  have c2 := QC_cell (v := .int .u32 (U c)) (cell_row HH.out.1 2 rfl)
  have hS := @QC_all W2
  haveI := QC_inst W2
  refine wp_region_head (QC W2) 12 (by kernel_rfl) (by kernel_rfl) (QC_start _) ?_
  simp only [List.take_succ_cons, List.take_zero, List.drop_succ_cons, List.drop_zero]
  repeat (first
    | (refine headG_step (fun K hK => ?_)
       go_simp
       first
         | (refine hK _ ?_; clear hK K)
         | (apply Exists.intro
            refine ⟨fun x => ?_, hK _ ?_⟩
            (first
              | (go_at_call 78; exact QC_call x (r2big0_any _ _))
              | (go_at_call 79; exact QC_call x (r2maj_any _ _ _ _)))
            clear hK K)))
  refine headG_nil ?_
  clear c0 c1 c2
  clear hS
  intro W3 hW
  have HH2 := Lib.hid (And.intro (QC_blk1 hW HH.out.1) (And.intro (QC_blk1 hW HH.out.2.1) (QC_below HH.out.2.2 hW)))
  clear HH hW
  have HH := Lib.hid HH2.out
  clear HH2
  have c0 : W3.cell? ⟨w.heap.size, 0, none⟩ = some (.int .u32 (U a)) := cell_row HH.out.1 0 rfl
  have c1 : W3.cell? ⟨w.heap.size, 1, none⟩ = some (.int .u32 (U b)) := cell_row HH.out.1 1 rfl
  have c2 : W3.cell? ⟨w.heap.size, 2, none⟩ = some (.int .u32 (U c)) := cell_row HH.out.1 2 rfl
  have c3 : W3.cell? ⟨w.heap.size, 3, none⟩ = some (.int .u32 (U d)) := cell_row HH.out.1 3 rfl
  have c4 : W3.cell? ⟨w.heap.size, 4, none⟩ = some (.int .u32 (U e)) := cell_row HH.out.1 4 rfl
  have c5 : W3.cell? ⟨w.heap.size, 5, none⟩ = some (.int .u32 (U f)) := cell_row HH.out.1 5 rfl
  have c6 : W3.cell? ⟨w.heap.size, 6, none⟩ = some (.int .u32 (U g)) := cell_row HH.out.1 6 rfl
  have HZ := Lib.hid HH.out.2.1
  have HB := Lib.hid HH.out.2.2
  clear HH
  go_wp2_with (first
    | (refine wpList_buildTo rfl 95 _ rfl _ rfl (roundF ⟨a, b, c, d, e, f, g, h⟩ k v).row rfl ?_)
    | (refine wpList_store_rowTo rfl 95 _ _ rfl rfl _ (roundF ⟨a, b, c, d, e, f, g, h⟩ k v).row rfl rfl _ _ HZ.out (by rw [W8.row_size]; kernel_rfl) (by rw [W8.row_size]; kernel_rfl) (W8.row_one _) ?_))
  exact bodyPost_ret (results_cell_row (p := 6) (by kernel_rfl) _ _ _ _ _ _ _ rfl (setRow_heap _ _ _ _ _ _ HZ.out) Tryd.underlying95 rfl (by rw [W8.row_size]; kernel_rfl)) rfl ⟨rfl, below_row HB.out (by omega) _⟩
set_option maxRecDepth 100000 in
theorem r2constants_any (w : World) : Calls Tryd.prog 60 #[] w fun e w' => e = .returned (.agg k64) ∧ Below w.heap.size w w' := by
  have ha := alloc64
  go_enter Tryd.func60, Tryd.ntmps60
  go_wp2_with (first | (refine wpList_buildTo rfl 111 _ rfl (some 1) rfl k64 (by kernel_rfl) ?_) | (refine wpList_store_rowTo rfl 111 _ _ rfl rfl _ k64 rfl rfl 111 z64 (heap_alloc_new _ _) (by kernel_rfl) (by kernel_rfl) (by kernel_rfl) ?_; rw [World.setRow_alloc_new]))
  exact bodyPost_ret (results_cell_row (p := 0) (by kernel_rfl) _ _ _ _ _ _ _ rfl (heap_alloc_new _ _) Tryd.underlying111 rfl (by kernel_rfl)) rfl ⟨rfl, (Below.refl _ _).alloc (Nat.le_refl _) _⟩
end Go.Proofs.YtagdlbadkmgdmaaDoor
