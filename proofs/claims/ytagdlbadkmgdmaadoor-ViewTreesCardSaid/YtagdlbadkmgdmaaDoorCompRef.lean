/- The walk of the reference's Compress. -/
import Derived.Test.YtagdlbadkmgdmaaDoorComp
import Derived.Test.YtagdlbadkmgdmaaDoorSchedRef
namespace Go.Proofs.YtagdlbadkmgdmaaDoor
set_option maxRecDepth 100000
open Go.ChangeShapes Go.WideShapes Go.ChangeAt Go.RowKit

attribute [local go_sem] U_wadd takes comesTo
set_option maxHeartbeats 1000000 in
theorem r2comp_any (h : W8) (l : List Int) (hl : l.length = 64) (hb : Bytes l) (w : World) :
    Calls Tryd.prog 45 #[.agg h.row, .agg (row .u8 l)] w fun e w' => e = .returned (.agg (compF h l).row) ∧ Below w.heap.size w w' := by
  have ha := alloc8
  have ha2 := alloc64
  have HL := Lib.hid hl
  have HB := Lib.hid hb
  clear hl hb
  obtain ⟨a, b, c, d, e, f, g, i⟩ := h
  generalize hres : (compF ⟨a, b, c, d, e, f, g, i⟩ l).row = res
  have HRES := Lib.hid hres
  clear hres
  go_enter Tryd.func45, Tryd.ntmps45
  go_wp2_with (refine wpList_load_row (o := ⟨some 10, _, _, _, _, _⟩) rfl 96 _ rfl _ rfl _ (row .u8 l) _ _ (by exact (blk3 _ _ _ _).2.1) Tryd.underlying96 rfl (by rw [row_size, HL.out]; kernel_rfl) ?_)
  refine (r2sched_any l HL.out HB.out _).mono ?_
  rintro e' w1 ⟨rfl, b1⟩
  have F1 : Hid (w1.heap[w.heap.size]? = some (.cells (W8.row ⟨a, b, c, d, e, f, g, i⟩) 95 (0, 0)) ∧ w1.heap[w.heap.size + 1 + 1]? = some (.cells z8 95 (0, 0)) ∧ Below w.heap.size w w1 ∧ w.heap.size + 1 + 1 < w1.heap.size) :=
    Lib.hid ⟨BC_blk1 b1 (blk3 _ _ _ _).1, BC_blk1 b1 (blk3 _ _ _ _).2.2, BC_below (below3 _ _ _ _) (by rw [size_new, size_new, size_new]; omega) b1, blk_lt (BC_blk1 b1 (blk3 _ _ _ _).2.2)⟩
  clear b1
  have HC : Hid (res = (add8 (rto ⟨a, b, c, d, e, f, g, i⟩ (sched l) 64) ⟨a, b, c, d, e, f, g, i⟩).row) := Lib.hid HRES.out.symm
  have HLS := Lib.hid (sched_len l)
  clear HRES
  generalize sched l = ws at *
  go_wp2_with (refine wpList_store_rowTo (o := ⟨none, .store _ _ _, _, _, _, _⟩) rfl 111 _ _ rfl rfl _ (rowU ws) rfl rfl 111 z64 (by exact heap_alloc_new _ _) (by rw [rowU_size, HLS.out]; kernel_rfl) (by rw [rowU_size, HLS.out]; kernel_rfl) (rowU_one _) ?_; rw [World.setRow_alloc_new])
  refine (r2constants_any _).mono ?_
  rintro e'' w2 ⟨rfl, b2⟩
  have F2 : Hid (w2.heap[w.heap.size]? = some (.cells (W8.row ⟨a, b, c, d, e, f, g, i⟩) 95 (0, 0)) ∧ w2.heap[w.heap.size + 1 + 1]? = some (.cells z8 95 (0, 0)) ∧ w2.heap[w1.heap.size]? = some (.cells (rowU ws) 111 (0, 0)) ∧ Below w.heap.size w w2 ∧ w.heap.size + 1 + 1 < w1.heap.size ∧ w1.heap.size < w2.heap.size) :=
    Lib.hid ⟨BC_blk1 b2 (blk_old F1.out.1 _), BC_blk1 b2 (blk_old F1.out.2.1 _), BC_blk1 b2 (heap_alloc_new _ _), BC_below (F1.out.2.2.1.alloc F1.out.2.2.1.size _) (by rw [size_new]; have := F1.out.2.2.1.size; omega) b2, F1.out.2.2.2, blk_lt (BC_blk1 b2 (heap_alloc_new _ _))⟩
  clear b2 F1
  generalize hg5 : w1.heap.size = g5 at *
  clear hg5
  go_wp2_with (first
    | (refine wpList_store_rowTo (o := ⟨none, .store 111 _ _, _, _, _, _⟩) rfl 111 _ _ rfl rfl _ k64 rfl rfl 111 z64 (by exact heap_alloc_new _ _) (by kernel_rfl) (by kernel_rfl) (by kernel_rfl) ?_; rw [World.setRow_alloc_new])
    | (refine wpList_load_row (o := ⟨some 13, _, _, _, _, _⟩) rfl 95 _ rfl _ rfl _ (W8.row ⟨a, b, c, d, e, f, g, i⟩) _ _ (by exact blk_old F2.out.1 _) Tryd.underlying95 rfl (by rw [W8.row_size]; kernel_rfl) ?_)
    | (refine wpList_store_rowTo (o := ⟨none, .store 95 _ _, _, _, _, _⟩) rfl 95 _ _ rfl rfl _ (W8.row ⟨a, b, c, d, e, f, g, i⟩) rfl rfl 95 z8 (by exact blk_new1 _ _ _) (by rw [W8.row_size]; kernel_rfl) (by rw [W8.row_size]; kernel_rfl) (W8.row_one _) ?_))
  refine abs_world (fun wr => wr.heap[w.heap.size]? = some (.cells (W8.row ⟨a, b, c, d, e, f, g, i⟩) 95 (0, 0)) ∧ wr.heap[w.heap.size + 1 + 1]? = some (.cells z8 95 (0, 0)) ∧ wr.heap[g5]? = some (.cells (rowU ws) 111 (0, 0)) ∧ wr.heap[w2.heap.size]? = some (.cells k64 111 (0, 0)) ∧ wr.heap[w2.heap.size + 1]? = some (.cells (rto ⟨a, b, c, d, e, f, g, i⟩ ws 0).row 95 (0, 0)) ∧ Below w.heap.size w wr) ?_ ?_
  · obtain ⟨p1, p2, p3, p4, p5, p6⟩ := F2.out
    refine ⟨(setRow_other _ _ _ _ (by omega)).trans (blk_old (blk_old p1 _) _), (setRow_other _ _ _ _ (by omega)).trans (blk_old (blk_old p2 _) _), (setRow_other _ _ _ _ (by omega)).trans (blk_old (blk_old p3 _) _), (setRow_other _ _ _ _ (by omega)).trans (blk2 _ _ _).1, setRow_heap _ _ _ _ _ _ (blk2 _ _ _).2, below_row ((p4.alloc p4.size _).alloc (by rw [size_new]; have := p4.size; omega) _) (by have := p4.size; omega) _⟩
  intro wr0 hwr
  have HH := Lib.hid hwr
  clear hwr ha ha2
  have hg5 := F2.out.2.2.2.2.1
  have hg6 := F2.out.2.2.2.2.2
  clear F2
  generalize w2.heap.size = g6 at *
  obtain ⟨wo, rfl⟩ : ∃ wo : World, wo = wr0 := ⟨_, rfl⟩
  go_wp2_with fail
  go_loopw [8] (fun n wr => ∃ k : Nat, k ≤ 64 ∧ n = .int .i64 k ∧ wr.heap[w.heap.size]? = some (.cells (W8.row ⟨a, b, c, d, e, f, g, i⟩) 95 (0, 0)) ∧ wr.heap[w.heap.size + 1 + 1]? = some (.cells z8 95 (0, 0)) ∧ wr.heap[g5]? = some (.cells (rowU ws) 111 (0, 0)) ∧ wr.heap[g6]? = some (.cells k64 111 (0, 0)) ∧ wr.heap[g6 + 1]? = some (.cells (rto ⟨a, b, c, d, e, f, g, i⟩ ws k).row 95 (0, 0)) ∧ Below w.heap.size w wr) (fun n _ => 64 - (intOf n).toNat)
  case atStart => exact ⟨0, by omega, rfl, HH.out.1, HH.out.2.1, HH.out.2.2.1, HH.out.2.2.2.1, HH.out.2.2.2.2.1, HH.out.2.2.2.2.2⟩
  case round =>
    clear HH
    obtain ⟨k, hk, rfl, h1, h2, h3, h4, h5, hbe⟩ := hrel
    by_cases hlt : k < 64
    · have c0 := BC_cell (cell_row h3 k (rowU_get ws k (by rw [HLS.out]; exact hlt)))
      have c1 := BC_cell (cell_row (cs := rowU kn) h4 k (rowU_get kn k hlt))
      have hrow := BC_blk h5
      have HH := Lib.hid (And.intro h1 (And.intro h2 (And.intro h3 (And.intro h4 (And.intro h5 hbe)))))
      have HK : Hid (rto ⟨a, b, c, d, e, f, g, i⟩ ws (k + 1) = roundF (rto ⟨a, b, c, d, e, f, g, i⟩ ws k) (kn.getD k 0) (ws.getD k 0)) := Lib.hid rfl
      clear h1 h2 h3 h4 h5 hbe
      generalize hy : rto ⟨a, b, c, d, e, f, g, i⟩ ws (k + 1) = y at *
      have HKEQ := Lib.hid hy
      clear hy
      generalize rto ⟨a, b, c, d, e, f, g, i⟩ ws k = x8 at *
      generalize ws.getD k 0 = wk at *
      generalize kn.getD k 0 = kk at *
      have hk0 : 0 ≤ (k : Int) := by omega
      have hk1 : (k : Int) < 64 := by omega
      have hS := @BC_all wr
      haveI := BC_inst wr
      go_wp2_with fail
      refine wp_region_head (BC wr) 8 (by kernel_rfl) (by kernel_rfl) (BC_start _) ?_
      simp only [List.take_succ_cons, List.take_zero, List.drop_succ_cons, List.drop_zero]
      repeat (first
        | (refine headG_load_row 95 _ rfl rfl _ rfl _ _ _ _ hrow Tryd.underlying95 rfl (by rw [W8.row_size]; kernel_rfl) ?_)
        | (refine headG_step (fun K hK => ?_)
           go_simp
           first
             | (refine hK _ ?_; clear hK K)
             | (apply Exists.intro
                refine ⟨fun x => ?_, hK _ ?_⟩
                (first
                  | (go_at_call 61; exact BC_call x (r2round_any _ _ _ _)))
                clear hK K)))
      refine headG_nil ?_
      intro w2 hw2
      have HR := Lib.hid (BC_blk1 hw2 HH.out.2.2.2.2.1)
      clear hS hrow c0 c1
      go_wp2_with (refine wpList_store_rowTo rfl 95 _ _ rfl rfl _ (roundF x8 kk wk).row rfl rfl _ _ HR.out (by rw [W8.row_size]; kernel_rfl) (by rw [W8.row_size]; kernel_rfl) (W8.row_one _) ?_)
      go_roundw
      case rel =>
        first
          | exact ⟨k + 1, by omega, by go_num, (setRow_other _ _ _ _ (by omega)).trans (BC_blk1 hw2 HH.out.1), (setRow_other _ _ _ _ (by omega)).trans (BC_blk1 hw2 HH.out.2.1), (setRow_other _ _ _ _ (by omega)).trans (BC_blk1 hw2 HH.out.2.2.1), (setRow_other _ _ _ _ (by omega)).trans (BC_blk1 hw2 HH.out.2.2.2.1), (setRow_heap _ _ _ _ _ _ HR.out).trans (by rw [HKEQ.out, HK.out]), below_row (BC_below HH.out.2.2.2.2.2 HH.out.2.2.2.2.2.size hw2) (by omega) _⟩
          | ((repeat apply Exists.intro); refine ⟨?_, rfl⟩; exact ⟨k + 1, by omega, by go_num, (setRow_other _ _ _ _ (by omega)).trans (BC_blk1 hw2 HH.out.1), (setRow_other _ _ _ _ (by omega)).trans (BC_blk1 hw2 HH.out.2.1), (setRow_other _ _ _ _ (by omega)).trans (BC_blk1 hw2 HH.out.2.2.1), (setRow_other _ _ _ _ (by omega)).trans (BC_blk1 hw2 HH.out.2.2.2.1), (setRow_heap _ _ _ _ _ _ HR.out).trans (by rw [HKEQ.out, HK.out]), below_row (BC_below HH.out.2.2.2.2.2 HH.out.2.2.2.2.2.size hw2) (by omega) _⟩)
      case measure => simp [intOf]; omega
    · obtain rfl : k = 64 := by omega
      generalize rto ⟨a, b, c, d, e, f, g, i⟩ ws 64 = X at *
      have HH := Lib.hid (And.intro h1 (And.intro h2 (And.intro h3 (And.intro h4 (And.intro h5 hbe)))))
      clear h1 h2 h3 h4 h5 hbe
      obtain ⟨wo, rfl⟩ : ∃ wo : World, wo = wr := ⟨_, rfl⟩
      go_wp2_with fail
      go_loopw [9] (fun n wr => ∃ k : Nat, k ≤ 8 ∧ n = .int .i64 k ∧ wr.heap[w.heap.size]? = some (.cells (W8.row ⟨a, b, c, d, e, f, g, i⟩) 95 (0, 0)) ∧ wr.heap[w.heap.size + 1 + 1]? = some (.cells z8 95 (0, 0)) ∧ wr.heap[g5]? = some (.cells (rowU ws) 111 (0, 0)) ∧ wr.heap[g6]? = some (.cells k64 111 (0, 0)) ∧ wr.heap[g6 + 1]? = some (.cells (rowU (addTo X.list (W8.list ⟨a, b, c, d, e, f, g, i⟩) k)) 95 (0, 0)) ∧ Below w.heap.size w wr) (fun n _ => 8 - (intOf n).toNat)
      case atStart => exact ⟨0, by omega, rfl, HH.out.1, HH.out.2.1, HH.out.2.2.1, HH.out.2.2.2.1, HH.out.2.2.2.2.1, HH.out.2.2.2.2.2⟩
      case round =>
        clear HH
        obtain ⟨k, hk, rfl, h1, h2, h3, h4, h5, hbe⟩ := hrel
        by_cases hlt : k < 8
        · have c0 := QC_cell (cell_row h5 k (rowU_get (addTo X.list (W8.list ⟨a, b, c, d, e, f, g, i⟩) k) k (by rw [addTo_len]; exact hlt)))
          have c1 := QC_cell (cell_row (cs := rowU (W8.list ⟨a, b, c, d, e, f, g, i⟩)) h1 k (rowU_get (W8.list ⟨a, b, c, d, e, f, g, i⟩) k hlt))
          have HK : Hid (addTo X.list (W8.list ⟨a, b, c, d, e, f, g, i⟩) (k + 1) = (addTo X.list (W8.list ⟨a, b, c, d, e, f, g, i⟩) k).set k ((addTo X.list (W8.list ⟨a, b, c, d, e, f, g, i⟩) k).getD k 0 + (W8.list ⟨a, b, c, d, e, f, g, i⟩).getD k 0)) := Lib.hid rfl
          have HLEN := Lib.hid (addTo_len X.list (W8.list ⟨a, b, c, d, e, f, g, i⟩) k)
          have HH := Lib.hid (And.intro h1 (And.intro h2 (And.intro h3 (And.intro h4 (And.intro h5 hbe)))))
          clear h1 h2 h3 h4 h5 hbe
          generalize hy : addTo X.list (W8.list ⟨a, b, c, d, e, f, g, i⟩) (k + 1) = y at *
          have HY := Lib.hid hy
          clear hy
          generalize addTo X.list (W8.list ⟨a, b, c, d, e, f, g, i⟩) k = xs at *
          generalize xs.getD k 0 = p0 at *
          generalize (W8.list ⟨a, b, c, d, e, f, g, i⟩).getD k 0 = q0 at *
          have hk0 : 0 ≤ (k : Int) := by omega
          have hk1 : (k : Int) < 8 := by omega
          have hS := @QC_all wr
          haveI := QC_inst wr
          go_wp2_with fail
          refine wp_region_head (QC wr) 9 (by kernel_rfl) (by kernel_rfl) (QC_start _) ?_
          simp only [List.take_succ_cons, List.take_zero, List.drop_succ_cons, List.drop_zero]
          repeat (first
            | (refine headG_step (fun K hK => ?_)
               go_simp
               first
                 | (refine hK _ ?_; clear hK K)))
          refine headG_nil ?_
          intro w2 hw2
          have HR := Lib.hid (QC_blk1 hw2 HH.out.2.2.2.2.1)
          clear hS c0 c1
          go_wp2_with (refine wl_store_int rfl 94 _ _ rfl rfl _ _ _ _ rfl rfl (by kernel_rfl) HR.out (by rw [rowU_size, HLEN.out]; exact hlt) ?_; intro W3 g1 g2 g3; have HG := Lib.hid (And.intro g1 (And.intro g2 g3)); clear g1 g2 g3)
          go_roundw
          case rel =>
            obtain ⟨g1, g2, g3⟩ := HG.out
            rw [rowU_set, ← HK.out, ← HY.out] at g1
            (repeat apply Exists.intro); refine ⟨?_, rfl⟩
            exact ⟨k + 1, by omega, by go_num, (g2 _ (by omega)).trans (QC_blk1 hw2 HH.out.1), (g2 _ (by omega)).trans (QC_blk1 hw2 HH.out.2.1), (g2 _ (by omega)).trans (QC_blk1 hw2 HH.out.2.2.1), (g2 _ (by omega)).trans (QC_blk1 hw2 HH.out.2.2.2.1), g1, g3 _ _ (by omega) (QC_below HH.out.2.2.2.2.2 hw2)⟩
          case measure => simp [intOf]; omega
        · obtain rfl : k = 8 := by omega
          have hr : rowU (addTo X.list (W8.list ⟨a, b, c, d, e, f, g, i⟩) 8) = res := by rw [HC.out, addTo_all, W8.row_eq]
          rw [hr] at h5
          have hsz : res.size = 8 := by rw [HC.out, W8.row_size]
          have HSZ := Lib.hid hsz
          have HONE : Hid (res.all (·.oneCell') = true) := Lib.hid (by rw [HC.out]; exact W8.row_one _)
          clear hr hsz HC
          go_wp2_with (first
            | (refine wpList_load_row rfl 95 _ rfl _ rfl _ res _ _ h5 Tryd.underlying95 rfl (by rw [HSZ.out]; kernel_rfl) ?_)
            | (refine wpList_store_rowTo rfl 95 _ _ rfl rfl _ res rfl rfl _ _ h2 (by rw [HSZ.out]; kernel_rfl) (by rw [HSZ.out]; kernel_rfl) HONE.out ?_))
          exact bodyPost_ret (results_cell_row (p := 4) (by kernel_rfl) _ _ _ _ _ _ _ rfl (setRow_heap _ _ _ _ _ _ h2) Tryd.underlying95 rfl (by rw [HSZ.out]; kernel_rfl)) rfl ⟨rfl, below_row hbe (by omega) _⟩
end Go.Proofs.YtagdlbadkmgdmaaDoor
