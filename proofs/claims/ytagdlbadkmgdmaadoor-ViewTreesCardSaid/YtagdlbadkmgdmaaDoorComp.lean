/- A block's compression: the plain functions, and the walk of block.Compress. -/
import Derived.Test.YtagdlbadkmgdmaaDoorSched
namespace Go.Proofs.YtagdlbadkmgdmaaDoor
set_option maxRecDepth 100000
open Go.ChangeShapes Go.WideShapes Go.ChangeAt Go.RowKit

/-- the words behind t rounds -/
def rto (h : W8) (ws : List (BitVec 32)) : Nat → W8
  | 0 => h
  | t + 1 => roundF (rto h ws t) (kn.getD t 0) (ws.getD t 0)
def addTo (x h : List (BitVec 32)) : Nat → List (BitVec 32)
  | 0 => x
  | i + 1 => (addTo x h i).set i ((addTo x h i).getD i 0 + h.getD i 0)
def add8 (x h : W8) : W8 := ⟨x.a + h.a, x.b + h.b, x.c + h.c, x.d + h.d, x.e + h.e, x.f + h.f, x.g + h.g, x.h + h.h⟩
/-- eight words behind a block -/
def compF (h : W8) (l : List Int) : W8 := add8 (rto h (sched l) 64) h
theorem addTo_len (x h : List (BitVec 32)) : ∀ i, (addTo x h i).length = x.length
  | 0 => rfl
  | i + 1 => by rw [addTo, List.length_set, addTo_len x h i]
theorem addTo_all (x h : W8) : addTo x.list h.list 8 = (add8 x h).list := rfl
theorem run_index_row {P : Program} (w : World) (t e : TypeId) (n : Nat) (ht : P.underlying t = some (.array n e)) (he : P.underlying e = some (.int .u32)) (hs : P.cellsOf e = 1) (ws : List (BitVec 32)) (hl : ws.length = n) (i : Nat) (hi : i < n) :
    (Instr.index t (.agg (rowU ws)) (.int .i64 (i : Int))).run P w = .ok (.int .u32 (U (ws.getD i 0))) w := by
  have hsz : (sizeOf e).run P w = .ok 1 w := by
    unfold Program.cellsOf at hs
    cases hq : P.info? e with
    | none => simp [hq] at hs
    | some ti =>
      have : ti.size = 1 := by simpa [hq] using hs
      simp [sizeOf, typeInfo, hq, this]
  have hag : (isAgg e).run P w = .ok false w := by
    unfold isAgg
    rw [Sem.run_bind, run_underlying he w]
    rfl
  have hg := rowU_get ws i (by omega)
  have h0 : (0 : Int) ≤ (i : Int) := by omega
  have h1 : (i : Int) < (n : Int) := by omega
  simp [Instr.index, go_sem, run_underlying ht, hsz, hag, hg, h0, part]
  intro hni
  omega
attribute [local go_sem] U_wadd takes comesTo
theorem sched_len (l : List Int) : (sched l).length = 64 := schedTo_len l 64
set_option maxHeartbeats 400000 in
theorem comp_any (h : W8) (l : List Int) (hl : l.length = 64) (hb : Bytes l) (w : World) :
    Calls Tryd.prog 72 #[.agg h.row, .agg (row .u8 l)] w fun e w' => e = .returned (.agg (compF h l).row) ∧ Below w.heap.size w w' := by
  have ha := alloc8
  have HL := Lib.hid hl
  have HB := Lib.hid hb
  clear hl hb
  obtain ⟨a, b, c, d, e, f, g, i⟩ := h
  have hw8 : (W8.row ⟨a, b, c, d, e, f, g, i⟩) = #[.int .u32 (U a), .int .u32 (U b), .int .u32 (U c), .int .u32 (U d), .int .u32 (U e), .int .u32 (U f), .int .u32 (U g), .int .u32 (U i)] := rfl
  rw [hw8]
  clear hw8
  generalize hres : (compF ⟨a, b, c, d, e, f, g, i⟩ l).row = res
  have HRES := Lib.hid hres
  clear hres
  go_enter Tryd.func72, Tryd.ntmps72
  go_wp2_with (refine wpList_load_row (o := ⟨some 10, _, _, _, _, _⟩) rfl 96 _ rfl _ rfl _ (row .u8 l) _ _ (by exact (blk4 _ _ _ _ _).2.1) Tryd.underlying96 rfl (by rw [row_size, HL.out]; kernel_rfl) ?_)
  clear ha
  refine (sched_any l HL.out HB.out _).mono ?_
  rintro e' w1 ⟨rfl, b1⟩
  have HH : Hid (w1.heap[w.heap.size]? = some (.cells (W8.row ⟨a, b, c, d, e, f, g, i⟩) 95 (0, 0)) ∧ w1.heap[w.heap.size + 1 + 1]? = some (.cells z8 95 (0, 0)) ∧ w1.heap[w.heap.size + 1 + 1 + 1]? = some (.cells (rto ⟨a, b, c, d, e, f, g, i⟩ (sched l) 0).row 95 (0, 0)) ∧ Below w.heap.size w w1) :=
    Lib.hid ⟨BC_blk1 b1 (blk4 _ _ _ _ _).1, BC_blk1 b1 (blk4 _ _ _ _ _).2.2.1, BC_blk1 b1 (blk4 _ _ _ _ _).2.2.2, BC_below (below4 _ _ _ _ _) (by rw [size_new, size_new, size_new, size_new]; omega) b1⟩
  clear b1
  have hix : ∀ (k : Nat) (w : World), k < 64 → (Instr.index 111 (.agg (rowU (sched l))) (.int .i64 (k : Int))).run Tryd.prog w = .ok (.int .u32 (U ((sched l).getD k 0))) w :=
    fun k w hk => run_index_row w _ _ 64 Tryd.underlying111 Tryd.underlying94 (by kernel_rfl) _ (sched_len l) k hk
  have HIX := Lib.hid hix
  clear hix
  have HC : Hid (res = (add8 (rto ⟨a, b, c, d, e, f, g, i⟩ (sched l) 64) ⟨a, b, c, d, e, f, g, i⟩).row) := Lib.hid HRES.out.symm
  clear HRES
  generalize sched l = ws at *
  obtain ⟨wo, rfl⟩ : ∃ wo : World, wo = w1 := ⟨_, rfl⟩
  go_wp2_with fail
  go_loopw [12] (fun n wr => ∃ k : Nat, k ≤ 64 ∧ n = .int .i64 k ∧ wr.heap[w.heap.size]? = some (.cells (W8.row ⟨a, b, c, d, e, f, g, i⟩) 95 (0, 0)) ∧ wr.heap[w.heap.size + 1 + 1]? = some (.cells z8 95 (0, 0)) ∧
      wr.heap[w.heap.size + 1 + 1 + 1]? = some (.cells (rto ⟨a, b, c, d, e, f, g, i⟩ ws k).row 95 (0, 0)) ∧ Below w.heap.size w wr) (fun n _ => 64 - (intOf n).toNat)
  case atStart => exact ⟨0, by omega, rfl, HH.out.1, HH.out.2.1, HH.out.2.2.1, HH.out.2.2.2⟩
  case round =>
    clear HH
    obtain ⟨k, hk, rfl, h1, h2, h3, hbe⟩ := hrel
    by_cases hlt : k < 64
    · have hix := HIX.out k
      have hix' : ∀ w, (Instr.index 111 (.agg (rowU ws)) (.int .i64 (k : Int))).run Tryd.prog w = .ok (.int .u32 (U (ws.getD k 0))) w := fun w => hix w hlt
      clear hix
      have HH := Lib.hid (And.intro h1 (And.intro h2 (And.intro h3 hbe)))
      have hrow := BC_blk h3
      have HK : Hid (rto ⟨a, b, c, d, e, f, g, i⟩ ws (k + 1) = roundF (rto ⟨a, b, c, d, e, f, g, i⟩ ws k) (kn.getD k 0) (ws.getD k 0)) := Lib.hid rfl
      clear h1 h2 h3 hbe
      generalize hy : rto ⟨a, b, c, d, e, f, g, i⟩ ws (k + 1) = y at *
      have HKEQ := Lib.hid hy
      clear hy
      generalize rto ⟨a, b, c, d, e, f, g, i⟩ ws k = x8 at *
      generalize ws.getD k 0 = wk at *
      have hkk : ∀ w, Calls Tryd.prog 88 #[.int .i64 k] w fun e w' => e = .returned (.int .u32 (U (kn.getD k 0))) ∧ Below w.heap.size w w' := k_in k hlt
      generalize kn.getD k 0 = kk at *
      have HKK := Lib.hid hkk
      clear hkk
      have hS := @BC_all wr
      haveI := BC_inst wr
      go_wp2_with fail
      refine wp_region_head (BC wr) 5 (by kernel_rfl) (by kernel_rfl) (BC_start _) ?_
      simp only [List.take_succ_cons, List.take_zero, List.drop_succ_cons, List.drop_zero]
      repeat (first
        | (refine headG_load_row 95 _ rfl rfl _ rfl _ _ _ _ hrow Tryd.underlying95 rfl (by rw [W8.row_size]; kernel_rfl) ?_)
        | (refine headG_step (fun K hK => ?_)
           go_simp
           first
             | (refine hK _ ?_; clear hK K)
             | (apply Exists.intro
                refine ⟨fun x => ?_, hK _ ?_⟩
                (first
                  | (go_at_call 88; exact BC_call x (HKK.out _))
                  | (go_at_call 87; exact BC_call x (round_any _ _ _ _)))
                clear hK K)))
      refine headG_nil ?_
      intro w2 hw2
      have HR := Lib.hid (BC_blk1 hw2 HH.out.2.2.1)
      clear hS hrow hix'
      go_wp2_with (refine wpList_store_rowTo rfl 95 _ _ rfl rfl _ (roundF x8 kk wk).row rfl rfl _ _ HR.out (by rw [W8.row_size]; kernel_rfl) (by rw [W8.row_size]; kernel_rfl) (W8.row_one _) ?_)
      go_roundw
      case rel =>
        exact ⟨k + 1, by omega, by go_num, (setRow_other _ _ _ _ (by omega)).trans (BC_blk1 hw2 HH.out.1), (setRow_other _ _ _ _ (by omega)).trans (BC_blk1 hw2 HH.out.2.1), (setRow_heap _ _ _ _ _ _ HR.out).trans (by rw [HKEQ.out, HK.out]), below_row (BC_below HH.out.2.2.2 HH.out.2.2.2.size hw2) (by omega) _⟩
      case measure => simp [intOf]; omega
    · obtain rfl : k = 64 := by omega
      clear HIX
      generalize rto ⟨a, b, c, d, e, f, g, i⟩ ws 64 = X at *
      have HH := Lib.hid (And.intro h1 (And.intro h2 (And.intro h3 hbe)))
      clear h1 h2 h3 hbe
      obtain ⟨wo, rfl⟩ : ∃ wo : World, wo = wr := ⟨_, rfl⟩
      go_wp2_with fail
      go_loopw [22] (fun n wr => ∃ k : Nat, k ≤ 8 ∧ n = .int .i64 k ∧ wr.heap[w.heap.size]? = some (.cells (W8.row ⟨a, b, c, d, e, f, g, i⟩) 95 (0, 0)) ∧ wr.heap[w.heap.size + 1 + 1]? = some (.cells z8 95 (0, 0)) ∧
          wr.heap[w.heap.size + 1 + 1 + 1]? = some (.cells (rowU (addTo X.list (W8.list ⟨a, b, c, d, e, f, g, i⟩) k)) 95 (0, 0)) ∧ Below w.heap.size w wr) (fun n _ => 8 - (intOf n).toNat)
      case atStart => exact ⟨0, by omega, rfl, HH.out.1, HH.out.2.1, HH.out.2.2.1, HH.out.2.2.2⟩
      case round =>
        clear HH
        obtain ⟨k, hk, rfl, h1, h2, h3, hbe⟩ := hrel
        by_cases hlt : k < 8
        · have c0 := QC_cell (cell_row h3 k (rowU_get (addTo X.list (W8.list ⟨a, b, c, d, e, f, g, i⟩) k) k (by rw [addTo_len]; exact hlt)))
          have c1 := QC_cell (cell_row (cs := rowU (W8.list ⟨a, b, c, d, e, f, g, i⟩)) h1 k (rowU_get (W8.list ⟨a, b, c, d, e, f, g, i⟩) k hlt))
          have HK : Hid (addTo X.list (W8.list ⟨a, b, c, d, e, f, g, i⟩) (k + 1) = (addTo X.list (W8.list ⟨a, b, c, d, e, f, g, i⟩) k).set k ((addTo X.list (W8.list ⟨a, b, c, d, e, f, g, i⟩) k).getD k 0 + (W8.list ⟨a, b, c, d, e, f, g, i⟩).getD k 0)) := Lib.hid rfl
          have HLEN := Lib.hid (addTo_len X.list (W8.list ⟨a, b, c, d, e, f, g, i⟩) k)
          have HH := Lib.hid (And.intro h1 (And.intro h2 (And.intro h3 hbe)))
          clear h1 h2 h3 hbe
          generalize hy : addTo X.list (W8.list ⟨a, b, c, d, e, f, g, i⟩) (k + 1) = y at *
          have HY := Lib.hid hy
          clear hy
          generalize addTo X.list (W8.list ⟨a, b, c, d, e, f, g, i⟩) k = xs at *
          generalize xs.getD k 0 = p0 at *
          generalize (W8.list ⟨a, b, c, d, e, f, g, i⟩).getD k 0 = q0 at *
          have hk0 : 0 ≤ (k : Int) := by omega
          have hk1 : (k : Int) < 8 := by omega
          have hS := @QC_all wr
          haveI := QC_inst wr
          go_wp2_with fail
          refine wp_region_head (QC wr) 8 (by kernel_rfl) (by kernel_rfl) (QC_start _) ?_
          simp only [List.take_succ_cons, List.take_zero, List.drop_succ_cons, List.drop_zero]
          repeat (first
            | (refine headG_step (fun K hK => ?_)
               go_simp
               first
                 | (refine hK _ ?_; clear hK K)))
          refine headG_nil ?_
          intro w2 hw2
          have HR := Lib.hid (QC_blk1 hw2 HH.out.2.2.1)
          clear hS c0 c1
          go_wp2_with (refine wl_store_int rfl 94 _ _ rfl rfl _ _ _ _ rfl rfl (by kernel_rfl) HR.out (by rw [rowU_size, HLEN.out]; exact hlt) ?_; intro W3 g1 g2 g3; have HG := Lib.hid (And.intro g1 (And.intro g2 g3)); clear g1 g2 g3)
          go_roundw
          case rel =>
            obtain ⟨g1, g2, g3⟩ := HG.out
            rw [rowU_set, ← HK.out, ← HY.out] at g1
            (repeat apply Exists.intro); refine ⟨?_, rfl⟩
            exact ⟨k + 1, by omega, by go_num, (g2 _ (by omega)).trans (QC_blk1 hw2 HH.out.1), (g2 _ (by omega)).trans (QC_blk1 hw2 HH.out.2.1), g1, g3 _ _ (by omega) (QC_below HH.out.2.2.2 hw2)⟩
          case measure => simp [intOf]; omega
        · obtain rfl : k = 8 := by omega
          have hr : rowU (addTo X.list (W8.list ⟨a, b, c, d, e, f, g, i⟩) 8) = res := by rw [HC.out, addTo_all, W8.row_eq]
          rw [hr] at h3
          have hsz : res.size = 8 := by rw [HC.out, W8.row_size]
          have HSZ := Lib.hid hsz
          have HONE : Hid (res.all (·.oneCell') = true) := Lib.hid (by rw [HC.out]; exact W8.row_one _)
          clear hr hsz HC
          go_wp2_with (first
            | (refine wpList_load_row rfl 95 _ rfl _ rfl _ res _ _ h3 Tryd.underlying95 rfl (by rw [HSZ.out]; kernel_rfl) ?_)
            | (refine wpList_store_rowTo rfl 95 _ _ rfl rfl _ res rfl rfl _ _ h2 (by rw [HSZ.out]; kernel_rfl) (by rw [HSZ.out]; kernel_rfl) HONE.out ?_))
          exact bodyPost_ret (results_cell_row (p := 4) (by kernel_rfl) _ _ _ _ _ _ _ rfl (setRow_heap _ _ _ _ _ _ h2) Tryd.underlying95 rfl (by rw [HSZ.out]; kernel_rfl)) rfl ⟨rfl, below_row hbe (by omega) _⟩
end Go.Proofs.YtagdlbadkmgdmaaDoor
