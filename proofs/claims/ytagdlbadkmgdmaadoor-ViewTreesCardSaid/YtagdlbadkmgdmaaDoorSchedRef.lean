/- The walk of the reference's Schedule. -/
import Derived.Test.YtagdlbadkmgdmaaDoorSched
import Derived.Test.YtagdlbadkmgdmaaDoorBlockRef
namespace Go.Proofs.YtagdlbadkmgdmaaDoor
set_option maxRecDepth 100000
open Go.ChangeShapes Go.WideShapes Go.ChangeAt Go.RowKit

theorem schedTo_zero (l : List Int) : ∀ t j, t ≤ j → (schedTo l t).getD j 0 = 0
  | 0, j, _ => by
    rw [schedTo, List.getD_eq_getElem?_getD, List.getElem?_replicate]
    split <;> rfl
  | t + 1, j, h => by
    rw [schedTo, List.getD_eq_getElem?_getD, List.getElem?_set_ne (by omega), ← List.getD_eq_getElem?_getD]
    exact schedTo_zero l t j (by omega)
theorem set_same {α : Type} (l : List α) (i : Nat) (z : α) (h : l.getD i z = z) : l.set i z = l := by
  apply List.ext_getElem?
  intro j
  by_cases hj : i = j
  · subst hj
    by_cases hi : i < l.length
    · rw [List.getElem?_set_self hi]
      simp [hi] at h
      simp [hi, h]
    · rw [List.getElem?_eq_none (by simpa using hi), List.getElem?_eq_none (by simpa using hi)]
  · rw [List.getElem?_set_ne hj]
/-- a word of its first i bytes -/
def wpart (l : List Int) (t : Nat) : Nat → BitVec 32
  | 0 => 0
  | i + 1 => 256#32 * wpart l t i + BitVec.ofInt 32 (l.getD (4 * t + i) 0)
theorem wpart_step (x : BitVec 32) {n : Int} (h : 0 ≤ n ∧ n ≤ 255) : IntKind.u32.wrap (IntKind.u32.wrap (256 * U x) + n) = U (256#32 * x + BitVec.ofInt 32 n) := by
  rw [IntKind.wrap_u32', IntKind.wrap_u32']
  unfold U
  rw [BitVec.toNat_add, BitVec.toNat_mul, BitVec.toNat_ofInt]
  have : (256#32).toNat = 256 := rfl
  rw [this]
  omega
theorem wpart_four (l : List Int) (t : Nat) (h : Bytes l) : wpart l t 4 = wordI (l.getD (4 * t) 0) (l.getD (4 * t + 1) 0) (l.getD (4 * t + 2) 0) (l.getD (4 * t + 3) 0) := by
  have h0 := h (4 * t)
  have h1 := h (4 * t + 1)
  have h2 := h (4 * t + 2)
  have h3 := h (4 * t + 3)
  unfold wpart wpart wpart wpart wpart wordI
  rw [Nat.add_zero]
  generalize l.getD (4 * t) 0 = n0 at *
  generalize l.getD (4 * t + 1) 0 = n1 at *
  generalize l.getD (4 * t + 2) 0 = n2 at *
  generalize l.getD (4 * t + 3) 0 = n3 at *
  apply BitVec.eq_of_toNat_eq
  simp only [BitVec.toNat_add, BitVec.toNat_mul, BitVec.toNat_ofInt, BitVec.toNat_ofNat]
  omega
attribute [local go_sem] U_wadd takes comesTo
set_option maxHeartbeats 1500000 in
theorem r2sched_any (l : List Int) (hl : l.length = 64) (hb : Bytes l) (w : World) :
    Calls Tryd.prog 59 #[.agg (row .u8 l)] w fun e w' => e = .returned (.agg (rowU (sched l))) ∧ Below w.heap.size w w' := by
  have ha := alloc64
  have HL := Lib.hid hl
  have HB := Lib.hid hb
  clear hl hb
  go_enter Tryd.func59, Tryd.ntmps59
  go_wp2_with fail
  clear ha
  go_loopw [4] (fun i wr => ∃ k : Nat, k ≤ 16 ∧ i = .int .i64 k ∧ wr.heap[w.heap.size]? = some (.cells (row .u8 l) 96 (0, 0)) ∧ wr.heap[w.heap.size + 1]? = some (.cells z64 111 (0, 0)) ∧
      wr.heap[w.heap.size + 1 + 1]? = some (.cells (rowU (schedTo l k)) 111 (0, 0)) ∧ Below w.heap.size w wr) (fun i _ => 16 - (intOf i).toNat)
  case atStart => exact ⟨0, by omega, rfl, (blk3 _ _ _ _).1, (blk3 _ _ _ _).2.1, (blk3 _ _ _ _).2.2, below3 _ _ _ _⟩
  case round =>
    obtain ⟨k, hk, rfl, h1, h2, h3, hbe⟩ := hrel
    by_cases hlt : k < 16
    · have h3' : wr.heap[w.heap.size + 1 + 1]? = some (.cells (rowU ((schedTo l k).set k (wpart l k 0))) 111 (0, 0)) := by
        rw [h3]; congr 3; exact (set_same _ _ _ (schedTo_zero l k k (Nat.le_refl _))).symm
      have hltI : (k : Int) < 16 := by omega
      have HH := Lib.hid (And.intro h1 (And.intro h2 (And.intro h3' hbe)))
      clear h1 h2 h3 h3' hbe
      obtain ⟨wo, rfl⟩ : ∃ wo : World, wo = wr := ⟨_, rfl⟩
      go_wp2_with fail
      go_loopw [5] (fun i wr => ∃ j : Nat, j ≤ 4 ∧ i = .int .i64 j ∧ wr.heap[w.heap.size]? = some (.cells (row .u8 l) 96 (0, 0)) ∧ wr.heap[w.heap.size + 1]? = some (.cells z64 111 (0, 0)) ∧
          wr.heap[w.heap.size + 1 + 1]? = some (.cells (rowU ((schedTo l k).set k (wpart l k j))) 111 (0, 0)) ∧ Below w.heap.size w wr) (fun i _ => 4 - (intOf i).toNat)
      case atStart => exact ⟨0, by omega, rfl, HH.out.1, HH.out.2.1, HH.out.2.2.1, HH.out.2.2.2⟩
      case round =>
        clear HH
        obtain ⟨j, hj, rfl, h1, h2, h3, hbe⟩ := hrel
        by_cases hlt2 : j < 4
        · have hl := HL.out
          have b0 := HB.out (4 * k + j)
          have c0 := QC_cell (cell_row h1 (4 * k + j) (row_get .u8 l (4 * k + j) (by omega)))
          have hg := rowU_get ((schedTo l k).set k (wpart l k j)) k (by rw [List.length_set, schedTo_len]; omega)
          have hv : ((schedTo l k).set k (wpart l k j)).getD k 0 = wpart l k j := by
            rw [List.getD_eq_getElem?_getD, List.getElem?_set_self (by rw [schedTo_len]; omega)]; rfl
          rw [hv] at hg
          have c1 := QC_cell (cell_row h3 k hg)
          clear hl hg hv
          have HS := Lib.hid (wpart_step (wpart l k j) b0)
          have HW' : Hid (wpart l k (j + 1) = 256#32 * wpart l k j + BitVec.ofInt 32 (l.getD (4 * k + j) 0)) := Lib.hid rfl
          have HH := Lib.hid (And.intro h1 (And.intro h2 (And.intro h3 hbe)))
          clear h1 h2 h3 hbe
          generalize hy : wpart l k (j + 1) = y at *
          have HY := Lib.hid hy
          clear hy
          generalize wpart l k j = x at *
          generalize l.getD (4 * k + j) 0 = n0 at *
          have s0 : IntKind.u32.wrap n0 = n0 := by rw [IntKind.wrap_u32']; omega
          have s1 : IntKind.i64.wrap (4 * (k : Int)) = 4 * (k : Int) := by rw [IntKind.wrap_i64]; omega
          have s2 : IntKind.i64.wrap (4 * (k : Int) + (j : Int)) = 4 * (k : Int) + (j : Int) := by rw [IntKind.wrap_i64]; omega
          have t1 : (4 * (k : Int) + (j : Int)).toNat = 4 * k + j := by omega
          have u1 : 0 ≤ 4 * (k : Int) + (j : Int) := by omega
          have u2 : 4 * (k : Int) + (j : Int) < 64 := by omega
          have u3 : (k : Int) < 64 := by omega
          have hS := @QC_all wr
          haveI := QC_inst wr
          go_wp2_with fail
          refine wp_region_head (QC wr) 14 (by kernel_rfl) (by kernel_rfl) (QC_start _) ?_
          simp only [List.take_succ_cons, List.take_zero, List.drop_succ_cons, List.drop_zero]
          repeat (first
            | (refine headG_step (fun K hK => ?_)
               go_simp
               first
                 | (refine hK _ ?_; clear hK K)))
          refine headG_nil ?_
          intro w1 hw1
          clear hS c0 c1 s0 s1 s2 t1 u1 u2 u3
          have HR := Lib.hid (QC_blk1 hw1 HH.out.2.2.1)
          go_wp2_with (refine wl_store_int rfl 94 _ _ rfl rfl _ _ _ _ rfl rfl (by kernel_rfl) HR.out (by rw [rowU_size, List.length_set, schedTo_len]; omega) ?_; intro W3 g1 g2 g3; have HG := Lib.hid (And.intro g1 (And.intro g2 g3)); clear g1 g2 g3)
          go_roundw
          case rel =>
            obtain ⟨g1, g2, g3⟩ := HG.out
            rw [HS.out, rowU_set, List.set_set, ← HW'.out, ← HY.out] at g1
            exact ⟨j + 1, by omega, by go_num, (g2 _ (by omega)).trans (QC_blk1 hw1 HH.out.1), (g2 _ (by omega)).trans (QC_blk1 hw1 HH.out.2.1), g1, g3 _ _ (by omega) (QC_below HH.out.2.2.2 hw1)⟩
          case measure => simp [intOf]; omega
        · obtain rfl : j = 4 := by omega
          have h3' : wr.heap[w.heap.size + 1 + 1]? = some (.cells (rowU (schedTo l (k + 1))) 111 (0, 0)) := by
            rw [h3]; congr 3; rw [schedTo, wpart_four l k HB.out]; unfold nextW; rw [if_pos hlt]
          clear h3
          go_wp2_with fail
          go_roundw
          case rel => exact ⟨k + 1, by omega, by go_num, h1, h2, h3', hbe⟩
          case measure => simp [intOf]; omega
    · obtain rfl : k = 16 := by omega
      have HH := Lib.hid (And.intro h1 (And.intro h2 (And.intro h3 hbe)))
      clear h1 h2 h3 hbe
      obtain ⟨wo, rfl⟩ : ∃ wo : World, wo = wr := ⟨_, rfl⟩
      go_wp2_with fail
      go_loopw [6] (fun i wr => ∃ k : Nat, 16 ≤ k ∧ k ≤ 64 ∧ i = .int .i64 k ∧ wr.heap[w.heap.size]? = some (.cells (row .u8 l) 96 (0, 0)) ∧ wr.heap[w.heap.size + 1]? = some (.cells z64 111 (0, 0)) ∧
          wr.heap[w.heap.size + 1 + 1]? = some (.cells (rowU (schedTo l k)) 111 (0, 0)) ∧ Below w.heap.size w wr) (fun i _ => 64 - (intOf i).toNat)
      case atStart => exact ⟨16, by omega, by omega, rfl, HH.out.1, HH.out.2.1, HH.out.2.2.1, HH.out.2.2.2⟩
      case round =>
        clear HH
        obtain ⟨k, h16', hk, rfl, h1, h2, h3, hbe⟩ := hrel
        by_cases hlt : k < 64
        · have hk0 := schedTo_len l k
          have c0 := QC_cell (cell_row h3 (k - 2) (rowU_get (schedTo l k) (k - 2) (by omega)))
          have c1 := QC_cell (cell_row h3 (k - 7) (rowU_get (schedTo l k) (k - 7) (by omega)))
          have c2 := QC_cell (cell_row h3 (k - 15) (rowU_get (schedTo l k) (k - 15) (by omega)))
          have c3 := QC_cell (cell_row h3 (k - 16) (rowU_get (schedTo l k) (k - 16) (by omega)))
          clear hk0
          have HH := Lib.hid (And.intro h1 (And.intro h2 (And.intro h3 hbe)))
          have HN : Hid (nextW l (schedTo l k) k = small1 ((schedTo l k).getD (k - 2) 0) + (schedTo l k).getD (k - 7) 0 + small0 ((schedTo l k).getD (k - 15) 0) + (schedTo l k).getD (k - 16) 0) := Lib.hid (by unfold nextW; rw [if_neg (by omega)])
          clear h1 h2 h3 hbe
          generalize (schedTo l k).getD (k - 2) 0 = n0 at *
          generalize (schedTo l k).getD (k - 7) 0 = n1 at *
          generalize (schedTo l k).getD (k - 15) 0 = n2 at *
          generalize (schedTo l k).getD (k - 16) 0 = n3 at *
          have s2 : IntKind.i64.wrap ((k : Int) - 2) = (k : Int) - 2 := by rw [IntKind.wrap_i64]; omega
          have s7 : IntKind.i64.wrap ((k : Int) - 7) = (k : Int) - 7 := by rw [IntKind.wrap_i64]; omega
          have s15 : IntKind.i64.wrap ((k : Int) - 15) = (k : Int) - 15 := by rw [IntKind.wrap_i64]; omega
          have s16 : IntKind.i64.wrap ((k : Int) - 16) = (k : Int) - 16 := by rw [IntKind.wrap_i64]; omega
          have u2 : (2 : Int) ≤ (k : Int) := by omega
          have v2 : 0 ≤ (k : Int) - 2 := by omega
          have z2 : (k : Int) - 2 < 64 := by omega
          have u7 : (7 : Int) ≤ (k : Int) := by omega
          have v7 : 0 ≤ (k : Int) - 7 := by omega
          have z7 : (k : Int) - 7 < 64 := by omega
          have u15 : (15 : Int) ≤ (k : Int) := by omega
          have v15 : 0 ≤ (k : Int) - 15 := by omega
          have z15 : (k : Int) - 15 < 64 := by omega
          have u16 : (16 : Int) ≤ (k : Int) := by omega
          have v16 : 0 ≤ (k : Int) - 16 := by omega
          have z16 : (k : Int) - 16 < 64 := by omega
          have t2 : ((k : Int) - 2).toNat = k - 2 := by omega
          have t7 : ((k : Int) - 7).toNat = k - 7 := by omega
          have t15 : ((k : Int) - 15).toNat = k - 15 := by omega
          have t16 : ((k : Int) - 16).toNat = k - 16 := by omega
          have hS := @QC_all wr
          haveI := QC_inst wr
          go_wp2_with fail
          refine wp_region_head (QC wr) 23 (by kernel_rfl) (by kernel_rfl) (QC_start _) ?_
          simp only [List.take_succ_cons, List.take_zero, List.drop_succ_cons, List.drop_zero]
          repeat (first
            | (refine headG_step (fun K hK => ?_)
               go_simp
               first
                 | (refine hK _ ?_; clear hK K)
                 | (apply Exists.intro
                    refine ⟨fun x => ?_, hK _ ?_⟩
                    (first
                      | (go_at_call 74; exact QC_call x (r2small1_any _ _))
                      | (go_at_call 75; exact QC_call x (r2small0_any _ _)))
                    clear hK K)))
          refine headG_nil ?_
          intro w1 hw1
          clear hS c0 c1 c2 c3 s2 s7 s15 s16 t2 t7 t15 t16 u2 u7 u15 u16 v2 v7 v15 v16 z2 z7 z15 z16
          have HR := Lib.hid (QC_blk1 hw1 HH.out.2.2.1)
          go_wp2_with (refine wl_store_int rfl 94 _ _ rfl rfl _ _ _ _ rfl rfl (by kernel_rfl) HR.out (by rw [rowU_size, schedTo_len]; omega) ?_; intro W3 g1 g2 g3; have HG := Lib.hid (And.intro g1 (And.intro g2 g3)); clear g1 g2 g3)
          go_roundw
          case rel =>
            obtain ⟨g1, g2, g3⟩ := HG.out
            (repeat apply Exists.intro); refine ⟨?_, rfl⟩
            refine ⟨k + 1, by omega, by omega, by go_num, (g2 _ (by omega)).trans (QC_blk1 hw1 HH.out.1), (g2 _ (by omega)).trans (QC_blk1 hw1 HH.out.2.1), ?_, g3 _ _ (by omega) (QC_below HH.out.2.2.2 hw1)⟩
            rw [g1, rowU_set, schedTo, HN.out]
          case measure => simp [intOf]; omega
        · obtain rfl : k = 64 := by omega
          have hs : schedTo l 64 = sched l := rfl
          rw [hs] at h3
          have hlen : (rowU (sched l)).size = 64 := by rw [rowU_size, ← hs, schedTo_len]
          clear hs
          go_wp2_with (first | (refine wpList_load_row rfl 111 _ rfl _ rfl _ _ _ _ h3 Tryd.underlying111 rfl (by rw [hlen]; kernel_rfl) ?_) | (refine wpList_store_rowTo rfl 111 _ _ rfl rfl _ _ rfl rfl _ _ h2 (by rw [hlen]; kernel_rfl) (by rw [hlen]; kernel_rfl) (rowU_one _) ?_))
          exact bodyPost_ret (results_cell_row (p := 2) (by kernel_rfl) _ _ _ _ _ _ _ rfl (setRow_heap _ _ _ _ _ _ h2) Tryd.underlying111 rfl (by rw [hlen]; kernel_rfl)) rfl ⟨rfl, below_row hbe (by omega) _⟩
end Go.Proofs.YtagdlbadkmgdmaaDoor
