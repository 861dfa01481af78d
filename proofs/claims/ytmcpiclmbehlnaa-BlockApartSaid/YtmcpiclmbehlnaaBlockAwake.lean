/- bindlelaw02.awake, and what the laws of that package share. -/
import Derived.Test.YtmcpiclmbehlnaaComp
import Derived.Test.YtmcpiclmbehlnaaCompRef
import Derived.Test.YtmcpiclmbehlnaaEq
import Derived.Test.YtmcpiclmbehlnaaOpen
namespace Go.Proofs.Ytmcpiclmbehlnaa
open Go.ChangeShapes Go.WideShapes Go.ChangeAt Go.RowKit

def h2 : Array Value := #[.int .u32 2, .int .u32 0, .int .u32 0, .int .u32 0, .int .u32 2, .int .u32 0, .int .u32 0, .int .u32 0]
def l7 : List Int := (List.replicate 64 0).set 3 7
theorem round_zero (w : World) : Calls Try.prog 38 #[.agg z8, .int .u32 1, .int .u32 1] w fun e w' => e = .returned (.agg h2) ∧ Below w.heap.size w w' := by
  have e : (roundF ⟨0, 0, 0, 0, 0, 0, 0, 0⟩ 1#32 1#32).row = h2 := by kernel_rfl
  rw [← e]
  exact round_any ⟨0, 0, 0, 0, 0, 0, 0, 0⟩ 1#32 1#32 w
theorem l7_bytes : Bytes l7 := by
  intro i
  by_cases h : i < 64
  · have : ∀ j, j < 64 → 0 ≤ l7.getD j 0 ∧ l7.getD j 0 ≤ 255 := by decide +kernel
    exact this i h
  · have h2 : l7.getD i 0 = 0 := by
      have h3 : l7.length = 64 := by kernel_rfl
      simp [List.getD, List.getElem?_eq_none (show l7.length ≤ i by omega)]
    rw [h2]; omega
theorem l7_len : l7.length = 64 := by kernel_rfl
theorem s7_0 : U ((sched l7).getD 0 0) = 7 := by kernel_rfl
theorem s7_16 : U ((sched l7).getD 16 0) = 7 := by kernel_rfl
theorem sched_seven : ∃ w7 : Array Value, w7[0]? = some (.int .u32 7) ∧ w7[16]? = some (.int .u32 7) ∧ w7.size = 64 ∧ w7.all (·.oneCell') = true ∧
    ∀ w : World, Calls Try.prog 35 #[.agg (row .u8 l7)] w fun e w' => e = .returned (.agg w7) ∧ Below w.heap.size w w' := by
  have h0 := s7_0
  have h16 := s7_16
  have h := sched_any l7 l7_len l7_bytes
  have hl := sched_len l7
  generalize sched l7 = ws at *
  exact ⟨rowU ws, by rw [rowU_get ws 0 (by omega), h0], by rw [rowU_get ws 16 (by omega), h16], by rw [rowU_size, hl], rowU_one _, h⟩
set_option maxRecDepth 100000 in
set_option maxHeartbeats 400000 in
theorem awake2_any (w : World) : Calls Try.prog 34 #[] w fun e w' => e = .returned (.bool true) ∧ Below w.heap.size w w' := by
  have ha := alloc8
  have ha2 := alloc64
  have he : ∀ w, (binOp .eql 25 (.agg #[.int .u32 2, .int .u32 0, .int .u32 0, .int .u32 0, .int .u32 2, .int .u32 0, .int .u32 0, .int .u32 0]) (.agg #[.int .u32 2, .int .u32 0, .int .u32 0, .int .u32 0, .int .u32 2, .int .u32 0, .int .u32 0, .int .u32 0])).run Try.prog w = .ok (.bool true) w := fun w => by kernel_rfl
  obtain ⟨w7, w70, w716, w7s, w7o, hsev⟩ := sched_seven
  have HS := Lib.hid (And.intro w7s (And.intro w7o hsev))
  clear w7s w7o hsev
  go_enter Try.func34, Try.ntmps34
  go_wp2_with (refine wpList_buildTo rfl 25 _ rfl (some 3) rfl z8 (by kernel_rfl) ?_)
  refine (round_zero _).mono ?_
  rintro e w1 ⟨rfl, b1⟩
  go_wp2_with (first
    | (refine wpList_store_rowTo (o := ⟨none, .store 25 _ _, _, _, _, _⟩) rfl 25 _ _ rfl rfl _ h2 rfl rfl 25 z8 (by exact heap_alloc_new _ _) (by kernel_rfl) (by kernel_rfl) (by kernel_rfl) ?_; rw [World.setRow_alloc_new])
    | (refine wpList_buildTo rfl 38 _ rfl (some 5) rfl (row .u8 l7) (by kernel_rfl) ?_))
  refine (HS.out.2.2 _).mono ?_
  rintro e w2 ⟨rfl, b2⟩
  have HB := Lib.hid (And.intro b1 b2)
  have hb2 : w2.heap[w1.heap.size]? = some (.cells h2 25 (0, 0)) := BC_blk1 b2 (heap_alloc_new _ _)
  clear b1 b2
  have c0 : (w2.alloc (.cells w7 39)).cell? ⟨w2.heap.size, 0, none⟩ = some (.int .u32 7) := (cell_new _ _ _ _).trans w70
  have c16 : (w2.alloc (.cells w7 39)).cell? ⟨w2.heap.size, 16, none⟩ = some (.int .u32 7) := (cell_new _ _ _ _).trans w716
  clear w70 w716 ha
  have d0 : (w2.alloc (.cells w7 39)).cell? ⟨w1.heap.size, 0, none⟩ = some (.int .u32 2) := cell_row (blk_old hb2 _) 0 rfl
  have d1 : (w2.alloc (.cells w7 39)).cell? ⟨w1.heap.size, 1, none⟩ = some (.int .u32 0) := cell_row (blk_old hb2 _) 1 rfl
  have d2 : (w2.alloc (.cells w7 39)).cell? ⟨w1.heap.size, 2, none⟩ = some (.int .u32 0) := cell_row (blk_old hb2 _) 2 rfl
  have d3 : (w2.alloc (.cells w7 39)).cell? ⟨w1.heap.size, 3, none⟩ = some (.int .u32 0) := cell_row (blk_old hb2 _) 3 rfl
  have d4 : (w2.alloc (.cells w7 39)).cell? ⟨w1.heap.size, 4, none⟩ = some (.int .u32 2) := cell_row (blk_old hb2 _) 4 rfl
  have d5 : (w2.alloc (.cells w7 39)).cell? ⟨w1.heap.size, 5, none⟩ = some (.int .u32 0) := cell_row (blk_old hb2 _) 5 rfl
  have d6 : (w2.alloc (.cells w7 39)).cell? ⟨w1.heap.size, 6, none⟩ = some (.int .u32 0) := cell_row (blk_old hb2 _) 6 rfl
  have d7 : (w2.alloc (.cells w7 39)).cell? ⟨w1.heap.size, 7, none⟩ = some (.int .u32 0) := cell_row (blk_old hb2 _) 7 rfl
  clear hb2
  go_wp2_with (refine wpList_store_rowTo (o := ⟨none, .store 39 _ _, _, _, _, _⟩) rfl 39 _ _ rfl rfl _ w7 rfl rfl 39 z64 (by exact heap_alloc_new _ _) (by rw [HS.out.1]; kernel_rfl) (by rw [HS.out.1]; kernel_rfl) HS.out.2.1 ?_; rw [World.setRow_alloc_new])
  go_ret
  have x := HB.out.1.alloc HB.out.1.size (.cells h2 25)
  have y := BC_below x x.size HB.out.2
  exact ⟨rfl, y.alloc y.size _⟩
/-- == of a row of words with itself -/
theorem eql_row {n : Nat} (t e : TypeId) (ht : Try.prog.underlying t = some (.array n e)) (he : Try.prog.underlying e = some (.int .u32)) (hs : Try.prog.cellsOf e = 1)
    (xs ys : List (BitVec 32)) (hx : xs.length = n) (hy : ys.length = n) (w : World) : (binOp .eql t (.agg (rowU xs)) (.agg (rowU ys))).run Try.prog w = .ok (.bool (decide (xs = ys))) w := by
  unfold rowU
  have h := run_eql_row w t e n .u32 ht he hs (xs.map U) (ys.map U) (by simpa using hx) (by simpa using hy)
  have e2 : decide (xs.map U = ys.map U) = decide (xs = ys) := decide_eq_decide.2 ⟨U_map_inj, fun e => e ▸ rfl⟩
  rw [e2] at h
  exact h
theorem eql8 (x y : W8) (w : World) : (binOp .eql 25 (.agg x.row) (.agg y.row)).run Try.prog w = .ok (.bool (decide (x.list = y.list))) w :=
  by
  rw [W8.row_eq, W8.row_eq]
  exact eql_row (n := 8) _ _ Try.underlying25 Try.underlying23 (by kernel_rfl) x.list y.list rfl rfl w
theorem bytes_of {l : List Int} (h : ∀ x ∈ l, (Lit.int .u8 x).wf = true) : Bytes l := by
  intro i
  by_cases hi : i < l.length
  · have := h _ (List.getElem_mem hi)
    simp [Lit.wf, IntKind.min, IntKind.max, IntKind.signed, IntKind.bits] at this
    simp [List.getD, hi]
    omega
  · simp [List.getD, List.getElem?_eq_none (show l.length ≤ i by omega)]
theorem w8_of {l : List Int} (hl : l.length = 8) (h : ∀ x ∈ l, (Lit.int .u32 x).wf = true) : ∃ x : W8, row .u32 l = x.row := by
  obtain ⟨ws, rfl⟩ := U_list h
  rw [List.length_map] at hl
  obtain ⟨x, rfl⟩ := W8.of_list hl
  exact ⟨x, rfl⟩
end Go.Proofs.Ytmcpiclmbehlnaa
