/- The reference's Many, May and Same of layer 18. -/
import Derived.Test.YtjnimbhecfpnmaaMany
import Derived.Test.YtjnimbhecfpnmaaToldN
import Derived.Test.YtjnimbhecfpnmaaEncode
import Derived.Test.YtjnimbhecfpnmaaEq
namespace Go.Proofs.Ytjnimbhecfpnmaa
set_option maxRecDepth 100000
open Go.ChangeShapes Go.WideShapes Go.ChangeAt Go.RowKit

theorem manyF_ref {size most : Int} (h1 : 1 ≤ size) (h2 : size ≤ 4194304) (h3 : 4096 ≤ most) : manyF size most = (size - 1) / (most - 80) + 1 := by
  unfold manyF inF
  rw [if_neg (by omega)]
  by_cases h : most ≤ 8388608
  · rw [Int.min_eq_left h, show size + (most - 80) - 1 = (size - 1) + 1 * (most - 80) by omega, Int.add_mul_ediv_right _ _ (by omega)]
  · have e1 : (size - 1) / (most - 80) = 0 := Int.ediv_eq_zero_of_lt (by omega) (by omega)
    rw [Int.min_eq_right (by omega), e1]
    omega
set_option maxHeartbeats 400000 in
theorem rmany_any (size most : Int) (hw : 4096 ≤ most → IntKind.i64.wrap (most - 80) = most - 80) (w : World) : Calls Try.prog 26 #[.int .i64 size, .int .i64 most] w fun e w' => e = .returned (.int .i64 (manyF size most)) ∧ w = w' := by
  by_cases h1 : size < 1
  · have hm : manyF size most = 0 := by unfold manyF; rw [if_pos (by omega)]
    rw [hm]
    clear hm hw
    go_enter Try.func26, Try.ntmps26
    go_wp2_with fail
    go_ret
    exact ⟨rfl, rfl⟩
  · by_cases h2 : 4194304 < size
    · have hm : manyF size most = 0 := by unfold manyF; rw [if_pos (by omega)]
      rw [hm]
      clear hm hw
      go_enter Try.func26, Try.ntmps26
      go_wp2_with fail
      go_ret
      exact ⟨rfl, rfl⟩
    · by_cases h3 : most < 4096
      · have hm : manyF size most = 0 := by unfold manyF; rw [if_pos (by omega)]
        rw [hm]
        clear hm hw
        go_enter Try.func26, Try.ntmps26
        go_wp2_with fail
        go_ret
        exact ⟨rfl, rfl⟩
      · have HM := Lib.hid (manyF_ref (size := size) (most := most) (by omega) (by omega) (by omega))
        have hw2 := hw (by omega)
        have s1 : IntKind.i64.wrap (size - 1) = size - 1 := by rw [IntKind.wrap_i64]; omega
        have s3 : ¬ (most - 80) = 0 := by omega
        have s4 : (0 : Int) ≤ size - 1 := by omega
        have s5 : (0 : Int) ≤ most - 80 := by omega
        have hq1 : 0 ≤ (size - 1) / (most - 80) := Int.ediv_nonneg s4 s5
        have hq2 : (size - 1) / (most - 80) ≤ size - 1 := Int.ediv_le_self _ s4
        have hq : IntKind.i64.wrap ((size - 1) / (most - 80)) = (size - 1) / (most - 80) := by rw [IntKind.wrap_i64]; omega
        have hr : IntKind.i64.wrap ((size - 1) / (most - 80) + 1) = (size - 1) / (most - 80) + 1 := by rw [IntKind.wrap_i64]; omega
        rw [HM.out]
        clear hw HM
        go_enter Try.func26, Try.ntmps26
        go_wp2_with fail
        go_ret
        exact ⟨by first | rfl | simp [hq, hr], rfl⟩
set_option maxHeartbeats 1000000 in
theorem rmay_any (wh : List Int) (hw : wh.length = 32) (size at' : Int) (a : Option Addr) (n cap : Nat) (hn : n ≤ maxLen) (w : World) :
    Calls Try.prog 20 #[.agg (pcells wh size at' (.slice a n cap)).toArray] w fun e w' => e = .returned (.bool (mayB size at' n)) ∧ Below w.heap.size w w' := by
  have k0 := pcells_size hw size at' (.slice a n cap)
  have k1 := pcells_at hw size at' (.slice a n cap)
  have k2 := pcells_data hw size at' (.slice a n cap)
  generalize (pcells wh size at' (.slice a n cap)).toArray = C at *
  have c0 : (w.alloc (.cells C 33)).cell? ⟨w.heap.size, 32, none⟩ = some (.int .i64 size) := (cell_new _ _ _ _).trans k0
  have c1 : (w.alloc (.cells C 33)).cell? ⟨w.heap.size, 33, none⟩ = some (.int .i64 at') := (cell_new _ _ _ _).trans k1
  have c2 : (w.alloc (.cells C 33)).cell? ⟨w.heap.size, 34, none⟩ = some (.slice a n cap) := (cell_new _ _ _ _).trans k2
  have HB := Lib.hid (below1 w (.cells C 33))
  have HN := Lib.hid hn
  clear k0 k1 k2 hn
  by_cases h1 : 1 ≤ size
  · by_cases h2 : size ≤ 4194304
    · have s1 : IntKind.i64.wrap (size - (n : Int)) = size - (n : Int) := by have := HN.out; unfold maxLen at this; rw [IntKind.wrap_i64]; omega
      by_cases h3 : 1 ≤ (n : Int)
      · by_cases h4 : 0 ≤ at'
        · by_cases h5 : at' ≤ size - (n : Int)
          · have hm : mayB size at' n = true := by unfold mayB; rw [decide_eq_true_eq]; omega
            rw [hm]
            clear hm
            go_enter Try.func20, Try.ntmps20
            go_wp2_with fail
            go_ret
            exact ⟨rfl, HB.out⟩
          · have hm : mayB size at' n = false := by unfold mayB; rw [decide_eq_false_iff_not]; omega
            rw [hm]
            clear hm
            go_enter Try.func20, Try.ntmps20
            go_wp2_with fail
            go_ret
            exact ⟨rfl, HB.out⟩
        · have hm : mayB size at' n = false := by unfold mayB; rw [decide_eq_false_iff_not]; omega
          rw [hm]
          clear hm
          go_enter Try.func20, Try.ntmps20
          go_wp2_with fail
          go_ret
          exact ⟨rfl, HB.out⟩
      · have hm : mayB size at' n = false := by unfold mayB; rw [decide_eq_false_iff_not]; omega
        rw [hm]
        clear hm
        go_enter Try.func20, Try.ntmps20
        go_wp2_with fail
        go_ret
        exact ⟨rfl, HB.out⟩
    · have hm : mayB size at' n = false := by unfold mayB; rw [decide_eq_false_iff_not]; omega
      rw [hm]
      clear hm
      go_enter Try.func20, Try.ntmps20
      go_wp2_with fail
      go_ret
      exact ⟨rfl, HB.out⟩
  · have hm : mayB size at' n = false := by unfold mayB; rw [decide_eq_false_iff_not]; omega
    rw [hm]
    clear hm
    go_enter Try.func20, Try.ntmps20
    go_wp2_with fail
    go_ret
    exact ⟨rfl, HB.out⟩
end Go.Proofs.Ytjnimbhecfpnmaa
