/- The walks of part.room and part.Many, and of the reference's Many. -/
import Derived.Test.YtjnimbhecfpnmaaPart
import Derived.Test.YtjnimbhecfpnmaaFloat
import Derived.Laws.Cover3
namespace Go.Proofs.Ytjnimbhecfpnmaa
set_option maxRecDepth 100000
open Go.ChangeShapes Go.WideShapes Go.ChangeAt Go.RowKit

theorem room_any (n : Int) (h0 : 4096 ≤ n) (h1 : n ≤ 8388608) (w : World) :
    Calls Try.prog 51 #[.int .i64 n] w fun e w' => e = .returned (.complex .f64 (floatOfInt .f64 (n - 80)) 4635329916471083008) ∧ w = w' := by
  have s1 : IntKind.i64.wrap (n - 80) = n - 80 := by rw [IntKind.wrap_i64]; omega
  go_enter Try.func51, Try.ntmps51
  go_wp2_with fail
  go_ret
  exact ⟨rfl, rfl⟩
/-- how much of a part of so many bytes is data -/
def inF (most : Int) : Int := min most 8388608 - 80
/-- how many parts -/
def manyF (size most : Int) : Int := if size < 1 ∨ 4194304 < size ∨ most < 4096 then 0 else (size + inF most - 1) / inF most
theorem conv_back (n : Int) (h0 : 4096 ≤ n) (h1 : n ≤ 8388608) (w : World) : (convert 87 3 (.float .f64 (floatOfInt .f64 (n - 80)))).run Try.prog w = .ok (.int .i64 (n - 80)) w := by
  obtain ⟨m, hm⟩ := Int.eq_ofNat_of_zero_le (show 0 ≤ n - 80 by omega)
  have h := f64_int m (by omega) (by omega)
  rw [hm]
  exact run_convert_float_int w 87 3 .f64 .i64 _ _ (by kernel_rfl) Try.underlying3 h
set_option maxHeartbeats 400000 in
theorem many_any (size most : Int) (w : World) : Calls Try.prog 25 #[.int .i64 size, .int .i64 most] w fun e w' => e = .returned (.int .i64 (manyF size most)) ∧ w = w' := by
  by_cases h1 : size < 1
  · have hm : manyF size most = 0 := by unfold manyF; rw [if_pos (by omega)]
    rw [hm]
    clear hm
    go_enter Try.func25, Try.ntmps25
    go_wp2_with fail
    go_ret
    exact ⟨rfl, rfl⟩
  · by_cases h2 : 4194304 < size
    · have hm : manyF size most = 0 := by unfold manyF; rw [if_pos (by omega)]
      rw [hm]
      clear hm
      go_enter Try.func25, Try.ntmps25
      go_wp2_with fail
      go_ret
      exact ⟨rfl, rfl⟩
    · by_cases h3 : most < 4096
      · have hm : manyF size most = 0 := by unfold manyF; rw [if_pos (by omega)]
        rw [hm]
        clear hm
        go_enter Try.func25, Try.ntmps25
        go_wp2_with fail
        go_ret
        exact ⟨rfl, rfl⟩
      · obtain ⟨k, hk⟩ : ∃ k, k = min most 8388608 := ⟨_, rfl⟩
        have hk1 : 4096 ≤ k := by omega
        have hk2 : k ≤ 8388608 := by omega
        have hm : manyF size most = (size + (k - 80) - 1) / (k - 80) := by unfold manyF inF; rw [if_neg (by omega), hk]
        have hcv := conv_back k hk1 hk2
        have s1 : IntKind.i64.wrap (size + (k - 80)) = size + (k - 80) := by rw [IntKind.wrap_i64]; omega
        have s2 : IntKind.i64.wrap (size + (k - 80) - 1) = size + (k - 80) - 1 := by rw [IntKind.wrap_i64]; omega
        have s3 : ¬ (k - 80) = 0 := by omega
        have s4 : (0 : Int) ≤ size + (k - 80) - 1 := by omega
        have s5 : (0 : Int) ≤ k - 80 := by omega
        have hq : wrap64 ((size + (k - 80) - 1) / (k - 80)) = (size + (k - 80) - 1) / (k - 80) := by
          have h9 : 0 ≤ (size + (k - 80) - 1) / (k - 80) := Int.ediv_nonneg s4 s5
          have h8 : (size + (k - 80) - 1) / (k - 80) ≤ size + (k - 80) - 1 := Int.ediv_le_self _ s4
          unfold wrap64
          omega
        have hro := room_any k hk1 hk2
        have HRO := Lib.hid hro
        rw [hm]
        have HK := Lib.hid (And.intro hk1 hk2)
        clear hm hk1 hk2 hro
        generalize floatOfInt .f64 (k - 80) = fl at *
        by_cases h4 : most ≤ 8388608
        · obtain rfl : k = most := by omega
          clear hk
          go_enter Try.func25, Try.ntmps25
          go_wp2_with fail
          refine (HRO.out _).mono ?_
          rintro e w' ⟨rfl, rfl⟩
          go_wp2_with fail
          go_ret
          exact ⟨by first | rfl | simp [hq], rfl⟩
        · obtain rfl : k = 8388608 := by omega
          clear hk
          go_enter Try.func25, Try.ntmps25
          go_wp2_with fail
          refine (HRO.out _).mono ?_
          rintro e w' ⟨rfl, rfl⟩
          go_wp2_with fail
          go_ret
          exact ⟨by first | rfl | simp [hq], rfl⟩
end Go.Proofs.Ytjnimbhecfpnmaa
