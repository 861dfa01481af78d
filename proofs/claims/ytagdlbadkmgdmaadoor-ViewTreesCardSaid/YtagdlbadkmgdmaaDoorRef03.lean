/- The walks of bindleref03.Pad and Sum. -/
import Derived.Test.YtagdlbadkmgdmaaDoorPad
import Derived.Test.YtagdlbadkmgdmaaDoorCompRef
namespace Go.Proofs.YtagdlbadkmgdmaaDoor
set_option maxRecDepth 100000
open Go.ChangeShapes Go.WideShapes Go.ChangeAt Go.RowKit

theorem r3pad_out (n : Int) (hn : n < 0 ∨ 1099511627776 < n) (w : World) : Calls Tryd.prog 44 #[.int .i64 n] w fun e w' => e = .returned (.slice none 0 0) ∧ w = w' := by
  rcases hn with hn | hn
  · go_enter Tryd.func44, Tryd.ntmps44
    go_wp2_with fail
    go_ret
    exact ⟨rfl, rfl⟩
  · have h0 : ¬ n < 0 := by omega
    go_enter Tryd.func44, Tryd.ntmps44
    go_wp2_with fail
    go_ret
    exact ⟨rfl, rfl⟩
/-- 128 and j zeros -/
def headZ (j : Nat) : List Int := 128 :: List.replicate j 0
theorem headZ_len (j : Nat) : (headZ j).length = 1 + j := by simp [headZ]; omega
theorem headZ_more (j : Nat) : headZ j ++ [0] = headZ (j + 1) := by simp [headZ, List.replicate_succ']
theorem own_one (w : World) (base : Nat) (hb : base ≤ w.heap.size) (fr : Int) : Own base (w.alloc (.cells #[.int .u8 fr] 5)) (.slice (some ⟨w.heap.size, 0, none⟩) 1 1) [fr] :=
  Own.of_row (l := [fr]) (cap := 1) hb (heap_alloc_new w _) (by unfold maxLen; omega) rfl (Nat.le_refl _) rfl
theorem step256 (M t X : Nat) (hX : X = M / 256 ^ t) (hM : M ≤ 8796093022208) : wrap64 ((X : Int) / 256) = ((M / 256 ^ (t + 1) : Nat) : Int) := by
  have h1 : X ≤ M := by rw [hX]; exact Nat.div_le_self _ _
  have h2 : M / 256 ^ (t + 1) = X / 256 := by rw [Nat.pow_succ, ← Nat.div_div_eq_div_mul, hX]
  rw [h2]
  unfold wrap64
  omega
theorem tail256 (n k t X : Nat) (hX : X = 8 * n / 256 ^ t) (hk : k + t = 7) : ((X : Int) % 256) = tailB n k := by
  have e : 2 ^ (8 * (7 - k)) = 256 ^ t := by rw [show 7 - k = t by omega, Nat.pow_mul]
  unfold tailB
  rw [e, ← hX]
  omega
attribute [local go_sem] takes comesTo
set_option maxHeartbeats 1000000 in
theorem r3pad_in (n : Nat) (hn : n ≤ 1099511627776) (w : World) : Calls Tryd.prog 44 #[.int .i64 (n : Int)] w fun e w' => ∃ v, e = .returned v ∧ Own w.heap.size w' v (padF n) ∧ Below w.heap.size w w' := by
  have HN := Lib.hid hn
  have hn0 : ¬ (n : Int) < 0 := by omega
  clear hn
  go_enter Tryd.func44, Tryd.ntmps44
  generalize hL : (1099511627776 : Int) = L
  have hL2 : ¬ L < (n : Int) := by have := HN.out; omega
  have HL := Lib.hid hL
  clear hL
  go_wp2_with fail
  obtain ⟨z, hz⟩ : ∃ z, z = zerosN n := ⟨_, rfl⟩
  have HZ := Lib.hid (And.intro hz (show z < 64 by unfold zerosN at hz; omega))
  clear hz
  go_loopw [3] (fun v wr => ∃ j : Nat, j ≤ z ∧ Own w.heap.size wr v (headZ j) ∧ Below w.heap.size w wr) (fun v _ => 100 - lenOf v)
  case atStart => exact ⟨0, Nat.zero_le _, own_one w _ (Nat.le_refl _) 128, below1 w _⟩
  case round =>
    obtain ⟨j, hj, hown, hbe⟩ := hrel
    obtain ⟨gv, ⟨a, cap, hv, _⟩, _, _⟩ := hown.slv
    rw [headZ_len] at hv
    obtain ⟨J, hJ⟩ : ∃ J, J = 1 + j := ⟨_, rfl⟩
    rw [← hJ] at hv
    subst hv
    have HO := Lib.hid (And.intro hown hbe)
    obtain ⟨M1, hM1⟩ : ∃ M1, M1 = n + J + 8 := ⟨_, rfl⟩
    have s1 : IntKind.i64.wrap ((n : Int) + (J : Int)) = (n : Int) + (J : Int) := by have := HN.out; have := HZ.out; rw [IntKind.wrap_i64]; omega
    have s2 : IntKind.i64.wrap ((n : Int) + (J : Int) + 8) = (M1 : Int) := by have := HN.out; have := HZ.out; rw [IntKind.wrap_i64]; omega
    clear hown hbe
    by_cases hlt : j < z
    · have hb : ((M1 : Int) % 64 == 0) = false := by
        have := HZ.out
        unfold zerosN at this
        simp
        omega
      have HJ := Lib.hid (And.intro hlt hJ)
      clear hM1 hJ hlt hj
      go_wp2_with ((at_builtin; refine wl_append_b rfl _ _ rfl w.heap.size _ _ rfl (HO.out.1.below (below1 wr _)) _ rfl wr.heap.size 0 [0] (slv_one _) (lies_one _ _ _) (by rw [headZ_len]; have := HJ.out; have := HZ.out; simp; omega) (by rw [size_new]; have := HO.out.2.size; omega) ?_; intro v' w1 hown' hgrow hat))
      have hj := HJ.out
      have hz := HZ.out
      refine ⟨⟨j + 1, by omega, by rw [← headZ_more]; exact hown', (HO.out.2.alloc HO.out.2.size _).grown hgrow (by rw [size_new]; have := HO.out.2.size; omega) (fun k hk => own_block HO.out.1 k hk)⟩, ?_⟩
      obtain ⟨_, hs, _, _⟩ := hown'.slv
      have e1 := hs.len
      rw [List.length_append, headZ_len] at e1
      show 100 - lenOf v' < 100 - J
      rw [e1]
      simp
      omega
    · obtain rfl : j = z := by omega
      obtain ⟨q, hq⟩ : ∃ q, M1 = 64 * q := ⟨M1 / 64, by
        have := HZ.out
        unfold zerosN at this
        omega⟩
      have s2' : IntKind.i64.wrap ((n : Int) + (J : Int) + 8) = 64 * (q : Int) := by rw [s2]; omega
      clear s2 hq
      obtain ⟨M, hM⟩ : ∃ M, M = 8 * n := ⟨_, rfl⟩
      have s3 : IntKind.i64.wrap (8 * (n : Int)) = (M : Int) := by have := HN.out; rw [IntKind.wrap_i64]; omega
      have HM := Lib.hid hM
      have HHD : Hid (headZ j = headF n) := Lib.hid (by unfold headF; rw [← HZ.out.1]; rfl)
      have hMb : (M : Int) < 8796093022209 := by have := HN.out; omega
      have HMB := Lib.hid hMb
      clear hM1 hJ hlt hj hM hMb
      go_wp2_with fail
      go_loopw [3, 5] (fun v i wr => ∃ k : Nat, k ≤ 8 ∧ i = .int .i64 (k : Int) ∧ Own w.heap.size wr v (headF n ++ (tailF n).take k) ∧ Below w.heap.size w wr) (fun _ i _ => 8 - (intOf i).toNat)
      case atStart => exact ⟨0, by omega, rfl, by rw [List.take_zero, List.append_nil, ← HHD.out]; exact HO.out.1, HO.out.2⟩
      case round =>
        clear HO s1 s2' s3
        obtain ⟨k, hk, rfl, hown, hbe⟩ := hrel
        have HO := Lib.hid (And.intro hown hbe)
        clear hown hbe
        by_cases hlt : k < 8
        · have hk8 : (k : Int) < 8 := by omega
          have HK := Lib.hid hlt
          clear hlt hk
          go_wp2_with fail
          go_loopw [6, 7] (fun x c wr2 => ∃ t : Nat, k + t ≤ 7 ∧ x = .int .i64 ((M / 256 ^ t : Nat) : Int) ∧ c = .int .i64 ((k + t : Nat) : Int) ∧ wr2 = wr) (fun _ c _ => 7 - (intOf c).toNat)
          case atStart => exact ⟨0, by have := HK.out; omega, by simp, rfl, rfl⟩
          case round =>
            obtain ⟨t, ht, rfl, rfl, rfl⟩ := hrel
            obtain ⟨X, hX⟩ : ∃ X, X = M / 256 ^ t := ⟨_, rfl⟩
            obtain ⟨C, hC⟩ : ∃ C, C = k + t := ⟨_, rfl⟩
            rw [← hX, ← hC]
            have HX := Lib.hid (And.intro hX (And.intro hC ht))
            by_cases hlt : C < 7
            · have hc7 : (C : Int) < 7 := by omega
              have hX0 : (0 : Int) ≤ (X : Int) := by omega
              clear hX hC ht hlt
              go_wp2_with fail
              obtain ⟨h1, h2, h3⟩ := HX.out
              have hm := HM.out
              have hn := HN.out
              refine ⟨⟨t + 1, by omega, by rw [step256 M t X h1 (by omega)], by rw [h2]; rfl, trivial⟩, ?_⟩
              simp [intOf]; omega
            · have hc7 : ¬ (C : Int) < 7 := by omega
              have hX0 : (0 : Int) ≤ (X : Int) := by omega
              clear hX hC ht hlt
              go_wp2_with ((at_builtin; refine wl_append_b rfl _ _ rfl w.heap.size _ _ rfl (HO.out.1.below (below1 wr _)) _ rfl wr.heap.size 0 [_] (slv_one _) (lies_one _ _ _) (by rw [List.length_append, headF_len, List.length_take, ← HZ.out.1]; have := HK.out; have := HZ.out; simp; omega) (by rw [size_new]; have := HO.out.2.size; omega) ?_; intro v' w1 hown' hgrow hat))
              obtain ⟨h1, h2, h3⟩ := HX.out
              have hm := HM.out
              have hk := HK.out
              refine ⟨⟨k + 1, by omega, rfl, ?_, (HO.out.2.alloc HO.out.2.size _).grown hgrow (by rw [size_new]; have := HO.out.2.size; omega) (fun k hk => own_block HO.out.1 k hk)⟩, ?_⟩
              · rw [tailF_take n k hk, ← List.append_assoc, ← tail256 n k t X (by rw [h1, hm]) (by omega)]
                exact hown'
              · simp [intOf]; omega
        · obtain rfl : k = 8 := by omega
          go_wp2_with fail
          go_ret
          exact ⟨_, rfl, by rw [padF_head]; exact HO.out.1, HO.out.2⟩
end Go.Proofs.YtagdlbadkmgdmaaDoor
