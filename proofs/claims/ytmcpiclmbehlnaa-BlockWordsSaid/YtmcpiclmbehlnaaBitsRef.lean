/- The walks of package bindleref01's functions on words: Rot, bit, Ch, Maj, shift and the four Sigmas answer what package bits' do. -/
import Derived.Test.YtmcpiclmbehlnaaBits
import Derived.Lib.Hide
namespace Go.Proofs.Ytmcpiclmbehlnaa
open Go.ChangeShapes Go.WideShapes Go.ChangeAt Go.RowKit

def turn1 (x : BitVec 32) : BitVec 32 := x >>> 1 ||| x <<< 31
def turn : Nat → BitVec 32 → BitVec 32
  | 0, x => x
  | k + 1, x => turn1 (turn k x)
theorem rot_right (x : BitVec 32) (k : Nat) (hk : k < 32) : rot x k = x.rotateRight k := by
  unfold rot
  rw [BitVec.rotateRight_def, Nat.mod_eq_of_lt hk]
theorem right_right (x : BitVec 32) (a b : Nat) : (x.rotateRight a).rotateRight b = x.rotateRight ((a + b) % 32) := by
  apply BitVec.eq_of_getLsbD_eq
  intro i hi
  simp only [BitVec.getLsbD_rotateRight, Bool.cond_decide]
  by_cases h1 : i < 32 - b % 32
  · rw [if_pos h1]
    by_cases h2 : b % 32 + i < 32 - a % 32
    · rw [if_pos h2]
      by_cases h3 : i < 32 - (a + b) % 32 % 32
      · rw [if_pos h3]; congr 1; omega
      · rw [if_neg h3]; simp [hi]; congr 1; omega
    · rw [if_neg h2]
      by_cases h3 : i < 32 - (a + b) % 32 % 32
      · rw [if_pos h3]
        have : b % 32 + i < 32 := by omega
        simp only [this, decide_true, Bool.true_and]; congr 1; omega
      · rw [if_neg h3]
        have : b % 32 + i < 32 := by omega
        simp only [this, hi, decide_true, Bool.true_and]; congr 1; omega
  · rw [if_neg h1]
    simp only [hi, decide_true, Bool.true_and]
    by_cases h2 : i - (32 - b % 32) < 32 - a % 32
    · rw [if_pos h2]
      by_cases h3 : i < 32 - (a + b) % 32 % 32
      · rw [if_pos h3]; congr 1; omega
      · rw [if_neg h3]; congr 1; omega
    · rw [if_neg h2]
      have : i - (32 - b % 32) < 32 := by omega
      simp only [this, decide_true, Bool.true_and]
      by_cases h3 : i < 32 - (a + b) % 32 % 32
      · rw [if_pos h3]; congr 1; omega
      · rw [if_neg h3]; congr 1; omega
theorem turn_right (x : BitVec 32) : ∀ k, k < 32 → turn k x = x.rotateRight k
  | 0, _ => by
    apply BitVec.eq_of_getLsbD_eq
    intro i hi
    simp [turn, hi]
  | k + 1, h => by
    have e : ∀ y, turn1 y = y.rotateRight 1 := fun y => rot_right y 1 (by omega)
    rw [turn, e, turn_right x k (by omega), right_right, Nat.mod_eq_of_lt h]
theorem turn_rot (x : BitVec 32) (k : Nat) (h : k < 32) : turn k x = rot x k := by rw [turn_right x k h, rot_right x k h]

theorem turn_step (y : BitVec 32) : ((U y).tdiv 2 % 4294967296 + (U y).tmod 2 * 2147483648 % 4294967296) % 4294967296 = U (turn1 y) := by
  have h0 := U_nn y
  rw [Int.tdiv_eq_ediv_of_nonneg h0, Int.tmod_eq_emod_of_nonneg h0]
  have e1 : y >>> 1 ||| y <<< 31 = y >>> 1 + y <<< 31 := by
    apply (BitVec.add_eq_or_of_and_eq_zero _ _ _).symm
    apply BitVec.eq_of_getLsbD_eq
    intro i hi
    simp
    intro h _ h2
    have := BitVec.getLsbD_of_ge y (1 + i) (by omega)
    simp [this] at h
  unfold turn1
  rw [e1]
  unfold U at *
  rw [BitVec.toNat_add, BitVec.toNat_ushiftRight, BitVec.toNat_shiftLeft, Nat.shiftRight_eq_div_pow, Nat.shiftLeft_eq]
  have := y.isLt
  omega

theorem refRot_any (x : BitVec 32) (n : Int) (w : World) : Calls Try.prog 21 #[.int .u32 (U x), .int .i64 n] w fun e w' => e = .returned (.int .u32 (U (rot x (n % 32).toNat))) ∧ w = w' := by
  obtain ⟨m, hm, hlt⟩ : ∃ m : Nat, (n % 32).toNat = m ∧ m < 32 := ⟨_, rfl, by omega⟩
  rw [hm, ← turn_rot x m hlt]
  by_cases h0 : n.tmod 32 < 0
  · have h1 : n.tmod 32 + 32 = (m : Int) := by
      have hn : n < 0 := by
        rcases Int.lt_or_le n 0 with h | h
        · exact h
        · rw [Int.tmod_eq_emod_of_nonneg h] at h0; omega
      have : n.tmod 32 = - ((-n) % 32) := by
        have e := Int.neg_tmod (a := -n) (b := 32)
        rw [Int.neg_neg] at e
        rw [e, Int.tmod_eq_emod_of_nonneg (by omega)]
      omega
    have h2 : wrap64 (n.tmod 32 + 32) = (m : Int) := by rw [h1]; unfold wrap64; omega
    clear hm h1
    go_enter Try.func21, Try.ntmps21
    go_wp2
    go_loop [0, 5] (fun t i => ∃ k : Nat, k ≤ m ∧ i = .int .i64 k ∧ t = .int .u32 (U (turn k x))) (fun _ i => m - (intOf i).toNat)
    case atStart => exact ⟨0, by omega, rfl, rfl⟩
    case round =>
      obtain ⟨k, hk, rfl, rfl⟩ := hrel
      by_cases hlt : k < m
      · go_wp2
        go_round
        case rel => exact ⟨k + 1, by omega, by go_num, by rw [turn_step]; rfl⟩
        case measure => simp [intOf]; omega
      · obtain rfl : k = m := by omega
        go_wp2
        go_ret
        exact ⟨rfl, rfl⟩
  · have h1 : n.tmod 32 = (m : Int) := by
      rcases Int.lt_or_le n 0 with h | h
      · have : n.tmod 32 = - ((-n) % 32) := by
          have e := Int.neg_tmod (a := -n) (b := 32)
          rw [Int.neg_neg] at e
          rw [e, Int.tmod_eq_emod_of_nonneg (by omega)]
        omega
      · rw [Int.tmod_eq_emod_of_nonneg h]; omega
    clear hm
    go_enter Try.func21, Try.ntmps21
    go_wp2
    go_loop [0, 5] (fun t i => ∃ k : Nat, k ≤ m ∧ i = .int .i64 k ∧ t = .int .u32 (U (turn k x))) (fun _ i => m - (intOf i).toNat)
    case atStart => exact ⟨0, by omega, rfl, rfl⟩
    case round =>
      obtain ⟨k, hk, rfl, rfl⟩ := hrel
      by_cases hlt : k < m
      · go_wp2
        go_round
        case rel => exact ⟨k + 1, by omega, by go_num, by rw [turn_step]; rfl⟩
        case measure => simp [intOf]; omega
      · obtain rfl : k = m := by omega
        go_wp2
        go_ret
        exact ⟨rfl, rfl⟩
theorem refRot_nat (x : BitVec 32) (k : Nat) (h : k < 32) (w : World) : Calls Try.prog 21 #[.int .u32 (U x), .int .i64 (k : Int)] w fun e w' => e = .returned (.int .u32 (U (rot x k))) ∧ w = w' := by
  have := refRot_any x k w
  have e : ((k : Int) % 32).toNat = k := by omega
  rwa [e] at this

theorem half (y : BitVec 32) : (U y).tdiv (2 : Int) % (4294967296 : Int) = U (y >>> 1) := by
  have h0 := U_nn y
  have h1 := U_lt y
  rw [Int.tdiv_eq_ediv_of_nonneg h0]
  have e := U_div y 1
  have e2 : (2 : Int) ^ 1 = 2 := rfl
  rw [e2] at e
  omega
/-- one bit of a word, as a word -/
def bitw (x : BitVec 32) (m : Nat) : BitVec 32 := (x >>> m) &&& 1#32
theorem low (y : BitVec 32) : (U y).tmod (2 : Int) = U (bitw y 0) := by
  have h0 := U_nn y
  rw [Int.tmod_eq_emod_of_nonneg h0]
  unfold U bitw
  rw [BitVec.toNat_and, BitVec.toNat_ushiftRight, Nat.shiftRight_zero]
  have : (1#32).toNat = 1 := rfl
  rw [this, nat_mask1]
  omega
theorem bitw_shift (x : BitVec 32) (k : Nat) : bitw (x >>> k) 0 = bitw x k := by
  unfold bitw
  simp
theorem shift_step (x : BitVec 32) (k : Nat) : (x >>> k) >>> 1 = x >>> (k + 1) := by
  exact (BitVec.shiftRight_add x k 1).symm
theorem bit_any (x : BitVec 32) (m : Nat) (hm : m < 32) (w : World) : Calls Try.prog 45 #[.int .u32 (U x), .int .i64 m] w fun e w' => e = .returned (.int .u32 (U (bitw x m))) ∧ w = w' := by
  go_enter Try.func45, Try.ntmps45
  go_wp2
  go_loop [0, 5] (fun t i => ∃ k : Nat, k ≤ m ∧ i = .int .i64 k ∧ t = .int .u32 (U (x >>> k))) (fun _ i => m - (intOf i).toNat)
  case atStart => exact ⟨0, by omega, rfl, rfl⟩
  case round =>
    obtain ⟨k, hk, rfl, rfl⟩ := hrel
    by_cases hlt : k < m
    · go_wp2
      go_round
      case rel => exact ⟨k + 1, by omega, by go_num, by rw [half, shift_step]⟩
      case measure => simp [intOf]; omega
    · obtain rfl : k = m := by omega
      have Hl := Lib.hid ((low (x >>> k)).trans (congrArg U (bitw_shift x k)))
      go_wp2
      go_ret
      exact ⟨by rw [← Hl.out]; rfl, rfl⟩
theorem shift_any (x : BitVec 32) (m : Nat) (hm : m < 32) (w : World) : Calls Try.prog 46 #[.int .u32 (U x), .int .i64 m] w fun e w' => e = .returned (.int .u32 (U (x >>> m))) ∧ w = w' := by
  go_enter Try.func46, Try.ntmps46
  go_wp2
  go_loop [0, 5] (fun t i => ∃ k : Nat, k ≤ m ∧ i = .int .i64 k ∧ t = .int .u32 (U (x >>> k))) (fun _ i => m - (intOf i).toNat)
  case atStart => exact ⟨0, by omega, rfl, rfl⟩
  case round =>
    obtain ⟨k, hk, rfl, rfl⟩ := hrel
    by_cases hlt : k < m
    · go_wp2
      go_round
      case rel => exact ⟨k + 1, by omega, by go_num, by rw [half, shift_step]⟩
      case measure => simp [intOf]; omega
    · obtain rfl : k = m := by omega
      go_wp2
      go_ret
      exact ⟨rfl, rfl⟩

theorem bitw_get (x : BitVec 32) (m : Nat) : bitw x m = if x.getLsbD m then 1#32 else 0#32 := by
  apply BitVec.eq_of_getLsbD_eq
  intro i hi
  unfold bitw
  rw [BitVec.getLsbD_and, BitVec.getLsbD_ushiftRight, BitVec.getLsbD_one]
  by_cases h : i = 0
  · subst h
    cases hb : x.getLsbD m <;> simp
  · cases hb : x.getLsbD m <;> simp [h]
theorem bitw_one (x : BitVec 32) (m : Nat) (h : x.getLsbD m = true) : U (bitw x m) = 1 := by rw [bitw_get, h]; rfl
theorem bitw_zero (x : BitVec 32) (m : Nat) (h : x.getLsbD m = false) : U (bitw x m) = 0 := by rw [bitw_get, h]; rfl
/-- a word's upper bits, and the next one -/
theorem join (v : BitVec 32) (j : Nat) : ((2 : Int) * U (v >>> (j + 1)) % (4294967296 : Int) + U (bitw v j)) % (4294967296 : Int) = U (v >>> j) := by
  have e : bitw v j = bitw (v >>> j) 0 := (bitw_shift v j).symm
  rw [e, ← shift_step, ← low]
  have h0 := U_nn (v >>> j)
  have h1 := U_lt (v >>> j)
  rw [Int.tmod_eq_emod_of_nonneg h0, ← half, Int.tdiv_eq_ediv_of_nonneg h0]
  omega
theorem wide (v : BitVec 32) : v >>> 32 = 0#32 := by
  apply BitVec.eq_of_getLsbD_eq
  intro i hi
  rw [BitVec.getLsbD_ushiftRight]
  simp
theorem refCh_any (x y z : BitVec 32) (w : World) : Calls Try.prog 23 #[.int .u32 (U x), .int .u32 (U y), .int .u32 (U z)] w fun e w' => e = .returned (.int .u32 (U (ch x y z))) ∧ w = w' := by
  have hb : ∀ j, j < 32 → (x.getLsbD j = true → bitw y j = bitw (ch x y z) j) ∧ (x.getLsbD j = false → bitw z j = bitw (ch x y z) j) := by
    intro j hj
    rw [bitw_get, bitw_get, bitw_get]
    unfold ch
    simp only [BitVec.getLsbD_xor, BitVec.getLsbD_and, BitVec.getLsbD_not, hj, decide_true, Bool.true_and]
    cases x.getLsbD j <;> simp
  have HB := Lib.hid hb
  clear hb
  generalize ch x y z = v at *
  go_enter Try.func23, Try.ntmps23
  go_wp2
  go_loop [7, 8] (fun t i => ∃ j : Nat, j ≤ 32 ∧ i = .int .i64 ((j : Int) - 1) ∧ t = .int .u32 (U (v >>> j))) (fun _ i => (intOf i + 1).toNat)
  case atStart => exact ⟨32, by omega, rfl, by rw [wide]; rfl⟩
  case round =>
    obtain ⟨j, hj, rfl, rfl⟩ := hrel
    cases j with
    | zero =>
      go_wp2
      go_ret
      exact ⟨by simp, rfl⟩
    | succ j =>
      have e : (((j + 1 : Nat) : Int) - 1) = (j : Int) := by omega
      rw [e]
      clear e
      cases hx : x.getLsbD j with
      | true =>
        have h1 : (U (bitw x j) == 1) = true := by rw [bitw_one x j hx]; rfl
        have HJ := Lib.hid (join v j)
        rw [← (HB.out j (by omega)).1 hx] at HJ
        clear hx
        go_wp2_with (go_at_call 45; refine (bit_any _ _ (by omega) _).mono ?_; rintro e w' ⟨rfl, rfl⟩)
        go_round
        case rel => exact ⟨j, by omega, rfl, by rw [HJ.out]⟩
        case measure => simp [intOf]
      | false =>
        have h1 : (U (bitw x j) == 1) = false := by rw [bitw_zero x j hx]; rfl
        have HJ := Lib.hid (join v j)
        rw [← (HB.out j (by omega)).2 hx] at HJ
        clear hx
        go_wp2_with (go_at_call 45; refine (bit_any _ _ (by omega) _).mono ?_; rintro e w' ⟨rfl, rfl⟩)
        go_round
        case rel => exact ⟨j, by omega, rfl, by rw [HJ.out]⟩
        case measure => simp [intOf]
theorem refMaj_any (x y z : BitVec 32) (w : World) : Calls Try.prog 25 #[.int .u32 (U x), .int .u32 (U y), .int .u32 (U z)] w fun e w' => e = .returned (.int .u32 (U (maj x y z))) ∧ w = w' := by
  have hb : ∀ j, j < 32 → (2 ≤ (U (bitw x j) + U (bitw y j) + U (bitw z j)) % 4294967296 → U (bitw (maj x y z) j) = 1) ∧ ((U (bitw x j) + U (bitw y j) + U (bitw z j)) % 4294967296 < 2 → U (bitw (maj x y z) j) = 0) := by
    intro j hj
    have e : (maj x y z).getLsbD j = ((x.getLsbD j && y.getLsbD j) ^^ (x.getLsbD j && z.getLsbD j) ^^ (y.getLsbD j && z.getLsbD j)) := by
      unfold maj
      simp only [BitVec.getLsbD_xor, BitVec.getLsbD_and]
    rw [bitw_get x, bitw_get y, bitw_get z, bitw_get (maj x y z), e]
    cases x.getLsbD j <;> cases y.getLsbD j <;> cases z.getLsbD j <;> decide
  have HB := Lib.hid hb
  clear hb
  generalize maj x y z = v at *
  go_enter Try.func25, Try.ntmps25
  go_wp2
  go_loop [7, 8] (fun t i => ∃ j : Nat, j ≤ 32 ∧ i = .int .i64 ((j : Int) - 1) ∧ t = .int .u32 (U (v >>> j))) (fun _ i => (intOf i + 1).toNat)
  case atStart => exact ⟨32, by omega, rfl, by rw [wide]; rfl⟩
  case round =>
    obtain ⟨j, hj, rfl, rfl⟩ := hrel
    cases j with
    | zero =>
      go_wp2
      go_ret
      exact ⟨by simp, rfl⟩
    | succ j =>
      have e : (((j + 1 : Nat) : Int) - 1) = (j : Int) := by omega
      rw [e]
      clear e
      have HJ := Lib.hid (join v j)
      have hb := HB.out j (by omega)
      by_cases hx : 2 ≤ (U (bitw x j) + U (bitw y j) + U (bitw z j)) % 4294967296
      · rw [hb.1 hx] at HJ
        clear hb
        go_wp2_with (go_at_call 45; refine (bit_any _ _ (by omega) _).mono ?_; rintro e w' ⟨rfl, rfl⟩)
        go_round
        case rel => exact ⟨j, by omega, rfl, by have := HJ.out; have := U_nn (v >>> (j + 1)); go_num⟩
        case measure => simp [intOf]
      · have hx' : (U (bitw x j) + U (bitw y j) + U (bitw z j)) % 4294967296 < 2 := by omega
        rw [hb.2 hx'] at HJ
        clear hb hx
        go_wp2_with (go_at_call 45; refine (bit_any _ _ (by omega) _).mono ?_; rintro e w' ⟨rfl, rfl⟩)
        go_round
        case rel => exact ⟨j, by omega, rfl, by have := HJ.out; go_num⟩
        case measure => simp [intOf]
attribute [local go_sem] U_and U_or U_xor U_wadd U_wsub U_not'
theorem refBig0_any (x : BitVec 32) (w : World) : Calls Try.prog 27 #[.int .u32 (U x)] w fun e w' => e = .returned (.int .u32 (U (big0 x))) ∧ w = w' := by
  go_enter Try.func27, Try.ntmps27
  go_wp2_with (go_at_call 21; refine (refRot_any _ _ _).mono ?_; rintro e w' ⟨rfl, rfl⟩)
  go_ret
  exact ⟨rfl, rfl⟩
theorem refBig1_any (x : BitVec 32) (w : World) : Calls Try.prog 29 #[.int .u32 (U x)] w fun e w' => e = .returned (.int .u32 (U (big1 x))) ∧ w = w' := by
  go_enter Try.func29, Try.ntmps29
  go_wp2_with (go_at_call 21; refine (refRot_any _ _ _).mono ?_; rintro e w' ⟨rfl, rfl⟩)
  go_ret
  exact ⟨rfl, rfl⟩
theorem refSmall0_any (x : BitVec 32) (w : World) : Calls Try.prog 31 #[.int .u32 (U x)] w fun e w' => e = .returned (.int .u32 (U (small0 x))) ∧ w = w' := by
  go_enter Try.func31, Try.ntmps31
  go_wp2_with (first | (go_at_call 21; refine (refRot_any _ _ _).mono ?_; rintro e w' ⟨rfl, rfl⟩) | (go_at_call 46; refine (shift_any _ 3 (by omega) _).mono ?_; rintro e w' ⟨rfl, rfl⟩))
  go_ret
  exact ⟨rfl, rfl⟩
theorem refSmall1_any (x : BitVec 32) (w : World) : Calls Try.prog 33 #[.int .u32 (U x)] w fun e w' => e = .returned (.int .u32 (U (small1 x))) ∧ w = w' := by
  go_enter Try.func33, Try.ntmps33
  go_wp2_with (first | (go_at_call 21; refine (refRot_any _ _ _).mono ?_; rintro e w' ⟨rfl, rfl⟩) | (go_at_call 46; refine (shift_any _ 10 (by omega) _).mono ?_; rintro e w' ⟨rfl, rfl⟩))
  go_ret
  exact ⟨rfl, rfl⟩
end Go.Proofs.Ytmcpiclmbehlnaa
