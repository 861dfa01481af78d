/- A whole number below 2^53 as a float64, and back. -/
import Derived.Laws.FloatArith
import Derived.Laws.Cover2
import Derived.KernelRfl
namespace Go.Proofs.YtagdlbadkmgdmaaDoor
open Go

theorem pow_split (L : Nat) (h : L ≤ 52) : 2 ^ L * 2 ^ (52 - L) = 4503599627370496 := by
  rw [← Nat.pow_add, show L + (52 - L) = 52 by omega]
theorem k_bounds (m : Nat) (h0 : m ≠ 0) (h : m < 9007199254740992) : m.log2 ≤ 52 ∧ 4503599627370496 ≤ m * 2 ^ (52 - m.log2) ∧ m * 2 ^ (52 - m.log2) < 9007199254740992 := by
  have h1 : 2 ^ m.log2 ≤ m := Nat.log2_self_le h0
  have h2 : m < 2 ^ (m.log2 + 1) := Nat.lt_log2_self
  have hL : m.log2 ≤ 52 := by
    have : m.log2 < 53 := (Nat.log2_lt h0).2 (by simpa using h)
    omega
  have hs := pow_split m.log2 hL
  have hp : 0 < 2 ^ (52 - m.log2) := Nat.pow_pos (by omega)
  refine ⟨hL, ?_, ?_⟩
  · rw [← hs]; exact Nat.mul_le_mul_right _ h1
  · have h3 : m * 2 ^ (52 - m.log2) < 2 ^ (m.log2 + 1) * 2 ^ (52 - m.log2) := Nat.mul_lt_mul_of_pos_right h2 hp
    rw [Nat.pow_succ, Nat.mul_right_comm, hs] at h3
    omega
theorem cut_even_zero (n : Nat) : Ieee.Toward.even.cut false n 0 = n := by
  simp [Ieee.Toward.cut, Nat.mod_one]
theorem near_nat (m : Nat) (h0 : m ≠ 0) (h : m < 9007199254740992) : FloatKind.f64.nearest (m : Int) = (m.log2 + 1022) * 4503599627370496 + m * 2 ^ (52 - m.log2) := by
  obtain ⟨hL, hk1, hk2⟩ := k_bounds m h0 h
  have hlp : Ieee.double.leastPlace = -1074 := by decide
  have hb : Ieee.double.binade = 4503599627370496 := by decide
  have hi : Ieee.double.infRung = 2047 * 4503599627370496 := by decide
  have hneg : decide ((m : Int) < 0) = false := by simp
  unfold FloatKind.nearest FloatKind.encode FloatKind.format Ieee.Format.write
  simp only [hneg, Int.natAbs_natCast]
  unfold Ieee.Format.nearest
  rw [if_neg h0]
  have hlast : max ((0 : Int) + (m.log2 : Int) - (Ieee.double.fractionBits : Int)) Ieee.double.leastPlace = (m.log2 : Int) - 52 := by
    rw [hlp, show (Ieee.double.fractionBits : Int) = 52 by decide]
    omega
  simp only [hlast]
  rw [show ((0 : Int) - ((m.log2 : Int) - 52)).toNat = 52 - m.log2 by omega, show ((m.log2 : Int) - 52 - 0).toNat = 0 by omega, cut_even_zero, hlp, hb, hi, Nat.shiftLeft_eq, show ((m.log2 : Int) - 52 - -1074).toNat = m.log2 + 1022 by omega]
  unfold Ieee.Format.word
  simp only [Bool.false_eq_true, if_false]
  omega
theorem read_near (m : Nat) (h0 : m ≠ 0) (h : m < 9007199254740992) : FloatKind.f64.decode (FloatKind.f64.nearest (m : Int)) = .number false (m * 2 ^ (52 - m.log2)) ((m.log2 : Int) - 52) := by
  obtain ⟨hL, hk1, hk2⟩ := k_bounds m h0 h
  rw [near_nat m h0 h]
  have hlp : Ieee.double.leastPlace = -1074 := by decide
  have hb : Ieee.double.binade = 4503599627370496 := by decide
  have hi : Ieee.double.infRung = 2047 * 4503599627370496 := by decide
  have hs : Ieee.double.signWeight = 2048 * 4503599627370496 := by decide
  generalize m * 2 ^ (52 - m.log2) = K at *
  unfold FloatKind.decode FloatKind.format Ieee.Format.read
  simp only [hlp, hb, hi, hs]
  have e1 : ((m.log2 + 1022) * 4503599627370496 + K) / (2048 * 4503599627370496) = 0 := by omega
  have e2 : ((m.log2 + 1022) * 4503599627370496 + K) % (2048 * 4503599627370496) = (m.log2 + 1022) * 4503599627370496 + K := by omega
  rw [e1, e2, if_neg (by omega), if_pos (by omega)]
  have e3 : 4503599627370496 + ((m.log2 + 1022) * 4503599627370496 + K) % 4503599627370496 = K := by omega
  have e4 : ((m.log2 + 1022) * 4503599627370496 + K) / 4503599627370496 - 1 = m.log2 + 1022 := by omega
  have e5 : (-1074 : Int) + ((m.log2 + 1022 : Nat) : Int) = (m.log2 : Int) - 52 := by omega
  rw [e3, e4, e5]
  rfl
theorem f64_back (m : Nat) (h0 : m ≠ 0) (h : m < 9007199254740992) : (FloatKind.f64.decode (FloatKind.f64.nearest (m : Int))).toInt .zero = some (m : Int) := by
  obtain ⟨hL, hk1, hk2⟩ := k_bounds m h0 h
  rw [read_near m h0 h]
  have hkl : (m * 2 ^ (52 - m.log2)).log2 = 52 := by
    have := Nat.log2_eq_iff (n := m * 2 ^ (52 - m.log2)) (k := 52) (by omega)
    exact this.2 ⟨by simpa using hk1, by simpa using hk2⟩
  unfold Ieee.Datum.toInt Ieee.Datum.integral
  simp only
  rw [show ((m.log2 : Int) - 52).toNat = 0 by omega, show (-((m.log2 : Int) - 52)).toNat = 52 - m.log2 by omega, Nat.shiftLeft_zero]
  unfold Ieee.Toward.cut
  simp only
  rw [hkl, Nat.min_eq_left (by omega), Nat.one_shiftLeft, Nat.mul_div_cancel _ (Nat.pow_pos (by omega))]
  simp [Ieee.signed]
theorem f64_int (m : Nat) (h0 : m ≠ 0) (h : m < 9007199254740992) : floatToIntVal .f64 (floatOfInt .f64 (m : Int)) .i64 = some (m : Int) := by
  unfold floatToIntVal floatOfInt
  rw [f64_back m h0 h]
  simp only
  rw [if_pos (by simp [IntKind.min, IntKind.max, IntKind.signed, IntKind.bits]; omega)]
end Go.Proofs.YtagdlbadkmgdmaaDoor
