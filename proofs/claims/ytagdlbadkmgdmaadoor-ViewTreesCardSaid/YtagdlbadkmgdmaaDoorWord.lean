/- Words of 32 bits as BitVec 32 in the model's integers: the walk's own rules for them. -/
import Derived.WalkKit
import Derived.ProofKit
import Derived.Laws.BitsAllLaws
namespace Go.Proofs.YtagdlbadkmgdmaaDoor
open Go.RowKit

/-- a word as the model's number -/
def U (x : BitVec 32) : Int := x.toNat
theorem U_lt (x : BitVec 32) : U x < 4294967296 := by unfold U; have := x.isLt; omega
theorem U_nn (x : BitVec 32) : 0 ≤ U x := by unfold U; omega
theorem U_inj {x y : BitVec 32} (h : U x = U y) : x = y := by
  unfold U at h; apply BitVec.eq_of_toNat_eq; omega
theorem U_beq (x y : BitVec 32) : (U x == U y) = decide (x = y) := by
  by_cases h : x = y
  · subst h; simp
  · have : ¬ U x = U y := fun e => h (U_inj e)
    simp [h, this]
theorem U_wf (x : BitVec 32) : (Lit.int .u32 (U x)).wf = true := by
  have h1 := U_lt x
  have h2 := U_nn x
  simp [Lit.wf, IntKind.min, IntKind.max, IntKind.signed, IntKind.bits]
  omega
theorem U_of {n : Int} (h : (Lit.int .u32 n).wf = true) : ∃ x, n = U x := by
  simp [Lit.wf, IntKind.min, IntKind.max, IntKind.signed, IntKind.bits] at h
  refine ⟨BitVec.ofNat 32 n.toNat, ?_⟩
  unfold U
  rw [BitVec.toNat_ofNat]
  omega
theorem U_and (x y : BitVec 32) : bits .and .u32 (U x) (U y) = U (x &&& y) := by
  unfold U; rw [u32_and_nat _ _ x.isLt y.isLt]; simp
theorem U_or (x y : BitVec 32) : bits .or .u32 (U x) (U y) = U (x ||| y) := by
  unfold U; rw [u32_or_nat _ _ x.isLt y.isLt]; simp
theorem U_xor (x y : BitVec 32) : bits .xor .u32 (U x) (U y) = U (x ^^^ y) := by
  unfold U; rw [u32_xor_nat _ _ x.isLt y.isLt]; simp
theorem U_wadd (x y : BitVec 32) : IntKind.u32.wrap (U x + U y) = U (x + y) := by
  unfold U; rw [IntKind.wrap_u32']; simp [BitVec.toNat_add]
theorem U_wsub (x y : BitVec 32) : IntKind.u32.wrap (U x - U y) = U (x - y) := by
  unfold U; rw [IntKind.wrap_u32']; have := x.isLt; have := y.isLt; rw [BitVec.toNat_sub]; omega
theorem U_wmul (x y : BitVec 32) : IntKind.u32.wrap (U x * U y) = U (x * y) := by
  unfold U; rw [IntKind.wrap_u32']; simp [BitVec.toNat_mul]
theorem div_cast (a b : Nat) : ((a : Int) / (b : Int)) = ((a / b : Nat) : Int) := by simp
theorem U_shr (x : BitVec 32) (n : Nat) (yk : IntKind) (P : Program) (w : World) : (Op.shift .shr .u32 (U x) yk (n : Int)).run P w = .ok (.int .u32 (U (x >>> n))) w := by
  have h : ¬ ((n : Int) < 0) := by omega
  have e : (U x).fdiv (2 ^ min (n : Int).toNat 32) = U (x >>> n) := by
    unfold U
    rw [Int.toNat_natCast, Int.fdiv_eq_ediv_of_nonneg _ (Int.pow_nonneg (by omega)), BitVec.toNat_ushiftRight, Nat.shiftRight_eq_div_pow]
    have e2 : ((2 : Int) ^ min n 32) = ((2 ^ min n 32 : Nat) : Int) := by simp
    rw [e2, div_cast]
    by_cases hn : n ≤ 32
    · rw [Nat.min_eq_left hn]
    · rw [Nat.min_eq_right (by omega)]
      have hx := x.isLt
      have hp : 2 ^ 32 ≤ 2 ^ n := Nat.pow_le_pow_right (by omega) (by omega)
      rw [Nat.div_eq_of_lt hx, Nat.div_eq_of_lt (Nat.lt_of_lt_of_le hx hp)]
  simp only [Op.shift, h, if_false, IntKind.bits]
  rw [e]
  simp [go_sem]
theorem U_shl (x : BitVec 32) (n : Nat) (yk : IntKind) (P : Program) (w : World) : (Op.shift .shl .u32 (U x) yk (n : Int)).run P w = .ok (.int .u32 (U (x <<< n))) w := by
  have h : ¬ ((n : Int) < 0) := by omega
  have e : IntKind.u32.wrap (U x * 2 ^ min (n : Int).toNat 32) = U (x <<< n) := by
    unfold U
    rw [IntKind.wrap_u32', Int.toNat_natCast, BitVec.toNat_shiftLeft, Nat.shiftLeft_eq]
    have e2 : ((2 : Int) ^ min n 32) = ((2 ^ min n 32 : Nat) : Int) := by simp
    rw [e2]
    by_cases hn : n ≤ 32
    · rw [Nat.min_eq_left hn]; omega
    · rw [Nat.min_eq_right (by omega)]
      have hp : x.toNat * 2 ^ n % 2 ^ 32 = 0 := by
        obtain ⟨m, rfl⟩ : ∃ m, n = 32 + m := ⟨n - 32, by omega⟩
        rw [Nat.pow_add, ← Nat.mul_assoc, Nat.mul_right_comm]
        exact Nat.mul_mod_left _ _
      rw [hp]; omega
  simp only [Op.shift, h, if_false, IntKind.bits]
  rw [e]
  simp [go_sem]
theorem U_shr' (x : BitVec 32) (n : Nat) : (U x).fdiv (2 ^ n) = U (x >>> n) := by
  unfold U
  rw [Int.fdiv_eq_ediv_of_nonneg _ (Int.pow_nonneg (by omega)), BitVec.toNat_ushiftRight, Nat.shiftRight_eq_div_pow]
  have e2 : ((2 : Int) ^ n) = ((2 ^ n : Nat) : Int) := by simp
  rw [e2, div_cast]
theorem U_not (x : BitVec 32) (P : Program) (w : World) : (Op.unary .xor (.int .u32 (U x))).run P w = .ok (.int .u32 (U (~~~x))) w := by
  have e : bits .xor .u32 IntKind.u32.max (U x) = U (~~~x) := by
    have : IntKind.u32.max = U (BitVec.allOnes 32) := by decide
    rw [this, U_xor, BitVec.allOnes_xor]
  have e2 : Op.unary .xor (.int .u32 (U x)) = Op.intBits .xor .u32 IntKind.u32.max (U x) := rfl
  rw [e2, ← e]
  rfl
theorem U_not' (x : BitVec 32) : bits .xor .u32 IntKind.u32.max (U x) = U (~~~x) := by
  have : IntKind.u32.max = U (BitVec.allOnes 32) := by decide
  rw [this, U_xor, BitVec.allOnes_xor]
theorem U_div (x : BitVec 32) (n : Nat) : U x / 2 ^ n = U (x >>> n) := by
  unfold U
  rw [BitVec.toNat_ushiftRight, Nat.shiftRight_eq_div_pow]
  have e2 : ((2 : Int) ^ n) = ((2 ^ n : Nat) : Int) := by simp
  rw [e2, div_cast]
theorem U_mulp (x : BitVec 32) (n : Nat) : U x * 2 ^ n % 4294967296 = U (x <<< n) := by
  unfold U
  rw [BitVec.toNat_shiftLeft, Nat.shiftLeft_eq]
  have e2 : ((2 : Int) ^ n) = ((2 ^ n : Nat) : Int) := by simp
  rw [e2]; omega
theorem U_div8 (x : BitVec 32) : U x / (8 : Int) = U (x >>> 3) := U_div x 3
theorem U_div1024 (x : BitVec 32) : U x / (1024 : Int) = U (x >>> 10) := U_div x 10
end Go.Proofs.YtagdlbadkmgdmaaDoor
