/- The walks of package bits: what Rot, Ch, Maj and the four Sigmas answer. -/
import Derived.Test.YtagdlbadkmgdmaaDoorRows
import Derived.Test.YtagdlbadkmgdmaaDoorWord
namespace Go.Proofs.YtagdlbadkmgdmaaDoor
open Go.ChangeShapes Go.WideShapes Go.ChangeAt Go.RowKit

/-- a word turned by k places -/
def rot (x : BitVec 32) (k : Nat) : BitVec 32 := x >>> k ||| x <<< (32 - k)
def ch (x y z : BitVec 32) : BitVec 32 := x &&& y ^^^ ~~~x &&& z
def maj (x y z : BitVec 32) : BitVec 32 := x &&& y ^^^ x &&& z ^^^ y &&& z
def big0 (x : BitVec 32) : BitVec 32 := rot x 2 ^^^ rot x 13 ^^^ rot x 22
def big1 (x : BitVec 32) : BitVec 32 := rot x 6 ^^^ rot x 11 ^^^ rot x 25
def small0 (x : BitVec 32) : BitVec 32 := rot x 7 ^^^ rot x 18 ^^^ x >>> 3
def small1 (x : BitVec 32) : BitVec 32 := rot x 17 ^^^ rot x 19 ^^^ x >>> 10

theorem mask31 (n : Int) : bits .and .u64 (IntKind.u64.wrap n) 31 = ((n % 32).toNat : Int) := by
  rw [IntKind.wrap_u64, u64_and _ _ (by omega) (by omega) (by omega) (by omega)]
  have : (31 : Int).toNat = 31 := rfl
  rw [this, nat_mask5]
  omega

attribute [local go_sem] U_and U_or U_xor U_wadd U_wsub U_not' U_div U_mulp U_div8 U_div1024

theorem rot_any (x : BitVec 32) (n : Int) (w : World) : Calls Tryd.prog 107 #[.int .u32 (U x), .int .i64 n] w fun e w' => e = .returned (.int .u32 (U (rot x (n % 32).toNat))) ∧ w = w' := by
  obtain ⟨k, hk, hlt⟩ : ∃ k : Nat, (n % 32).toNat = k ∧ k < 32 := ⟨_, rfl, by omega⟩
  have h1 : bits .and .u64 (IntKind.u64.wrap n) 31 = (k : Int) := by rw [mask31, hk]
  have h2 : IntKind.u64.wrap (32 - (k : Int)) = ((32 - k : Nat) : Int) := by rw [IntKind.wrap_u64]; omega
  have hd : rot x k = x >>> k ||| x <<< (32 - k) := rfl
  rw [hk, hd]
  clear hk hd
  go_enter Tryd.func107, Tryd.ntmps107
  go_wp2
  go_ret
  exact ⟨rfl, rfl⟩
theorem rot_nat (x : BitVec 32) (k : Nat) (h : k < 32) (w : World) : Calls Tryd.prog 107 #[.int .u32 (U x), .int .i64 (k : Int)] w fun e w' => e = .returned (.int .u32 (U (rot x k))) ∧ w = w' := by
  have := rot_any x k w
  have e : ((k : Int) % 32).toNat = k := by omega
  rwa [e] at this
theorem ch_any (x y z : BitVec 32) (w : World) : Calls Tryd.prog 99 #[.int .u32 (U x), .int .u32 (U y), .int .u32 (U z)] w fun e w' => e = .returned (.int .u32 (U (ch x y z))) ∧ w = w' := by
  go_enter Tryd.func99, Tryd.ntmps99
  go_wp2
  go_ret
  exact ⟨rfl, rfl⟩
theorem maj_any (x y z : BitVec 32) (w : World) : Calls Tryd.prog 101 #[.int .u32 (U x), .int .u32 (U y), .int .u32 (U z)] w fun e w' => e = .returned (.int .u32 (U (maj x y z))) ∧ w = w' := by
  go_enter Tryd.func101, Tryd.ntmps101
  go_wp2
  go_ret
  exact ⟨rfl, rfl⟩
theorem big0_any (x : BitVec 32) (w : World) : Calls Tryd.prog 100 #[.int .u32 (U x)] w fun e w' => e = .returned (.int .u32 (U (big0 x))) ∧ w = w' := by
  go_enter Tryd.func100, Tryd.ntmps100
  go_wp2_with (go_at_call 107; refine (rot_any _ _ _).mono ?_; rintro e w' ⟨rfl, rfl⟩)
  go_ret
  exact ⟨rfl, rfl⟩
theorem big1_any (x : BitVec 32) (w : World) : Calls Tryd.prog 98 #[.int .u32 (U x)] w fun e w' => e = .returned (.int .u32 (U (big1 x))) ∧ w = w' := by
  go_enter Tryd.func98, Tryd.ntmps98
  go_wp2_with (go_at_call 107; refine (rot_any _ _ _).mono ?_; rintro e w' ⟨rfl, rfl⟩)
  go_ret
  exact ⟨rfl, rfl⟩
theorem small0_any (x : BitVec 32) (w : World) : Calls Tryd.prog 97 #[.int .u32 (U x)] w fun e w' => e = .returned (.int .u32 (U (small0 x))) ∧ w = w' := by
  go_enter Tryd.func97, Tryd.ntmps97
  go_wp2_with (go_at_call 107; refine (rot_any _ _ _).mono ?_; rintro e w' ⟨rfl, rfl⟩)
  go_ret
  exact ⟨rfl, rfl⟩
theorem small1_any (x : BitVec 32) (w : World) : Calls Tryd.prog 96 #[.int .u32 (U x)] w fun e w' => e = .returned (.int .u32 (U (small1 x))) ∧ w = w' := by
  go_enter Tryd.func96, Tryd.ntmps96
  go_wp2_with (go_at_call 107; refine (rot_any _ _ _).mono ?_; rintro e w' ⟨rfl, rfl⟩)
  go_ret
  exact ⟨rfl, rfl⟩
end Go.Proofs.YtagdlbadkmgdmaaDoor
