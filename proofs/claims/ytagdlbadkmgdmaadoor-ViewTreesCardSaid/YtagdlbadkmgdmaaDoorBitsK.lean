/- The walks of bits.K, bits.First and of package bindlelaw01's awake. -/
import Derived.Test.YtagdlbadkmgdmaaDoorBits
import Derived.Test.YtagdlbadkmgdmaaDoorArr
namespace Go.Proofs.YtagdlbadkmgdmaaDoor
open Go.ChangeShapes Go.WideShapes Go.ChangeAt Go.RowKit

def kn : List (BitVec 32) := [
  0x428a2f98#32, 0x71374491#32, 0xb5c0fbcf#32, 0xe9b5dba5#32, 0x3956c25b#32, 0x59f111f1#32, 0x923f82a4#32, 0xab1c5ed5#32,
  0xd807aa98#32, 0x12835b01#32, 0x243185be#32, 0x550c7dc3#32, 0x72be5d74#32, 0x80deb1fe#32, 0x9bdc06a7#32, 0xc19bf174#32,
  0xe49b69c1#32, 0xefbe4786#32, 0x0fc19dc6#32, 0x240ca1cc#32, 0x2de92c6f#32, 0x4a7484aa#32, 0x5cb0a9dc#32, 0x76f988da#32,
  0x983e5152#32, 0xa831c66d#32, 0xb00327c8#32, 0xbf597fc7#32, 0xc6e00bf3#32, 0xd5a79147#32, 0x06ca6351#32, 0x14292967#32,
  0x27b70a85#32, 0x2e1b2138#32, 0x4d2c6dfc#32, 0x53380d13#32, 0x650a7354#32, 0x766a0abb#32, 0x81c2c92e#32, 0x92722c85#32,
  0xa2bfe8a1#32, 0xa81a664b#32, 0xc24b8b70#32, 0xc76c51a3#32, 0xd192e819#32, 0xd6990624#32, 0xf40e3585#32, 0x106aa070#32,
  0x19a4c116#32, 0x1e376c08#32, 0x2748774c#32, 0x34b0bcb5#32, 0x391c0cb3#32, 0x4ed8aa4a#32, 0x5b9cca4f#32, 0x682e6ff3#32,
  0x748f82ee#32, 0x78a5636f#32, 0x84c87814#32, 0x8cc70208#32, 0x90befffa#32, 0xa4506ceb#32, 0xbef9a3f7#32, 0xc67178f2#32]
def fn8 : List (BitVec 32) := [0x6a09e667#32, 0xbb67ae85#32, 0x3c6ef372#32, 0xa54ff53a#32, 0x510e527f#32, 0x9b05688c#32, 0x1f83d9ab#32, 0x5be0cd19#32]
def k64 : Array Value := rowU kn
def f8 : Array Value := rowU fn8
def zeros (k : IntKind) (n : Nat) : Array Value := row k (List.replicate n 0)
def z64 : Array Value := zeros .u32 64
def z8 : Array Value := zeros .u32 8
theorem alloc64 (w : World) : (Instr.alloc 111 true (.tuple #[])).run Tryd.prog w = .ok (.pointer (some ⟨w.heap.size, 0, none⟩)) (w.alloc (.cells z64 111)) := by kernel_rfl
theorem alloc8 (w : World) : (Instr.alloc 95 true (.tuple #[])).run Tryd.prog w = .ok (.pointer (some ⟨w.heap.size, 0, none⟩)) (w.alloc (.cells z8 95)) := by kernel_rfl

set_option maxRecDepth 100000 in
theorem k_in (i : Nat) (hi : i < 64) (w : World) : Calls Tryd.prog 88 #[.int .i64 i] w fun e w' => e = .returned (.int .u32 (U (kn.getD i 0))) ∧ Below w.heap.size w w' := by
  have ha := alloc64
  have hc : (w.alloc (.cells k64 111)).cell? ⟨w.heap.size, i, none⟩ = some (.int .u32 (U (kn.getD i 0))) := by
    rw [cell_new]
    exact rowU_get kn i hi
  generalize kn.getD i 0 = kv at *
  go_enter Tryd.func88, Tryd.ntmps88
  go_wp2_with (first | (refine wpList_buildTo rfl 111 _ rfl (some 10) rfl k64 (by kernel_rfl) ?_) | (refine wpList_store_rowTo rfl 111 _ _ rfl rfl _ k64 rfl rfl 111 z64 (heap_alloc_new _ _) (by kernel_rfl) (by kernel_rfl) (by kernel_rfl) ?_; rw [World.setRow_alloc_new]))
  go_ret
  exact ⟨rfl, (Below.refl _ _).alloc (Nat.le_refl _) _⟩
set_option maxRecDepth 100000 in
theorem k_out (i : Int) (hi : i < 0 ∨ 64 ≤ i) (w : World) : Calls Tryd.prog 88 #[.int .i64 i] w fun e w' => e = .returned (.int .u32 0) ∧ w = w' := by
  rcases hi with hi | hi
  · go_enter Tryd.func88, Tryd.ntmps88
    go_wp2_with fail
    go_ret
    exact ⟨rfl, rfl⟩
  · have h0 : ¬ i < 0 := by omega
    go_enter Tryd.func88, Tryd.ntmps88
    go_wp2_with fail
    go_ret
    exact ⟨rfl, rfl⟩
theorem first_any (w : World) : Calls Tryd.prog 71 #[] w fun e w' => e = .returned (.agg f8) ∧ Below w.heap.size w w' := by
  have ha := alloc8
  go_enter Tryd.func71, Tryd.ntmps71
  go_wp2_with (first | (refine wpList_buildTo rfl 95 _ rfl (some 1) rfl f8 (by kernel_rfl) ?_) | (refine wpList_store_rowTo rfl 95 _ _ rfl rfl _ f8 rfl rfl 95 z8 (heap_alloc_new _ _) (by kernel_rfl) (by kernel_rfl) (by kernel_rfl) ?_; rw [World.setRow_alloc_new]))
  exact bodyPost_ret (results_cell_row (p := 0) (by kernel_rfl) _ _ _ _ _ _ _ rfl (heap_alloc_new _ _) Tryd.underlying95 rfl (by kernel_rfl)) rfl ⟨rfl, (Below.refl _ _).alloc (Nat.le_refl _) _⟩
theorem rot11 (w : World) : Calls Tryd.prog 107 #[.int .u32 1, .int .i64 1] w fun e w' => e = .returned (.int .u32 2147483648) ∧ w = w' := rot_any 1#32 1 w
theorem k_zero (w : World) : Calls Tryd.prog 88 #[.int .i64 0] w fun e w' => e = .returned (.int .u32 1116352408) ∧ Below w.heap.size w w' := k_in 0 (by omega) w
end Go.Proofs.YtagdlbadkmgdmaaDoor
