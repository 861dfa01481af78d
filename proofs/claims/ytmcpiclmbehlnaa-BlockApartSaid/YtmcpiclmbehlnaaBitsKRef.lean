/- The walks of the reference's K and First: they are package bits' constants. -/
import Derived.Test.YtmcpiclmbehlnaaBitsK
import Derived.Test.YtmcpiclmbehlnaaPrime
import Derived.Test.YtmcpiclmbehlnaaRoots2
namespace Go.Proofs.Ytmcpiclmbehlnaa
open Go.ChangeShapes Go.WideShapes Go.ChangeAt Go.RowKit

theorem kn_nat : ∀ i, i < 64 → (kn.getD i 0).toNat = kNat.getD i 0 := by decide +kernel
theorem fn_nat : ∀ i, i < 8 → (fn8.getD i 0).toNat = fNat.getD i 0 := by decide +kernel
theorem k_root (i : Nat) (hi : i < 64) : ((rootF (primes.getD i 0) 3 : Nat) : Int) % 4294967296 = U (kn.getD i 0) := by
  unfold U
  rw [kn_nat i hi, ← root_k i hi]; omega
theorem f_root (i : Nat) (hi : i < 8) : ((rootF (primes.getD i 0) 2 : Nat) : Int) % 4294967296 = U (fn8.getD i 0) := by
  unfold U
  rw [fn_nat i hi, ← root_f i hi]; omega
theorem wrap_rem (R : Nat) : IntKind.u32.wrap ((R : Int) % 4294967296) = (R : Int) % 4294967296 := by rw [IntKind.wrap_u32']; omega
theorem refK_in (i : Nat) (hi : i < 64) (w : World) : Calls Try.prog 17 #[.int .i64 i] w fun e w' => e = .returned (.int .u32 (U (kn.getD i 0))) ∧ Below w.heap.size w w' := by
  have hr := Lib.hid (k_root i hi)
  have hp := fun w => prime_any i hi w
  generalize primes.getD i 0 = p at *
  generalize kn.getD i 0 = kv at *
  have HP := Lib.hid hp
  clear hp
  go_enter Try.func17, Try.ntmps17
  go_wp2_with fail
  refine (HP.out _).mono ?_
  rintro e w1 ⟨rfl, b1⟩
  go_wp2_with fail
  refine (root3_any p _).mono ?_
  rintro e w2 ⟨rfl, b2⟩
  generalize rootF p 3 = R at *
  go_wp2_with fail
  go_ret
  exact ⟨by rw [← hr.out]; rfl, b1.trans (b2.mono b1.size)⟩
theorem refK_out (i : Int) (hi : i < 0 ∨ 64 ≤ i) (w : World) : Calls Try.prog 17 #[.int .i64 i] w fun e w' => e = .returned (.int .u32 0) ∧ w = w' := by
  rcases hi with hi | hi
  · go_enter Try.func17, Try.ntmps17
    go_wp2_with fail
    go_ret
    exact ⟨rfl, rfl⟩
  · have h0 : ¬ i < 0 := by omega
    go_enter Try.func17, Try.ntmps17
    go_wp2_with fail
    go_ret
    exact ⟨rfl, rfl⟩
/-- the first k words, the others 0 -/
def fpart (k : Nat) : List (BitVec 32) := fn8.take k ++ List.replicate (8 - k) 0
theorem fpart_set : ∀ k, k < 8 → (fpart k).set k (fn8.getD k 0) = fpart (k + 1) := by decide +kernel
theorem fpart_len : ∀ k, k < 9 → (fpart k).length = 8 := by decide +kernel
set_option maxHeartbeats 1000000 in
theorem refFirst_any (w : World) : Calls Try.prog 19 #[] w fun e w' => e = .returned (.agg f8) ∧ Below w.heap.size w w' := by
  have ha := alloc8
  go_enter Try.func19, Try.ntmps19
  go_wp2_with fail
  clear ha
  go_loopw [2] (fun i wr => ∃ k : Nat, k ≤ 8 ∧ i = .int .i64 k ∧ wr.heap[w.heap.size]? = some (.cells z8 25 (0, 0)) ∧ wr.heap[w.heap.size + 1]? = some (.cells (rowU (fpart k)) 25 (0, 0)) ∧ Below w.heap.size w wr) (fun i _ => 8 - (intOf i).toNat)
  case atStart => exact ⟨0, by omega, rfl, (blk2 _ _ _).1, (blk2 _ _ _).2, below2 _ _ _⟩
  case round =>
    obtain ⟨k, hk, rfl, h1, h2, hb⟩ := hrel
    by_cases hlt : k < 8
    · have hr := Lib.hid (f_root k hlt)
      have hp := fun w => prime_any k (by omega) w
      have hfs := Lib.hid (fpart_set k hlt)
      generalize primes.getD k 0 = p at *
      have HP := Lib.hid hp
      clear hp
      have HH := Lib.hid (And.intro h1 (And.intro h2 hb))
      have L2 := blk_lt h2
      have hg := rowU_get (fpart k) k (by rw [fpart_len k (by omega)]; exact hlt)
      generalize (fpart k).getD k 0 = old at *
      have HG := Lib.hid hg
      clear h1 h2 hb hg
      go_wp2_with fail
      refine (HP.out _).mono ?_
      rintro e w1 ⟨rfl, b1⟩
      go_wp2_with fail
      refine (root2_any p _).mono ?_
      rintro e w2 ⟨rfl, b2⟩
      generalize rootF p 2 = R at *
      have bb := b1.trans (b2.mono b1.size)
      have h1 := blk_below bb HH.out.1 (blk_lt HH.out.1)
      have h2 := blk_below bb HH.out.2.1 L2
      have hc := cell_row h2 k HG.out
      have hf := free_row h2 k
      have HH2 := Lib.hid (And.intro h1 (And.intro h2 bb))
      clear h1 h2 bb b1 b2
      go_wp2_with fail
      go_roundw
      case rel =>
        obtain ⟨h1, h2, bb⟩ := HH2.out
        refine ⟨k + 1, by omega, by go_num, blk_far h1 (by simp) _, ?_, (HH.out.2.2.trans (bb.mono HH.out.2.2.size)).setCell (by simp) _⟩
        rw [heap_setCell_same _ _ _ _ _ _ h2, ← hfs.out, ← rowU_set, ← hr.out]
      case measure => simp [intOf]; omega
    · obtain rfl : k = 8 := by omega
      have e8 : rowU (fpart 8) = f8 := rfl
      rw [e8] at h2
      go_wp2_with (first | (refine wpList_load_row rfl 25 _ rfl _ rfl _ _ _ _ h2 Try.underlying25 rfl (by kernel_rfl) ?_) | (refine wpList_store_rowTo rfl 25 _ _ rfl rfl _ _ rfl rfl _ _ h1 (by kernel_rfl) (by kernel_rfl) (by kernel_rfl) ?_))
      exact bodyPost_ret (results_cell_row (p := 0) (by kernel_rfl) _ _ _ _ _ _ _ rfl (setRow_heap _ _ _ _ _ _ h1) Try.underlying25 rfl (by kernel_rfl)) rfl ⟨rfl, below_row hb (by omega) _⟩
end Go.Proofs.Ytmcpiclmbehlnaa
