/- The walk of the reference's Prime. -/
import Derived.Test.YtmcpiclmbehlnaaBitsK
import Derived.Test.YtmcpiclmbehlnaaPrimes
import Derived.Lib.Hide
import Derived.Deep.LoopGhost
import Derived.Deep.QuietTactic
import Derived.BigQuiet
import Derived.WalkSmall
namespace Go.Proofs.Ytmcpiclmbehlnaa
open Go.ChangeShapes Go.WideShapes Go.ChangeAt Go.RowKit

theorem inn_far (n : Nat) : ∀ f d b, n < d * d → inn n f d b = b
  | 0, _, _, _ => rfl
  | f + 1, d, b, h => by rw [inn, if_neg (by omega)]
set_option maxHeartbeats 1000000 in
theorem prime_any (i : Nat) (hi : i < 64) (w : World) :
    Calls Try.prog 44 #[.int .i64 (i : Int)] w fun e w' => e = .returned (.int .u64 (primes.getD i 0 : Nat)) ∧ Below w.heap.size w w' := by
  have hp := pr_all i hi
  generalize primes.getD i 0 = R at *
  have HP := Lib.hid hp
  clear hp
  go_enter Try.func44, Try.ntmps44
  go_wp2_with fail
  go_loopw [0, 3] (fun x y wr => ∃ (f j n : Nat), x = .int .i64 ((j : Int) - 1) ∧ y = .int .u64 (n : Int) ∧ j ≤ 64 ∧ n + f = 331 ∧ pr f j n = some R ∧ Below w.heap.size w wr) (fun _ y _ => 1000 - (intOf y).toNat)
  case atStart => exact ⟨330, i + 1, 1, by congr 1; omega, rfl, by omega, rfl, HP.out, Below.refl _ _⟩
  case round =>
    obtain ⟨f, j, n, rfl, rfl, hj, hf, ht, hB⟩ := hrel
    cases f with
    | zero => rw [pr] at ht; cases ht
    | succ f =>
      cases j with
      | zero =>
        rw [pr] at ht
        obtain rfl : n = R := by simpa using ht
        clear ht
        go_wp2_with fail
        go_ret
        exact ⟨rfl, hB⟩
      | succ j =>
        have e : (((j + 1 : Nat) : Int) - 1) = (j : Int) := by omega
        rw [e]
        clear e
        rw [pr] at ht
        have HT := Lib.hid ht
        clear ht
        have hn : n ≤ 331 := by omega
        have HF := Lib.hid hf
        clear hf
        obtain ⟨wo, rfl⟩ : ∃ wo : World, wo = wr := ⟨_, rfl⟩
        go_wp2_with fail
        go_loopw [4, 5] (fun x y wr => ∃ (g d : Nat) (b : Bool), x = .bool b ∧ y = .int .u64 (d : Int) ∧ d ≤ 42 ∧ 2 ≤ d ∧ d + g = 42 ∧ inn (n + 1) g d b = isP (n + 1) ∧ Below w.heap.size w wr) (fun _ y _ => 1000 - (intOf y).toNat)
        case atStart => exact ⟨40, 2, true, rfl, rfl, by omega, by omega, rfl, rfl, hB⟩
        case round =>
          obtain ⟨g, d, b, rfl, rfl, hd, hd2, hg, hin, hB2⟩ := hrel
          have q1 : (d : Int) * (d : Int) ≤ 1764 := by
            have : d * d ≤ 42 * 42 := Nat.mul_le_mul hd hd
            rw [← Int.natCast_mul]; omega
          have q0 : 0 ≤ (d : Int) * (d : Int) := Int.mul_nonneg (by omega) (by omega)
          by_cases hle : d * d ≤ n + 1
          · have hle' : (d : Int) * (d : Int) ≤ (n : Int) + 1 := by rw [← Int.natCast_mul]; omega
            cases g with
            | zero =>
              obtain rfl : d = 42 := by omega
              omega
            | succ g =>
              rw [inn, if_pos hle] at hin
              have HI := Lib.hid hin
              have HG := Lib.hid hg
              clear hin hle hg
              have hd0 : (0 : Int) < (d : Int) := by omega
              cases b with
              | false =>
                go_wp2_with fail
                go_roundw
                case rel => exact ⟨g, d + 1, false, rfl, by go_num, by have := HG.out; omega, by omega, by have := HG.out; omega, HI.out, hB2⟩
                case measure => simp [intOf]; omega
              | true =>
                by_cases hr : (n + 1) % d = 0
                · have hr' : (((n : Int) + 1) % (d : Int) != 0) = false := by
                    have : ((n : Int) + 1) % (d : Int) = 0 := by exact_mod_cast congrArg (Nat.cast (R := Int)) hr
                    rw [this]; rfl
                  have HR := Lib.hid hr
                  clear hr
                  go_wp2_with fail
                  go_roundw
                  case rel => exact ⟨g, d + 1, false, rfl, by go_num, by have := HG.out; omega, by omega, by have := HG.out; omega, by rw [← HI.out, HR.out]; rfl, hB2⟩
                  case measure => simp [intOf]; omega
                · have hr' : (((n : Int) + 1) % (d : Int) != 0) = true := by
                    rw [bne_iff_ne]
                    intro h
                    exact hr (by exact_mod_cast h)
                  have HR : Hid (((n + 1) % d != 0) = true) := Lib.hid (by rw [bne_iff_ne]; exact hr)
                  clear hr
                  go_wp2_with fail
                  go_roundw
                  case rel => exact ⟨g, d + 1, true, rfl, by go_num, by have := HG.out; omega, by omega, by have := HG.out; omega, by rw [← HI.out, HR.out]; rfl, hB2⟩
                  case measure => simp [intOf]; omega
          · have hle' : (n : Int) + 1 < (d : Int) * (d : Int) := by rw [← Int.natCast_mul]; omega
            rw [inn_far _ _ _ _ (by omega)] at hin
            have HT2 := HT.out
            rw [← hin] at HT2
            clear hin hle hg HT
            have HT := Lib.hid HT2
            clear HT2
            cases b with
            | true =>
              go_wp2_with fail
              go_roundw
              case rel => exact ⟨f, j, n + 1, by congr 1, by go_num, by omega, by have := HF.out; omega, HT.out, hB2⟩
              case measure => simp [intOf]; omega
            | false =>
              go_wp2_with fail
              go_roundw
              case rel => exact ⟨f, j + 1, n + 1, by congr 1; omega, by go_num, by omega, by have := HF.out; omega, HT.out, hB2⟩
              case measure => simp [intOf]; omega
end Go.Proofs.Ytmcpiclmbehlnaa
