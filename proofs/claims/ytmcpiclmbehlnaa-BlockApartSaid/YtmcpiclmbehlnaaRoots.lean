/- The walks of the reference's Prime, Times, Power, Above, Root, K and First. -/
import Derived.Test.YtmcpiclmbehlnaaBitsK
import Derived.Test.YtmcpiclmbehlnaaPrimes
import Derived.Lib.Hide
import Derived.Deep.RegionWith
import Derived.Deep.LoopGhost
import Derived.Deep.QuietTactic
import Derived.BigQuiet
import Derived.WalkSmall
namespace Go.Proofs.Ytmcpiclmbehlnaa
open Go.ChangeShapes Go.WideShapes Go.ChangeAt Go.RowKit

/-- the cells of an array of natural numbers -/
def rowN (l : List Nat) : Array Value := row .u64 (l.map fun n : Nat => (n : Int))
theorem rowN_size (l : List Nat) : (rowN l).size = l.length := by simp [rowN, row]
theorem rowN_get (l : List Nat) (i : Nat) (h : i < l.length) : (rowN l)[i]? = some (.int .u64 (l.getD i 0 : Nat)) := by
  simp [rowN, row, h]
theorem rowN_set (l : List Nat) (i : Nat) (x : Nat) : (rowN l).setIfInBounds i (.int .u64 (x : Nat)) = rowN (l.set i x) := by
  simp [rowN, row]
theorem rowN_one (l : List Nat) : (rowN l).all (·.oneCell') = true := row_one _ _
def zw : Array Value := rowN [0, 0, 0, 0, 0, 0, 0, 0]
theorem allocW (w : World) : (Instr.alloc 55 true (.tuple #[])).run Try.prog w = .ok (.pointer (some ⟨w.heap.size, 0, none⟩)) (w.alloc (.cells zw 55)) := by kernel_rfl
theorem buildW (w : World) : (Instr.build 55 #[]).run Try.prog w = .ok (.agg zw) w := by kernel_rfl
set_option maxHeartbeats 1000000 in
theorem times_any (a : List Nat) (n : Nat) (ha : a.length = 8) (hs : ∀ j, a.getD j 0 < 65536) (hn : n < 68719476736) (w : World) :
    Calls Try.prog 56 #[.agg (rowN a), .int .u64 (n : Int)] w fun e w' => e = .returned (.agg (rowN (timesF a n))) ∧ Below w.heap.size w w' := by
  have ha1 := allocW
  have hb1 := buildW
  have HA := Lib.hid ha
  have HS := Lib.hid hs
  clear ha hs
  go_enter Try.func56, Try.ntmps56
  go_wp2_with fail
  clear ha1 hb1
  go_loopw [6, 7] (fun c i wr => ∃ (k m : Nat) (out : List Nat), k ≤ 8 ∧ i = .int .i64 k ∧ c = .int .u64 (m : Int) ∧ m < 68719476736 * 2 ∧ out.length = 8 ∧ timesGo a n (8 - k) k m out = timesF a n ∧
      wr.heap[w.heap.size]? = some (.cells (rowN a) 55 (0, 0)) ∧ wr.heap[w.heap.size + 1]? = some (.cells zw 55 (0, 0)) ∧ wr.heap[w.heap.size + 1 + 1]? = some (.cells (rowN out) 55 (0, 0)) ∧ Below w.heap.size w wr) (fun _ i _ => 8 - (intOf i).toNat)
  case atStart => exact ⟨0, 0, List.replicate 8 0, by omega, rfl, rfl, by omega, rfl, rfl, (blk3 _ _ _ _).1, (blk3 _ _ _ _).2.1, (blk3 _ _ _ _).2.2, below3 _ _ _ _⟩
  case round =>
    obtain ⟨k, m, out, hk, rfl, rfl, hm, ho, ht, h1, h2, h3, hb⟩ := hrel
    by_cases hlt : k < 8
    · have ht' : timesGo a n (8 - (k + 1)) (k + 1) ((a.getD k 0 * n + m) / 65536) (out.set k ((a.getD k 0 * n + m) % 65536)) = timesF a n := by
        rw [← ht, show 8 - k = (8 - (k + 1)) + 1 from by omega]
        rfl
      have c1 := cell_row h1 k (rowN_get a k (by rw [HA.out]; exact hlt))
      have c3 := cell_row h3 k (rowN_get out k (by rw [ho]; exact hlt))
      have f3 : wr.frozen? ⟨w.heap.size + 1 + 1, k, none⟩ = false := frozen_of_row _ _ _ _ _ h3
      have x1 := HS.out k
      have hp : a.getD k 0 * n ≤ 65535 * 68719476735 := Nat.mul_le_mul (by omega) (by omega)
      have hp' : ((a.getD k 0 : Nat) : Int) * (n : Int) ≤ 65535 * 68719476735 := by rw [← Int.natCast_mul]; omega
      have hq' : 0 ≤ ((a.getD k 0 : Nat) : Int) * (n : Int) := Int.mul_nonneg (by omega) (by omega)
      have hm2 : (a.getD k 0 * n + m) / 65536 < 68719476736 * 2 := by omega
      have H := Lib.hid (And.intro ht' (And.intro h1 (And.intro h2 (And.intro h3 (And.intro hb (And.intro ho hm2))))))
      clear ht ht' h1 h2 h3 hb ho hm2 hp
      generalize a.getD k 0 = ak at *
      generalize out.getD k 0 = ok at *
      go_wp2_with fail
      go_roundw
      case rel =>
        obtain ⟨t1, h1, h2, h3, hb, ho, hm2⟩ := H.out
        have hx : Value.int IntKind.u64 (((ak : Int) * (n : Int) + (m : Int)) % 65536) = .int .u64 ((((ak * n + m) % 65536 : Nat)) : Int) := by congr 1
        refine ⟨k + 1, (ak * n + m) / 65536, out.set k ((ak * n + m) % 65536), by omega, by go_num, by congr 1, hm2, by simpa using ho, t1, blk_far h1 (by simp; omega) _, blk_far h2 (by simp) _, ?_, hb.setCell (by simp; omega) _⟩
        rw [hx, heap_setCell_same _ _ _ _ _ _ h3, rowN_set]
      case measure => simp [intOf]; omega
    · obtain rfl : k = 8 := by omega
      have ht' : out = timesF a n := ht
      subst ht'
      clear ht
      go_wp2_with (first | (refine wpList_load_row rfl 55 _ rfl _ rfl _ _ _ _ h3 Try.underlying55 rfl (by rw [rowN_size, timesF_len]; kernel_rfl) ?_) | (refine wpList_store_rowTo rfl 55 _ _ rfl rfl _ _ rfl rfl _ _ h2 (by rw [rowN_size, timesF_len]; kernel_rfl) (by rw [rowN_size, timesF_len]; rfl) (rowN_one _) ?_))
      exact bodyPost_ret (results_cell_row (p := 4) (by kernel_rfl) _ _ _ _ _ _ _ rfl (setRow_heap _ _ _ _ _ _ h2) Try.underlying55 rfl (by rw [rowN_size, timesF_len]; kernel_rfl)) rfl ⟨rfl, below_row hb (by omega) _⟩
theorem zw_one : zw = rowN [0, 0, 0, 0, 0, 0, 0, 0] := rfl
def onew : Array Value := rowN [1, 0, 0, 0, 0, 0, 0, 0]
theorem build1 (w : World) : (Instr.build 55 #[(0, .int .u64 1)]).run Try.prog w = .ok (.agg onew) w := by kernel_rfl
theorem powGo_small (n : Nat) : ∀ f a, (∀ j, a.getD j 0 < 65536) → ∀ j, (powGo n f a).getD j 0 < 65536
  | 0, _, h => h
  | f + 1, a, _ => powGo_small n f _ (timesF_small a n)
theorem one_small (j : Nat) : ([1, 0, 0, 0, 0, 0, 0, 0] : List Nat).getD j 0 < 65536 := by
  match j with
  | 0 => decide
  | 1 => decide
  | 2 => decide
  | 3 => decide
  | 4 => decide
  | 5 => decide
  | 6 => decide
  | 7 => decide
  | j + 8 => simp
theorem powF_small (n k j : Nat) : (powF n k).getD j 0 < 65536 := powGo_small n k _ one_small j
set_option maxHeartbeats 1000000 in
theorem power_any (n k : Nat) (hn : n < 68719476736) (hk : k < 1000) (w : World) :
    Calls Try.prog 54 #[.int .u64 (n : Int), .int .i64 (k : Int)] w fun e w' => e = .returned (.agg (rowN (powF n k))) ∧ Below w.heap.size w w' := by
  have ha1 := allocW
  have hb1 := build1
  go_enter Try.func54, Try.ntmps54
  go_wp2_with fail
  clear ha1 hb1
  go_loopw [6] (fun i wr => ∃ (j : Nat) (a : List Nat), j ≤ k ∧ i = .int .i64 j ∧ a.length = 8 ∧ (∀ x, a.getD x 0 < 65536) ∧ powGo n (k - j) a = powF n k ∧
      wr.heap[w.heap.size]? = some (.cells zw 55 (0, 0)) ∧ wr.heap[w.heap.size + 1]? = some (.cells (rowN a) 55 (0, 0)) ∧ Below w.heap.size w wr) (fun i _ => k - (intOf i).toNat)
  case atStart => exact ⟨0, [1, 0, 0, 0, 0, 0, 0, 0], by omega, rfl, rfl, one_small, rfl, (blk2 _ _ _).1, (blk2 _ _ _).2, below2 _ _ _⟩
  case round =>
    obtain ⟨j, a, hj, rfl, hl, hs, ht, h1, h2, hb⟩ := hrel
    by_cases hlt : j < k
    · have ht' : powGo n (k - (j + 1)) (timesF a n) = powF n k := by
        rw [← ht, show k - j = (k - (j + 1)) + 1 from by omega]
        rfl
      have HT := Lib.hid ht'
      have HS := Lib.hid hs
      have HL := Lib.hid hl
      have HB := Lib.hid (And.intro h1 (And.intro h2 hb))
      have L2 := blk_lt h2
      clear ht ht' hs hl h1 hb
      go_wp2_with (refine wpList_load_row rfl 55 _ rfl _ rfl _ _ _ _ h2 Try.underlying55 rfl (by rw [rowN_size, HL.out]; kernel_rfl) ?_)
      refine (times_any a n HL.out HS.out hn _).mono ?_
      rintro e w1 ⟨rfl, b1⟩
      have h2' := blk_below b1 h2 L2
      clear h2
      go_wp2_with (refine wpList_store_rowTo rfl 55 _ _ rfl rfl _ _ rfl rfl _ _ h2' (by rw [rowN_size, timesF_len]; kernel_rfl) (by rw [rowN_size, rowN_size, timesF_len, HL.out]) (rowN_one _) ?_)
      go_roundw
      case rel =>
        obtain ⟨h1, h2, hb⟩ := HB.out
        have hlt' := blk_lt h1
        exact ⟨j + 1, timesF a n, by omega, by go_num, timesF_len _ _, timesF_small a n, HT.out, (setRow_other _ _ _ _ (by omega)).trans (blk_below b1 h1 hlt'), setRow_heap _ _ _ _ _ _ h2', below_row (hb.trans (b1.mono hb.size)) (by omega) _⟩
      case measure => simp [intOf]; omega
    · obtain rfl : j = k := by omega
      have ht' : a = powF n j := by rw [← ht, Nat.sub_self]; rfl
      subst ht'
      clear ht hs
      go_wp2_with (first | (refine wpList_load_row rfl 55 _ rfl _ rfl _ _ _ _ h2 Try.underlying55 rfl (by rw [rowN_size, powF_len]; kernel_rfl) ?_) | (refine wpList_store_rowTo rfl 55 _ _ rfl rfl _ _ rfl rfl _ _ h1 (by rw [rowN_size, powF_len]; kernel_rfl) (by rw [rowN_size, powF_len]; rfl) (rowN_one _) ?_))
      exact bodyPost_ret (results_cell_row (p := 4) (by kernel_rfl) _ _ _ _ _ _ _ rfl (setRow_heap _ _ _ _ _ _ h1) Try.underlying55 rfl (by rw [rowN_size, powF_len]; kernel_rfl)) rfl ⟨rfl, below_row hb (by omega) _⟩
set_option maxHeartbeats 1000000 in
theorem above_any (a b : List Nat) (ha : a.length = 8) (hb : b.length = 8) (w : World) :
    Calls Try.prog 53 #[.agg (rowN a), .agg (rowN b)] w fun e w' => e = .returned (.bool (aboveF a b)) ∧ Below w.heap.size w w' := by
  go_enter Try.func53, Try.ntmps53
  go_wp2_with fail
  go_loopw [5] (fun i wr => ∃ j : Nat, j ≤ 8 ∧ i = .int .i64 ((j : Int) - 1) ∧ aboveGo a b j = aboveF a b ∧ wr.heap[w.heap.size]? = some (.cells (rowN a) 55 (0, 0)) ∧ wr.heap[w.heap.size + 1]? = some (.cells (rowN b) 55 (0, 0)) ∧ Below w.heap.size w wr) (fun i _ => (intOf i + 1).toNat)
  case atStart => exact ⟨8, by omega, rfl, rfl, (blk2 _ _ _).1, (blk2 _ _ _).2, below2 _ _ _⟩
  case round =>
    obtain ⟨j, hj, rfl, ht, h1, h2, hB⟩ := hrel
    cases j with
    | zero =>
      have HT := Lib.hid ht
      clear ht
      go_wp2_with fail
      go_ret
      exact ⟨by rw [← HT.out]; rfl, hB⟩
    | succ j =>
      have e : (((j + 1 : Nat) : Int) - 1) = (j : Int) := by omega
      rw [e]
      clear e
      have c1 := cell_row h1 j (rowN_get a j (by omega))
      have c2 := cell_row h2 j (rowN_get b j (by omega))
      have HH := Lib.hid (And.intro h1 h2)
      clear h1 h2
      rw [aboveGo] at ht
      by_cases hne : a.getD j 0 = b.getD j 0
      · rw [if_neg (by simpa using hne)] at ht
        have HT := Lib.hid ht
        clear ht
        rw [hne] at c1
        clear hne
        generalize b.getD j 0 = bj at *
        go_wp2_with fail
        go_quiet (fail)
        go_wp2_with fail
        go_roundw
        case rel => exact ⟨j, by omega, rfl, HT.out, HH.out.1, HH.out.2, below_drewN hB _⟩
        case measure => simp [intOf]
      · rw [if_pos hne] at ht
        have HT := Lib.hid ht
        clear ht
        have hx : (((a.getD j 0 : Nat) : Int) != ((b.getD j 0 : Nat) : Int)) = true := by rw [bne_iff_ne]; omega
        by_cases hl : b.getD j 0 < a.getD j 0
        · have HT2 := Lib.hid (HT.out.symm.trans (decide_eq_true hl))
          clear HT hne
          generalize b.getD j 0 = bj at *
          generalize a.getD j 0 = aj at *
          go_wp2_with fail
          go_quiet (fail)
          go_wp2_with fail
          go_quiet (fail)
          go_wp2_with fail
          go_ret
          exact ⟨by rw [HT2.out]; rfl, below_drewN (below_drewN hB _) _⟩
        · have HT2 := Lib.hid (HT.out.symm.trans (decide_eq_false hl))
          clear HT hne
          generalize b.getD j 0 = bj at *
          generalize a.getD j 0 = aj at *
          go_wp2_with fail
          go_quiet (fail)
          go_wp2_with fail
          go_quiet (fail)
          go_wp2_with fail
          go_ret
          exact ⟨by rw [HT2.out]; rfl, below_drewN (below_drewN hB _) _⟩
end Go.Proofs.Ytmcpiclmbehlnaa
