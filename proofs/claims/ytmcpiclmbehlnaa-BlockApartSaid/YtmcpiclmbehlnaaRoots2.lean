/- The walks of the reference's Root at the powers 2 and 3. -/
import Derived.Test.YtmcpiclmbehlnaaRoots
import Derived.Test.YtmcpiclmbehlnaaReg
namespace Go.Proofs.Ytmcpiclmbehlnaa
open Go.ChangeShapes Go.WideShapes Go.ChangeAt Go.RowKit

theorem run_load_row {P : Program} (w : World) (g : Nat) (t ty n e : TypeId) (cs : Array Value) (hg : w.heap[g]? = some (.cells cs t (0, 0)))
    (hu : P.underlying ty = some (.array n e)) (hi : (P.info? ty).map (·.size) = some cs.size) : (Instr.loadAt ty (.pointer (some ⟨g, 0, none⟩))).run P w = .ok (.agg cs) w := by
  simp only [Instr.loadAt, Instr.sureAddr, Sem.run_bind, Sem.run_pure, Result.andThen_ok]
  exact run_loadVar_row w g t ty cs _ _ hg hu rfl hi
theorem loadW {w : World} {g : Nat} {l : List Nat} (hl : l.length = 8) (hg : w.heap[g]? = some (.cells (rowN l) 55 (0, 0))) :
    (Instr.loadAt 55 (.pointer (some ⟨g, 0, none⟩))).run Try.prog w = .ok (.agg (rowN l)) w :=
  run_load_row w g _ _ _ _ _ hg Try.underlying55 (by rw [rowN_size, hl]; kernel_rfl)
attribute [local go_sem] takes comesTo
/-- the class of worlds of the region that tells the root's next place -/
def RS (wr : World) (g p k : Nat) (W : World) : Prop := W.heap[g]? = some (.cells (rowN (goalF p k)) 55 (0, 0)) ∧ Below wr.heap.size wr W
theorem RS_keep {wr W W1 : World} {g p k : Nat} (h : RS wr g p k W) (hb : Below W.heap.size W W1) : RS wr g p k W1 :=
  ⟨blk_below hb h.1 (blk_lt h.1), h.2.trans (hb.mono h.2.size)⟩
theorem goalF_len (p k : Nat) : (goalF p k).length = 8 := by simp [goalF]
theorem rootGo_zero (p k : Nat) : ∀ f n, rootGo p k f n 0 = n
  | 0, _ => rfl
  | f + 1, n => by rw [rootGo, Nat.add_zero, ite_self, Nat.zero_div, rootGo_zero p k f n]
theorem stepF_far (p k n step : Nat) (h : ¬ n + step < 68719476736) : stepF p k n step = false := by simp [stepF, h]
theorem stepF_near (p k n step : Nat) (h : n + step < 68719476736) : stepF p k n step = !aboveF (powF (n + step) k) (goalF p k) := by simp [stepF, h]

set_option maxRecDepth 100000 in
set_option maxHeartbeats 2000000 in
theorem root2_any (p : Nat) (w : World) :
    Calls Try.prog 43 #[.int .u64 (p : Int), .int .i64 2] w fun e w' => e = .returned (.int .u64 (rootF p 2 : Nat)) ∧ Below w.heap.size w w' := by
  have hb1 := buildW
  have ha1 := allocW
  go_enter Try.func43, Try.ntmps43
  generalize hL : (68719476736 : Int) = L
  have HL := Lib.hid hL
  have l0 : 0 < L := by omega
  have l1 : L ≤ 100000000000 := by omega
  clear hL
  go_wp2_with fail
  clear hb1 ha1
  go_loopw [6, 7] (fun x y wr => ∃ (f n step : Nat), x = .int .u64 (n : Int) ∧ y = .int .u64 (step : Int) ∧ step < 2 ^ f ∧ (step : Int) ≤ L ∧ (n : Int) < L ∧ rootGo p 2 f n step = rootF p 2 ∧
      wr.heap[w.heap.size]? = some (.cells (rowN (goalF p 2)) 55 (0, 0)) ∧ Below w.heap.size w wr) (fun _ y _ => (intOf y).toNat)
  case atStart => exact ⟨37, 0, 68719476736, rfl, by rw [← HL.out]; rfl, by omega, by rw [← HL.out]; omega, by omega, rfl, heap_alloc_new _ _, below1 _ _⟩
  case round =>
    obtain ⟨f, n, step, rfl, rfl, hf, hs, hn, ht, h1, hB⟩ := hrel
    by_cases h0 : step = 0
    · subst h0
      have HT : Hid (rootF p 2 = n) := Lib.hid (by rw [← ht, rootGo_zero])
      clear ht hf
      go_wp2_with fail
      go_ret
      exact ⟨by rw [HT.out]; rfl, hB⟩
    · cases f with
      | zero => omega
      | succ f =>
        rw [rootGo] at ht
        have hs2 : step / 2 < 2 ^ f := by rw [Nat.pow_succ] at hf; omega
        have HS := Lib.hid hs2
        clear hf hs2
        have L1 := blk_lt h1
        have hL := HL.out
        by_cases hc : n + step < 68719476736
        · rw [stepF_near _ _ _ _ hc] at ht
          have hstep : (0 : Int) < (step : Int) := by omega
          obtain ⟨m, hm⟩ : ∃ m : Nat, n + step = m := ⟨_, rfl⟩
          have hz : (n : Int) + (step : Int) = (m : Int) := by omega
          rw [hm] at ht hc
          have HM := Lib.hid hm
          clear hm
          have hc' : decide ((m : Int) < L) = true := by simp; omega
          have hlt : (m : Int) < L := by omega
          have hwm : IntKind.u64.wrap (m : Int) = (m : Int) := by rw [IntKind.wrap_u64]; omega
          clear hL
          have HC := Lib.hid hc
          clear hc h0
          have Hload : ∀ x : HW (RS wr w.heap.size p 2), x.w.heap[w.heap.size]? = some (.cells (rowN (goalF p 2)) 55 (0, 0)) := fun x => x.h.1
          have hS : ∀ x : HW (RS wr w.heap.size p 2), RS wr w.heap.size p 2 x.w := fun x => x.h
          have hS0 : RS wr w.heap.size p 2 wr.drew := ⟨h1, (Below.refl _ _).drew⟩
          haveI : Nonempty (HW (RS wr w.heap.size p 2)) := ⟨⟨_, hS0⟩⟩
          have HB := Lib.hid hB
          have H1 := Lib.hid h1
          clear hB h1
          cases hv : aboveF (powF m 2) (goalF p 2) with
          | true =>
            rw [hv] at ht
            have HT := Lib.hid ht
            clear ht
            go_wp2_with fail
            refine wp_region_head (RS wr w.heap.size p 2) 14 (by kernel_rfl) (by kernel_rfl) hS0 ?_
            simp only [List.take_succ_cons, List.take_zero, List.drop_succ_cons, List.drop_zero]
            repeat (first
              | (refine headG_load_row 55 _ rfl rfl _ rfl _ _ _ _ Hload Try.underlying55 rfl (by rw [rowN_size, goalF_len]; kernel_rfl) ?_)
              | (refine headG_step (fun K hK => ?_)
                 go_simp
                 first
                   | (refine hK _ ?_; clear hK K)
                   | (apply Exists.intro
                      refine ⟨fun x => ?_, hK _ ?_⟩
                      (first
                        | (go_at_call 54; exact comes_call (power_any m 2 HC.out (by omega) _) (fun w' hb => RS_keep x.h hb))
                        | (go_at_call 53; exact comes_call (above_any (powF m 2) (goalF p 2) (powF_len _ _) (goalF_len _ _) _) (fun w' hb => RS_keep x.h hb)))
                      clear hK K)))
            refine headG_nil ?_
            intro w1 hw1
            go_wp2_with fail
            go_roundw
            case rel => exact ⟨f, n, step / 2, rfl, by go_num, HS.out, by omega, hn, HT.out, hw1.1, HB.out.trans (hw1.2.mono HB.out.size)⟩
            case measure => simp [intOf]; omega
          | false =>
            rw [hv] at ht
            have HT := Lib.hid ht
            clear ht
            go_wp2_with fail
            refine wp_region_head (RS wr w.heap.size p 2) 14 (by kernel_rfl) (by kernel_rfl) hS0 ?_
            simp only [List.take_succ_cons, List.take_zero, List.drop_succ_cons, List.drop_zero]
            repeat (first
              | (refine headG_load_row 55 _ rfl rfl _ rfl _ _ _ _ Hload Try.underlying55 rfl (by rw [rowN_size, goalF_len]; kernel_rfl) ?_)
              | (refine headG_step (fun K hK => ?_)
                 go_simp
                 first
                   | (refine hK _ ?_; clear hK K)
                   | (apply Exists.intro
                      refine ⟨fun x => ?_, hK _ ?_⟩
                      (first
                        | (go_at_call 54; exact comes_call (power_any m 2 HC.out (by omega) _) (fun w' hb => RS_keep x.h hb))
                        | (go_at_call 53; exact comes_call (above_any (powF m 2) (goalF p 2) (powF_len _ _) (goalF_len _ _) _) (fun w' hb => RS_keep x.h hb)))
                      clear hK K)))
            refine headG_nil ?_
            intro w1 hw1
            go_wp2_with fail
            go_roundw
            case rel => exact ⟨f, m, step / 2, rfl, by go_num, HS.out, by omega, hlt, by have := HT.out; rw [← HM.out]; rw [← HM.out] at this; exact this, hw1.1, HB.out.trans (hw1.2.mono HB.out.size)⟩
            case measure => simp [intOf]; omega
        · rw [stepF_far _ _ _ _ hc] at ht
          have hstep : (0 : Int) < (step : Int) := by omega
          obtain ⟨m, hm⟩ : ∃ m : Nat, n + step = m := ⟨_, rfl⟩
          have hz : (n : Int) + (step : Int) = (m : Int) := by omega
          rw [hm] at hc
          have hc' : decide ((m : Int) < L) = false := by simp; omega
          have hle : (m : Int) ≤ L + L := by omega
          have hge : L ≤ (m : Int) := by omega
          have hwm : IntKind.u64.wrap (m : Int) = (m : Int) := by rw [IntKind.wrap_u64]; omega
          clear hL
          clear hm
          have HC := Lib.hid hc
          clear hc h0
          have HT := Lib.hid ht
          clear ht
          go_wp2_with fail
          go_quiet (fail)
          go_wp2_with fail
          go_roundw
          case rel => exact ⟨f, n, step / 2, rfl, by go_num, HS.out, by omega, hn, HT.out, h1, below_drewN hB _⟩
          case measure => simp [intOf]; omega

set_option maxRecDepth 100000 in
set_option maxHeartbeats 2000000 in
theorem root3_any (p : Nat) (w : World) :
    Calls Try.prog 43 #[.int .u64 (p : Int), .int .i64 3] w fun e w' => e = .returned (.int .u64 (rootF p 3 : Nat)) ∧ Below w.heap.size w w' := by
  have hb1 := buildW
  have ha1 := allocW
  go_enter Try.func43, Try.ntmps43
  generalize hL : (68719476736 : Int) = L
  have HL := Lib.hid hL
  have l0 : 0 < L := by omega
  have l1 : L ≤ 100000000000 := by omega
  clear hL
  go_wp2_with fail
  clear hb1 ha1
  go_loopw [6, 7] (fun x y wr => ∃ (f n step : Nat), x = .int .u64 (n : Int) ∧ y = .int .u64 (step : Int) ∧ step < 2 ^ f ∧ (step : Int) ≤ L ∧ (n : Int) < L ∧ rootGo p 3 f n step = rootF p 3 ∧
      wr.heap[w.heap.size]? = some (.cells (rowN (goalF p 3)) 55 (0, 0)) ∧ Below w.heap.size w wr) (fun _ y _ => (intOf y).toNat)
  case atStart => exact ⟨37, 0, 68719476736, rfl, by rw [← HL.out]; rfl, by omega, by rw [← HL.out]; omega, by omega, rfl, heap_alloc_new _ _, below1 _ _⟩
  case round =>
    obtain ⟨f, n, step, rfl, rfl, hf, hs, hn, ht, h1, hB⟩ := hrel
    by_cases h0 : step = 0
    · subst h0
      have HT : Hid (rootF p 3 = n) := Lib.hid (by rw [← ht, rootGo_zero])
      clear ht hf
      go_wp2_with fail
      go_ret
      exact ⟨by rw [HT.out]; rfl, hB⟩
    · cases f with
      | zero => omega
      | succ f =>
        rw [rootGo] at ht
        have hs2 : step / 2 < 2 ^ f := by rw [Nat.pow_succ] at hf; omega
        have HS := Lib.hid hs2
        clear hf hs2
        have L1 := blk_lt h1
        have hL := HL.out
        by_cases hc : n + step < 68719476736
        · rw [stepF_near _ _ _ _ hc] at ht
          have hstep : (0 : Int) < (step : Int) := by omega
          obtain ⟨m, hm⟩ : ∃ m : Nat, n + step = m := ⟨_, rfl⟩
          have hz : (n : Int) + (step : Int) = (m : Int) := by omega
          rw [hm] at ht hc
          have HM := Lib.hid hm
          clear hm
          have hc' : decide ((m : Int) < L) = true := by simp; omega
          have hlt : (m : Int) < L := by omega
          have hwm : IntKind.u64.wrap (m : Int) = (m : Int) := by rw [IntKind.wrap_u64]; omega
          clear hL
          have HC := Lib.hid hc
          clear hc h0
          have Hload : ∀ x : HW (RS wr w.heap.size p 3), x.w.heap[w.heap.size]? = some (.cells (rowN (goalF p 3)) 55 (0, 0)) := fun x => x.h.1
          have hS : ∀ x : HW (RS wr w.heap.size p 3), RS wr w.heap.size p 3 x.w := fun x => x.h
          have hS0 : RS wr w.heap.size p 3 wr.drew := ⟨h1, (Below.refl _ _).drew⟩
          haveI : Nonempty (HW (RS wr w.heap.size p 3)) := ⟨⟨_, hS0⟩⟩
          have HB := Lib.hid hB
          have H1 := Lib.hid h1
          clear hB h1
          cases hv : aboveF (powF m 3) (goalF p 3) with
          | true =>
            rw [hv] at ht
            have HT := Lib.hid ht
            clear ht
            go_wp2_with fail
            refine wp_region_head (RS wr w.heap.size p 3) 14 (by kernel_rfl) (by kernel_rfl) hS0 ?_
            simp only [List.take_succ_cons, List.take_zero, List.drop_succ_cons, List.drop_zero]
            repeat (first
              | (refine headG_load_row 55 _ rfl rfl _ rfl _ _ _ _ Hload Try.underlying55 rfl (by rw [rowN_size, goalF_len]; kernel_rfl) ?_)
              | (refine headG_step (fun K hK => ?_)
                 go_simp
                 first
                   | (refine hK _ ?_; clear hK K)
                   | (apply Exists.intro
                      refine ⟨fun x => ?_, hK _ ?_⟩
                      (first
                        | (go_at_call 54; exact comes_call (power_any m 3 HC.out (by omega) _) (fun w' hb => RS_keep x.h hb))
                        | (go_at_call 53; exact comes_call (above_any (powF m 3) (goalF p 3) (powF_len _ _) (goalF_len _ _) _) (fun w' hb => RS_keep x.h hb)))
                      clear hK K)))
            refine headG_nil ?_
            intro w1 hw1
            go_wp2_with fail
            go_roundw
            case rel => exact ⟨f, n, step / 2, rfl, by go_num, HS.out, by omega, hn, HT.out, hw1.1, HB.out.trans (hw1.2.mono HB.out.size)⟩
            case measure => simp [intOf]; omega
          | false =>
            rw [hv] at ht
            have HT := Lib.hid ht
            clear ht
            go_wp2_with fail
            refine wp_region_head (RS wr w.heap.size p 3) 14 (by kernel_rfl) (by kernel_rfl) hS0 ?_
            simp only [List.take_succ_cons, List.take_zero, List.drop_succ_cons, List.drop_zero]
            repeat (first
              | (refine headG_load_row 55 _ rfl rfl _ rfl _ _ _ _ Hload Try.underlying55 rfl (by rw [rowN_size, goalF_len]; kernel_rfl) ?_)
              | (refine headG_step (fun K hK => ?_)
                 go_simp
                 first
                   | (refine hK _ ?_; clear hK K)
                   | (apply Exists.intro
                      refine ⟨fun x => ?_, hK _ ?_⟩
                      (first
                        | (go_at_call 54; exact comes_call (power_any m 3 HC.out (by omega) _) (fun w' hb => RS_keep x.h hb))
                        | (go_at_call 53; exact comes_call (above_any (powF m 3) (goalF p 3) (powF_len _ _) (goalF_len _ _) _) (fun w' hb => RS_keep x.h hb)))
                      clear hK K)))
            refine headG_nil ?_
            intro w1 hw1
            go_wp2_with fail
            go_roundw
            case rel => exact ⟨f, m, step / 2, rfl, by go_num, HS.out, by omega, hlt, by have := HT.out; rw [← HM.out]; rw [← HM.out] at this; exact this, hw1.1, HB.out.trans (hw1.2.mono HB.out.size)⟩
            case measure => simp [intOf]; omega
        · rw [stepF_far _ _ _ _ hc] at ht
          have hstep : (0 : Int) < (step : Int) := by omega
          obtain ⟨m, hm⟩ : ∃ m : Nat, n + step = m := ⟨_, rfl⟩
          have hz : (n : Int) + (step : Int) = (m : Int) := by omega
          rw [hm] at hc
          have hc' : decide ((m : Int) < L) = false := by simp; omega
          have hle : (m : Int) ≤ L + L := by omega
          have hge : L ≤ (m : Int) := by omega
          have hwm : IntKind.u64.wrap (m : Int) = (m : Int) := by rw [IntKind.wrap_u64]; omega
          clear hL
          clear hm
          have HC := Lib.hid hc
          clear hc h0
          have HT := Lib.hid ht
          clear ht
          go_wp2_with fail
          go_quiet (fail)
          go_wp2_with fail
          go_roundw
          case rel => exact ⟨f, n, step / 2, rfl, by go_num, HS.out, by omega, hn, HT.out, h1, below_drewN hB _⟩
          case measure => simp [intOf]; omega
end Go.Proofs.Ytmcpiclmbehlnaa
