/- The walks of bindleref10.Of, Get, Has, With and bindleref09.Compare. -/
import Derived.Test.YtagdlbadkmgdmaaDoorVec
import Derived.ChangeArms
import Derived.Deep.Cut
namespace Go.Proofs.YtagdlbadkmgdmaaDoor
set_option maxRecDepth 100000
open Go.ChangeShapes Go.WideShapes Go.ChangeAt Go.RowKit

theorem ofF_eq (n : List Int) : ofF n = ofK n 32 := rfl
theorem vecR_append (a b : List Dt) : vecR (a ++ b) = vecR a ++ vecR b := by simp [vecR]
theorem vecR_one (ds : List Dt) : oneR (vecR ds) := fun r hr u hu => by
  obtain ⟨d, _, rfl⟩ := List.mem_map.1 hr
  unfold dotC at hu
  rcases List.mem_cons.1 hu with rfl | hu
  · rfl
  · rw [List.mem_singleton.1 hu]
    rfl
/-- the block that a slice lies in is of elements of this type -/
def TyB (T : TypeId) (w : World) (v : Value) : Prop := ∀ k, v.ownBlock = some k → ∃ cs fr, w.heap[k]? = some (.cells cs T fr)
theorem TyB.to {T : TypeId} {w w' : World} {v : Value} (h : TyB T w v) (hb : BC w w') : TyB T w' v := fun k hk => by
  obtain ⟨cs, fr, h1⟩ := h k hk
  exact ⟨cs, fr, BC_blk1 hb h1⟩
theorem TyB.nil (T : TypeId) (w : World) : TyB T w (.slice none 0 0) := fun k hk => by cases hk
theorem OwnG.ty {S : Sh} {base : Nat} {w : World} {v : Value} {rs : Rows'} (h : OwnG S base w v rs) : TyB S.t w v := fun k hk => by
  obtain ⟨_, ⟨rfl, _⟩ | ⟨g, cap, cur, rfl, _, hg, _⟩⟩ := h
  · cases hk
  · obtain rfl : g = k := by injection hk
    exact ⟨_, _, hg⟩
attribute [local irreducible] SlV Lies headG
attribute [local go_sem] takes takesE comesTo
set_option maxHeartbeats 8000000 in
theorem rof_any (n : List Int) (hn : n.length = 32) (w : World) :
    Calls Tryd.prog 47 #[.agg (row .i64 n)] w fun e w' => ∃ v', e = .returned v' ∧ RdG 2 w'.heap.size w' v' (vecR (ofF n)) ∧ Below w.heap.size w w' ∧ TyB 34 w' v' := by
  obtain ⟨RN, hRN⟩ : ∃ R, R = row .i64 n := ⟨_, rfl⟩
  have hsz : RN.size = 32 := by rw [hRN, row_size, hn]
  have hget : ∀ k, k < 32 → RN[k]? = some (.int .i64 (n.getD k 0)) := fun k hk => by
    rw [hRN]
    simp [row, hn, hk, List.getD]
  rw [← hRN]
  obtain ⟨W1, hW1⟩ : ∃ W, W = w.alloc (.cells RN 98) := ⟨_, rfl⟩
  obtain ⟨g1, hg1⟩ : ∃ g, g = w.heap.size := ⟨_, rfl⟩
  have a1 := heap_alloc_new w (.cells RN 98)
  have e1 := below1 w (.cells RN 98)
  rw [← hW1, ← hg1] at a1
  rw [← hW1] at e1
  have HM := Lib.hid (And.intro hW1 (And.intro hg1 (And.intro a1 (And.intro e1 hget))))
  clear hRN hsz hget hW1 hg1 a1 e1
  go_enter Tryd.func47, Tryd.ntmps47
  go_upto_region 1 with fail
  rw [← HM.out.1, ← HM.out.2.1]
  go_wp2_with fail
  go_loopw [3, 4] (fun v3 v4 wr => ∃ k : Nat, k ≤ 32 ∧ v4 = .int .i64 (k : Int) ∧ OwnG shDot W1.heap.size wr v3 (vecR (ofK n k)) ∧ BC W1 wr) (fun _ k _ => 32 - (intOf k).toNat)
  case atStart => exact ⟨0, Nat.zero_le _, rfl, OwnG.nil _ _ _, BC_refl _⟩
  case round =>
    obtain ⟨k, hk, rfl, hown, hbr⟩ := hrel
    have HR := Lib.hid (And.intro hown (And.intro hbr hk))
    clear hown hbr hk
    by_cases hlt : k < 32
    · have i0 : (0 : Int) ≤ (k : Int) := by omega
      have i1 : (k : Int) < 32 := by omega
      obtain ⟨K1, hK1⟩ : ∃ m, m = k + 1 := ⟨_, rfl⟩
      have s1 : IntKind.i64.wrap ((k : Int) + 1) = (K1 : Int) := by rw [IntKind.wrap_i64]; omega
      obtain ⟨x, hx⟩ : ∃ x, x = n.getD k 0 := ⟨_, rfl⟩
      have c0 := cell_row (BC_blk1 HR.out.2.1 HM.out.2.2.1) k (HM.out.2.2.2.2 k hlt)
      rw [← hx] at c0
      have hof := ofK_succ n k
      rw [← hx] at hof
      have HI := Lib.hid (And.intro hK1 (And.intro hlt (And.intro hx hof)))
      clear hK1 hlt hx hof
      rcases Int.lt_or_le 0 x with h0 | h0
      · have hof2 : ofK n K1 = ofK n k ++ [((k : Int), x)] := by rw [HI.out.1, HI.out.2.2.2, if_pos h0]
        obtain ⟨C, hC⟩ : ∃ C, C = (#[Value.int .i64 (k : Int), Value.int .i64 x] : Array Value) := ⟨_, rfl⟩
        obtain ⟨W3, hW3⟩ : ∃ W, W = wr.alloc (.cells C 34) := ⟨_, rfl⟩
        have n3 := heap_alloc_new wr (.cells C 34)
        have b3 := below1 wr (.cells C 34)
        rw [← hW3] at n3 b3
        have hr3 : W3.rangeAt wr.heap.size 0 (dotC ((k : Int), x)) := fun j u hj => by
          rw [Nat.zero_add]
          refine cell_row n3 j ?_
          rw [hC]
          simpa [dotC] using hj
        have H3 := Lib.hid (And.intro hof2 (And.intro hC (And.intro hW3 (And.intro (HR.out.1.below b3) (And.intro hr3 (And.intro (BC_trans HR.out.2.1 b3) (BC_trans HR.out.2.1 b3).size))))))
        have HLN := Lib.hid (show (vecR (ofK n k)).length ≤ 1000000 by have := ofK_len n k; have := HR.out.2.2; simp [vecR]; omega)
        clear hof2 hC hW3 n3 b3 hr3
        go_wp2_with (first
          | ((with_reducible refine wl_build1G shDot shDot_ok (o := ⟨some 19, _, _, _, _, _⟩) ?_ (.tmp 18) ?_ (.agg C) ?_ ?_ ?_); (focus rfl); (focus rfl); (focus (rw [H3.out.2.1]; rfl)); (focus (rw [H3.out.2.1]; rfl)); show wpList _ _ _ _ _ (wr.alloc (.cells C 34)); rw [← H3.out.2.2.1])
          | ((with_reducible refine wl_append1G shDot shDot_ok (o := ⟨some 20, _, _, _, _, _⟩) ?_ (.tmp 13) (.tmp 19) ?_ W1.heap.size _ (vecR (ofK n k)) ?_ H3.out.2.2.2.1 wr.heap.size 0 1 ?_ (dotC ((k : Int), x)) H3.out.2.2.2.2.1 rfl ?_ HLN.out H3.out.2.2.2.2.2.2 ?_); (focus rfl); (focus rfl); (focus rfl); (focus rfl); (focus (exact vecR_one [((k : Int), x)] _ (by simp [vecR]))); intro v5 w5 own5 b5))
        have b6 : BC W1 w5 := (show Below W1.heap.size W1 _ from H3.out.2.2.2.2.2.1).trans b5
        have own6 : OwnG shDot W1.heap.size w5 v5 (vecR (ofK n K1)) := by rw [H3.out.1, vecR_append]; exact own5
        have HO := Lib.hid (And.intro own6 b6)
        clear own5 own6 b5 b6
        go_wp2_with fail
        go_roundw
        case rel => exact ⟨K1, by have := HI.out; omega, rfl, HO.out.1, HO.out.2⟩
        case measure => have := HI.out; simp [intOf]; omega
      · have h1 : ¬ 0 < x := by omega
        have hof2 : ofK n K1 = ofK n k := by rw [HI.out.1, HI.out.2.2.2, if_neg h1, List.append_nil]
        have HOF := Lib.hid hof2
        clear hof2 h0
        go_wp2_with fail
        go_roundw
        case rel => exact ⟨K1, by have := HI.out; omega, rfl, by rw [HOF.out]; exact HR.out.1, HR.out.2.1⟩
        case measure => have := HI.out; simp [intOf]; omega
    · have hk32 : k = 32 := by have := HR.out.2.2; omega
      have hge : ¬ (k : Int) < 32 := by omega
      have HF := Lib.hid hk32
      clear hk32 hlt
      go_wp2_with fail
      go_ret
      have h := HR.out.1
      rw [HF.out, ← ofF_eq] at h
      exact ⟨_, rfl, h.rd (vecR_n _), BC_trans HM.out.2.2.2.1 HR.out.2.1, h.ty⟩
theorem run_index_i64 (ns : List Int) (hn : ns.length = 32) (k : Nat) (hk : k < 32) (w : World) : (Instr.index 98 (.agg (row .i64 ns)) (.int .i64 (k : Int))).run Tryd.prog w = .ok (.int .i64 (ns.getD k 0)) w := by
  have hsz : ∀ w, (sizeOf 2).run Tryd.prog w = .ok 1 w := fun w => by kernel_rfl
  have hag : ∀ w, (isAgg 2).run Tryd.prog w = .ok false w := fun w => by kernel_rfl
  have hg : (row .i64 ns)[k]? = some (.int .i64 (ns.getD k 0)) := by simp [row, hn, hk, List.getD]
  have h0 : (0 : Int) ≤ (k : Int) ∧ (k : Int) < ((32 : Nat) : Int) := by omega
  simp [Instr.index, go_sem, run_underlying Tryd.underlying98, hsz, hag, hg, h0, part]
  intro hni
  omega
/-- how many of a replica -/
def getF (ds : List Dt) (r : Int) : Int := if 0 ≤ r ∧ r ≤ 31 then (allF ds).getD r.toNat 0 else 0
set_option maxHeartbeats 4000000 in
theorem rget_any (v : Value) (ds : List Dt) (r : Int) (w : World) (hv : RdG 2 w.heap.size w v (vecR ds)) (hn : ds.length ≤ 1000000) :
    Calls Tryd.prog 26 #[v, .int .i64 r] w fun e w' => e = .returned (.int .i64 (getF ds r)) ∧ Below w.heap.size w w' := by
  have HA := Lib.hid (rall_any v ds w hv hn)
  obtain ⟨va, vc, rfl⟩ := hv.form
  by_cases h0 : r < 0
  · rw [show getF ds r = 0 by unfold getF; rw [if_neg (by omega)]]
    clear hv hn
    go_enter Tryd.func26, Tryd.ntmps26
    go_wp2_with fail
    go_ret
    exact ⟨rfl, Below.refl _ _⟩
  · by_cases h1 : 31 < r
    · rw [show getF ds r = 0 by unfold getF; rw [if_neg (by omega)]]
      clear hv hn
      go_enter Tryd.func26, Tryd.ntmps26
      go_wp2_with fail
      go_ret
      exact ⟨rfl, Below.refl _ _⟩
    · obtain ⟨k, rfl⟩ : ∃ k : Nat, r = (k : Int) := ⟨r.toNat, by omega⟩
      have hk : k < 32 := by omega
      have hg : getF ds (k : Int) = (allF ds).getD k 0 := by unfold getF; rw [if_pos (by omega), Int.toNat_natCast]
      obtain ⟨x, hx⟩ : ∃ x, x = getF ds (k : Int) := ⟨_, rfl⟩
      rw [← hx] at hg ⊢
      have hix : ∀ w, (Instr.index 98 (.agg (row .i64 (allF ds))) (.int .i64 (k : Int))).run Tryd.prog w = .ok (.int .i64 x) w := fun w => by rw [hg]; exact run_index_i64 _ (allF_len ds) k hk w
      obtain ⟨RA, hRA⟩ : ∃ R, R = row .i64 (allF ds) := ⟨_, rfl⟩
      rw [← hRA] at hix
      rw [← hRA] at HA
      have i0 : (0 : Int) ≤ (k : Int) := by omega
      have i1 : (k : Int) < 32 := by omega
      clear hv hn hRA hg hx
      go_enter Tryd.func26, Tryd.ntmps26
      go_wp2_with fail
      refine HA.out.mono ?_
      rintro e w1 ⟨rfl, b1⟩
      go_wp2_with fail
      go_ret
      exact ⟨rfl, b1⟩
def hasF (ds : List Dt) (d : Dt) : Bool := mayD d && decide (d.2 ≤ getF ds d.1)
set_option maxHeartbeats 4000000 in
theorem rhas_any (v : Value) (ds : List Dt) (d : Dt) (w : World) (hv : RdG 2 w.heap.size w v (vecR ds)) (hn : ds.length ≤ 1000000) :
    Calls Tryd.prog 49 #[v, .agg #[.int .i64 d.1, .int .i64 d.2]] w fun e w' => e = .returned (.bool (hasF ds d)) ∧ Below w.heap.size w w' := by
  have HMY := Lib.hid (fun W => rmay9_any d W)
  have HGT : Hid (∀ W, BC w W → Calls Tryd.prog 26 #[v, .int .i64 d.1] W fun e w' => e = .returned (.int .i64 (getF ds d.1)) ∧ Below W.heap.size W w') := Lib.hid fun W hW => rget_any v ds d.1 W (hv.to hW) hn
  obtain ⟨va, vc, rfl⟩ := hv.form
  clear hv hn
  obtain ⟨r, s⟩ := d
  obtain ⟨m, hm⟩ : ∃ m, m = mayD (r, s) := ⟨_, rfl⟩
  obtain ⟨x, hx⟩ : ∃ x, x = getF ds r := ⟨_, rfl⟩
  have hres : hasF ds (r, s) = (m && decide (s ≤ x)) := by rw [hm, hx]; rfl
  dsimp only at HMY HGT ⊢
  rw [← hm] at HMY
  rw [← hx] at HGT
  obtain ⟨C, hC⟩ : ∃ C, C = (#[Value.int .i64 r, Value.int .i64 s] : Array Value) := ⟨_, rfl⟩
  have hCz : C.size = 2 := by rw [hC]; rfl
  have k0 : C[0]? = some (.int .i64 r) := by rw [hC]; rfl
  have k1 : C[1]? = some (.int .i64 s) := by rw [hC]; rfl
  rw [← hC] at HMY ⊢
  obtain ⟨W1, hW1⟩ : ∃ W, W = w.alloc (.cells C 34) := ⟨_, rfl⟩
  obtain ⟨g1, hg1⟩ : ∃ g, g = w.heap.size := ⟨_, rfl⟩
  have a1 := heap_alloc_new w (.cells C 34)
  have e1 := below1 w (.cells C 34)
  rw [← hW1, ← hg1] at a1
  rw [← hW1] at e1
  have HM := Lib.hid (And.intro hW1 (And.intro hg1 (And.intro a1 (And.intro e1 hCz))))
  have HFR : Hid (∀ x : HW (BC W1), x.w.heap[g1]? = some (.cells C 34 (0, 0))) := Lib.hid (BC_blk a1)
  have c0 : ∀ x : HW (BC W1), x.w.cell? ⟨g1, 0, none⟩ = some (.int .i64 r) := fun x => cell_row (HFR.out x) 0 k0
  have c1 : ∀ x : HW (BC W1), x.w.cell? ⟨g1, 1, none⟩ = some (.int .i64 s) := fun x => cell_row (HFR.out x) 1 k1
  have HRS := Lib.hid hres
  clear hm hx hC hCz k0 k1 hW1 hg1 a1 e1 hres
  cases m with
  | false =>
    have hf : hasF ds (r, s) = false := by rw [HRS.out]; rfl
    have HF := Lib.hid hf
    clear hf
    rw [HF.out]
    go_enter Tryd.func49, Tryd.ntmps49
    go_upto_region 1 with fail
    rw [← HM.out.1, ← HM.out.2.1]
    have hS := BC_all (w := W1)
    haveI := BC_inst W1
    refine wp_region_head (BC W1) 12 (by kernel_rfl) (by kernel_rfl) (BC_start _) ?_
    simp only [List.take_succ_cons, List.take_zero, List.drop_succ_cons, List.drop_zero]
    repeat (first
      | ((with_reducible refine headG_load_row (o := ⟨some 5, _, _, _, _, _⟩) 34 (.tmp 3) ?_ ?_ _ ?_ _ C _ _ HFR.out Tryd.underlying34 ?_ ?_ ?_); (focus rfl); (focus rfl); (focus rfl); (focus rfl); (focus (rw [HM.out.2.2.2.2]; kernel_rfl)))
      | (refine headG_step (fun K hK => ?_)
         go_simp
         first
           | (refine hK _ ?_; clear hK K)
           | (apply Exists.intro
              refine ⟨fun x => ?_, hK _ ?_⟩
              first
                | (go_at_call 48; exact BC_call x (HMY.out x.w))
                | (go_at_call 26; exact BC_call x (HGT.out x.w (BC_trans HM.out.2.2.2.1 x.h)))
              clear hK K)))
    refine headG_nil ?_
    intro wy hby
    have HY := Lib.hid (BC_trans HM.out.2.2.2.1 hby)
    clear hS hby c0 c1
    go_wp2_with fail
    go_ret
    exact ⟨rfl, HY.out⟩
  | true =>
    have hf : hasF ds (r, s) = decide (s ≤ x) := by rw [HRS.out]; rfl
    obtain ⟨Z, hZ⟩ : ∃ Z, Z = hasF ds (r, s) := ⟨_, rfl⟩
    rw [← hZ] at hf ⊢
    have HF := Lib.hid hf
    clear hf hZ
    go_enter Tryd.func49, Tryd.ntmps49
    go_upto_region 1 with fail
    rw [← HM.out.1, ← HM.out.2.1]
    have hS := BC_all (w := W1)
    haveI := BC_inst W1
    refine wp_region_head (BC W1) 12 (by kernel_rfl) (by kernel_rfl) (BC_start _) ?_
    simp only [List.take_succ_cons, List.take_zero, List.drop_succ_cons, List.drop_zero]
    repeat (first
      | ((with_reducible refine headG_load_row (o := ⟨some 5, _, _, _, _, _⟩) 34 (.tmp 3) ?_ ?_ _ ?_ _ C _ _ HFR.out Tryd.underlying34 ?_ ?_ ?_); (focus rfl); (focus rfl); (focus rfl); (focus rfl); (focus (rw [HM.out.2.2.2.2]; kernel_rfl)))
      | (refine headG_step (fun K hK => ?_)
         go_simp
         first
           | (refine hK _ ?_; clear hK K)
           | (apply Exists.intro
              refine ⟨fun x => ?_, hK _ ?_⟩
              first
                | (go_at_call 48; exact BC_call x (HMY.out x.w))
                | (go_at_call 26; exact BC_call x (HGT.out x.w (BC_trans HM.out.2.2.2.1 x.h)))
              clear hK K)))
    refine headG_nil ?_
    intro wy hby
    have HY := Lib.hid (BC_trans HM.out.2.2.2.1 hby)
    clear hS hby c0 c1
    go_wp2_with fail
    go_ret
    exact ⟨by rw [HF.out]; rfl, HY.out⟩
end Go.Proofs.YtagdlbadkmgdmaaDoor
