/- Dots and vectors as the reference has them: plain, and the walks of bindleref09.May, Compare and bindleref10.All, Of, Get, Has, With. -/
import Derived.Test.YtagdlbadkmgdmaaDoorGen
import Derived.Test.YtagdlbadkmgdmaaDoorSlots
import Derived.ChangeArms
import Derived.Deep.Cut
namespace Go.Proofs.YtagdlbadkmgdmaaDoor
set_option maxRecDepth 100000
open Go.ChangeShapes Go.WideShapes Go.ChangeAt Go.RowKit

abbrev Dt := Int × Int
def dotC (d : Dt) : List Value := [.int .i64 d.1, .int .i64 d.2]
def mayD (d : Dt) : Bool := decide (0 ≤ d.1) && decide (d.1 ≤ 31) && decide (1 ≤ d.2) && decide (d.2 ≤ 1099511627776)
def stepA (n : List Int) (d : Dt) : List Int := if mayD d && decide (n.getD d.1.toNat 0 < d.2) then n.set d.1.toNat d.2 else n
/-- of each replica how many -/
def allF (ds : List Dt) : List Int := ds.foldl stepA (List.replicate 32 0)
theorem allF_snoc (ds : List Dt) (d : Dt) : allF (ds ++ [d]) = stepA (allF ds) d := by unfold allF; rw [List.foldl_append]; rfl
theorem stepA_len (n : List Int) (d : Dt) : (stepA n d).length = n.length := by unfold stepA; split <;> simp
theorem allF_len (ds : List Dt) : (allF ds).length = 32 := by
  unfold allF
  have : ∀ (ds : List Dt) (n : List Int), (ds.foldl stepA n).length = n.length := by
    intro ds
    induction ds with
    | nil => intro n; rfl
    | cons d ds ih => intro n; rw [List.foldl_cons, ih, stepA_len]
  rw [this, List.length_replicate]
/-- the vector of how many -/
def ofF (n : List Int) : List Dt := (List.range 32).filterMap fun i => if 0 < n.getD i 0 then some ((i : Int), n.getD i 0) else none
def ofK (n : List Int) (k : Nat) : List Dt := (List.range k).filterMap fun i => if 0 < n.getD i 0 then some ((i : Int), n.getD i 0) else none
theorem ofK_succ (n : List Int) (k : Nat) : ofK n (k + 1) = ofK n k ++ if 0 < n.getD k 0 then [((k : Int), n.getD k 0)] else [] := by
  unfold ofK
  rw [List.range_succ, List.filterMap_append]
  rw [List.filterMap_cons, List.filterMap_nil]
  by_cases h : 0 < n.getD k 0
  · rw [if_pos h, if_pos h]
  · rw [if_neg h, if_neg h]
theorem ofK_len (n : List Int) (k : Nat) : (ofK n k).length ≤ k := by
  unfold ofK
  exact Nat.le_trans (List.length_filterMap_le _ _) (by rw [List.length_range]; exact Nat.le_refl _)
def cmpD (a b : Dt) : Int := if a = b then 0 else if a.1 < b.1 ∨ (a.1 = b.1 ∧ a.2 < b.2) then -1 else 1
def vecR (ds : List Dt) : Rows' := ds.map dotC
theorem vecR_n (ds : List Dt) : ∀ r ∈ vecR ds, r.length = 2 := fun r hr => by
  obtain ⟨d, _, rfl⟩ := List.mem_map.1 hr
  rfl
def shDot : Sh := ⟨34, 26, 2, 16, .agg #[.int .i64 0, .int .i64 0]⟩
theorem shDot_ok : shDot.Ok := ⟨info_parts (by kernel_rfl), by kernel_rfl, by kernel_rfl, by decide, by decide, by decide⟩
def z32 : Array Value := row .i64 (List.replicate 32 0)
theorem zero_a32 (w : World) : (zeroValue 98).run Tryd.prog w = .ok (.agg z32) w := by kernel_rfl
attribute [local irreducible] SlV Lies headG
attribute [local go_sem] takes takesE comesTo
set_option maxHeartbeats 4000000 in
theorem rmay9_any (d : Dt) (w : World) : Calls Tryd.prog 48 #[.agg #[.int .i64 d.1, .int .i64 d.2]] w fun e w' => e = .returned (.bool (mayD d)) ∧ Below w.heap.size w w' := by
  obtain ⟨r, s⟩ := d
  have hb := below1 w (.cells #[.int .i64 r, .int .i64 s] 34)
  have n1 := heap_alloc_new w (.cells #[.int .i64 r, .int .i64 s] 34)
  have c0 := cell_row n1 0 (v := .int .i64 r) (by rfl)
  have c1 := cell_row n1 1 (v := .int .i64 s) (by rfl)
  have HB := Lib.hid hb
  clear hb n1
  by_cases h1 : 0 ≤ r
  · by_cases h2 : r ≤ 31
    · by_cases h3 : 1 ≤ s
      · by_cases h4 : s ≤ 1099511627776
        · rw [show mayD (r, s) = true by simp [mayD, h1, h2, h3, h4]]
          go_enter Tryd.func48, Tryd.ntmps48
          go_wp2_with fail
          go_ret
          exact ⟨rfl, HB.out⟩
        · rw [show mayD (r, s) = false by simp [mayD, h1, h2, h3, h4]]
          go_enter Tryd.func48, Tryd.ntmps48
          go_wp2_with fail
          go_ret
          exact ⟨rfl, HB.out⟩
      · rw [show mayD (r, s) = false by simp [mayD, h1, h2, h3]]
        go_enter Tryd.func48, Tryd.ntmps48
        go_wp2_with fail
        go_ret
        exact ⟨rfl, HB.out⟩
    · rw [show mayD (r, s) = false by simp [mayD, h1, h2]]
      go_enter Tryd.func48, Tryd.ntmps48
      go_wp2_with fail
      go_ret
      exact ⟨rfl, HB.out⟩
  · rw [show mayD (r, s) = false by simp [mayD, h1]]
    go_enter Tryd.func48, Tryd.ntmps48
    go_wp2_with fail
    go_ret
    exact ⟨rfl, HB.out⟩
set_option maxHeartbeats 8000000 in
theorem rall_any (v : Value) (ds : List Dt) (w : World) (hv : RdG 2 w.heap.size w v (vecR ds)) (hn : ds.length ≤ 1000000) :
    Calls Tryd.prog 46 #[v] w fun e w' => e = .returned (.agg (row .i64 (allF ds))) ∧ Below w.heap.size w w' := by
  have hz := zero_a32
  obtain ⟨_, g, o, sv, rg, _⟩ := hv
  obtain ⟨a, c, rfl, hc, hm, ha, _⟩ := by unfold SlV at sv; exact sv
  obtain ⟨n, hN⟩ : ∃ n, n = ds.length := ⟨_, rfl⟩
  have hvl : (vecR ds).length = n := by rw [hN]; simp [vecR]
  rw [hvl] at ha ⊢
  rw [← hN] at hn
  obtain ⟨W1, hW1⟩ : ∃ W, W = w.alloc (.cells z32 98) := ⟨_, rfl⟩
  obtain ⟨W2, hW2⟩ : ∃ W, W = W1.alloc (.cells z32 98) := ⟨_, rfl⟩
  obtain ⟨g1, hg1⟩ : ∃ g, g = w.heap.size := ⟨_, rfl⟩
  obtain ⟨g2, hg2⟩ : ∃ g, g = W1.heap.size := ⟨_, rfl⟩
  have a1 := heap_alloc_new w (.cells z32 98)
  have a2 := heap_alloc_new W1 (.cells z32 98)
  have e1 := below1 w (.cells z32 98)
  have e2 := below1 W1 (.cells z32 98)
  rw [← hW1, ← hg1] at a1
  rw [← hW2, ← hg2] at a2
  rw [← hW1] at e1
  rw [← hW2] at e2
  have e3 : g1 < g2 := by rw [hg2]; exact blk_lt a1
  have HM := Lib.hid (And.intro hW1 (And.intro hW2 (And.intro hg1 hg2)))
  have HA := Lib.hid (And.intro (BC_blk1 e2 a1) (And.intro a2 (And.intro (BC_trans e1 e2) (And.intro e3 (show w.heap.size ≤ g2 by omega)))))
  have HV := Lib.hid (And.intro rg (And.intro hN (And.intro hvl (And.intro ha hn))))
  have hne : ¬ g1 = g2 := by omega
  clear hW1 hW2 hg1 hg2 a1 a2 e1 e2 e3 rg hN hvl ha hn sv hc hm
  go_enter Tryd.func46, Tryd.ntmps46
  go_upto_region 1 with fail
  rw [← HM.out.1, ← HM.out.2.2.1]
  go_upto_region 2 with fail
  rw [← HM.out.2.1, ← HM.out.2.2.2]
  clear hz
  go_wp2_with fail
  go_loopw [4] (fun v4 wr => ∃ i : Nat, i ≤ n ∧ v4 = .int .i64 (i : Int) ∧ wr.heap[g2]? = some (.cells (row .i64 (allF (ds.take i))) 98 (0, 0)) ∧ wr.heap[g1]? = some (.cells z32 98 (0, 0)) ∧ BC w wr) (fun i _ => n - (intOf i).toNat)
  case atStart => exact ⟨0, Nat.zero_le _, rfl, HA.out.2.1, HA.out.1, HA.out.2.2.1⟩
  case round =>
    obtain ⟨i, hi, rfl, hr2, hr1, hbr⟩ := hrel
    obtain ⟨st, hst⟩ : ∃ s, s = allF (ds.take i) := ⟨_, rfl⟩
    rw [← hst] at hr2
    have hsl : st.length = 32 := by rw [hst]; exact allF_len _
    have HR := Lib.hid (And.intro hr2 (And.intro hr1 (And.intro hbr (And.intro hst (And.intro hsl hi)))))
    clear hr2 hr1 hbr hst hsl
    by_cases hlt : i < n
    · have i0 : (0 : Int) ≤ (i : Int) := by omega
      have i1 : (i : Int) < (n : Int) := by omega
      obtain ⟨I1, hI1⟩ : ∃ m, m = i + 1 := ⟨_, rfl⟩
      have s1 : IntKind.i64.wrap ((i : Int) + 1) = (I1 : Int) := by rw [IntKind.wrap_i64]; have := HV.out.2.2.2.2; omega
      have hid : i < ds.length := by rw [← HV.out.2.1]; exact hlt
      have hiv : i < (vecR ds).length := by rw [HV.out.2.2.1]; exact hlt
      obtain rfl := HV.out.2.2.2.1 (by omega)
      have hrg := rangeG_get HV.out.1 (vecR_n ds) hiv
      have hvi : (vecR ds)[i]'hiv = dotC (ds[i]'hid) := by simp [vecR]
      rw [hvi] at hrg
      have htk : ds.take (i + 1) = ds.take i ++ [ds[i]'hid] := List.take_succ_eq_append_getElem hid
      obtain ⟨d, hd⟩ : ∃ d, d = ds[i]'hid := ⟨_, rfl⟩
      rw [← hd] at hrg htk
      obtain ⟨rp, sq⟩ := d
      have c0 : ∀ x : HW (BC wr), x.w.cell? ⟨g, o + i * 2, none⟩ = some (.int .i64 rp) := fun x => later (BC_trans HR.out.2.2.1 x.h) (hrg 0 _ rfl)
      have c1 : ∀ x : HW (BC wr), x.w.cell? ⟨g, o + i * 2 + 1, none⟩ = some (.int .i64 sq) := fun x => later (BC_trans HR.out.2.2.1 x.h) (hrg 1 _ rfl)
      have HFC : Hid (∀ x : HW (BC wr), x.w.rangeAt g (o + i * 2) (#[Value.int .i64 rp, Value.int .i64 sq] : Array Value).toList) := Lib.hid fun x j u hj => later (BC_trans HR.out.2.2.1 x.h) (hrg j u hj)
      have HNX := Lib.hid (show allF (ds.take I1) = stepA st (rp, sq) by rw [hI1, htk, allF_snoc, ← HR.out.2.2.2.1])
      have HI := Lib.hid (And.intro hI1 hlt)
      have HMY := Lib.hid (fun W => rmay9_any (rp, sq) W)
      obtain ⟨m, hmm⟩ : ∃ m, m = mayD (rp, sq) := ⟨_, rfl⟩
      rw [← hmm] at HMY
      have HMM := Lib.hid hmm
      clear hI1 hlt hid hiv hrg hvi htk hd hmm
      cases m with
      | false =>
        have hst2 : allF (ds.take I1) = st := by rw [HNX.out]; unfold stepA; rw [← HMM.out]; rfl
        have HST := Lib.hid hst2
        clear hst2
        go_upto_region 5 with fail
        have hS := BC_all (w := wr)
        haveI := BC_inst wr
        refine wp_region_head (BC wr) 20 (by kernel_rfl) (by kernel_rfl) (BC_start _) ?_
        simp only [List.take_succ_cons, List.take_zero, List.drop_succ_cons, List.drop_zero]
        repeat (first
          | ((with_reducible refine headG_load_mid (o := ⟨some 14, _, _, _, _, _⟩) 34 (.tmp 13) ?_ ?_ _ _ ?_ #[Value.int .i64 rp, Value.int .i64 sq] _ HFC.out Tryd.underlying34 ?_ ?_ ?_); (focus rfl); (focus rfl); (focus rfl); (focus rfl); (focus (kernel_rfl)))
          | (refine headG_step (fun K hK => ?_)
             go_simp
             first
               | (refine hK _ ?_; clear hK K)
               | (apply Exists.intro
                  refine ⟨fun x => ?_, hK _ ?_⟩
                  (go_at_call 48; exact BC_call x (HMY.out x.w))
                  clear hK K)))
        refine headG_nil ?_
        intro wy hby
        have HY := Lib.hid (And.intro (BC_blk1 hby HR.out.1) (And.intro (BC_blk1 hby HR.out.2.1) (BC_trans HR.out.2.2.1 hby)))
        clear hS hby c0 c1
        go_wp2_with fail
        go_roundw
        case rel => exact ⟨I1, by have := HI.out; omega, rfl, by rw [HST.out]; exact HY.out.1, HY.out.2.1, HY.out.2.2⟩
        case measure => have := HI.out; simp [intOf]; omega
      | true =>
        have hmy : 0 ≤ rp ∧ rp ≤ 31 := by
          have h := HMM.out.symm
          simp [mayD] at h
          omega
        obtain ⟨r, hr⟩ : ∃ r : Nat, rp = (r : Int) := ⟨rp.toNat, by omega⟩
        subst hr
        have r0 : (0 : Int) ≤ (r : Int) := by omega
        have r1 : (r : Int) < 32 := by omega
        have r2 : r < st.length := by rw [HR.out.2.2.2.2.1]; omega
        have r3 : r < 32 := by omega
        obtain ⟨nr, hnr⟩ : ∃ x, x = st.getD r 0 := ⟨_, rfl⟩
        have c2 : ∀ x : HW (BC wr), x.w.cell? ⟨g2, r, none⟩ = some (.int .i64 nr) := fun x => by
          refine cell_row (BC_blk1 x.h HR.out.1) r ?_
          rw [hnr]
          simp [row, r2, List.getD]
        have HNR := Lib.hid (And.intro hnr r2)
        clear hmy hnr r2
        rcases Int.lt_or_le nr sq with hlt2 | hle2
        · have hst2 : allF (ds.take I1) = st.set r sq := by rw [HNX.out]; unfold stepA; rw [← HMM.out, Int.toNat_natCast, ← HNR.out.1, decide_eq_true hlt2]; rfl
          have HST := Lib.hid hst2
          clear hst2
          go_upto_region 5 with fail
          have hS := BC_all (w := wr)
          haveI := BC_inst wr
          refine wp_region_head (BC wr) 20 (by kernel_rfl) (by kernel_rfl) (BC_start _) ?_
          simp only [List.take_succ_cons, List.take_zero, List.drop_succ_cons, List.drop_zero]
          repeat (first
            | ((with_reducible refine headG_load_mid (o := ⟨some 14, _, _, _, _, _⟩) 34 (.tmp 13) ?_ ?_ _ _ ?_ #[Value.int .i64 (r : Int), Value.int .i64 sq] _ HFC.out Tryd.underlying34 ?_ ?_ ?_); (focus rfl); (focus rfl); (focus rfl); (focus rfl); (focus (kernel_rfl)))
            | (refine headG_step (fun K hK => ?_)
               go_simp
               first
                 | (refine hK _ ?_; clear hK K)
                 | (apply Exists.intro
                    refine ⟨fun x => ?_, hK _ ?_⟩
                    (go_at_call 48; exact BC_call x (HMY.out x.w))
                    clear hK K)))
          refine headG_nil ?_
          intro wy hby
          have HY := Lib.hid (And.intro (BC_blk1 hby HR.out.1) (And.intro (BC_blk1 hby HR.out.2.1) (BC_trans HR.out.2.2.1 hby)))
          have c0' : ∀ x : HW (BC wy), x.w.cell? ⟨g, o + i * 2, none⟩ = some (.int .i64 (r : Int)) := fun x => c0 ⟨x.w, BC_trans hby x.h⟩
          have c1' : ∀ x : HW (BC wy), x.w.cell? ⟨g, o + i * 2 + 1, none⟩ = some (.int .i64 sq) := fun x => c1 ⟨x.w, BC_trans hby x.h⟩
          clear hS hby c0 c1 c2
          go_upto_region 6 with fail
          have hS := BC_all (w := wy)
          haveI := BC_inst wy
          refine wp_region_head (BC wy) 11 (by kernel_rfl) (by kernel_rfl) (BC_start _) ?_
          simp only [List.take_succ_cons, List.take_zero, List.drop_succ_cons, List.drop_zero]
          repeat (refine headG_step (fun K hK => ?_)
                  go_simp
                  (refine hK _ ?_; clear hK K))
          refine headG_nil ?_
          intro wz hbz
          have q2 := BC_blk1 hbz HY.out.1
          have q1 := BC_blk1 hbz HY.out.2.1
          have f2 := free_row q2 r
          have c2 := cell_row q2 r (v := .int .i64 nr) (by rw [HNR.out.1]; simp [row, HNR.out.2, List.getD])
          have t2 : (wz.setCell ⟨g2, r, none⟩ (.int .i64 sq)).heap[g2]? = some (.cells (row .i64 (st.set r sq)) 98 (0, 0)) := by
            have h := Go.heap_setCell_same wz g2 r _ _ (.int .i64 sq) q2
            rw [h]
            congr 2
            unfold row
            apply Array.toList_inj.1
            simp [List.map_set]
          have t1 : (wz.setCell ⟨g2, r, none⟩ (.int .i64 sq)).heap[g1]? = some (.cells z32 98 (0, 0)) := by rw [heap_setCell_other _ _ _ _ hne]; exact q1
          have tb : BC w (wz.setCell ⟨g2, r, none⟩ (.int .i64 sq)) := Below.setCell (BC_trans HY.out.2.2 hbz) HA.out.2.2.2.2 _
          have HT := Lib.hid (And.intro t2 (And.intro t1 tb))
          clear q2 q1 t2 t1 tb hS hbz c0' c1'
          go_wp2_with fail
          go_roundw
          case rel => exact ⟨I1, by have := HI.out; omega, rfl, by rw [HST.out]; exact HT.out.1, HT.out.2.1, HT.out.2.2⟩
          case measure => have := HI.out; simp [intOf]; omega
        · have hst2 : allF (ds.take I1) = st := by rw [HNX.out]; unfold stepA; rw [← HMM.out, Int.toNat_natCast, ← HNR.out.1, decide_eq_false (by omega)]; rfl
          have HST := Lib.hid hst2
          have hge2 : ¬ nr < sq := by omega
          clear hst2 hle2
          go_upto_region 5 with fail
          have hS := BC_all (w := wr)
          haveI := BC_inst wr
          refine wp_region_head (BC wr) 20 (by kernel_rfl) (by kernel_rfl) (BC_start _) ?_
          simp only [List.take_succ_cons, List.take_zero, List.drop_succ_cons, List.drop_zero]
          repeat (first
            | ((with_reducible refine headG_load_mid (o := ⟨some 14, _, _, _, _, _⟩) 34 (.tmp 13) ?_ ?_ _ _ ?_ #[Value.int .i64 (r : Int), Value.int .i64 sq] _ HFC.out Tryd.underlying34 ?_ ?_ ?_); (focus rfl); (focus rfl); (focus rfl); (focus rfl); (focus (kernel_rfl)))
            | (refine headG_step (fun K hK => ?_)
               go_simp
               first
                 | (refine hK _ ?_; clear hK K)
                 | (apply Exists.intro
                    refine ⟨fun x => ?_, hK _ ?_⟩
                    (go_at_call 48; exact BC_call x (HMY.out x.w))
                    clear hK K)))
          refine headG_nil ?_
          intro wy hby
          have HY := Lib.hid (And.intro (BC_blk1 hby HR.out.1) (And.intro (BC_blk1 hby HR.out.2.1) (BC_trans HR.out.2.2.1 hby)))
          clear hS hby c0 c1 c2
          go_wp2_with fail
          go_roundw
          case rel => exact ⟨I1, by have := HI.out; omega, rfl, by rw [HST.out]; exact HY.out.1, HY.out.2.1, HY.out.2.2⟩
          case measure => have := HI.out; simp [intOf]; omega
    · have hin : i = n := by have := HR.out.2.2.2.2.2; omega
      have hge : ¬ (i : Int) < (n : Int) := by omega
      have hfin : st = allF ds := by rw [HR.out.2.2.2.1, hin, HV.out.2.1, List.take_length]
      have HF := Lib.hid hfin
      have hcz : (row .i64 st).size = 32 := by rw [row_size]; exact HR.out.2.2.2.2.1
      have hc1 : (row .i64 st).all (·.oneCell') = true := row_one _ _
      obtain ⟨RS, hRS⟩ : ∃ R, R = row .i64 st := ⟨_, rfl⟩
      have hq := HR.out.1
      rw [← hRS] at hcz hc1 hq
      have HC := Lib.hid (And.intro hcz (And.intro hc1 (And.intro hRS hq)))
      clear hin hfin hlt hcz hc1 hRS hq
      go_wp2_with (first
        | (refine wpList_load_row rfl 98 _ rfl _ rfl _ _ _ _ HC.out.2.2.2 Tryd.underlying98 rfl (by rw [HC.out.1]; kernel_rfl) ?_)
        | (refine wpList_store_rowTo rfl 98 _ _ rfl rfl _ RS rfl rfl _ _ HR.out.2.1 (by rw [HC.out.1]; kernel_rfl) (by rw [HC.out.1]; kernel_rfl) HC.out.2.1 ?_))
      exact bodyPost_ret (results_cell_row (p := 2) (by kernel_rfl) _ _ _ _ _ _ _ rfl (setRow_heap _ _ _ _ _ _ HR.out.2.1) Tryd.underlying98 rfl (by rw [HC.out.1]; kernel_rfl)) rfl ⟨by rw [HC.out.2.2.1, HF.out], below_row HR.out.2.2.1 (by rw [HM.out.2.2.1]; exact Nat.le_refl _) _⟩
end Go.Proofs.YtagdlbadkmgdmaaDoor
