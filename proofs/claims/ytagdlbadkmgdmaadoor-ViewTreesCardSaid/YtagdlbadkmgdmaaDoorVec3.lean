/- The walks of bindleref10.With, bindleref09.Compare, bindleref12.Knows and Compare. -/
import Derived.Test.YtagdlbadkmgdmaaDoorVec2
import Derived.Test.YtagdlbadkmgdmaaDoorEq
import Derived.Test.YtagdlbadkmgdmaaDoorGuard
import Derived.Laws.StructEq
import Derived.ChangeArms
import Derived.Deep.Cut
namespace Go.Proofs.YtagdlbadkmgdmaaDoor
set_option maxRecDepth 100000
open Go.ChangeShapes Go.WideShapes Go.ChangeAt Go.RowKit

/-- a dot more -/
def withF (ds : List Dt) (d : Dt) : List Dt := ofF (stepA (allF ds) d)
attribute [local irreducible] SlV Lies headG
attribute [local go_sem] takes takesE comesTo
set_option maxHeartbeats 8000000 in
theorem rcompare9_any (a b : Dt) (w : World) :
    Calls Tryd.prog 29 #[.agg #[.int .i64 a.1, .int .i64 a.2], .agg #[.int .i64 b.1, .int .i64 b.2]] w fun e w' => e = .returned (.int .i64 (cmpD a b)) ∧ Below w.heap.size w w' := by
  obtain ⟨p, q⟩ := a
  obtain ⟨r, s⟩ := b
  dsimp only
  have hq := blk2 w (.cells #[.int .i64 p, .int .i64 q] 34) (.cells #[.int .i64 r, .int .i64 s] 34)
  have hb := below2 w (.cells #[.int .i64 p, .int .i64 q] 34) (.cells #[.int .i64 r, .int .i64 s] 34)
  have c0 := cell_row hq.1 0 (v := .int .i64 p) rfl
  have c1 := cell_row hq.1 1 (v := .int .i64 q) rfl
  have d0 := cell_row hq.2 0 (v := .int .i64 r) rfl
  have d1 := cell_row hq.2 1 (v := .int .i64 s) rfl
  have HB := Lib.hid hb
  clear hq hb
  by_cases h1 : p = r
  · subst h1
    by_cases h2 : q = s
    · subst h2
      rw [show cmpD (p, q) (p, q) = 0 by simp [cmpD]]
      go_enter Tryd.func29, Tryd.ntmps29
      go_wp2_with fail
      go_ret
      exact ⟨rfl, HB.out⟩
    · rcases Int.lt_or_le q s with h3 | h3
      · have h4 : (q == s) = false := beq_eq_false_iff_ne.2 h2
        rw [show cmpD (p, q) (p, s) = -1 by unfold cmpD; rw [if_neg (by simp [h2]), if_pos (.inr ⟨rfl, h3⟩)]]
        go_enter Tryd.func29, Tryd.ntmps29
        go_wp2_with fail
        go_ret
        exact ⟨rfl, HB.out⟩
      · have h4 : (q == s) = false := beq_eq_false_iff_ne.2 h2
        have h5 : ¬ q < s := by omega
        rw [show cmpD (p, q) (p, s) = 1 by unfold cmpD; rw [if_neg (by simp [h2]), if_neg (by simp; omega)]]
        go_enter Tryd.func29, Tryd.ntmps29
        go_wp2_with fail
        go_ret
        exact ⟨rfl, HB.out⟩
  · have h4 : (p == r) = false := beq_eq_false_iff_ne.2 h1
    rcases Int.lt_or_le p r with h3 | h3
    · skip
      rw [show cmpD (p, q) (r, s) = -1 by unfold cmpD; rw [if_neg (by simp [h1]), if_pos (.inl h3)]]
      go_enter Tryd.func29, Tryd.ntmps29
      go_wp2_with fail
      go_ret
      exact ⟨rfl, HB.out⟩
    · have h5 : ¬ p < r := by omega
      rw [show cmpD (p, q) (r, s) = 1 by unfold cmpD; rw [if_neg (by simp [h1]), if_neg (by simp; omega)]]
      go_enter Tryd.func29, Tryd.ntmps29
      go_wp2_with fail
      go_ret
      exact ⟨rfl, HB.out⟩
set_option maxHeartbeats 8000000 in
theorem rwith_any (v : Value) (ds : List Dt) (d : Dt) (w : World) (hv : RdG 2 w.heap.size w v (vecR ds)) (hn : ds.length ≤ 1000000) :
    Calls Tryd.prog 27 #[v, .agg #[.int .i64 d.1, .int .i64 d.2]] w fun e w' => ∃ v', e = .returned v' ∧ RdG 2 w'.heap.size w' v' (vecR (withF ds d)) ∧ Below w.heap.size w w' ∧ TyB 34 w' v' := by
  have hz := zero_a32
  have HMY := Lib.hid (fun W => rmay9_any d W)
  obtain ⟨va, vc, hvf⟩ := hv.form
  obtain ⟨r, s⟩ := d
  obtain ⟨m, hm⟩ : ∃ m, m = mayD (r, s) := ⟨_, rfl⟩
  dsimp only at HMY ⊢
  rw [← hm] at HMY
  obtain ⟨C, hC⟩ : ∃ C, C = (#[Value.int .i64 r, Value.int .i64 s] : Array Value) := ⟨_, rfl⟩
  have hCz : C.size = 2 := by rw [hC]; rfl
  have k0 : C[0]? = some (.int .i64 r) := by rw [hC]; rfl
  have k1 : C[1]? = some (.int .i64 s) := by rw [hC]; rfl
  rw [← hC] at HMY ⊢
  obtain ⟨W1, hW1⟩ : ∃ W, W = w.alloc (.cells C 34) := ⟨_, rfl⟩
  obtain ⟨g1, hg1⟩ : ∃ g, g = w.heap.size := ⟨_, rfl⟩
  have a1 := heap_alloc_new w (.cells C 34)
  have e1 := below1 w (.cells C 34)
  rw [← hW1, ← hg1] at a1
  rw [← hW1] at e1
  have HAL := Lib.hid (rall_any v ds W1 (hv.to e1) hn)
  obtain ⟨st, hst⟩ : ∃ s, s = allF ds := ⟨_, rfl⟩
  have hsl : st.length = 32 := by rw [hst]; exact allF_len ds
  obtain ⟨fn, hfn⟩ : ∃ y, y = withF ds (r, s) := ⟨_, rfl⟩
  rw [← hst] at HAL
  rw [← hfn]
  have hfn2 : fn = ofF (stepA st (r, s)) := by rw [hfn, hst]; rfl
  obtain ⟨RA, hRA⟩ : ∃ R, R = row .i64 st := ⟨_, rfl⟩
  have hRz : RA.size = 32 := by rw [hRA, row_size, hsl]
  have hR1 : RA.all (·.oneCell') = true := by rw [hRA]; exact row_one _ _
  rw [← hRA] at HAL
  have HM := Lib.hid (And.intro hW1 (And.intro hg1 (And.intro a1 (And.intro e1 hCz))))
  have HS := Lib.hid (And.intro hfn2 (And.intro hsl (And.intro hRA (And.intro hRz (And.intro hR1 hm)))))
  have HK := Lib.hid (And.intro k0 k1)
  subst hvf
  clear hC hCz k0 k1 hW1 hg1 a1 e1 hst hsl hfn hfn2 hRA hRz hR1 hm hv hn
  go_enter Tryd.func27, Tryd.ntmps27
  go_upto_region 1 with fail
  rw [← HM.out.1, ← HM.out.2.1]
  go_wp2_with fail
  refine HAL.out.mono ?_
  rintro e w2 ⟨rfl, b2⟩
  obtain ⟨W3, hW3⟩ : ∃ W, W = w2.alloc (.cells RA 98) := ⟨_, rfl⟩
  obtain ⟨g3, hg3⟩ : ∃ g, g = w2.heap.size := ⟨_, rfl⟩
  have n3 := heap_alloc_new w2 (.cells RA 98)
  have b3 := below1 w2 (.cells RA 98)
  rw [← hW3, ← hg3] at n3
  rw [← hW3] at b3
  have q1 := BC_blk1 (BC_trans b2 b3) HM.out.2.2.1
  have bw3 := BC_trans (show BC w W1 from HM.out.2.2.2.1) (BC_trans b2 b3)
  have hgw : w.heap.size ≤ g3 := by rw [hg3]; exact (BC_trans (show BC w W1 from HM.out.2.2.2.1) b2).size
  have H3 := Lib.hid (And.intro hW3 (And.intro hg3 (And.intro n3 (And.intro q1 (And.intro bw3 hgw)))))
  have HFR : Hid (∀ x : HW (BC W3), x.w.heap[g1]? = some (.cells C 34 (0, 0))) := Lib.hid (BC_blk q1)
  have c0 : ∀ x : HW (BC W3), x.w.cell? ⟨g1, 0, none⟩ = some (.int .i64 r) := fun x => cell_row (HFR.out x) 0 HK.out.1
  have c1 : ∀ x : HW (BC W3), x.w.cell? ⟨g1, 1, none⟩ = some (.int .i64 s) := fun x => cell_row (HFR.out x) 1 HK.out.2
  clear hW3 hg3 n3 b2 b3 q1 bw3 hgw
  go_upto_region 2 with (refine wpList_store_rowTo rfl 98 _ _ rfl rfl _ RA rfl rfl 98 z32 (heap_alloc_new w2 _) (by rw [HS.out.2.2.2.1]; kernel_rfl) (by rw [HS.out.2.2.2.1]; kernel_rfl) HS.out.2.2.2.2.1 ?_; rw [World.setRow_alloc_new])
  rw [← H3.out.1, ← H3.out.2.1]
  clear hz
  cases m with
  | false =>
    have hff : fn = ofF st := by rw [HS.out.1]; unfold stepA; rw [← HS.out.2.2.2.2.2]; rfl
    have HFF := Lib.hid hff
    clear hff
    have hS := BC_all (w := W3)
    haveI := BC_inst W3
    refine wp_region_head (BC W3) 11 (by kernel_rfl) (by kernel_rfl) (BC_start _) ?_
    simp only [List.take_succ_cons, List.take_zero, List.drop_succ_cons, List.drop_zero]
    repeat (first
      | ((with_reducible refine headG_load_row (o := ⟨some 8, _, _, _, _, _⟩) 34 (.tmp 3) ?_ ?_ _ ?_ _ C _ _ HFR.out Tryd.underlying34 ?_ ?_ ?_); (focus rfl); (focus rfl); (focus rfl); (focus rfl); (focus (rw [HM.out.2.2.2.2]; kernel_rfl)))
      | (refine headG_step (fun K hK => ?_)
         go_simp
         first
           | (refine hK _ ?_; clear hK K)
           | (apply Exists.intro
              refine ⟨fun x => ?_, hK _ ?_⟩
              (go_at_call 48; exact BC_call x (HMY.out x.w))
              clear hK K)))
    refine headG_nil ?_
    intro wy hby
    have q2 := BC_blk1 hby H3.out.2.2.1
    have HOF := Lib.hid (rof_any st HS.out.2.1 wy)
    rw [← HFF.out, ← HS.out.2.2.1] at HOF
    have HT := Lib.hid (And.intro q2 (BC_trans H3.out.2.2.2.2.1 hby))
    clear q2 hS hby c0 c1
    go_wp2_with (refine wpList_load_row rfl 98 _ rfl _ rfl _ _ _ _ HT.out.1 Tryd.underlying98 rfl (by rw [HS.out.2.2.2.1]; kernel_rfl) ?_)
    refine HOF.out.mono ?_
    rintro e w7 ⟨v7, rfl, r7, b7, t7⟩
    have HE := Lib.hid (And.intro r7 (And.intro (BC_trans HT.out.2 b7) t7))
    clear r7 b7 t7
    go_wp2_with fail
    go_ret
    exact ⟨_, rfl, HE.out.1, HE.out.2.1, HE.out.2.2⟩
  | true =>
    have hmy : 0 ≤ r ∧ r ≤ 31 := by
      have h := HS.out.2.2.2.2.2.symm
      simp [mayD] at h
      omega
    obtain ⟨k, hk⟩ : ∃ k : Nat, r = (k : Int) := ⟨r.toNat, by omega⟩
    subst hk
    have r0 : (0 : Int) ≤ (k : Int) := by omega
    have r1 : (k : Int) < 32 := by omega
    have r2 : k < st.length := by rw [HS.out.2.1]; omega
    obtain ⟨nr, hnr⟩ : ∃ x, x = st.getD k 0 := ⟨_, rfl⟩
    have c2 : ∀ x : HW (BC W3), x.w.cell? ⟨g3, k, none⟩ = some (.int .i64 nr) := fun x => by
      refine cell_row (BC_blk1 x.h H3.out.2.2.1) k ?_
      rw [HS.out.2.2.1, hnr]
      simp [row, r2, List.getD]
    have HNR := Lib.hid (And.intro hnr r2)
    clear hmy hnr r2
    rcases Int.lt_or_le nr s with hlt2 | hle2
    · have hff : fn = ofF (st.set k s) := by rw [HS.out.1]; unfold stepA; rw [← HS.out.2.2.2.2.2, Int.toNat_natCast, ← HNR.out.1, decide_eq_true hlt2]; rfl
      have HFF := Lib.hid hff
      clear hff
      have hS := BC_all (w := W3)
      haveI := BC_inst W3
      refine wp_region_head (BC W3) 11 (by kernel_rfl) (by kernel_rfl) (BC_start _) ?_
      simp only [List.take_succ_cons, List.take_zero, List.drop_succ_cons, List.drop_zero]
      repeat (first
        | ((with_reducible refine headG_load_row (o := ⟨some 8, _, _, _, _, _⟩) 34 (.tmp 3) ?_ ?_ _ ?_ _ C _ _ HFR.out Tryd.underlying34 ?_ ?_ ?_); (focus rfl); (focus rfl); (focus rfl); (focus rfl); (focus (rw [HM.out.2.2.2.2]; kernel_rfl)))
        | (refine headG_step (fun K hK => ?_)
           go_simp
           first
             | (refine hK _ ?_; clear hK K)
             | (apply Exists.intro
                refine ⟨fun x => ?_, hK _ ?_⟩
                (go_at_call 48; exact BC_call x (HMY.out x.w))
                clear hK K)))
      refine headG_nil ?_
      intro wy hby
      have q2 := BC_blk1 hby H3.out.2.2.1
      have d0 := c0 ⟨wy, hby⟩
      have d1 := c1 ⟨wy, hby⟩
      have d2 := c2 ⟨wy, hby⟩
      dsimp only at d0 d1 d2
      have f2 := free_row q2 k
      have t2 : (wy.setCell ⟨g3, k, none⟩ (.int .i64 s)).heap[g3]? = some (.cells (row .i64 (st.set k s)) 98 (0, 0)) := by
        have h := Go.heap_setCell_same wy g3 k _ _ (.int .i64 s) q2
        rw [h, HS.out.2.2.1]
        congr 2
        unfold row
        apply Array.toList_inj.1
        simp [List.map_set]
      have tb : BC w (wy.setCell ⟨g3, k, none⟩ (.int .i64 s)) := Below.setCell (BC_trans H3.out.2.2.2.2.1 hby) H3.out.2.2.2.2.2 _
      obtain ⟨W5, hW5⟩ : ∃ W, W = wy.setCell ⟨g3, k, none⟩ (.int .i64 s) := ⟨_, rfl⟩
      rw [← hW5] at t2 tb
      obtain ⟨RB, hRB⟩ : ∃ R, R = row .i64 (st.set k s) := ⟨_, rfl⟩
      have hBz : RB.size = 32 := by rw [hRB, row_size, List.length_set]; exact HS.out.2.1
      have HOF := Lib.hid (rof_any (st.set k s) (by rw [List.length_set]; exact HS.out.2.1) W5)
      rw [← hRB] at t2 HOF
      rw [← HFF.out] at HOF
      have HT := Lib.hid (And.intro t2 (And.intro tb (And.intro hBz hW5)))
      clear q2 t2 tb hS hby c0 c1 c2 hBz hRB hW5
      go_upto_region 4 with fail
      rw [← HT.out.2.2.2]
      go_wp2_with (refine wpList_load_row rfl 98 _ rfl _ rfl _ _ _ _ HT.out.1 Tryd.underlying98 rfl (by rw [HT.out.2.2.1]; kernel_rfl) ?_)
      refine HOF.out.mono ?_
      rintro e w7 ⟨v7, rfl, r7, b7, t7⟩
      have HE := Lib.hid (And.intro r7 (And.intro (BC_trans HT.out.2.1 b7) t7))
      clear r7 b7 t7
      go_wp2_with fail
      go_ret
      exact ⟨_, rfl, HE.out.1, HE.out.2.1, HE.out.2.2⟩
    · have hff : fn = ofF st := by rw [HS.out.1]; unfold stepA; rw [← HS.out.2.2.2.2.2, Int.toNat_natCast, ← HNR.out.1, decide_eq_false (by omega)]; rfl
      have HFF := Lib.hid hff
      have hge2 : ¬ nr < s := by omega
      clear hff hle2
      have hS := BC_all (w := W3)
      haveI := BC_inst W3
      refine wp_region_head (BC W3) 11 (by kernel_rfl) (by kernel_rfl) (BC_start _) ?_
      simp only [List.take_succ_cons, List.take_zero, List.drop_succ_cons, List.drop_zero]
      repeat (first
        | ((with_reducible refine headG_load_row (o := ⟨some 8, _, _, _, _, _⟩) 34 (.tmp 3) ?_ ?_ _ ?_ _ C _ _ HFR.out Tryd.underlying34 ?_ ?_ ?_); (focus rfl); (focus rfl); (focus rfl); (focus rfl); (focus (rw [HM.out.2.2.2.2]; kernel_rfl)))
        | (refine headG_step (fun K hK => ?_)
           go_simp
           first
             | (refine hK _ ?_; clear hK K)
             | (apply Exists.intro
                refine ⟨fun x => ?_, hK _ ?_⟩
                (go_at_call 48; exact BC_call x (HMY.out x.w))
                clear hK K)))
      refine headG_nil ?_
      intro wy hby
      have q2 := BC_blk1 hby H3.out.2.2.1
      have HOF := Lib.hid (rof_any st HS.out.2.1 wy)
      rw [← HFF.out, ← HS.out.2.2.1] at HOF
      have HT := Lib.hid (And.intro q2 (BC_trans H3.out.2.2.2.2.1 hby))
      clear q2 hS hby c0 c1 c2
      go_wp2_with (refine wpList_load_row rfl 98 _ rfl _ rfl _ _ _ _ HT.out.1 Tryd.underlying98 rfl (by rw [HS.out.2.2.2.1]; kernel_rfl) ?_)
      refine HOF.out.mono ?_
      rintro e w7 ⟨v7, rfl, r7, b7, t7⟩
      have HE := Lib.hid (And.intro r7 (And.intro (BC_trans HT.out.2 b7) t7))
      clear r7 b7 t7
      go_wp2_with fail
      go_ret
      exact ⟨_, rfl, HE.out.1, HE.out.2.1, HE.out.2.2⟩
end Go.Proofs.YtagdlbadkmgdmaaDoor
