/- The walk of gather.Wholes. -/
import Derived.Test.YtjnimbhecfpnmaaDig
namespace Go.Proofs.Ytjnimbhecfpnmaa
set_option maxRecDepth 100000
open Go.ChangeShapes Go.WideShapes Go.ChangeAt Go.RowKit
attribute [local irreducible] SlV Lies headG
attribute [local go_sem] takes takesE comesTo
set_option maxHeartbeats 4000000 in
theorem wholes_any (v : Value) (qs : List (Pt × Value)) (w : World) (hv : RdP w.heap.size w v qs) (hn : qs.length ≤ 10000) :
    Calls Try.prog 39 #[v] w fun e w' => ∃ v', e = .returned v' ∧ RdD w'.heap.size w' v' (wholesF (qs.map (·.1))) ∧ Below w.heap.size w w' := by
  have hz := zero_part
  obtain ⟨hg, g, o, sv, rg, _⟩ := hv
  obtain ⟨a, c, rfl, _, _, ha, _⟩ := by unfold SlV at sv; exact sv
  obtain ⟨n, hN⟩ : ∃ n, n = qs.length := ⟨_, rfl⟩
  obtain ⟨ps, hps⟩ : ∃ ps, ps = qs.map (·.1) := ⟨_, rfl⟩
  rw [← hN] at ha ⊢
  rw [← hps]
  have HV := Lib.hid (And.intro hg (And.intro rg (And.intro hN (And.intro ha (And.intro hn hps)))))
  clear hg sv rg hN ha hn hps
  go_enter Try.func39, Try.ntmps39
  go_wp2_with fail
  go_loopw [3, 8] (fun v3 v8 wr => ∃ i : Nat, i ≤ n ∧ v8 = .int .i64 (i : Int) ∧ OwnD w.heap.size wr v3 (wholesF (ps.take i)) ∧ BC w wr) (fun _ i _ => n - (intOf i).toNat)
  case atStart => exact ⟨0, Nat.zero_le _, rfl, OwnD.nil _ _, BC_refl _⟩
  case round =>
    obtain ⟨i, hi, rfl, hown, hbr⟩ := hrel
    have hlps : ps.length = n := by rw [HV.out.2.2.2.2.2, List.length_map]; exact HV.out.2.2.1.symm
    by_cases hlt : i < n
    · have i0 : (0 : Int) ≤ (i : Int) := by omega
      have i1 : (i : Int) < (n : Int) := by omega
      obtain ⟨I1, hI1⟩ : ∃ m, m = i + 1 := ⟨_, rfl⟩
      have hn4 := HV.out.2.2.2.2.1
      have s1 : IntKind.i64.wrap ((i : Int) + 1) = (I1 : Int) := by rw [IntKind.wrap_i64]; have := HV.out.2.2.1; omega
      have hiq : i < qs.length := by rw [← HV.out.2.2.1]; exact hlt
      have hip : i < ps.length := by rw [hlps]; exact hlt
      obtain rfl := HV.out.2.2.2.1 (by omega)
      have hrg := range_get HV.out.2.1 HV.out.1.wh hiq
      have hgd := HV.out.1 _ (List.getElem_mem hiq)
      have htk := wholesF_take hip
      have hpi : ps[i]'hip = (qs[i]'hiq).1 := by simp [HV.out.2.2.2.2.2]
      rw [hpi] at htk
      obtain ⟨q, hq⟩ : ∃ q, q = qs[i]'hiq := ⟨_, rfl⟩
      rw [← hq] at hrg hgd htk
      have h32 := hgd.1.1
      obtain ⟨wk, hwk⟩ : ∃ x, x = q.1.wh := ⟨_, rfl⟩
      rw [← hwk] at h32 htk
      have hmid : ∀ (W : World) (g : Nat), W.heap[g]? = some (.cells (qC q).toArray 26 (0, 0)) → W.rangeAt g 0 (row .u8 wk).toList := fun W g h => by rw [hwk]; exact lies_range (lies_whole h)
      obtain ⟨C, hC⟩ : ∃ C, C = (qC q).toArray := ⟨_, rfl⟩
      have hCz : C.size = 35 := by rw [hC]; exact qC_size hgd.1.1
      have hC1 : C.all (·.oneCell') = true := by
        rw [hC]
        exact pcells_one _ _ _ _ hgd.2.one
      have rga : wr.rangeAt g (o + i * 35) C.toList := fun j u hj => later hbr (hrg j u (by rw [hC] at hj; exact hj))
      rw [← hC] at hmid
      obtain ⟨RE, hRE⟩ : ∃ R, R = row .u8 wk := ⟨_, rfl⟩
      have hEz : RE.size = 32 := by rw [hRE, row_size, h32]
      obtain ⟨W5, hW5⟩ : ∃ W, W = wr.alloc (.cells C 26) := ⟨_, rfl⟩
      obtain ⟨g5, hg5⟩ : ∃ g, g = wr.heap.size := ⟨_, rfl⟩
      have n5 := heap_alloc_new wr (.cells C 26)
      have b5 := below1 wr (.cells C 26)
      rw [← hW5, ← hg5] at n5
      rw [← hW5] at b5
      have hmd := hmid W5 g5 n5
      rw [← hRE] at hmd
      have own5 := hown.below b5
      have hbw5 : BC w W5 := BC_trans hbr b5
      have h32s : ∀ d ∈ wholesF (ps.take i), d.length = 32 := fun d hd => by
        obtain ⟨p, hp, e⟩ := ((wholesF_inv _ (ps.take i) rfl).2.2 d).1 hd
        have hp2 := List.mem_of_mem_take hp
        rw [HV.out.2.2.2.2.2] at hp2
        obtain ⟨q', hq', rfl⟩ := List.mem_map.1 hp2
        rw [← e]; exact HV.out.1.wh q' hq'
      have hlen : (wholesF (ps.take i)).length ≤ 10000 := by
        have := (wholesF_inv _ (ps.take i) rfl).1
        rw [List.length_take] at this; omega
      have hcn := dcontains_any _ (wholesF (ps.take i)) wk h32 W5 (own5.rd h32s) (by omega)
      rw [← hRE] at hcn
      obtain ⟨z, hz'⟩ : ∃ z, z = decide (wk ∈ wholesF (ps.take i)) := ⟨_, rfl⟩
      rw [← hz'] at hcn
      have HCN := Lib.hid hcn
      have H5 := Lib.hid (And.intro n5 (And.intro hbw5 (And.intro hW5 (And.intro hg5 (And.intro own5 hmd)))))
      have HI := Lib.hid (And.intro rga (And.intro hCz (And.intro hC1 (And.intro hRE (And.intro hEz (And.intro hI1 (And.intro hlt (And.intro htk (And.intro h32 (And.intro hlen hz'))))))))))
      clear n5 hbw5 hW5 hg5 own5 hmd hcn rga hCz hC1 hRE hEz hI1 hlt htk h32 hlen hz' b5 hmid hC hwk hq hgd hrg hpi hiq hip hlps hown hbr h32s hn4 hi
      go_upto_region 5 with (first | ((with_reducible refine wlw_load_mid (o := ⟨some 11, _, _, _, _, _⟩) ?_ 26 (.tmp 10) ?_ _ _ ?_ C _ HI.out.1 Try.underlying26 ?_ ?_ ?_); (focus rfl); (focus rfl); (focus rfl); (focus rfl); (focus (rw [HI.out.2.1]; kernel_rfl))) | (refine wpList_store_rowTo rfl 26 _ _ rfl rfl _ C rfl rfl 26 zpart (heap_alloc_new wr _) (by rw [HI.out.2.1]; kernel_rfl) (by rw [HI.out.2.1]; kernel_rfl) HI.out.2.2.1 ?_; rw [World.setRow_alloc_new]))
      rw [← H5.out.2.2.1, ← H5.out.2.2.2.1]
      cases z with
      | true =>
        go_wp2_with ((with_reducible refine wlw_load_mid (o := ⟨some 14, _, _, _, _, _⟩) ?_ 23 (.tmp 13) ?_ _ _ ?_ RE _ H5.out.2.2.2.2.2 Try.underlying23 ?_ ?_ ?_); (focus rfl); (focus rfl); (focus rfl); (focus rfl); (focus (rw [HI.out.2.2.2.2.1]; kernel_rfl)))
        refine HCN.out.mono ?_
        rintro e w6 ⟨rfl, b6⟩
        have hw2 : wholesF (ps.take I1) = wholesF (ps.take i) := by
          rw [HI.out.2.2.2.2.2.1, HI.out.2.2.2.2.2.2.2.1, if_pos (of_decide_eq_true HI.out.2.2.2.2.2.2.2.2.2.2.symm)]
        have h2 := H5.out.2.2.2.2.1.below b6
        rw [← hw2] at h2
        have H6 := Lib.hid (And.intro h2 (BC_trans H5.out.2.1 b6))
        clear h2 b6 hw2
        go_wp2_with fail
        go_roundw
        case rel => exact ⟨I1, by have := HI.out; omega, rfl, H6.out.1, H6.out.2⟩
        case measure => have := HI.out; simp [intOf]; omega
      | false =>
        go_wp2_with ((with_reducible refine wlw_load_mid (o := ⟨some 14, _, _, _, _, _⟩) ?_ 23 (.tmp 13) ?_ _ _ ?_ RE _ H5.out.2.2.2.2.2 Try.underlying23 ?_ ?_ ?_); (focus rfl); (focus rfl); (focus rfl); (focus rfl); (focus (rw [HI.out.2.2.2.2.1]; kernel_rfl)))
        refine HCN.out.mono ?_
        rintro e w6 ⟨rfl, b6⟩
        have h3 := H5.out.2.2.2.2.1.below b6
        have hm6 : w6.rangeAt g5 0 RE.toList := fun j u hj => later b6 (H5.out.2.2.2.2.2 j u hj)
        obtain ⟨W7, hW7⟩ : ∃ W, W = w6.alloc (.cells RE 23) := ⟨_, rfl⟩
        have n7 := heap_alloc_new w6 (.cells RE 23)
        have b7 := below1 w6 (.cells RE 23)
        rw [← hW7] at n7 b7
        have hr7 : W7.rangeAt w6.heap.size 0 (dC wk) := fun j u hj => by
          rw [Nat.zero_add]
          refine cell_row n7 j ?_
          rw [HI.out.2.2.2.1, ← Array.getElem?_toList, row_list]
          exact hj
        have hb7 : BC w W7 := BC_trans (BC_trans H5.out.2.1 b6) b7
        have H7 := Lib.hid (And.intro (h3.below b7) (And.intro hr7 (And.intro hW7 (And.intro hb7 hm6))))
        have HSZ7 := Lib.hid hb7.size
        clear h3 hm6 hW7 n7 b7 hr7 hb7 b6
        go_wp2_with (first
          | ((with_reducible refine wlw_load_mid (o := ⟨some 19, _, _, _, _, _⟩) ?_ 23 (.tmp 18) ?_ _ _ ?_ RE _ H7.out.2.2.2.2 Try.underlying23 ?_ ?_ ?_); (focus rfl); (focus rfl); (focus rfl); (focus rfl); (focus (rw [HI.out.2.2.2.2.1]; kernel_rfl)))
          | ((with_reducible refine wl_build1D (o := ⟨some 20, _, _, _, _, _⟩) ?_ (.tmp 19) ?_ RE ?_ HI.out.2.2.2.2.1 ?_); (focus rfl); (focus rfl); (focus rfl); rw [← H7.out.2.2.1])
          | ((with_reducible refine wl_append1D (o := ⟨some 21, _, _, _, _, _⟩) ?_ (.tmp 17) (.tmp 20) ?_ w.heap.size _ (wholesF (ps.take i)) ?_ H7.out.1 w6.heap.size 0 1 ?_ wk H7.out.2.1 HI.out.2.2.2.2.2.2.2.2.1 ?_ HSZ7.out ?_); (focus rfl); (focus rfl); (focus rfl); (focus rfl); (focus (have := HI.out.2.2.2.2.2.2.2.2.2.1; omega)); intro v8 w8 own8 b8))
        have h2 : OwnD w.heap.size w8 v8 (wholesF (ps.take I1)) := by
          rw [HI.out.2.2.2.2.2.1, HI.out.2.2.2.2.2.2.2.1, if_neg (of_decide_eq_false HI.out.2.2.2.2.2.2.2.2.2.2.symm)]
          exact own8
        have H8 := Lib.hid (And.intro h2 (show BC w w8 from (show Below w.heap.size w W7 from H7.out.2.2.2.1).trans b8))
        clear h2 own8 b8
        go_wp2_with fail
        go_roundw
        case rel => exact ⟨I1, by have := HI.out; omega, rfl, H8.out.1, H8.out.2⟩
        case measure => have := HI.out; simp [intOf]; omega
    · have hin : i = n := by omega
      have hge : ¬ (i : Int) < (n : Int) := by omega
      rw [List.take_of_length_le (by omega)] at hown
      have h32s : ∀ d ∈ wholesF ps, d.length = 32 := fun d hd => by
        obtain ⟨p, hp, e⟩ := ((wholesF_inv _ ps rfl).2.2 d).1 hd
        rw [HV.out.2.2.2.2.2] at hp
        obtain ⟨q', hq', rfl⟩ := List.mem_map.1 hp
        rw [← e]; exact HV.out.1.wh q' hq'
      have HF := Lib.hid (And.intro (hown.rd h32s) hbr)
      clear hlt hown hbr hin hi h32s hlps
      go_wp2_with fail
      go_ret
      exact ⟨_, rfl, HF.out.1, HF.out.2⟩
end Go.Proofs.Ytjnimbhecfpnmaa
