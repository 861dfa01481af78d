/- The statement GatherTells: any parts, with any one added, without a whole's, all their wholes, what they make and what is missing of a size are as the reference tells. No condition. -/
import Derived.Test.YtjnimbhecfpnmaaAwake19
import Derived.Test.YtjnimbhecfpnmaaOpenB
import Derived.Test.YtjnimbhecfpnmaaRAdd
import Derived.Test.YtjnimbhecfpnmaaWhl
import Derived.Test.YtjnimbhecfpnmaaReal
import Derived.Test.YtjnimbhecfpnmaaRWhole
import Derived.Deep.Cut
import Derived.OpenShut
import Derived.ShutString
import Derived.ChangeOld
namespace Go.Proofs.Ytjnimbhecfpnmaa.gatherTellsDone
open Go.ChangeShapes Go.WideShapes Go.ChangeAt Go.RowKit
set_option linter.unusedVariables false
set_option linter.unusedSimpArgs false
set_option maxRecDepth 100000
attribute [local irreducible] SlV Lies headG

attribute [local irreducible] slotG
attribute [local go_sem] takes takesE comesTo comesToP
def addOut (ac : Int) (al : List Pt) (v : Value) (w : World) : Prop := ∃ v' qs', v = .tuple #[v', .int .i64 ac] ∧ RdP w.heap.size w v' qs' ∧ qs'.map (·.1) = al
def addLst (al : List Pt) (v : Value) (w : World) : Prop := ∃ qs', RdP w.heap.size w v qs' ∧ qs'.map (·.1) = al
def whlOut (xb : Bool) (b0 : Nat) (O : List Int) (v : Value) (w : World) : Prop := ∃ v', v = .tuple #[v', .bool xb] ∧ Own b0 w v' O
set_option maxHeartbeats 16000000 in
theorem walk (v0 : Value) (qs : List (Pt × Value)) (wh : List Int) (s a : Int) (u : Value) (b o : Nat) (l : List Int) (z : Int) (hw : wh.length = 32) (hwb : Bytes wh) (hs : (Lit.int .i64 s).wf = true) (ha : (Lit.int .i64 a).wf = true) (hu : SlV u b o l.length) (hb : Bytes l) (hz : (Lit.int .i64 z).wf = true) (w : World) (hp0 : RdP w.heap.size w v0 qs) (hl : Lies w b o l) :
    Calls Try.prog 12 #[v0, .agg (pcells wh s a u).toArray, .int .i64 z] w fun e w' => e = .returned (.bool true) ∧ Below w.heap.size w w' := by
  obtain ⟨pu, hpu⟩ : ∃ q : Pt × Value, q = (⟨wh, s, a, l⟩, u) := ⟨_, rfl⟩
  have hok : pu.1.ok := by rw [hpu]; exact ⟨hw, hwb, hb, hs, ha⟩
  have hheld : Held w.heap.size w pu.2 pu.1.da := by rw [hpu]; exact Held.of_lies hu hl
  have huu := hu
  obtain ⟨pd, cd, rfl, _⟩ := by unfold SlV at huu; exact huu
  obtain ⟨C, hC⟩ : ∃ C, C = (pcells wh s a (.slice pd l.length cd)).toArray := ⟨_, rfl⟩
  have hCq : C = (qC pu).toArray := by rw [hC, hpu]; rfl
  have hCz : C.size = 35 := by rw [hCq]; exact qC_size hok.1
  have k34 : C[34]? = some (.slice pd l.length cd) := by rw [hC]; exact pcells_data hw s a _
  have hpda : pu.1.da = l := by rw [hpu]
  obtain ⟨RW, hRW⟩ : ∃ R, R = row .u8 wh := ⟨_, rfl⟩
  have hRz : RW.size = 32 := by rw [hRW, row_size, hw]
  have hR1 : RW.all (·.oneCell') = true := by rw [hRW]; exact row_one _ _
  rw [← hC]
  obtain ⟨W9, hW9⟩ : ∃ W, W = w.alloc (.cells C 26) := ⟨_, rfl⟩
  obtain ⟨g9, hg9⟩ : ∃ g, g = w.heap.size := ⟨_, rfl⟩
  have n9 := heap_alloc_new w (.cells C 26)
  have b9 := below1 w (.cells C 26)
  rw [← hW9, ← hg9] at n9
  rw [← hW9] at b9
  have hr9 : W9.rangeAt g9 0 RW.toList := by
    rw [hC] at n9
    rw [hRW]
    exact lies_range (lies_whole n9)
  have H9 := Lib.hid (And.intro n9 (And.intro b9 (And.intro hW9 (And.intro hg9 (And.intro hCz (And.intro hCq hr9))))))
  have HPU := Lib.hid (And.intro hok (And.intro hheld (And.intro hpda (And.intro hw (And.intro hwb (And.intro hRW (And.intro hRz hR1)))))))
  have HK34 := Lib.hid k34
  obtain ⟨va, vc, hv0⟩ := hp0.form
  have HSMA := Lib.hid (small_any v0 qs)
  obtain ⟨ps, hps⟩ : ∃ ps, ps = qs.map (·.1) := ⟨_, rfl⟩
  rw [← hps] at HSMA
  obtain ⟨sb, hsb⟩ : ∃ x, x = smallB ps := ⟨_, rfl⟩
  rw [← hsb] at HSMA
  have HV := Lib.hid (And.intro hp0 (And.intro hps (And.intro hsb hv0)))
  obtain ⟨dl, hdl⟩ : ∃ n, n = l.length := ⟨_, rfl⟩
  rw [← hdl] at HK34
  have HDL := Lib.hid hdl
  clear hpu hok hheld huu hu hb hs ha hz hl hw hwb hC hCq hCz k34 hpda hRW hRz hR1 n9 b9 hW9 hg9 hr9 hp0 hps hsb hv0 hdl
  go_enter Try.func12, Try.ntmps12
  go_upto_region 1 with fail
  rw [← H9.out.2.2.1, ← H9.out.2.2.2.1]
  go_wp2_with fail
  refine (awake19_any _).mono ?_
  rintro e wa ⟨rfl, ba⟩
  have hba := BC_trans (show BC w W9 from H9.out.2.1) ba
  have HA := Lib.hid (And.intro hba (And.intro (BC_blk1 ba H9.out.1) (And.intro (HV.out.1.to hba) ba)))
  have HSM := Lib.hid (HSMA.out wa HA.out.2.2.1)
  have c34 := cell_row HA.out.2.1 34 HK34.out
  clear ba hba HSMA
  cases sb with
  | false =>
    go_wp2_with fail
    refine HSM.out.mono ?_
    rintro e wx ⟨rfl, hwb⟩
    subst hwb
    go_wp2_with fail
    go_ret
    exact ⟨rfl, HA.out.1⟩
  | true =>
    rcases Nat.lt_or_ge 300 dl with d1 | d1
    · have d1' : (300 : Int) < (dl : Int) := by omega
      clear d1
      go_wp2_with fail
      refine HSM.out.mono ?_
      rintro e wx ⟨rfl, hwb⟩
      subst hwb
      go_wp2_with fail
      go_ret
      exact ⟨rfl, HA.out.1⟩
    · have d1' : ¬ (300 : Int) < (dl : Int) := by omega
      rcases Int.lt_or_le 3000 z with d2 | d2
      · clear d1
        go_wp2_with fail
        refine HSM.out.mono ?_
        rintro e wx ⟨rfl, hwb⟩
        subst hwb
        go_wp2_with fail
        go_ret
        exact ⟨rfl, HA.out.1⟩
      · have d2' : ¬ (3000 : Int) < z := by omega
        have hin := smallB_in HV.out.2.2.1.symm
        have hqn : qs.length ≤ 20 := by have h := hin.1; rw [HV.out.2.1, List.length_map] at h; exact h
        have HIN : Hid ((∀ q ∈ qs, q.1.da.length ≤ 300 ∧ q.1.sz ≤ 3000) ∧ qs.length ≤ 20 ∧ qs.length ≤ 100000 ∧ pu.1.da.length ≤ 300 ∧ z ≤ 3000) := Lib.hid ⟨fun q hq => hin.2 q.1 (by rw [HV.out.2.1]; exact List.mem_map_of_mem hq), hqn, by omega, by rw [HPU.out.2.2.1, ← HDL.out]; exact d1, d2⟩
        have hzd := zero_dig
        clear d1 d2 hin hqn
        go_upto_region 4 with fail
        refine HSM.out.mono ?_
        rintro e wx ⟨rfl, hwb⟩
        subst hwb
        go_upto_region 4 with fail
        obtain ⟨W8, hW8⟩ : ∃ W, W = wx.alloc (.cells RW 23) := ⟨_, rfl⟩
        obtain ⟨g8, hg8⟩ : ∃ g, g = wx.heap.size := ⟨_, rfl⟩
        have n8 := heap_alloc_new wx (.cells RW 23)
        have b8 := below1 wx (.cells RW 23)
        rw [← hW8, ← hg8] at n8
        rw [← hW8] at b8
        have hrx : wx.rangeAt g9 0 RW.toList := fun j u hj => later (BC_trans HA.out.2.2.2 (BC_refl _)) (H9.out.2.2.2.2.2.2 j u hj)
        have H8 := Lib.hid (And.intro n8 (And.intro (BC_blk1 b8 HA.out.2.1) (And.intro (BC_trans HA.out.1 b8) (And.intro hW8 (And.intro hg8 hrx)))))
        clear n8 b8 hW8 hg8 hrx HSM c34
        go_upto_region 5 with (first
          | ((with_reducible refine wlw_load_mid (o := ⟨some 36, _, _, _, _, _⟩) ?_ 23 (.tmp 35) ?_ _ _ ?_ RW _ H8.out.2.2.2.2.2 Try.underlying23 ?_ ?_ ?_); (focus rfl); (focus rfl); (focus rfl); (focus rfl); (focus (rw [HPU.out.2.2.2.2.2.2.1]; kernel_rfl)))
          | (refine wpList_store_rowTo rfl 23 _ _ rfl rfl _ RW rfl rfl 23 zb32 (heap_alloc_new wx _) (by rw [HPU.out.2.2.2.2.2.2.1]; kernel_rfl) (by rw [HPU.out.2.2.2.2.2.2.1]; kernel_rfl) HPU.out.2.2.2.2.2.2.2 ?_; rw [World.setRow_alloc_new]))
        rw [← H8.out.2.2.2.1, ← H8.out.2.2.2.2.1]
        clear hzd
        have hqm : ∀ q ∈ qs, q.1.da.length ≤ 1000000 := fun q hq => by have := (HIN.out.1 q hq).1; omega
        have hqz : ∀ q ∈ qs, q.1.sz ≤ 1000000 := fun q hq => by have := (HIN.out.1 q hq).2; omega
        have HQ := Lib.hid (And.intro hqm (And.intro hqz (show qs.length ≤ 1000000 by have := HIN.out.2.1; omega)))
        clear hqm hqz
        obtain ⟨ac, hac⟩ : ∃ c, c = (addL ps pu.1).2 := ⟨_, rfl⟩
        obtain ⟨al, hal⟩ : ∃ c, c = (addL ps pu.1).1 := ⟨_, rfl⟩
        have hall : al.length ≤ 21 := by
          have h := addL_len ps pu.1
          rw [← hal, HV.out.2.1, List.length_map] at h
          have := HIN.out.2.1
          omega
        have HAL := Lib.hid (And.intro hac (And.intro hal hall))
        have HAD := Lib.hid (add_any v0 qs pu W8 (HV.out.1.to H8.out.2.2.1) (by have := HIN.out.2.1; omega) HPU.out.1 ((HPU.out.2.1.below H8.out.2.2.1).mono H8.out.2.2.1.size) (by have := HIN.out.2.2.2.1; omega))
        rw [← HV.out.2.1, ← hac, ← hal, ← H9.out.2.2.2.2.2.1] at HAD
        clear hac hal hall
        go_wp2_with ((with_reducible refine wlw_load_row (o := ⟨some 39, _, _, _, _, _⟩) ?_ 26 (.tmp 4) ?_ _ ?_ _ C _ _ H8.out.2.1 Try.underlying26 ?_ ?_ ?_); (focus rfl); (focus rfl); (focus rfl); (focus rfl); (focus (rw [H9.out.2.2.2.2.1]; kernel_rfl)))
        refine HAD.out.mono ?_
        rintro e w5 ⟨v5, q5, rfl, r5, m5, b5⟩
        have H5 := Lib.hid (And.intro (BC_trans H8.out.2.2.1 b5) (And.intro (BC_blk1 b5 H8.out.1) (And.intro (BC_blk1 b5 H8.out.2.1) (And.intro r5 m5))))
        have HVW := Lib.hid (And.intro (HV.out.1.to H5.out.1) H5.out.2.1)
        have HF6 : Hid (∀ x : HW (BC w5), x.w.heap[g9]? = some (.cells C 26 (0, 0))) := Lib.hid (BC_blk H5.out.2.2.1)
        have HRA : Hid (∀ x : HW (BC w5), ∀ v, RdP x.w.heap.size x.w v qs → (qs = [] → v = .slice none 0 0) → Calls Try.prog 37 #[v, .agg C] x.w fun e w' => ∃ v' qs', e = .returned (.tuple #[v', .int .i64 ac]) ∧ RdP w'.heap.size w' v' qs' ∧ qs'.map (·.1) = al ∧ Below x.w.heap.size x.w w') := Lib.hid fun x v h1 h2 => by
          have hb := BC_trans H5.out.1 x.h
          have h := radd_any v qs pu x.w h1 (by have := HIN.out.2.1; omega) HPU.out.1 ((HPU.out.2.1.below hb).mono hb.size) (by have := HIN.out.2.2.2.1; omega) h2
          rw [← HV.out.2.1, ← HAL.out.1, ← HAL.out.2.1, ← H9.out.2.2.2.2.2.1] at h
          exact h
        clear r5 m5 b5 HAD
        go_upto_region 6 with fail
        refine wp_region_slots (by kernel_rfl) (by kernel_rfl) (by kernel_rfl) [none, some (fun v w => RdP w.heap.size w v qs ∧ (qs = [] → v = .slice none 0 0)), none,
          some (addOut ac al), some (addOut ac al),
          some (addLst al), none, some (addLst al), none] ?_
        (refine slotG_oneN (fun K hK => ?_)
         apply Exists.intro
         refine ⟨fun x u hF => ?_, ?_⟩
         (focus (go_simp
                 first
                   | (exact rfl)
                   | (exact ⟨rfl, BC_refl _⟩)))
         apply Exists.intro
         refine ⟨fun u => ?_, ?_⟩
         (focus (go_simp; try exact rfl))
         refine hK _ ?_
         clear hK K)
        refine slotG_someN (i := 1) (fun v w w' hb h => ⟨h.1.to hb, h.2⟩) (fun K hK => ?_)
        refine ⟨fun x u hF => ?_, ?_⟩
        focus
          go_simp
          go_at_call 36
          refine (real_any2 _ qs x.w (HVW.out.1.to x.h) HIN.out.2.2.1).mono ?_
          rintro e w' ⟨v', rfl, h1, h2, h3⟩
          exact ⟨_, rfl, ⟨h1, h2⟩, h3⟩
        apply Exists.intro
        refine ⟨fun u => ?_, ?_⟩
        (focus (go_simp; try exact rfl))
        refine hK _ ?_
        clear hK K
        ((with_reducible refine slotG_row (o := ⟨some 46, _, _, _, _, _⟩) 26 (.tmp 4) ?_ ?_ _ ?_ _ C _ _ HF6.out Try.underlying26 ?_ ?_ ?_); (focus rfl); (focus (exact fun _ => rfl)); (focus (exact fun _ => rfl)); (focus rfl); (focus (rw [H9.out.2.2.2.2.1]; kernel_rfl)); apply Exists.intro; refine ⟨fun u => ?_, ?_⟩; (focus (go_simp; try exact rfl)))
        refine slotG_someN (i := 3) (fun v w w' hb ⟨v', qs', h1, h2, h3⟩ => ⟨v', qs', h1, h2.to hb, h3⟩) (fun K hK => ?_)
        refine ⟨fun x u hF => ?_, ?_⟩
        focus
          have HX := Lib.hid (hF.1 (by kernel_rfl))
          clear hF
          go_simp
          go_at_call 37
          refine (HRA.out x _ HX.out.1 HX.out.2).mono ?_
          rintro e w' ⟨v', qs', rfl, h2, h3, h4⟩
          exact ⟨_, rfl, ⟨v', qs', rfl, h2, h3⟩, h4⟩
        apply Exists.intro
        refine ⟨fun u => ?_, ?_⟩
        (focus (go_simp; try exact rfl))
        refine hK _ ?_
        clear hK K
        refine slotG_someN (i := 4) (fun v w w' hb ⟨v', qs', h1, h2, h3⟩ => ⟨v', qs', h1, h2.to hb, h3⟩) (fun K hK => ?_)
        refine ⟨fun x u hF => ?_, ?_⟩
        focus
          have HX := Lib.hid (hF.1 (by kernel_rfl))
          go_simp
          exact ⟨HX.out, BC_refl _⟩
        apply Exists.intro
        refine ⟨fun u => ?_, ?_⟩
        (focus (go_simp; try exact rfl))
        refine hK _ ?_
        clear hK K
        refine slotG_someN (i := 5) (fun v w w' hb ⟨qs', h2, h3⟩ => ⟨qs', h2.to hb, h3⟩) (fun K hK => ?_)
        refine ⟨fun x u hF => ?_, ?_⟩
        focus
          have HX := Lib.hid (hF.1 (by kernel_rfl))
          clear hF
          go_simp
          have HY := HX.out
          obtain ⟨v', qs', hv', hf⟩ := HY
          have HZ := Lib.hid hf
          clear hf
          go_simp
          exact ⟨⟨qs', HZ.out⟩, BC_refl _⟩
        apply Exists.intro
        refine ⟨fun u => ?_, ?_⟩
        (focus (go_simp; try exact rfl))
        refine hK _ ?_
        clear hK K
        refine slotG_oneN (fun K hK => ?_)
        apply Exists.intro
        refine ⟨fun x u hF => ?_, ?_⟩
        focus
          have HX := Lib.hid (hF.2.1 (by kernel_rfl))
          clear hF
          go_simp
          have HY := HX.out
          obtain ⟨v', _, hv', _⟩ := HY
          go_simp
          exact ⟨rfl, BC_refl _⟩
        apply Exists.intro
        refine ⟨fun u => ?_, ?_⟩
        (focus (go_simp; try exact rfl))
        refine hK _ ?_
        clear hK K
        refine slotG_someN (i := 7) (fun v w w' hb ⟨qs', h2, h3⟩ => ⟨qs', h2.to hb, h3⟩) (fun K hK => ?_)
        refine ⟨fun x u hF => ?_, ?_⟩
        focus
          have HX := Lib.hid (hF.1 (by kernel_rfl))
          go_simp
          exact ⟨HX.out, BC_refl _⟩
        apply Exists.intro
        refine ⟨fun u => ?_, ?_⟩
        (focus (go_simp; try exact rfl))
        refine hK _ ?_
        clear hK K
        (refine slotG_oneN (fun K hK => ?_)
         apply Exists.intro
         refine ⟨fun x u hF => ?_, ?_⟩
         (focus (go_simp
                 first
                   | (exact rfl)
                   | (exact ⟨rfl, BC_refl _⟩)))
         apply Exists.intro
         refine ⟨fun u => ?_, ?_⟩
         (focus (go_simp; try exact rfl))
         refine hK _ ?_
         clear hK K)
        refine slotG_end ?_
        intro w6 u hb6 hF6
        have f6 : addLst al (u 7) w6 := hF6.1
        clear hF6
        generalize u 1 = u1
        generalize u 3 = u3
        generalize u 4 = u4
        generalize u 5 = u5
        generalize u 7 = v11 at f6 ⊢
        clear u
        obtain ⟨q11, r11, m11⟩ := f6
        have H6 := Lib.hid (And.intro (BC_trans H5.out.1 hb6) (And.intro (BC_blk1 hb6 H5.out.2.1) (And.intro (H5.out.2.2.2.1.to hb6) (And.intro r11 m11))))
        have HW6 := Lib.hid (HV.out.1.to H6.out.1)
        clear r11 m11 hb6 HVW HF6 HRA
        obtain ⟨xb, hxb⟩ : ∃ x, x = (wholeF ps wh).isSome := ⟨_, rfl⟩
        obtain ⟨O, hO⟩ : ∃ x, x = (wholeF ps wh).getD [] := ⟨_, rfl⟩
        have HWH := Lib.hid (whole_any v0 qs wh w6 HW6.out HQ.out.2.2 HQ.out.1 HQ.out.2.1 HPU.out.2.2.2.1 HPU.out.2.2.2.2.1)
        rw [← HV.out.2.1, ← hxb, ← hO, ← HPU.out.2.2.2.2.2.1] at HWH
        have HXO := Lib.hid (And.intro hxb hO)
        clear hxb hO
        go_wp2_with ((with_reducible refine wlw_load_row (o := ⟨some 52, _, _, _, _, _⟩) ?_ 23 (.tmp 8) ?_ _ ?_ _ RW _ _ H6.out.2.1 Try.underlying23 ?_ ?_ ?_); (focus rfl); (focus rfl); (focus rfl); (focus rfl); (focus (rw [HPU.out.2.2.2.2.2.2.1]; kernel_rfl)))
        refine HWH.out.mono ?_
        rintro e w7 ⟨v7, rfl, own7, b7⟩
        have H7 := Lib.hid (And.intro (BC_trans H6.out.1 b7) (And.intro (BC_blk1 b7 H6.out.2.1) (And.intro (H6.out.2.2.1.to b7) (And.intro (H6.out.2.2.2.1.to b7) own7))))
        have HW7 := Lib.hid (HV.out.1.to H7.out.1)
        have HF8 : Hid (∀ x : HW (BC w7), x.w.heap[g8]? = some (.cells RW 23 (0, 0))) := Lib.hid (BC_blk H7.out.2.1)
        have HRW : Hid (∀ x : HW (BC w7), ∀ v, RdP x.w.heap.size x.w v qs → Calls Try.prog 38 #[v, .agg RW] x.w fun e w' => ∃ v', e = .returned (.tuple #[v', .bool xb]) ∧ Own x.w.heap.size w' v' O ∧ Below x.w.heap.size x.w w') := Lib.hid fun x v h1 => by
          have h := rwhole_any v qs wh x.w h1 HQ.out.2.2 HQ.out.1 HQ.out.2.1 HPU.out.2.2.2.1
          rw [← HV.out.2.1, ← HXO.out.1, ← HXO.out.2, ← HPU.out.2.2.2.2.2.1] at h
          exact h
        obtain ⟨b0, hb0⟩ : ∃ b, b = w7.heap.size := ⟨_, rfl⟩
        have HB0 := Lib.hid hb0
        clear own7 b7 HWH
        go_upto_region 8 with fail
        clear hb0
        refine wp_region_slots (by kernel_rfl) (by kernel_rfl) (by kernel_rfl) [none, some (fun v w => RdP w.heap.size w v qs), none,
          some (whlOut xb b0 O), some (whlOut xb b0 O),
          some (fun v w => Own b0 w v O), none, some (fun v w => Own b0 w v O), none] ?_
        (refine slotG_oneN (fun K hK => ?_)
         apply Exists.intro
         refine ⟨fun x u hF => ?_, ?_⟩
         (focus (go_simp
                 first
                   | (exact rfl)
                   | (exact ⟨rfl, BC_refl _⟩)))
         apply Exists.intro
         refine ⟨fun u => ?_, ?_⟩
         (focus (go_simp; try exact rfl))
         refine hK _ ?_
         clear hK K)
        refine slotG_someN (i := 1) (fun v w w' hb h => h.to hb) (fun K hK => ?_)
        refine ⟨fun x u hF => ?_, ?_⟩
        focus
          go_simp
          go_at_call 36
          exact (real_any _ qs x.w (HW7.out.to x.h) HIN.out.2.2.1).mono fun e w' ⟨v', h1, h2, h3⟩ => ⟨v', h1, h2, h3⟩
        apply Exists.intro
        refine ⟨fun u => ?_, ?_⟩
        (focus (go_simp; try exact rfl))
        refine hK _ ?_
        clear hK K
        ((with_reducible refine slotG_row (o := ⟨some 59, _, _, _, _, _⟩) 23 (.tmp 8) ?_ ?_ _ ?_ _ RW _ _ HF8.out Try.underlying23 ?_ ?_ ?_); (focus rfl); (focus (exact fun _ => rfl)); (focus (exact fun _ => rfl)); (focus rfl); (focus (rw [HPU.out.2.2.2.2.2.2.1]; kernel_rfl)); apply Exists.intro; refine ⟨fun u => ?_, ?_⟩; (focus (go_simp; try exact rfl)))
        refine slotG_someN (i := 3) (fun v w w' hb ⟨v', h1, h2⟩ => ⟨v', h1, h2.below hb⟩) (fun K hK => ?_)
        refine ⟨fun x u hF => ?_, ?_⟩
        focus
          have HX := Lib.hid (hF.1 (by kernel_rfl))
          clear hF
          go_simp
          go_at_call 38
          refine (HRW.out x _ HX.out).mono ?_
          rintro e w' ⟨v', rfl, h2, h4⟩
          exact ⟨_, rfl, ⟨v', rfl, h2.mono (by rw [HB0.out]; exact x.h.size)⟩, h4⟩
        apply Exists.intro
        refine ⟨fun u => ?_, ?_⟩
        (focus (go_simp; try exact rfl))
        refine hK _ ?_
        clear hK K
        refine slotG_someN (i := 4) (fun v w w' hb ⟨v', h1, h2⟩ => ⟨v', h1, h2.below hb⟩) (fun K hK => ?_)
        refine ⟨fun x u hF => ?_, ?_⟩
        focus
          have HX := Lib.hid (hF.1 (by kernel_rfl))
          go_simp
          exact ⟨HX.out, BC_refl _⟩
        apply Exists.intro
        refine ⟨fun u => ?_, ?_⟩
        (focus (go_simp; try exact rfl))
        refine hK _ ?_
        clear hK K
        refine slotG_someN (i := 5) (fun v w w' hb h => h.below hb) (fun K hK => ?_)
        refine ⟨fun x u hF => ?_, ?_⟩
        focus
          have HX := Lib.hid (hF.1 (by kernel_rfl))
          clear hF
          go_simp
          have HY := HX.out
          obtain ⟨v', hv', hf⟩ := HY
          have HZ := Lib.hid hf
          clear hf
          go_simp
          exact ⟨HZ.out, BC_refl _⟩
        apply Exists.intro
        refine ⟨fun u => ?_, ?_⟩
        (focus (go_simp; try exact rfl))
        refine hK _ ?_
        clear hK K
        refine slotG_oneN (fun K hK => ?_)
        apply Exists.intro
        refine ⟨fun x u hF => ?_, ?_⟩
        focus
          have HX := Lib.hid (hF.2.1 (by kernel_rfl))
          clear hF
          go_simp
          have HY := HX.out
          obtain ⟨v', hv', _⟩ := HY
          go_simp
          exact ⟨rfl, BC_refl _⟩
        apply Exists.intro
        refine ⟨fun u => ?_, ?_⟩
        (focus (go_simp; try exact rfl))
        refine hK _ ?_
        clear hK K
        refine slotG_someN (i := 7) (fun v w w' hb h => h.below hb) (fun K hK => ?_)
        refine ⟨fun x u hF => ?_, ?_⟩
        focus
          have HX := Lib.hid (hF.1 (by kernel_rfl))
          go_simp
          exact ⟨HX.out, BC_refl _⟩
        apply Exists.intro
        refine ⟨fun u => ?_, ?_⟩
        (focus (go_simp; try exact rfl))
        refine hK _ ?_
        clear hK K
        (refine slotG_oneN (fun K hK => ?_)
         apply Exists.intro
         refine ⟨fun x u hF => ?_, ?_⟩
         (focus (go_simp
                 first
                   | (exact rfl)
                   | (exact ⟨rfl, BC_refl _⟩)))
         apply Exists.intro
         refine ⟨fun u => ?_, ?_⟩
         (focus (go_simp; try exact rfl))
         refine hK _ ?_
         clear hK K)
        refine slotG_end ?_
        intro w8 u hb8 hF8
        have f8 : Own b0 w8 (u 7) O := hF8.1
        clear hF8
        generalize u 1 = u1
        generalize u 3 = u3
        generalize u 4 = u4
        generalize u 5 = u5
        generalize u 7 = v15 at f8 ⊢
        clear u
        have HG8 := Lib.hid (And.intro (BC_trans H7.out.1 hb8) (And.intro (BC_blk1 hb8 H7.out.2.1) (And.intro (H7.out.2.2.1.to hb8) (And.intro (H7.out.2.2.2.1.to hb8) (And.intro (H7.out.2.2.2.2.below hb8) f8)))))
        have HW8 := Lib.hid (HV.out.1.to HG8.out.1)
        clear f8 hb8 HW7 HF8 HRW
        have HWL := Lib.hid (wholes_any v0 qs w8 HW8.out (by have := HIN.out.2.1; omega))
        rw [← HV.out.2.1] at HWL
        go_wp2_with fail
        refine HWL.out.mono ?_
        rintro e w10 ⟨v17, rfl, rd17, b10⟩
        have H10 := Lib.hid (And.intro (BC_trans HG8.out.1 b10) (And.intro (BC_blk1 b10 HG8.out.2.1) (And.intro rd17 b10)))
        have HR10 := Lib.hid (real_any v0 qs w10 (HV.out.1.to H10.out.1) HIN.out.2.2.1)
        clear rd17 b10 HWL
        go_wp2_with fail
        refine HR10.out.mono ?_
        rintro e w11 ⟨v66, rfl, rd66, b11⟩
        have HRL := Lib.hid (rwholes_any v66 qs w11 rd66 (by have := HIN.out.2.1; omega))
        rw [← HV.out.2.1] at HRL
        have H11 := Lib.hid (And.intro (BC_trans H10.out.1 b11) (And.intro (BC_blk1 b11 H10.out.2.1) (And.intro (H10.out.2.2.1.to b11) (BC_trans H10.out.2.2.2 b11))))
        clear rd66 b11 HR10
        go_wp2_with fail
        refine HRL.out.mono ?_
        rintro e w12 ⟨v18, rfl, rd18, b12⟩
        obtain ⟨ds, hds⟩ : ∃ ds, ds = wholesF ps := ⟨_, rfl⟩
        have rd17 := H11.out.2.2.1.to b12
        rw [← hds] at rd17 rd18
        obtain ⟨hd32, gd, od, sd, rgd, _⟩ := rd17
        obtain ⟨pd1, cd1, rfl, _, _, hpd1, _⟩ := by unfold SlV at sd; exact sd
        obtain ⟨_, ge, oe, se, rge, _⟩ := rd18
        obtain ⟨pd2, cd2, rfl, _, _, hpd2, _⟩ := by unfold SlV at se; exact se
        obtain ⟨M, hM⟩ : ∃ M, M = ds.length := ⟨_, rfl⟩
        rw [← hM] at hpd1 hpd2 ⊢
        have hmn : M ≤ 20 := by
          have h := (wholesF_inv _ ps rfl).1
          rw [← hds, ← hM, HV.out.2.1, List.length_map] at h
          have := HIN.out.2.1
          omega
        have H12 := Lib.hid (And.intro (BC_trans H11.out.1 b12) (And.intro (BC_blk1 b12 H11.out.2.1) (And.intro (BC_trans H11.out.2.2.2 b12) (And.intro hd32 (And.intro rgd (And.intro rge (And.intro hpd1 (And.intro hpd2 (And.intro hM hmn)))))))))
        clear hds hd32 sd rgd hpd1 se rge hpd2 hM hmn b12 HRL
        go_wp2_with fail
        go_loopw [19] (fun v19 wr => ∃ i : Nat, i ≤ M ∧ v19 = .int .i64 (i : Int) ∧ BC w12 wr) (fun i _ => M - (intOf i).toNat)
        case atStart => exact ⟨0, Nat.zero_le _, rfl, BC_refl _⟩
        case round =>
          obtain ⟨i, hi, rfl, hbr⟩ := hrel
          have HR := Lib.hid (And.intro hi hbr)
          clear hi hbr
          by_cases hlt : i < M
          · have i0 : (0 : Int) ≤ (i : Int) := by omega
            have i1 : (i : Int) < (M : Int) := by omega
            obtain ⟨I1, hI1⟩ : ∃ m, m = i + 1 := ⟨_, rfl⟩
            have s1 : IntKind.i64.wrap ((i : Int) + 1) = (I1 : Int) := by rw [IntKind.wrap_i64]; have := H12.out.2.2.2.2.2.2.2.2.2; omega
            have hid : i < ds.length := by rw [← H12.out.2.2.2.2.2.2.2.2.1]; exact hlt
            obtain rfl := H12.out.2.2.2.2.2.2.1 (by omega)
            obtain rfl := H12.out.2.2.2.2.2.2.2.1 (by omega)
            have hr1 := rangeD_get H12.out.2.2.2.2.1 H12.out.2.2.2.1 hid
            have hr2 := rangeD_get H12.out.2.2.2.2.2.1 H12.out.2.2.2.1 hid
            have hd := H12.out.2.2.2.1 _ (List.getElem_mem hid)
            obtain ⟨d, hdd⟩ : ∃ d, d = ds[i]'hid := ⟨_, rfl⟩
            rw [← hdd] at hr1 hr2 hd
            obtain ⟨RE, hRE⟩ : ∃ R, R = row .u8 d := ⟨_, rfl⟩
            have hEz : RE.size = 32 := by rw [hRE, row_size, hd]
            have hneq : ∀ w, (binOp .neq 23 (.agg RE) (.agg RE)).run Try.prog w = .ok (.bool false) w := fun w => by
              have h := run_neq_row w 23 5 32 .u8 Try.underlying23 Try.underlying5 (by kernel_rfl) d d hd hd
              rw [← hRE, decide_eq_true rfl] at h
              exact h
            have HE1 : Hid (∀ x : HW (BC wr), x.w.rangeAt gd (od + i * 32) RE.toList) := Lib.hid fun x j u hj => later (BC_trans HR.out.2 x.h) (hr1 j u (by rw [hRE] at hj; exact hj))
            have HE2 : Hid (∀ x : HW (BC wr), x.w.rangeAt ge (oe + i * 32) RE.toList) := Lib.hid fun x j u hj => later (BC_trans HR.out.2 x.h) (hr2 j u (by rw [hRE] at hj; exact hj))
            have HEz := Lib.hid hEz
            have HI := Lib.hid (And.intro hI1 hlt)
            clear hI1 hlt hid hr1 hr2 hd hdd hRE hEz
            go_upto_region 16 with fail
            have hS := BC_all (w := wr)
            haveI := BC_inst wr
            refine wp_region_head (BC wr) 9 (by kernel_rfl) (by kernel_rfl) (BC_start _) ?_
            simp only [List.take_succ_cons, List.take_zero, List.drop_succ_cons, List.drop_zero]
            repeat (first
              | ((with_reducible refine headG_load_mid (o := ⟨some 82, _, _, _, _, _⟩) 23 (.tmp 81) ?_ ?_ _ _ ?_ RE _ HE1.out Try.underlying23 ?_ ?_ ?_); (focus rfl); (focus rfl); (focus rfl); (focus rfl); (focus (rw [HEz.out]; kernel_rfl)))
              | ((with_reducible refine headG_load_mid (o := ⟨some 86, _, _, _, _, _⟩) 23 (.tmp 85) ?_ ?_ _ _ ?_ RE _ HE2.out Try.underlying23 ?_ ?_ ?_); (focus rfl); (focus rfl); (focus rfl); (focus rfl); (focus (rw [HEz.out]; kernel_rfl)))
              | (refine headG_step (fun K hK => ?_)
                 go_simp
                 (refine hK _ ?_; clear hK K)))
            refine headG_nil ?_
            intro wy hby
            have HY := Lib.hid (BC_trans HR.out.2 hby)
            clear hS hby hneq
            go_wp2_with fail
            go_roundw
            case rel => exact ⟨I1, by have := HI.out; omega, rfl, HY.out⟩
            case measure => have := HI.out; simp [intOf]; omega
          · have hge : ¬ (i : Int) < (M : Int) := by omega
            have hbz := BC_trans H12.out.1 HR.out.2
            have hb8 := BC_trans H12.out.2.2.1 HR.out.2
            have HZ := Lib.hid (And.intro hbz (And.intro (BC_blk1 HR.out.2 H12.out.2.1) (And.intro (HV.out.1.to hbz) (And.intro (HG8.out.2.2.1.to hb8) (And.intro (HG8.out.2.2.2.1.to hb8) (And.intro (HG8.out.2.2.2.2.1.below hb8) (HG8.out.2.2.2.2.2.below hb8)))))))
            clear hlt hbz hb8
            have conv1 : ∀ x : HW (BC wr), (convert 24 9 v7).run Try.prog x.w = .ok (.string (strOfNums O)) x.w := fun x => by
              obtain ⟨gx, sx, lx, _⟩ := HZ.out.2.2.2.2.2.1.slv
              exact conv_slv gx 0 _ O sx x.w (lx.below' x.h)
            have conv2 : ∀ x : HW (BC wr), (convert 24 9 v15).run Try.prog x.w = .ok (.string (strOfNums O)) x.w := fun x => by
              obtain ⟨gx, sx, lx, _⟩ := HZ.out.2.2.2.2.2.2.slv
              exact conv_slv gx 0 _ O sx x.w (lx.below' x.h)
            obtain ⟨SO, hSO⟩ : ∃ S, S = strOfNums O := ⟨_, rfl⟩
            rw [← hSO] at conv1 conv2
            clear hSO
            obtain ⟨r, hr⟩ : ∃ r, r = missF ps wh z := ⟨_, rfl⟩
            have HMS : Hid (∀ x : HW (BC wr), Calls Try.prog 32 #[v0, .agg RW, .int .i64 z] x.w fun e w' => e = .returned (.int .i64 r) ∧ Below x.w.heap.size x.w w') := Lib.hid fun x => by
              have h := missing_any v0 qs wh z x.w (HZ.out.2.2.1.to x.h) HQ.out.2.2 HQ.out.1 HPU.out.2.2.2.1 (by have := HIN.out.2.2.2.2; omega)
              rw [← HV.out.2.1, ← hr, ← HPU.out.2.2.2.2.2.1] at h
              exact h
            have HRM : Hid (∀ x : HW (BC wr), ∀ v, RdP x.w.heap.size x.w v qs → Calls Try.prog 42 #[v, .agg RW, .int .i64 z] x.w fun e w' => e = .returned (.int .i64 r) ∧ Below x.w.heap.size x.w w') := Lib.hid fun x v h1 => by
              have h := rmissing_any v qs wh z x.w h1 HQ.out.2.2 HQ.out.1 HPU.out.2.2.2.1 (by have := HIN.out.2.2.2.2; omega)
              rw [← HV.out.2.1, ← hr, ← HPU.out.2.2.2.2.2.1] at h
              exact h
            obtain ⟨cl, hcl⟩ : ∃ c, c = qs.filter (fun q => !decide (q.1.wh = wh)) := ⟨_, rfl⟩
            have hcn : cl.length ≤ 20 := by rw [hcl]; exact Nat.le_trans (List.length_filter_le _ _) HIN.out.2.1
            have HCL : Hid (∀ x : HW (BC wr), Calls Try.prog 34 #[v0, .agg RW] x.w fun e w' => ∃ v', e = .returned v' ∧ RdP w'.heap.size w' v' cl ∧ Below x.w.heap.size x.w w') := Lib.hid fun x => by
              have h := clear_any v0 qs wh HPU.out.2.2.2.1 x.w (HZ.out.2.2.1.to x.h) (by have := HIN.out.2.1; omega)
              rw [← hcl, ← HPU.out.2.2.2.2.2.1] at h
              exact h
            have HRC : Hid (∀ x : HW (BC wr), ∀ v, RdP x.w.heap.size x.w v qs → Calls Try.prog 41 #[v, .agg RW] x.w fun e w' => ∃ v', e = .returned v' ∧ RdP w'.heap.size w' v' cl ∧ Below x.w.heap.size x.w w') := Lib.hid fun x v h1 => by
              have h := rclear_any v qs wh HPU.out.2.2.2.1 x.w h1 (by have := HIN.out.2.1; omega)
              rw [← hcl, ← HPU.out.2.2.2.2.2.1] at h
              exact h
            have hn5 : q5.length ≤ 21 := by have h := congrArg List.length H5.out.2.2.2.2; rw [List.length_map] at h; rw [h]; exact HAL.out.2.2
            have hme : q5.map (·.1) = q11.map (·.1) := by rw [H5.out.2.2.2.2, H6.out.2.2.2.2]
            have HN5 := Lib.hid (And.intro hn5 (And.intro hme hcn))
            have HFZ : Hid (∀ x : HW (BC wr), x.w.heap[g8]? = some (.cells RW 23 (0, 0))) := Lib.hid (BC_blk HZ.out.2.1)
            clear hr hcl hn5 hme hcn
            go_upto_region 18 with fail
            refine wp_region_slots (by kernel_rfl) (by kernel_rfl) (by kernel_rfl) [none, none, none, some (fun v w => RdP w.heap.size w v q5), none, none, none, none, none, none, none, none, none, none, none, none, none, none, none, none, none, none, none, none, none, none, none, some (fun v w => RdP w.heap.size w v cl), some (fun v w => RdP w.heap.size w v cl), none, some (fun v w => RdP w.heap.size w v qs), none, some (fun v w => RdP w.heap.size w v cl), none, none, none, none, none, none, none, none, some (fun v w => RdP w.heap.size w v qs), none, none, none, none, none, none] ?_
            (refine slotG_oneN (fun K hK => ?_)
             apply Exists.intro
             refine ⟨fun x u hF => ?_, ?_⟩
             (focus (go_simp
                     first
                       | (exact rfl)
                       | (exact ⟨rfl, BC_refl _⟩)))
             apply Exists.intro
             refine ⟨fun u => ?_, ?_⟩
             (focus (go_simp; try exact rfl))
             refine hK _ ?_
             clear hK K)
            (refine slotG_oneN (fun K hK => ?_)
             apply Exists.intro
             refine ⟨fun x u hF => ?_, ?_⟩
             (focus (go_simp
                     first
                       | (exact rfl)
                       | (exact ⟨rfl, BC_refl _⟩)))
             apply Exists.intro
             refine ⟨fun u => ?_, ?_⟩
             (focus (go_simp; try exact rfl))
             refine hK _ ?_
             clear hK K)
            (refine slotG_oneN (fun K hK => ?_)
             apply Exists.intro
             refine ⟨fun x u hF => ?_, ?_⟩
             (focus (go_simp
                     first
                       | (exact rfl)
                       | (exact ⟨rfl, BC_refl _⟩)))
             apply Exists.intro
             refine ⟨fun u => ?_, ?_⟩
             (focus (go_simp; try exact rfl))
             refine hK _ ?_
             clear hK K)
            refine slotG_someN (i := 3) (fun v w w' hb h => h.to hb) (fun K hK => ?_)
            refine ⟨fun x u hF => ?_, ?_⟩
            focus
              go_simp
              go_at_call 36
              exact (real_any v5 q5 x.w (HZ.out.2.2.2.1.to x.h) (by have := HN5.out.1; omega)).mono fun e w' ⟨v', h1, h2, h3⟩ => ⟨v', h1, h2, h3⟩
            apply Exists.intro
            refine ⟨fun u => ?_, ?_⟩
            (focus (go_simp; try exact rfl))
            refine hK _ ?_
            clear hK K
            (refine slotG_oneN (fun K hK => ?_)
             apply Exists.intro
             refine ⟨fun x u hF => ?_, ?_⟩
             (focus (go_simp
                     first
                       | (exact rfl)
                       | (exact ⟨rfl, BC_refl _⟩)))
             apply Exists.intro
             refine ⟨fun u => ?_, ?_⟩
             (focus (go_simp; try exact rfl))
             refine hK _ ?_
             clear hK K)
            refine slotG_oneN (fun K hK => ?_)
            apply Exists.intro
            refine ⟨fun x u hF => ?_, ?_⟩
            focus
              have HX := Lib.hid (hF.1 (by kernel_rfl))
              clear hF
              go_simp
              go_at_call 35
              exact list_any _ v11 q5 q11 x.w HX.out (HZ.out.2.2.2.2.1.to x.h) (by have := HN5.out.1; omega) HN5.out.2.1
            apply Exists.intro
            refine ⟨fun u => ?_, ?_⟩
            (focus (go_simp; try exact rfl))
            refine hK _ ?_
            clear hK K
            (refine slotG_oneN (fun K hK => ?_)
             apply Exists.intro
             refine ⟨fun x u hF => ?_, ?_⟩
             (focus (go_simp
                     first
                       | (exact rfl)
                       | (exact ⟨rfl, BC_refl _⟩)))
             apply Exists.intro
             refine ⟨fun u => ?_, ?_⟩
             (focus (go_simp; try exact rfl))
             refine hK _ ?_
             clear hK K)
            (refine slotG_oneN (fun K hK => ?_)
             apply Exists.intro
             refine ⟨fun x u hF => ?_, ?_⟩
             (focus (go_simp
                     first
                       | (exact rfl)
                       | (exact ⟨rfl, BC_refl _⟩)))
             apply Exists.intro
             refine ⟨fun u => ?_, ?_⟩
             (focus (go_simp; try exact rfl))
             refine hK _ ?_
             clear hK K)
            (refine slotG_oneN (fun K hK => ?_)
             apply Exists.intro
             refine ⟨fun x u hF => ?_, ?_⟩
             (focus (go_simp
                     first
                       | (exact rfl)
                       | (exact ⟨rfl, BC_refl _⟩)))
             apply Exists.intro
             refine ⟨fun u => ?_, ?_⟩
             (focus (go_simp; try exact rfl))
             refine hK _ ?_
             clear hK K)
            (refine slotG_oneN (fun K hK => ?_)
             apply Exists.intro
             refine ⟨fun x u hF => ?_, ?_⟩
             (focus (go_simp
                     first
                       | (exact rfl)
                       | (exact ⟨rfl, BC_refl _⟩)))
             apply Exists.intro
             refine ⟨fun u => ?_, ?_⟩
             (focus (go_simp; try exact rfl))
             refine hK _ ?_
             clear hK K)
            (refine slotG_oneN (fun K hK => ?_)
             apply Exists.intro
             refine ⟨fun x u hF => ?_, ?_⟩
             (focus (go_simp
                     first
                       | (exact rfl)
                       | (exact ⟨rfl, BC_refl _⟩)))
             apply Exists.intro
             refine ⟨fun u => ?_, ?_⟩
             (focus (go_simp; try exact rfl))
             refine hK _ ?_
             clear hK K)
            (refine slotG_oneN (fun K hK => ?_)
             apply Exists.intro
             refine ⟨fun x u hF => ?_, ?_⟩
             (focus (go_simp
                     first
                       | (exact rfl)
                       | (exact ⟨rfl, BC_refl _⟩)))
             apply Exists.intro
             refine ⟨fun u => ?_, ?_⟩
             (focus (go_simp; try exact rfl))
             refine hK _ ?_
             clear hK K)
            (refine slotG_oneN (fun K hK => ?_)
             apply Exists.intro
             refine ⟨fun x u hF => ?_, ?_⟩
             (focus (go_simp
                     first
                       | (exact rfl)
                       | (exact ⟨rfl, BC_refl _⟩)))
             apply Exists.intro
             refine ⟨fun u => ?_, ?_⟩
             (focus (go_simp; try exact rfl))
             refine hK _ ?_
             clear hK K)
            (refine slotG_oneN (fun K hK => ?_)
             apply Exists.intro
             refine ⟨fun x u hF => ?_, ?_⟩
             (focus (go_simp
                     first
                       | (exact rfl)
                       | (exact ⟨rfl, BC_refl _⟩)))
             apply Exists.intro
             refine ⟨fun u => ?_, ?_⟩
             (focus (go_simp; try exact rfl))
             refine hK _ ?_
             clear hK K)
            (refine slotG_oneN (fun K hK => ?_)
             apply Exists.intro
             refine ⟨fun x u hF => ?_, ?_⟩
             (focus (go_simp
                     first
                       | (exact rfl)
                       | (exact ⟨rfl, BC_refl _⟩)))
             apply Exists.intro
             refine ⟨fun u => ?_, ?_⟩
             (focus (go_simp; try exact rfl))
             refine hK _ ?_
             clear hK K)
            (refine slotG_oneN (fun K hK => ?_)
             apply Exists.intro
             refine ⟨fun x u hF => ?_, ?_⟩
             (focus (go_simp
                     first
                       | (exact rfl)
                       | (exact ⟨rfl, BC_refl _⟩)))
             apply Exists.intro
             refine ⟨fun u => ?_, ?_⟩
             (focus (go_simp; try exact rfl))
             refine hK _ ?_
             clear hK K)
            (refine slotG_oneN (fun K hK => ?_)
             apply Exists.intro
             refine ⟨fun x u hF => ?_, ?_⟩
             (focus (go_simp
                     first
                       | (exact rfl)
                       | (exact ⟨rfl, BC_refl _⟩)))
             apply Exists.intro
             refine ⟨fun u => ?_, ?_⟩
             (focus (go_simp; try exact rfl))
             refine hK _ ?_
             clear hK K)
            (refine slotG_oneN (fun K hK => ?_)
             apply Exists.intro
             refine ⟨fun x u hF => ?_, ?_⟩
             (focus (go_simp
                     first
                       | (exact rfl)
                       | (exact ⟨rfl, BC_refl _⟩)))
             apply Exists.intro
             refine ⟨fun u => ?_, ?_⟩
             (focus (go_simp; try exact rfl))
             refine hK _ ?_
             clear hK K)
            (refine slotG_oneN (fun K hK => ?_)
             apply Exists.intro
             refine ⟨fun x u hF => ?_, ?_⟩
             (focus (go_simp
                     first
                       | (exact rfl)
                       | (exact ⟨rfl, BC_refl _⟩)))
             apply Exists.intro
             refine ⟨fun u => ?_, ?_⟩
             (focus (go_simp; try exact rfl))
             refine hK _ ?_
             clear hK K)
            (refine slotG_oneN (fun K hK => ?_)
             apply Exists.intro
             refine ⟨fun x u hF => ?_, ?_⟩
             (focus (go_simp
                     first
                       | (exact rfl)
                       | (exact ⟨rfl, BC_refl _⟩)))
             apply Exists.intro
             refine ⟨fun u => ?_, ?_⟩
             (focus (go_simp; try exact rfl))
             refine hK _ ?_
             clear hK K)
            (refine slotG_oneN (fun K hK => ?_)
             apply Exists.intro
             refine ⟨fun x u hF => ?_, ?_⟩
             (focus (go_simp
                     first
                       | (exact rfl)
                       | (exact ⟨rfl, BC_refl _⟩)))
             apply Exists.intro
             refine ⟨fun u => ?_, ?_⟩
             (focus (go_simp; try exact rfl))
             refine hK _ ?_
             clear hK K)
            (refine slotG_oneN (fun K hK => ?_)
             apply Exists.intro
             refine ⟨fun x u hF => ?_, ?_⟩
             (focus (go_simp
                     first
                       | (exact rfl)
                       | (exact ⟨rfl, BC_refl _⟩)))
             apply Exists.intro
             refine ⟨fun u => ?_, ?_⟩
             (focus (go_simp; try exact rfl))
             refine hK _ ?_
             clear hK K)
            (refine slotG_oneN (fun K hK => ?_)
             apply Exists.intro
             refine ⟨fun x u hF => ?_, ?_⟩
             (focus (go_simp
                     first
                       | (exact rfl)
                       | (exact ⟨rfl, BC_refl _⟩)))
             apply Exists.intro
             refine ⟨fun u => ?_, ?_⟩
             (focus (go_simp; try exact rfl))
             refine hK _ ?_
             clear hK K)
            (refine slotG_oneN (fun K hK => ?_)
             apply Exists.intro
             refine ⟨fun x u hF => ?_, ?_⟩
             (focus (go_simp
                     first
                       | (exact rfl)
                       | (exact ⟨rfl, BC_refl _⟩)))
             apply Exists.intro
             refine ⟨fun u => ?_, ?_⟩
             (focus (go_simp; try exact rfl))
             refine hK _ ?_
             clear hK K)
            (refine slotG_oneN (fun K hK => ?_)
             apply Exists.intro
             refine ⟨fun x u hF => ?_, ?_⟩
             (focus (go_simp
                     first
                       | (exact rfl)
                       | (exact ⟨rfl, BC_refl _⟩)))
             apply Exists.intro
             refine ⟨fun u => ?_, ?_⟩
             (focus (go_simp; try exact rfl))
             refine hK _ ?_
             clear hK K)
            (refine slotG_oneN (fun K hK => ?_)
             apply Exists.intro
             refine ⟨fun x u hF => ?_, ?_⟩
             (focus (go_simp
                     first
                       | (exact rfl)
                       | (exact ⟨rfl, BC_refl _⟩)))
             apply Exists.intro
             refine ⟨fun u => ?_, ?_⟩
             (focus (go_simp; try exact rfl))
             refine hK _ ?_
             clear hK K)
            ((with_reducible refine slotG_row (o := ⟨some 114, _, _, _, _, _⟩) 23 (.tmp 8) ?_ ?_ _ ?_ _ RW _ _ HFZ.out Try.underlying23 ?_ ?_ ?_); (focus rfl); (focus (exact fun _ => rfl)); (focus (exact fun _ => rfl)); (focus rfl); (focus (rw [HPU.out.2.2.2.2.2.2.1]; kernel_rfl)); apply Exists.intro; refine ⟨fun u => ?_, ?_⟩; (focus (go_simp; try exact rfl)))
            refine slotG_someN (i := 27) (fun v w w' hb h => h.to hb) (fun K hK => ?_)
            refine ⟨fun x u hF => ?_, ?_⟩
            focus
              go_simp
              go_at_call 34
              exact (HCL.out x).mono fun e w' ⟨v', h1, h2, h3⟩ => ⟨v', h1, h2, h3⟩
            apply Exists.intro
            refine ⟨fun u => ?_, ?_⟩
            (focus (go_simp; try exact rfl))
            refine hK _ ?_
            clear hK K
            refine slotG_someN (i := 28) (fun v w w' hb h => h.to hb) (fun K hK => ?_)
            refine ⟨fun x u hF => ?_, ?_⟩
            focus
              have HX := Lib.hid (hF.1 (by kernel_rfl))
              clear hF
              go_simp
              go_at_call 36
              exact (real_any _ cl x.w HX.out (by have := HN5.out.2.2; omega)).mono fun e w' ⟨v', h1, h2, h3⟩ => ⟨v', h1, h2, h3⟩
            apply Exists.intro
            refine ⟨fun u => ?_, ?_⟩
            (focus (go_simp; try exact rfl))
            refine hK _ ?_
            clear hK K
            (refine slotG_oneN (fun K hK => ?_)
             apply Exists.intro
             refine ⟨fun x u hF => ?_, ?_⟩
             (focus (go_simp
                     first
                       | (exact rfl)
                       | (exact ⟨rfl, BC_refl _⟩)))
             apply Exists.intro
             refine ⟨fun u => ?_, ?_⟩
             (focus (go_simp; try exact rfl))
             refine hK _ ?_
             clear hK K)
            refine slotG_someN (i := 30) (fun v w w' hb h => h.to hb) (fun K hK => ?_)
            refine ⟨fun x u hF => ?_, ?_⟩
            focus
              go_simp
              go_at_call 36
              exact (real_any v0 qs x.w (HZ.out.2.2.1.to x.h) HIN.out.2.2.1).mono fun e w' ⟨v', h1, h2, h3⟩ => ⟨v', h1, h2, h3⟩
            apply Exists.intro
            refine ⟨fun u => ?_, ?_⟩
            (focus (go_simp; try exact rfl))
            refine hK _ ?_
            clear hK K
            ((with_reducible refine slotG_row (o := ⟨some 119, _, _, _, _, _⟩) 23 (.tmp 8) ?_ ?_ _ ?_ _ RW _ _ HFZ.out Try.underlying23 ?_ ?_ ?_); (focus rfl); (focus (exact fun _ => rfl)); (focus (exact fun _ => rfl)); (focus rfl); (focus (rw [HPU.out.2.2.2.2.2.2.1]; kernel_rfl)); apply Exists.intro; refine ⟨fun u => ?_, ?_⟩; (focus (go_simp; try exact rfl)))
            refine slotG_someN (i := 32) (fun v w w' hb h => h.to hb) (fun K hK => ?_)
            refine ⟨fun x u hF => ?_, ?_⟩
            focus
              have HX := Lib.hid (hF.1 (by kernel_rfl))
              clear hF
              go_simp
              go_at_call 41
              exact (HRC.out x _ HX.out).mono fun e w' ⟨v', h1, h2, h3⟩ => ⟨v', h1, h2, h3⟩
            apply Exists.intro
            refine ⟨fun u => ?_, ?_⟩
            (focus (go_simp; try exact rfl))
            refine hK _ ?_
            clear hK K
            refine slotG_oneN (fun K hK => ?_)
            apply Exists.intro
            refine ⟨fun x u hF => ?_, ?_⟩
            focus
              have HX := Lib.hid (And.intro (hF.1 (by kernel_rfl)) (hF.2.2.1 (by kernel_rfl)))
              clear hF
              go_simp
              go_at_call 35
              exact list_any _ _ cl cl x.w HX.out.2 HX.out.1 (by have := HN5.out.2.2; omega) rfl
            apply Exists.intro
            refine ⟨fun u => ?_, ?_⟩
            (focus (go_simp; try exact rfl))
            refine hK _ ?_
            clear hK K
            (refine slotG_oneN (fun K hK => ?_)
             apply Exists.intro
             refine ⟨fun x u hF => ?_, ?_⟩
             (focus (go_simp
                     first
                       | (exact rfl)
                       | (exact ⟨rfl, BC_refl _⟩)))
             apply Exists.intro
             refine ⟨fun u => ?_, ?_⟩
             (focus (go_simp; try exact rfl))
             refine hK _ ?_
             clear hK K)
            (refine slotG_oneN (fun K hK => ?_)
             apply Exists.intro
             refine ⟨fun x u hF => ?_, ?_⟩
             (focus (go_simp
                     first
                       | (exact rfl)
                       | (exact ⟨rfl, BC_refl _⟩)))
             apply Exists.intro
             refine ⟨fun u => ?_, ?_⟩
             (focus (go_simp; try exact rfl))
             refine hK _ ?_
             clear hK K)
            (refine slotG_oneN (fun K hK => ?_)
             apply Exists.intro
             refine ⟨fun x u hF => ?_, ?_⟩
             (focus (go_simp
                     first
                       | (exact rfl)
                       | (exact ⟨rfl, BC_refl _⟩)))
             apply Exists.intro
             refine ⟨fun u => ?_, ?_⟩
             (focus (go_simp; try exact rfl))
             refine hK _ ?_
             clear hK K)
            ((with_reducible refine slotG_row (o := ⟨some 125, _, _, _, _, _⟩) 23 (.tmp 8) ?_ ?_ _ ?_ _ RW _ _ HFZ.out Try.underlying23 ?_ ?_ ?_); (focus rfl); (focus (exact fun _ => rfl)); (focus (exact fun _ => rfl)); (focus rfl); (focus (rw [HPU.out.2.2.2.2.2.2.1]; kernel_rfl)); apply Exists.intro; refine ⟨fun u => ?_, ?_⟩; (focus (go_simp; try exact rfl)))
            (refine slotG_oneN (fun K hK => ?_)
             apply Exists.intro
             refine ⟨fun x u hF => ?_, ?_⟩
             (focus (go_simp
                     first
                       | (exact rfl)
                       | (exact ⟨rfl, BC_refl _⟩)))
             apply Exists.intro
             refine ⟨fun u => ?_, ?_⟩
             (focus (go_simp; try exact rfl))
             refine hK _ ?_
             clear hK K)
            refine slotG_oneN (fun K hK => ?_)
            apply Exists.intro
            refine ⟨fun x u hF => ?_, ?_⟩
            focus
              go_simp
              go_at_call 32
              exact HMS.out x
            apply Exists.intro
            refine ⟨fun u => ?_, ?_⟩
            (focus (go_simp; try exact rfl))
            refine hK _ ?_
            clear hK K
            (refine slotG_oneN (fun K hK => ?_)
             apply Exists.intro
             refine ⟨fun x u hF => ?_, ?_⟩
             (focus (go_simp
                     first
                       | (exact rfl)
                       | (exact ⟨rfl, BC_refl _⟩)))
             apply Exists.intro
             refine ⟨fun u => ?_, ?_⟩
             (focus (go_simp; try exact rfl))
             refine hK _ ?_
             clear hK K)
            refine slotG_someN (i := 41) (fun v w w' hb h => h.to hb) (fun K hK => ?_)
            refine ⟨fun x u hF => ?_, ?_⟩
            focus
              go_simp
              go_at_call 36
              exact (real_any v0 qs x.w (HZ.out.2.2.1.to x.h) HIN.out.2.2.1).mono fun e w' ⟨v', h1, h2, h3⟩ => ⟨v', h1, h2, h3⟩
            apply Exists.intro
            refine ⟨fun u => ?_, ?_⟩
            (focus (go_simp; try exact rfl))
            refine hK _ ?_
            clear hK K
            ((with_reducible refine slotG_row (o := ⟨some 130, _, _, _, _, _⟩) 23 (.tmp 8) ?_ ?_ _ ?_ _ RW _ _ HFZ.out Try.underlying23 ?_ ?_ ?_); (focus rfl); (focus (exact fun _ => rfl)); (focus (exact fun _ => rfl)); (focus rfl); (focus (rw [HPU.out.2.2.2.2.2.2.1]; kernel_rfl)); apply Exists.intro; refine ⟨fun u => ?_, ?_⟩; (focus (go_simp; try exact rfl)))
            (refine slotG_oneN (fun K hK => ?_)
             apply Exists.intro
             refine ⟨fun x u hF => ?_, ?_⟩
             (focus (go_simp
                     first
                       | (exact rfl)
                       | (exact ⟨rfl, BC_refl _⟩)))
             apply Exists.intro
             refine ⟨fun u => ?_, ?_⟩
             (focus (go_simp; try exact rfl))
             refine hK _ ?_
             clear hK K)
            refine slotG_oneN (fun K hK => ?_)
            apply Exists.intro
            refine ⟨fun x u hF => ?_, ?_⟩
            focus
              have HX := Lib.hid (hF.1 (by kernel_rfl))
              clear hF
              go_simp
              go_at_call 42
              exact HRM.out x _ HX.out
            apply Exists.intro
            refine ⟨fun u => ?_, ?_⟩
            (focus (go_simp; try exact rfl))
            refine hK _ ?_
            clear hK K
            (refine slotG_oneN (fun K hK => ?_)
             apply Exists.intro
             refine ⟨fun x u hF => ?_, ?_⟩
             (focus (go_simp
                     first
                       | (exact rfl)
                       | (exact ⟨rfl, BC_refl _⟩)))
             apply Exists.intro
             refine ⟨fun u => ?_, ?_⟩
             (focus (go_simp; try exact rfl))
             refine hK _ ?_
             clear hK K)
            (refine slotG_oneN (fun K hK => ?_)
             apply Exists.intro
             refine ⟨fun x u hF => ?_, ?_⟩
             (focus (go_simp
                     first
                       | (exact rfl)
                       | (exact ⟨rfl, BC_refl _⟩)))
             apply Exists.intro
             refine ⟨fun u => ?_, ?_⟩
             (focus (go_simp; try exact rfl))
             refine hK _ ?_
             clear hK K)
            (refine slotG_oneN (fun K hK => ?_)
             apply Exists.intro
             refine ⟨fun x u hF => ?_, ?_⟩
             (focus (go_simp
                     first
                       | (exact rfl)
                       | (exact ⟨rfl, BC_refl _⟩)))
             apply Exists.intro
             refine ⟨fun u => ?_, ?_⟩
             (focus (go_simp; try exact rfl))
             refine hK _ ?_
             clear hK K)
            refine slotG_end ?_
            intro w20 u20 hb20 hF20
            clear hF20
            generalize u20 3 = x3
            generalize u20 27 = x27
            generalize u20 28 = x28
            generalize u20 30 = x30
            generalize u20 32 = x32
            generalize u20 41 = x41
            clear u20
            have HE := Lib.hid (BC_trans HZ.out.1 hb20)
            clear hb20
            go_wp2_with fail
            go_ret
            exact ⟨rfl, HE.out⟩
theorem own : ownKnob Try.prog.godebug = none := by kernel_rfl
theorem laidOut : laidOutB Try.prog = true := by kernel_rfl
set_option maxRecDepth 100000 in
theorem lifted (os : Os) (started : os.Started) (H : Type) (enc : TypeId × Value → H) :
    ReturnsInHanded {} Try.checked os 12 .any (Rows.gatherTellsSpec.pre6 enc Try.prog Try.f12 Rows.gatherTellsRow.domain false) (Rows.gatherTellsSpec.post enc Try.prog Try.f12 false true false false) := by
  refine returnsInHanded_of_change (C := Try.checked) own started (by kernel_rfl) Try.func12
    (ChangeSpec.witness6 (enc := enc) (C := Try.checked) false ⟨#[], #[.slice none 0 0, .agg (pcells (List.replicate 32 0) 0 0 (.slice none 0 0)).toArray, .int .i64 0], []⟩ 8 (by kernel_rfl) (by kernel_rfl) (by kernel_rfl) (by kernel_rfl)) ?_
  intro W base args ds gs before hval0 hW hcnd _
  have hval : ∀ (j : Nat) t v, Try.f12.params[j]? = some t → args[j]? = some v → Value.okWide Try.prog W .any base t v := hval0
  have hW' := hW
  obtain ⟨p, q, hA0, hV, rfl, hfz, hnd⟩ := hW
  have hA : DataW.TrodAll enc Try.prog W 0 (fun _ => true) true Try.f12.params.toList args.toList ds p := hA0
  rw [Try.params12] at hA hval
  obtain ⟨v0, vs0, d0, ds0, p0, q0, hargs, rfl, rfl, h0, r0⟩ := trodAll_cons hA
  obtain ⟨v1, vs1, d1, ds1, p1, q1, rfl, rfl, rfl, h1, r1⟩ := trodAll_cons r0
  obtain ⟨v2, vs2, d2, ds2, p2, q2, rfl, rfl, rfl, h2, r2⟩ := trodAll_cons r1
  obtain ⟨rfl, rfl, rfl⟩ := trodAll_nil r2
  obtain rfl : args = #[v0, v1, v2] := by cases args; simp_all
  obtain ⟨rfl, rfl⟩ := trodVars_none hV
  have k0 := h0
  have lt0 : ∀ x ∈ p0, x.block < W.heap.size := by obtain ⟨m, hm⟩ := k0; exact DataW.trod_lt m _ _ _ hm
  obtain ⟨ps0, hp0⟩ := open_parts (hval 0 56 v0 rfl rfl) h0
  have k1 := h1
  have lt1 : ∀ x ∈ p1, x.block < W.heap.size := by obtain ⟨m, hm⟩ := k1; exact DataW.trod_lt m _ _ _ hm
  obtain ⟨wh1, s1, t1, u1, l1, rfl, hw1, hwb1, hs1, ht1, b1, o1, hu1, hl1, hb1⟩ := open_part (hval 1 26 v1 rfl rfl) h1
  obtain ⟨a2, rfl, rfl, rfl, w2⟩ := open_int Try.underlying3 (hval 2 3 v2 rfl rfl) h2
  clear hA0 hval0
  refine (walk v0 ps0 wh1 s1 t1 u1 b1 o1 l1 a2 hw1 hwb1 hs1 ht1 hu1 hb1 w2 W hp0 hl1).mono fun e W' ⟨he, bel⟩ => ?_
  subst he
  exact ⟨_, rfl, _, _, _, [], _, [], hW', trodAll_mk1 (shut_bool Try.underlying4 _), (trodAll_cons_mk (Below.trod laidOut (by kernel_rfl) (of_decide_eq_true (by kernel_rfl)) k0 bel lt0) (trodAll_cons_mk (Below.trod laidOut (by kernel_rfl) (of_decide_eq_true (by kernel_rfl)) k1 bel lt1) (trodAll_cons_mk (shut_int Try.underlying3 w2) trodAll_mk0))), rfl, bel.frame _, fun h => by cases h⟩
theorem over : Rows.gatherTellsRow.holds Try.pinned (OpenSpec.ofChange Rows.gatherTellsSpec) :=
  OpenClaim.holds_of_wide 12 Try.f12 rfl rfl rfl rfl rfl rfl rfl ⟨rfl, rfl, rfl, rfl, rfl⟩ rfl rfl rfl rfl rfl (by kernel_rfl) Try.func12 (by kernel_rfl)
    (of_decide_eq_true (by kernel_rfl)) (by unfold Func.isWrapper; first | (rw [if_pos (by decide +kernel)]; kernel_rfl) | (rw [if_neg (by decide +kernel)]; exact ⟨rfl, rfl⟩))
    (fun os started H enc _ => lifted os started H enc)
theorem proved : Rows.GatherTellsSaid := over
#print axioms proved
end Go.Proofs.Ytjnimbhecfpnmaa.gatherTellsDone
