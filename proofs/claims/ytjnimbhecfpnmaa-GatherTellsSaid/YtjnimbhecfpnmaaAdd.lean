/- The walk of gather.Add. -/
import Derived.Test.YtjnimbhecfpnmaaFind
import Derived.Test.YtjnimbhecfpnmaaIns
import Derived.Test.YtjnimbhecfpnmaaToldN
import Derived.Test.YtjnimbhecfpnmaaSplit
namespace Go.Proofs.Ytjnimbhecfpnmaa
set_option maxRecDepth 100000
open Go.ChangeShapes Go.WideShapes Go.ChangeAt Go.RowKit

/-- where a part is put in -/
def placeF (l : List Pt) (p : Pt) : Nat := l.findIdx fun q => decide (0 < cmpPt q p)
/-- gather.Add, plain -/
def addL (l : List Pt) (p : Pt) : List Pt × Int :=
  if mayB p.sz p.at' p.da.length = false then (l, 1)
  else if l.any (fun q => cmpPt p q == 0) then (l, 7)
  else if 512 ≤ l.length then (l, 5)
  else (insQ l (placeF l p) p, 0)
theorem posF_at (l : List Pt) (p : Pt) : (if posF (fun q => decide (0 < cmpPt q p)) l < 0 then (l.length : Int) else posF (fun q => decide (0 < cmpPt q p)) l) = (placeF l p : Int) := by
  unfold posF placeF
  by_cases h : l.any (fun q => decide (0 < cmpPt q p)) = true
  · rw [if_pos h, if_neg (by omega)]
  · rw [if_neg h, if_pos (by omega)]
    rw [List.findIdx_eq_length.2]
    intro x hx
    cases hd : decide (0 < cmpPt x p)
    · rfl
    · exact absurd (List.any_eq_true.2 ⟨x, hx, hd⟩) h
theorem map_insQ {α β : Type} (f : α → β) (qs : List α) (i : Nat) (q : α) : (insQ qs i q).map f = insQ (qs.map f) i (f q) := by simp [insQ, List.map_take, List.map_drop]
theorem placeF_le (l : List Pt) (p : Pt) : placeF l p ≤ l.length := List.findIdx_le_length
attribute [local irreducible] SlV Lies
attribute [local go_sem] takes takesE comesTo
set_option maxHeartbeats 4000000 in
theorem add_any (v : Value) (qs : List (Pt × Value)) (pu : Pt × Value) (w : World) (hv : RdP w.heap.size w v qs) (hn : qs.length ≤ 5000) (hp : pu.1.ok) (hk : Held w.heap.size w pu.2 pu.1.da) (hda : pu.1.da.length ≤ 1000000) :
    Calls Try.prog 30 #[v, .agg (qC pu).toArray] w fun e w' => ∃ v' qs', e = .returned (.tuple #[v', .int .i64 (addL (qs.map (·.1)) pu.1).2]) ∧ RdP w'.heap.size w' v' qs' ∧ qs'.map (·.1) = (addL (qs.map (·.1)) pu.1).1 ∧ Below w.heap.size w w' := by
  obtain ⟨p, u⟩ := pu
  dsimp only at hp hk hda ⊢
  have HV := Lib.hid (And.intro hv (And.intro hp (And.intro hk (And.intro hn hda))))
  obtain ⟨b, o, hs, hl, hlt⟩ := hk
  have HL := Lib.hid (And.intro hs hl)
  obtain ⟨pv, cv, rfl, hcap, hmax, _⟩ := by unfold SlV at hs; exact hs
  obtain ⟨va, vc, rfl⟩ := hv.form
  have hmay := may_any p.wh hp.1 p.sz p.at' pv p.da.length cv (by omega)
  have hsz := pcells_sz hp.1 p.sz p.at' (.slice pv p.da.length cv)
  have hdt := pcells_data hp.1 p.sz p.at' (.slice pv p.da.length cv)
  obtain ⟨C, hC⟩ : ∃ C, C = (pcells p.wh p.sz p.at' (.slice pv p.da.length cv)).toArray := ⟨_, rfl⟩
  rw [← hC] at hmay hsz hdt
  show Calls _ _ #[_, .agg (pcells p.wh p.sz p.at' (.slice pv p.da.length cv)).toArray] _ _
  rw [← hC]
  obtain ⟨AL, hAL⟩ : ∃ x, x = addL (qs.map (·.1)) p := ⟨_, rfl⟩
  rw [← hAL]
  have HAL := Lib.hid hAL
  have HSZ := Lib.hid hsz
  have HDT := Lib.hid hdt
  obtain ⟨W0, hW0⟩ : ∃ W, W = w.alloc (.cells C 26) := ⟨_, rfl⟩
  obtain ⟨B, hB⟩ : ∃ B, B = w.heap.size := ⟨_, rfl⟩
  have h00 := heap_alloc_new w (.cells C 26)
  have b00 := below1 w (.cells C 26)
  rw [← hW0, ← hB] at h00
  rw [← hW0] at b00
  have H0 := Lib.hid (And.intro h00 (And.intro b00 (And.intro hW0 hB)))
  have HC := Lib.hid (And.intro hC hB)
  obtain ⟨m, hm⟩ : ∃ m, m = mayB p.sz p.at' p.da.length := ⟨_, rfl⟩
  rw [← hm] at hmay
  have HM := Lib.hid (And.intro hmay hm)
  have hgood : ∀ W, Below w.heap.size w W → W.heap[B]? = some (.cells C 26 (0, 0)) → ∀ q ∈ qs, (Calls Try.prog 55 #[.agg (qC q).toArray, .pointer (some ⟨B, 0, none⟩)] W fun e w' => e = .returned (.bool (cmpPt p q.1 == 0)) ∧ Below W.heap.size W w') ∧
      (Calls Try.prog 60 #[.agg (qC q).toArray, .pointer (some ⟨B, 0, none⟩)] W fun e w' => e = .returned (.bool (decide (0 < cmpPt q.1 p))) ∧ Below W.heap.size W w') := fun W hW hg q hq => by
    have hq2 := hv.1 q hq
    rw [hC] at hg
    exact ⟨same_any (p, .slice pv p.da.length cv) q hp hq2.1 B W hg (HV.out.2.2.1.below hW) (hq2.2.below hW) hW.size hW.size, over_any (p, .slice pv p.da.length cv) q hp hq2.1 B W hg (HV.out.2.2.1.below hW) (hq2.2.below hW) hW.size hW.size⟩
  have HG := Lib.hid hgood
  clear hgood hmay hm hsz hdt hC hW0 hB h00 b00 hcap hmax hs hl hlt hv hp hn hda hAL
  go_enter Try.func30, Try.ntmps30
  go_upto_region 1 with fail
  rw [← H0.out.2.2.1, ← H0.out.2.2.2]
  go_wp2_with ((with_reducible refine wlw_load_row (o := ⟨some 10, _, _, _, _, _⟩) ?_ 26 (.tmp 3) ?_ _ ?_ _ C _ _ H0.out.1 Try.underlying26 ?_ ?_ ?_); (focus rfl); (focus rfl); (focus rfl); (focus rfl); (focus (rw [HSZ.out]; kernel_rfl)))
  refine (HM.out.1 _).mono ?_
  rintro e w1 ⟨rfl, b1⟩
  have H1 := Lib.hid (And.intro (BC_blk1 b1 H0.out.1) (BC_below H0.out.2.1 H0.out.2.1.size b1))
  clear b1
  cases m with
  | false =>
    have hadd : AL = (qs.map (·.1), 1) := by rw [HAL.out]; unfold addL; rw [if_pos HM.out.2.symm]
    have HAD := Lib.hid hadd
    have HCL := Lib.hid (pclone_any _ qs w1 (HV.out.1.to H1.out.2) (by have := HV.out.2.2.2.1; omega))
    clear hadd
    go_wp2_with fail
    refine HCL.out.mono ?_
    rintro e wz ⟨vz, rfl, ownz, bz⟩
    have HZ := Lib.hid (And.intro ownz (And.intro bz (BC_below H1.out.2 H1.out.2.size bz)))
    clear ownz bz
    go_wp2_with fail
    go_ret2
    exact ⟨_, qs, by rw [HAD.out]; rfl, HZ.out.1.rd (HV.out.1.1.to HZ.out.2.2), by rw [HAD.out], HZ.out.2.2⟩
  | true =>
    have HCT := Lib.hid (contains_any 55 B (enters_of Try.func55 (by kernel_rfl) rfl) (fun q => cmpPt p q == 0) (.slice va qs.length vc) qs w1 (HV.out.1.to H1.out.2) (by have := HV.out.2.2.2.1; omega)
      (fun W hW q hq => (HG.out W (BC_below H1.out.2 H1.out.2.size hW) (BC_blk1 hW H1.out.1) q hq).1))
    obtain ⟨ct, hct⟩ : ∃ c, c = (qs.map (·.1)).any (fun q => cmpPt p q == 0) := ⟨_, rfl⟩
    rw [← hct] at HCT
    have HCC := Lib.hid hct
    clear hct
    go_wp2_with fail
    refine HCT.out.mono ?_
    rintro e w2 ⟨rfl, b2⟩
    have H2 := Lib.hid (And.intro (BC_blk1 b2 H1.out.1) (BC_below H1.out.2 H1.out.2.size b2))
    clear b2
    cases ct with
    | true =>
      have hadd : AL = (qs.map (·.1), 7) := by rw [HAL.out]; unfold addL; rw [if_neg (by rw [← HM.out.2]; simp), if_pos HCC.out.symm]
      have HAD := Lib.hid hadd
      have HCL := Lib.hid (pclone_any _ qs w2 (HV.out.1.to H2.out.2) (by have := HV.out.2.2.2.1; omega))
      clear hadd
      go_wp2_with fail
      refine HCL.out.mono ?_
      rintro e wz ⟨vz, rfl, ownz, bz⟩
      have HZ := Lib.hid (And.intro ownz (And.intro bz (BC_below H2.out.2 H2.out.2.size bz)))
      clear ownz bz
      go_wp2_with fail
      go_ret2
      exact ⟨_, qs, by rw [HAD.out]; rfl, HZ.out.1.rd (HV.out.1.1.to HZ.out.2.2), by rw [HAD.out], HZ.out.2.2⟩
    | false =>
      rcases Nat.lt_or_ge qs.length 512 with hlt | hge
      · have hge' : ¬ (512 : Int) ≤ (qs.length : Int) := by omega
        have HN := Lib.hid hlt
        clear hlt
        have HIX := Lib.hid (index_any 60 B (enters_of Try.func60 (by kernel_rfl) rfl) (fun q => decide (0 < cmpPt q p)) (.slice va qs.length vc) qs w2 (HV.out.1.to H2.out.2) (by have := HV.out.2.2.2.1; omega)
          (fun W hW q hq => (HG.out W (BC_below H2.out.2 H2.out.2.size hW) (BC_blk1 hW H2.out.1) q hq).2))
        obtain ⟨r, hr⟩ : ∃ r, r = posF (fun q => decide (0 < cmpPt q p)) (qs.map (·.1)) := ⟨_, rfl⟩
        have hat := posF_at (qs.map (·.1)) p
        rw [← hr, List.length_map] at hat
        rw [← hr] at HIX
        have hadd : AL = (insQ (qs.map (·.1)) (placeF (qs.map (·.1)) p) p, 0) := by
          rw [HAL.out]; unfold addL
          rw [if_neg (by rw [← HM.out.2]; simp), if_neg (by rw [← HCC.out]; simp), if_neg (by rw [List.length_map]; have := HN.out; omega)]
        have hple := placeF_le (qs.map (·.1)) p
        rw [List.length_map] at hple
        have HAD := Lib.hid (And.intro hadd hple)
        clear hadd hple hr
        rcases Int.lt_or_le r 0 with hneg | hneg
        · rw [if_pos hneg] at hat
          have hi : qs.length = placeF (qs.map (·.1)) p := by omega
          have HI := Lib.hid hi
          clear hi hat
          go_wp2_with fail
          refine HIX.out.mono ?_
          rintro e w3 ⟨rfl, b3⟩
          have H3 := Lib.hid (And.intro (BC_blk1 b3 H2.out.1) (BC_below H2.out.2 H2.out.2.size b3))
          clear b3
          have HCB : Hid (Calls Try.prog 48 #[.slice pv p.da.length cv] w3 fun e w' => ∃ v', e = .returned v' ∧ Own w3.heap.size w' v' p.da ∧ Below w3.heap.size w3 w') := Lib.hid (clone_any b o _ p.da HV.out.2.2.2.2 HL.out.1 w3 (HL.out.2.below' H3.out.2))
          have c34 := cell_row H3.out.1 34 HDT.out
          go_wp2_with fail
          refine HCB.out.mono ?_
          rintro e w4 ⟨v4, rfl, own4, b4⟩
          have h4 := BC_blk1 b4 H3.out.1
          have c34' := cell_row h4 34 HDT.out
          have f34 := free_row h4 34
          obtain ⟨w5, hw5⟩ : ∃ W, W = w4.setCell ⟨B, 34, none⟩ v4 := ⟨_, rfl⟩
          have h5 : w5.heap[B]? = some (.cells (qC (p, v4)).toArray 26 (0, 0)) := by
            rw [hw5, Go.heap_setCell_same w4 B 34 C 26 v4 h4, HC.out.1]
            rw [show ((pcells p.wh p.sz p.at' (.slice pv p.da.length cv)).toArray.setIfInBounds 34 v4) = (qC (p, v4)).toArray from by
              have h := HV.out.2.1.1
              simp [qC, pcells, h]]
          have o5 : Own w3.heap.size w5 v4 p.da := own4.but (g := B) (by rw [hw5]; exact But.of_store (fun k hk => heap_setCell_other _ _ _ _ hk) (fun B' w0 hB' hb => hb.setCell hB' _)) (fun e => by
            have h1 := own_block own4 B e
            have h2 := blk_lt H3.out.1
            omega)
          have b5 : Below w.heap.size w w5 := by rw [hw5]; exact (BC_below H3.out.2 H3.out.2.size b4).setCell (Nat.le_of_eq HC.out.2.symm) _
          have one4 := own4.one
          have H5 := Lib.hid (And.intro h5 (And.intro o5 (And.intro b5 (And.intro hw5 one4))))
          have HS5 := Lib.hid (qC_size (q := (p, v4)) HV.out.2.1.1)
          obtain ⟨C5, hC5⟩ : ∃ C, C = (qC (p, v4)).toArray := ⟨_, rfl⟩
          rw [← hC5] at HS5
          have h55 : ∀ x : HW (BC w5), x.w.heap[B]? = some (.cells C5 26 (0, 0)) := by rw [hC5]; exact BC_blk h5
          have HC5 := Lib.hid (And.intro hC5 h55)
          have HCL : Hid (∀ W, BC w5 W → Calls Try.prog 57 #[.slice va qs.length vc] W fun e w' => ∃ v', e = .returned v' ∧ OwnP W.heap.size w' v' qs ∧ Below W.heap.size W w') := Lib.hid (fun W hW => pclone_any _ qs W (HV.out.1.to (BC_below b5 b5.size hW)) (by have := HV.out.2.2.2.1; omega))
          clear h4 h5 o5 b5 hw5 own4 b4 hC5 h55 c34
          have sv4 := H5.out.2.1.slv
          obtain ⟨_, sv4, _, _⟩ := sv4
          obtain ⟨p4, q4, rfl, _⟩ := by unfold SlV at sv4; exact sv4
          clear sv4
          go_upto_region 12 with fail
          rw [← H5.out.2.2.2.1]
          clear c34' f34 one4
          have hS := BC_refl
          haveI := BC_inst w5
          have SB := Lib.hid (BC_refl w5)
          refine wp_region_E (by kernel_rfl) ?_
          refine takeE (i := 0) rfl (by kernel_rfl) (by kernel_rfl) (by kernel_rfl) (fun _ _ _ _ h => h) SB.out (fun K hK => ?_)
          go_simp
          refine hK.out _ ?_
          clear hK K
          refine takeE (i := 2) rfl (by kernel_rfl) (by kernel_rfl) (by kernel_rfl) (fun _ _ _ _ h => h) SB.out (fun K hK => ?_)
          go_simp
          refine hK.out _ ?_
          clear hK K
          refine takeER (i := 3) rfl (by kernel_rfl) (by kernel_rfl) (by kernel_rfl) (fun _ _ _ _ h => h) SB.out 26 _ rfl (by rfl) B rfl _ C5 _ _ HC5.out.2 Try.underlying26 rfl (by rw [HS5.out]; kernel_rfl) ?_
          simp only [Act.put, List.setIfInBounds_toArray]
          refine stepEE (i := 1) (j := 4) rfl rfl (by kernel_rfl) ?ga ?gb
          case ga =>
            intro w6 r6 K hK
            go_simp
            refine (HCL.out w6 r6).mono ?_
            rintro e w7 ⟨v7, rfl, own7, b7⟩
            have S7 := Lib.hid (BC_trans r6 b7)
            refine hK.out _ _ S7.out ?_
            have HO7 := Lib.hid (own7.mono r6.size)
            clear hK K b7 own7 r6
            refine stepE (i := 4) rfl (by kernel_rfl) (fun w8 r8 K hK => ?_)
            rw [if_pos (by rfl)]
            refine wp_build1P (.tmp 41) rfl C5 (by rfl) HS5.out ?_
            simp only [Act.put, List.setIfInBounds_toArray]
            obtain ⟨vb, hvb⟩ : ∃ b, b = w8.heap.size := ⟨_, rfl⟩
            obtain ⟨W8, hW8⟩ : ∃ W, W = w8.alloc (.cells C5 26) := ⟨_, rfl⟩
            have n8 := heap_alloc_new w8 (.cells C5 26)
            have b8 := below1 w8 (.cells C5 26)
            rw [← hW8, ← hvb] at n8 ⊢
            rw [← hW8] at b8
            have S8 := Lib.hid (BC_trans (BC_trans S7.out r8) b8)
            have ne8 : v7.ownBlock ≠ some vb := fun e => by
              have := (World.ownsRow.lt (HO7.out.below r8) vb e).2
              omega
            have HO8 := Lib.hid (And.intro ((HO7.out.below r8).below b8) (And.intro n8 ne8))
            refine hK.out _ _ S8.out ?_
            clear hK K n8 b8 ne8 hvb hW8 r8
            refine stepE (i := 5) rfl (by kernel_rfl) (fun w9 r9 K hK => ?_)
            go_simp
            refine (insert_any w5.heap.size _ qs (p, .slice p4 p.da.length q4) qs.length vb w9 (by have := HAD.out.2; have := HI.out; omega) (HO8.out.1.below r9) (BC_trans S8.out r9).size (by have := HV.out.2.2.2.1; omega) HV.out.1.1.wh HV.out.1.1.one (by have h := BC_blk1 r9 HO8.out.2.1; rw [HC5.out.1] at h; exact h) HO8.out.2.2 HV.out.2.1.1 H5.out.2.2.2.2).mono ?_
            rintro e w10 ⟨v10, rfl, own10, b10⟩
            have S10 := Lib.hid (Below.trans (BC_trans S8.out r9) b10)
            refine hK.out _ _ S10.out ?_
            have HF := Lib.hid own10
            clear hK K b10 own10 r9
            refine takeE (i := 6) rfl (by kernel_rfl) (by kernel_rfl) (by kernel_rfl) (fun _ _ _ _ h => h) S10.out (fun K hK => ?_)
            go_simp
            refine hK.out _ ?_
            clear hK K
            refine takeE (i := 7) rfl (by kernel_rfl) (by kernel_rfl) (by kernel_rfl) (fun _ _ _ _ h => h) S10.out (fun K hK => ?_)
            go_simp
            refine hK.out _ ?_
            clear hK K
            refine doneE (by kernel_rfl) (fun w11 r11 => ?_) _
            clear hS
            have HZ := Lib.hid (And.intro (HF.out.below r11) (BC_trans S10.out r11))
            clear r11
            go_wp2_with fail
            go_ret2
            have hb := BC_below H5.out.2.2.1 H5.out.2.2.1.size HZ.out.2
            have hg : GoodQ w11.heap.size w11 (insQ qs qs.length (p, .slice p4 p.da.length q4)) := by
              intro q hq
              unfold insQ at hq
              have h1 := HV.out.1.1.to hb
              rcases List.mem_append.1 hq with h | h
              · exact h1 q (List.mem_of_mem_take h)
              · rcases List.mem_cons.1 h with rfl | h
                · exact ⟨HV.out.2.1, (H5.out.2.1.held.below HZ.out.2).mono HZ.out.2.size⟩
                · exact h1 q (List.mem_of_mem_drop h)
            refine ⟨_, insQ qs qs.length (p, .slice p4 p.da.length q4), by rw [HAD.out.1]; rfl, HZ.out.1.rd hg, ?_, hb⟩
            rw [HAD.out.1, ← HI.out]
            exact map_insQ _ _ _ _
          case gb =>
            intro w6 r6 K hK
            rw [if_pos (by rfl)]
            refine wp_build1P (.tmp 41) rfl C5 (by rfl) HS5.out ?_
            simp only [Act.put]
            obtain ⟨vb, hvb⟩ : ∃ b, b = w6.heap.size := ⟨_, rfl⟩
            obtain ⟨W6, hW6⟩ : ∃ W, W = w6.alloc (.cells C5 26) := ⟨_, rfl⟩
            have n6 := heap_alloc_new w6 (.cells C5 26)
            have b6 := below1 w6 (.cells C5 26)
            rw [← hW6, ← hvb] at n6 ⊢
            rw [← hW6] at b6
            have S6 := Lib.hid (BC_trans r6 b6)
            have HB6 := Lib.hid n6
            have hlt6 : vb < W6.heap.size := blk_lt n6
            have HL6 := Lib.hid hlt6
            refine hK.out _ _ S6.out ?_
            clear hK K n6 b6 hvb hW6 r6 hlt6
            refine stepE (i := 1) rfl (by kernel_rfl) (fun w7 r7 K hK => ?_)
            go_simp
            refine (HCL.out w7 (BC_trans S6.out r7)).mono ?_
            rintro e w8 ⟨v7, rfl, own7, b7⟩
            have S8 := Lib.hid (BC_trans (BC_trans S6.out r7) b7)
            have ne8 : v7.ownBlock ≠ some vb := fun e => by
              have h1 := own7.block vb e
              have h2 := HL6.out
              have h3 := r7.size
              omega
            have HO8 := Lib.hid (And.intro (own7.mono (BC_trans S6.out r7).size) (And.intro (BC_blk1 (BC_trans r7 b7) HB6.out) ne8))
            refine hK.out _ _ S8.out ?_
            clear hK K b7 own7 r7 ne8
            refine stepE (i := 5) rfl (by kernel_rfl) (fun w9 r9 K hK => ?_)
            go_simp
            refine (insert_any w5.heap.size _ qs (p, .slice p4 p.da.length q4) qs.length vb w9 (by have := HAD.out.2; have := HI.out; omega) (HO8.out.1.below r9) (BC_trans S8.out r9).size (by have := HV.out.2.2.2.1; omega) HV.out.1.1.wh HV.out.1.1.one (by have h := BC_blk1 r9 HO8.out.2.1; rw [HC5.out.1] at h; exact h) HO8.out.2.2 HV.out.2.1.1 H5.out.2.2.2.2).mono ?_
            rintro e w10 ⟨v10, rfl, own10, b10⟩
            have S10 := Lib.hid (Below.trans (BC_trans S8.out r9) b10)
            refine hK.out _ _ S10.out ?_
            have HF := Lib.hid own10
            clear hK K b10 own10 r9
            refine takeE (i := 6) rfl (by kernel_rfl) (by kernel_rfl) (by kernel_rfl) (fun _ _ _ _ h => h) S10.out (fun K hK => ?_)
            go_simp
            refine hK.out _ ?_
            clear hK K
            refine takeE (i := 7) rfl (by kernel_rfl) (by kernel_rfl) (by kernel_rfl) (fun _ _ _ _ h => h) S10.out (fun K hK => ?_)
            go_simp
            refine hK.out _ ?_
            clear hK K
            refine doneE (by kernel_rfl) (fun w11 r11 => ?_) _
            clear hS
            have HZ := Lib.hid (And.intro (HF.out.below r11) (BC_trans S10.out r11))
            clear r11
            go_wp2_with fail
            go_ret2
            have hb := BC_below H5.out.2.2.1 H5.out.2.2.1.size HZ.out.2
            have hg : GoodQ w11.heap.size w11 (insQ qs qs.length (p, .slice p4 p.da.length q4)) := by
              intro q hq
              unfold insQ at hq
              have h1 := HV.out.1.1.to hb
              rcases List.mem_append.1 hq with h | h
              · exact h1 q (List.mem_of_mem_take h)
              · rcases List.mem_cons.1 h with rfl | h
                · exact ⟨HV.out.2.1, (H5.out.2.1.held.below HZ.out.2).mono HZ.out.2.size⟩
                · exact h1 q (List.mem_of_mem_drop h)
            refine ⟨_, insQ qs qs.length (p, .slice p4 p.da.length q4), by rw [HAD.out.1]; rfl, HZ.out.1.rd hg, ?_, hb⟩
            rw [HAD.out.1, ← HI.out]
            exact map_insQ _ _ _ _
        · rw [if_neg (by omega)] at hat
          obtain ⟨k, hk⟩ : ∃ k, k = placeF (qs.map (·.1)) p := ⟨_, rfl⟩
          rw [← hk] at hat
          have HI := Lib.hid hk
          clear hk
          subst hat
          have hnn : ¬ (k : Int) < 0 := by omega
          go_wp2_with fail
          refine HIX.out.mono ?_
          rintro e w3 ⟨rfl, b3⟩
          have H3 := Lib.hid (And.intro (BC_blk1 b3 H2.out.1) (BC_below H2.out.2 H2.out.2.size b3))
          clear b3
          have HCB : Hid (Calls Try.prog 48 #[.slice pv p.da.length cv] w3 fun e w' => ∃ v', e = .returned v' ∧ Own w3.heap.size w' v' p.da ∧ Below w3.heap.size w3 w') := Lib.hid (clone_any b o _ p.da HV.out.2.2.2.2 HL.out.1 w3 (HL.out.2.below' H3.out.2))
          have c34 := cell_row H3.out.1 34 HDT.out
          go_wp2_with fail
          refine HCB.out.mono ?_
          rintro e w4 ⟨v4, rfl, own4, b4⟩
          have h4 := BC_blk1 b4 H3.out.1
          have c34' := cell_row h4 34 HDT.out
          have f34 := free_row h4 34
          obtain ⟨w5, hw5⟩ : ∃ W, W = w4.setCell ⟨B, 34, none⟩ v4 := ⟨_, rfl⟩
          have h5 : w5.heap[B]? = some (.cells (qC (p, v4)).toArray 26 (0, 0)) := by
            rw [hw5, Go.heap_setCell_same w4 B 34 C 26 v4 h4, HC.out.1]
            rw [show ((pcells p.wh p.sz p.at' (.slice pv p.da.length cv)).toArray.setIfInBounds 34 v4) = (qC (p, v4)).toArray from by
              have h := HV.out.2.1.1
              simp [qC, pcells, h]]
          have o5 : Own w3.heap.size w5 v4 p.da := own4.but (g := B) (by rw [hw5]; exact But.of_store (fun k hk => heap_setCell_other _ _ _ _ hk) (fun B' w0 hB' hb => hb.setCell hB' _)) (fun e => by
            have h1 := own_block own4 B e
            have h2 := blk_lt H3.out.1
            omega)
          have b5 : Below w.heap.size w w5 := by rw [hw5]; exact (BC_below H3.out.2 H3.out.2.size b4).setCell (Nat.le_of_eq HC.out.2.symm) _
          have one4 := own4.one
          have H5 := Lib.hid (And.intro h5 (And.intro o5 (And.intro b5 (And.intro hw5 one4))))
          have HS5 := Lib.hid (qC_size (q := (p, v4)) HV.out.2.1.1)
          obtain ⟨C5, hC5⟩ : ∃ C, C = (qC (p, v4)).toArray := ⟨_, rfl⟩
          rw [← hC5] at HS5
          have h55 : ∀ x : HW (BC w5), x.w.heap[B]? = some (.cells C5 26 (0, 0)) := by rw [hC5]; exact BC_blk h5
          have HC5 := Lib.hid (And.intro hC5 h55)
          have HCL : Hid (∀ W, BC w5 W → Calls Try.prog 57 #[.slice va qs.length vc] W fun e w' => ∃ v', e = .returned v' ∧ OwnP W.heap.size w' v' qs ∧ Below W.heap.size W w') := Lib.hid (fun W hW => pclone_any _ qs W (HV.out.1.to (BC_below b5 b5.size hW)) (by have := HV.out.2.2.2.1; omega))
          clear h4 h5 o5 b5 hw5 own4 b4 hC5 h55 c34
          have sv4 := H5.out.2.1.slv
          obtain ⟨_, sv4, _, _⟩ := sv4
          obtain ⟨p4, q4, rfl, _⟩ := by unfold SlV at sv4; exact sv4
          clear sv4
          go_upto_region 12 with fail
          rw [← H5.out.2.2.2.1]
          clear c34' f34 one4
          have hS := BC_refl
          haveI := BC_inst w5
          have SB := Lib.hid (BC_refl w5)
          refine wp_region_E (by kernel_rfl) ?_
          refine takeE (i := 0) rfl (by kernel_rfl) (by kernel_rfl) (by kernel_rfl) (fun _ _ _ _ h => h) SB.out (fun K hK => ?_)
          go_simp
          refine hK.out _ ?_
          clear hK K
          refine takeE (i := 2) rfl (by kernel_rfl) (by kernel_rfl) (by kernel_rfl) (fun _ _ _ _ h => h) SB.out (fun K hK => ?_)
          go_simp
          refine hK.out _ ?_
          clear hK K
          refine takeER (i := 3) rfl (by kernel_rfl) (by kernel_rfl) (by kernel_rfl) (fun _ _ _ _ h => h) SB.out 26 _ rfl (by rfl) B rfl _ C5 _ _ HC5.out.2 Try.underlying26 rfl (by rw [HS5.out]; kernel_rfl) ?_
          simp only [Act.put, List.setIfInBounds_toArray]
          refine stepEE (i := 1) (j := 4) rfl rfl (by kernel_rfl) ?ga ?gb
          case ga =>
            intro w6 r6 K hK
            go_simp
            refine (HCL.out w6 r6).mono ?_
            rintro e w7 ⟨v7, rfl, own7, b7⟩
            have S7 := Lib.hid (BC_trans r6 b7)
            refine hK.out _ _ S7.out ?_
            have HO7 := Lib.hid (own7.mono r6.size)
            clear hK K b7 own7 r6
            refine stepE (i := 4) rfl (by kernel_rfl) (fun w8 r8 K hK => ?_)
            rw [if_pos (by rfl)]
            refine wp_build1P (.tmp 41) rfl C5 (by rfl) HS5.out ?_
            simp only [Act.put, List.setIfInBounds_toArray]
            obtain ⟨vb, hvb⟩ : ∃ b, b = w8.heap.size := ⟨_, rfl⟩
            obtain ⟨W8, hW8⟩ : ∃ W, W = w8.alloc (.cells C5 26) := ⟨_, rfl⟩
            have n8 := heap_alloc_new w8 (.cells C5 26)
            have b8 := below1 w8 (.cells C5 26)
            rw [← hW8, ← hvb] at n8 ⊢
            rw [← hW8] at b8
            have S8 := Lib.hid (BC_trans (BC_trans S7.out r8) b8)
            have ne8 : v7.ownBlock ≠ some vb := fun e => by
              have := (World.ownsRow.lt (HO7.out.below r8) vb e).2
              omega
            have HO8 := Lib.hid (And.intro ((HO7.out.below r8).below b8) (And.intro n8 ne8))
            refine hK.out _ _ S8.out ?_
            clear hK K n8 b8 ne8 hvb hW8 r8
            refine stepE (i := 5) rfl (by kernel_rfl) (fun w9 r9 K hK => ?_)
            go_simp
            refine (insert_any w5.heap.size _ qs (p, .slice p4 p.da.length q4) k vb w9 (by have := HAD.out.2; have := HI.out; omega) (HO8.out.1.below r9) (BC_trans S8.out r9).size (by have := HV.out.2.2.2.1; omega) HV.out.1.1.wh HV.out.1.1.one (by have h := BC_blk1 r9 HO8.out.2.1; rw [HC5.out.1] at h; exact h) HO8.out.2.2 HV.out.2.1.1 H5.out.2.2.2.2).mono ?_
            rintro e w10 ⟨v10, rfl, own10, b10⟩
            have S10 := Lib.hid (Below.trans (BC_trans S8.out r9) b10)
            refine hK.out _ _ S10.out ?_
            have HF := Lib.hid own10
            clear hK K b10 own10 r9
            refine takeE (i := 6) rfl (by kernel_rfl) (by kernel_rfl) (by kernel_rfl) (fun _ _ _ _ h => h) S10.out (fun K hK => ?_)
            go_simp
            refine hK.out _ ?_
            clear hK K
            refine takeE (i := 7) rfl (by kernel_rfl) (by kernel_rfl) (by kernel_rfl) (fun _ _ _ _ h => h) S10.out (fun K hK => ?_)
            go_simp
            refine hK.out _ ?_
            clear hK K
            refine doneE (by kernel_rfl) (fun w11 r11 => ?_) _
            clear hS
            have HZ := Lib.hid (And.intro (HF.out.below r11) (BC_trans S10.out r11))
            clear r11
            go_wp2_with fail
            go_ret2
            have hb := BC_below H5.out.2.2.1 H5.out.2.2.1.size HZ.out.2
            have hg : GoodQ w11.heap.size w11 (insQ qs k (p, .slice p4 p.da.length q4)) := by
              intro q hq
              unfold insQ at hq
              have h1 := HV.out.1.1.to hb
              rcases List.mem_append.1 hq with h | h
              · exact h1 q (List.mem_of_mem_take h)
              · rcases List.mem_cons.1 h with rfl | h
                · exact ⟨HV.out.2.1, (H5.out.2.1.held.below HZ.out.2).mono HZ.out.2.size⟩
                · exact h1 q (List.mem_of_mem_drop h)
            refine ⟨_, insQ qs k (p, .slice p4 p.da.length q4), by rw [HAD.out.1]; rfl, HZ.out.1.rd hg, ?_, hb⟩
            rw [HAD.out.1, ← HI.out]
            exact map_insQ _ _ _ _
          case gb =>
            intro w6 r6 K hK
            rw [if_pos (by rfl)]
            refine wp_build1P (.tmp 41) rfl C5 (by rfl) HS5.out ?_
            simp only [Act.put]
            obtain ⟨vb, hvb⟩ : ∃ b, b = w6.heap.size := ⟨_, rfl⟩
            obtain ⟨W6, hW6⟩ : ∃ W, W = w6.alloc (.cells C5 26) := ⟨_, rfl⟩
            have n6 := heap_alloc_new w6 (.cells C5 26)
            have b6 := below1 w6 (.cells C5 26)
            rw [← hW6, ← hvb] at n6 ⊢
            rw [← hW6] at b6
            have S6 := Lib.hid (BC_trans r6 b6)
            have HB6 := Lib.hid n6
            have hlt6 : vb < W6.heap.size := blk_lt n6
            have HL6 := Lib.hid hlt6
            refine hK.out _ _ S6.out ?_
            clear hK K n6 b6 hvb hW6 r6 hlt6
            refine stepE (i := 1) rfl (by kernel_rfl) (fun w7 r7 K hK => ?_)
            go_simp
            refine (HCL.out w7 (BC_trans S6.out r7)).mono ?_
            rintro e w8 ⟨v7, rfl, own7, b7⟩
            have S8 := Lib.hid (BC_trans (BC_trans S6.out r7) b7)
            have ne8 : v7.ownBlock ≠ some vb := fun e => by
              have h1 := own7.block vb e
              have h2 := HL6.out
              have h3 := r7.size
              omega
            have HO8 := Lib.hid (And.intro (own7.mono (BC_trans S6.out r7).size) (And.intro (BC_blk1 (BC_trans r7 b7) HB6.out) ne8))
            refine hK.out _ _ S8.out ?_
            clear hK K b7 own7 r7 ne8
            refine stepE (i := 5) rfl (by kernel_rfl) (fun w9 r9 K hK => ?_)
            go_simp
            refine (insert_any w5.heap.size _ qs (p, .slice p4 p.da.length q4) k vb w9 (by have := HAD.out.2; have := HI.out; omega) (HO8.out.1.below r9) (BC_trans S8.out r9).size (by have := HV.out.2.2.2.1; omega) HV.out.1.1.wh HV.out.1.1.one (by have h := BC_blk1 r9 HO8.out.2.1; rw [HC5.out.1] at h; exact h) HO8.out.2.2 HV.out.2.1.1 H5.out.2.2.2.2).mono ?_
            rintro e w10 ⟨v10, rfl, own10, b10⟩
            have S10 := Lib.hid (Below.trans (BC_trans S8.out r9) b10)
            refine hK.out _ _ S10.out ?_
            have HF := Lib.hid own10
            clear hK K b10 own10 r9
            refine takeE (i := 6) rfl (by kernel_rfl) (by kernel_rfl) (by kernel_rfl) (fun _ _ _ _ h => h) S10.out (fun K hK => ?_)
            go_simp
            refine hK.out _ ?_
            clear hK K
            refine takeE (i := 7) rfl (by kernel_rfl) (by kernel_rfl) (by kernel_rfl) (fun _ _ _ _ h => h) S10.out (fun K hK => ?_)
            go_simp
            refine hK.out _ ?_
            clear hK K
            refine doneE (by kernel_rfl) (fun w11 r11 => ?_) _
            clear hS
            have HZ := Lib.hid (And.intro (HF.out.below r11) (BC_trans S10.out r11))
            clear r11
            go_wp2_with fail
            go_ret2
            have hb := BC_below H5.out.2.2.1 H5.out.2.2.1.size HZ.out.2
            have hg : GoodQ w11.heap.size w11 (insQ qs k (p, .slice p4 p.da.length q4)) := by
              intro q hq
              unfold insQ at hq
              have h1 := HV.out.1.1.to hb
              rcases List.mem_append.1 hq with h | h
              · exact h1 q (List.mem_of_mem_take h)
              · rcases List.mem_cons.1 h with rfl | h
                · exact ⟨HV.out.2.1, (H5.out.2.1.held.below HZ.out.2).mono HZ.out.2.size⟩
                · exact h1 q (List.mem_of_mem_drop h)
            refine ⟨_, insQ qs k (p, .slice p4 p.da.length q4), by rw [HAD.out.1]; rfl, HZ.out.1.rd hg, ?_, hb⟩
            rw [HAD.out.1, ← HI.out]
            exact map_insQ _ _ _ _
      · have hge' : (512 : Int) ≤ (qs.length : Int) := by omega
        have hge2 : 512 ≤ (qs.map (·.1)).length := by rw [List.length_map]; omega
        have HGE := Lib.hid hge2
        clear hge2 hge
        have hadd : AL = (qs.map (·.1), 5) := by rw [HAL.out]; unfold addL; rw [if_neg (by rw [← HM.out.2]; simp), if_neg (by rw [← HCC.out]; simp), if_pos HGE.out]
        have HAD := Lib.hid hadd
        have HCL := Lib.hid (pclone_any _ qs w2 (HV.out.1.to H2.out.2) (by have := HV.out.2.2.2.1; omega))
        clear hadd
        go_wp2_with fail
        refine HCL.out.mono ?_
        rintro e wz ⟨vz, rfl, ownz, bz⟩
        have HZ := Lib.hid (And.intro ownz (And.intro bz (BC_below H2.out.2 H2.out.2.size bz)))
        clear ownz bz
        go_wp2_with fail
        go_ret2
        exact ⟨_, qs, by rw [HAD.out]; rfl, HZ.out.1.rd (HV.out.1.1.to HZ.out.2.2), by rw [HAD.out], HZ.out.2.2⟩
end Go.Proofs.Ytjnimbhecfpnmaa
