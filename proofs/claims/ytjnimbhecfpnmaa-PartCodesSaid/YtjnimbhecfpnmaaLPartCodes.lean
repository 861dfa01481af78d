/- The statement PartCodes: any part's bytes, any bytes' part (5000 of data at most), or the error. No condition. -/
import Derived.Test.YtjnimbhecfpnmaaAwake18
import Derived.Test.YtjnimbhecfpnmaaSame18
import Derived.Test.YtjnimbhecfpnmaaOpenP
import Derived.Test.YtjnimbhecfpnmaaGuard
import Derived.Test.YtjnimbhecfpnmaaRDec18
import Derived.Deep.Cut
import Derived.OpenShut
import Derived.ShutString
import Derived.ChangeOld
namespace Go.Proofs.Ytjnimbhecfpnmaa.partCodesDone
open Go.ChangeShapes Go.WideShapes Go.ChangeAt Go.RowKit
set_option linter.unusedVariables false
set_option linter.unusedSimpArgs false
set_option maxRecDepth 100000
attribute [local irreducible] SlV Lies

attribute [local go_sem] takes comesTo
theorem zero_p (w : World) : (zeroValue 26).run Try.prog w = .ok (.agg zpart) w := by kernel_rfl
theorem zero_r (w : World) : (zeroValue 33).run Try.prog w = .ok (.agg zpart) w := by kernel_rfl
/-- what encoding gives: the bytes, or nothing, and the error -/
def encR (m : Bool) (wh : List Int) (s t : Int) (l : List Int) : List Int := if m then encF wh s t l else []
def encE (m : Bool) : Int := if m then 0 else 1
theorem enc_both (wh0 : List Int) (s0 t0 : Int) (l0 : List Int) (b0 o0 : Nat) (u : Value) (m : Bool) (hm : m = mayB s0 t0 l0.length) (hw : wh0.length = 32) (hwb : Bytes wh0) (hb : Bytes l0) (hn : l0.length ≤ 500000) (hu : SlV u b0 o0 l0.length) (w : World) (hl : Lies w b0 o0 l0) :
    (Calls Try.prog 15 #[.agg (pcells wh0 s0 t0 u).toArray] w fun e w' => ∃ v', e = .returned (.tuple #[v', .int .i64 (encE m)]) ∧ Own w.heap.size w' v' (encR m wh0 s0 t0 l0) ∧ Below w.heap.size w w') ∧
    (Calls Try.prog 16 #[.agg (pcells wh0 s0 t0 u).toArray] w fun e w' => ∃ v', e = .returned (.tuple #[v', .int .i64 (encE m)]) ∧ Own w.heap.size w' v' (encR m wh0 s0 t0 l0) ∧ Below w.heap.size w w') := by
  cases m with
  | true => exact ⟨encode_yes wh0 hw hwb s0 t0 u b0 o0 l0 hb hn hu hm.symm w hl, rencode_yes wh0 hw hwb s0 t0 u b0 o0 l0 hb hn hu hm.symm w hl⟩
  | false =>
    refine ⟨(encode_no wh0 hw s0 t0 u b0 o0 l0.length hu hm.symm w).mono ?_, (rencode_no wh0 hw s0 t0 u b0 o0 l0.length hu hm.symm w).mono ?_⟩
    · rintro e w' ⟨rfl, hb⟩
      exact ⟨_, rfl, Own.nil _ _, hb⟩
    · rintro e w' ⟨rfl, hb⟩
      exact ⟨_, rfl, Own.nil _ _, hb⟩
set_option maxHeartbeats 4000000 in
theorem walk (wh0 : List Int) (s0 t0 : Int) (u0 : Value) (b0 o0 : Nat) (l0 : List Int) (v1 : Value) (b1 o1 : Nat) (l1 : List Int) (hw0 : wh0.length = 32) (hwb0 : Bytes wh0) (hs0 : (Lit.int .i64 s0).wf = true) (ht0 : (Lit.int .i64 t0).wf = true) (hu0 : SlV u0 b0 o0 l0.length) (hb0 : Bytes l0)
    (hv1 : SlV v1 b1 o1 l1.length) (hb1 : Bytes l1) (w : World) (hl0 : Lies w b0 o0 l0) (hl1 : Lies w b1 o1 l1) :
    Calls Try.prog 3 #[.agg (pcells wh0 s0 t0 u0).toArray, v1] w fun e w' => e = .returned (.bool true) ∧ Below w.heap.size w w' := by
  have hz := zero_p
  have hz' := zero_r
  have HU := Lib.hid hu0
  have HV := Lib.hid hv1
  obtain ⟨pu, cu, rfl, hq1, hq2, _⟩ := by unfold SlV at hu0; exact hu0
  obtain ⟨pv, cv, rfl, _⟩ := by unfold SlV at hv1; exact hv1
  have hmp := fun hn => enc_both wh0 s0 t0 l0 b0 o0 (.slice pu l0.length cu) (mayB s0 t0 l0.length) rfl hw0 hwb0 hb0 hn hu0
  have hma := may_any wh0 hw0 s0 t0 pu l0.length cu (by omega)
  have hmr := rmay_any wh0 hw0 s0 t0 pu l0.length cu (by omega)
  have k34 := pcells_data hw0 s0 t0 (.slice pu l0.length cu)
  have hsz0 := pcells_sz hw0 s0 t0 (.slice pu l0.length cu)
  obtain ⟨C0, hC0⟩ : ∃ C, C = (pcells wh0 s0 t0 (.slice pu l0.length cu)).toArray := ⟨_, rfl⟩
  obtain ⟨m, hm⟩ : ∃ m, m = mayB s0 t0 l0.length := ⟨_, rfl⟩
  rw [← hC0, ← hm] at hmp hma hmr
  rw [← hC0] at k34 hsz0 ⊢
  have hXb : Bytes (encR m wh0 s0 t0 l0) := by
    unfold encR
    split
    · exact encF_bytes hwb0 hb0 _ _
    · exact bytes_nil
  generalize encR m wh0 s0 t0 l0 = X at *
  generalize encE m = ee at *
  have HP := Lib.hid (And.intro hl0 (And.intro hb0 (And.intro hl1 (And.intro hb1 hXb))))
  have HE := Lib.hid hmp
  have HMA := Lib.hid (And.intro hma hmr)
  have HZ0 := Lib.hid hsz0
  have HK := Lib.hid k34
  have HB0 := Lib.hid (And.intro (heap_alloc_new w (.cells C0 26)) (below1 w (.cells C0 26)))
  clear hC0 hw0 hwb0 hs0 ht0 hu0 hb0 hv1 hb1 hl0 hl1 k34 hsz0 hq1 hq2 hmp hma hmr hm hXb
  obtain ⟨n0, hn0⟩ : ∃ n, n = l0.length := ⟨_, rfl⟩
  obtain ⟨n1, hn1⟩ : ∃ n, n = l1.length := ⟨_, rfl⟩
  rw [← hn0] at HK
  rw [← hn1] at HV ⊢
  have HN := Lib.hid (And.intro hn0 hn1)
  clear hn0 hn1
  go_enter Try.func3, Try.ntmps3
  go_wp2_with fail
  refine (awake18_any _).mono ?_
  rintro e w1 ⟨rfl, ba⟩
  have H1 := Lib.hid (And.intro (BC_blk1 ba HB0.out.1) (BC_below HB0.out.2 HB0.out.2.size ba))
  have c34 := cell_row H1.out.1 34 HK.out
  clear ba
  rcases Nat.lt_or_ge 5000 n0 with h5 | h5
  · have h5' : (5000 : Int) < (n0 : Int) := by omega
    go_wp2_with fail
    go_ret
    exact ⟨rfl, H1.out.2⟩
  rcases Nat.lt_or_ge 5200 n1 with h6 | h6
  · have h5' : ¬ (5000 : Int) < (n0 : Int) := by omega
    have h6' : (5200 : Int) < (n1 : Int) := by omega
    go_wp2_with fail
    go_ret
    exact ⟨rfl, H1.out.2⟩
  have h5' : ¬ (5000 : Int) < (n0 : Int) := by omega
  have h6' : ¬ (5200 : Int) < (n1 : Int) := by omega
  have HM5 := Lib.hid (And.intro h5 h6)
  have hsmall : l0.length ≤ 500000 := by have := HN.out; omega
  have HSM := Lib.hid hsmall
  clear h5 h6 hsmall
  go_wp2_with ((with_reducible refine wlw_load_row (o := ⟨some 26, _, _, _, _, _⟩) ?_ 26 (.tmp 2) ?_ _ ?_ _ C0 _ _ H1.out.1 Try.underlying26 ?_ ?_ ?_); (focus rfl); (focus rfl); (focus rfl); (focus rfl); (focus (rw [HZ0.out]; kernel_rfl)))
  refine (HE.out HSM.out w1 (HP.out.1.below' H1.out.2)).1.mono ?_
  rintro e w2 ⟨vx, rfl, ox, bx⟩
  obtain ⟨gx, sx, lx, _⟩ := ox.slv
  obtain ⟨px, cx, rfl⟩ := ox.form
  have H2 := Lib.hid (And.intro (BC_blk1 bx H1.out.1) (And.intro (BC_below H1.out.2 H1.out.2.size bx) (And.intro sx lx)))
  clear ox bx sx lx c34 h5' h6'
  go_wp2_with ((with_reducible refine wlw_load_row (o := ⟨some 31, _, _, _, _, _⟩) ?_ 26 (.tmp 2) ?_ _ ?_ _ C0 _ _ H2.out.1 Try.underlying26 ?_ ?_ ?_); (focus rfl); (focus rfl); (focus rfl); (focus rfl); (focus (rw [HZ0.out]; kernel_rfl)))
  refine (HE.out HSM.out w2 (HP.out.1.below' H2.out.2.1)).2.mono ?_
  rintro e w3 ⟨vy, rfl, oy, by1⟩
  obtain ⟨gy, sy, ly, _⟩ := oy.slv
  obtain ⟨py, cy, rfl⟩ := oy.form
  have H3 := Lib.hid (And.intro (BC_blk1 by1 H2.out.1) (And.intro (BC_below H2.out.2.1 H2.out.2.1.size by1) (And.intro (H2.out.2.2.2.below' by1) (And.intro sy ly))))
  clear oy by1 sy ly
  go_wp2_with fail
  have h400 : l1.length ≤ 400000 := by have := HM5.out; have := HN.out; omega
  have H400 := Lib.hid h400
  clear h400
  refine (decode_any b1 o1 _ l1 HP.out.2.2.2.1 H400.out (by rw [← HN.out.2]; exact HV.out) w3 (HP.out.2.2.1.below' H3.out.2.1)).mono ?_
  rintro e w4 ⟨vq, rfl, oq, bq⟩
  obtain ⟨gq, sq, lq, _⟩ := oq.slv
  obtain ⟨pq, cq, rfl⟩ := oq.form
  have hszq := pcells_sz (dWh_len l1) (dSz l1) (dAt l1) (.slice pq (dDa l1).length cq)
  have honq := pcells_one (dWh l1) (dSz l1) (dAt l1) (.slice pq (dDa l1).length cq) rfl
  obtain ⟨CQ, hCQ⟩ : ∃ C, C = (pcells (dWh l1) (dSz l1) (dAt l1) (.slice pq (dDa l1).length cq)).toArray := ⟨_, rfl⟩
  obtain ⟨g, hg⟩ : ∃ g, g = errF l1 := ⟨_, rfl⟩
  rw [← hCQ] at hszq honq ⊢
  rw [← hg]
  have HSQ := Lib.hid (And.intro hszq honq)
  obtain ⟨W5, hW5⟩ : ∃ W, W = w4.alloc (.cells CQ 26) := ⟨_, rfl⟩
  obtain ⟨B10, hB10⟩ : ∃ B, B = w4.heap.size := ⟨_, rfl⟩
  have n10 := heap_alloc_new w4 (.cells CQ 26)
  have b5 := below1 w4 (.cells CQ 26)
  rw [← hW5, ← hB10] at n10
  rw [← hW5] at b5
  have b35 : BC w3 W5 := BC_trans bq b5
  have H5 := Lib.hid (And.intro (BC_blk1 b35 H3.out.1) (And.intro (BC_below H3.out.2.1 H3.out.2.1.size b35) (And.intro b35 (And.intro n10 (And.intro sq (lq.below' b5))))))
  have HW5 := Lib.hid (And.intro hW5 hB10)
  have HCQ := Lib.hid (And.intro hCQ hg)
  clear hszq honq hCQ hg hW5 hB10 n10 b5 b35 sq lq oq bq
  go_upto_region 7 with (refine wpList_store_rowTo rfl 26 _ _ rfl rfl _ CQ rfl rfl 26 zpart (heap_alloc_new w4 _) (by rw [HSQ.out.1]; kernel_rfl) (by rw [HSQ.out.1]; kernel_rfl) HSQ.out.2 ?_; rw [World.setRow_alloc_new])
  rw [← HW5.out.1, ← HW5.out.2]
  go_wp2_with fail
  refine (rdecode_any b1 o1 _ l1 HP.out.2.2.2.1 H400.out (by rw [← HN.out.2]; exact HV.out) W5 (HP.out.2.2.1.below' H5.out.2.1)).mono ?_
  rintro e w6 ⟨vr, rfl, orr, br⟩
  obtain ⟨gr, sr, lr, _⟩ := orr.slv
  obtain ⟨pr, cr, rfl⟩ := orr.form
  have hszr := pcells_sz (dWh_len l1) (dSz l1) (dAt l1) (.slice pr (dDa l1).length cr)
  have honr := pcells_one (dWh l1) (dSz l1) (dAt l1) (.slice pr (dDa l1).length cr) rfl
  obtain ⟨CR, hCR⟩ : ∃ C, C = (pcells (dWh l1) (dSz l1) (dAt l1) (.slice pr (dDa l1).length cr)).toArray := ⟨_, rfl⟩
  rw [← hCR] at hszr honr ⊢
  rw [← HCQ.out.2]
  have HSR := Lib.hid (And.intro hszr honr)
  obtain ⟨W7, hW7⟩ : ∃ W, W = w6.alloc (.cells CR 33) := ⟨_, rfl⟩
  obtain ⟨B12, hB12⟩ : ∃ B, B = w6.heap.size := ⟨_, rfl⟩
  have n12 := heap_alloc_new w6 (.cells CR 33)
  have b7 := below1 w6 (.cells CR 33)
  rw [← hW7, ← hB12] at n12
  rw [← hW7] at b7
  have b57 : BC W5 W7 := BC_trans br b7
  have H7 := Lib.hid (And.intro (BC_blk1 b57 H5.out.1) (And.intro (BC_below H5.out.2.1 H5.out.2.1.size b57) (And.intro (BC_blk1 b57 H5.out.2.2.2.1) n12)))
  have HW7 := Lib.hid (And.intro hW7 hB12)
  have hsame : ∀ W, BC W7 W → Calls Try.prog 21 #[.agg CQ, .agg CR] W fun e w' => e = .returned (.bool true) ∧ Below W.heap.size W w' := fun W hW => by
    have h := rsame_any (dWh l1) (dWh l1) (dWh_len _) (dWh_len _) (dSz l1) (dAt l1) (dSz l1) (dAt l1) _ _ gq 0 gr 0 (dDa l1) (dDa l1) (dDa_bytes HP.out.2.2.2.1) (dDa_bytes HP.out.2.2.2.1) H5.out.2.2.2.2.1 sr W ((H5.out.2.2.2.2.2.below' b57).below' hW) ((lr.below' b7).below' hW)
    rw [← HCQ.out.1, ← hCR, show samePB (dWh l1) (dWh l1) (dSz l1) (dSz l1) (dAt l1) (dAt l1) (dDa l1) (dDa l1) = true from decide_eq_true ⟨rfl, rfl, rfl, rfl⟩] at h
    exact h
  have hc1 : ∀ x : HW (BC W7), (convert 24 9 (.slice px X.length cx)).run Try.prog x.w = .ok (.string (strOfNums X)) x.w := fun x => conv_slv gx 0 _ X H2.out.2.2.1 x.w (((H3.out.2.2.1.below' H5.out.2.2.1).below' b57).below' x.h)
  have hc2 : ∀ x : HW (BC W7), (convert 24 9 (.slice py X.length cy)).run Try.prog x.w = .ok (.string (strOfNums X)) x.w := fun x => conv_slv gy 0 _ X H3.out.2.2.2.1 x.w (((H3.out.2.2.2.2.below' H5.out.2.2.1).below' b57).below' x.h)
  have HSAME := Lib.hid (fun x : HW (BC W7) => hsame x.w x.h)
  have HCM := Lib.hid (fun x : HW (BC W7) => HMA.out.1 x.w)
  have HCN := Lib.hid (fun x : HW (BC W7) => HMA.out.2 x.w)
  generalize strOfNums X = S at *
  generalize X.length = nX at *
  clear hszr honr hCR hW7 hB12 n12 b7 b57 sr lr orr br hsame
  go_upto_region 8 with (refine wpList_store_rowTo rfl 33 _ _ rfl rfl _ CR rfl rfl 33 zpart (heap_alloc_new w6 _) (by rw [HSR.out.1]; kernel_rfl) (by rw [HSR.out.1]; kernel_rfl) HSR.out.2 ?_; rw [World.setRow_alloc_new])
  rw [← HW7.out.1, ← HW7.out.2]
  have hS := BC_all (w := W7)
  haveI := BC_inst W7
  refine wp_region_head (BC W7) 31 (by kernel_rfl) (by kernel_rfl) (BC_start _) ?_
  simp only [List.take_succ_cons, List.take_zero, List.drop_succ_cons, List.drop_zero]
  repeat (first
    | ((with_reducible refine headG_load_row (o := ⟨some 47, _, _, _, _, _⟩) 26 (.tmp 2) ?_ ?_ _ ?_ _ C0 _ _ (BC_blk H7.out.1) Try.underlying26 ?_ ?_ ?_); (focus rfl); (focus rfl); (focus rfl); (focus rfl); (focus (rw [HZ0.out]; kernel_rfl)))
    | ((with_reducible refine headG_load_row (o := ⟨some 49, _, _, _, _, _⟩) 26 (.tmp 2) ?_ ?_ _ ?_ _ C0 _ _ (BC_blk H7.out.1) Try.underlying26 ?_ ?_ ?_); (focus rfl); (focus rfl); (focus rfl); (focus rfl); (focus (rw [HZ0.out]; kernel_rfl)))
    | ((with_reducible refine headG_load_row (o := ⟨some 66, _, _, _, _, _⟩) 26 (.tmp 10) ?_ ?_ _ ?_ _ CQ _ _ (BC_blk H7.out.2.2.1) Try.underlying26 ?_ ?_ ?_); (focus rfl); (focus rfl); (focus rfl); (focus rfl); (focus (rw [HSQ.out.1]; kernel_rfl)))
    | ((with_reducible refine headG_load_row (o := ⟨some 67, _, _, _, _, _⟩) 33 (.tmp 12) ?_ ?_ _ ?_ _ CR _ _ (BC_blk H7.out.2.2.2) Try.underlying33 ?_ ?_ ?_); (focus rfl); (focus rfl); (focus rfl); (focus rfl); (focus (rw [HSR.out.1]; kernel_rfl)))
    | (refine headG_step (fun K hK => ?_)
       go_simp
       first
         | (refine hK _ ?_; clear hK K)
         | (apply Exists.intro
            refine ⟨fun x => ?_, hK _ ?_⟩
            (first
              | (go_at_call 19; exact BC_call x (HCM.out x))
              | (go_at_call 20; exact BC_call x (HCN.out x))
              | (go_at_call 21; exact BC_call x (HSAME.out x)))
            clear hK K)))
  refine headG_nil ?_
  intro w8 b8
  have HF := Lib.hid (BC_below H7.out.2.1 H7.out.2.1.size b8)
  clear hS hc1 hc2 b8
  go_wp2_with fail
  go_ret
  exact ⟨rfl, HF.out⟩
theorem own : ownKnob Try.prog.godebug = none := by kernel_rfl
theorem laidOut : laidOutB Try.prog = true := by kernel_rfl
set_option maxRecDepth 100000 in
theorem lifted (os : Os) (started : os.Started) (H : Type) (enc : TypeId × Value → H) :
    ReturnsInHanded {} Try.checked os 3 .any (Rows.partCodesSpec.pre6 enc Try.prog Try.f3 Rows.partCodesRow.domain false) (Rows.partCodesSpec.post enc Try.prog Try.f3 false true false false) := by
  refine returnsInHanded_of_change (C := Try.checked) own started (by kernel_rfl) Try.func3
    (ChangeSpec.witness6 (enc := enc) (C := Try.checked) false ⟨#[], #[.agg (pcells (List.replicate 32 0) 0 0 (.slice none 0 0)).toArray, .slice none 0 0], []⟩ 8 (by kernel_rfl) (by kernel_rfl) (by kernel_rfl) (by kernel_rfl)) ?_
  intro W base args ds gs before hval0 hW hcnd _
  have hval : ∀ (j : Nat) t v, Try.f3.params[j]? = some t → args[j]? = some v → Value.okWide Try.prog W .any base t v := hval0
  have hW' := hW
  obtain ⟨p, q, hA0, hV, rfl, hfz, hnd⟩ := hW
  have hA : DataW.TrodAll enc Try.prog W 0 (fun _ => true) true Try.f3.params.toList args.toList ds p := hA0
  rw [Try.params3] at hA hval
  obtain ⟨v0, vs0, d0, ds0, p0, q0, hargs, rfl, rfl, h0, r0⟩ := trodAll_cons hA
  obtain ⟨v1, vs1, d1, ds1, p1, q1, rfl, rfl, rfl, h1, r1⟩ := trodAll_cons r0
  obtain ⟨rfl, rfl, rfl⟩ := trodAll_nil r1
  obtain rfl : args = #[v0, v1] := by cases args; simp_all
  obtain ⟨rfl, rfl⟩ := trodVars_none hV
  have k0 := h0
  have lt0 : ∀ x ∈ p0, x.block < W.heap.size := by obtain ⟨m, hm⟩ := k0; exact DataW.trod_lt m _ _ _ hm
  obtain ⟨wh0, s0, t0, u0, l0, rfl, hw0, hwb0, hs0, ht0, b0, o0, hu0, hl0, hb0⟩ := open_part (hval 0 26 v0 rfl rfl) h0
  obtain ⟨a1, len1, cap1, rfl⟩ := okWide_slice Try.underlying24 (hval 1 24 v1 rfl rfl)
  have k1 := h1
  have lt1 : ∀ x ∈ p1, x.block < W.heap.size := by obtain ⟨m, hm⟩ := k1; exact DataW.trod_lt m _ _ _ hm
  obtain ⟨z1, w1⟩ : ∃ zs, IsRow .u8 W a1 len1 cap1 zs := by
    obtain ⟨fuel, hf⟩ := h1
    rcases open_ints Try.underlying24 Try.underlying5 (by kernel_rfl) hf with ⟨hcs, _⟩ | ⟨x, l, c, zs, hcs, _, hl, hm, hz, _, hcell, hwz⟩
    · simp [Value.cells] at hcs
      obtain ⟨rfl, rfl, rfl⟩ := hcs
      exact ⟨[], .inl ⟨rfl, rfl, rfl, rfl⟩⟩
    · simp [Value.cells] at hcs
      obtain ⟨rfl, rfl, rfl⟩ := hcs
      exact ⟨zs, .inr ⟨_, rfl, hl, hm, by simpa using hz, hcell, hwz⟩⟩
  obtain ⟨b1, o1, l1, hv1, hl1, hb1⟩ := isb_of_row w1
  clear hA0 hval0
  refine (walk wh0 s0 t0 u0 b0 o0 l0 (.slice a1 len1 cap1) b1 o1 l1 hw0 hwb0 hs0 ht0 hu0 hb0 hv1 hb1 W hl0 hl1).mono fun e W' ⟨he, bel⟩ => ?_
  subst he
  exact ⟨_, rfl, _, _, _, [], _, [], hW', trodAll_mk1 (shut_bool Try.underlying4 _), (trodAll_cons_mk (Below.trod laidOut (by kernel_rfl) (of_decide_eq_true (by kernel_rfl)) k0 bel lt0) (trodAll_cons_mk (Below.trod laidOut (by kernel_rfl) (of_decide_eq_true (by kernel_rfl)) k1 bel lt1) trodAll_mk0)), rfl, bel.frame _, fun h => by cases h⟩
theorem over : Rows.partCodesRow.holds Try.pinned (OpenSpec.ofChange Rows.partCodesSpec) :=
  OpenClaim.holds_of_wide 3 Try.f3 rfl rfl rfl rfl rfl rfl rfl ⟨rfl, rfl, rfl, rfl, rfl⟩ rfl rfl rfl rfl rfl (by kernel_rfl) Try.func3 (by kernel_rfl)
    (of_decide_eq_true (by kernel_rfl)) (by unfold Func.isWrapper; first | (rw [if_pos (by decide +kernel)]; kernel_rfl) | (rw [if_neg (by decide +kernel)]; exact ⟨rfl, rfl⟩))
    (fun os started H enc _ => lifted os started H enc)
theorem proved : Rows.PartCodesSaid := over
#print axioms proved
end Go.Proofs.Ytjnimbhecfpnmaa.partCodesDone
