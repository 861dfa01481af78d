/- The statement PartBack: a part is decoded as it was; what is decoded may be, and is encoded as it stood. No condition. -/
import Derived.Test.YtjnimbhecfpnmaaAwake18
import Derived.Test.YtjnimbhecfpnmaaSame18
import Derived.Test.YtjnimbhecfpnmaaOpenP
import Derived.Test.YtjnimbhecfpnmaaGuard
import Derived.OpenShut
import Derived.ShutString
import Derived.ChangeOld
namespace Go.Proofs.Ytjnimbhecfpnmaa.partBackDone
open Go.ChangeShapes Go.WideShapes Go.ChangeAt Go.RowKit
set_option linter.unusedVariables false
set_option linter.unusedSimpArgs false
set_option maxRecDepth 100000
attribute [local irreducible] SlV Lies

theorem zero_p (w : World) : (zeroValue 26).run Try.prog w = .ok (.agg zpart) w := by kernel_rfl
set_option maxHeartbeats 1600000 in
theorem walk (wh0 : List Int) (s0 t0 : Int) (u0 : Value) (b0 o0 : Nat) (l0 : List Int) (v1 : Value) (b1 o1 : Nat) (l1 : List Int) (hw0 : wh0.length = 32) (hwb0 : Bytes wh0) (hs0 : (Lit.int .i64 s0).wf = true) (ht0 : (Lit.int .i64 t0).wf = true) (hu0 : SlV u0 b0 o0 l0.length) (hb0 : Bytes l0)
    (hv1 : SlV v1 b1 o1 l1.length) (hb1 : Bytes l1) (w : World) (hl0 : Lies w b0 o0 l0) (hl1 : Lies w b1 o1 l1) :
    Calls Try.prog 5 #[.agg (pcells wh0 s0 t0 u0).toArray, v1] w fun e w' => e = .returned (.bool true) ∧ Below w.heap.size w w' := by
  have hz := zero_p
  have HU := Lib.hid hu0
  have HV := Lib.hid hv1
  obtain ⟨pu, cu, rfl, hq1, hq2, _⟩ := by unfold SlV at hu0; exact hu0
  obtain ⟨pv, cv, rfl, _⟩ := by unfold SlV at hv1; exact hv1
  obtain ⟨C0, hC0⟩ : ∃ C, C = (pcells wh0 s0 t0 (.slice pu l0.length cu)).toArray := ⟨_, rfl⟩
  have k34 := pcells_data hw0 s0 t0 (.slice pu l0.length cu)
  have hsz0 := pcells_sz hw0 s0 t0 (.slice pu l0.length cu)
  rw [← hC0] at k34 hsz0 ⊢
  have HP := Lib.hid (And.intro hC0 (And.intro hw0 (And.intro hwb0 (And.intro hl0 (And.intro hb0 (And.intro hl1 (And.intro hb1 (And.intro hq1 hq2))))))))
  have HZ0 := Lib.hid hsz0
  have HK := Lib.hid k34
  have HB0 := Lib.hid (And.intro (heap_alloc_new w (.cells C0 26)) (below1 w (.cells C0 26)))
  clear hC0 hw0 hwb0 hs0 ht0 hu0 hb0 hv1 hb1 hl0 hl1 k34 hsz0 hq1 hq2
  obtain ⟨n0, hn0⟩ : ∃ n, n = l0.length := ⟨_, rfl⟩
  obtain ⟨n1, hn1⟩ : ∃ n, n = l1.length := ⟨_, rfl⟩
  rw [← hn0] at HP HK HU
  rw [← hn1] at HV ⊢
  have HN := Lib.hid (And.intro hn0 hn1)
  clear hn0 hn1
  go_enter Try.func5, Try.ntmps5
  go_wp2_with fail
  refine (awake18_any _).mono ?_
  rintro e w1 ⟨rfl, ba⟩
  have H1 := Lib.hid (And.intro (BC_blk1 ba HB0.out.1) (BC_below HB0.out.2 HB0.out.2.size ba))
  have c34 := cell_row H1.out.1 34 HK.out
  clear ba
  rcases Nat.lt_or_ge 5000 n0 with h5 | h5
  · have h5' : (5000 : Int) < (n0 : Int) := by omega
    go_wp2_with fail
    go_ret
    exact ⟨rfl, H1.out.2⟩
  rcases Nat.lt_or_ge 5200 n1 with h6 | h6
  · have h5' : ¬ (5000 : Int) < (n0 : Int) := by omega
    have h6' : (5200 : Int) < (n1 : Int) := by omega
    go_wp2_with fail
    go_ret
    exact ⟨rfl, H1.out.2⟩
  have h5' : ¬ (5000 : Int) < (n0 : Int) := by omega
  have h6' : ¬ (5200 : Int) < (n1 : Int) := by omega
  have HM5 := Lib.hid (And.intro h5 h6)
  clear h5 h6
  obtain ⟨m, hm⟩ : ∃ m, m = mayB s0 t0 n0 := ⟨_, rfl⟩
  have hmc := may_any wh0 HP.out.2.1 s0 t0 pu n0 cu (by have := HP.out; omega)
  rw [← HP.out.1, ← hm] at hmc
  have HMC := Lib.hid hmc
  clear hmc
  cases m with
  | true =>
    have hen := encode_yes wh0 HP.out.2.1 HP.out.2.2.1 s0 t0 (.slice pu n0 cu) b0 o0 l0 HP.out.2.2.2.2.1 (by have := HM5.out; have := HN.out; omega) (by rw [← HN.out.1]; exact HU.out) (by rw [← HN.out.1]; exact hm.symm) w1 (HP.out.2.2.2.1.below' H1.out.2)
    rw [← HP.out.1] at hen
    have HEN := Lib.hid hen
    have HMT := Lib.hid hm
    clear hen hm
    go_wp2_with ((with_reducible refine wlw_load_row (o := ⟨some 26, _, _, _, _, _⟩) ?_ 26 (.tmp 2) ?_ _ ?_ _ C0 _ _ H1.out.1 Try.underlying26 ?_ ?_ ?_); (focus rfl); (focus rfl); (focus rfl); (focus rfl); (focus (rw [HZ0.out]; kernel_rfl)))
    refine HEN.out.mono ?_
    rintro e w2 ⟨vx, rfl, ownx, bx⟩
    have hmy : mayB s0 t0 l0.length = true := by rw [← HN.out.1]; exact HMT.out.symm
    obtain ⟨e1, e2, e3, e4⟩ := dec_enc HP.out.2.1 hmy
    have he := errF_enc HP.out.2.1 hmy
    have hxl := encF_len HP.out.2.1 s0 t0 l0
    have hxb := encF_bytes HP.out.2.2.1 HP.out.2.2.2.2.1 s0 t0
    obtain ⟨gx, sx, lx, _⟩ := ownx.slv
    obtain ⟨px, cx, rfl⟩ := ownx.form
    have hdc := decode_any gx 0 _ (encF wh0 s0 t0 l0) hxb (by have := HM5.out; have := HN.out; omega) sx w2 lx
    rw [he, e1, e2, e3, e4] at hdc
    rw [hxl] at hdc ⊢
    obtain ⟨nx, hnx⟩ : ∃ nx, nx = 80 + l0.length := ⟨_, rfl⟩
    rw [← hnx] at hdc ⊢
    have HDC := Lib.hid hdc
    have HX := Lib.hid (And.intro hnx (And.intro (BC_blk1 bx H1.out.1) (BC_below H1.out.2 H1.out.2.size bx)))
    clear ownx bx e1 e2 e3 e4 he hxl hxb sx lx hdc hnx hmy c34
    go_wp2_with fail
    refine HDC.out.mono ?_
    rintro e w3 ⟨vq, rfl, ownq, bq⟩
    obtain ⟨gq, sq, lq, _⟩ := ownq.slv
    obtain ⟨pq, cq, rfl⟩ := ownq.form
    have hsz3 := pcells_sz HP.out.2.1 s0 t0 (.slice pq l0.length cq)
    have hon3 := pcells_one wh0 s0 t0 (.slice pq l0.length cq) rfl
    have bQ := below1 w3 (.cells (pcells wh0 s0 t0 (.slice pq l0.length cq)).toArray 26)
    have hsm := rsame_any wh0 wh0 HP.out.2.1 HP.out.2.1 s0 t0 s0 t0 (.slice pq l0.length cq) (.slice pu n0 cu) gq 0 b0 o0 l0 l0 HP.out.2.2.2.2.1 HP.out.2.2.2.2.1 sq (by rw [← HN.out.1]; exact HU.out) _ (lq.below' bQ) (HP.out.2.2.2.1.below' (BC_below (BC_below HX.out.2.2 HX.out.2.2.size bq) (BC_below HX.out.2.2 HX.out.2.2.size bq).size bQ))
    rw [← HP.out.1, show samePB wh0 wh0 s0 s0 t0 t0 l0 l0 = true from decide_eq_true ⟨rfl, rfl, rfl, rfl⟩] at hsm
    generalize (pcells wh0 s0 t0 (.slice pq l0.length cq)).toArray = CQ at *
    have HSQ := Lib.hid (And.intro hsz3 hon3)
    have HSM := Lib.hid hsm
    have HQ := Lib.hid (And.intro (heap_alloc_new w3 (.cells CQ 26)) (And.intro (BC_blk1 bQ (BC_blk1 bq HX.out.2.1)) (BC_below (BC_below HX.out.2.2 HX.out.2.2.size bq) (BC_below HX.out.2.2 HX.out.2.2.size bq).size bQ)))
    clear hsm hsz3 hon3 bQ ownq bq sq lq
    go_wp2_with (first
      | (refine wpList_store_rowTo rfl 26 _ _ rfl rfl _ CQ rfl rfl 26 zpart (heap_alloc_new w3 _) (by rw [HSQ.out.1]; kernel_rfl) (by rw [HSQ.out.1]; kernel_rfl) HSQ.out.2 ?_; rw [World.setRow_alloc_new])
      | ((with_reducible refine wlw_load_row (o := ⟨some 40, _, _, _, _, _⟩) ?_ 26 (.tmp 8) ?_ _ ?_ _ CQ _ _ HQ.out.1 Try.underlying26 ?_ ?_ ?_); (focus rfl); (focus rfl); (focus rfl); (focus rfl); (focus (rw [HSQ.out.1]; kernel_rfl)))
      | ((with_reducible refine wlw_load_row (o := ⟨some 41, _, _, _, _, _⟩) ?_ 26 (.tmp 2) ?_ _ ?_ _ C0 _ _ HQ.out.2.1 Try.underlying26 ?_ ?_ ?_); (focus rfl); (focus rfl); (focus rfl); (focus rfl); (focus (rw [HZ0.out]; kernel_rfl))))
    refine HSM.out.mono ?_
    rintro e wT ⟨rfl, bt⟩
    have HT := Lib.hid (And.intro (BC_blk1 bt HQ.out.2.1) (BC_below HQ.out.2.2 HQ.out.2.2.size bt))
    have c34 := cell_row HT.out.1 34 HK.out
    have s80 : IntKind.i64.wrap ((n0 : Int) + 80) = (nx : Int) := by rw [IntKind.wrap_i64]; have := HX.out.1; have := HN.out.1; omega
    have s81 : (n0 : Int) + 80 = (nx : Int) := by have := HX.out.1; have := HN.out.1; omega
    clear bt
    go_wp2_with fail
    clear s80 s81 c34
    refine (decode_any b1 o1 _ l1 HP.out.2.2.2.2.2.2.1 (by have := HM5.out; have := HN.out; omega) (by rw [← HN.out.2]; exact HV.out) wT (HP.out.2.2.2.2.2.1.below' HT.out.2)).mono ?_
    rintro e wd ⟨vd, rfl, ownd, bd⟩
    by_cases hg : errF l1 = 0
    · rw [hg]

      obtain ⟨k1, k2, k3, _⟩ := enc_dec hg
      have hDD : (dDa l1).length ≤ 5200 := Nat.le_trans (dDa_len l1) (by have := HM5.out; have := HN.out; omega)
      obtain ⟨gd, sd, ld, _⟩ := ownd.slv
      obtain ⟨pd, cd, rfl⟩ := ownd.form
      have hen := encode_yes (dWh l1) k3 (dWh_bytes HP.out.2.2.2.2.2.2.1) (dSz l1) (dAt l1) (.slice pd (dDa l1).length cd) gd 0 (dDa l1) (dDa_bytes HP.out.2.2.2.2.2.2.1) (by omega) sd k1
      have hma := may_any (dWh l1) k3 (dSz l1) (dAt l1) pd (dDa l1).length cd (by have h := sd; unfold SlV at h; obtain ⟨_, _, e1, e2, e3, _⟩ := h; injection e1 with _ _ e4; omega)
      rw [k1] at hma
      rw [k2] at hen
      have hsz2 := pcells_sz k3 (dSz l1) (dAt l1) (.slice pd (dDa l1).length cd)
      have hon2 := pcells_one (dWh l1) (dSz l1) (dAt l1) (.slice pd (dDa l1).length cd) rfl
      generalize (pcells (dWh l1) (dSz l1) (dAt l1) (.slice pd (dDa l1).length cd)).toArray = CD at *
      have HSD := Lib.hid (And.intro hsz2 hon2)
      have HMA := Lib.hid hma
      have bD1 := below1 wd (.cells CD 26)
      have HEN := Lib.hid (hen (wd.alloc (.cells CD 26)) (ld.below' bD1))
      have HD := Lib.hid (And.intro (heap_alloc_new wd (.cells CD 26)) (And.intro ((((BC_below HT.out.2 HT.out.2.size bd).alloc (BC_below HT.out.2 HT.out.2.size bd).size (.cells CD 26)))) (BC_blk1 bD1 (BC_blk1 bd HT.out.1))))
      clear hen hma hsz2 hon2 k1 k2 sd ld ownd bd bD1 hg
      go_wp2_with (first
        | (refine wpList_store_rowTo rfl 26 _ _ rfl rfl _ CD rfl rfl 26 zpart (heap_alloc_new wd _) (by rw [HSD.out.1]; kernel_rfl) (by rw [HSD.out.1]; kernel_rfl) HSD.out.2 ?_; rw [World.setRow_alloc_new])
        | ((with_reducible refine wlw_load_row (o := ⟨some 76, _, _, _, _, _⟩) ?_ 26 (.tmp 10) ?_ _ ?_ _ CD _ _ HD.out.1 Try.underlying26 ?_ ?_ ?_); (focus rfl); (focus rfl); (focus rfl); (focus rfl); (focus (rw [HSD.out.1]; kernel_rfl))))
      refine HEN.out.mono ?_
      rintro e wy ⟨vy, rfl, owny, by1⟩
      obtain ⟨gy, sy, ly, _⟩ := owny.slv
      obtain ⟨py, cy, rfl⟩ := owny.form
      have HY := Lib.hid (And.intro (BC_blk1 by1 HD.out.1) (And.intro (BC_below HD.out.2.1 HD.out.2.1.size by1) (And.intro (BC_blk1 by1 HD.out.2.2) (And.intro sy ly))))
      clear owny sy ly by1
      go_wp2_with ((with_reducible refine wlw_load_row (o := ⟨some 86, _, _, _, _, _⟩) ?_ 26 (.tmp 10) ?_ _ ?_ _ CD _ _ HY.out.1 Try.underlying26 ?_ ?_ ?_); (focus rfl); (focus rfl); (focus rfl); (focus rfl); (focus (rw [HSD.out.1]; kernel_rfl)))
      refine (HMA.out _).mono ?_
      rintro e wz ⟨rfl, bz⟩
      have cA := conv_slv gy 0 _ l1 HY.out.2.2.2.1 wz (HY.out.2.2.2.2.below' bz)
      have cB := conv_slv b1 o1 _ l1 (by rw [← HN.out.2]; exact HV.out) wz (HP.out.2.2.2.2.2.1.below' (BC_below HY.out.2.1 HY.out.2.1.size bz))
      have HW := Lib.hid (And.intro (BC_below HY.out.2.1 HY.out.2.1.size bz) (BC_blk1 bz HY.out.2.2.1))
      clear bz
      generalize strOfNums l1 = S at *
      go_wp2_with ((with_reducible refine wlw_load_row (o := ⟨some 99, _, _, _, _, _⟩) ?_ 26 (.tmp 2) ?_ _ ?_ _ C0 _ _ HW.out.2 Try.underlying26 ?_ ?_ ?_); (focus rfl); (focus rfl); (focus rfl); (focus rfl); (focus (rw [HZ0.out]; kernel_rfl)))
      refine (HMC.out _).mono ?_
      rintro e wu ⟨rfl, bu⟩
      have HF := Lib.hid (BC_below HW.out.1 HW.out.1.size bu)
      clear bu cA cB
      go_wp2_with fail
      go_ret
      exact ⟨rfl, HF.out⟩

    · have hdd := errF_ne hg
      obtain ⟨pd, cd, rfl⟩ := ownd.form
      rw [hdd]
      have k34d := pcells_data (dWh_len l1) (dSz l1) (dAt l1) (.slice pd 0 cd)
      have hsz2 := pcells_sz (dWh_len l1) (dSz l1) (dAt l1) (.slice pd 0 cd)
      have hon2 := pcells_one (dWh l1) (dSz l1) (dAt l1) (.slice pd 0 cd) rfl
      rw [show ([] : List Int).length = 0 from rfl]
      generalize (pcells (dWh l1) (dSz l1) (dAt l1) (.slice pd 0 cd)).toArray = CD at *
      have HSD := Lib.hid (And.intro hsz2 hon2)
      have bD1 := below1 wd (.cells CD 26)
      have c34d : (wd.alloc (.cells CD 26)).cell? ⟨wd.heap.size, 34, none⟩ = some (.slice pd 0 cd) := (cell_new _ _ _ _).trans k34d
      have HD := Lib.hid (And.intro ((BC_below HT.out.2 HT.out.2.size bd).alloc (BC_below HT.out.2 HT.out.2.size bd).size (.cells CD 26)) (BC_blk1 bD1 (BC_blk1 bd HT.out.1)))
      generalize errF l1 = g at *
      have g1 : (g == 0) = false := beq_eq_false_iff_ne.2 hg
      have g2 : (g != 0) = true := by rw [bne_iff_ne]; exact hg
      clear hdd k34d hsz2 hon2 ownd bd bD1 hg
      go_wp2_with (first
        | (refine wpList_store_rowTo rfl 26 _ _ rfl rfl _ CD rfl rfl 26 zpart (heap_alloc_new wd _) (by rw [HSD.out.1]; kernel_rfl) (by rw [HSD.out.1]; kernel_rfl) HSD.out.2 ?_; rw [World.setRow_alloc_new])
        | ((with_reducible refine wlw_load_row (o := ⟨some 71, _, _, _, _, _⟩) ?_ 26 (.tmp 2) ?_ _ ?_ _ C0 _ _ HD.out.2 Try.underlying26 ?_ ?_ ?_); (focus rfl); (focus rfl); (focus rfl); (focus rfl); (focus (rw [HZ0.out]; kernel_rfl))))
      refine (HMC.out _).mono ?_
      rintro e wu ⟨rfl, bu⟩
      have HF := Lib.hid (BC_below HD.out.1 HD.out.1.size bu)
      clear bu c34d
      go_wp2_with fail
      go_ret
      exact ⟨rfl, HF.out⟩
  | false =>
    have hen := encode_no wh0 HP.out.2.1 s0 t0 (.slice pu n0 cu) b0 o0 n0 (HN.out.1 ▸ HU.out) hm.symm w1
    rw [← HP.out.1] at hen
    have HEN := Lib.hid hen
    have HMT := Lib.hid hm
    clear hen hm
    go_wp2_with ((with_reducible refine wlw_load_row (o := ⟨some 26, _, _, _, _, _⟩) ?_ 26 (.tmp 2) ?_ _ ?_ _ C0 _ _ H1.out.1 Try.underlying26 ?_ ?_ ?_); (focus rfl); (focus rfl); (focus rfl); (focus rfl); (focus (rw [HZ0.out]; kernel_rfl)))
    refine HEN.out.mono ?_
    rintro e wT ⟨rfl, bx⟩
    have HT := Lib.hid (And.intro (BC_blk1 bx H1.out.1) (BC_below H1.out.2 H1.out.2.size bx))
    clear bx c34
    go_wp2_with fail
    refine (decode_any b1 o1 _ l1 HP.out.2.2.2.2.2.2.1 (by have := HM5.out; have := HN.out; omega) (by rw [← HN.out.2]; exact HV.out) wT (HP.out.2.2.2.2.2.1.below' HT.out.2)).mono ?_
    rintro e wd ⟨vd, rfl, ownd, bd⟩
    by_cases hg : errF l1 = 0
    · rw [hg]

      obtain ⟨k1, k2, k3, _⟩ := enc_dec hg
      have hDD : (dDa l1).length ≤ 5200 := Nat.le_trans (dDa_len l1) (by have := HM5.out; have := HN.out; omega)
      obtain ⟨gd, sd, ld, _⟩ := ownd.slv
      obtain ⟨pd, cd, rfl⟩ := ownd.form
      have hen := encode_yes (dWh l1) k3 (dWh_bytes HP.out.2.2.2.2.2.2.1) (dSz l1) (dAt l1) (.slice pd (dDa l1).length cd) gd 0 (dDa l1) (dDa_bytes HP.out.2.2.2.2.2.2.1) (by omega) sd k1
      have hma := may_any (dWh l1) k3 (dSz l1) (dAt l1) pd (dDa l1).length cd (by have h := sd; unfold SlV at h; obtain ⟨_, _, e1, e2, e3, _⟩ := h; injection e1 with _ _ e4; omega)
      rw [k1] at hma
      rw [k2] at hen
      have hsz2 := pcells_sz k3 (dSz l1) (dAt l1) (.slice pd (dDa l1).length cd)
      have hon2 := pcells_one (dWh l1) (dSz l1) (dAt l1) (.slice pd (dDa l1).length cd) rfl
      generalize (pcells (dWh l1) (dSz l1) (dAt l1) (.slice pd (dDa l1).length cd)).toArray = CD at *
      have HSD := Lib.hid (And.intro hsz2 hon2)
      have HMA := Lib.hid hma
      have bD1 := below1 wd (.cells CD 26)
      have HEN := Lib.hid (hen (wd.alloc (.cells CD 26)) (ld.below' bD1))
      have HD := Lib.hid (And.intro (heap_alloc_new wd (.cells CD 26)) (And.intro ((((BC_below HT.out.2 HT.out.2.size bd).alloc (BC_below HT.out.2 HT.out.2.size bd).size (.cells CD 26)))) (BC_blk1 bD1 (BC_blk1 bd HT.out.1))))
      clear hen hma hsz2 hon2 k1 k2 sd ld ownd bd bD1 hg
      go_wp2_with (first
        | (refine wpList_store_rowTo rfl 26 _ _ rfl rfl _ CD rfl rfl 26 zpart (heap_alloc_new wd _) (by rw [HSD.out.1]; kernel_rfl) (by rw [HSD.out.1]; kernel_rfl) HSD.out.2 ?_; rw [World.setRow_alloc_new])
        | ((with_reducible refine wlw_load_row (o := ⟨some 76, _, _, _, _, _⟩) ?_ 26 (.tmp 10) ?_ _ ?_ _ CD _ _ HD.out.1 Try.underlying26 ?_ ?_ ?_); (focus rfl); (focus rfl); (focus rfl); (focus rfl); (focus (rw [HSD.out.1]; kernel_rfl))))
      refine HEN.out.mono ?_
      rintro e wy ⟨vy, rfl, owny, by1⟩
      obtain ⟨gy, sy, ly, _⟩ := owny.slv
      obtain ⟨py, cy, rfl⟩ := owny.form
      have HY := Lib.hid (And.intro (BC_blk1 by1 HD.out.1) (And.intro (BC_below HD.out.2.1 HD.out.2.1.size by1) (And.intro (BC_blk1 by1 HD.out.2.2) (And.intro sy ly))))
      clear owny sy ly by1
      go_wp2_with ((with_reducible refine wlw_load_row (o := ⟨some 86, _, _, _, _, _⟩) ?_ 26 (.tmp 10) ?_ _ ?_ _ CD _ _ HY.out.1 Try.underlying26 ?_ ?_ ?_); (focus rfl); (focus rfl); (focus rfl); (focus rfl); (focus (rw [HSD.out.1]; kernel_rfl)))
      refine (HMA.out _).mono ?_
      rintro e wz ⟨rfl, bz⟩
      have cA := conv_slv gy 0 _ l1 HY.out.2.2.2.1 wz (HY.out.2.2.2.2.below' bz)
      have cB := conv_slv b1 o1 _ l1 (by rw [← HN.out.2]; exact HV.out) wz (HP.out.2.2.2.2.2.1.below' (BC_below HY.out.2.1 HY.out.2.1.size bz))
      have HW := Lib.hid (And.intro (BC_below HY.out.2.1 HY.out.2.1.size bz) (BC_blk1 bz HY.out.2.2.1))
      clear bz
      generalize strOfNums l1 = S at *
      go_wp2_with ((with_reducible refine wlw_load_row (o := ⟨some 99, _, _, _, _, _⟩) ?_ 26 (.tmp 2) ?_ _ ?_ _ C0 _ _ HW.out.2 Try.underlying26 ?_ ?_ ?_); (focus rfl); (focus rfl); (focus rfl); (focus rfl); (focus (rw [HZ0.out]; kernel_rfl)))
      refine (HMC.out _).mono ?_
      rintro e wu ⟨rfl, bu⟩
      have HF := Lib.hid (BC_below HW.out.1 HW.out.1.size bu)
      clear bu cA cB
      go_wp2_with fail
      go_ret
      exact ⟨rfl, HF.out⟩

    · have hdd := errF_ne hg
      obtain ⟨pd, cd, rfl⟩ := ownd.form
      rw [hdd]
      have k34d := pcells_data (dWh_len l1) (dSz l1) (dAt l1) (.slice pd 0 cd)
      have hsz2 := pcells_sz (dWh_len l1) (dSz l1) (dAt l1) (.slice pd 0 cd)
      have hon2 := pcells_one (dWh l1) (dSz l1) (dAt l1) (.slice pd 0 cd) rfl
      rw [show ([] : List Int).length = 0 from rfl]
      generalize (pcells (dWh l1) (dSz l1) (dAt l1) (.slice pd 0 cd)).toArray = CD at *
      have HSD := Lib.hid (And.intro hsz2 hon2)
      have bD1 := below1 wd (.cells CD 26)
      have c34d : (wd.alloc (.cells CD 26)).cell? ⟨wd.heap.size, 34, none⟩ = some (.slice pd 0 cd) := (cell_new _ _ _ _).trans k34d
      have HD := Lib.hid (And.intro ((BC_below HT.out.2 HT.out.2.size bd).alloc (BC_below HT.out.2 HT.out.2.size bd).size (.cells CD 26)) (BC_blk1 bD1 (BC_blk1 bd HT.out.1)))
      generalize errF l1 = g at *
      have g1 : (g == 0) = false := beq_eq_false_iff_ne.2 hg
      have g2 : (g != 0) = true := by rw [bne_iff_ne]; exact hg
      clear hdd k34d hsz2 hon2 ownd bd bD1 hg
      go_wp2_with (first
        | (refine wpList_store_rowTo rfl 26 _ _ rfl rfl _ CD rfl rfl 26 zpart (heap_alloc_new wd _) (by rw [HSD.out.1]; kernel_rfl) (by rw [HSD.out.1]; kernel_rfl) HSD.out.2 ?_; rw [World.setRow_alloc_new])
        | ((with_reducible refine wlw_load_row (o := ⟨some 71, _, _, _, _, _⟩) ?_ 26 (.tmp 2) ?_ _ ?_ _ C0 _ _ HD.out.2 Try.underlying26 ?_ ?_ ?_); (focus rfl); (focus rfl); (focus rfl); (focus rfl); (focus (rw [HZ0.out]; kernel_rfl))))
      refine (HMC.out _).mono ?_
      rintro e wu ⟨rfl, bu⟩
      have HF := Lib.hid (BC_below HD.out.1 HD.out.1.size bu)
      clear bu c34d
      go_wp2_with fail
      go_ret
      exact ⟨rfl, HF.out⟩
theorem own : ownKnob Try.prog.godebug = none := by kernel_rfl
theorem laidOut : laidOutB Try.prog = true := by kernel_rfl
set_option maxRecDepth 100000 in
theorem lifted (os : Os) (started : os.Started) (H : Type) (enc : TypeId × Value → H) :
    ReturnsInHanded {} Try.checked os 5 .any (Rows.partBackSpec.pre6 enc Try.prog Try.f5 Rows.partBackRow.domain false) (Rows.partBackSpec.post enc Try.prog Try.f5 false true false false) := by
  refine returnsInHanded_of_change (C := Try.checked) own started (by kernel_rfl) Try.func5
    (ChangeSpec.witness6 (enc := enc) (C := Try.checked) false ⟨#[], #[.agg (pcells (List.replicate 32 0) 0 0 (.slice none 0 0)).toArray, .slice none 0 0], []⟩ 8 (by kernel_rfl) (by kernel_rfl) (by kernel_rfl) (by kernel_rfl)) ?_
  intro W base args ds gs before hval0 hW hcnd _
  have hval : ∀ (j : Nat) t v, Try.f5.params[j]? = some t → args[j]? = some v → Value.okWide Try.prog W .any base t v := hval0
  have hW' := hW
  obtain ⟨p, q, hA0, hV, rfl, hfz, hnd⟩ := hW
  have hA : DataW.TrodAll enc Try.prog W 0 (fun _ => true) true Try.f5.params.toList args.toList ds p := hA0
  rw [Try.params5] at hA hval
  obtain ⟨v0, vs0, d0, ds0, p0, q0, hargs, rfl, rfl, h0, r0⟩ := trodAll_cons hA
  obtain ⟨v1, vs1, d1, ds1, p1, q1, rfl, rfl, rfl, h1, r1⟩ := trodAll_cons r0
  obtain ⟨rfl, rfl, rfl⟩ := trodAll_nil r1
  obtain rfl : args = #[v0, v1] := by cases args; simp_all
  obtain ⟨rfl, rfl⟩ := trodVars_none hV
  have k0 := h0
  have lt0 : ∀ x ∈ p0, x.block < W.heap.size := by obtain ⟨m, hm⟩ := k0; exact DataW.trod_lt m _ _ _ hm
  obtain ⟨wh0, s0, t0, u0, l0, rfl, hw0, hwb0, hs0, ht0, b0, o0, hu0, hl0, hb0⟩ := open_part (hval 0 26 v0 rfl rfl) h0
  obtain ⟨a1, len1, cap1, rfl⟩ := okWide_slice Try.underlying24 (hval 1 24 v1 rfl rfl)
  have k1 := h1
  have lt1 : ∀ x ∈ p1, x.block < W.heap.size := by obtain ⟨m, hm⟩ := k1; exact DataW.trod_lt m _ _ _ hm
  obtain ⟨z1, w1⟩ : ∃ zs, IsRow .u8 W a1 len1 cap1 zs := by
    obtain ⟨fuel, hf⟩ := h1
    rcases open_ints Try.underlying24 Try.underlying5 (by kernel_rfl) hf with ⟨hcs, _⟩ | ⟨x, l, c, zs, hcs, _, hl, hm, hz, _, hcell, hwz⟩
    · simp [Value.cells] at hcs
      obtain ⟨rfl, rfl, rfl⟩ := hcs
      exact ⟨[], .inl ⟨rfl, rfl, rfl, rfl⟩⟩
    · simp [Value.cells] at hcs
      obtain ⟨rfl, rfl, rfl⟩ := hcs
      exact ⟨zs, .inr ⟨_, rfl, hl, hm, by simpa using hz, hcell, hwz⟩⟩
  obtain ⟨b1, o1, l1, hv1, hl1, hb1⟩ := isb_of_row w1
  clear hA0 hval0
  refine (walk wh0 s0 t0 u0 b0 o0 l0 (.slice a1 len1 cap1) b1 o1 l1 hw0 hwb0 hs0 ht0 hu0 hb0 hv1 hb1 W hl0 hl1).mono fun e W' ⟨he, bel⟩ => ?_
  subst he
  exact ⟨_, rfl, _, _, _, [], _, [], hW', trodAll_mk1 (shut_bool Try.underlying4 _), (trodAll_cons_mk (Below.trod laidOut (by kernel_rfl) (of_decide_eq_true (by kernel_rfl)) k0 bel lt0) (trodAll_cons_mk (Below.trod laidOut (by kernel_rfl) (of_decide_eq_true (by kernel_rfl)) k1 bel lt1) trodAll_mk0)), rfl, bel.frame _, fun h => by cases h⟩
theorem over : Rows.partBackRow.holds Try.pinned (OpenSpec.ofChange Rows.partBackSpec) :=
  OpenClaim.holds_of_wide 5 Try.f5 rfl rfl rfl rfl rfl rfl rfl ⟨rfl, rfl, rfl, rfl, rfl⟩ rfl rfl rfl rfl rfl (by kernel_rfl) Try.func5 (by kernel_rfl)
    (of_decide_eq_true (by kernel_rfl)) (by unfold Func.isWrapper; first | (rw [if_pos (by decide +kernel)]; kernel_rfl) | (rw [if_neg (by decide +kernel)]; exact ⟨rfl, rfl⟩))
    (fun os started H enc _ => lifted os started H enc)
theorem proved : Rows.PartBackSaid := over
#print axioms proved
end Go.Proofs.Ytjnimbhecfpnmaa.partBackDone
