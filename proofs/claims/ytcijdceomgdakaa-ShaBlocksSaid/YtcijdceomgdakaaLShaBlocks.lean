/- The statement ShaBlocks: a digest is that of the blocks, one behind the other, of bytes (1000 at most) and what stands behind them. No condition. -/
import Derived.Test.YtcijdceomgdakaaShaAwake
import Derived.Test.YtcijdceomgdakaaOpenB
import Derived.Test.YtcijdceomgdakaaRef03Sum
import Derived.OpenShut
import Derived.ShutString
import Derived.ChangeOld
namespace Go.Proofs.Ytcijdceomgdakaa.shaBlocksDone
open Go.ChangeShapes Go.WideShapes Go.ChangeAt Go.RowKit
set_option linter.unusedVariables false
set_option linter.unusedSimpArgs false

theorem word_back (x : BitVec 32) : wordI (byteW x 0) (byteW x 1) (byteW x 2) (byteW x 3) = x := by
  apply U_inj
  rw [U_wordI (byteW_byte x 0) (byteW_byte x 1) (byteW_byte x 2) (byteW_byte x 3)]
  have h := x.isLt
  simp only [byteW, U, Nat.reduceSub, Nat.reduceMul, Nat.reducePow]
  omega
attribute [local go_sem] takes comesTo
set_option maxHeartbeats 2000000 in
theorem walk (v0 : Value) (b0 o0 : Nat) (l0 : List Int) (hv0 : SlV v0 b0 o0 l0.length) (hb0 : Bytes l0) (w : World) (hl0 : Lies w b0 o0 l0) :
    Calls Try.prog 6 #[v0] w fun e w' => e = .returned (.bool true) ∧ Below w.heap.size w w' := by
  have hz1 := zero_dig
  have hz2 := zero_w8
  have hz3 := zero_b64
  have HV := Lib.hid hv0
  obtain ⟨a, cap, rfl, _⟩ := hv0
  have HL := Lib.hid (And.intro hb0 hl0)
  clear hb0 hl0
  generalize hN : l0.length = n at *
  have HN := Lib.hid hN
  clear hN
  go_enter Try.func6, Try.ntmps6
  go_wp2_with fail
  refine (awake3_any _).mono ?_
  rintro e w1 ⟨rfl, b1⟩
  have hlt : n ≤ 1000 ∨ (1000 : Int) < (n : Int) := by omega
  rcases hlt with hlt | hlt
  rotate_left
  · have HH := Lib.hid b1
    clear b1
    go_wp2_with fail
    go_ret
    exact ⟨rfl, HH.out⟩
  have hc : ¬ (1000 : Int) < (n : Int) := by omega
  have HLT := Lib.hid hlt
  have HB1 := Lib.hid b1
  clear hlt b1
  go_wp2_with ((at_builtin; refine wl_append_b rfl _ _ rfl w.heap.size _ _ rfl (own_zero _ _ HB1.out.size) _ rfl b0 o0 l0 (by rw [HN.out]; exact HV.out) ((HL.out.2.below HB1.out).below (below1 _ _)) (by rw [HN.out]; have := HLT.out; simp; omega) (by rw [size_new]; have := HB1.out.size; omega) ?_; intro v1 w2 hown1 hgrow1 hat1))
  rw [List.nil_append] at hown1
  have H1 := Lib.hid (And.intro hown1 ((HB1.out.alloc HB1.out.size (.cells #[] 5)).grown hgrow1 (by rw [size_new]; have := HB1.out.size; omega) (fun k hk => own_block (own_zero w1 w.heap.size HB1.out.size) k hk)))
  clear hown1 hgrow1 hat1 HB1
  refine (pad_in n (by have := HLT.out; omega) _).mono ?_
  rintro e w3 ⟨v2, rfl, hown2, b2⟩
  obtain ⟨gp, hs2, hl2, _⟩ := hown2.slv
  have H2 := Lib.hid (And.intro (H1.out.1.below b2) (And.intro (BC_below H1.out.2 H1.out.2.size b2) (And.intro hs2 hl2)))
  clear hown2 hs2 hl2 b2 H1
  obtain ⟨A, hA⟩ : ∃ A, A = l0 ++ padF n := ⟨_, rfl⟩
  have hAlen : A.length = n + (padF n).length := by rw [hA, List.length_append, HN.out]
  have hAX : sumF l0 = digF (hashTo A (A.length / 64)) := by rw [hA]; unfold sumF padded; rw [HN.out]
  have hAb : Bytes A := by rw [hA]; exact bytes_app HL.out.1 (padF_bytes n)
  have HA := Lib.hid (And.intro hA (And.intro hAX (And.intro hAb (And.intro (show A.length % 64 = 0 by rw [hAlen]; exact padF_whole n) (And.intro (show 0 < A.length by rw [hAlen]; have := padF_le n; omega) (show A.length ≤ 1100 by rw [hAlen]; have := padF_le n; have := HLT.out; omega))))))
  obtain ⟨q8, hq8⟩ : ∃ q8, A.length = 64 * q8 := ⟨A.length / 64, by have := HA.out.2.2.2.1; omega⟩
  have hq80 : ¬ (q8 : Int) = 0 := by have := HA.out.2.2.2.2.1; omega
  have HQ8 := Lib.hid hq8
  clear hA hAlen hAX hAb hq8
  go_wp2_with (at_builtin; refine wl_append_b rfl _ _ rfl w.heap.size _ _ rfl H2.out.1 _ rfl gp 0 (padF n) H2.out.2.2.1 H2.out.2.2.2 (by rw [HN.out]; have := HLT.out; have := padF_le n; omega) (by have := H2.out.2.1.size; omega) ?_
               intro v3 w4 hown3 hgrow3 hat3
               rw [← HA.out.1] at hown3
               obtain ⟨ga, capA, curA, rfl, hga, hblk, hle, hmx, hcA⟩ := hown3.cells HA.out.2.2.2.2.1
               rw [HQ8.out]
               have H3 := Lib.hid (And.intro hblk (And.intro (H2.out.2.1.grown hgrow3 H2.out.2.1.size (fun k hk => own_block H2.out.1 k hk)) (And.intro hga hcA)))
               clear hown3 hgrow3 hat3 hga hblk hle hmx hcA)
  refine (first_any _).mono ?_
  rintro e w5 ⟨rfl, b5⟩
  have H5 := Lib.hid (And.intro (BC_blk1 b5 H3.out.1) (BC_below H3.out.2.1 H3.out.2.1.size b5))
  have HG0 := Lib.hid (And.intro H3.out.2.2.1 H3.out.2.2.2)
  clear b5 H3 H2
  go_wp2_with (refine wpList_store_rowTo (o := ⟨none, .store 38 _ _, _, _, _, _⟩) rfl 38 _ _ rfl rfl _ f8 rfl rfl 38 z8 (heap_alloc_new _ _) (by kernel_rfl) (by kernel_rfl) (by kernel_rfl) ?_; rw [World.setRow_alloc_new])
  have H4 := Lib.hid (And.intro (blk_old H5.out.1 (.cells f8 38)) (And.intro (heap_alloc_new w5 (.cells f8 38)) (H5.out.2.alloc H5.out.2.size (.cells f8 38))))
  have HG := Lib.hid (And.intro HG0.out.1 (And.intro (blk_lt H5.out.1) HG0.out.2))
  clear H5 HG0
  generalize w5.alloc (.cells f8 38) = w6 at *
  generalize w5.heap.size = gh at *
  go_loopw [6] (fun n wr => ∃ q : Nat, 64 * q ≤ A.length ∧ n = .int .i64 ((64 * q : Nat) : Int) ∧ wr.heap[ga]? = some (.cells curA 5 (0, 0)) ∧
      wr.heap[gh]? = some (.cells (hashTo A q).row 38 (0, 0)) ∧ Below w.heap.size w wr) (fun n _ => A.length - (intOf n).toNat)
  case atStart => exact ⟨0, by omega, rfl, H4.out.1, by rw [show hashTo A 0 = first8 from rfl, first8_row]; exact H4.out.2.1, H4.out.2.2⟩
  case round =>
    clear H4
    obtain ⟨q, hq, rfl, h2, h3, hbe⟩ := hrel
    have HH := Lib.hid (And.intro h2 (And.intro h3 hbe))
    clear h2 h3 hbe
    by_cases hlt : 64 * q < A.length
    · have hq2 : 64 * q + 64 ≤ A.length := by have := HA.out.2.2.2.1; omega
      obtain ⟨Q, hQ⟩ : ∃ Q, Q = 64 * q := ⟨_, rfl⟩
      have hQl : (Q : Int) < 64 * (q8 : Int) := by have := HQ8.out; omega
      have hLb : (q8 : Int) ≤ 1000 := by have := HA.out.2.2.2.2.2; have := HQ8.out; omega
      have HLB := Lib.hid hLb
      have HQ := Lib.hid (And.intro hQ hq2)
      have HD := Lib.hid (And.intro (chunk_len A q hq2) (And.intro (fun i hi => chunk_get A q i hi) (bytes_take (bytes_drop HA.out.2.2.1 (64 * q)) 64)))
      have HX := Lib.hid (show hashTo A (q + 1) = compF (hashTo A q) ((A.drop (64 * q)).take 64) from rfl)
      rw [← hQ]
      clear hQ hlt hq2 hq hLb
      generalize hashTo A q = X0 at *
      generalize (A.drop (64 * q)).take 64 = D at *
      go_wp2_with fail
      go_loopw [8] (fun n wr2 => ∃ i : Nat, i ≤ 64 ∧ n = .int .i64 (i : Int) ∧ wr2.heap[ga]? = some (.cells curA 5 (0, 0)) ∧
          wr2.heap[gh]? = some (.cells X0.row 38 (0, 0)) ∧ wr2.heap[wr.heap.size]? = some (.cells (row .u8 (fillTo D i)) 40 (0, 0)) ∧ Below w.heap.size w wr2) (fun n _ => 64 - (intOf n).toNat)
      case atStart => exact ⟨0, by omega, rfl, blk_old HH.out.1 _, blk_old HH.out.2.1 _, by rw [fillTo_zero, HD.out.1]; exact heap_alloc_new _ _, HH.out.2.2.alloc HH.out.2.2.size _⟩
      case round =>
        have G1 := Lib.hid (And.intro (blk_lt HH.out.2.1) (And.intro (blk_lt HH.out.1) HH.out.2.2.size))
        clear HH
        obtain ⟨i, hi, rfl, h2, h3, h4, hbe⟩ := hrel
        have HH := Lib.hid (And.intro h2 (And.intro h3 (And.intro h4 hbe)))
        clear h2 h3 h4 hbe
        by_cases hlt : i < 64
        · obtain ⟨m, hm⟩ : ∃ m, m = Q + i := ⟨_, rfl⟩
          have hQ1 := HQ.out
          have s1 : IntKind.i64.wrap ((Q : Int) + (i : Int)) = (m : Int) := by have := HLB.out; rw [IntKind.wrap_i64]; omega
          have s2 : (m : Int) < 64 * (q8 : Int) := by have := HQ8.out; omega
          have s3 : (i : Int) < 64 := by omega
          have hsz : i < (row .u8 (fillTo D i)).size := by rw [row_size, fillTo_len _ _ (by rw [HD.out.1]; omega), HD.out.1]; exact hlt
          have c1 := cell_row HH.out.1 m (HG.out.2.2 m (by have := HQ8.out; omega))
          have c2 := cell_row HH.out.2.2.1 i (Array.getElem?_eq_getElem hsz)
          have c3 := free_row HH.out.2.2.1 i
          have hset : Hid ((row .u8 (fillTo D i)).setIfInBounds i (.int .u8 (A.getD m 0)) = row .u8 (fillTo D (i + 1))) := Lib.hid (by
            rw [row_set, hm, hQ1.1, ← HD.out.2.1 i hlt, fillTo_set _ _ (by rw [HD.out.1]; exact hlt)])
          have HI := Lib.hid hlt
          generalize A.getD m 0 = T at *
          generalize (row .u8 (fillTo D i))[i]'hsz = old at *
          clear hm hQ1 hsz hi hlt
          go_wp2_with fail
          have hlt := HI.out
          have g1 := G1.out
          have g2 := HG.out
          refine ⟨⟨i + 1, by omega, rfl, (heap_setCell_other _ _ _ _ (by simp; omega)).trans HH.out.1, (heap_setCell_other _ _ _ _ (by simp; omega)).trans HH.out.2.1, (heap_setCell_same _ _ _ _ _ _ HH.out.2.2.1).trans (by rw [hset.out]), HH.out.2.2.2.setCell (by simp; omega) _⟩, ?_⟩
          simp [intOf]; omega
        · obtain rfl : i = 64 := by omega
          have hrow : row .u8 (fillTo D 64) = row .u8 D := by
            have h := fillTo_all D
            rw [HD.out.1] at h
            rw [h]
          have h4 := HH.out.2.2.1
          rw [hrow] at h4
          have H4 := Lib.hid h4
          have HDS : Hid ((row .u8 D).size = 64) := Lib.hid (by rw [row_size, HD.out.1])
          clear h4 hrow
          have hs2 : IntKind.i64.wrap ((Q : Int) + 64) = ((Q + 64 : Nat) : Int) := by have := HLB.out; have := HQ.out; have := HQ8.out; rw [IntKind.wrap_i64]; omega
          go_wp2_with (first
            | (refine wpList_load_row (o := ⟨some 51, _, _, _, _, _⟩) rfl 38 _ rfl _ rfl _ X0.row _ _ (by exact HH.out.2.1) Try.underlying38 rfl (by rw [W8.row_size]; kernel_rfl) ?_)
            | (refine wpList_load_row (o := ⟨some 52, _, _, _, _, _⟩) rfl 40 _ rfl _ rfl _ (row .u8 D) _ _ (by exact H4.out) Try.underlying40 rfl (by rw [HDS.out]; kernel_rfl) ?_))
          refine (comp_any X0 D HD.out.1 HD.out.2.2 _).mono ?_
          rintro e w8 ⟨rfl, b6⟩
          have H6 := Lib.hid (And.intro (BC_blk1 b6 HH.out.1) (And.intro (BC_blk1 b6 HH.out.2.1) (BC_below HH.out.2.2.2 HH.out.2.2.2.size b6)))
          clear b6 HH H4
          go_wp2_with (refine wpList_store_rowTo rfl 38 _ _ rfl rfl _ (compF X0 D).row rfl rfl 38 X0.row H6.out.2.1 (by rw [W8.row_size]; kernel_rfl) (by rw [W8.row_size, W8.row_size]) (W8.row_one _) ?_)
          have hQ1 := HQ.out
          have g2 := HG.out
          have g1 := G1.out
          refine ⟨⟨q + 1, by omega, by rw [show 64 * (q + 1) = Q + 64 by omega]; rfl, (setRow_other _ _ _ _ (by omega)).trans H6.out.1, (setRow_heap _ _ _ _ _ _ H6.out.2.1).trans (by rw [HX.out]), below_row H6.out.2.2 (by omega) _⟩, ?_⟩
          simp [intOf]; omega
    · have hq2 : q = A.length / 64 := by omega
      have hX : sumF l0 = digF (hashTo A q) := by rw [hq2]; exact HA.out.2.1
      have hcond : ¬ ((64 * q : Nat) : Int) < 64 * (q8 : Int) := by have := HQ8.out; omega
      have hDl := digF_len (hashTo A q)
      have hXg : ∀ e, e < 8 → (hashTo A q).row[e]? = some (.int .u32 (U ((hashTo A q).list.getD e 0))) := fun e he => rowU_get (hashTo A q).list e he
      have hDg : ∀ e k, e < 8 → k < 4 → (row .u8 (digF (hashTo A q)))[4 * e + k]? = some (.int .u8 (byteW ((hashTo A q).list.getD e 0) k)) := fun e k he hk => by
        rw [row_get .u8 _ _ (by rw [digF_len]; omega), digF_get _ _ (by omega), show (4 * e + k) / 4 = e by omega, show (4 * e + k) % 4 = k by omega]
      have HD := Lib.hid (And.intro hX (And.intro hDl (And.intro hDg hXg)))
      clear hX hDl hDg hXg hq2 hq hlt HA
      generalize 64 * q = Q at *
      generalize hdd : digF (hashTo A q) = D at *
      have HDD := Lib.hid hdd
      clear hdd
      generalize (hashTo A q).list = xl at *
      generalize (hashTo A q).row = xr at *
      go_wp2_with fail
      refine (sum_any l0 HL.out.1 (by rw [HN.out]; have := HLT.out; omega) b0 o0 _ (by rw [HN.out]; exact HV.out) _ (fun j hj => (HH.out.2.2.cell (block_lt_of_cell (HL.out.2 j hj))).trans (HL.out.2 j hj))).mono ?_
      rintro e w8 ⟨rfl, b6⟩
      rw [HD.out.1]
      have H6 := Lib.hid (And.intro (BC_blk1 b6 HH.out.2.1) (BC_below HH.out.2.2 HH.out.2.2.size b6))
      have HDS : Hid ((row .u8 D).size = 32) := Lib.hid (by rw [row_size, HD.out.2.1])
      clear b6 HH
      go_wp2_with (refine wpList_store_rowTo (o := ⟨none, .store 25 _ _, _, _, _, _⟩) rfl 25 _ _ rfl rfl _ (row .u8 D) rfl rfl 25 zb32 (heap_alloc_new _ _) (by rw [HDS.out]; kernel_rfl) (by rw [HDS.out]; kernel_rfl) (row_one _ _) ?_; rw [World.setRow_alloc_new])
      have H7 := Lib.hid (And.intro (blk_old H6.out.1 (.cells (row .u8 D) 25)) (And.intro (heap_alloc_new w8 (.cells (row .u8 D) 25)) (H6.out.2.alloc H6.out.2.size (.cells (row .u8 D) 25))))
      clear H6 hcond
      generalize w8.alloc (.cells (row .u8 D) 25) = w9 at *
      generalize w8.heap.size = gd at *
      generalize row .u8 D = dr at *
      go_loopw [10] (fun n wr2 => ∃ i : Nat, i ≤ 8 ∧ n = .int .i64 (i : Int) ∧ wr2.heap[gh]? = some (.cells xr 38 (0, 0)) ∧ wr2.heap[gd]? = some (.cells dr 25 (0, 0)) ∧ Below w.heap.size w wr2) (fun n _ => 8 - (intOf n).toNat)
      case atStart => exact ⟨0, by omega, rfl, H7.out.1, H7.out.2.1, H7.out.2.2⟩
      case round =>
        clear H7
        obtain ⟨i, hi, rfl, h1, h2, hbe⟩ := hrel
        have HH := Lib.hid (And.intro h1 (And.intro h2 hbe))
        clear h1 h2 hbe
        by_cases hlt : i < 8
        · have c0 := QC_cell (cell_row HH.out.2.1 (4 * i) (HD.out.2.2.1 i 0 hlt (by omega)))
          have c1 := QC_cell (cell_row HH.out.2.1 (4 * i + 1) (HD.out.2.2.1 i 1 hlt (by omega)))
          have c2 := QC_cell (cell_row HH.out.2.1 (4 * i + 2) (HD.out.2.2.1 i 2 hlt (by omega)))
          have c3 := QC_cell (cell_row HH.out.2.1 (4 * i + 3) (HD.out.2.2.1 i 3 hlt (by omega)))
          have c4 := QC_cell (cell_row HH.out.1 i (HD.out.2.2.2 i hlt))
          generalize xl.getD i 0 = y at *
          have p0 := byteW_byte y 0
          have p1 := byteW_byte y 1
          have p2 := byteW_byte y 2
          have p3 := byteW_byte y 3
          have ho : bits .or .u32 (bits .or .u32 (bits .or .u32 (byteW y 0 * 16777216) (byteW y 1 * 65536)) (byteW y 2 * 256)) (byteW y 3) = U y := by rw [or_word p0 p1 p2 p3, word_back]
          generalize byteW y 0 = n0 at *
          generalize byteW y 1 = n1 at *
          generalize byteW y 2 = n2 at *
          generalize byteW y 3 = n3 at *
          have hi8 : (i : Int) < 8 := by omega
          have hi0 : 0 ≤ (i : Int) := by omega
          have HI := Lib.hid hlt
          have s0 : IntKind.i64.wrap (4 * (i : Int)) = 4 * (i : Int) := by rw [IntKind.wrap_i64]; omega
          have v0 : 0 ≤ 4 * (i : Int) := by omega
          have z0 : 4 * (i : Int) < 32 := by omega
          have t0 : (4 * (i : Int)).toNat = 4 * i := by omega
          have s1 : IntKind.i64.wrap (4 * (i : Int) + 1) = 4 * (i : Int) + 1 := by rw [IntKind.wrap_i64]; omega
          have v1 : 0 ≤ 4 * (i : Int) + 1 := by omega
          have z1 : 4 * (i : Int) + 1 < 32 := by omega
          have t1 : (4 * (i : Int) + 1).toNat = 4 * i + 1 := by omega
          have s2 : IntKind.i64.wrap (4 * (i : Int) + 2) = 4 * (i : Int) + 2 := by rw [IntKind.wrap_i64]; omega
          have v2 : 0 ≤ 4 * (i : Int) + 2 := by omega
          have z2 : 4 * (i : Int) + 2 < 32 := by omega
          have t2 : (4 * (i : Int) + 2).toNat = 4 * i + 2 := by omega
          have s3 : IntKind.i64.wrap (4 * (i : Int) + 3) = 4 * (i : Int) + 3 := by rw [IntKind.wrap_i64]; omega
          have v3 : 0 ≤ 4 * (i : Int) + 3 := by omega
          have z3 : 4 * (i : Int) + 3 < 32 := by omega
          have t3 : (4 * (i : Int) + 3).toNat = 4 * i + 3 := by omega
          have x0 : IntKind.u32.wrap n0 = n0 := by rw [IntKind.wrap_u32']; omega
          have x1 : IntKind.u32.wrap n1 = n1 := by rw [IntKind.wrap_u32']; omega
          have x2 : IntKind.u32.wrap n2 = n2 := by rw [IntKind.wrap_u32']; omega
          have x3 : IntKind.u32.wrap n3 = n3 := by rw [IntKind.wrap_u32']; omega
          have y0 : IntKind.u32.wrap (n0 * 16777216) = n0 * 16777216 := by rw [IntKind.wrap_u32']; omega
          have y1 : IntKind.u32.wrap (n1 * 65536) = n1 * 65536 := by rw [IntKind.wrap_u32']; omega
          have y2 : IntKind.u32.wrap (n2 * 256) = n2 * 256 := by rw [IntKind.wrap_u32']; omega
          clear hlt hi p0 p1 p2 p3
          have hS := @QC_all wr
          haveI := QC_inst wr
          go_wp2_with fail
          refine wp_region_head (QC wr) 33 (by kernel_rfl) (by kernel_rfl) (QC_start _) ?_
          simp only [List.take_succ_cons, List.take_zero, List.drop_succ_cons, List.drop_zero]
          repeat (first
            | (refine headG_step (fun K hK => ?_)
               go_simp
               first
                 | (refine hK _ ?_; clear hK K)))
          refine headG_nil ?_
          intro w3 hw3
          have H3 := Lib.hid (And.intro (QC_blk1 hw3 HH.out.1) (And.intro (QC_blk1 hw3 HH.out.2.1) (QC_below HH.out.2.2 hw3)))
          clear hw3 hS c0 c1 c2 c3 c4 s0 v0 z0 t0 s1 v1 z1 t1 s2 v2 z2 t2 s3 v3 z3 t3 x0 x1 x2 x3 y0 y1 y2 ho
          go_wp2_with fail
          have hlt := HI.out
          refine ⟨⟨i + 1, by omega, rfl, H3.out.1, H3.out.2.1, H3.out.2.2⟩, ?_⟩
          simp [intOf]; omega
        · obtain rfl : i = 8 := by omega
          go_wp2_with fail
          go_ret
          exact ⟨rfl, HH.out.2.2⟩

theorem own : ownKnob Try.prog.godebug = none := by kernel_rfl
theorem laidOut : laidOutB Try.prog = true := by kernel_rfl
set_option maxRecDepth 100000 in
theorem lifted (os : Os) (started : os.Started) (H : Type) (enc : TypeId × Value → H) :
    ReturnsInHanded {} Try.checked os 6 .any (Rows.shaBlocksSpec.pre6 enc Try.prog Try.f6 Rows.shaBlocksRow.domain false) (Rows.shaBlocksSpec.post enc Try.prog Try.f6 false true false false) := by
  refine returnsInHanded_of_change (C := Try.checked) own started (by kernel_rfl) Try.func6
    (ChangeSpec.witness6 (enc := enc) (C := Try.checked) false ⟨#[], #[.slice none 0 0], []⟩ 8 (by kernel_rfl) (by kernel_rfl) (by kernel_rfl) (by kernel_rfl)) ?_
  intro W base args ds gs before hval0 hW hcnd _
  have hval : ∀ (j : Nat) t v, Try.f6.params[j]? = some t → args[j]? = some v → Value.okWide Try.prog W .any base t v := hval0
  have hW' := hW
  obtain ⟨p, q, hA0, hV, rfl, hfz, hnd⟩ := hW
  have hA : DataW.TrodAll enc Try.prog W 0 (fun _ => true) true Try.f6.params.toList args.toList ds p := hA0
  rw [Try.params6] at hA hval
  obtain ⟨v0, vs0, d0, ds0, p0, q0, hargs, rfl, rfl, h0, r0⟩ := trodAll_cons hA
  obtain ⟨rfl, rfl, rfl⟩ := trodAll_nil r0
  obtain rfl : args = #[v0] := by cases args; simp_all
  obtain ⟨rfl, rfl⟩ := trodVars_none hV
  obtain ⟨a0, len0, cap0, rfl⟩ := okWide_slice Try.underlying22 (hval 0 22 v0 rfl rfl)
  have k0 := h0
  have lt0 : ∀ x ∈ p0, x.block < W.heap.size := by obtain ⟨m, hm⟩ := k0; exact DataW.trod_lt m _ _ _ hm
  obtain ⟨z0, w0⟩ : ∃ zs, IsRow .u8 W a0 len0 cap0 zs := by
    obtain ⟨fuel, hf⟩ := h0
    rcases open_ints Try.underlying22 Try.underlying5 (by kernel_rfl) hf with ⟨hcs, _⟩ | ⟨x, l, c, zs, hcs, _, hl, hm, hz, _, hcell, hwz⟩
    · simp [Value.cells] at hcs
      obtain ⟨rfl, rfl, rfl⟩ := hcs
      exact ⟨[], .inl ⟨rfl, rfl, rfl, rfl⟩⟩
    · simp [Value.cells] at hcs
      obtain ⟨rfl, rfl, rfl⟩ := hcs
      exact ⟨zs, .inr ⟨_, rfl, hl, hm, by simpa using hz, hcell, hwz⟩⟩
  obtain ⟨b0, o0, l0, hv0, hl0, hb0⟩ := isb_of_row w0
  clear hA0 hval0
  refine (walk (.slice a0 len0 cap0) b0 o0 l0 hv0 hb0 W hl0).mono fun e W' ⟨he, bel⟩ => ?_
  subst he
  exact ⟨_, rfl, _, _, _, [], _, [], hW', trodAll_mk1 (shut_bool Try.underlying4 _), (trodAll_cons_mk (Below.trod laidOut (by kernel_rfl) (of_decide_eq_true (by kernel_rfl)) k0 bel lt0) trodAll_mk0), rfl, bel.frame _, fun h => by cases h⟩
theorem over : Rows.shaBlocksRow.holds Try.pinned (OpenSpec.ofChange Rows.shaBlocksSpec) :=
  OpenClaim.holds_of_wide 6 Try.f6 rfl rfl rfl rfl rfl rfl rfl ⟨rfl, rfl, rfl, rfl, rfl⟩ rfl rfl rfl rfl rfl (by kernel_rfl) Try.func6 (by kernel_rfl)
    (of_decide_eq_true (by kernel_rfl)) (by unfold Func.isWrapper; first | (rw [if_pos (by decide +kernel)]; kernel_rfl) | (rw [if_neg (by decide +kernel)]; exact ⟨rfl, rfl⟩))
    (fun os started H enc _ => lifted os started H enc)
theorem proved : Rows.ShaBlocksSaid := over
#print axioms proved
end Go.Proofs.Ytcijdceomgdakaa.shaBlocksDone
