/- The walks of the reference's laid and Missing. -/
import Derived.Test.YtjnimbhecfpnmaaMiss
import Derived.ChangeArms
import Derived.Deep.Cut
import Derived.Test.YtjnimbhecfpnmaaWhl
import Derived.Test.YtjnimbhecfpnmaaWhole
import Derived.Test.YtjnimbhecfpnmaaSlots
import Derived.Test.YtjnimbhecfpnmaaRef03Sum
namespace Go.Proofs.Ytjnimbhecfpnmaa
section -- RLaid
set_option maxRecDepth 100000
open Go.ChangeShapes Go.WideShapes Go.ChangeAt Go.RowKit

theorem zero_partR (w : World) : (zeroValue 33).run Try.prog w = .ok (.agg zpart) w := by kernel_rfl
theorem lack_take {st : List (Option Int)} {i : Nat} (h : i < st.length) : lackF (st.take (i + 1)) = lackF (st.take i) + if (st.getD i none).isNone then 1 else 0 := by
  unfold lackF
  rw [List.take_succ_eq_append_getElem h, List.countP_append]
  simp [List.getD, h, List.countP_cons]
attribute [local irreducible] SlV Lies
attribute [local go_sem] takes takesE comesTo
set_option maxHeartbeats 8000000 in
theorem rlaid_any (v : Value) (qs : List (Pt × Value)) (wh : List Int) (n : Nat) (w : World) (hv : RdP w.heap.size w v qs) (hm : qs.length ≤ 1000000) (hd : ∀ q ∈ qs, q.1.da.length ≤ 1000000) (hw : wh.length = 32) (h1 : 1 ≤ n) (hn : n ≤ 1000000) :
    Calls Try.prog 67 #[v, .agg (row .u8 wh), .int .i64 (n : Int)] w fun e w' => ∃ v', e = .returned (.tuple #[v', .int .i64 (lackF (laidF (qs.map (·.1)) wh n) : Int)]) ∧ Own w.heap.size w' v' (outL (laidF (qs.map (·.1)) wh n)) ∧ Below w.heap.size w w' := by
  have mk1 : ∀ W, (Instr.makeSlice 24 (.int .i64 (n : Int)) (.int .i64 (n : Int))).run Try.prog W = .ok (.slice (some ⟨W.heap.size, 0, none⟩) n n) (W.alloc (.cells (outC (List.replicate n none)) 5)) := fun W => by rw [outC_new]; exact make_bytes n hn W
  have mk2 := make_bools n hn
  have hz := zero_partR
  obtain ⟨va, vc, rfl⟩ := hv.form
  obtain ⟨ga, oa, hsl, hrg, _⟩ := hv.2
  have hcell : 0 < qs.length → va = some ⟨ga, oa, none⟩ := by
    obtain ⟨_, _, e, _, _, h, _⟩ := by unfold SlV at hsl; exact hsl
    injection e with e1 _ _
    rw [e1]; exact h
  have HV := Lib.hid (And.intro hv (And.intro hm (And.intro hd (And.intro hrg hcell))))
  have HN := Lib.hid (And.intro h1 hn)
  have hsz : (row .u8 wh).size = 32 := by rw [row_size, hw]
  have HSZ := Lib.hid (And.intro hsz hw)
  obtain ⟨W0, hW0⟩ : ∃ W, W = w.alloc (.cells (row .u8 wh) 23) := ⟨_, rfl⟩
  obtain ⟨B, hB⟩ : ∃ B, B = w.heap.size := ⟨_, rfl⟩
  have h00 := heap_alloc_new w (.cells (row .u8 wh) 23)
  have b00 := below1 w (.cells (row .u8 wh) 23)
  rw [← hW0, ← hB] at h00
  rw [← hW0] at b00
  have H0 := Lib.hid (And.intro h00 (And.intro b00 (And.intro hW0 hB)))
  obtain ⟨RW, hRW⟩ : ∃ R, R = row .u8 wh := ⟨_, rfl⟩
  rw [← hRW] at H0 HSZ ⊢
  have HRW := Lib.hid hRW
  obtain ⟨Z1, hZ1⟩ : ∃ Z, Z = outC (List.replicate n none) := ⟨_, rfl⟩
  obtain ⟨Z2, hZ2⟩ : ∃ Z, Z = hasC (List.replicate n none) := ⟨_, rfl⟩
  rw [← hZ1] at mk1
  rw [← hZ2] at mk2
  have HZZ := Lib.hid (And.intro hZ1 hZ2)
  clear hv hm hd hrg hcell hsl hn hsz hw hW0 hB h00 b00 hRW hZ1 hZ2 h1
  obtain ⟨ps, hps⟩ : ∃ ps, ps = qs.map (·.1) := ⟨_, rfl⟩
  obtain ⟨m, hm⟩ : ∃ m, m = qs.length := ⟨_, rfl⟩
  have hpl : ps.length = m := by rw [hps, hm, List.length_map]
  obtain ⟨Lf, hLf⟩ : ∃ L, L = laidF ps wh n := ⟨_, rfl⟩
  rw [← hps, ← hm, ← hLf]
  have HP := Lib.hid (And.intro hps (And.intro hm (And.intro hpl hLf)))
  clear hps hm hpl hLf
  obtain ⟨W1, hW1⟩ : ∃ W, W = W0.alloc (.cells Z1 5) := ⟨_, rfl⟩
  obtain ⟨W2, hW2⟩ : ∃ W, W = W1.alloc (.cells Z2 4) := ⟨_, rfl⟩
  obtain ⟨g1, hg1⟩ : ∃ g, g = W0.heap.size := ⟨_, rfl⟩
  obtain ⟨g2, hg2⟩ : ∃ g, g = W1.heap.size := ⟨_, rfl⟩
  have a1 := heap_alloc_new W0 (.cells Z1 5)
  have a2 := heap_alloc_new W1 (.cells Z2 4)
  have e1 := below1 W0 (.cells Z1 5)
  have e2 := below1 W1 (.cells Z2 4)
  rw [← hW1, ← hg1] at a1
  rw [← hW2, ← hg2] at a2
  rw [← hW1] at e1
  rw [← hW2] at e2
  have e3 : g1 < g2 := by rw [hg2]; exact blk_lt a1
  have HM := Lib.hid (And.intro hW1 (And.intro hW2 (And.intro hg1 hg2)))
  have HA := Lib.hid (And.intro (BC_blk1 e2 a1) (And.intro a2 (And.intro (BC_trans e1 e2) (And.intro (Nat.le_of_eq hg1.symm) (show W0.heap.size ≤ g2 by omega)))))
  have hne' : ¬ g2 = g1 := by omega
  have hne : ¬ g1 = g2 := by omega
  clear hW1 hW2 hg1 hg2 a1 a2 e1 e2 e3
  go_enter Try.func67, Try.ntmps67
  go_upto_region 1 with fail
  rw [← H0.out.2.2.1, ← H0.out.2.2.2]
  go_upto_region 2 with fail
  rw [← HM.out.1, ← HM.out.2.2.1]
  go_upto_region 3 with fail
  rw [← HM.out.2.1, ← HM.out.2.2.2]
  clear mk1 mk2
  go_wp2_with fail
  go_loopw [10] (fun v10 wr => ∃ i : Nat, i ≤ m ∧ v10 = .int .i64 (i : Int) ∧ wr.heap[g1]? = some (.cells (outC (laidN ps wh n i)) 5 (0, 0)) ∧ wr.heap[g2]? = some (.cells (hasC (laidN ps wh n i)) 4 (0, 0)) ∧ BC W0 wr) (fun i _ => m - (intOf i).toNat)
  case atStart => exact ⟨0, Nat.zero_le _, rfl, by rw [laidN, ← HZZ.out.1]; exact HA.out.1, by rw [laidN, ← HZZ.out.2]; exact HA.out.2.1, HA.out.2.2.1⟩
  case round =>
    obtain ⟨i, hi, rfl, hr1, hr2, hbr⟩ := hrel
    obtain ⟨st, hst⟩ : ∃ st, st = laidN ps wh n i := ⟨_, rfl⟩
    rw [← hst] at hr1 hr2
    have hstl : st.length = n := by rw [hst, laidN_len]
    have HST := Lib.hid (And.intro hst (And.intro hstl hi))
    have HR := Lib.hid (And.intro hr1 (And.intro hr2 hbr))
    clear hst hstl hr1 hr2 hbr
    by_cases hlt : i < m
    · skip
      have hil : i < qs.length := by have := HP.out.2.1; omega
      have i0 : (0 : Int) ≤ (i : Int) := by omega
      have i1 : (i : Int) < (m : Int) := by omega
      obtain ⟨I1, hI1⟩ : ∃ m, m = i + 1 := ⟨_, rfl⟩
      have s1 : IntKind.i64.wrap ((i : Int) + 1) = (I1 : Int) := by rw [IntKind.wrap_i64]; have := HV.out.2.1; omega
      have HI1 := Lib.hid (And.intro hI1 hlt)
      clear hI1 hlt
      obtain rfl := HV.out.2.2.2.2 (by omega)
      obtain ⟨q, hq⟩ : ∃ q, q = qs[i] := ⟨_, rfl⟩
      have hqm : q ∈ qs := by rw [hq]; exact List.getElem_mem hil
      have hpi : ps[i]? = some q.1 := by rw [HP.out.1, List.getElem?_map, List.getElem?_eq_getElem hil, hq]; rfl
      have hrg := range_get HV.out.2.2.2.1 HV.out.1.1.wh hil
      rw [← hq] at hrg
      have hgd := HV.out.1.1 q hqm
      have hdl := HV.out.2.2.1 q hqm
      have hbw := BC_below H0.out.2.1 H0.out.2.1.size HR.out.2.2
      have hrg2 : wr.rangeAt ga (oa + i * 35) (qC q).toArray.toList := fun j u hj => (hbw.cell (block_lt_of_cell (hrg j u hj))).trans (hrg j u hj)
      clear hq hqm hrg
      obtain ⟨p, u⟩ := q
      dsimp only at hpi hgd hdl
      obtain ⟨hok, gd, od, hsu, hlu, _⟩ := hgd
      have hlu2 : Lies wr gd od p.da := hlu.below' hbw
      obtain ⟨pd, cd, rfl, _, hcd, hpd, _⟩ := by unfold SlV at hsu; exact hsu
      have hsz35 := qC_size (q := (p, .slice pd p.da.length cd)) hok.1
      have hone : (qC (p, .slice pd p.da.length cd)).toArray.all (·.oneCell') = true := pcells_one _ _ _ _ rfl
      have k32 : (qC (p, .slice pd p.da.length cd)).toArray[32]? = some (.int .i64 p.sz) := pcells_size hok.1 _ _ _
      have k33 : (qC (p, .slice pd p.da.length cd)).toArray[33]? = some (.int .i64 p.at') := pcells_at hok.1 _ _ _
      have k34 : (qC (p, .slice pd p.da.length cd)).toArray[34]? = some (.slice pd p.da.length cd) := pcells_data hok.1 _ _ _
      have hmid : ∀ (W : World) (g : Nat), W.heap[g]? = some (.cells (qC (p, .slice pd p.da.length cd)).toArray 33 (0, 0)) → W.rangeAt g 0 (row .u8 p.wh).toList := fun W g h => lies_range (lies_whole h)
      obtain ⟨C, hC⟩ : ∃ C, C = (qC (p, .slice pd p.da.length cd)).toArray := ⟨_, rfl⟩
      rw [← hC] at hsz35 hone k32 k33 k34 hmid hrg2
      have HSC := Lib.hid (And.intro hsz35 hone)
      have HRG := Lib.hid hrg2
      obtain ⟨W3, hW3⟩ : ∃ W, W = wr.alloc (.cells C 33) := ⟨_, rfl⟩
      obtain ⟨g3, hg3⟩ : ∃ g, g = wr.heap.size := ⟨_, rfl⟩
      have n3 := heap_alloc_new wr (.cells C 33)
      have b3 := below1 wr (.cells C 33)
      rw [← hW3, ← hg3] at n3
      rw [← hW3] at b3
      have hl1 := blk_lt HR.out.1
      have hl2 := blk_lt HR.out.2.1
      have H3 := Lib.hid (And.intro (BC_blk1 b3 HR.out.1) (And.intro (BC_blk1 b3 HR.out.2.1) (And.intro n3 (And.intro (BC_trans HR.out.2.2 b3) (And.intro (hlu2.below' b3) (And.intro hW3 (And.intro hg3 (And.intro (show g1 < g3 by omega) (show g2 < g3 by omega)))))))))
      have HB3 : Hid (W3.heap[B]? = some (.cells RW 23 (0, 0))) := Lib.hid (BC_blk1 (BC_trans HR.out.2.2 b3) H0.out.1)
      obtain ⟨RP, hRP⟩ : ∃ R, R = row .u8 p.wh := ⟨_, rfl⟩
      have hrp := hmid W3 g3 n3
      have hrps : (row .u8 p.wh).size = 32 := by rw [row_size, hok.1]
      have hneq : ∀ w, (binOp .neq 23 (.agg (row .u8 p.wh)) (.agg (row .u8 wh))).run Try.prog w = .ok (.bool (!decide (p.wh = wh))) w := fun w => run_neq_row w 23 5 32 .u8 Try.underlying23 Try.underlying5 (by kernel_rfl) p.wh wh hok.1 HSZ.out.2
      rw [← hRP] at hrp hrps hneq
      rw [← HRW.out] at hneq
      have HRP := Lib.hid (And.intro hrp hrps)
      have HPP := Lib.hid (And.intro hok (And.intro hpi (And.intro hdl (And.intro hpd (And.intro hcd hlu)))))
      have c32 := cell_row n3 32 k32
      have c33 := cell_row n3 33 k33
      have c34 := cell_row n3 34 k34
      obtain ⟨sz, hsz⟩ : ∃ s, s = p.sz := ⟨_, rfl⟩
      obtain ⟨A, hA⟩ : ∃ s, s = p.at' := ⟨_, rfl⟩
      obtain ⟨dl, hdln⟩ : ∃ s, s = p.da.length := ⟨_, rfl⟩
      obtain ⟨x, hx⟩ : ∃ x, x = decide (p.wh = wh) := ⟨_, rfl⟩
      rw [← hsz] at c32
      rw [← hA] at c33
      rw [← hdln] at c34
      rw [← hx] at hneq
      have HQ := Lib.hid (And.intro hsz (And.intro hA (And.intro hdln hx)))
      have HK34 : Hid (C[34]? = some (.slice pd dl cd)) := Lib.hid (by rw [hdln]; exact k34)
      have HK33 : Hid (C[33]? = some (.int .i64 A)) := Lib.hid (by rw [hA]; exact k33)
      clear hrp hrps hok hpi hdl hpd hcd hbw hrg2 hlu hlu2 hsu hsz35 hone k32 k33 k34 hmid hC hW3 hg3 n3 b3 hl1 hl2 hRP hsz hA hdln hx hil
      go_upto_region 7 with (first | ((with_reducible refine wlw_load_mid (o := ⟨some 29, _, _, _, _, _⟩) ?_ 33 (.tmp 28) ?_ _ _ ?_ C _ HRG.out Try.underlying33 ?_ ?_ ?_); (focus rfl); (focus rfl); (focus rfl); (focus rfl); (focus (rw [HSC.out.1]; kernel_rfl))) | (refine wpList_store_rowTo rfl 33 _ _ rfl rfl _ C rfl rfl 33 zpart (heap_alloc_new wr _) (by rw [HSC.out.1]; kernel_rfl) (by rw [HSC.out.1]; kernel_rfl) HSC.out.2 ?_; rw [World.setRow_alloc_new]))
      rw [← H3.out.2.2.2.2.2.1, ← H3.out.2.2.2.2.2.2.1]
      cases x with
      | false =>
        have hnx : laidN ps wh n I1 = st := by
          rw [HI1.out.1, laidN, HPP.out.2.1, ← HST.out.1]
          dsimp only
          rw [if_neg (fun h => by have h2 := HQ.out.2.2.2; rw [decide_eq_true h.1] at h2; cases h2)]
        have HNX := Lib.hid hnx
        clear hnx
        go_wp2_with (first | ((with_reducible refine wlw_load_mid (o := ⟨some 31, _, _, _, _, _⟩) ?_ 23 (.tmp 30) ?_ _ _ ?_ RP _ HRP.out.1 Try.underlying23 ?_ ?_ ?_); (focus rfl); (focus rfl); (focus rfl); (focus rfl); (focus (rw [HRP.out.2]; kernel_rfl))) | ((with_reducible refine wlw_load_row (o := ⟨some 32, _, _, _, _, _⟩) ?_ 23 (.tmp 4) ?_ _ ?_ _ RW _ _ HB3.out Try.underlying23 ?_ ?_ ?_); (focus rfl); (focus rfl); (focus rfl); (focus rfl); (focus (rw [HSZ.out.1]; kernel_rfl))))
        go_roundw
        case rel => exact ⟨I1, by have := HI1.out; omega, rfl, by rw [HNX.out]; exact H3.out.1, by rw [HNX.out]; exact H3.out.2.1, H3.out.2.2.2.1⟩
        case measure => have := HI1.out; simp [intOf]; omega
      | true =>
        by_cases hsn : sz = (n : Int)
        · subst hsn
          have hnx : laidN ps wh n I1 = putN A p.da st dl := by
            rw [HI1.out.1, laidN, HPP.out.2.1, ← HST.out.1]
            dsimp only
            rw [if_pos ⟨of_decide_eq_true HQ.out.2.2.2.symm, HQ.out.1.symm⟩, HQ.out.2.1, HQ.out.2.2.1]
          have HNX := Lib.hid hnx
          clear hnx
          go_wp2_with (first | ((with_reducible refine wlw_load_mid (o := ⟨some 31, _, _, _, _, _⟩) ?_ 23 (.tmp 30) ?_ _ _ ?_ RP _ HRP.out.1 Try.underlying23 ?_ ?_ ?_); (focus rfl); (focus rfl); (focus rfl); (focus rfl); (focus (rw [HRP.out.2]; kernel_rfl))) | ((with_reducible refine wlw_load_row (o := ⟨some 32, _, _, _, _, _⟩) ?_ 23 (.tmp 4) ?_ _ ?_ _ RW _ _ HB3.out Try.underlying23 ?_ ?_ ?_); (focus rfl); (focus rfl); (focus rfl); (focus rfl); (focus (rw [HSZ.out.1]; kernel_rfl))))
          go_loopw [12] (fun v12 wq => ∃ k : Nat, k ≤ dl ∧ v12 = .int .i64 (k : Int) ∧ wq.heap[g1]? = some (.cells (outC (putN A p.da st k)) 5 (0, 0)) ∧ wq.heap[g2]? = some (.cells (hasC (putN A p.da st k)) 4 (0, 0)) ∧ wq.heap[g3]? = some (.cells C 33 (0, 0)) ∧ BC W0 wq) (fun i _ => dl - (intOf i).toNat)
          case atStart => exact ⟨0, Nat.zero_le _, rfl, H3.out.1, H3.out.2.1, H3.out.2.2.1, H3.out.2.2.2.1⟩
          case round =>
            obtain ⟨k, hk, rfl, hq1, hq2, hq3, hbq⟩ := hrel
            obtain ⟨st2, hst2⟩ : ∃ s, s = putN A p.da st k := ⟨_, rfl⟩
            rw [← hst2] at hq1 hq2
            have hst2l : st2.length = n := by rw [hst2, putN_len, HST.out.2.1]
            have HS2 := Lib.hid (And.intro hst2 (And.intro hst2l hk))
            have c34 := cell_row hq3 34 HK34.out
            have HQQ := Lib.hid (And.intro hq1 (And.intro hq2 (And.intro hq3 hbq)))
            clear hst2 hst2l hk hq1 hq2 hq3 hbq c32 c33
            by_cases hkl : k < dl
            · have k0 : (0 : Int) ≤ (k : Int) := by omega
              have k1 : (k : Int) < (dl : Int) := by omega
              obtain ⟨K1, hK1⟩ : ∃ m, m = k + 1 := ⟨_, rfl⟩
              have s2 : IntKind.i64.wrap ((k : Int) + 1) = (K1 : Int) := by rw [IntKind.wrap_i64]; have := HPP.out.2.2.1; have := HQ.out.2.2.1; omega
              have HK1 := Lib.hid (And.intro hK1 hkl)
              obtain rfl := HPP.out.2.2.2.1 (by have := HQ.out.2.2.1; omega)
              obtain ⟨c, hc⟩ : ∃ c, c = p.da.getD k 0 := ⟨_, rfl⟩
              have cb : wr.cell? ⟨gd, od + k, none⟩ = some (.int .u8 c) := by
                rw [hc]
                have h := HPP.out.2.2.2.2.2.below' (BC_below H0.out.2.1 H0.out.2.1.size HQQ.out.2.2.2)
                unfold Lies at h
                exact h k (by have := HQ.out.2.2.1; omega)
              have c33 := cell_row HQQ.out.2.2.1 33 HK33.out
              have c33' : wr.cell? ⟨g3, 33, none⟩ = some (.int .i64 A) := c33
              obtain ⟨z, hz2⟩ : ∃ z, z = IntKind.i64.wrap (A + (k : Int)) := ⟨_, rfl⟩
              have s3 : IntKind.i64.wrap (A + (k : Int)) = z := hz2.symm
              have hstep : putN A p.da st K1 = stPut st2 z c := by rw [hK1, putN, ← HS2.out.1, ← hz2, ← hc]
              have HZ := Lib.hid (And.intro hz2 (And.intro hstep hc))
              clear hz2 hstep hc hK1 hkl c33
              rcases Int.lt_or_le z 0 with hz0 | hz0
              · have hput : putN A p.da st K1 = st2 := by rw [HZ.out.2.1]; unfold stPut; rw [if_neg (by omega)]
                have HPU := Lib.hid hput
                have hz1 : ¬ (0 : Int) ≤ z := by omega
                clear hput hz0
                go_wp2_with fail
                go_roundw
                case rel => exact ⟨K1, by have := HK1.out; omega, rfl, by rw [HPU.out]; exact HQQ.out.1, by rw [HPU.out]; exact HQQ.out.2.1, HQQ.out.2.2.1, HQQ.out.2.2.2⟩
                case measure => have := HK1.out; simp [intOf]; omega
              obtain ⟨j, hj⟩ : ∃ j : Nat, z = (j : Int) := ⟨z.toNat, by omega⟩
              subst hj
              have hz1 : (0 : Int) ≤ (j : Int) := by omega
              rcases Nat.lt_or_ge j n with hjn | hjn
              · have hjn2 : (j : Int) < (n : Int) := by omega
                have hj2 : j < st2.length := by rw [HS2.out.2.1]; exact hjn
                obtain ⟨x2, hx2⟩ : ∃ x, x = (st2.getD j none).isSome := ⟨_, rfl⟩
                have c2 : wr.cell? ⟨g2, j, none⟩ = some (.bool x2) := by rw [hx2]; exact cell_row HQQ.out.2.1 j (hasC_get st2 j hj2)
                cases x2 with
                | true =>
                  have hput : putN A p.da st K1 = st2 := by
                    rw [HZ.out.2.1]; unfold stPut
                    rw [if_neg]
                    rintro ⟨_, _, h⟩
                    rw [Int.toNat_natCast] at h
                    cases hg : st2.getD j none with
                    | none => rw [hg] at hx2; cases hx2
                    | some y => rw [hg] at h; cases h
                  have HPU := Lib.hid hput
                  clear hput hx2 hj2 hjn
                  go_wp2_with fail
                  go_roundw
                  case rel => exact ⟨K1, by have := HK1.out; omega, rfl, by rw [HPU.out]; exact HQQ.out.1, by rw [HPU.out]; exact HQQ.out.2.1, HQQ.out.2.2.1, HQQ.out.2.2.2⟩
                  case measure => have := HK1.out; simp [intOf]; omega
                | false =>
                  have hnone : st2.getD j none = none := by
                    cases hg : st2.getD j none with
                    | none => rfl
                    | some y => rw [hg] at hx2; cases hx2
                  have hput : putN A p.da st K1 = st2.set j (some c) := by
                    rw [HZ.out.2.1]; unfold stPut
                    rw [if_pos ⟨by omega, by omega, by rw [Int.toNat_natCast, hnone]; rfl⟩, Int.toNat_natCast]
                  have c1 := cell_row HQQ.out.1 j (outC_get st2 j hj2)
                  have f1 := free_row HQQ.out.1 j
                  have f2 := free_row HQQ.out.2.1 j
                  obtain ⟨wr1, hwr1⟩ : ∃ W, W = wr.setCell ⟨g1, j, none⟩ (.int .u8 c) := ⟨_, rfl⟩
                  obtain ⟨wr2, hwr2⟩ : ∃ W, W = wr1.setCell ⟨g2, j, none⟩ (.bool true) := ⟨_, rfl⟩
                  have q1 : wr1.heap[g1]? = some (.cells (outC (st2.set j (some c))) 5 (0, 0)) := by rw [hwr1, outC_set]; exact Go.heap_setCell_same _ _ _ _ _ _ HQQ.out.1
                  have q2 : wr1.heap[g2]? = some (.cells (hasC st2) 4 (0, 0)) := by rw [hwr1, heap_setCell_other _ _ _ _ hne']; exact HQQ.out.2.1
                  have q3 : wr1.heap[g3]? = some (.cells C 33 (0, 0)) := by rw [hwr1, heap_setCell_other _ _ _ _ (by show g3 ≠ g1; have := H3.out; omega)]; exact HQQ.out.2.2.1
                  have t1 : wr2.heap[g1]? = some (.cells (outC (st2.set j (some c))) 5 (0, 0)) := by rw [hwr2, heap_setCell_other _ _ _ _ hne]; exact q1
                  have t2 : wr2.heap[g2]? = some (.cells (hasC (st2.set j (some c))) 4 (0, 0)) := by rw [hwr2, hasC_set]; exact Go.heap_setCell_same _ _ _ _ _ _ q2
                  have t3 : wr2.heap[g3]? = some (.cells C 33 (0, 0)) := by rw [hwr2, heap_setCell_other _ _ _ _ (by show g3 ≠ g2; have := H3.out; omega)]; exact q3
                  have tb : BC W0 wr2 := by rw [hwr2, hwr1]; exact (Below.setCell HQQ.out.2.2.2 HA.out.2.2.2.1 _).setCell HA.out.2.2.2.2 _
                  have c2' := cell_row q2 j (hasC_get st2 j hj2)
                  have f2' := free_row q2 j
                  have HT := Lib.hid (And.intro t1 (And.intro t2 (And.intro t3 (And.intro tb hput))))
                  have HWW := Lib.hid (And.intro hwr1 hwr2)
                  rw [hwr1] at c2' f2'
                  clear q1 q2 q3 t1 t2 t3 tb hwr1 hwr2 hput hnone hx2 hj2 hjn
                  go_wp2_with fail
                  rw [← HWW.out.1, ← HWW.out.2]
                  go_roundw
                  case rel => exact ⟨K1, by have := HK1.out; omega, rfl, by rw [HT.out.2.2.2.2]; exact HT.out.1, by rw [HT.out.2.2.2.2]; exact HT.out.2.1, HT.out.2.2.1, HT.out.2.2.2.1⟩
                  case measure => have := HK1.out; simp [intOf]; omega
              · have hjn1 : ¬ (j : Int) < (n : Int) := by omega
                have hput : putN A p.da st K1 = st2 := by rw [HZ.out.2.1]; unfold stPut; rw [if_neg (by rw [HS2.out.2.1]; omega)]
                have HPU := Lib.hid hput
                clear hput hjn
                go_wp2_with fail
                go_roundw
                case rel => exact ⟨K1, by have := HK1.out; omega, rfl, by rw [HPU.out]; exact HQQ.out.1, by rw [HPU.out]; exact HQQ.out.2.1, HQQ.out.2.2.1, HQQ.out.2.2.2⟩
                case measure => have := HK1.out; simp [intOf]; omega
            · have hkd : k = dl := by have := HS2.out; omega
              have hge2 : ¬ (k : Int) < (dl : Int) := by omega
              have hs3 : laidN ps wh n I1 = st2 := by rw [HNX.out, HS2.out.1, hkd]
              have HS3 := Lib.hid hs3
              clear hkl hkd hs3
              go_wp2_with fail
              go_roundw
              case rel => exact ⟨I1, by have := HI1.out; omega, rfl, by rw [HS3.out]; exact HQQ.out.1, by rw [HS3.out]; exact HQQ.out.2.1, HQQ.out.2.2.2⟩
              case measure => have := HI1.out; simp [intOf]; omega
        · have hnx : laidN ps wh n I1 = st := by
            rw [HI1.out.1, laidN, HPP.out.2.1, ← HST.out.1]
            dsimp only
            rw [if_neg (fun h => hsn (by rw [HQ.out.1]; exact h.2))]
          have HNX := Lib.hid hnx
          have hsn' : (sz != (n : Int)) = true := by simp [hsn]
          clear hnx hsn
          go_wp2_with (first | ((with_reducible refine wlw_load_mid (o := ⟨some 31, _, _, _, _, _⟩) ?_ 23 (.tmp 30) ?_ _ _ ?_ RP _ HRP.out.1 Try.underlying23 ?_ ?_ ?_); (focus rfl); (focus rfl); (focus rfl); (focus rfl); (focus (rw [HRP.out.2]; kernel_rfl))) | ((with_reducible refine wlw_load_row (o := ⟨some 32, _, _, _, _, _⟩) ?_ 23 (.tmp 4) ?_ _ ?_ _ RW _ _ HB3.out Try.underlying23 ?_ ?_ ?_); (focus rfl); (focus rfl); (focus rfl); (focus rfl); (focus (rw [HSZ.out.1]; kernel_rfl))))
          go_roundw
          case rel => exact ⟨I1, by have := HI1.out; omega, rfl, by rw [HNX.out]; exact H3.out.1, by rw [HNX.out]; exact H3.out.2.1, H3.out.2.2.2.1⟩
          case measure => have := HI1.out; simp [intOf]; omega
    · have him : i = m := by have := HST.out; omega
      have hge : ¬ (i : Int) < (m : Int) := by omega
      have hfin : st = Lf := by rw [HST.out.1, HP.out.2.2.2, laidF, HP.out.2.2.1, him]
      have HF := Lib.hid hfin
      obtain ⟨wA, hwA⟩ : ∃ W, W = wr := ⟨_, rfl⟩
      have HWA := Lib.hid hwA
      clear him hfin hlt hwA
      go_wp2_with fail
      go_loopw [14, 15] (fun v14 v15 wq => ∃ k : Nat, k ≤ n ∧ v15 = .int .i64 (k : Int) ∧ v14 = .int .i64 (lackF (st.take k) : Int) ∧ wq = wA) (fun _ i _ => n - (intOf i).toNat)
      case atStart => exact ⟨0, Nat.zero_le _, rfl, rfl, HWA.out.symm⟩
      case round =>
        obtain ⟨k, hk, rfl, rfl, hwq⟩ := hrel
        have hgr := HR.out.2.1
        rw [← HWA.out, ← hwq] at hgr
        have HG := Lib.hid (And.intro hwq (And.intro hk hgr))
        obtain ⟨L0, hL0⟩ : ∃ L, L = lackF (st.take k) := ⟨_, rfl⟩
        rw [← hL0]
        have hLb : L0 ≤ n := by rw [hL0]; exact Nat.le_trans (lack_le _) (by rw [List.length_take]; omega)
        have HL0 := Lib.hid (And.intro hL0 hLb)
        clear hwq hk hgr hL0 hLb
        by_cases hkn : k < n
        · have hks : k < st.length := by rw [HST.out.2.1]; exact hkn
          have k0 : (0 : Int) ≤ (k : Int) := by omega
          have k1 : (k : Int) < (n : Int) := by omega
          obtain ⟨K1, hK1⟩ : ∃ m, m = k + 1 := ⟨_, rfl⟩
          have s2 : IntKind.i64.wrap ((k : Int) + 1) = (K1 : Int) := by rw [IntKind.wrap_i64]; have := HN.out; omega
          obtain ⟨x2, hx2⟩ : ∃ x, x = (st.getD k none).isSome := ⟨_, rfl⟩
          have c2 : wr.cell? ⟨g2, k, none⟩ = some (.bool x2) := by rw [hx2]; exact cell_row HG.out.2.2 k (hasC_get st k hks)
          have hlk := lack_take hks
          rw [← hK1, ← HL0.out.1] at hlk
          have HK1 := Lib.hid (And.intro hK1 (And.intro hkn (And.intro hx2 hlk)))
          clear hK1 hkn hx2 hlk hks
          cases x2 with
          | true =>
            have hnx : lackF (st.take K1) = L0 := by
              rw [HK1.out.2.2.2]
              have h := HK1.out.2.2.1
              cases hg : st.getD k none with
              | none => rw [hg] at h; cases h
              | some y => rfl
            have HNX := Lib.hid hnx
            clear hnx
            go_wp2_with fail
            go_roundw
            case rel => exact ⟨K1, by have := HK1.out; omega, rfl, by rw [HNX.out], HG.out.1⟩
            case measure => have := HK1.out; simp [intOf]; omega
          | false =>
            obtain ⟨L1, hL1⟩ : ∃ L, L = L0 + 1 := ⟨_, rfl⟩
            have s4 : IntKind.i64.wrap ((L0 : Int) + 1) = (L1 : Int) := by rw [IntKind.wrap_i64]; have := HL0.out.2; have := HN.out; omega
            have hnx : lackF (st.take K1) = L1 := by
              rw [HK1.out.2.2.2, hL1]
              have h := HK1.out.2.2.1
              cases hg : st.getD k none with
              | none => rfl
              | some y => rw [hg] at h; cases h
            have HNX := Lib.hid hnx
            clear hnx hL1
            go_wp2_with fail
            go_roundw
            case rel => exact ⟨K1, by have := HK1.out; omega, rfl, by rw [HNX.out], HG.out.1⟩
            case measure => have := HK1.out; simp [intOf]; omega
        · have hkn2 : k = n := by have := HG.out.2.1; omega
          have hge2 : ¬ (k : Int) < (n : Int) := by omega
          have hL : L0 = lackF Lf := by rw [HL0.out.1, hkn2, ← HST.out.2.1, List.take_length, HF.out]
          have HL := Lib.hid (And.intro hL hkn2)
          clear hkn hkn2 hL
          go_wp2_with fail
          go_ret2
          refine ⟨_, by rw [← HL.out.1]; rfl, ?_, ?_⟩
          · rw [← HF.out, HG.out.1, HWA.out]
            have h := Own.of_row (base := w.heap.size) (l := outL st) (cap := n) (Nat.le_trans H0.out.2.1.size HA.out.2.2.2.1) HR.out.1 (by have := HN.out; unfold maxLen; omega) (by rw [outC_size, HST.out.2.1]) (by rw [outL_len, HST.out.2.1]; exact Nat.le_refl _) (by rw [List.take_of_length_le (by rw [Array.length_toList, outC_size, outL_len]; exact Nat.le_refl _)]; exact row_list _ _)
            rw [outL_len, HST.out.2.1] at h
            exact h
          · rw [HG.out.1, HWA.out]
            exact BC_below H0.out.2.1 H0.out.2.1.size HR.out.2.2
theorem rmissing_any (v : Value) (qs : List (Pt × Value)) (wh : List Int) (s : Int) (w : World) (hv : RdP w.heap.size w v qs) (hm : qs.length ≤ 1000000) (hd : ∀ q ∈ qs, q.1.da.length ≤ 1000000) (hw : wh.length = 32) (hs : s ≤ 1000000) :
    Calls Try.prog 42 #[v, .agg (row .u8 wh), .int .i64 s] w fun e w' => e = .returned (.int .i64 (missF (qs.map (·.1)) wh s)) ∧ Below w.heap.size w w' := by
  obtain ⟨va, vc, rfl⟩ := hv.form
  have hsz : (row .u8 wh).size = 32 := by rw [row_size, hw]
  have HSZ := Lib.hid hsz
  have b0 := below1 w (.cells (row .u8 wh) 23)
  have n0 := heap_alloc_new w (.cells (row .u8 wh) 23)
  have HL : Hid (∀ n : Nat, s = (n : Int) → 1 ≤ n → Calls Try.prog 67 #[.slice va qs.length vc, .agg (row .u8 wh), .int .i64 (n : Int)] (w.alloc (.cells (row .u8 wh) 23)) fun e w' => ∃ v', e = .returned (.tuple #[v', .int .i64 (lackF (laidF (qs.map (·.1)) wh n) : Int)]) ∧ Own (w.alloc (.cells (row .u8 wh) 23)).heap.size w' v' (outL (laidF (qs.map (·.1)) wh n)) ∧ Below (w.alloc (.cells (row .u8 wh) 23)).heap.size (w.alloc (.cells (row .u8 wh) 23)) w') :=
    Lib.hid fun n hn h1 => rlaid_any _ qs wh n _ (hv.to b0) hm hd hw h1 (by omega)
  obtain ⟨W0, hW0⟩ : ∃ W, W = w.alloc (.cells (row .u8 wh) 23) := ⟨_, rfl⟩
  rw [← hW0] at b0 n0 HL
  obtain ⟨B, hB⟩ : ∃ B, B = w.heap.size := ⟨_, rfl⟩
  rw [← hB] at n0
  have H0 := Lib.hid (And.intro b0 (And.intro n0 (And.intro hW0 hB)))
  obtain ⟨r, hr⟩ : ∃ r, r = missF (qs.map (·.1)) wh s := ⟨_, rfl⟩
  rw [← hr]
  have HR := Lib.hid hr
  obtain ⟨RW, hRW⟩ : ∃ R, R = row .u8 wh := ⟨_, rfl⟩
  rw [← hRW] at HSZ HL H0 ⊢
  have HS := Lib.hid hs
  clear hv hm hd hw hsz b0 n0 hW0 hB hr hRW hs
  by_cases h1 : s < 1
  · have hz : r = 0 := by rw [HR.out]; unfold missF mayS; rw [decide_eq_false (by omega)]; rfl
    have HZ := Lib.hid hz
    clear hz
    go_enter Try.func42, Try.ntmps42
    go_upto_region 1 with fail
    rw [← H0.out.2.2.1, ← H0.out.2.2.2]
    go_wp2_with fail
    go_ret
    exact ⟨by rw [HZ.out]; rfl, H0.out.1⟩
  · obtain ⟨n, rfl⟩ : ∃ n : Nat, s = (n : Int) := ⟨s.toNat, by omega⟩
    have h2 : ¬ (4194304 : Int) < (n : Int) := by have := HS.out; omega
    have HLN := Lib.hid (HL.out n rfl (by omega))
    have hz : r = (lackF (laidF (qs.map (·.1)) wh n) : Int) := by rw [HR.out]; unfold missF mayS; rw [decide_eq_true (by have := HS.out; omega), if_pos rfl, Int.toNat_natCast]
    rw [← hz] at HLN
    clear hz
    go_enter Try.func42, Try.ntmps42
    go_upto_region 1 with fail
    rw [← H0.out.2.2.1, ← H0.out.2.2.2]
    go_wp2_with ((with_reducible refine wlw_load_row (o := ⟨some 17, _, _, _, _, _⟩) ?_ 23 (.tmp 4) ?_ _ ?_ _ RW _ _ H0.out.2.1 Try.underlying23 ?_ ?_ ?_); (focus rfl); (focus rfl); (focus rfl); (focus rfl); (focus (rw [HSZ.out]; kernel_rfl)))
    refine HLN.out.mono ?_
    rintro e w2 ⟨v2, rfl, _, b2⟩
    have HB := Lib.hid (BC_below H0.out.1 H0.out.1.size b2)
    clear b2
    go_wp2_with fail
    go_ret
    exact ⟨rfl, HB.out⟩
end
section -- RClear
set_option maxRecDepth 100000
open Go.ChangeShapes Go.WideShapes Go.ChangeAt Go.RowKit
theorem rg_prefix {w : World} {g o : Nat} {q : Pt × Value} {RP : Array Value} (h : w.rangeAt g o (qC q)) (_h32 : q.1.wh.length = 32) (hR : RP = row .u8 q.1.wh) : w.rangeAt g o RP.toList := fun j u hj => by
  rw [hR, row_list] at hj
  refine h j u ?_
  have hl : j < (q.1.wh.map (Value.int .u8)).length := (List.getElem?_eq_some_iff.1 hj).1
  unfold qC pcells
  rw [List.getElem?_append_left hl]
  exact hj
attribute [local irreducible] SlV Lies headG
attribute [local go_sem] takes takesE comesTo
set_option maxHeartbeats 8000000 in
theorem rclear_any (v : Value) (qs : List (Pt × Value)) (wh : List Int) (hw : wh.length = 32) (w : World) (hv : RdP w.heap.size w v qs) (hn : qs.length ≤ 10000) :
    Calls Try.prog 41 #[v, .agg (row .u8 wh)] w fun e w' => ∃ v', e = .returned v' ∧ RdP w'.heap.size w' v' (qs.filter (fun q => !decide (q.1.wh = wh))) ∧ Below w.heap.size w w' := by
  obtain ⟨RW, hRW⟩ : ∃ R, R = row .u8 wh := ⟨_, rfl⟩
  have hsz : RW.size = 32 := by rw [hRW, row_size, hw]
  rw [← hRW]
  obtain ⟨W9, hW9⟩ : ∃ W, W = w.alloc (.cells RW 23) := ⟨_, rfl⟩
  obtain ⟨g9, hg9⟩ : ∃ g, g = w.heap.size := ⟨_, rfl⟩
  have n9 := heap_alloc_new w (.cells RW 23)
  have b9 := below1 w (.cells RW 23)
  rw [← hW9, ← hg9] at n9
  rw [← hW9] at b9
  have H9 := Lib.hid (And.intro n9 (And.intro b9 (And.intro hW9 (And.intro hg9 (And.intro hsz (And.intro hRW hw))))))
  have hvv := hv
  obtain ⟨hg, g, o, sv, rg, _⟩ := hvv
  obtain ⟨a, c, rfl, hc, hm, ha, _⟩ := by unfold SlV at sv; exact sv
  obtain ⟨n, hN⟩ : ∃ n, n = qs.length := ⟨_, rfl⟩
  rw [← hN] at ha hv hn ⊢
  obtain ⟨F, hF⟩ : ∃ F : Pt × Value → Bool, F = (fun q => !decide (q.1.wh = wh)) := ⟨_, rfl⟩
  rw [← hF]
  have HV := Lib.hid (And.intro hv (And.intro rg (And.intro hN (And.intro ha (And.intro hn hF)))))
  clear hv hg sv rg hN ha hc hm hn n9 b9 hW9 hg9 hsz hRW hw hF
  go_enter Try.func41, Try.ntmps41
  go_upto_region 1 with fail
  rw [← H9.out.2.2.1, ← H9.out.2.2.2.1]
  go_wp2_with fail
  go_loopw [5, 6] (fun v5 v6 wr => ∃ i : Nat, i ≤ n ∧ v6 = .int .i64 (i : Int) ∧ OwnR W9.heap.size wr v5 ((qs.take i).filter F) ∧ BC W9 wr) (fun _ i _ => n - (intOf i).toNat)
  case atStart => exact ⟨0, Nat.zero_le _, rfl, OwnR.nil _ _, BC_refl _⟩
  case round =>
    obtain ⟨i, hi, rfl, hown, hbr⟩ := hrel
    have HR := Lib.hid (And.intro hown (And.intro hbr hi))
    clear hown hbr hi
    by_cases hlt : i < n
    · have i0 : (0 : Int) ≤ (i : Int) := by omega
      have i1 : (i : Int) < (n : Int) := by omega
      obtain ⟨I1, hI1⟩ : ∃ m, m = i + 1 := ⟨_, rfl⟩
      have s1 : IntKind.i64.wrap ((i : Int) + 1) = (I1 : Int) := by rw [IntKind.wrap_i64]; have := HV.out.2.2.2.2.1; omega
      have hiq : i < qs.length := by rw [← HV.out.2.2.1]; exact hlt
      obtain rfl := HV.out.2.2.2.1 (by omega)
      have hrg := range_get HV.out.2.1 HV.out.1.1.wh hiq
      have hqm := List.getElem_mem hiq
      have htk : qs.take (i + 1) = qs.take i ++ [qs[i]] := List.take_succ_eq_append_getElem hiq
      obtain ⟨q, hq⟩ : ∃ q, q = qs[i]'hiq := ⟨_, rfl⟩
      rw [← hq] at hrg hqm htk
      have hq32 := HV.out.1.1.wh q hqm
      obtain ⟨C, hC⟩ : ∃ C, C = (qC q).toArray := ⟨_, rfl⟩
      have hCz : C.size = 35 := by rw [hC]; exact qC_size hq32
      have bwr := BC_trans H9.out.2.1 HR.out.2.1
      obtain ⟨RP, hRP⟩ : ∃ R, R = row .u8 q.1.wh := ⟨_, rfl⟩
      have hPz : RP.size = 32 := by rw [hRP, row_size, hq32]
      obtain ⟨z, hz⟩ : ∃ z, z = F q := ⟨_, rfl⟩
      have hneq : ∀ w, (binOp .neq 23 (.agg RP) (.agg RW)).run Try.prog w = .ok (.bool z) w := fun w => by
        have h := run_neq_row w 23 5 32 .u8 Try.underlying23 Try.underlying5 (by kernel_rfl) q.1.wh wh hq32 H9.out.2.2.2.2.2.2
        rw [← hRP, ← H9.out.2.2.2.2.2.1] at h
        rw [hz, HV.out.2.2.2.2.2]
        exact h
      have HFR : Hid (∀ x : HW (BC wr), x.w.heap[g9]? = some (.cells RW 23 (0, 0))) := Lib.hid (BC_blk (BC_blk1 HR.out.2.1 H9.out.1))
      have HFM : Hid (∀ x : HW (BC wr), x.w.rangeAt g (o + i * 35) RP.toList) := Lib.hid fun x => rg_prefix (fun j u hj => later (BC_trans bwr x.h) (hrg j u hj)) hq32 hRP
      have HFC : Hid (∀ x : HW (BC wr), x.w.rangeAt g (o + i * 35) C.toList) := Lib.hid fun x j u hj => later (BC_trans bwr x.h) (hrg j u (by rw [hC] at hj; exact hj))
      have HSZ := Lib.hid (And.intro hPz (And.intro H9.out.2.2.2.2.1 hCz))
      have HI := Lib.hid (And.intro hI1 (And.intro hlt (And.intro hqm (And.intro htk (And.intro hC hz)))))
      clear hI1 hlt hqm htk hC hz hq hq32 hRP hPz hCz bwr hrg
      go_upto_region 5 with fail
      have hS := BC_all (w := wr)
      haveI := BC_inst wr
      refine wp_region_head (BC wr) 7 (by kernel_rfl) (by kernel_rfl) (BC_start _) ?_
      simp only [List.take_succ_cons, List.take_zero, List.drop_succ_cons, List.drop_zero]
      repeat (first
        | ((with_reducible refine headG_load_mid (o := ⟨some 17, _, _, _, _, _⟩) 23 (.tmp 16) ?_ ?_ _ _ ?_ RP _ HFM.out Try.underlying23 ?_ ?_ ?_); (focus rfl); (focus rfl); (focus rfl); (focus rfl); (focus (rw [HSZ.out.1]; kernel_rfl)))
        | ((with_reducible refine headG_load_row (o := ⟨some 18, _, _, _, _, _⟩) 23 (.tmp 3) ?_ ?_ _ ?_ _ RW _ _ HFR.out Try.underlying23 ?_ ?_ ?_); (focus rfl); (focus rfl); (focus rfl); (focus rfl); (focus (rw [HSZ.out.2.1]; kernel_rfl)))
        | (refine headG_step (fun K hK => ?_)
           go_simp
           (refine hK _ ?_; clear hK K)))
      refine headG_nil ?_
      intro wy hby
      have hfy : wy.rangeAt g (o + i * 35) C.toList := HFC.out ⟨wy, hby⟩
      have HFY := Lib.hid hfy
      have HY := Lib.hid (And.intro (HR.out.1.below hby) (BC_trans HR.out.2.1 hby))
      clear hS hby hneq hfy
      cases z with
      | false =>
        have hnx : (qs.take I1).filter F = (qs.take i).filter F := by rw [HI.out.1, HI.out.2.2.2.1, List.filter_append]; simp [← HI.out.2.2.2.2.2]
        have HNX := Lib.hid hnx
        clear hnx
        go_wp2_with fail
        go_roundw
        case rel => exact ⟨I1, by have := HI.out; omega, rfl, by rw [HNX.out]; exact HY.out.1, HY.out.2⟩
        case measure => have := HI.out; simp [intOf]; omega
      | true =>
        have hnx : (qs.take I1).filter F = (qs.take i).filter F ++ [q] := by rw [HI.out.1, HI.out.2.2.2.1, List.filter_append]; simp [← HI.out.2.2.2.2.2]
        obtain ⟨W3, hW3⟩ : ∃ W, W = wy.alloc (.cells C 33) := ⟨_, rfl⟩
        have n3 := heap_alloc_new wy (.cells C 33)
        have b3 := below1 wy (.cells C 33)
        rw [← hW3] at n3 b3
        have hr3 : W3.rangeAt wy.heap.size 0 (qC q) := fun j u hj => by
          rw [Nat.zero_add]
          refine cell_row n3 j ?_
          rw [HI.out.2.2.2.2.1, List.getElem?_toArray]
          exact hj
        have hfl : ((qs.take i).filter F).length ≤ 10000 := Nat.le_trans (List.length_filter_le _ _) (by rw [List.length_take]; have := HV.out.2.2.1; have := HV.out.2.2.2.2.1; omega)
        have H3 := Lib.hid (And.intro hnx (And.intro hW3 (And.intro (HY.out.1.below b3) (And.intro hr3 (And.intro (HV.out.1.1.wh q HI.out.2.2.1) (And.intro (HV.out.1.1 q HI.out.2.2.1).2.one (And.intro hfl (And.intro (BC_trans HY.out.2 b3) (BC_trans HY.out.2 b3).size))))))))
        clear hnx hW3 n3 b3 hr3 hfl
        go_wp2_with (first
          | ((with_reducible refine wlw_load_mid (o := ⟨some 24, _, _, _, _, _⟩) ?_ 33 (.tmp 23) ?_ _ _ ?_ C _ HFY.out Try.underlying33 ?_ ?_ ?_); (focus rfl); (focus rfl); (focus rfl); (focus rfl); (focus (rw [HSZ.out.2.2]; kernel_rfl)))
          | ((with_reducible refine wl_build1R (o := ⟨some 25, _, _, _, _, _⟩) ?_ (.tmp 24) ?_ C ?_ HSZ.out.2.2 ?_); (focus rfl); (focus rfl); (focus rfl); rw [← H3.out.2.1])
          | ((with_reducible refine wl_append1R (o := ⟨some 26, _, _, _, _, _⟩) ?_ (.tmp 20) (.tmp 25) ?_ W9.heap.size _ ((qs.take i).filter F) ?_ H3.out.2.2.1 wy.heap.size 0 1 ?_ q H3.out.2.2.2.1 H3.out.2.2.2.2.1 H3.out.2.2.2.2.2.1 ?_ H3.out.2.2.2.2.2.2.2.2 ?_); (focus rfl); (focus rfl); (focus rfl); (focus rfl); (focus (have := H3.out.2.2.2.2.2.2.1; omega)); intro v5 w5 own5 b5))
        have b6 : BC W9 w5 := (show Below W9.heap.size W9 _ from H3.out.2.2.2.2.2.2.2.1).trans b5
        have HO := Lib.hid (And.intro own5 b6)
        clear own5 b5 b6
        go_wp2_with fail
        go_roundw
        case rel => exact ⟨I1, by have := HI.out; omega, rfl, by rw [H3.out.1]; exact HO.out.1, HO.out.2⟩
        case measure => have := HI.out; simp [intOf]; omega
    · have hin : i = n := by have := HR.out.2.2; omega
      have hge : ¬ (i : Int) < (n : Int) := by omega
      have HF := Lib.hid hin
      clear hin hlt
      go_wp2_with fail
      go_ret
      have h := HR.out.1
      rw [HF.out, HV.out.2.2.1, List.take_length] at h
      have hb := BC_trans H9.out.2.1 HR.out.2.1
      exact ⟨_, rfl, h.rd ((HV.out.1.1.to hb).sub fun q hq => (List.mem_filter.1 hq).1), hb⟩
set_option maxHeartbeats 8000000 in
theorem rwholes_any (v : Value) (qs : List (Pt × Value)) (w : World) (hv : RdP w.heap.size w v qs) (hn : qs.length ≤ 10000) :
    Calls Try.prog 40 #[v] w fun e w' => ∃ v', e = .returned v' ∧ RdD w'.heap.size w' v' (wholesF (qs.map (·.1))) ∧ Below w.heap.size w w' := by
  have hvv := hv
  obtain ⟨hg, g, o, sv, rg, _⟩ := hvv
  obtain ⟨a, c, rfl, hc, hm, ha, _⟩ := by unfold SlV at sv; exact sv
  obtain ⟨n, hN⟩ : ∃ n, n = qs.length := ⟨_, rfl⟩
  rw [← hN] at ha hv hn ⊢
  obtain ⟨ps, hps⟩ : ∃ ps, ps = qs.map (·.1) := ⟨_, rfl⟩
  rw [← hps]
  have hpl : ps.length = n := by rw [hps, List.length_map]; exact hN.symm
  have HV := Lib.hid (And.intro hv (And.intro rg (And.intro hN (And.intro ha (And.intro hn (And.intro hps hpl))))))
  clear hv hg sv rg hN ha hc hm hn hps hpl
  go_enter Try.func40, Try.ntmps40
  go_wp2_with fail
  go_loopw [3, 4] (fun v3 v4 wr => ∃ i : Nat, i ≤ n ∧ v4 = .int .i64 (i : Int) ∧ OwnD w.heap.size wr v3 (wholesF (ps.take i)) ∧ Below w.heap.size w wr) (fun _ i _ => n - (intOf i).toNat)
  case atStart => exact ⟨0, Nat.zero_le _, rfl, OwnD.nil _ _, Below.refl _ _⟩
  case round =>
    obtain ⟨i, hi, rfl, hown, hbr⟩ := hrel
    have HR := Lib.hid (And.intro hown (And.intro hbr hi))
    clear hown hbr hi
    by_cases hlt : i < n
    · have i0 : (0 : Int) ≤ (i : Int) := by omega
      have i1 : (i : Int) < (n : Int) := by omega
      obtain ⟨I1, hI1⟩ : ∃ m, m = i + 1 := ⟨_, rfl⟩
      have s1 : IntKind.i64.wrap ((i : Int) + 1) = (I1 : Int) := by rw [IntKind.wrap_i64]; have := HV.out.2.2.2.2.1; omega
      have hiq : i < qs.length := by rw [← HV.out.2.2.1]; exact hlt
      obtain rfl := HV.out.2.2.2.1 (by omega)
      have hrg := range_get HV.out.2.1 HV.out.1.1.wh hiq
      have hqm := List.getElem_mem hiq
      have hip : i < ps.length := by rw [HV.out.2.2.2.2.2.2]; exact hlt
      have hpe : ps[i]'hip = (qs[i]'hiq).1 := by simp [HV.out.2.2.2.2.2.1]
      have hwt := wholesF_take hip
      obtain ⟨q, hq⟩ : ∃ q, q = qs[i]'hiq := ⟨_, rfl⟩
      rw [← hq] at hrg hqm hpe
      rw [hpe] at hwt
      have hq32 := HV.out.1.1.wh q hqm
      obtain ⟨RI, hRI⟩ : ∃ R, R = row .u8 q.1.wh := ⟨_, rfl⟩
      have hIz : RI.size = 32 := by rw [hRI, row_size, hq32]
      have HB : Hid (∀ x : HW (BC wr), Below w.heap.size w x.w) := Lib.hid fun x => BC_below HR.out.2.1 HR.out.2.1.size x.h
      have HRI : Hid (∀ x : HW (BC wr), x.w.rangeAt g (o + i * 35) RI.toList) := Lib.hid fun x => rg_prefix (fun j u hj => later (HB.out x) (hrg j u hj)) hq32 hRI
      obtain ⟨w0, hw0⟩ : ∃ W, W = wr := ⟨_, rfl⟩
      have HI := Lib.hid (And.intro hI1 (And.intro hlt (And.intro hqm (And.intro hwt (And.intro hRI (And.intro hIz (And.intro hq32 hw0)))))))
      clear hI1 hlt hqm hwt hRI hIz hq hq32 hrg hw0 hpe hip
      rw [← HI.out.2.2.2.2.2.2.2] at HB HRI HR
      go_wp2_with fail
      go_loopw [5, 6] (fun v5 v6 wr => ∃ k : Nat, k ≤ i ∧ v6 = .int .i64 (k : Int) ∧ v5 = .bool (!(qs.take k).any (fun r => decide (r.1.wh = q.1.wh))) ∧ BC w0 wr) (fun _ k _ => i - (intOf k).toNat)
      case atStart => exact ⟨0, Nat.zero_le _, rfl, rfl, by rw [HI.out.2.2.2.2.2.2.2]; exact BC_refl _⟩
      case round =>
        obtain ⟨k, hk, rfl, rfl, hbk⟩ := hrel
        obtain ⟨f, hf⟩ : ∃ f, f = (!(qs.take k).any (fun r => decide (r.1.wh = q.1.wh))) := ⟨_, rfl⟩
        rw [← hf]
        have HK := Lib.hid (And.intro hk (And.intro hbk hf))
        clear hk hbk hf
        by_cases hki : k < i
        · have k0 : (0 : Int) ≤ (k : Int) := by omega
          have k1 : (k : Int) < (i : Int) := by omega
          have k2 : (k : Int) < (n : Int) := by omega
          obtain ⟨K1, hK1⟩ : ∃ m, m = k + 1 := ⟨_, rfl⟩
          have s2 : IntKind.i64.wrap ((k : Int) + 1) = (K1 : Int) := by rw [IntKind.wrap_i64]; have := HV.out.2.2.2.2.1; omega
          have hkq : k < qs.length := by omega
          have hrk := range_get HV.out.2.1 HV.out.1.1.wh hkq
          have hrm := List.getElem_mem hkq
          have htk : qs.take (k + 1) = qs.take k ++ [qs[k]] := List.take_succ_eq_append_getElem hkq
          obtain ⟨r, hr⟩ : ∃ r, r = qs[k]'hkq := ⟨_, rfl⟩
          rw [← hr] at hrk hrm htk
          have hr32 := HV.out.1.1.wh r hrm
          obtain ⟨RK, hRK⟩ : ∃ R, R = row .u8 r.1.wh := ⟨_, rfl⟩
          have hKz : RK.size = 32 := by rw [hRK, row_size, hr32]
          obtain ⟨z, hz⟩ : ∃ z, z = !decide (r.1.wh = q.1.wh) := ⟨_, rfl⟩
          have hneq : ∀ w, (binOp .neq 23 (.agg RK) (.agg RI)).run Try.prog w = .ok (.bool z) w := fun w => by
            have h := run_neq_row w 23 5 32 .u8 Try.underlying23 Try.underlying5 (by kernel_rfl) r.1.wh q.1.wh hr32 HI.out.2.2.2.2.2.2.1
            rw [← hRK, ← HI.out.2.2.2.2.1, ← hz] at h
            exact h
          have HXI : Hid (∀ x : HW (BC wr), x.w.rangeAt g (o + i * 35) RI.toList) := Lib.hid fun x => HRI.out ⟨x.w, BC_trans HK.out.2.1 x.h⟩
          have HXK : Hid (∀ x : HW (BC wr), x.w.rangeAt g (o + k * 35) RK.toList) := Lib.hid fun x => rg_prefix (fun j u hj => later (HB.out ⟨x.w, BC_trans HK.out.2.1 x.h⟩) (hrk j u hj)) hr32 hRK
          have HSZ := Lib.hid (And.intro hKz HI.out.2.2.2.2.2.1)
          have HKK := Lib.hid (And.intro hK1 (And.intro hki (And.intro htk hz)))
          clear hK1 hki htk hz hRK hKz hr32 hr hrm hrk hkq
          cases f with
          | false =>
            have hnx : (!(qs.take K1).any (fun r => decide (r.1.wh = q.1.wh))) = false := by
              have h := HK.out.2.2
              rw [HKK.out.1, HKK.out.2.2.1, List.any_append]
              simp only [Bool.not_or]
              rw [← h]
              rfl
            have HNX := Lib.hid hnx
            clear hnx
            go_upto_region 9 with fail
            have hS := BC_all (w := wr)
            haveI := BC_inst wr
            refine wp_region_head (BC wr) 15 (by kernel_rfl) (by kernel_rfl) (BC_start _) ?_
            simp only [List.take_succ_cons, List.take_zero, List.drop_succ_cons, List.drop_zero]
            repeat (refine headG_step (fun K hK => ?_)
                    go_simp
                    (refine hK _ ?_; clear hK K))
            refine headG_nil ?_
            intro wy hby
            have HY := Lib.hid (BC_trans HK.out.2.1 hby)
            clear hS hby hneq
            go_wp2_with fail
            go_roundw
            case rel => exact ⟨K1, by have := HKK.out; omega, rfl, by rw [HNX.out], HY.out⟩
            case measure => have := HKK.out; simp [intOf]; omega
          | true =>
            have hnx : (!(qs.take K1).any (fun r => decide (r.1.wh = q.1.wh))) = z := by
              have h := HK.out.2.2
              rw [HKK.out.1, HKK.out.2.2.1, List.any_append, HKK.out.2.2.2]
              simp only [Bool.not_or]
              rw [← h]
              simp
            have HNX := Lib.hid hnx
            clear hnx
            go_upto_region 9 with fail
            have hS := BC_all (w := wr)
            haveI := BC_inst wr
            refine wp_region_head (BC wr) 15 (by kernel_rfl) (by kernel_rfl) (BC_start _) ?_
            simp only [List.take_succ_cons, List.take_zero, List.drop_succ_cons, List.drop_zero]
            repeat (first
              | ((with_reducible refine headG_load_mid (o := ⟨some 24, _, _, _, _, _⟩) 23 (.tmp 23) ?_ ?_ _ _ ?_ RK _ HXK.out Try.underlying23 ?_ ?_ ?_); (focus rfl); (focus rfl); (focus rfl); (focus rfl); (focus (rw [HSZ.out.1]; kernel_rfl)))
              | ((with_reducible refine headG_load_mid (o := ⟨some 29, _, _, _, _, _⟩) 23 (.tmp 28) ?_ ?_ _ _ ?_ RI _ HXI.out Try.underlying23 ?_ ?_ ?_); (focus rfl); (focus rfl); (focus rfl); (focus rfl); (focus (rw [HSZ.out.2]; kernel_rfl)))
              | (refine headG_step (fun K hK => ?_)
                 go_simp
                 (refine hK _ ?_; clear hK K)))
            refine headG_nil ?_
            intro wy hby
            have HY := Lib.hid (BC_trans HK.out.2.1 hby)
            clear hS hby hneq
            go_wp2_with fail
            go_roundw
            case rel => exact ⟨K1, by have := HKK.out; omega, rfl, by rw [HNX.out], HY.out⟩
            case measure => have := HKK.out; simp [intOf]; omega
        · have hkk : k = i := by have := HK.out.1; omega
          have hge2 : ¬ (k : Int) < (i : Int) := by omega
          have hmem : q.1.wh ∈ wholesF (ps.take i) ↔ (qs.take i).any (fun r => decide (r.1.wh = q.1.wh)) = true := by
            rw [(wholesF_inv _ (ps.take i) rfl).2.2, List.any_eq_true, HV.out.2.2.2.2.2.1]
            constructor
            · rintro ⟨p, hp, e⟩
              rw [← List.map_take] at hp
              obtain ⟨r, hr, rfl⟩ := List.mem_map.1 hp
              exact ⟨r, hr, decide_eq_true e⟩
            · rintro ⟨r, hr, e⟩
              refine ⟨r.1, ?_, of_decide_eq_true e⟩
              rw [← List.map_take]
              exact List.mem_map_of_mem hr
          have hff : f = true ↔ ¬ q.1.wh ∈ wholesF (ps.take i) := by
            rw [hmem, HK.out.2.2, hkk]
            cases (qs.take i).any (fun r => decide (r.1.wh = q.1.wh)) <;> simp
          have HFF := Lib.hid hff
          clear hkk hmem hff hki
          have howr := HR.out.1.below HK.out.2.1
          have hbw := BC_below HR.out.2.1 HR.out.2.1.size HK.out.2.1
          have HY := Lib.hid (And.intro howr hbw)
          clear howr hbw
          cases f with
          | false =>
            have hnx : wholesF (ps.take I1) = wholesF (ps.take i) := by
              rw [HI.out.1, HI.out.2.2.2.1, if_pos]
              rcases Classical.em (q.1.wh ∈ wholesF (ps.take i)) with h | h
              · exact h
              · exact absurd (HFF.out.2 h) (by simp)
            have HNX := Lib.hid hnx
            clear hnx
            go_wp2_with fail
            go_roundw
            case rel => exact ⟨I1, by have := HI.out; omega, rfl, by rw [HNX.out]; exact HY.out.1, HY.out.2⟩
            case measure => have := HI.out; simp [intOf]; omega
          | true =>
            have hnx : wholesF (ps.take I1) = wholesF (ps.take i) ++ [q.1.wh] := by rw [HI.out.1, HI.out.2.2.2.1, if_neg (HFF.out.1 rfl)]
            obtain ⟨W3, hW3⟩ : ∃ W, W = wr.alloc (.cells RI 23) := ⟨_, rfl⟩
            have n3 := heap_alloc_new wr (.cells RI 23)
            have b3 := below1 wr (.cells RI 23)
            rw [← hW3] at n3 b3
            have hr3 : W3.rangeAt wr.heap.size 0 (dC q.1.wh) := fun j u hj => by
              rw [Nat.zero_add]
              refine cell_row n3 j ?_
              rw [HI.out.2.2.2.2.1, ← Array.getElem?_toList, row_list]
              exact hj
            have hll : (wholesF (ps.take i)).length ≤ 10000 := Nat.le_trans (wholesF_inv _ (ps.take i) rfl).1 (by rw [List.length_take]; have := HV.out.2.2.2.2; omega)
            have hXR : wr.rangeAt g (o + i * 35) RI.toList := HRI.out ⟨wr, HK.out.2.1⟩
            have hbW := BC_below HY.out.2 HY.out.2.size b3
            have H3 := Lib.hid (And.intro hnx (And.intro hW3 (And.intro (HY.out.1.below b3) (And.intro hr3 (And.intro hll (And.intro hXR (And.intro hbW hbW.size)))))))
            clear hnx hW3 n3 b3 hr3 hll hXR hbW
            go_wp2_with (first
              | ((with_reducible refine wlw_load_mid (o := ⟨some 38, _, _, _, _, _⟩) ?_ 23 (.tmp 37) ?_ _ _ ?_ RI _ H3.out.2.2.2.2.2.1 Try.underlying23 ?_ ?_ ?_); (focus rfl); (focus rfl); (focus rfl); (focus rfl); (focus (rw [HI.out.2.2.2.2.2.1]; kernel_rfl)))
              | ((with_reducible refine wl_build1D (o := ⟨some 39, _, _, _, _, _⟩) ?_ (.tmp 38) ?_ RI ?_ HI.out.2.2.2.2.2.1 ?_); (focus rfl); (focus rfl); (focus rfl); rw [← H3.out.2.1])
              | ((with_reducible refine wl_append1D (o := ⟨some 40, _, _, _, _, _⟩) ?_ (.tmp 33) (.tmp 39) ?_ w.heap.size _ (wholesF (ps.take i)) ?_ H3.out.2.2.1 wr.heap.size 0 1 ?_ q.1.wh H3.out.2.2.2.1 HI.out.2.2.2.2.2.2.1 ?_ H3.out.2.2.2.2.2.2.2 ?_); (focus rfl); (focus rfl); (focus rfl); (focus rfl); (focus (have := H3.out.2.2.2.2.1; omega)); intro v5 w5 own5 b5))
            have b6 : Below w.heap.size w w5 := (show Below w.heap.size w _ from H3.out.2.2.2.2.2.2.1).trans b5
            have HO := Lib.hid (And.intro own5 b6)
            clear own5 b5 b6
            go_wp2_with fail
            go_roundw
            case rel => exact ⟨I1, by have := HI.out; omega, rfl, by rw [H3.out.1]; exact HO.out.1, HO.out.2⟩
            case measure => have := HI.out; simp [intOf]; omega
    · have hin : i = n := by have := HR.out.2.2; omega
      have hge : ¬ (i : Int) < (n : Int) := by omega
      have HF := Lib.hid hin
      clear hin hlt
      go_wp2_with fail
      go_ret
      have h := HR.out.1
      rw [HF.out, ← HV.out.2.2.2.2.2.2, List.take_length] at h
      refine ⟨_, rfl, h.rd fun d hd => ?_, HR.out.2.1⟩
      obtain ⟨p, hp, rfl⟩ := ((wholesF_inv _ ps rfl).2.2 d).1 hd
      rw [HV.out.2.2.2.2.2.1] at hp
      obtain ⟨q, hq, rfl⟩ := List.mem_map.1 hp
      exact HV.out.1.1.wh q hq
end
set_option maxRecDepth 100000
open Go.ChangeShapes Go.WideShapes Go.ChangeAt Go.RowKit
attribute [local irreducible] SlV Lies headG slotG
attribute [local go_sem] takes takesE comesTo comesToP
set_option maxHeartbeats 8000000 in
theorem rwhole_any (v : Value) (qs : List (Pt × Value)) (wh : List Int) (w : World) (hv : RdP w.heap.size w v qs) (hm : qs.length ≤ 1000000) (hd : ∀ q ∈ qs, q.1.da.length ≤ 1000000) (hz1 : ∀ q ∈ qs, q.1.sz ≤ 1000000) (hw : wh.length = 32) :
    Calls Try.prog 38 #[v, .agg (row .u8 wh)] w fun e w' => ∃ v', e = .returned (.tuple #[v', .bool (wholeF (qs.map (·.1)) wh).isSome]) ∧ Own w.heap.size w' v' ((wholeF (qs.map (·.1)) wh).getD []) ∧ Below w.heap.size w w' := by
  obtain ⟨RW, hRW⟩ : ∃ R, R = row .u8 wh := ⟨_, rfl⟩
  have hsz : RW.size = 32 := by rw [hRW, row_size, hw]
  rw [← hRW]
  obtain ⟨W0, hW0⟩ : ∃ W, W = w.alloc (.cells RW 23) := ⟨_, rfl⟩
  obtain ⟨B, hB⟩ : ∃ g, g = w.heap.size := ⟨_, rfl⟩
  have n9 := heap_alloc_new w (.cells RW 23)
  have b9 := below1 w (.cells RW 23)
  rw [← hW0, ← hB] at n9
  rw [← hW0] at b9
  have H0 := Lib.hid (And.intro n9 (And.intro b9 (And.intro hW0 (And.intro hB (And.intro hsz (And.intro hRW hw))))))
  have hvv := hv
  obtain ⟨hg, g, o, sv, rg, _⟩ := hvv
  obtain ⟨a, c, rfl, hc, hmx, ha, _⟩ := by unfold SlV at sv; exact sv
  obtain ⟨m, hM⟩ : ∃ n, n = qs.length := ⟨_, rfl⟩
  rw [← hM] at ha hv hm ⊢
  obtain ⟨ps, hps⟩ : ∃ ps, ps = qs.map (·.1) := ⟨_, rfl⟩
  have hpl : ps.length = m := by rw [hps, List.length_map]; exact hM.symm
  have hpb : ∀ p ∈ ps, Bytes p.da := fun p hp => by
    rw [hps] at hp
    obtain ⟨q, hq, rfl⟩ := List.mem_map.1 hp
    exact (hv.1 q hq).1.2.2.1
  obtain ⟨Wf, hWf⟩ : ∃ L, L = wholeF ps wh := ⟨_, rfl⟩
  obtain ⟨fP, hfP⟩ : ∃ f : Pt → Bool, f = (fun p => decide (p.wh = wh) && (mayS p.sz && goodW ps wh p.sz.toNat)) := ⟨_, rfl⟩
  rw [← hps, ← hWf]
  have HP := Lib.hid (And.intro hps (And.intro hpl (And.intro hpb (And.intro hWf hfP))))
  have HV := Lib.hid (And.intro hv (And.intro rg (And.intro hM (And.intro ha (And.intro hm (And.intro hd hz1))))))
  clear hv hg sv rg hM ha hc hmx hm n9 b9 hW0 hB hsz hRW hw hps hpl hpb hWf hfP hd hz1
  go_enter Try.func38, Try.ntmps38
  go_upto_region 1 with fail
  rw [← H0.out.2.2.1, ← H0.out.2.2.2.1]
  go_wp2_with fail
  go_loopw [6] (fun v6 wr => ∃ i : Nat, i ≤ m ∧ v6 = .int .i64 (i : Int) ∧ (∀ j p, j < i → ps[j]? = some p → fP p = false) ∧ wr.heap[B]? = some (.cells RW 23 (0, 0)) ∧ BC w wr) (fun i _ => m - (intOf i).toNat)
  case atStart => exact ⟨0, Nat.zero_le _, rfl, fun j p h => by omega, H0.out.1, H0.out.2.1⟩
  case round =>
    obtain ⟨i, hi, rfl, hbad, hrB, hbr⟩ := hrel
    have HR := Lib.hid (And.intro hbad (And.intro hrB hbr))
    clear hbad hrB hbr
    by_cases hlt : i < m
    · have i0 : (0 : Int) ≤ (i : Int) := by omega
      have i1 : (i : Int) < (m : Int) := by omega
      obtain ⟨I1, hI1⟩ : ∃ m, m = i + 1 := ⟨_, rfl⟩
      have s1 : IntKind.i64.wrap ((i : Int) + 1) = (I1 : Int) := by rw [IntKind.wrap_i64]; have := HV.out.2.2.2.2.1; omega
      have hiq : i < qs.length := by rw [← HV.out.2.2.1]; exact hlt
      obtain rfl := HV.out.2.2.2.1 (by omega)
      have hrg := range_get HV.out.2.1 HV.out.1.1.wh hiq
      have hqm := List.getElem_mem hiq
      obtain ⟨q, hq⟩ : ∃ q, q = qs[i]'hiq := ⟨_, rfl⟩
      rw [← hq] at hrg hqm
      have hpi : ps[i]? = some q.1 := by rw [HP.out.1, List.getElem?_map, List.getElem?_eq_getElem hiq, hq]; rfl
      have hq32 := HV.out.1.1.wh q hqm
      have hqs := HV.out.2.2.2.2.2.2 q hqm
      obtain ⟨RP, hRP⟩ : ∃ R, R = row .u8 q.1.wh := ⟨_, rfl⟩
      have hPz : RP.size = 32 := by rw [hRP, row_size, hq32]
      have k32 : (qC q)[32]? = some (.int .i64 q.1.sz) := by have h := pcells_size hq32 q.1.sz q.1.at' q.2; rw [List.getElem?_toArray] at h; exact h
      obtain ⟨sz, hsz⟩ : ∃ s, s = q.1.sz := ⟨_, rfl⟩
      rw [← hsz] at k32 hqs
      have c32 : ∀ x : HW (BC wr), x.w.cell? ⟨g, o + i * 35 + 32, none⟩ = some (.int .i64 sz) := fun x => later (BC_trans HR.out.2.2 x.h) (hrg 32 _ k32)
      obtain ⟨y, hy⟩ : ∃ y, y = decide (q.1.wh = wh) := ⟨_, rfl⟩
      have hneq : ∀ w, (binOp .neq 23 (.agg RP) (.agg RW)).run Try.prog w = .ok (.bool (!y)) w := fun w => by
        have h := run_neq_row w 23 5 32 .u8 Try.underlying23 Try.underlying5 (by kernel_rfl) q.1.wh wh hq32 H0.out.2.2.2.2.2.2
        rw [← hRP, ← H0.out.2.2.2.2.2.1, ← hy] at h
        exact h
      have hfp : fP q.1 = (y && (mayS sz && goodW ps wh sz.toNat)) := by rw [HP.out.2.2.2.2, hy, hsz]
      have HFR : Hid (∀ x : HW (BC wr), x.w.heap[B]? = some (.cells RW 23 (0, 0))) := Lib.hid (BC_blk HR.out.2.1)
      have HFM : Hid (∀ x : HW (BC wr), x.w.rangeAt g (o + i * 35) RP.toList) := Lib.hid fun x => rg_prefix (fun j u hj => later (BC_trans HR.out.2.2 x.h) (hrg j u hj)) hq32 hRP
      have HSZ := Lib.hid (And.intro hPz H0.out.2.2.2.2.1)
      have HI := Lib.hid (And.intro hI1 (And.intro hlt (And.intro hpi (And.intro hfp (And.intro hy (And.intro hsz hqs))))))
      clear hI1 hlt hpi hfp hy hsz hqs hqm hrg hq hq32 hRP hPz k32
      cases y with
      | false =>
        have hnx : fP q.1 = false := by rw [HI.out.2.2.2.1]; rfl
        have HNX := Lib.hid hnx
        clear hnx
        go_upto_region 4 with fail
        have hS := BC_all (w := wr)
        haveI := BC_inst wr
        refine wp_region_head (BC wr) 23 (by kernel_rfl) (by kernel_rfl) (BC_start _) ?_
        simp only [List.take_succ_cons, List.take_zero, List.drop_succ_cons, List.drop_zero]
        repeat (first
          | ((with_reducible refine headG_load_mid (o := ⟨some 19, _, _, _, _, _⟩) 23 (.tmp 18) ?_ ?_ _ _ ?_ RP _ HFM.out Try.underlying23 ?_ ?_ ?_); (focus rfl); (focus rfl); (focus rfl); (focus rfl); (focus (rw [HSZ.out.1]; kernel_rfl)))
          | ((with_reducible refine headG_load_row (o := ⟨some 20, _, _, _, _, _⟩) 23 (.tmp 3) ?_ ?_ _ ?_ _ RW _ _ HFR.out Try.underlying23 ?_ ?_ ?_); (focus rfl); (focus rfl); (focus rfl); (focus rfl); (focus (rw [HSZ.out.2]; kernel_rfl)))
          | (refine headG_step (fun K hK => ?_)
             go_simp
             (refine hK _ ?_; clear hK K)))
        refine headG_nil ?_
        intro wy hby

        have HY := Lib.hid (And.intro (BC_blk1 hby HR.out.2.1) (BC_trans HR.out.2.2 hby))
        clear hS hby hneq c32
        go_wp2_with fail
        go_roundw
        case rel => exact ⟨I1, by have := HI.out; omega, rfl, fun j p' hj hp' => by
          by_cases h : j = i
          · rw [h, HI.out.2.2.1] at hp'
            injection hp' with hp'
            rw [← hp']; exact HNX.out
          · exact HR.out.1 j p' (by have := HI.out; omega) hp', HY.out.1, HY.out.2⟩
        case measure => have := HI.out; simp [intOf]; omega
      | true =>
        rcases Int.lt_or_le sz 1 with z1 | z1
        · have hnx : fP q.1 = false := by rw [HI.out.2.2.2.1]; unfold mayS; rw [decide_eq_false (by omega)]; rfl
          have HNX := Lib.hid hnx
          clear hnx
          go_upto_region 4 with fail
          have hS := BC_all (w := wr)
          haveI := BC_inst wr
          refine wp_region_head (BC wr) 23 (by kernel_rfl) (by kernel_rfl) (BC_start _) ?_
          simp only [List.take_succ_cons, List.take_zero, List.drop_succ_cons, List.drop_zero]
          repeat (first
            | ((with_reducible refine headG_load_mid (o := ⟨some 19, _, _, _, _, _⟩) 23 (.tmp 18) ?_ ?_ _ _ ?_ RP _ HFM.out Try.underlying23 ?_ ?_ ?_); (focus rfl); (focus rfl); (focus rfl); (focus rfl); (focus (rw [HSZ.out.1]; kernel_rfl)))
            | ((with_reducible refine headG_load_row (o := ⟨some 20, _, _, _, _, _⟩) 23 (.tmp 3) ?_ ?_ _ ?_ _ RW _ _ HFR.out Try.underlying23 ?_ ?_ ?_); (focus rfl); (focus rfl); (focus rfl); (focus rfl); (focus (rw [HSZ.out.2]; kernel_rfl)))
            | (refine headG_step (fun K hK => ?_)
               go_simp
               (refine hK _ ?_; clear hK K)))
          refine headG_nil ?_
          intro wy hby

          have HY := Lib.hid (And.intro (BC_blk1 hby HR.out.2.1) (BC_trans HR.out.2.2 hby))
          clear hS hby hneq c32
          go_wp2_with fail
          go_roundw
          case rel => exact ⟨I1, by have := HI.out; omega, rfl, fun j p' hj hp' => by
            by_cases h : j = i
            · rw [h, HI.out.2.2.1] at hp'
              injection hp' with hp'
              rw [← hp']; exact HNX.out
            · exact HR.out.1 j p' (by have := HI.out; omega) hp', HY.out.1, HY.out.2⟩
          case measure => have := HI.out; simp [intOf]; omega
        · obtain ⟨n, hn⟩ : ∃ n : Nat, sz = (n : Int) := ⟨sz.toNat, by omega⟩
          subst hn
          have z2 : ¬ (n : Int) < 1 := by omega
          have z3 : ¬ (4194304 : Int) < (n : Int) := by have := HI.out.2.2.2.2.2.2; omega
          have hn1 : 1 ≤ n ∧ n ≤ 1000000 := by have := HI.out.2.2.2.2.2.2; omega
          have hmy : mayS (n : Int) = true := by unfold mayS; exact decide_eq_true (by omega)
          have HN := Lib.hid (And.intro hn1 hmy)
          clear hn1 hmy z1
          go_upto_region 4 with fail
          have hS := BC_all (w := wr)
          haveI := BC_inst wr
          refine wp_region_head (BC wr) 23 (by kernel_rfl) (by kernel_rfl) (BC_start _) ?_
          simp only [List.take_succ_cons, List.take_zero, List.drop_succ_cons, List.drop_zero]
          repeat (first
            | ((with_reducible refine headG_load_mid (o := ⟨some 19, _, _, _, _, _⟩) 23 (.tmp 18) ?_ ?_ _ _ ?_ RP _ HFM.out Try.underlying23 ?_ ?_ ?_); (focus rfl); (focus rfl); (focus rfl); (focus rfl); (focus (rw [HSZ.out.1]; kernel_rfl)))
            | ((with_reducible refine headG_load_row (o := ⟨some 20, _, _, _, _, _⟩) 23 (.tmp 3) ?_ ?_ _ ?_ _ RW _ _ HFR.out Try.underlying23 ?_ ?_ ?_); (focus rfl); (focus rfl); (focus rfl); (focus rfl); (focus (rw [HSZ.out.2]; kernel_rfl)))
            | (refine headG_step (fun K hK => ?_)
               go_simp
               (refine hK _ ?_; clear hK K)))
          refine headG_nil ?_
          intro wy hby
          have H3 := Lib.hid (And.intro (BC_blk1 hby HR.out.2.1) (BC_trans HR.out.2.2 hby))
          have c32' : ∀ x : HW (BC wy), x.w.cell? ⟨g, o + i * 35 + 32, none⟩ = some (.int .i64 (n : Int)) := fun x => c32 ⟨x.w, BC_trans hby x.h⟩
          obtain ⟨L, hL⟩ : ∃ L, L = lackF (laidF ps wh n) := ⟨_, rfl⟩
          obtain ⟨O, hO⟩ : ∃ O, O = outL (laidF ps wh n) := ⟨_, rfl⟩
          have hOb : Bytes O := by rw [hO]; exact laidF_bytes HP.out.2.2.1 wh n
          have hOl : O.length = n := by rw [hO]; exact laidF_len ps wh n
          have HLA : Hid (∀ x : HW (BC wy), Calls Try.prog 67 #[.slice (some ⟨g, o, none⟩) m c, .agg RW, .int .i64 (n : Int)] x.w fun e w' => ∃ v', e = .returned (.tuple #[v', .int .i64 (L : Int)]) ∧ Own x.w.heap.size w' v' O ∧ Below x.w.heap.size x.w w') := Lib.hid fun x => by
            have h := rlaid_any (.slice (some ⟨g, o, none⟩) m c) qs wh n x.w (HV.out.1.to (BC_trans H3.out.2 x.h)) (by rw [← HV.out.2.2.1]; exact HV.out.2.2.2.2.1) HV.out.2.2.2.2.2.1 H0.out.2.2.2.2.2.2 HN.out.1.1 HN.out.1.2
            rw [← HP.out.1, ← H0.out.2.2.2.2.2.1, ← hL, ← hO] at h
            exact h
          have HLO := Lib.hid (And.intro hL (And.intro hO (And.intro hOb hOl)))
          have HFY : Hid (∀ x : HW (BC wy), x.w.heap[B]? = some (.cells RW 23 (0, 0))) := Lib.hid (BC_blk H3.out.1)
          clear hS hby hneq c32 hL hO hOb hOl z2 z3
          go_upto_region 5 with fail
          obtain ⟨b0, hb0⟩ : ∃ b, b = wy.heap.size := ⟨_, rfl⟩
          have HB0 := Lib.hid hb0
          refine wp_region_slots (by kernel_rfl) (by kernel_rfl) (by kernel_rfl) [none, none, none, none, none, none, none,
            some (fun v w => ∃ v', v = .tuple #[v', .int .i64 (L : Int)] ∧ Own b0 w v' O), some (fun v w => ∃ v', v = .tuple #[v', .int .i64 (L : Int)] ∧ Own b0 w v' O), some (fun v w => Own b0 w v O), none, some (fun v w => Own b0 w v O), none] ?_
          clear hb0
          have hS := BC_all (w := wy)
          haveI := BC_inst wy
          repeat (first
            | ((with_reducible refine slotG_row (o := ⟨some 40, _, _, _, _, _⟩) 23 (.tmp 3) ?_ ?_ _ ?_ _ RW _ _ HFY.out Try.underlying23 ?_ ?_ ?_); (focus rfl); (focus (exact fun _ => rfl)); (focus (exact fun _ => rfl)); (focus rfl); (focus (rw [HSZ.out.2]; kernel_rfl)); apply Exists.intro; refine ⟨fun u => ?_, ?_⟩; (focus (go_simp; try exact rfl)))
            | (refine slotG_oneN (fun K hK => ?_)
               apply Exists.intro
               refine ⟨fun x u hF => ?_, ?_⟩
               (focus (go_simp
                       first
                         | (exact rfl)
                         | (exact ⟨rfl, BC_refl _⟩)))
               apply Exists.intro
               refine ⟨fun u => ?_, ?_⟩
               (focus (go_simp; try exact rfl))
               refine hK _ ?_
               clear hK K))
          refine slotG_someN (i := 7) (fun v w w' hb ⟨v', h1, h2⟩ => ⟨v', h1, h2.below hb⟩) (fun K hK => ?_)
          refine ⟨fun x u hF => ?_, ?_⟩
          focus
            go_simp
            go_at_call 67
            refine (HLA.out x).mono ?_
            rintro e w' ⟨v', rfl, h1, h2⟩
            exact ⟨_, rfl, ⟨v', rfl, h1.mono (by rw [HB0.out]; exact x.h.size)⟩, h2⟩
          apply Exists.intro
          refine ⟨fun u => ?_, ?_⟩
          (focus (go_simp; try exact rfl))
          refine hK _ ?_
          clear hK K
          refine slotG_someN (i := 8) (fun v w w' hb ⟨v', h1, h2⟩ => ⟨v', h1, h2.below hb⟩) (fun K hK => ?_)
          refine ⟨fun x u hF => ?_, ?_⟩
          focus
            have hf := Lib.hid (hF.1 (by kernel_rfl))
            go_simp
            exact ⟨hf.out, BC_refl _⟩
          apply Exists.intro
          refine ⟨fun u => ?_, ?_⟩
          (focus (go_simp; try exact rfl))
          refine hK _ ?_
          clear hK K
          refine slotG_someN (i := 9) (fun v w w' hb h2 => h2.below hb) (fun K hK => ?_)
          refine ⟨fun x u hF => ?_, ?_⟩
          focus
            have HF := Lib.hid (hF.1 (by kernel_rfl))
            clear hF
            go_simp
            have HG := HF.out
            obtain ⟨v', hv', hf⟩ := HG
            have HF := Lib.hid hf
            clear hf
            go_simp
            exact ⟨HF.out, BC_refl _⟩
          apply Exists.intro
          refine ⟨fun u => ?_, ?_⟩
          (focus (go_simp; try exact rfl))
          refine hK _ ?_
          clear hK K
          refine slotG_oneN (fun K hK => ?_)
          apply Exists.intro
          refine ⟨fun x u hF => ?_, ?_⟩
          focus
            have HF := Lib.hid (hF.2.1 (by kernel_rfl))
            clear hF
            go_simp
            have HG := HF.out
            obtain ⟨v', hv', _⟩ := HG
            go_simp
            exact ⟨rfl, BC_refl _⟩
          apply Exists.intro
          refine ⟨fun u => ?_, ?_⟩
          (focus (go_simp; try exact rfl))
          refine hK _ ?_
          clear hK K
          refine slotG_someN (i := 11) (fun v w w' hb h2 => h2.below hb) (fun K hK => ?_)
          refine ⟨fun x u hF => ?_, ?_⟩
          focus
            have hf := Lib.hid (hF.1 (by kernel_rfl))
            go_simp
            exact ⟨hf.out, BC_refl _⟩
          apply Exists.intro
          refine ⟨fun u => ?_, ?_⟩
          (focus (go_simp; try exact rfl))
          refine hK _ ?_
          clear hK K
          (refine slotG_oneN (fun K hK => ?_)
           apply Exists.intro
           refine ⟨fun x u hF => ?_, ?_⟩
           (focus (go_simp
                   first
                     | (exact rfl)
                     | (exact ⟨rfl, BC_refl _⟩)))
           apply Exists.intro
           refine ⟨fun u => ?_, ?_⟩
           (focus (go_simp; try exact rfl))
           refine hK _ ?_
           clear hK K)
          refine slotG_end ?_
          intro w5 u hb5 hF5
          have own5 : Own b0 w5 (u 11) O := hF5.1
          clear hF5
          generalize u 7 = u7
          generalize u 8 = u8
          generalize u 9 = u9
          generalize u 11 = v5 at own5 ⊢
          clear u
          have H5 := Lib.hid (And.intro (BC_blk1 hb5 H3.out.1) (And.intro (BC_trans H3.out.2 hb5) (own5.mono (by rw [HB0.out]; exact H3.out.2.size : w.heap.size ≤ b0))))
          obtain ⟨g5, sl5, li5, _⟩ := own5.slv
          have HSM : Hid (∀ x : HW (BC w5), Calls Try.prog 27 #[v5] x.w fun e w' => e = .returned (.agg (row .u8 (sumF O))) ∧ Below x.w.heap.size x.w w') := Lib.hid fun x => r3sum_any O HLO.out.2.2.1 (by have := HLO.out.2.2.2; have := HN.out; omega) g5 0 v5 sl5 x.w (li5.below' x.h)
          obtain ⟨z, hz2⟩ : ∃ z, z = decide (sumF O = wh) := ⟨_, rfl⟩
          have heq : ∀ w, (binOp .eql 23 (.agg (row .u8 (sumF O))) (.agg RW)).run Try.prog w = .ok (.bool z) w := fun w => by
            have h := run_eql_row w 23 5 32 .u8 Try.underlying23 Try.underlying5 (by kernel_rfl) (sumF O) wh (sumF_len O) H0.out.2.2.2.2.2.2
            rw [← H0.out.2.2.2.2.2.1, ← hz2] at h
            exact h
          have HZQ := Lib.hid hz2
          have HF6 : Hid (∀ x : HW (BC w5), x.w.heap[B]? = some (.cells RW 23 (0, 0))) := Lib.hid (BC_blk H5.out.1)
          clear own5 sl5 li5 c32' hz2 hb5 hS
          generalize row .u8 (sumF O) = RO at *
          go_upto_region 6 with fail
          have hS := BC_all (w := w5)
          haveI := BC_inst w5
          rcases Nat.eq_zero_or_pos L with hL0 | hL0
          · subst hL0
            refine wp_region_head (BC w5) 8 (by kernel_rfl) (by kernel_rfl) (BC_start _) ?_
            simp only [List.take_succ_cons, List.take_zero, List.drop_succ_cons, List.drop_zero]
            repeat (first
              | ((with_reducible refine headG_load_row (o := ⟨some 54, _, _, _, _, _⟩) 23 (.tmp 3) ?_ ?_ _ ?_ _ RW _ _ HF6.out Try.underlying23 ?_ ?_ ?_); (focus rfl); (focus rfl); (focus rfl); (focus rfl); (focus (rw [HSZ.out.2]; kernel_rfl)))
              | (refine headG_step (fun K hK => ?_)
                 go_simp
                 first
                   | (refine hK _ ?_; clear hK K)
                   | (apply Exists.intro
                      refine ⟨fun x => ?_, hK _ ?_⟩
                      (go_at_call 27; exact BC_call x (HSM.out x))
                      clear hK K)))
            refine headG_nil ?_
            intro w6 b6
            have H6 := Lib.hid (And.intro (BC_blk1 b6 H5.out.1) (And.intro (BC_trans H5.out.2.1 b6) (H5.out.2.2.below b6)))
            have hgz : goodW ps wh n = z := by rw [good_zero HLO.out.1.symm, HZQ.out, HLO.out.2.1]
            have HGZ := Lib.hid hgz
            clear hS b6 hgz heq
            cases z with
            | true =>
              have hfq : fP q.1 = true := by rw [HI.out.2.2.2.1, HN.out.2, Int.toNat_natCast, HGZ.out]; rfl
              have hfin : Wf = some O := by
                rw [HP.out.2.2.2.1, wholeF, ← HP.out.2.2.2.2, find_first HI.out.2.2.1 hfq HR.out.1]
                show some (outL (laidF ps wh q.1.sz.toNat)) = some O
                rw [← HI.out.2.2.2.2.2.1, Int.toNat_natCast, ← HLO.out.2.1]
              have HF := Lib.hid hfin
              clear hfin hfq
              go_wp2_with fail
              go_ret2
              exact ⟨_, by rw [HF.out]; rfl, by rw [HF.out]; exact H6.out.2.2, H6.out.2.1⟩
            | false =>
              have hnx : fP q.1 = false := by rw [HI.out.2.2.2.1, HN.out.2, Int.toNat_natCast, HGZ.out]; rfl
              have HNX := Lib.hid hnx
              clear hnx
              go_wp2_with fail
              go_roundw
              case rel => exact ⟨I1, by have := HI.out; omega, rfl, fun j p' hj hp' => by
                by_cases h : j = i
                · rw [h, HI.out.2.2.1] at hp'
                  injection hp' with hp'
                  rw [← hp']; exact HNX.out
                · exact HR.out.1 j p' (by have := HI.out; omega) hp', H6.out.1, H6.out.2.1⟩
              case measure => have := HI.out; simp [intOf]; omega
          · have hL1 : ((L : Int) == 0) = false := beq_eq_false_iff_ne.2 (by omega)
            have hL2 : (L == 0) = false := beq_eq_false_iff_ne.2 (by omega)
            refine wp_region_head (BC w5) 8 (by kernel_rfl) (by kernel_rfl) (BC_start _) ?_
            simp only [List.take_succ_cons, List.take_zero, List.drop_succ_cons, List.drop_zero]
            repeat (first
              | (refine headG_step (fun K hK => ?_)
                 go_simp
                 (refine hK _ ?_; clear hK K)))
            refine headG_nil ?_
            intro w6 b6
            have H6 := Lib.hid (And.intro (BC_blk1 b6 H5.out.1) (And.intro (BC_trans H5.out.2.1 b6) (H5.out.2.2.below b6)))
            have hgz : goodW ps wh n = false := good_false (by rw [← HLO.out.1]; exact hL0)
            have hnx : fP q.1 = false := by rw [HI.out.2.2.2.1, HN.out.2, Int.toNat_natCast, hgz]; rfl
            have HNX := Lib.hid hnx
            clear hS b6 hgz heq hnx
            go_wp2_with fail
            go_roundw
            case rel => exact ⟨I1, by have := HI.out; omega, rfl, fun j p' hj hp' => by
              by_cases h : j = i
              · rw [h, HI.out.2.2.1] at hp'
                injection hp' with hp'
                rw [← hp']; exact HNX.out
              · exact HR.out.1 j p' (by have := HI.out; omega) hp', H6.out.1, H6.out.2.1⟩
            case measure => have := HI.out; simp [intOf]; omega
    · have hge : ¬ (i : Int) < (m : Int) := by omega
      have hfin : Wf = none := by
        rw [HP.out.2.2.2.1, wholeF, ← HP.out.2.2.2.2, Option.map_eq_none_iff, List.find?_eq_none]
        intro p hp
        obtain ⟨j, hj, rfl⟩ := List.getElem_of_mem hp
        rw [HR.out.1 j _ (by have := HP.out.2.1; omega) (List.getElem?_eq_getElem hj)]
        simp
      have HF := Lib.hid hfin
      clear hfin hlt
      go_wp2_with fail
      go_ret2
      exact ⟨_, by rw [HF.out]; rfl, by rw [HF.out]; exact Own.nil _ _, HR.out.2.2⟩
end Go.Proofs.Ytjnimbhecfpnmaa
