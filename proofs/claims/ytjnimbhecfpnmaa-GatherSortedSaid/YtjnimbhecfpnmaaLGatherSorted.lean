/- The statement GatherSorted: however the parts come, the same are held, in the same order; Clear takes out those of one whole, and those alone. No condition. -/
import Derived.Test.YtjnimbhecfpnmaaAwake19
import Derived.Test.YtjnimbhecfpnmaaOpenB
import Derived.Test.YtjnimbhecfpnmaaSort
import Derived.Test.YtjnimbhecfpnmaaReal
import Derived.Test.YtjnimbhecfpnmaaClear
import Derived.Deep.Cut
import Derived.OpenShut
import Derived.ShutString
import Derived.ChangeOld
namespace Go.Proofs.Ytjnimbhecfpnmaa.gatherSortedDone
open Go.ChangeShapes Go.WideShapes Go.ChangeAt Go.RowKit
set_option linter.unusedVariables false
set_option linter.unusedSimpArgs false
set_option maxRecDepth 100000
attribute [local irreducible] SlV Lies headG

attribute [local go_sem] takes takesE comesTo
/-- how many of the first i have that whole -/
def ofF (wh : List Int) (ls : List (Pt × Value)) : Nat := ls.countP fun q => decide (q.1.wh = wh)
theorem ofF_step (wh : List Int) {ls : List (Pt × Value)} {i : Nat} (h : i < ls.length) : ofF wh (ls.take (i + 1)) = ofF wh (ls.take i) + if ls[i].1.wh = wh then 1 else 0 := by
  unfold ofF
  rw [List.take_succ_eq_append_getElem h, List.countP_append, List.countP_singleton]
  by_cases e : ls[i].1.wh = wh <;> simp [e]
theorem ofF_rest (wh : List Int) (ls : List (Pt × Value)) : (ls.filter fun q => !decide (q.1.wh = wh)).length + ofF wh ls = ls.length := by
  unfold ofF
  induction ls with
  | nil => rfl
  | cons a l ih =>
    by_cases e : a.1.wh = wh
    · simp only [List.filter_cons, List.countP_cons, e]; simp at ih ⊢; omega
    · simp only [List.filter_cons, List.countP_cons, e]; simp at ih ⊢; omega
set_option maxHeartbeats 8000000 in
theorem walk (v0 : Value) (qs : List (Pt × Value)) (w : World) (hp0 : RdP w.heap.size w v0 qs) :
    Calls Try.prog 11 #[v0] w fun e w' => e = .returned (.bool true) ∧ Below w.heap.size w w' := by
  have hv0 := hp0
  obtain ⟨_, g, o, sv, rg, _⟩ := hp0
  obtain ⟨a, c, rfl, hc, hm, ha, _⟩ := by unfold SlV at sv; exact sv
  have HSMA := Lib.hid (small_any (.slice a qs.length c) qs)
  obtain ⟨n, hN⟩ : ∃ n, n = qs.length := ⟨_, rfl⟩
  rw [← hN] at ha HSMA hv0 ⊢
  obtain ⟨ps, hps⟩ : ∃ ps, ps = qs.map (·.1) := ⟨_, rfl⟩
  rw [← hps] at HSMA
  have HV := Lib.hid (And.intro hv0 (And.intro rg (And.intro hN (And.intro ha hps))))
  clear hv0 sv rg hN ha hc hm hps
  go_enter Try.func11, Try.ntmps11
  go_wp2_with fail
  refine (awake19_any _).mono ?_
  rintro e wa ⟨rfl, ba⟩
  have hra := HV.out.1.to ba
  have HSM := Lib.hid (HSMA.out wa hra)
  have HA := Lib.hid (And.intro ba hra)
  clear ba hra HSMA
  obtain ⟨sb, hsb⟩ : ∃ x, x = smallB ps := ⟨_, rfl⟩
  rw [← hsb] at HSM
  have HSB := Lib.hid hsb
  clear hsb
  cases sb with
  | false =>
    go_wp2_with fail
    refine HSM.out.mono ?_
    rintro e wb ⟨rfl, hwb⟩
    subst hwb
    go_wp2_with fail
    go_ret
    exact ⟨rfl, HA.out.1⟩
  | true =>
    have hin := smallB_in HSB.out.symm
    have HIN : Hid (n ≤ 20 ∧ ∀ q ∈ qs, q.1.da.length ≤ 300) := Lib.hid ⟨by have h := hin.1; rw [HV.out.2.2.2.2, List.length_map, ← HV.out.2.2.1] at h; exact h, fun q hq => (hin.2 q.1 (by rw [HV.out.2.2.2.2]; exact List.mem_map_of_mem hq)).1⟩
    clear hin
    go_wp2_with fail
    refine HSM.out.mono ?_
    rintro e wb ⟨rfl, hwb⟩
    subst hwb
    clear HSM
    go_wp2_with fail
    go_loopw [4, 5, 6] (fun v4 v5 v6 wr => ∃ (i : Nat) (xs bs : List (Pt × Value)), i ≤ n ∧ v6 = .int .i64 (i : Int) ∧ RdP wr.heap.size wr v4 xs ∧ xs.map (·.1) = addAll (ps.take i) ∧ RdP wr.heap.size wr v5 bs ∧ bs.map (·.1) = addAll (ps.reverse.take i) ∧ BC wb wr) (fun _ _ i _ => n - (intOf i).toNat)
    case atStart => exact ⟨0, [], [], Nat.zero_le _, rfl, RdP.nil _ _, rfl, RdP.nil _ _, rfl, BC_refl _⟩
    case round =>
      obtain ⟨i, xs, bs, hi, rfl, rda, hma, rdb, hmb, hbr⟩ := hrel
      have hlps : ps.length = n := by rw [HV.out.2.2.2.2, List.length_map]; exact HV.out.2.2.1.symm
      have lena : xs.length ≤ i := by
        have h := (addAll_inv _ (ps.take i) rfl (by rw [List.length_take]; have := HIN.out; omega)).1
        rw [← hma, List.length_map, List.length_take] at h; omega
      have lenb : bs.length ≤ i := by
        have h := (addAll_inv _ (ps.reverse.take i) rfl (by rw [List.length_take]; have := HIN.out; omega)).1
        rw [← hmb, List.length_map, List.length_take] at h; omega
      obtain ⟨pa, ca, hfa⟩ := rda.form
      subst hfa
      obtain ⟨pb, cb, hfb⟩ := rdb.form
      subst hfb
      have HR := Lib.hid (And.intro rda (And.intro hma (And.intro rdb (And.intro hmb (And.intro hbr (And.intro lena (And.intro lenb hlps)))))))
      by_cases hlt : i < n
      · have i0 : (0 : Int) ≤ (i : Int) := by omega
        have i1 : (i : Int) < (n : Int) := by omega
        obtain ⟨I1, hI1⟩ : ∃ m, m = i + 1 := ⟨_, rfl⟩
        obtain ⟨J, hJ⟩ : ∃ m, m = n - 1 - i := ⟨_, rfl⟩
        have hn20 := HIN.out.1
        obtain ⟨N1, hN1⟩ : ∃ m, m = n - 1 := ⟨_, rfl⟩
        have s1 : IntKind.i64.wrap ((i : Int) + 1) = (I1 : Int) := by rw [IntKind.wrap_i64]; omega
        have s2 : IntKind.i64.wrap ((n : Int) - 1) = (N1 : Int) := by rw [IntKind.wrap_i64]; omega
        have s3 : IntKind.i64.wrap ((N1 : Int) - (i : Int)) = (J : Int) := by rw [IntKind.wrap_i64]; omega
        have hJ0 : (0 : Int) ≤ (J : Int) := by omega
        have hJ1 : (J : Int) < (n : Int) := by omega
        have hiq : i < qs.length := by rw [← HV.out.2.2.1]; exact hlt
        have hjq : J < qs.length := by rw [← HV.out.2.2.1]; omega
        obtain rfl := HV.out.2.2.2.1 (by omega)
        have hbw := BC_trans (show BC w wb from HA.out.1) hbr
        have hA := add_any (.slice pa xs.length ca) xs (qs[i]'hiq) wr rda (by omega) (HV.out.1.1 _ (List.getElem_mem hiq)).1 (((HV.out.1.1 _ (List.getElem_mem hiq)).2.below hbw).mono hbw.size) (by have := HIN.out.2 _ (List.getElem_mem hiq); omega)
        have hB : ∀ w2, BC wr w2 → Calls Try.prog 30 #[.slice pb bs.length cb, .agg (qC (qs[J]'hjq)).toArray] w2 fun e w' => ∃ v' qs', e = .returned (.tuple #[v', .int .i64 (addL (bs.map (·.1)) (qs[J]'hjq).1).2]) ∧ RdP w'.heap.size w' v' qs' ∧ qs'.map (·.1) = (addL (bs.map (·.1)) (qs[J]'hjq).1).1 ∧ Below w2.heap.size w2 w' := fun w2 h2 =>
          add_any _ bs (qs[J]'hjq) w2 (rdb.to h2) (by omega) (HV.out.1.1 _ (List.getElem_mem hjq)).1 (((HV.out.1.1 _ (List.getElem_mem hjq)).2.below (BC_trans hbw h2)).mono (BC_trans hbw h2).size) (by have := HIN.out.2 _ (List.getElem_mem hjq); omega)
        rw [hma] at hA
        rw [hmb] at hB
        obtain ⟨CA, hCA⟩ : ∃ C, C = (qC (qs[i]'hiq)).toArray := ⟨_, rfl⟩
        obtain ⟨CB, hCB⟩ : ∃ C, C = (qC (qs[J]'hjq)).toArray := ⟨_, rfl⟩
        have hza : CA.size = 35 := by rw [hCA]; exact qC_size (HV.out.1.1.wh _ (List.getElem_mem hiq))
        have hzb : CB.size = 35 := by rw [hCB]; exact qC_size (HV.out.1.1.wh _ (List.getElem_mem hjq))
        have rga : wr.rangeAt g (o + i * 35) CA.toList := fun j u hj => later hbw (range_get HV.out.2.1 HV.out.1.1.wh hiq j u (by rw [hCA] at hj; exact hj))
        have rgb : wr.rangeAt g (o + J * 35) CB.toList := fun j u hj => later hbw (range_get HV.out.2.1 HV.out.1.1.wh hjq j u (by rw [hCB] at hj; exact hj))
        have hip : i < ps.length := by omega
        have hpi : (qs[i]'hiq).1 = ps[i]'hip := by simp [HV.out.2.2.2.2]
        have hpj : (qs[J]'hjq).1 = ps.reverse[i]'(by simpa using hip) := by
          rw [List.getElem_reverse]
          have e : ps.length - 1 - i = J := by omega
          simp only [e]
          simp [HV.out.2.2.2.2]
        rw [hpi, ← hCA, ← addAll_take hip] at hA
        rw [hpj, ← hCB, ← addAll_take (by simpa using hip)] at hB
        generalize xs.length = la at *
        generalize bs.length = lb at *
        generalize (addL (addAll (ps.take i)) (ps[i]'hip)).2 = ra at *
        generalize (addL (addAll (ps.reverse.take i)) (ps.reverse[i]'(by simpa using hip))).2 = rb at *
        rw [← hI1] at hA hB
        have HAD := Lib.hid hA
        have HBD := Lib.hid hB
        have HI := Lib.hid (And.intro hI1 (And.intro hlt (And.intro rga (And.intro rgb (And.intro hza (And.intro hzb hbr))))))
        clear hA hB hI1 hlt rga rgb hza hzb hJ hN1 hn20 hCA hCB hpi hpj hip hiq hjq hbw rda hma rdb hmb hbr lena lenb hlps hi
        go_wp2_with ((with_reducible refine wlw_load_mid (o := ⟨some 32, _, _, _, _, _⟩) ?_ 26 (.tmp 31) ?_ _ _ ?_ CA _ HI.out.2.2.1 Try.underlying26 ?_ ?_ ?_); (focus rfl); (focus rfl); (focus rfl); (focus rfl); (focus (rw [HI.out.2.2.2.2.1]; kernel_rfl)))
        refine HAD.out.mono ?_
        rintro e wt ⟨vt, qt, rfl, rdt, hqt, bt⟩
        have hB2 := HBD.out wt bt
        have rg2 : wt.rangeAt g (o + J * 35) CB.toList := fun j u hj => later bt (HI.out.2.2.2.1 j u hj)
        have HB2 := Lib.hid hB2
        have HT := Lib.hid (And.intro rdt (And.intro hqt (And.intro bt rg2)))
        clear rdt hqt bt rg2 hB2
        go_wp2_with ((with_reducible refine wlw_load_mid (o := ⟨some 45, _, _, _, _, _⟩) ?_ 26 (.tmp 44) ?_ _ _ ?_ CB _ HT.out.2.2.2 Try.underlying26 ?_ ?_ ?_); (focus rfl); (focus rfl); (focus rfl); (focus rfl); (focus (rw [HI.out.2.2.2.2.2.1]; kernel_rfl)))
        refine HB2.out.mono ?_
        rintro e wu ⟨vu, qu, rfl, rdu, hqu, bu⟩
        have HU := Lib.hid (And.intro rdu (And.intro hqu bu))
        clear rdu hqu bu
        go_wp2_with fail
        go_roundw
        case rel => exact ⟨I1, qt, qu, by have := HI.out; omega, rfl, HT.out.1.to HU.out.2.2, HT.out.2.1, HU.out.1, HU.out.2.1, BC_trans HI.out.2.2.2.2.2.2 (BC_trans HT.out.2.2.1 HU.out.2.2)⟩
        case measure => have := HI.out; simp [intOf]; omega
      · have hin : i = n := by omega
        subst hin
        have hge : ¬ (i : Int) < (i : Int) := by omega
        rw [List.take_of_length_le (by omega)] at hma
        rw [List.take_of_length_le (by simp; omega), addAll_rev _ (by have := HIN.out; omega), ← hma] at hmb
        have hra := HV.out.1.to (BC_trans (show BC w wb from HA.out.1) hbr)
        have hlb : bs.length = xs.length := by have := congrArg List.length hmb; simpa using this
        obtain ⟨la, hla⟩ : ∃ l, l = xs.length := ⟨_, rfl⟩
        have hl20 : la ≤ i := by omega
        rw [hlb, ← hla]
        rw [hlb, ← hla] at rdb
        rw [← hla] at rda
        have hz0 : i = 0 → la = 0 := by omega
        have HF := Lib.hid (And.intro rda (And.intro hma (And.intro rdb (And.intro hmb (And.intro hbr (And.intro hla (And.intro hl20 hra)))))))
        have hn20 := HIN.out.1
        clear hlt rda hma rdb hmb hbr hla hl20 hra lena lenb hlps hi HR hlb
        rcases Nat.eq_zero_or_pos i with h0 | h0
        · have hl0 := hz0 h0
          subst h0
          subst hl0
          clear hz0
          go_wp2_with fail
          go_ret
          exact ⟨rfl, BC_trans (show BC w wb from HA.out.1) HF.out.2.2.2.2.1⟩
        have e1 : ((i : Int) == 0) = false := beq_eq_false_iff_ne.2 (by omega)
        have e2 : (0 : Int) < (i : Int) := by omega
        have hi0 : 0 < qs.length := by rw [← HV.out.2.2.1]; exact h0
        obtain rfl := HV.out.2.2.2.1 (by omega)
        obtain ⟨wh, hwh⟩ : ∃ x, x = (qs[0]'hi0).1.wh := ⟨_, rfl⟩
        have hwl : wh.length = 32 := by rw [hwh]; exact HV.out.1.1.wh _ (List.getElem_mem hi0)
        obtain ⟨RD, hRD⟩ : ∃ R, R = row .u8 wh := ⟨_, rfl⟩
        have hRz : RD.size = 32 := by rw [hRD, row_size, hwl]
        have hR1 : RD.all (·.oneCell') = true := by rw [hRD]; exact row_one _ _
        have hbw := BC_trans (show BC w wb from HA.out.1) HF.out.2.2.2.2.1
        have rgd : wr.rangeAt g o RD.toList := fun j u hj => by
          have h := range_get HV.out.2.1 HV.out.1.1.wh hi0
          rw [Nat.zero_mul, Nat.add_zero] at h
          have h2 := range_wh h
          refine later hbw (h2 j u ?_)
          rw [hRD, hwh] at hj
          exact hj
        have HRR := Lib.hid (And.intro rgd (And.intro hRz (And.intro hR1 (And.intro hRD (And.intro hwl hbw)))))
        have hzd := zero_dig
        obtain ⟨W9, hW9⟩ : ∃ W, W = wr.alloc (.cells RD 23) := ⟨_, rfl⟩
        obtain ⟨g9, hg9⟩ : ∃ g, g = wr.heap.size := ⟨_, rfl⟩
        have n9 := heap_alloc_new wr (.cells RD 23)
        have b9 := below1 wr (.cells RD 23)
        rw [← hW9, ← hg9] at n9
        rw [← hW9] at b9
        have hra9 := HF.out.1.to b9
        have hCL := clear_any (.slice pa la ca) xs wh hwl W9 hra9 (by have := HF.out; omega)
        rw [← hRD] at hCL
        have HCL := Lib.hid hCL
        have H9 := Lib.hid (And.intro n9 (And.intro b9 (And.intro hW9 (And.intro hg9 hra9))))
        clear n9 b9 hW9 hg9 hra9 hCL rgd hRz hR1 hRD hwl hbw hwh hi0 hz0
        go_upto_region 16 with (first | ((with_reducible refine wlw_load_mid (o := ⟨some 63, _, _, _, _, _⟩) ?_ 23 (.tmp 62) ?_ _ _ ?_ RD _ HRR.out.1 Try.underlying23 ?_ ?_ ?_); (focus rfl); (focus rfl); (focus rfl); (focus rfl); (focus (rw [HRR.out.2.1]; kernel_rfl))) | (refine wpList_store_rowTo rfl 23 _ _ rfl rfl _ RD rfl rfl 23 zb32 (heap_alloc_new wr _) (by rw [HRR.out.2.1]; kernel_rfl) (by rw [HRR.out.2.1]; kernel_rfl) HRR.out.2.2.1 ?_; rw [World.setRow_alloc_new]))
        rw [← H9.out.2.2.1, ← H9.out.2.2.2.1]
        clear hzd
        go_wp2_with ((with_reducible refine wlw_load_row (o := ⟨some 65, _, _, _, _, _⟩) ?_ 23 (.tmp 11) ?_ _ ?_ _ RD _ _ H9.out.1 Try.underlying23 ?_ ?_ ?_); (focus rfl); (focus rfl); (focus rfl); (focus rfl); (focus (rw [HRR.out.2.1]; kernel_rfl)))
        refine HCL.out.mono ?_
        rintro e wc ⟨vc, rfl, rdc, bc⟩
        obtain ⟨rs, hrs⟩ : ∃ x, x = xs.filter (fun q => !decide (q.1.wh = wh)) := ⟨_, rfl⟩
        rw [← hrs] at rdc
        obtain ⟨lr, hlr⟩ : ∃ x, x = rs.length := ⟨_, rfl⟩
        have rdc0 := rdc
        obtain ⟨_, gr, or, svr, rgr, _⟩ := rdc0
        obtain ⟨pr, cr, rfl, _, _, hpr, _⟩ := by unfold SlV at svr; exact svr
        have rac := H9.out.2.2.2.2.to bc
        have rac0 := rac
        obtain ⟨_, ga, oa, sva, rga, _⟩ := rac0
        obtain ⟨pa', ca', hpe, _, _, hpa, _⟩ := by unfold SlV at sva; exact sva
        injection hpe with h1 h2 h3
        subst h1
        subst h3
        clear h2
        rw [← hlr] at hpr rdc ⊢
        rw [← HF.out.2.2.2.2.2.1] at hpa
        have hsum := ofF_rest wh xs
        rw [← hrs, ← hlr, ← HF.out.2.2.2.2.2.1] at hsum
        have hrw : ∀ j (h : j < rs.length), rs[j].1.wh ≠ wh := fun j h e => by
          have hm : rs[j] ∈ xs.filter (fun q => !decide (q.1.wh = wh)) := by rw [← hrs]; exact List.getElem_mem h
          have := (List.mem_filter.1 hm).2
          rw [decide_eq_true e] at this
          cases this
        have gcd := BC_blk1 bc H9.out.1
        have HC := Lib.hid (And.intro rdc (And.intro rgr (And.intro hpr (And.intro rac (And.intro rga (And.intro hpa (And.intro hsum (And.intro hrw (And.intro hlr (And.intro gcd bc))))))))))
        clear rdc rgr hpr rac rga hpa hsum hrw hrs hlr gcd bc svr sva
        have hl20 : la ≤ 20 := by have := HF.out; omega
        have hr20 : lr ≤ 20 := by have := HC.out; omega
        go_wp2_with fail
        go_loopw [13, 14] (fun v13 v14 wr => ∃ k : Nat, k ≤ la ∧ v14 = .int .i64 (k : Int) ∧ v13 = .int .i64 (ofF wh (xs.take k) : Int) ∧ BC wc wr) (fun _ k _ => la - (intOf k).toNat)
        case atStart => exact ⟨0, Nat.zero_le _, rfl, rfl, BC_refl _⟩
        case round =>
          obtain ⟨k, hk, rfl, rfl, hbx⟩ := hrel
          have HK := Lib.hid (And.intro hk hbx)
          clear hk hbx
          obtain ⟨ov, hof⟩ : ∃ x, x = ofF wh (xs.take k) := ⟨_, rfl⟩
          rw [← hof]
          have ho20 : ov ≤ la := by rw [hof, HF.out.2.2.2.2.2.1]; unfold ofF; exact Nat.le_trans List.countP_le_length (by rw [List.length_take]; omega)
          by_cases hlt : k < la
          · have k0 : (0 : Int) ≤ (k : Int) := by omega
            have k1 : (k : Int) < (la : Int) := by omega
            obtain ⟨K1, hK1⟩ : ∃ m, m = k + 1 := ⟨_, rfl⟩
            obtain ⟨O1, hO1⟩ : ∃ m, m = ov + 1 := ⟨_, rfl⟩
            have s1 : IntKind.i64.wrap ((k : Int) + 1) = (K1 : Int) := by rw [IntKind.wrap_i64]; omega
            have s2 : IntKind.i64.wrap ((ov : Int) + 1) = (O1 : Int) := by rw [IntKind.wrap_i64]; omega
            have hka : k < xs.length := by rw [← HF.out.2.2.2.2.2.1]; exact hlt
            obtain rfl := HC.out.2.2.2.2.2.1 (by omega)
            have hgw := HC.out.2.2.2.1.1.wh _ (List.getElem_mem hka)
            have hrk := range_wh (range_get HC.out.2.2.2.2.1 HC.out.2.2.2.1.1.wh hka)
            have hst := ofF_step wh hka
            rw [← hof, ← hK1] at hst
            obtain ⟨wk, hwk⟩ : ∃ x, x = (xs[k]'hka).1.wh := ⟨_, rfl⟩
            rw [← hwk] at hgw hrk hst
            obtain ⟨RE, hRE⟩ : ∃ R, R = row .u8 wk := ⟨_, rfl⟩
            have hEz : RE.size = 32 := by rw [hRE, row_size, hgw]
            obtain ⟨z, hz⟩ : ∃ z, z = decide (wk = wh) := ⟨_, rfl⟩
            have heq : ∀ w, (binOp .eql 23 (.agg RE) (.agg RD)).run Try.prog w = .ok (.bool z) w := fun w => by
              have h := run_eql_row w 23 5 32 .u8 Try.underlying23 Try.underlying5 (by kernel_rfl) wk wh hgw HRR.out.2.2.2.2.1
              rw [← hRE, ← HRR.out.2.2.2.1, ← hz] at h
              exact h
            have HF9 : Hid (∀ x : HW (BC wr), x.w.heap[g9]? = some (.cells RD 23 (0, 0))) := Lib.hid (BC_blk (BC_blk1 HK.out.2 HC.out.2.2.2.2.2.2.2.2.2.1))
            have HF8 : Hid (∀ x : HW (BC wr), x.w.rangeAt ga (oa + k * 35) RE.toList) := Lib.hid fun x j u hj => later (BC_trans HK.out.2 x.h) (hrk j u (by rw [hRE] at hj; exact hj))
            have HRS := Lib.hid (And.intro HRR.out.2.1 hEz)
            have HZ := Lib.hid hz
            have HI := Lib.hid (And.intro hK1 (And.intro hO1 (And.intro hlt (And.intro hof hst))))
            clear hK1 hO1 hlt hof hgw hrk hwk hRE hEz hz hst ho20 hka
            go_upto_region 21 with fail
            have hS := BC_all (w := wr)
            haveI := BC_inst wr
            refine wp_region_head (BC wr) 7 (by kernel_rfl) (by kernel_rfl) (BC_start _) ?_
            simp only [List.take_succ_cons, List.take_zero, List.drop_succ_cons, List.drop_zero]
            repeat (first
              | ((with_reducible refine headG_load_mid (o := ⟨some 77, _, _, _, _, _⟩) 23 (.tmp 76) ?_ ?_ _ _ ?_ RE _ HF8.out Try.underlying23 ?_ ?_ ?_); (focus rfl); (focus rfl); (focus rfl); (focus rfl); (focus (rw [HRS.out.2]; kernel_rfl)))
              | ((with_reducible refine headG_load_row (o := ⟨some 78, _, _, _, _, _⟩) 23 (.tmp 11) ?_ ?_ _ ?_ _ RD _ _ HF9.out Try.underlying23 ?_ ?_ ?_); (focus rfl); (focus rfl); (focus rfl); (focus rfl); (focus (rw [HRS.out.1]; kernel_rfl)))
              | (refine headG_step (fun K hK => ?_)
                 go_simp
                 (refine hK _ ?_; clear hK K)))
            refine headG_nil ?_
            intro wy hby
            have HY := Lib.hid (BC_trans HK.out.2 hby)
            clear hS hby heq
            cases z with
            | true =>
              have hst2 : ofF wh (xs.take K1) = O1 := by rw [HI.out.2.2.2.2, if_pos (of_decide_eq_true HZ.out.symm), HI.out.2.1]
              have HS2 := Lib.hid hst2
              clear hst2
              go_wp2_with fail
              go_roundw
              case rel => exact ⟨K1, by have := HI.out; omega, rfl, by rw [HS2.out], HY.out⟩
              case measure => have := HI.out; simp [intOf]; omega
            | false =>
              have hst2 : ofF wh (xs.take K1) = ov := by rw [HI.out.2.2.2.2, if_neg (of_decide_eq_false HZ.out.symm)]; rfl
              have HS2 := Lib.hid hst2
              clear hst2
              go_wp2_with fail
              go_roundw
              case rel => exact ⟨K1, by have := HI.out; omega, rfl, by rw [HS2.out], HY.out⟩
              case measure => have := HI.out; simp [intOf]; omega
          · have hin : k = la := by have := HK.out; omega
            subst hin
            have hge : ¬ (k : Int) < (k : Int) := by omega
            rw [List.take_of_length_le (by rw [HF.out.2.2.2.2.2.1]; exact Nat.le_refl _)] at hof
            have hsum := HC.out.2.2.2.2.2.2.1
            rw [← hof] at hsum
            have HO := Lib.hid (And.intro hsum HK.out.2)
            clear hof hsum hlt HK
            go_wp2_with fail
            go_loopw [15] (fun v15 wr => ∃ j : Nat, j ≤ lr ∧ v15 = .int .i64 (j : Int) ∧ BC wc wr) (fun j _ => lr - (intOf j).toNat)
            case atStart => exact ⟨0, Nat.zero_le _, rfl, HO.out.2⟩
            case round =>
              obtain ⟨j, hj, rfl, hbx⟩ := hrel
              have HK := Lib.hid (And.intro hj hbx)
              clear hj hbx
              by_cases hlt : j < lr
              · have k0 : (0 : Int) ≤ (j : Int) := by omega
                have k1 : (j : Int) < (lr : Int) := by omega
                obtain ⟨K1, hK1⟩ : ∃ m, m = j + 1 := ⟨_, rfl⟩
                have s1 : IntKind.i64.wrap ((j : Int) + 1) = (K1 : Int) := by rw [IntKind.wrap_i64]; omega
                have hka : j < rs.length := by rw [← HC.out.2.2.2.2.2.2.2.2.1]; exact hlt
                obtain rfl := HC.out.2.2.1 (by omega)
                have hgw := HC.out.1.1.wh _ (List.getElem_mem hka)
                have hrk := range_wh (range_get HC.out.2.1 HC.out.1.1.wh hka)
                have hne := HC.out.2.2.2.2.2.2.2.1 j hka
                obtain ⟨wk, hwk⟩ : ∃ x, x = (rs[j]'hka).1.wh := ⟨_, rfl⟩
                rw [← hwk] at hgw hrk hne
                obtain ⟨RE, hRE⟩ : ∃ R, R = row .u8 wk := ⟨_, rfl⟩
                have hEz : RE.size = 32 := by rw [hRE, row_size, hgw]
                have heq : ∀ w, (binOp .eql 23 (.agg RE) (.agg RD)).run Try.prog w = .ok (.bool false) w := fun w => by
                  have h := run_eql_row w 23 5 32 .u8 Try.underlying23 Try.underlying5 (by kernel_rfl) wk wh hgw HRR.out.2.2.2.2.1
                  rw [← hRE, ← HRR.out.2.2.2.1, decide_eq_false hne] at h
                  exact h
                have HF9 : Hid (∀ x : HW (BC wr), x.w.heap[g9]? = some (.cells RD 23 (0, 0))) := Lib.hid (BC_blk (BC_blk1 HK.out.2 HC.out.2.2.2.2.2.2.2.2.2.1))
                have HF8 : Hid (∀ x : HW (BC wr), x.w.rangeAt gr (or + j * 35) RE.toList) := Lib.hid fun x j u hj => later (BC_trans HK.out.2 x.h) (hrk j u (by rw [hRE] at hj; exact hj))
                have HRS := Lib.hid (And.intro HRR.out.2.1 hEz)
                have HI := Lib.hid (And.intro hK1 hlt)
                clear hK1 hlt hgw hrk hwk hRE hEz hne hka
                go_upto_region 26 with fail
                have hS := BC_all (w := wr)
                haveI := BC_inst wr
                refine wp_region_head (BC wr) 7 (by kernel_rfl) (by kernel_rfl) (BC_start _) ?_
                simp only [List.take_succ_cons, List.take_zero, List.drop_succ_cons, List.drop_zero]
                repeat (first
                  | ((with_reducible refine headG_load_mid (o := ⟨some 92, _, _, _, _, _⟩) 23 (.tmp 91) ?_ ?_ _ _ ?_ RE _ HF8.out Try.underlying23 ?_ ?_ ?_); (focus rfl); (focus rfl); (focus rfl); (focus rfl); (focus (rw [HRS.out.2]; kernel_rfl)))
                  | ((with_reducible refine headG_load_row (o := ⟨some 93, _, _, _, _, _⟩) 23 (.tmp 11) ?_ ?_ _ ?_ _ RD _ _ HF9.out Try.underlying23 ?_ ?_ ?_); (focus rfl); (focus rfl); (focus rfl); (focus rfl); (focus (rw [HRS.out.1]; kernel_rfl)))
                  | (refine headG_step (fun K hK => ?_)
                     go_simp
                     (refine hK _ ?_; clear hK K)))
                refine headG_nil ?_
                intro wy hby
                have HY := Lib.hid (BC_trans HK.out.2 hby)
                clear hS hby heq
                go_wp2_with fail
                go_roundw
                case rel => exact ⟨K1, by have := HI.out; omega, rfl, HY.out⟩
                case measure => have := HI.out; simp [intOf]; omega
              · have hge3 : ¬ (j : Int) < (lr : Int) := by omega
                have hO1 := HO.out.1
                obtain ⟨M, hM⟩ : ∃ m, m = k - ov := ⟨_, rfl⟩
                have s6 : IntKind.i64.wrap ((k : Int) - (ov : Int)) = (lr : Int) := by rw [IntKind.wrap_i64]; omega
                have bcr := BC_trans HC.out.2.2.2.2.2.2.2.2.2.2 HK.out.2
                have rdx := H9.out.2.2.2.2.to bcr
                have rdy := HF.out.2.2.1.to (BC_trans H9.out.2.1 bcr)
                have HR1 := Lib.hid (real_any _ xs wr rdx (by rw [← HF.out.2.2.2.2.2.1]; omega))
                have hlb : bs.length = k := by have := congrArg List.length HF.out.2.2.2.1; simp at this; rw [this]; exact HF.out.2.2.2.2.2.1.symm
                have HR2 : Hid (∀ w2, BC wr w2 → Calls Try.prog 36 #[.slice pb k cb] w2 fun e w' => ∃ v', e = .returned v' ∧ RdP w'.heap.size w' v' bs ∧ Below w2.heap.size w2 w') := Lib.hid fun w2 h2 => real_any _ bs w2 (rdy.to h2) (by omega)
                have HBX := Lib.hid (BC_below (BC_trans HRR.out.2.2.2.2.2 H9.out.2.1) (BC_trans HRR.out.2.2.2.2.2 H9.out.2.1).size bcr)
                clear hlt hM hO1 bcr rdx rdy hlb
                go_wp2_with fail
                refine HR1.out.mono ?_
                rintro e wu ⟨vu, rfl, rdu, bu⟩
                have hr2 := HR2.out wu bu
                have HR3 := Lib.hid hr2
                have HU := Lib.hid (And.intro rdu bu)
                clear hr2 rdu bu
                go_wp2_with fail
                refine HR3.out.mono ?_
                rintro e wv ⟨vv, rfl, rdv, bv⟩
                have hl := list_any vu vv xs bs wv (HU.out.1.to bv) rdv (by rw [← HF.out.2.2.2.2.2.1]; omega) HF.out.2.2.2.1.symm
                have HL := Lib.hid hl
                have HVV := Lib.hid bv
                clear hl rdv bv
                go_wp2_with fail
                refine HL.out.mono ?_
                rintro e wz ⟨rfl, bz⟩
                have HZZ := Lib.hid bz
                clear bz
                go_wp2_with fail
                go_ret
                exact ⟨rfl, BC_trans (BC_trans HBX.out HU.out.2) (BC_trans HVV.out HZZ.out)⟩

theorem own : ownKnob Try.prog.godebug = none := by kernel_rfl
theorem laidOut : laidOutB Try.prog = true := by kernel_rfl
set_option maxRecDepth 100000 in
theorem lifted (os : Os) (started : os.Started) (H : Type) (enc : TypeId × Value → H) :
    ReturnsInHanded {} Try.checked os 11 .any (Rows.gatherSortedSpec.pre6 enc Try.prog Try.f11 Rows.gatherSortedRow.domain false) (Rows.gatherSortedSpec.post enc Try.prog Try.f11 false true false false) := by
  refine returnsInHanded_of_change (C := Try.checked) own started (by kernel_rfl) Try.func11
    (ChangeSpec.witness6 (enc := enc) (C := Try.checked) false ⟨#[], #[.slice none 0 0], []⟩ 8 (by kernel_rfl) (by kernel_rfl) (by kernel_rfl) (by kernel_rfl)) ?_
  intro W base args ds gs before hval0 hW hcnd _
  have hval : ∀ (j : Nat) t v, Try.f11.params[j]? = some t → args[j]? = some v → Value.okWide Try.prog W .any base t v := hval0
  have hW' := hW
  obtain ⟨p, q, hA0, hV, rfl, hfz, hnd⟩ := hW
  have hA : DataW.TrodAll enc Try.prog W 0 (fun _ => true) true Try.f11.params.toList args.toList ds p := hA0
  rw [Try.params11] at hA hval
  obtain ⟨v0, vs0, d0, ds0, p0, q0, hargs, rfl, rfl, h0, r0⟩ := trodAll_cons hA
  obtain ⟨rfl, rfl, rfl⟩ := trodAll_nil r0
  obtain rfl : args = #[v0] := by cases args; simp_all
  obtain ⟨rfl, rfl⟩ := trodVars_none hV
  have k0 := h0
  have lt0 : ∀ x ∈ p0, x.block < W.heap.size := by obtain ⟨m, hm⟩ := k0; exact DataW.trod_lt m _ _ _ hm
  obtain ⟨ps0, hp0⟩ := open_parts (hval 0 56 v0 rfl rfl) h0
  clear hA0 hval0
  refine (walk v0 ps0 W hp0).mono fun e W' ⟨he, bel⟩ => ?_
  subst he
  exact ⟨_, rfl, _, _, _, [], _, [], hW', trodAll_mk1 (shut_bool Try.underlying4 _), (trodAll_cons_mk (Below.trod laidOut (by kernel_rfl) (of_decide_eq_true (by kernel_rfl)) k0 bel lt0) trodAll_mk0), rfl, bel.frame _, fun h => by cases h⟩
theorem over : Rows.gatherSortedRow.holds Try.pinned (OpenSpec.ofChange Rows.gatherSortedSpec) :=
  OpenClaim.holds_of_wide 11 Try.f11 rfl rfl rfl rfl rfl rfl rfl ⟨rfl, rfl, rfl, rfl, rfl⟩ rfl rfl rfl rfl rfl (by kernel_rfl) Try.func11 (by kernel_rfl)
    (of_decide_eq_true (by kernel_rfl)) (by unfold Func.isWrapper; first | (rw [if_pos (by decide +kernel)]; kernel_rfl) | (rw [if_neg (by decide +kernel)]; exact ⟨rfl, rfl⟩))
    (fun os started H enc _ => lifted os started H enc)
theorem proved : Rows.GatherSortedSaid := over
#print axioms proved
end Go.Proofs.Ytjnimbhecfpnmaa.gatherSortedDone
