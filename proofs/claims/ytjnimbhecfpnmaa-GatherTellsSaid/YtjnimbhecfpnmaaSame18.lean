/- The walks of the reference's Same (layer 18) and Blobs (layer 16). -/
import Derived.Test.YtjnimbhecfpnmaaDecode
import Derived.Test.YtjnimbhecfpnmaaOwnS
import Derived.Test.YtjnimbhecfpnmaaReg
namespace Go.Proofs.Ytjnimbhecfpnmaa
set_option maxRecDepth 100000
open Go.ChangeShapes Go.WideShapes Go.ChangeAt Go.RowKit

/-- are two parts the same? -/
def samePB (wh wh2 : List Int) (s s2 a a2 : Int) (l m : List Int) : Bool := decide (wh = wh2 ∧ s = s2 ∧ a = a2 ∧ l = m)
attribute [local irreducible] SlV Lies
attribute [local go_sem] takes comesTo
set_option maxHeartbeats 1000000 in
theorem rsame_any (wh wh2 : List Int) (hw : wh.length = 32) (hw2 : wh2.length = 32) (s a s2 a2 : Int) (v v2 : Value) (b o b2 o2 : Nat) (l m : List Int) (bl : Bytes l) (bm : Bytes m) (hv : SlV v b o l.length) (hv2 : SlV v2 b2 o2 m.length) (w : World) (hl : Lies w b o l) (hm : Lies w b2 o2 m) :
    Calls Try.prog 21 #[.agg (pcells wh s a v).toArray, .agg (pcells wh2 s2 a2 v2).toArray] w fun e w' => e = .returned (.bool (samePB wh wh2 s s2 a a2 l m)) ∧ Below w.heap.size w w' := by
  obtain ⟨pv, cv, rfl, _⟩ := by unfold SlV at hv; exact hv
  obtain ⟨pv2, cv2, rfl, _⟩ := by unfold SlV at hv2; exact hv2
  have k0 := pcells_size hw s a (.slice pv l.length cv)
  have k1 := pcells_at hw s a (.slice pv l.length cv)
  have k2 := pcells_data hw s a (.slice pv l.length cv)
  have j0 := pcells_size hw2 s2 a2 (.slice pv2 m.length cv2)
  have j1 := pcells_at hw2 s2 a2 (.slice pv2 m.length cv2)
  have j2 := pcells_data hw2 s2 a2 (.slice pv2 m.length cv2)
  have e1 : ∀ (W : World) g, W.heap[g]? = some (.cells (pcells wh s a (.slice pv l.length cv)).toArray 33 (0, 0)) → W.rangeAt g 0 (row .u8 wh).toList := fun W g h => lies_range (lies_whole h)
  have e2 : ∀ (W : World) g, W.heap[g]? = some (.cells (pcells wh2 s2 a2 (.slice pv2 m.length cv2)).toArray 33 (0, 0)) → W.rangeAt g 0 (row .u8 wh2).toList := fun W g h => lies_range (lies_whole h)
  generalize (pcells wh s a (.slice pv l.length cv)).toArray = C at *
  generalize (pcells wh2 s2 a2 (.slice pv2 m.length cv2)).toArray = C2 at *
  have hq := blk2 w (.cells C 33) (.cells C2 33)
  have hb := below2 w (.cells C 33) (.cells C2 33)
  have cA := conv_slv b o _ l hv _ (hl.below' hb)
  have cB := conv_slv b2 o2 _ m hv2 _ (hm.below' hb)
  have HE := Lib.hid (nums_eql bl bm)
  have hr := run_eql_row w 23 5 32 .u8 Try.underlying23 Try.underlying5 (by kernel_rfl) wh wh2 hw hw2
  have hr' : ∀ w, (binOp .eql 23 (.agg (row .u8 wh)) (.agg (row .u8 wh2))).run Try.prog w = .ok (.bool (decide (wh = wh2))) w := fun w => run_eql_row w 23 5 32 .u8 Try.underlying23 Try.underlying5 (by kernel_rfl) wh wh2 hw hw2
  have c0 := cell_row hq.1 32 k0
  have c1 := cell_row hq.1 33 k1
  have c2 := cell_row hq.1 34 k2
  have d0 := cell_row hq.2 32 j0
  have d1 := cell_row hq.2 33 j1
  have d2 := cell_row hq.2 34 j2
  have HR := Lib.hid (And.intro (e1 _ _ hq.1) (e2 _ _ hq.2))
  have HB := Lib.hid hb
  have hsa : (row .u8 wh).size = 32 := by rw [row_size, hw]
  have hsb : (row .u8 wh2).size = 32 := by rw [row_size, hw2]
  have HSZ := Lib.hid (And.intro hsa hsb)
  have hfin : samePB wh wh2 s s2 a a2 l m = (decide (wh = wh2) && (decide (s = s2) && (decide (a = a2) && sameB l m))) := by
    unfold samePB sameB
    simp only [Bool.decide_and]
  rw [hfin]
  rw [← nums_eql bl bm]
  clear hfin hsa hsb k0 k1 k2 j0 j1 j2 e1 e2 hq hb hr hv hv2 hl hm bl bm hw hw2
  generalize strOfNums l = S1 at *
  generalize strOfNums m = S2 at *
  generalize l.length = n1 at *
  generalize m.length = n2 at *
  generalize row .u8 wh = R1 at *
  generalize row .u8 wh2 = R2 at *
  obtain ⟨q, hq⟩ : ∃ q, q = decide (wh = wh2) := ⟨_, rfl⟩
  rw [← hq] at hr' ⊢
  clear hq HE
  cases q with
  | false =>
    go_enter Try.func21, Try.ntmps21
    go_wp2_with (first | ((with_reducible refine wl_load_mid (o := ⟨some 6, _, _, _, _, _⟩) ?_ 23 (.tmp 5) ?_ _ _ ?_ R1 _ HR.out.1 Try.underlying23 ?_ ?_ ?_); (focus rfl); (focus rfl); (focus rfl); (focus rfl); (focus (rw [HSZ.out.1]; kernel_rfl))) | ((with_reducible refine wl_load_mid (o := ⟨some 8, _, _, _, _, _⟩) ?_ 23 (.tmp 7) ?_ _ _ ?_ R2 _ HR.out.2 Try.underlying23 ?_ ?_ ?_); (focus rfl); (focus rfl); (focus rfl); (focus rfl); (focus (rw [HSZ.out.2]; kernel_rfl))))
    go_ret
    exact ⟨rfl, HB.out⟩
  | true =>
    by_cases h1 : s = s2
    · subst h1
      by_cases h2 : a = a2
      · subst h2
        go_enter Try.func21, Try.ntmps21
        go_wp2_with (first | ((with_reducible refine wl_load_mid (o := ⟨some 6, _, _, _, _, _⟩) ?_ 23 (.tmp 5) ?_ _ _ ?_ R1 _ HR.out.1 Try.underlying23 ?_ ?_ ?_); (focus rfl); (focus rfl); (focus rfl); (focus rfl); (focus (rw [HSZ.out.1]; kernel_rfl))) | ((with_reducible refine wl_load_mid (o := ⟨some 8, _, _, _, _, _⟩) ?_ 23 (.tmp 7) ?_ _ _ ?_ R2 _ HR.out.2 Try.underlying23 ?_ ?_ ?_); (focus rfl); (focus rfl); (focus rfl); (focus rfl); (focus (rw [HSZ.out.2]; kernel_rfl))))
        go_ret
        exact ⟨by simp, HB.out⟩
      · have h2b : (a == a2) = false := beq_eq_false_iff_ne.2 h2
        have HF : Hid (decide (a = a2) = false) := Lib.hid (decide_eq_false h2)
        clear h2
        go_enter Try.func21, Try.ntmps21
        go_wp2_with (first | ((with_reducible refine wl_load_mid (o := ⟨some 6, _, _, _, _, _⟩) ?_ 23 (.tmp 5) ?_ _ _ ?_ R1 _ HR.out.1 Try.underlying23 ?_ ?_ ?_); (focus rfl); (focus rfl); (focus rfl); (focus rfl); (focus (rw [HSZ.out.1]; kernel_rfl))) | ((with_reducible refine wl_load_mid (o := ⟨some 8, _, _, _, _, _⟩) ?_ 23 (.tmp 7) ?_ _ _ ?_ R2 _ HR.out.2 Try.underlying23 ?_ ?_ ?_); (focus rfl); (focus rfl); (focus rfl); (focus rfl); (focus (rw [HSZ.out.2]; kernel_rfl))))
        go_ret
        exact ⟨by simp [HF.out], HB.out⟩
    · have h1b : (s == s2) = false := beq_eq_false_iff_ne.2 h1
      have HF : Hid (decide (s = s2) = false) := Lib.hid (decide_eq_false h1)
      clear h1
      go_enter Try.func21, Try.ntmps21
      go_wp2_with (first | ((with_reducible refine wl_load_mid (o := ⟨some 6, _, _, _, _, _⟩) ?_ 23 (.tmp 5) ?_ _ _ ?_ R1 _ HR.out.1 Try.underlying23 ?_ ?_ ?_); (focus rfl); (focus rfl); (focus rfl); (focus rfl); (focus (rw [HSZ.out.1]; kernel_rfl))) | ((with_reducible refine wl_load_mid (o := ⟨some 8, _, _, _, _, _⟩) ?_ 23 (.tmp 7) ?_ _ _ ?_ R2 _ HR.out.2 Try.underlying23 ?_ ?_ ?_); (focus rfl); (focus rfl); (focus rfl); (focus rfl); (focus (rw [HSZ.out.2]; kernel_rfl))))
      go_ret
      exact ⟨by simp [HF.out], HB.out⟩
/-- v is a slice of slices of the bytes ls -/
def RdS (w : World) (v : Value) (ls : List (List Int)) : Prop :=
  ∃ a cap, v = .slice a ls.length cap ∧ ∀ i, i < ls.length → ∃ B O x b o, a = some ⟨B, O, none⟩ ∧ w.cell? ⟨B, O + i, none⟩ = some x ∧ SlV x b o (ls.getD i []).length ∧ Lies w b o (ls.getD i [])
theorem RdS.below {w w' : World} {v : Value} {ls : List (List Int)} (h : RdS w v ls) (hb : Below w.heap.size w w') : RdS w' v ls := by
  obtain ⟨a, cap, hv, hi⟩ := h
  refine ⟨a, cap, hv, fun i h => ?_⟩
  obtain ⟨B, O, x, b, o, h1, h2, h3, h4⟩ := hi i h
  exact ⟨B, O, x, b, o, h1, (hb.cell (block_lt_of_cell h2)).trans h2, h3, h4.below' hb⟩
theorem OwnS.rd {base : Nat} {w : World} {v : Value} {ls : List (List Int)} (h : OwnS base w v ls) : RdS w v ls := by
  obtain ⟨a, cap, hv, _, hi⟩ := h.form
  refine ⟨a, cap, hv, fun i hl => ?_⟩
  obtain ⟨g, x, h1, _, h2, h3⟩ := hi i hl
  obtain ⟨b, s, l, _⟩ := h3.slv
  exact ⟨g, 0, x, b, 0, h1, by rw [Nat.zero_add]; exact h2, s, l⟩
/-- two lists of bytes are the same -/
def sameLB (ls ms : List (List Int)) : Bool := decide (ls = ms)
theorem sameLB_ne {ls ms : List (List Int)} (i : Nat) (h : ls.getD i [] ≠ ms.getD i []) : sameLB ls ms = false := by
  unfold sameLB
  exact decide_eq_false (fun e => h (by rw [e]))
theorem sameLB_eq {ls ms : List (List Int)} (hl : ls.length = ms.length) (h : ∀ i, i < ls.length → ls.getD i [] = ms.getD i []) : sameLB ls ms = true := by
  unfold sameLB
  refine decide_eq_true (List.ext_getElem hl fun i h1 h2 => ?_)
  have := h i h1
  simpa [List.getD, h1, h2] using this
set_option maxHeartbeats 1000000 in
theorem blobs_any (v v2 : Value) (ls ms : List (List Int)) (bl : ∀ i, Bytes (ls.getD i [])) (bm : ∀ i, Bytes (ms.getD i [])) (hln : ls.length ≤ 10000000) (hmn : ms.length ≤ 10000000) (w : World) (hv : RdS w v ls) (hv2 : RdS w v2 ms) :
    Calls Try.prog 24 #[v, v2] w fun e w' => e = .returned (.bool (sameLB ls ms)) ∧ Below w.heap.size w w' := by
  have HV := Lib.hid (And.intro hv hv2)
  obtain ⟨a, cap, rfl, hi⟩ := hv
  obtain ⟨a2, cap2, rfl, hi2⟩ := hv2
  clear hi hi2
  by_cases hne : ls.length = ms.length
  · have HL := Lib.hid (And.intro bl (And.intro bm (And.intro hne hmn)))
    rw [← hne] at HV ⊢
    obtain ⟨n, hn⟩ : ∃ n, n = ls.length := ⟨_, rfl⟩
    rw [← hn] at HV hln ⊢
    have HN := Lib.hid hn
    clear bl bm hne hmn hn
    go_enter Try.func24, Try.ntmps24
    go_wp2_with fail
    go_loopw [5] (fun i wr => ∃ k : Nat, k ≤ n ∧ i = .int .i64 (k : Int) ∧ (∀ j, j < k → ls.getD j [] = ms.getD j []) ∧ Below w.heap.size w wr) (fun i _ => n - (intOf i).toNat)
    case atStart => exact ⟨0, Nat.zero_le _, rfl, fun j h => absurd h (by omega), Below.refl _ _⟩
    case round =>
      obtain ⟨k, hk, rfl, hall, hbw⟩ := hrel
      have HA := Lib.hid (And.intro hall hbw)
      clear hall hbw
      by_cases hlt : k < n
      · obtain ⟨a1', cp1, e1, h1⟩ := HV.out.1.below HA.out.2
        obtain ⟨a2', cp2, e2, h2⟩ := HV.out.2.below HA.out.2
        obtain ⟨B, O, x, b, o, rfl, q1, q2, q3⟩ := h1 k (by rw [← HN.out]; exact hlt)
        obtain ⟨B', O', x', b', o', rfl, r1, r2, r3⟩ := h2 k (by rw [← HL.out.2.2.1, ← HN.out]; exact hlt)
        injection e1 with e1a e1b e1c
        injection e2 with e2a e2b e2c
        subst e1a
        subst e2a
        clear e1b e1c e2b e2c h1 h2
        have hc1 : ∀ x1 : HW (QC wr), (convert 24 9 x).run Try.prog x1.w = .ok (.string (strOfNums (ls.getD k []))) x1.w := fun x1 => conv_slv b o x _ q2 _ (q3.below' (QC_below (Below.refl _ _) x1.h))
        have hc2 : ∀ x1 : HW (QC wr), (convert 24 9 x').run Try.prog x1.w = .ok (.string (strOfNums (ms.getD k []))) x1.w := fun x1 => conv_slv b' o' x' _ r2 _ (r3.below' (QC_below (Below.refl _ _) x1.h))
        have hd1 := QC_cell q1
        have hd2 := QC_cell r1
        have HE := Lib.hid (nums_eql (HL.out.1 k) (HL.out.2.1 k))
        generalize strOfNums (ls.getD k []) = S1 at *
        generalize strOfNums (ms.getD k []) = S2 at *
        have hS := QC_all (w := wr)
        haveI := QC_inst wr
        have i0 : (0 : Int) ≤ (k : Int) := by omega
        have i1 : (k : Int) < (n : Int) := by omega
        have s1 : IntKind.i64.wrap ((k : Int) + 1) = ((k + 1 : Nat) : Int) := by rw [IntKind.wrap_i64]; omega
        clear q1 q2 q3 r1 r2 r3
        by_cases hq : (S1.toList == S2.toList) = true
        · have hq2 : (S1.toList == S2.toList) = true := hq
          have HQ : Hid (ls.getD k [] = ms.getD k []) := Lib.hid (by have h := HE.out.symm.trans hq; unfold sameB at h; exact of_decide_eq_true h)
          go_wp2_with fail
          refine wp_region_head (QC wr) 11 (by kernel_rfl) (by kernel_rfl) (QC_start _) ?_
          simp only [List.take_succ_cons, List.take_zero, List.drop_succ_cons, List.drop_zero]
          repeat (first
            | (refine headG_step (fun K hK => ?_)
               go_simp
               first
                 | (refine hK _ ?_; clear hK K)))
          refine headG_nil ?_
          intro w2 q2
          have hb2 : Below w.heap.size w w2 := QC_below HA.out.2 q2
          have HQ2 : Hid (∀ j, j < k + 1 → ls.getD j [] = ms.getD j []) := Lib.hid (fun j hj => by
            rcases Nat.lt_or_ge j k with h | h
            · exact HA.out.1 j h
            · obtain rfl : j = k := by omega
              exact HQ.out)
          clear hc1 hc2 hd1 hd2 hS q2
          go_wp2_with fail
          go_roundw
          case rel => exact ⟨k + 1, by omega, rfl, HQ2.out, hb2⟩
          case measure => simp [intOf]; omega
        · have hq2 : (S1.toList == S2.toList) = false := by simpa using hq
          have HQ : Hid (sameLB ls ms = false) := Lib.hid (sameLB_ne k (by have h := HE.out.symm.trans hq2; unfold sameB at h; exact of_decide_eq_false h))
          clear hq
          go_wp2_with fail
          refine wp_region_head (QC wr) 11 (by kernel_rfl) (by kernel_rfl) (QC_start _) ?_
          simp only [List.take_succ_cons, List.take_zero, List.drop_succ_cons, List.drop_zero]
          repeat (first
            | (refine headG_step (fun K hK => ?_)
               go_simp
               first
                 | (refine hK _ ?_; clear hK K)))
          refine headG_nil ?_
          intro w2 q2
          have hb2 : Below w.heap.size w w2 := QC_below HA.out.2 q2
          clear hc1 hc2 hd1 hd2 hS q2
          go_wp2_with fail
          go_ret
          exact ⟨by rw [HQ.out]; rfl, hb2⟩
      · have hge : ¬ (k : Int) < (n : Int) := by omega
        have HQ : Hid (sameLB ls ms = true) := Lib.hid (sameLB_eq HL.out.2.2.1 fun i hi => HA.out.1 i (by have := HN.out; omega))
        go_wp2_with fail
        go_ret
        exact ⟨by rw [HQ.out]; rfl, HA.out.2⟩
  · have HQ : Hid (sameLB ls ms = false) := Lib.hid (by unfold sameLB; exact decide_eq_false (fun e => hne (by rw [e])))
    have hb : ((ls.length : Int) == (ms.length : Int)) = false := beq_eq_false_iff_ne.2 (by omega)
    have hb2 : ((ls.length : Int) != (ms.length : Int)) = true := by rw [bne_iff_ne]; omega
    clear bl bm hln hmn HV
    generalize ls.length = n1 at *
    generalize ms.length = n2 at *
    go_enter Try.func24, Try.ntmps24
    go_wp2_with fail
    go_ret
    exact ⟨by rw [HQ.out]; rfl, Below.refl _ _⟩
end Go.Proofs.Ytjnimbhecfpnmaa
