/- The statement GatherMakes: in whatever order the parts of bytes come, doubled, among others', they make those bytes when the last one is there, and nothing ahead of that. No condition. -/
import Derived.Test.YtjnimbhecfpnmaaAwake19
import Derived.Test.YtjnimbhecfpnmaaOpenB
import Derived.Test.YtjnimbhecfpnmaaMakes
import Derived.Deep.Cut
import Derived.OpenShut
import Derived.ShutString
import Derived.ChangeOld
namespace Go.Proofs.Ytjnimbhecfpnmaa.gatherMakesDone
open Go.ChangeShapes Go.WideShapes Go.ChangeAt Go.RowKit
set_option linter.unusedVariables false
set_option linter.unusedSimpArgs false
set_option maxRecDepth 100000
attribute [local irreducible] SlV Lies headG

attribute [local go_sem] takes takesE comesTo
def rowBool (S : List Bool) : Array Value := (S.map Value.bool).toArray
theorem rowBool_get (S : List Bool) (k : Nat) (h : k < S.length) : (rowBool S)[k]? = some (.bool (S.getD k false)) := by simp [rowBool, h, List.getD]
theorem rowBool_set (S : List Bool) (k : Nat) : rowBool (S.set k true) = (rowBool S).setIfInBounds k (.bool true) := by
  unfold rowBool
  apply Array.toList_inj.1
  simp [List.map_set]
def seen0 : List Bool := List.replicate 20 false
theorem start_false (k : Nat) : seen0.getD k false = false := by
  unfold seen0
  rw [List.getD, List.getElem?_replicate]
  split <;> rfl
theorem leftF_start (N : Nat) : leftF N seen0 = N := by
  unfold leftF
  rw [List.countP_eq_length.2 (fun k _ => by rw [start_false]; rfl), List.length_range]
theorem zero_seen (w : World) : (zeroValue 58).run Try.prog w = .ok (.agg (rowBool seen0)) w := by kernel_rfl
theorem not_bool {w : World} {g i : Nat} {S : List Bool} {t : TypeId} {v : Value} (hb : w.heap[g]? = some (.cells (rowBool S) t (0, 0))) (h : w.cell? ⟨g, i, none⟩ = some v) : ∃ x, v = .bool x := by
  rw [cell_of_row w g i _ t _ hb] at h
  unfold rowBool at h
  rw [List.getElem?_toArray, List.getElem?_map] at h
  cases hs : S[i]? with
  | none => rw [hs] at h; cases h
  | some x => rw [hs] at h; injection h with h; exact ⟨x, h.symm⟩
theorem rd_bool {w : World} {g k : Nat} {S : List Bool} {t : TypeId} {v : Value} {qs : List (Pt × Value)} (hb : w.heap[g]? = some (.cells (rowBool S) t (0, 0))) (u : Value) (h : RdP w.heap.size w v qs) : RdP (w.setCell ⟨g, k, none⟩ u).heap.size (w.setCell ⟨g, k, none⟩ u) v qs := by
  have hB : But g w (w.setCell ⟨g, k, none⟩ u) := But.of_store (fun j hj => heap_setCell_other _ _ _ _ hj) (fun B' w0 hB' hb => hb.setCell hB' _)
  obtain ⟨hg, g2, o2, h1, h2, h3⟩ := h
  refine ⟨fun q hq => ?_, g2, o2, h1, fun j x hj => ?_, fun hl => Nat.lt_of_lt_of_le (h3 hl) hB.size⟩
  · obtain ⟨hok, b, o, k1, k2, k3⟩ := hg q hq
    refine ⟨hok, b, o, k1, ?_, fun hl => Nat.lt_of_lt_of_le (k3 hl) hB.size⟩
    unfold Lies at k2 ⊢
    intro j hj
    refine hB.cell (k2 j hj) (fun e => ?_)
    have e2 : b = g := e
    obtain ⟨x, hx⟩ := not_bool hb (by rw [← e2]; exact k2 j hj)
    cases hx
  · refine hB.cell (h2 j x hj) (fun e => ?_)
    have e2 : g2 = g := e
    obtain ⟨y, hy⟩ := not_bool hb (by rw [← e2]; exact h2 j x hj)
    subst hy
    obtain ⟨q, hq, hm⟩ := List.mem_flatMap.1 (List.mem_of_getElem? hj)
    obtain ⟨_, b, o, k1, _, _⟩ := hg q hq
    obtain ⟨a, c, hqe, _⟩ := by unfold SlV at k1; exact k1
    unfold qC pcells at hm
    rcases List.mem_append.1 hm with h4 | h4
    · obtain ⟨z, _, hz⟩ := List.mem_map.1 h4
      cases hz
    · simp [hqe] at h4
set_option maxHeartbeats 8000000 in
theorem walk (v0 : Value) (b0 o0 : Nat) (l0 : List Int) (v1 : Value) (b1 o1 : Nat) (l1 : List Int) (v2 : Value) (b2 o2 : Nat) (l2 : List Int) (hv0 : SlV v0 b0 o0 l0.length) (hb0 : Bytes l0) (hv1 : SlV v1 b1 o1 l1.length) (hb1 : Bytes l1) (hv2 : SlV v2 b2 o2 l2.length) (hb2 : Bytes l2) (w : World) (hl0 : Lies w b0 o0 l0) (hl1 : Lies w b1 o1 l1) (hl2 : Lies w b2 o2 l2) :
    Calls Try.prog 9 #[v0, v1, v2] w fun e w' => e = .returned (.bool true) ∧ Below w.heap.size w w' := by
  have HV := Lib.hid (And.intro hv0 (And.intro hb0 (And.intro hl0 (And.intro hv1 (And.intro hb1 (And.intro hl1 (And.intro hv2 (And.intro hb2 hl2))))))))
  obtain ⟨p0, c0, rfl, _⟩ := by unfold SlV at hv0; exact hv0
  obtain ⟨p1, c1, rfl, _⟩ := by unfold SlV at hv1; exact hv1
  obtain ⟨p2, c2, rfl, _, _, hp2, _⟩ := by unfold SlV at hv2; exact hv2
  have HE := Lib.hid (nums_eql hb0 hb1)
  obtain ⟨S0, hS0⟩ : ∃ S, S = strOfNums l0 := ⟨_, rfl⟩
  obtain ⟨S1, hS1⟩ : ∃ S, S = strOfNums l1 := ⟨_, rfl⟩
  have HS0 := Lib.hid hS0
  rw [← hS0, ← hS1] at HE
  have HCV0 : Hid (∀ W, Below w.heap.size w W → (convert 24 9 (.slice p0 l0.length c0)).run Try.prog W = .ok (.string S0) W) := Lib.hid fun W hW => by rw [hS0]; exact conv_slv b0 o0 _ l0 HV.out.1 W (HV.out.2.2.1.below' hW)
  have HCV1 : Hid (∀ W, Below w.heap.size w W → (convert 24 9 (.slice p1 l1.length c1)).run Try.prog W = .ok (.string S1) W) := Lib.hid fun W hW => by rw [hS1]; exact conv_slv b1 o1 _ l1 HV.out.2.2.2.1 W (HV.out.2.2.2.2.2.1.below' hW)
  have HPA : Hid (∀ W, Below w.heap.size w W → 1 ≤ l0.length → l0.length ≤ 100 → Calls Try.prog 29 #[.slice p0 l0.length c0, .int .i64 7] W fun e w' => ∃ v' qs, e = .returned v' ∧ RdP w'.heap.size w' v' qs ∧ qs.map (·.1) = partsF l0 7 ∧ Below W.heap.size W w') := Lib.hid fun W hW h1 h2 => parts_any _ b0 o0 l0 7 (by decide) (by decide) HV.out.2.1 (by omega) HV.out.1 W (HV.out.2.2.1.below' hW)
  have HPB : Hid (∀ W, Below w.heap.size w W → 1 ≤ l1.length → l1.length ≤ 100 → Calls Try.prog 29 #[.slice p1 l1.length c1, .int .i64 9] W fun e w' => ∃ v' qs, e = .returned v' ∧ RdP w'.heap.size w' v' qs ∧ qs.map (·.1) = partsF l1 9 ∧ Below W.heap.size W w') := Lib.hid fun W hW h1 h2 => parts_any _ b1 o1 l1 9 (by decide) (by decide) HV.out.2.2.2.2.1 (by omega) HV.out.2.2.2.1 W (HV.out.2.2.2.2.2.1.below' hW)
  obtain ⟨n, hn⟩ : ∃ n, n = l0.length := ⟨_, rfl⟩
  obtain ⟨m, hm⟩ : ∃ n, n = l1.length := ⟨_, rfl⟩
  obtain ⟨r, hr⟩ : ∃ n, n = l2.length := ⟨_, rfl⟩
  rw [← hn] at HPA HCV0 ⊢
  rw [← hm] at HPB HCV1 ⊢
  rw [← hr] at hp2 ⊢
  have HN := Lib.hid (And.intro hn (And.intro hm (And.intro hr hp2)))
  clear hn hm hr hp2 hv0 hb0 hl0 hv1 hb1 hl1 hv2 hb2 hl2 hS0 hS1
  go_enter Try.func9, Try.ntmps9
  go_wp2_with fail
  refine (awake19_any _).mono ?_
  rintro e wa ⟨rfl, ba⟩
  have HA := Lib.hid ba
  have cv0 := HCV0.out wa ba
  have cv1 := HCV1.out wa ba
  clear ba
  rcases Nat.eq_zero_or_pos n with h0 | h0
  · subst h0
    go_wp2_with fail
    go_ret
    exact ⟨rfl, HA.out⟩
  have e1 : ((n : Int) == 0) = false := beq_eq_false_iff_ne.2 (by omega)
  rcases Nat.lt_or_ge 100 n with h5 | h5
  · have e2 : (100 : Int) < (n : Int) := by omega
    go_wp2_with fail
    go_ret
    exact ⟨rfl, HA.out⟩
  have e2 : ¬ (100 : Int) < (n : Int) := by omega
  rcases Nat.eq_zero_or_pos m with h1 | h1
  · subst h1
    go_wp2_with fail
    go_ret
    exact ⟨rfl, HA.out⟩
  have e3 : ((m : Int) == 0) = false := beq_eq_false_iff_ne.2 (by omega)
  rcases Nat.lt_or_ge 100 m with h6 | h6
  · have e4 : (100 : Int) < (m : Int) := by omega
    go_wp2_with fail
    go_ret
    exact ⟨rfl, HA.out⟩
  have e4 : ¬ (100 : Int) < (m : Int) := by omega
  obtain ⟨sb, hsb⟩ : ∃ x, x = sameB l0 l1 := ⟨_, rfl⟩
  have e5 : (S0.toList == S1.toList) = sb := by rw [hsb]; exact HE.out
  have HSB := Lib.hid hsb
  clear hsb
  cases sb with
  | true =>
    go_wp2_with fail
    go_ret
    exact ⟨rfl, HA.out⟩
  | false =>
    have H5 := Lib.hid (And.intro h0 (And.intro h5 (And.intro h1 h6)))
    have P1 := Lib.hid (HPA.out wa HA.out h0 h5)
    have HPB2 : Hid (∀ W, Below w.heap.size w W → Calls Try.prog 29 #[.slice p1 m c1, .int .i64 9] W fun e w' => ∃ v' qs, e = .returned v' ∧ RdP w'.heap.size w' v' qs ∧ qs.map (·.1) = partsF l1 9 ∧ Below W.heap.size W w') := Lib.hid fun W hW => HPB.out W hW h1 h6
    clear h0 h5 h1 h6 HPA HPB
    go_wp2_with fail
    refine P1.out.mono ?_
    rintro e wb ⟨vP, qp, rfl, rdp, hqp, bb⟩
    obtain ⟨N, hN⟩ : ∃ N, N = chunksN n 7 := ⟨_, rfl⟩
    have hpl : qp.length = N := by have := congrArg List.length hqp; rw [partsF_len, ← HN.out.1, ← hN] at this; simpa using this
    obtain ⟨gp, op, svp, rgp, _⟩ := rdp.2
    obtain ⟨pp, cp, rfl, _, _, hpp, _⟩ := by unfold SlV at svp; exact svp
    rw [hpl] at hpp ⊢
    have hN1 : 1 ≤ N ∧ N ≤ 15 := by
      constructor
      · rw [hN]; exact (chunk_lt' (by decide)).2 (by have := H5.out; omega)
      · rw [hN]; unfold chunksN; have := H5.out; omega
    obtain rfl := hpp (by omega)
    have HB := Lib.hid (And.intro (BC_below HA.out HA.out.size bb) (And.intro rdp (And.intro rgp (And.intro hqp (And.intro hpl (And.intro hN hN1))))))
    clear rdp rgp hqp hpl hN hN1 svp hpp bb cv0 cv1
    go_wp2_with fail
    refine (HPB2.out wb HB.out.1).mono ?_
    rintro e wc ⟨vQ, qq, rfl, rdq, hqq, bc⟩
    obtain ⟨M, hM⟩ : ∃ N, N = chunksN m 9 := ⟨_, rfl⟩
    have hql : qq.length = M := by have := congrArg List.length hqq; rw [partsF_len, ← HN.out.2.1, ← hM] at this; simpa using this
    obtain ⟨gq, oq, svq, rgq, _⟩ := rdq.2
    obtain ⟨pq, cq, rfl, _, _, hpq, _⟩ := by unfold SlV at svq; exact svq
    rw [hql] at hpq ⊢
    have hM1 : 1 ≤ M ∧ M ≤ 12 := by
      constructor
      · rw [hM]; exact (chunk_lt' (by decide)).2 (by have := H5.out; omega)
      · rw [hM]; unfold chunksN; have := H5.out; omega
    obtain rfl := hpq (by omega)
    have HC := Lib.hid (And.intro (BC_below HB.out.1 HB.out.1.size bc) (And.intro rdq (And.intro rgq (And.intro hqq (And.intro hql (And.intro hM (And.intro hM1 bc)))))))
    clear rdq rgq hqq hql hM hM1 svq hpq bc
    obtain ⟨RD, hRD⟩ : ∃ R, R = row .u8 (sumF l0) := ⟨_, rfl⟩
    obtain ⟨RE, hRE⟩ : ∃ R, R = row .u8 (sumF l1) := ⟨_, rfl⟩
    have hRz : RD.size = 32 := by rw [hRD, row_size, sumF_len]
    have hEz : RE.size = 32 := by rw [hRE, row_size, sumF_len]
    have hR1 : RD.all (·.oneCell') = true := by rw [hRD]; exact row_one _ _
    have getp : ∀ k (h : k < qp.length), (qp[k]'h).1 = ptF l0 7 k := fun k hk => by
      have hkN : k < N := by rw [← HB.out.2.2.2.2.1]; exact hk
      have h : (qp.map (·.1))[k]? = some (ptF l0 7 k) := by rw [HB.out.2.2.2.1]; simp [partsF, ← HN.out.1, ← HB.out.2.2.2.2.2.1, hkN]
      rw [List.getElem?_map, List.getElem?_eq_getElem hk] at h
      injection h
    have getq : ∀ k (h : k < qq.length), (qq[k]'h).1 = ptF l1 9 k := fun k hk => by
      have hkN : k < M := by rw [← HC.out.2.2.2.2.1]; exact hk
      have h : (qq.map (·.1))[k]? = some (ptF l1 9 k) := by rw [HC.out.2.2.2.1]; simp [partsF, ← HN.out.2.1, ← HC.out.2.2.2.2.2.1, hkN]
      rw [List.getElem?_map, List.getElem?_eq_getElem hk] at h
      injection h
    have hp0 : 0 < qp.length := by have := HB.out; omega
    have hq0 : 0 < qq.length := by have := HC.out; omega
    have rwp : wc.rangeAt gp op RD.toList := fun j u hj => by
      have h := range_get HB.out.2.2.1 HB.out.2.1.1.wh hp0
      rw [Nat.zero_mul, Nat.add_zero] at h
      have h2 := range_wh h
      rw [getp 0 hp0] at h2
      refine later HC.out.2.2.2.2.2.2.2 (h2 j u ?_)
      rw [hRD] at hj
      exact hj
    have rwq : wc.rangeAt gq oq RE.toList := fun j u hj => by
      have h := range_get HC.out.2.2.1 HC.out.2.1.1.wh hq0
      rw [Nat.zero_mul, Nat.add_zero] at h
      have h2 := range_wh h
      rw [getq 0 hq0] at h2
      refine h2 j u ?_
      rw [hRE] at hj
      exact hj
    have HG := Lib.hid (And.intro getp getq)
    have HRR := Lib.hid (And.intro rwp (And.intro rwq (And.intro hRz (And.intro hEz (And.intro hR1 (And.intro hRD hRE))))))
    have hzd := zero_dig
    have j0 : (0 : Int) < (N : Int) := by have := HB.out; omega
    have j1 : (0 : Int) < (M : Int) := by have := HC.out; omega
    have j0' : 0 < N := by have := HB.out; omega
    have j1' : 0 < M := by have := HC.out; omega
    clear getp getq rwp rwq hRz hEz hR1 hRD hRE hp0 hq0
    obtain ⟨W9, hW9⟩ : ∃ W, W = wc.alloc (.cells RD 23) := ⟨_, rfl⟩
    obtain ⟨g9, hg9⟩ : ∃ g, g = wc.heap.size := ⟨_, rfl⟩
    have n9 := heap_alloc_new wc (.cells RD 23)
    have b9 := below1 wc (.cells RD 23)
    rw [← hW9, ← hg9] at n9
    rw [← hW9] at b9
    have H9 := Lib.hid (And.intro n9 (And.intro b9 (And.intro hW9 hg9)))
    clear n9 b9 hW9 hg9
    go_upto_region 7 with (first | ((with_reducible refine wlw_load_mid (o := ⟨some 56, _, _, _, _, _⟩) ?_ 23 (.tmp 55) ?_ _ _ ?_ RD _ HRR.out.1 Try.underlying23 ?_ ?_ ?_); (focus rfl); (focus rfl); (focus rfl); (focus rfl); (focus (rw [HRR.out.2.2.1]; kernel_rfl))) | (refine wpList_store_rowTo rfl 23 _ _ rfl rfl _ RD rfl rfl 23 zb32 (heap_alloc_new wc _) (by rw [HRR.out.2.2.1]; kernel_rfl) (by rw [HRR.out.2.2.1]; kernel_rfl) HRR.out.2.2.2.2.1 ?_; rw [World.setRow_alloc_new]))
    rw [← H9.out.2.2.1, ← H9.out.2.2.2]
    clear hzd
    obtain ⟨z, hz⟩ : ∃ z, z = decide (sumF l0 = sumF l1) := ⟨_, rfl⟩
    have heq : ∀ w, (binOp .eql 23 (.agg RD) (.agg RE)).run Try.prog w = .ok (.bool z) w := fun w => by
      have h := run_eql_row w 23 5 32 .u8 Try.underlying23 Try.underlying5 (by kernel_rfl) (sumF l0) (sumF l1) (sumF_len _) (sumF_len _)
      rw [← HRR.out.2.2.2.2.2.1, ← HRR.out.2.2.2.2.2.2, ← hz] at h
      exact h
    have HZ := Lib.hid hz
    have HF9 : Hid (∀ x : HW (BC W9), x.w.heap[g9]? = some (.cells RD 23 (0, 0))) := Lib.hid (BC_blk H9.out.1)
    have HF8 : Hid (∀ x : HW (BC W9), x.w.rangeAt gq oq RE.toList) := Lib.hid fun x j u hj => later (BC_trans H9.out.2.1 x.h) (HRR.out.2.1 j u hj)
    have HRS := Lib.hid (And.intro HRR.out.2.2.1 HRR.out.2.2.2.1)
    have hS := BC_all (w := W9)
    haveI := BC_inst W9
    clear hz
    refine wp_region_head (BC W9) 6 (by kernel_rfl) (by kernel_rfl) (BC_start _) ?_
    simp only [List.take_succ_cons, List.take_zero, List.drop_succ_cons, List.drop_zero]
    repeat (first
      | ((with_reducible refine headG_load_row (o := ⟨some 57, _, _, _, _, _⟩) 23 (.tmp 10) ?_ ?_ _ ?_ _ RD _ _ HF9.out Try.underlying23 ?_ ?_ ?_); (focus rfl); (focus rfl); (focus rfl); (focus rfl); (focus (rw [HRS.out.1]; kernel_rfl)))
      | ((with_reducible refine headG_load_mid (o := ⟨some 61, _, _, _, _, _⟩) 23 (.tmp 60) ?_ ?_ _ _ ?_ RE _ HF8.out Try.underlying23 ?_ ?_ ?_); (focus rfl); (focus rfl); (focus rfl); (focus rfl); (focus (rw [HRS.out.2]; kernel_rfl)))
      | (refine headG_step (fun K hK => ?_)
         go_simp
         (refine hK _ ?_; clear hK K)))
    refine headG_nil ?_
    intro w10 b10
    have H10 := Lib.hid (And.intro (BC_trans H9.out.2.1 b10) (And.intro (BC_below HC.out.1 HC.out.1.size (BC_trans H9.out.2.1 b10)) (BC_blk1 b10 H9.out.1)))
    clear hS b10 heq
    cases z with
    | true =>
      go_wp2_with fail
      go_ret
      exact ⟨rfl, H10.out.2.1⟩
    | false =>
      have hne : sumF l0 ≠ sumF l1 := of_decide_eq_false HZ.out.symm
      have HNE := Lib.hid hne
      have hzs := zero_seen
      clear hne
      obtain ⟨W12, hW12⟩ : ∃ W, W = w10.alloc (.cells (rowBool seen0) 58) := ⟨_, rfl⟩
      obtain ⟨g12, hg12⟩ : ∃ g, g = w10.heap.size := ⟨_, rfl⟩
      have n12 := heap_alloc_new w10 (.cells (rowBool seen0) 58)
      have b12 := below1 w10 (.cells (rowBool seen0) 58)
      rw [← hW12, ← hg12] at n12
      rw [← hW12] at b12
      have H12 := Lib.hid (And.intro n12 (And.intro b12 (And.intro hW12 hg12)))
      clear n12 b12 hW12 hg12
      go_upto_region 11 with fail
      rw [← H12.out.2.2.1, ← H12.out.2.2.2]
      clear hzs e1 e2 e3 e4 e5 j0 j1 j0' j1'
      go_wp2_with fail
      go_loopw [11, 13, 14] (fun v11 v13 v14 wr => ∃ (i : Nat) (S : List Bool) (qs : List (Pt × Value)), i ≤ 60 ∧ i ≤ r ∧ v14 = .int .i64 (i : Int) ∧ v13 = .int .i64 (leftF N S : Int) ∧ S.length = 20 ∧ RdP wr.heap.size wr v11 qs ∧ Makes l0 l1 N M S (qs.map (·.1)) ∧ qs.length ≤ i ∧ wr.heap[g12]? = some (.cells (rowBool S) 58 (0, 0)) ∧ BC w10 wr) (fun _ _ i _ => 61 - (intOf i).toNat)
      case atStart => exact ⟨0, seen0, [], by omega, Nat.zero_le _, rfl, by rw [leftF_start], by decide, RdP.nil _ _, ⟨fun p hp => by simp at hp, fun k _ hk => by rw [start_false] at hk; cases hk⟩, Nat.le_refl _, H12.out.1, H12.out.2.1⟩
      case round =>
        obtain ⟨i, S, qs, hi, hir, rfl, rfl, hSl, hrd, hmk, hql, hgS, hbr⟩ := hrel
        have HR := Lib.hid (And.intro hi (And.intro hir (And.intro hSl (And.intro hrd (And.intro hmk (And.intro hql (And.intro hgS hbr)))))))
        obtain ⟨av, cv, hform⟩ := hrd.form
        subst hform
        obtain ⟨ql, hqle⟩ : ∃ q, q = qs.length := ⟨_, rfl⟩
        rw [← hqle] at HR ⊢
        have HQL := Lib.hid hqle
        obtain ⟨L, hL⟩ : ∃ L, L = leftF N S := ⟨_, rfl⟩
        rw [← hL]
        have HL := Lib.hid hL
        clear hir hSl hrd hmk hql hgS hbr hqle hL
        by_cases hlt : i < r ∧ i < 60
        · obtain ⟨hl1, hl2⟩ := hlt
          have i0 : (0 : Int) ≤ (i : Int) := by omega
          have i1 : (i : Int) < (r : Int) := by omega
          have i2 : (i : Int) < 60 := by omega
          obtain ⟨I1, hI1⟩ : ∃ m, m = i + 1 := ⟨_, rfl⟩
          have s1 : IntKind.i64.wrap ((i : Int) + 1) = (I1 : Int) := by rw [IntKind.wrap_i64]; omega
          have HI := Lib.hid (And.intro hI1 (And.intro hl1 hl2))
          obtain rfl := HN.out.2.2.2 (by omega)
          obtain ⟨c, hc⟩ : ∃ c, c = l2.getD i 0 := ⟨_, rfl⟩
          have hcb : 0 ≤ c ∧ c ≤ 255 := by rw [hc]; exact HV.out.2.2.2.2.2.2.2.1 i
          have lc : 0 ≤ c := hcb.1
          have hbw := BC_below H10.out.2.1 H10.out.2.1.size HR.out.2.2.2.2.2.2.2
          have cb : wr.cell? ⟨b2, o2 + i, none⟩ = some (.int .u8 c) := by
            rw [hc]
            have h := HV.out.2.2.2.2.2.2.2.2.below' hbw
            unfold Lies at h
            exact h i (by rw [← HN.out.2.2.1]; exact hl1)
          have r3 : IntKind.i64.wrap c = c := by rw [IntKind.wrap_i64]; omega
          obtain ⟨NM, hNM⟩ : ∃ m, m = N + M := ⟨_, rfl⟩
          have s2 : IntKind.i64.wrap ((N : Int) + (M : Int)) = (NM : Int) := by rw [IntKind.wrap_i64]; have := HB.out; have := HC.out; omega
          have hN0 : ¬ (NM : Int) = 0 := by have := HB.out; omega
          obtain ⟨k, hk⟩ : ∃ k : Nat, (k : Int) = c % (NM : Int) := ⟨(c % (NM : Int)).toNat, Int.toNat_of_nonneg (Int.emod_nonneg _ hN0)⟩
          have hkN : k < NM := by have := Int.emod_lt_of_pos c (b := (NM : Int)) (by omega); omega
          have r5 : c % (NM : Int) = (k : Int) := hk.symm
          have HK := Lib.hid (And.intro hkN hNM)
          have HBW := Lib.hid hbw
          clear hl1 hl2 hI1 hc hcb hbw hNM hk hkN hi
          rcases Nat.lt_or_ge k N with hkl | hkl
          · have hkp : k < qp.length := by rw [HB.out.2.2.2.2.1]; exact hkl
            have k1 : ¬ (N : Int) ≤ (k : Int) := by omega
            have k2 : (k : Int) < (N : Int) := by omega
            have k3 : (0 : Int) ≤ (k : Int) := by omega
            have k4 : (k : Int) < 20 := by have := HB.out; omega
            have bpr : BC wb wr := BC_trans HC.out.2.2.2.2.2.2.2 (BC_trans H10.out.1 HR.out.2.2.2.2.2.2.2)
            have hA := add_any (.slice av ql cv) qs (qp[k]'hkp) wr HR.out.2.2.2.1 (by rw [← HQL.out]; have := HR.out; omega) (HB.out.2.1.1 _ (List.getElem_mem hkp)).1 (((HB.out.2.1.1 _ (List.getElem_mem hkp)).2.below bpr).mono bpr.size) (by
              rw [HG.out.1 k hkp]; show (pieceF l0 7 k).length ≤ _; rw [pieceF_len]; omega)
            have hrgk : wr.rangeAt gp (op + k * 35) (qC (qp[k]'hkp)).toArray.toList := fun j u hj => later bpr (range_get HB.out.2.2.1 HB.out.2.1.1.wh hkp j u hj)
            have hszk := qC_size (q := qp[k]'hkp) (HB.out.2.1.1.wh _ (List.getElem_mem hkp))
            rw [HG.out.1 k hkp] at hA
            obtain ⟨CP, hCP⟩ : ∃ C, C = (qC (qp[k]'hkp)).toArray := ⟨_, rfl⟩
            rw [← hCP] at hA hrgk hszk
            have HRK := Lib.hid (And.intro hrgk hszk)
            have hbl : l0.length ≤ 1000 := by have := HN.out; have := H5.out; omega
            have hkS : k < S.length := by rw [HR.out.2.2.1]; omega
            have cS := cell_row HR.out.2.2.2.2.2.2.1 k (rowBool_get S k hkS)
            cases hs : S.getD k false with
            | true =>
              have hao := HR.out.2.2.2.2.1.old (by rw [HB.out.2.2.2.2.2.1, HN.out.1]) hbl hkl hs
              rw [hao] at hA
              rw [hs] at cS
              have HAD := Lib.hid hA
              have HS := Lib.hid (And.intro hs hkS)
              clear hA hao hs hkS hCP hszk hrgk hbl hkp cS
              go_wp2_with ((with_reducible refine wlw_load_mid (o := ⟨some 109, _, _, _, _, _⟩) ?_ 26 (.tmp 108) ?_ _ _ ?_ CP _ HRK.out.1 Try.underlying26 ?_ ?_ ?_); (focus rfl); (focus rfl); (focus rfl); (focus rfl); (focus (rw [HRK.out.2]; kernel_rfl)))
              refine HAD.out.mono ?_
              rintro e wt ⟨vt, qt, rfl, rdt, hqt, bt⟩
              obtain ⟨at', ct, hf⟩ := rdt.form
              subst hf
              have gt := BC_blk1 bt HR.out.2.2.2.2.2.2.1
              have cT := cell_row gt k (rowBool_get S k HS.out.2)
              rw [HS.out.1] at cT
              have fT := free_row gt k
              obtain ⟨wq, hwq⟩ : ∃ W, W = wt.setCell ⟨g12, k, none⟩ (.bool true) := ⟨_, rfl⟩
              have hse : S.set k true = S := by
                refine List.ext_getElem (by simp) fun j h1 h2 => ?_
                rw [List.getElem_set]
                split
                · rename_i h; subst h
                  have := HS.out.1
                  rw [List.getD, List.getElem?_eq_getElem h2] at this
                  exact this.symm
                · rfl
              have gq2 : wq.heap[g12]? = some (.cells (rowBool S) 58 (0, 0)) := by
                rw [hwq, Go.heap_setCell_same _ _ _ _ _ _ gt, ← rowBool_set, hse]
              have rq : RdP wq.heap.size wq (.slice at' qt.length ct) qt := by rw [hwq]; exact rd_bool gt _ rdt
              have bq : BC w10 wq := by rw [hwq]; exact (BC_trans HR.out.2.2.2.2.2.2.2 bt).setCell (Nat.le_of_eq H12.out.2.2.2.symm) _
              have mq : Makes l0 l1 N M S (qt.map (·.1)) := by rw [hqt]; exact HR.out.2.2.2.2.1
              have lq : qt.length ≤ I1 := by have := congrArg List.length hqt; simp at this; have := HR.out; have := HI.out; have := HQL.out; omega
              have HT := Lib.hid (And.intro rq (And.intro mq (And.intro lq (And.intro HR.out.2.2.1 (And.intro gq2 (And.intro bq (And.intro hwq HL.out)))))))
              clear rq mq lq gq2 bq hwq hse rdt hqt bt gt
              obtain ⟨tl, htl⟩ : ∃ m, m = qt.length := ⟨_, rfl⟩
              rw [← htl] at HT ⊢
              have HTL := Lib.hid htl
              clear htl
              have hsmall : ∀ q ∈ qt, q.1.da.length ≤ 1000000 ∧ q.1.sz ≤ 1000000 := fun q hq => by
                have hm : q.1 ∈ qt.map (·.1) := List.mem_map_of_mem hq
                rcases HT.out.2.1.own _ hm with ⟨k', _, _, e⟩ | ⟨j', _, e⟩
                · rw [e]; show (pieceF l0 7 k').length ≤ _ ∧ (l0.length : Int) ≤ _; rw [pieceF_len]; have := HN.out; have := H5.out; omega
                · rw [e]; show (pieceF l1 9 j').length ≤ _ ∧ (l1.length : Int) ≤ _; rw [pieceF_len]; have := HN.out; have := H5.out; omega
              have hWh := whole_any (.slice at' tl ct) qt (sumF l0) wq HT.out.1 (by rw [← HTL.out]; have := HT.out; have := HI.out; omega) (fun q hq => (hsmall q hq).1) (fun q hq => (hsmall q hq).2) (sumF_len l0) (sumF_bytes l0)
              rw [HT.out.2.1.whole HNE.out (by rw [HB.out.2.2.2.2.2.1, HN.out.1]) (by have := HN.out; have := H5.out; omega) (by have := HN.out; have := H5.out; omega), ← HRR.out.2.2.2.2.2.1, ← HT.out.2.2.2.2.2.2.2] at hWh
              have HDG : Hid (wq.heap[g9]? = some (.cells RD 23 (0, 0))) := Lib.hid (BC_blk1 HT.out.2.2.2.2.2.1 H10.out.2.2)
              clear hsmall
              rcases Nat.eq_zero_or_pos L with hL0 | hL0
              · rw [if_pos hL0] at hWh
                simp only [Option.isSome_some, Option.getD_some] at hWh
                have HWH := Lib.hid hWh
                have HL0 := Lib.hid hL0
                clear hWh
                subst hL0
                go_upto_region 26 with fail
                rw [← HT.out.2.2.2.2.2.2.1]
                go_wp2_with ((with_reducible refine wlw_load_row (o := ⟨some 138, _, _, _, _, _⟩) ?_ 23 (.tmp 10) ?_ _ ?_ _ RD _ _ HDG.out Try.underlying23 ?_ ?_ ?_); (focus rfl); (focus rfl); (focus rfl); (focus rfl); (focus (rw [HRR.out.2.2.1]; kernel_rfl)))
                refine HWH.out.mono ?_
                rintro e wu ⟨vu, rfl, ownu, bu⟩
                obtain ⟨gu, su, lu, _⟩ := ownu.slv
                have cu := conv_slv gu 0 _ l0 su wu lu
                rw [← HS0.out] at cu
                have hbu := BC_below (BC_below H10.out.2.1 H10.out.2.1.size HT.out.2.2.2.2.2.1) (BC_below H10.out.2.1 H10.out.2.1.size HT.out.2.2.2.2.2.1).size bu
                have cu0 := HCV0.out wu hbu
                have HU := Lib.hid bu
                clear bu hbu ownu su lu
                go_wp2_with fail
                go_roundw
                case rel => exact ⟨I1, S, qt, by have := HI.out; omega, by have := HI.out; omega, rfl, by rw [← HT.out.2.2.2.2.2.2.2]; rfl, HT.out.2.2.2.1, by have h := HT.out.1.to HU.out; exact h, HT.out.2.1, by rw [← HTL.out]; exact HT.out.2.2.1, BC_blk1 HU.out HT.out.2.2.2.2.1, BC_trans HT.out.2.2.2.2.2.1 HU.out⟩
                case measure => have := HI.out; simp [intOf]; omega
              · rw [if_neg (by omega)] at hWh
                simp only [Option.isSome_none] at hWh
                have HWH := Lib.hid hWh
                have hl1 : ((L : Int) == 0) = false := beq_eq_false_iff_ne.2 (by omega)
                clear hWh hL0
                go_upto_region 26 with fail
                rw [← HT.out.2.2.2.2.2.2.1]
                go_wp2_with ((with_reducible refine wlw_load_row (o := ⟨some 138, _, _, _, _, _⟩) ?_ 23 (.tmp 10) ?_ _ ?_ _ RD _ _ HDG.out Try.underlying23 ?_ ?_ ?_); (focus rfl); (focus rfl); (focus rfl); (focus rfl); (focus (rw [HRR.out.2.2.1]; kernel_rfl)))
                refine HWH.out.mono ?_
                rintro e wu ⟨vu, rfl, _, bu⟩
                have HU := Lib.hid bu
                clear bu
                go_wp2_with fail
                go_roundw
                case rel => exact ⟨I1, S, qt, by have := HI.out; omega, by have := HI.out; omega, rfl, by rw [← HT.out.2.2.2.2.2.2.2], HT.out.2.2.2.1, by have h := HT.out.1.to HU.out; exact h, HT.out.2.1, by rw [← HTL.out]; exact HT.out.2.2.1, BC_blk1 HU.out HT.out.2.2.2.2.1, BC_trans HT.out.2.2.2.2.2.1 HU.out⟩
                case measure => have := HI.out; simp [intOf]; omega
            | false =>
              obtain ⟨ls', hao, hmk2, hlen2⟩ := HR.out.2.2.2.2.1.new HNE.out (by rw [HB.out.2.2.2.2.2.1, HN.out.1]) hbl hkl hkS (by rw [List.length_map, ← HQL.out]; have := HR.out; omega) hs
              rw [hao] at hA
              rw [hs] at cS
              have hLs := leftF_set (N := N) hkl hkS hs
              obtain ⟨L3, hL3⟩ : ∃ L, L = leftF N (S.set k true) := ⟨_, rfl⟩
              rw [← hL3, ← HL.out] at hLs
              have s6 : IntKind.i64.wrap ((L : Int) - 1) = (L3 : Int) := by
                have hb : L ≤ N := by rw [HL.out]; unfold leftF; exact Nat.le_trans List.countP_le_length (by simp)
                rw [IntKind.wrap_i64]; have := HB.out; omega
              have HAD := Lib.hid hA
              have HS := Lib.hid (And.intro hs (And.intro hkS (And.intro hmk2 (And.intro hlen2 hL3))))
              clear hA hao hs hkS hCP hszk hrgk hbl hkp cS hmk2 hlen2 hL3 hLs
              go_wp2_with ((with_reducible refine wlw_load_mid (o := ⟨some 109, _, _, _, _, _⟩) ?_ 26 (.tmp 108) ?_ _ _ ?_ CP _ HRK.out.1 Try.underlying26 ?_ ?_ ?_); (focus rfl); (focus rfl); (focus rfl); (focus rfl); (focus (rw [HRK.out.2]; kernel_rfl)))
              refine HAD.out.mono ?_
              rintro e wt ⟨vt, qt, rfl, rdt, hqt, bt⟩
              obtain ⟨at', ct, hf⟩ := rdt.form
              subst hf
              have gt := BC_blk1 bt HR.out.2.2.2.2.2.2.1
              have cT := cell_row gt k (rowBool_get S k HS.out.2.1)
              rw [HS.out.1] at cT
              have fT := free_row gt k
              obtain ⟨wq, hwq⟩ : ∃ W, W = wt.setCell ⟨g12, k, none⟩ (.bool true) := ⟨_, rfl⟩
              have gq2 : wq.heap[g12]? = some (.cells (rowBool (S.set k true)) 58 (0, 0)) := by
                rw [hwq, Go.heap_setCell_same _ _ _ _ _ _ gt, ← rowBool_set]
              have rq : RdP wq.heap.size wq (.slice at' qt.length ct) qt := by rw [hwq]; exact rd_bool gt _ rdt
              have bq : BC w10 wq := by rw [hwq]; exact (BC_trans HR.out.2.2.2.2.2.2.2 bt).setCell (Nat.le_of_eq H12.out.2.2.2.symm) _
              have mq : Makes l0 l1 N M (S.set k true) (qt.map (·.1)) := by rw [hqt]; exact HS.out.2.2.1
              have lq : qt.length ≤ I1 := by have := congrArg List.length hqt; have h4 := HS.out.2.2.2.1; simp at this h4; have := HR.out; have := HI.out; have := HQL.out; omega
              have HT := Lib.hid (And.intro rq (And.intro mq (And.intro lq (And.intro (show (S.set k true).length = 20 by rw [List.length_set]; exact HR.out.2.2.1) (And.intro gq2 (And.intro bq (And.intro hwq HS.out.2.2.2.2)))))))
              clear rq mq lq gq2 bq hwq rdt hqt bt gt
              obtain ⟨tl, htl⟩ : ∃ m, m = qt.length := ⟨_, rfl⟩
              rw [← htl] at HT ⊢
              have HTL := Lib.hid htl
              clear htl
              have hsmall : ∀ q ∈ qt, q.1.da.length ≤ 1000000 ∧ q.1.sz ≤ 1000000 := fun q hq => by
                have hm : q.1 ∈ qt.map (·.1) := List.mem_map_of_mem hq
                rcases HT.out.2.1.own _ hm with ⟨k', _, _, e⟩ | ⟨j', _, e⟩
                · rw [e]; show (pieceF l0 7 k').length ≤ _ ∧ (l0.length : Int) ≤ _; rw [pieceF_len]; have := HN.out; have := H5.out; omega
                · rw [e]; show (pieceF l1 9 j').length ≤ _ ∧ (l1.length : Int) ≤ _; rw [pieceF_len]; have := HN.out; have := H5.out; omega
              have hWh := whole_any (.slice at' tl ct) qt (sumF l0) wq HT.out.1 (by rw [← HTL.out]; have := HT.out; have := HI.out; omega) (fun q hq => (hsmall q hq).1) (fun q hq => (hsmall q hq).2) (sumF_len l0) (sumF_bytes l0)
              rw [HT.out.2.1.whole HNE.out (by rw [HB.out.2.2.2.2.2.1, HN.out.1]) (by have := HN.out; have := H5.out; omega) (by have := HN.out; have := H5.out; omega), ← HRR.out.2.2.2.2.2.1, ← HT.out.2.2.2.2.2.2.2] at hWh
              have HDG : Hid (wq.heap[g9]? = some (.cells RD 23 (0, 0))) := Lib.hid (BC_blk1 HT.out.2.2.2.2.2.1 H10.out.2.2)
              clear hsmall
              rcases Nat.eq_zero_or_pos L3 with hL0 | hL0
              · rw [if_pos hL0] at hWh
                simp only [Option.isSome_some, Option.getD_some] at hWh
                have HWH := Lib.hid hWh
                have HL0 := Lib.hid hL0
                clear hWh
                subst hL0
                go_upto_region 26 with fail
                rw [← HT.out.2.2.2.2.2.2.1]
                go_wp2_with ((with_reducible refine wlw_load_row (o := ⟨some 138, _, _, _, _, _⟩) ?_ 23 (.tmp 10) ?_ _ ?_ _ RD _ _ HDG.out Try.underlying23 ?_ ?_ ?_); (focus rfl); (focus rfl); (focus rfl); (focus rfl); (focus (rw [HRR.out.2.2.1]; kernel_rfl)))
                refine HWH.out.mono ?_
                rintro e wu ⟨vu, rfl, ownu, bu⟩
                obtain ⟨gu, su, lu, _⟩ := ownu.slv
                have cu := conv_slv gu 0 _ l0 su wu lu
                rw [← HS0.out] at cu
                have hbu := BC_below (BC_below H10.out.2.1 H10.out.2.1.size HT.out.2.2.2.2.2.1) (BC_below H10.out.2.1 H10.out.2.1.size HT.out.2.2.2.2.2.1).size bu
                have cu0 := HCV0.out wu hbu
                have HU := Lib.hid bu
                clear bu hbu ownu su lu
                go_wp2_with fail
                go_roundw
                case rel => exact ⟨I1, (S.set k true), qt, by have := HI.out; omega, by have := HI.out; omega, rfl, by rw [← HT.out.2.2.2.2.2.2.2]; rfl, HT.out.2.2.2.1, by have h := HT.out.1.to HU.out; exact h, HT.out.2.1, by rw [← HTL.out]; exact HT.out.2.2.1, BC_blk1 HU.out HT.out.2.2.2.2.1, BC_trans HT.out.2.2.2.2.2.1 HU.out⟩
                case measure => have := HI.out; simp [intOf]; omega
              · rw [if_neg (by omega)] at hWh
                simp only [Option.isSome_none] at hWh
                have HWH := Lib.hid hWh
                have hl1 : ((L3 : Int) == 0) = false := beq_eq_false_iff_ne.2 (by omega)
                clear hWh hL0
                go_upto_region 26 with fail
                rw [← HT.out.2.2.2.2.2.2.1]
                go_wp2_with ((with_reducible refine wlw_load_row (o := ⟨some 138, _, _, _, _, _⟩) ?_ 23 (.tmp 10) ?_ _ ?_ _ RD _ _ HDG.out Try.underlying23 ?_ ?_ ?_); (focus rfl); (focus rfl); (focus rfl); (focus rfl); (focus (rw [HRR.out.2.2.1]; kernel_rfl)))
                refine HWH.out.mono ?_
                rintro e wu ⟨vu, rfl, _, bu⟩
                have HU := Lib.hid bu
                clear bu
                go_wp2_with fail
                go_roundw
                case rel => exact ⟨I1, (S.set k true), qt, by have := HI.out; omega, by have := HI.out; omega, rfl, by rw [← HT.out.2.2.2.2.2.2.2], HT.out.2.2.2.1, by have h := HT.out.1.to HU.out; exact h, HT.out.2.1, by rw [← HTL.out]; exact HT.out.2.2.1, BC_blk1 HU.out HT.out.2.2.2.2.1, BC_trans HT.out.2.2.2.2.2.1 HU.out⟩
                case measure => have := HI.out; simp [intOf]; omega
          · obtain ⟨j, hj⟩ : ∃ m, m = k - N := ⟨_, rfl⟩
            have hjM : j < M := by have := HK.out; omega
            have hkq : j < qq.length := by rw [HC.out.2.2.2.2.1]; exact hjM
            have k1 : (N : Int) ≤ (k : Int) := by omega
            have k2 : (j : Int) < (M : Int) := by omega
            have k3 : (0 : Int) ≤ (j : Int) := by omega
            have s3 : IntKind.i64.wrap ((k : Int) - (N : Int)) = (j : Int) := by rw [IntKind.wrap_i64]; have := HK.out; have := HB.out; have := HC.out; omega
            have bpr : BC wc wr := BC_trans H10.out.1 HR.out.2.2.2.2.2.2.2
            have hA := add_any (.slice av ql cv) qs (qq[j]'hkq) wr HR.out.2.2.2.1 (by rw [← HQL.out]; have := HR.out; omega) (HC.out.2.1.1 _ (List.getElem_mem hkq)).1 (((HC.out.2.1.1 _ (List.getElem_mem hkq)).2.below bpr).mono bpr.size) (by
              rw [HG.out.2 j hkq]; show (pieceF l1 9 j).length ≤ _; rw [pieceF_len]; omega)
            have hrgk : wr.rangeAt gq (oq + j * 35) (qC (qq[j]'hkq)).toArray.toList := fun x u hj => later bpr (range_get HC.out.2.2.1 HC.out.2.1.1.wh hkq x u hj)
            have hszk := qC_size (q := qq[j]'hkq) (HC.out.2.1.1.wh _ (List.getElem_mem hkq))
            rw [HG.out.2 j hkq] at hA
            obtain ⟨CP, hCP⟩ : ∃ C, C = (qC (qq[j]'hkq)).toArray := ⟨_, rfl⟩
            rw [← hCP] at hA hrgk hszk
            have HRK := Lib.hid (And.intro hrgk hszk)
            have HAD := Lib.hid hA
            have HJ := Lib.hid hjM
            clear hA hCP hszk hrgk hkq hj hjM hkl
            go_wp2_with ((with_reducible refine wlw_load_mid (o := ⟨some 99, _, _, _, _, _⟩) ?_ 26 (.tmp 98) ?_ _ _ ?_ CP _ HRK.out.1 Try.underlying26 ?_ ?_ ?_); (focus rfl); (focus rfl); (focus rfl); (focus rfl); (focus (rw [HRK.out.2]; kernel_rfl)))
            refine HAD.out.mono ?_
            rintro e wq ⟨vt, qt, rfl, rdt, hqt, bt⟩
            obtain ⟨at', ct, hf⟩ := rdt.form
            subst hf
            have mq : Makes l0 l1 N M S (qt.map (·.1)) := by rw [hqt]; exact HR.out.2.2.2.2.1.other HJ.out
            have lq : qt.length ≤ I1 := by have := congrArg List.length hqt; have h4 := addL_len (qs.map (·.1)) (ptF l1 9 j); simp at this h4; have := HR.out; have := HI.out; have := HQL.out; omega
            have HT := Lib.hid (And.intro rdt (And.intro mq (And.intro lq (And.intro HR.out.2.2.1 (And.intro (BC_blk1 bt HR.out.2.2.2.2.2.2.1) (And.intro (BC_trans HR.out.2.2.2.2.2.2.2 bt) (And.intro trivial HL.out)))))))
            clear mq lq rdt hqt bt
            obtain ⟨tl, htl⟩ : ∃ m, m = qt.length := ⟨_, rfl⟩
            rw [← htl] at HT ⊢
            have HTL := Lib.hid htl
            clear htl
            have hsmall : ∀ q ∈ qt, q.1.da.length ≤ 1000000 ∧ q.1.sz ≤ 1000000 := fun q hq => by
              have hm : q.1 ∈ qt.map (·.1) := List.mem_map_of_mem hq
              rcases HT.out.2.1.own _ hm with ⟨k', _, _, e⟩ | ⟨j', _, e⟩
              · rw [e]; show (pieceF l0 7 k').length ≤ _ ∧ (l0.length : Int) ≤ _; rw [pieceF_len]; have := HN.out; have := H5.out; omega
              · rw [e]; show (pieceF l1 9 j').length ≤ _ ∧ (l1.length : Int) ≤ _; rw [pieceF_len]; have := HN.out; have := H5.out; omega
            have hWh := whole_any (.slice at' tl ct) qt (sumF l0) wq HT.out.1 (by rw [← HTL.out]; have := HT.out; have := HI.out; omega) (fun q hq => (hsmall q hq).1) (fun q hq => (hsmall q hq).2) (sumF_len l0) (sumF_bytes l0)
            rw [HT.out.2.1.whole HNE.out (by rw [HB.out.2.2.2.2.2.1, HN.out.1]) (by have := HN.out; have := H5.out; omega) (by have := HN.out; have := H5.out; omega), ← HRR.out.2.2.2.2.2.1, ← HT.out.2.2.2.2.2.2.2] at hWh
            have HDG : Hid (wq.heap[g9]? = some (.cells RD 23 (0, 0))) := Lib.hid (BC_blk1 HT.out.2.2.2.2.2.1 H10.out.2.2)
            clear hsmall
            rcases Nat.eq_zero_or_pos L with hL0 | hL0
            · rw [if_pos hL0] at hWh
              simp only [Option.isSome_some, Option.getD_some] at hWh
              have HWH := Lib.hid hWh
              have HL0 := Lib.hid hL0
              clear hWh
              subst hL0
              go_wp2_with ((with_reducible refine wlw_load_row (o := ⟨some 138, _, _, _, _, _⟩) ?_ 23 (.tmp 10) ?_ _ ?_ _ RD _ _ HDG.out Try.underlying23 ?_ ?_ ?_); (focus rfl); (focus rfl); (focus rfl); (focus rfl); (focus (rw [HRR.out.2.2.1]; kernel_rfl)))
              refine HWH.out.mono ?_
              rintro e wu ⟨vu, rfl, ownu, bu⟩
              obtain ⟨gu, su, lu, _⟩ := ownu.slv
              have cu := conv_slv gu 0 _ l0 su wu lu
              rw [← HS0.out] at cu
              have hbu := BC_below (BC_below H10.out.2.1 H10.out.2.1.size HT.out.2.2.2.2.2.1) (BC_below H10.out.2.1 H10.out.2.1.size HT.out.2.2.2.2.2.1).size bu
              have cu0 := HCV0.out wu hbu
              have HU := Lib.hid bu
              clear bu hbu ownu su lu
              go_wp2_with fail
              go_roundw
              case rel => exact ⟨I1, S, qt, by have := HI.out; omega, by have := HI.out; omega, rfl, by rw [← HT.out.2.2.2.2.2.2.2]; rfl, HT.out.2.2.2.1, by have h := HT.out.1.to HU.out; exact h, HT.out.2.1, by rw [← HTL.out]; exact HT.out.2.2.1, BC_blk1 HU.out HT.out.2.2.2.2.1, BC_trans HT.out.2.2.2.2.2.1 HU.out⟩
              case measure => have := HI.out; simp [intOf]; omega
            · rw [if_neg (by omega)] at hWh
              simp only [Option.isSome_none] at hWh
              have HWH := Lib.hid hWh
              have hl1 : ((L : Int) == 0) = false := beq_eq_false_iff_ne.2 (by omega)
              clear hWh hL0
              go_wp2_with ((with_reducible refine wlw_load_row (o := ⟨some 138, _, _, _, _, _⟩) ?_ 23 (.tmp 10) ?_ _ ?_ _ RD _ _ HDG.out Try.underlying23 ?_ ?_ ?_); (focus rfl); (focus rfl); (focus rfl); (focus rfl); (focus (rw [HRR.out.2.2.1]; kernel_rfl)))
              refine HWH.out.mono ?_
              rintro e wu ⟨vu, rfl, _, bu⟩
              have HU := Lib.hid bu
              clear bu
              go_wp2_with fail
              go_roundw
              case rel => exact ⟨I1, S, qt, by have := HI.out; omega, by have := HI.out; omega, rfl, by rw [← HT.out.2.2.2.2.2.2.2], HT.out.2.2.2.1, by have h := HT.out.1.to HU.out; exact h, HT.out.2.1, by rw [← HTL.out]; exact HT.out.2.2.1, BC_blk1 HU.out HT.out.2.2.2.2.1, BC_trans HT.out.2.2.2.2.2.1 HU.out⟩
              case measure => have := HI.out; simp [intOf]; omega
        · rcases Nat.lt_or_ge i r with h1 | h1
          · have h2 : i = 60 := by omega
            subst h2
            have i1 : ((60 : Nat) : Int) < (r : Int) := by omega
            have i1' : (60 : Int) < (r : Int) := by omega
            clear hlt hi
            go_wp2_with fail
            go_ret
            exact ⟨rfl, BC_below H10.out.2.1 H10.out.2.1.size HR.out.2.2.2.2.2.2.2⟩
          · have i1 : ¬ (i : Int) < (r : Int) := by omega
            clear hlt hi h1
            go_wp2_with fail
            go_ret
            exact ⟨rfl, BC_below H10.out.2.1 H10.out.2.1.size HR.out.2.2.2.2.2.2.2⟩

theorem own : ownKnob Try.prog.godebug = none := by kernel_rfl
theorem laidOut : laidOutB Try.prog = true := by kernel_rfl
set_option maxRecDepth 100000 in
theorem lifted (os : Os) (started : os.Started) (H : Type) (enc : TypeId × Value → H) :
    ReturnsInHanded {} Try.checked os 9 .any (Rows.gatherMakesSpec.pre6 enc Try.prog Try.f9 Rows.gatherMakesRow.domain false) (Rows.gatherMakesSpec.post enc Try.prog Try.f9 false true false false) := by
  refine returnsInHanded_of_change (C := Try.checked) own started (by kernel_rfl) Try.func9
    (ChangeSpec.witness6 (enc := enc) (C := Try.checked) false ⟨#[], #[.slice none 0 0, .slice none 0 0, .slice none 0 0], []⟩ 8 (by kernel_rfl) (by kernel_rfl) (by kernel_rfl) (by kernel_rfl)) ?_
  intro W base args ds gs before hval0 hW hcnd _
  have hval : ∀ (j : Nat) t v, Try.f9.params[j]? = some t → args[j]? = some v → Value.okWide Try.prog W .any base t v := hval0
  have hW' := hW
  obtain ⟨p, q, hA0, hV, rfl, hfz, hnd⟩ := hW
  have hA : DataW.TrodAll enc Try.prog W 0 (fun _ => true) true Try.f9.params.toList args.toList ds p := hA0
  rw [Try.params9] at hA hval
  obtain ⟨v0, vs0, d0, ds0, p0, q0, hargs, rfl, rfl, h0, r0⟩ := trodAll_cons hA
  obtain ⟨v1, vs1, d1, ds1, p1, q1, rfl, rfl, rfl, h1, r1⟩ := trodAll_cons r0
  obtain ⟨v2, vs2, d2, ds2, p2, q2, rfl, rfl, rfl, h2, r2⟩ := trodAll_cons r1
  obtain ⟨rfl, rfl, rfl⟩ := trodAll_nil r2
  obtain rfl : args = #[v0, v1, v2] := by cases args; simp_all
  obtain ⟨rfl, rfl⟩ := trodVars_none hV
  obtain ⟨a0, len0, cap0, rfl⟩ := okWide_slice Try.underlying24 (hval 0 24 v0 rfl rfl)
  have k0 := h0
  have lt0 : ∀ x ∈ p0, x.block < W.heap.size := by obtain ⟨m, hm⟩ := k0; exact DataW.trod_lt m _ _ _ hm
  obtain ⟨z0, w0⟩ : ∃ zs, IsRow .u8 W a0 len0 cap0 zs := by
    obtain ⟨fuel, hf⟩ := h0
    rcases open_ints Try.underlying24 Try.underlying5 (by kernel_rfl) hf with ⟨hcs, _⟩ | ⟨x, l, c, zs, hcs, _, hl, hm, hz, _, hcell, hwz⟩
    · simp [Value.cells] at hcs
      obtain ⟨rfl, rfl, rfl⟩ := hcs
      exact ⟨[], .inl ⟨rfl, rfl, rfl, rfl⟩⟩
    · simp [Value.cells] at hcs
      obtain ⟨rfl, rfl, rfl⟩ := hcs
      exact ⟨zs, .inr ⟨_, rfl, hl, hm, by simpa using hz, hcell, hwz⟩⟩
  obtain ⟨b0, o0, l0, hv0, hl0, hb0⟩ := isb_of_row w0
  obtain ⟨a1, len1, cap1, rfl⟩ := okWide_slice Try.underlying24 (hval 1 24 v1 rfl rfl)
  have k1 := h1
  have lt1 : ∀ x ∈ p1, x.block < W.heap.size := by obtain ⟨m, hm⟩ := k1; exact DataW.trod_lt m _ _ _ hm
  obtain ⟨z1, w1⟩ : ∃ zs, IsRow .u8 W a1 len1 cap1 zs := by
    obtain ⟨fuel, hf⟩ := h1
    rcases open_ints Try.underlying24 Try.underlying5 (by kernel_rfl) hf with ⟨hcs, _⟩ | ⟨x, l, c, zs, hcs, _, hl, hm, hz, _, hcell, hwz⟩
    · simp [Value.cells] at hcs
      obtain ⟨rfl, rfl, rfl⟩ := hcs
      exact ⟨[], .inl ⟨rfl, rfl, rfl, rfl⟩⟩
    · simp [Value.cells] at hcs
      obtain ⟨rfl, rfl, rfl⟩ := hcs
      exact ⟨zs, .inr ⟨_, rfl, hl, hm, by simpa using hz, hcell, hwz⟩⟩
  obtain ⟨b1, o1, l1, hv1, hl1, hb1⟩ := isb_of_row w1
  obtain ⟨a2, len2, cap2, rfl⟩ := okWide_slice Try.underlying24 (hval 2 24 v2 rfl rfl)
  have k2 := h2
  have lt2 : ∀ x ∈ p2, x.block < W.heap.size := by obtain ⟨m, hm⟩ := k2; exact DataW.trod_lt m _ _ _ hm
  obtain ⟨z2, w2⟩ : ∃ zs, IsRow .u8 W a2 len2 cap2 zs := by
    obtain ⟨fuel, hf⟩ := h2
    rcases open_ints Try.underlying24 Try.underlying5 (by kernel_rfl) hf with ⟨hcs, _⟩ | ⟨x, l, c, zs, hcs, _, hl, hm, hz, _, hcell, hwz⟩
    · simp [Value.cells] at hcs
      obtain ⟨rfl, rfl, rfl⟩ := hcs
      exact ⟨[], .inl ⟨rfl, rfl, rfl, rfl⟩⟩
    · simp [Value.cells] at hcs
      obtain ⟨rfl, rfl, rfl⟩ := hcs
      exact ⟨zs, .inr ⟨_, rfl, hl, hm, by simpa using hz, hcell, hwz⟩⟩
  obtain ⟨b2, o2, l2, hv2, hl2, hb2⟩ := isb_of_row w2
  clear hA0 hval0
  refine (walk (.slice a0 len0 cap0) b0 o0 l0 (.slice a1 len1 cap1) b1 o1 l1 (.slice a2 len2 cap2) b2 o2 l2 hv0 hb0 hv1 hb1 hv2 hb2 W hl0 hl1 hl2).mono fun e W' ⟨he, bel⟩ => ?_
  subst he
  exact ⟨_, rfl, _, _, _, [], _, [], hW', trodAll_mk1 (shut_bool Try.underlying4 _), (trodAll_cons_mk (Below.trod laidOut (by kernel_rfl) (of_decide_eq_true (by kernel_rfl)) k0 bel lt0) (trodAll_cons_mk (Below.trod laidOut (by kernel_rfl) (of_decide_eq_true (by kernel_rfl)) k1 bel lt1) (trodAll_cons_mk (Below.trod laidOut (by kernel_rfl) (of_decide_eq_true (by kernel_rfl)) k2 bel lt2) trodAll_mk0))), rfl, bel.frame _, fun h => by cases h⟩
theorem over : Rows.gatherMakesRow.holds Try.pinned (OpenSpec.ofChange Rows.gatherMakesSpec) :=
  OpenClaim.holds_of_wide 9 Try.f9 rfl rfl rfl rfl rfl rfl rfl ⟨rfl, rfl, rfl, rfl, rfl⟩ rfl rfl rfl rfl rfl (by kernel_rfl) Try.func9 (by kernel_rfl)
    (of_decide_eq_true (by kernel_rfl)) (by unfold Func.isWrapper; first | (rw [if_pos (by decide +kernel)]; kernel_rfl) | (rw [if_neg (by decide +kernel)]; exact ⟨rfl, rfl⟩))
    (fun os started H enc _ => lifted os started H enc)
theorem proved : Rows.GatherMakesSaid := over
#print axioms proved
end Go.Proofs.Ytjnimbhecfpnmaa.gatherMakesDone
