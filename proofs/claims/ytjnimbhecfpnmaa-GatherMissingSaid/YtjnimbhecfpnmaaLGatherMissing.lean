/- The statement GatherMissing: of bytes' parts without one as many bytes are missing as that has; without any all; with all none. No condition. -/
import Derived.Test.YtjnimbhecfpnmaaAwake19
import Derived.Test.YtjnimbhecfpnmaaOpenB
import Derived.Test.YtjnimbhecfpnmaaCover
import Derived.Deep.Cut
import Derived.OpenShut
import Derived.ShutString
import Derived.ChangeOld
namespace Go.Proofs.Ytjnimbhecfpnmaa.gatherMissingDone
open Go.ChangeShapes Go.WideShapes Go.ChangeAt Go.RowKit
set_option linter.unusedVariables false
set_option linter.unusedSimpArgs false
set_option maxRecDepth 100000
attribute [local irreducible] SlV Lies headG

attribute [local go_sem] takes takesE comesTo
theorem partsF_get (l : List Int) (size k : Nat) (h : k < chunksN l.length size) : ptF l size k ∈ partsF l size := List.mem_map.2 ⟨k, List.mem_range.2 h, rfl⟩
theorem partsF_mem {l : List Int} {size : Nat} {p : Pt} (h : p ∈ partsF l size) : ∃ k, k < chunksN l.length size ∧ p = ptF l size k := by
  obtain ⟨k, hk, rfl⟩ := List.mem_map.1 h
  exact ⟨k, List.mem_range.1 hk, rfl⟩
theorem mayS_of {n : Nat} (h1 : 1 ≤ n) (h2 : n ≤ 1000) : mayS (n : Int) = true := decide_eq_true (by omega)
/-- the parts but one -/
def lessF (l : List Int) (size k : Nat) : List Pt := (partsF l size).take k ++ (partsF l size).drop (k + 1)
theorem has_less {l : List Int} {size k j : Nat} (hs : 0 < size) (hk : k < chunksN l.length size) (hj : j < chunksN l.length size) : hasPt (lessF l size k) (sumF l) l.length size j = decide (j ≠ k) := by
  have hg : ∀ i (h : i < (partsF l size).length), (partsF l size)[i] = ptF l size i := fun i h => by simp [partsF]
  by_cases e : j = k
  · subst e
    rw [decide_eq_false (by simp)]
    unfold hasPt lessF
    rw [List.any_eq_false]
    intro p hp
    have hne : ∃ i, i ≠ j ∧ p = ptF l size i := by
      rcases List.mem_append.1 hp with h | h
      · obtain ⟨i, hi, rfl⟩ := List.getElem_of_mem h
        rw [List.length_take] at hi
        exact ⟨i, by omega, by rw [List.getElem_take, hg]⟩
      · obtain ⟨i, hi, rfl⟩ := List.getElem_of_mem h
        exact ⟨j + 1 + i, by omega, by rw [List.getElem_drop, hg]⟩
    obtain ⟨i, hi, rfl⟩ := hne
    intro h
    have h2 : ((i * size : Nat) : Int) = ((j * size : Nat) : Int) := (of_decide_eq_true h).2.2
    exact hi (Nat.eq_of_mul_eq_mul_right hs (by omega))
  · rw [decide_eq_true e]
    refine has_part ?_
    unfold lessF
    rw [List.mem_append]
    rcases Nat.lt_or_ge j k with h | h
    · exact .inl (List.mem_iff_getElem.2 ⟨j, by rw [List.length_take, partsF_len]; omega, by rw [List.getElem_take, hg]⟩)
    · exact .inr (List.mem_iff_getElem.2 ⟨j - (k + 1), by rw [List.length_drop, partsF_len]; omega, by rw [List.getElem_drop, hg]; congr 1; omega⟩)
theorem less_own {l : List Int} {size k : Nat} {p : Pt} (h : p ∈ lessF l size k) : p ∈ partsF l size := by
  rcases List.mem_append.1 h with h | h
  · exact List.mem_of_mem_take h
  · exact List.mem_of_mem_drop h
theorem miss_all {l : List Int} {size : Nat} (hs : 0 < size) (h1 : 1 ≤ l.length) (h2 : l.length ≤ 1000) : missF (partsF l size) (sumF l) l.length = 0 := by
  unfold missF
  rw [if_pos (mayS_of h1 h2), Int.toNat_natCast, coverF hs (by omega) _ _ (fun p hp _ _ => by obtain ⟨k, _, e⟩ := partsF_mem hp; exact ⟨k, e⟩)]
  rw [lack_all (fun j hj => has_part (partsF_get l size j ((chunk_lt' hs).2 hj)))]
  rfl
theorem miss_less {l : List Int} {size k : Nat} (hs : 0 < size) (h1 : 1 ≤ l.length) (h2 : l.length ≤ 1000) (hk : k < chunksN l.length size) : missF (lessF l size k) (sumF l) l.length = ((pieceF l size k).length : Int) := by
  unfold missF
  rw [if_pos (mayS_of h1 h2), Int.toNat_natCast, coverF hs (by omega) _ _ (fun p hp _ _ => by obtain ⟨k, _, e⟩ := partsF_mem (less_own hp); exact ⟨k, e⟩)]
  have hl := lack_piece (l := l) (size := size) (k := k) hs (by omega) (J := hasPt (lessF l size k) (sumF l) l.length size) (by rw [has_less hs hk hk]; simp)
  have h0 := lack_all (l := l) (size := size) (J := fun j => hasPt (lessF l size k) (sumF l) l.length size j || decide (j = k)) (fun j hj => by
    rw [has_less hs hk ((chunk_lt' hs).2 hj)]
    by_cases e : j = k <;> simp [e])
  rw [h0] at hl
  omega
theorem miss_none (D : List Int) {n : Nat} (h1 : 1 ≤ n) (h2 : n ≤ 1000) {ps : List Pt} (h : ∀ p ∈ ps, p.sz ≠ (n : Int)) : missF ps D n = n := by
  unfold missF
  rw [if_pos (mayS_of h1 h2), Int.toNat_natCast, laid_none (fun p hp hc => h p hp hc.2), lack_new]
set_option maxHeartbeats 8000000 in
theorem walk (v0 : Value) (b0 o0 : Nat) (l0 : List Int) (a1 : Int) (hv0 : SlV v0 b0 o0 l0.length) (hb0 : Bytes l0) (w1 : (Lit.int .u8 a1).wf = true) (w : World) (hl0 : Lies w b0 o0 l0) :
    Calls Try.prog 10 #[v0, .int .u8 a1] w fun e w' => e = .returned (.bool true) ∧ Below w.heap.size w w' := by
  simp [Lit.wf, IntKind.min, IntKind.max, IntKind.signed, IntKind.bits] at w1
  obtain ⟨la1, ua1⟩ := w1
  have hmiss := @miss_none (sumF l0)
  have HV := Lib.hid (And.intro hv0 (And.intro hb0 hl0))
  obtain ⟨pv, cv, rfl, _⟩ := by unfold SlV at hv0; exact hv0
  obtain ⟨n, hn⟩ : ∃ n, n = l0.length := ⟨_, rfl⟩
  rw [← hn]
  have HN := Lib.hid hn
  clear hn hb0 hl0 hv0
  go_enter Try.func10, Try.ntmps10
  go_wp2_with fail
  refine (awake19_any _).mono ?_
  rintro e wa ⟨rfl, ba⟩
  have HA := Lib.hid ba
  clear ba
  rcases Nat.eq_zero_or_pos n with h0 | h0
  · subst h0
    go_wp2_with fail
    go_ret
    exact ⟨rfl, HA.out⟩
  have h0' : ((n : Int) == 0) = false := beq_eq_false_iff_ne.2 (by omega)
  rcases Nat.lt_or_ge 120 n with h5 | h5
  · have h5' : (120 : Int) < (n : Int) := by omega
    go_wp2_with fail
    go_ret
    exact ⟨rfl, HA.out⟩
  have h5' : ¬ (120 : Int) < (n : Int) := by omega
  have hpa := parts_any (.slice pv n cv) b0 o0 l0 7 (by decide) (by decide) HV.out.2.1 (by rw [← HN.out]; omega) (by have := HV.out.1; rw [← HN.out] at this ⊢; exact this) wa (HV.out.2.2.below' HA.out)
  have HPA := Lib.hid hpa
  have H5 := Lib.hid (And.intro h0 h5)
  clear hpa h0 h5
  go_wp2_with fail
  refine HPA.out.mono ?_
  rintro e w2 ⟨v2, qs, rfl, rd2, hqs, b2⟩
  obtain ⟨N, hN⟩ : ∃ N, N = chunksN n 7 := ⟨_, rfl⟩
  have hql : qs.length = N := by have := congrArg List.length hqs; rw [partsF_len, ← HN.out, ← hN] at this; simpa using this
  have hN1 : 1 ≤ N := by
    rw [hN]
    exact (chunk_lt' (by decide)).2 (by have := H5.out; omega)
  have hN2 : N ≤ 120 := by
    rw [hN]; unfold chunksN; have := H5.out; omega
  obtain ⟨g, o, sv2, rg2, _⟩ := rd2.2
  obtain ⟨p2, c2, rfl, hc2, hm2, hp2, _⟩ := by unfold SlV at sv2; exact sv2
  rw [hql] at hc2 hp2 ⊢
  obtain rfl := hp2 (by omega)
  obtain ⟨k, hk⟩ : ∃ k : Nat, (k : Int) = a1 % (N : Int) := ⟨(a1 % (N : Int)).toNat, Int.toNat_of_nonneg (Int.emod_nonneg _ (by omega))⟩
  have hkN : k < N := by have := Int.emod_lt_of_pos a1 (b := (N : Int)) (by omega); omega
  have r3 : IntKind.i64.wrap a1 = a1 := by rw [IntKind.wrap_i64]; omega
  have hN0 : ¬ (N : Int) = 0 := by omega
  obtain ⟨K1, hK1⟩ : ∃ m, m = k + 1 := ⟨_, rfl⟩
  have r5 : a1 % (N : Int) = (k : Int) := hk.symm
  have s1 : IntKind.i64.wrap ((k : Int) + 1) = (K1 : Int) := by rw [IntKind.wrap_i64]; omega
  have j1 : (k : Int) ≤ (c2 : Int) := by omega
  have j2 : (K1 : Int) ≤ (N : Int) := by omega
  have j3 : (0 : Int) < (N : Int) := by omega
  have j4 : (k : Int) < (N : Int) := by omega
  have j5 : (0 : Int) ≤ (k : Int) := by omega
  have HW2 := Lib.hid (BC_below HA.out HA.out.size b2)
  have HQ := Lib.hid (And.intro rd2 (And.intro rg2 (And.intro hqs (And.intro hql (And.intro hN (And.intro hkN (And.intro hK1 (And.intro hN1 (And.intro hN2 hc2)))))))))
  clear rd2 rg2 hqs hql hN hkN hK1 hN1 hN2 sv2 hp2 hm2 hk ua1 b2
  go_upto_region 6 with fail
  rw [r5]
  have HSL : Hid (∀ v, RdP w2.heap.size w2 v (qs.take k ++ qs.drop K1) → True) := Lib.hid fun _ _ => trivial
  have hmap : (qs.take k ++ qs.drop K1).map (·.1) = lessF l0 7 k := by
    rw [List.map_append, List.map_take, List.map_drop, HQ.out.2.2.1, HQ.out.2.2.2.2.2.2.1]; rfl
  have hgl : GoodQ w2.heap.size w2 (qs.take k ++ qs.drop K1) := HQ.out.1.1.sub fun q hq => by
    rcases List.mem_append.1 hq with h | h
    · exact List.mem_of_mem_take h
    · exact List.mem_of_mem_drop h
  have htl : (qs.take k).length = k := by rw [List.length_take]; have := HQ.out; omega
  have hdl : (qs.drop K1).length = N - K1 := by rw [List.length_drop]; have := HQ.out; omega
  have hdr : w2.rangeAt g (o + K1 * 35) (flatQ (qs.drop K1)) := range_drop HQ.out.2.1 HQ.out.1.1.wh (by have := HQ.out; omega)
  have HLS := Lib.hid (And.intro hmap (And.intro hgl (And.intro htl (And.intro hdl (And.intro (range_take (k := k) HQ.out.2.1 HQ.out.1.1.wh (by have := HQ.out; omega)) hdr)))))
  clear hmap hgl htl hdl hdr HSL
  have hS := BC_refl
  haveI := BC_inst w2
  have SB := Lib.hid (BC_refl w2)
  go_cut [8] (fun s8 wx => ∃ a c, s8 = .slice a (k + (N - K1)) c ∧ OwnP w2.heap.size wx (.slice a (k + (N - K1)) c) (qs.take k ++ qs.drop K1) ∧ BC w2 wx)
  case first =>
    by_cases hcK : c2 = K1
    · have hcT : (c2 = K1) = True := eq_true hcK
      have HD0 : Hid (qs.drop K1 = []) := Lib.hid (List.eq_nil_of_length_eq_zero (by rw [HLS.out.2.2.2.1]; have := HQ.out; omega))
      clear hcK
      refine wp_region_E (by kernel_rfl) ?_
      refine takeE (i := 1) rfl (by kernel_rfl) (by kernel_rfl) (by kernel_rfl) (fun _ _ _ _ h => h) SB.out (fun K hK => ?_)
      go_simp
      refine hK.out _ ?_
      clear hK K
      refine takeE (i := 2) rfl (by kernel_rfl) (by kernel_rfl) (by kernel_rfl) (fun _ _ _ _ h => h) SB.out (fun K hK => ?_)
      go_simp
      refine hK.out _ ?_
      clear hK K
      refine takeE (i := 3) rfl (by kernel_rfl) (by kernel_rfl) (by kernel_rfl) (fun _ _ _ _ h => h) SB.out (fun K hK => ?_)
      go_simp
      refine hK.out _ ?_
      clear hK K
      refine takeE (i := 5) rfl (by kernel_rfl) (by kernel_rfl) (by kernel_rfl) (fun _ _ _ _ h => h) SB.out (fun K hK => ?_)
      go_simp
      refine hK.out _ ?_
      clear hK K
      refine takeE (i := 6) rfl (by kernel_rfl) (by kernel_rfl) (by kernel_rfl) (fun _ _ _ _ h => h) SB.out (fun K hK => ?_)
      go_simp
      refine hK.out _ ?_
      clear hK K
      refine takeE (i := 7) rfl (by kernel_rfl) (by kernel_rfl) (by kernel_rfl) (fun _ _ _ _ h => h) SB.out (fun K hK => ?_)
      go_simp
      refine hK.out _ ?_
      clear hK K
      refine takeE (i := 8) rfl (by kernel_rfl) (by kernel_rfl) (by kernel_rfl) (fun _ _ _ _ h => h) SB.out (fun K hK => ?_)
      go_simp
      refine hK.out _ ?_
      clear hK K
      refine stepE (i := 0) rfl (by kernel_rfl) (fun w3 r3 K hK => ?_)
      go_simp
      have S3 : Hid (BC w2 (w3.alloc (.cells #[] 26))) := Lib.hid (BC_trans r3 (below1 w3 _))
      refine hK.out _ _ S3.out ?_
      have O3 := Lib.hid (OwnP.zero w3 w2.heap.size r3.size)
      generalize w3.alloc (.cells #[] 26) = W3 at *
      obtain ⟨g3, hg3⟩ : ∃ g, g = w3.heap.size := ⟨_, rfl⟩
      rw [← hg3] at O3 ⊢
      clear hK K r3 hg3
      refine stepE (i := 4) rfl (by kernel_rfl) (fun w4 r4 K hK => ?_)
      rw [if_pos (by rfl)]
      refine wp_appendP (.tmp 27) (.tmp 30) (by rfl) w2.heap.size _ [] (by rfl) (O3.out.below r4) g o k c2 (by rfl) (qs.take k) HLS.out.2.2.1 (fun j u hj => later (BC_trans S3.out r4) (HLS.out.2.2.2.2.1 j u hj)) (fun q hq => HQ.out.1.1.wh q (List.mem_of_mem_take hq)) (fun u hu => HQ.out.1.1.one u (by rw [← List.take_append_drop k qs, flatQ_append]; exact List.mem_append_left _ hu)) (by have := HQ.out; simp; omega) (BC_trans S3.out r4).size ?_
      intro v5 w5 own5 b5
      have S5 : Hid (BC w2 w5) := Lib.hid (Below.trans (BC_trans S3.out r4) b5)
      refine hK.out _ _ S5.out ?_
      simp only [Act.put, List.setIfInBounds_toArray, List.set_cons_zero, List.set_cons_succ, List.getElem_toArray, List.getElem_cons_succ, List.getElem_cons_zero]
      have O5 := Lib.hid own5
      clear hK K r4 b5 own5
      refine stepE (i := 9) rfl (by kernel_rfl) (fun w6 r6 K hK => ?_)
      rw [if_pos (by rfl)]
      refine wp_appendP (.tmp 31) (.tmp 35) (by rfl) w2.heap.size _ _ (by rfl) (O5.out.below r6) g o (N - K1) _ (by rfl) (qs.drop K1) HLS.out.2.2.2.1 (fun j u hj => (by rw [HD0.out] at hj; simp [flatQ] at hj)) (fun q hq => HQ.out.1.1.wh q (List.mem_of_mem_drop hq)) (fun u hu => HQ.out.1.1.one u (by rw [← List.take_append_drop K1 qs, flatQ_append]; exact List.mem_append_right _ hu)) (by have := HQ.out; have := HLS.out.2.2.1; simp only [List.nil_append]; omega) (BC_trans S5.out r6).size ?_
      intro v7 w7 own7 b7
      have S7 : Hid (BC w2 w7) := Lib.hid (Below.trans (BC_trans S5.out r6) b7)
      refine hK.out _ _ S7.out ?_
      simp only [Act.put, List.setIfInBounds_toArray, List.set_cons_zero, List.set_cons_succ, List.getElem_toArray, List.getElem_cons_succ, List.getElem_cons_zero]
      have O7 := Lib.hid own7
      clear hK K r6 b7 own7
      refine takeE (i := 10) rfl (by kernel_rfl) (by kernel_rfl) (by kernel_rfl) (fun _ _ _ _ h => h) S7.out (fun K hK => ?_)
      go_simp
      refine hK.out _ ?_
      clear hK K
      refine doneE (by kernel_rfl) (fun w9 r9 => ?_) _
      have HX := Lib.hid (And.intro (O7.out.below r9) (BC_trans S7.out r9))
      clear r9
      obtain ⟨a7, c7, rfl⟩ := O7.out.form
      have hl7 : ([] ++ qs.take k ++ qs.drop K1).length = k + (N - K1) := by rw [List.length_append, List.nil_append, HLS.out.2.2.1, HLS.out.2.2.2.1]
      go_wp2_with fail
      go_meet
      exact ⟨a7, c7, by rw [← hl7], by rw [← hl7]; simpa using HX.out.1, HX.out.2⟩
    · refine wp_region_E (by kernel_rfl) ?_
      refine takeE (i := 1) rfl (by kernel_rfl) (by kernel_rfl) (by kernel_rfl) (fun _ _ _ _ h => h) SB.out (fun K hK => ?_)
      go_simp
      refine hK.out _ ?_
      clear hK K
      refine takeE (i := 2) rfl (by kernel_rfl) (by kernel_rfl) (by kernel_rfl) (fun _ _ _ _ h => h) SB.out (fun K hK => ?_)
      go_simp
      refine hK.out _ ?_
      clear hK K
      refine takeE (i := 3) rfl (by kernel_rfl) (by kernel_rfl) (by kernel_rfl) (fun _ _ _ _ h => h) SB.out (fun K hK => ?_)
      go_simp
      refine hK.out _ ?_
      clear hK K
      refine takeE (i := 5) rfl (by kernel_rfl) (by kernel_rfl) (by kernel_rfl) (fun _ _ _ _ h => h) SB.out (fun K hK => ?_)
      go_simp
      refine hK.out _ ?_
      clear hK K
      refine takeE (i := 6) rfl (by kernel_rfl) (by kernel_rfl) (by kernel_rfl) (fun _ _ _ _ h => h) SB.out (fun K hK => ?_)
      go_simp
      refine hK.out _ ?_
      clear hK K
      refine takeE (i := 7) rfl (by kernel_rfl) (by kernel_rfl) (by kernel_rfl) (fun _ _ _ _ h => h) SB.out (fun K hK => ?_)
      go_simp
      refine hK.out _ ?_
      clear hK K
      refine takeE (i := 8) rfl (by kernel_rfl) (by kernel_rfl) (by kernel_rfl) (fun _ _ _ _ h => h) SB.out (fun K hK => ?_)
      go_simp
      refine hK.out _ ?_
      clear hK K
      refine stepE (i := 0) rfl (by kernel_rfl) (fun w3 r3 K hK => ?_)
      go_simp
      have S3 : Hid (BC w2 (w3.alloc (.cells #[] 26))) := Lib.hid (BC_trans r3 (below1 w3 _))
      refine hK.out _ _ S3.out ?_
      have O3 := Lib.hid (OwnP.zero w3 w2.heap.size r3.size)
      generalize w3.alloc (.cells #[] 26) = W3 at *
      obtain ⟨g3, hg3⟩ : ∃ g, g = w3.heap.size := ⟨_, rfl⟩
      rw [← hg3] at O3 ⊢
      clear hK K r3 hg3
      refine stepE (i := 4) rfl (by kernel_rfl) (fun w4 r4 K hK => ?_)
      rw [if_pos (by rfl)]
      refine wp_appendP (.tmp 27) (.tmp 30) (by rfl) w2.heap.size _ [] (by rfl) (O3.out.below r4) g o k c2 (by rfl) (qs.take k) HLS.out.2.2.1 (fun j u hj => later (BC_trans S3.out r4) (HLS.out.2.2.2.2.1 j u hj)) (fun q hq => HQ.out.1.1.wh q (List.mem_of_mem_take hq)) (fun u hu => HQ.out.1.1.one u (by rw [← List.take_append_drop k qs, flatQ_append]; exact List.mem_append_left _ hu)) (by have := HQ.out; simp; omega) (BC_trans S3.out r4).size ?_
      intro v5 w5 own5 b5
      have S5 : Hid (BC w2 w5) := Lib.hid (Below.trans (BC_trans S3.out r4) b5)
      refine hK.out _ _ S5.out ?_
      simp only [Act.put, List.setIfInBounds_toArray, List.set_cons_zero, List.set_cons_succ, List.getElem_toArray, List.getElem_cons_succ, List.getElem_cons_zero]
      have O5 := Lib.hid own5
      clear hK K r4 b5 own5
      refine stepE (i := 9) rfl (by kernel_rfl) (fun w6 r6 K hK => ?_)
      rw [if_pos (by rfl)]
      refine wp_appendP (.tmp 31) (.tmp 35) (by rfl) w2.heap.size _ _ (by rfl) (O5.out.below r6) g (o + K1 * 35) (N - K1) _ (by rfl) (qs.drop K1) HLS.out.2.2.2.1 (fun j u hj => later (BC_trans S5.out r6) (HLS.out.2.2.2.2.2 j u hj)) (fun q hq => HQ.out.1.1.wh q (List.mem_of_mem_drop hq)) (fun u hu => HQ.out.1.1.one u (by rw [← List.take_append_drop K1 qs, flatQ_append]; exact List.mem_append_right _ hu)) (by have := HQ.out; have := HLS.out.2.2.1; simp only [List.nil_append]; omega) (BC_trans S5.out r6).size ?_
      intro v7 w7 own7 b7
      have S7 : Hid (BC w2 w7) := Lib.hid (Below.trans (BC_trans S5.out r6) b7)
      refine hK.out _ _ S7.out ?_
      simp only [Act.put, List.setIfInBounds_toArray, List.set_cons_zero, List.set_cons_succ, List.getElem_toArray, List.getElem_cons_succ, List.getElem_cons_zero]
      have O7 := Lib.hid own7
      clear hK K r6 b7 own7
      refine takeE (i := 10) rfl (by kernel_rfl) (by kernel_rfl) (by kernel_rfl) (fun _ _ _ _ h => h) S7.out (fun K hK => ?_)
      go_simp
      refine hK.out _ ?_
      clear hK K
      refine doneE (by kernel_rfl) (fun w9 r9 => ?_) _
      have HX := Lib.hid (And.intro (O7.out.below r9) (BC_trans S7.out r9))
      clear r9
      obtain ⟨a7, c7, rfl⟩ := O7.out.form
      have hl7 : ([] ++ qs.take k ++ qs.drop K1).length = k + (N - K1) := by rw [List.length_append, List.nil_append, HLS.out.2.2.1, HLS.out.2.2.2.1]
      go_wp2_with fail
      go_meet
      exact ⟨a7, c7, by rw [← hl7], by rw [← hl7]; simpa using HX.out.1, HX.out.2⟩
  case rest =>
    obtain ⟨a8, c8, rfl, own8, bc8⟩ := hcut
    obtain ⟨wA, rfl⟩ : ∃ W, W = wc := ⟨_, rfl⟩
    have hzd := zero_dig
    obtain ⟨RD, hRD⟩ : ∃ R, R = row .u8 (sumF l0) := ⟨_, rfl⟩
    have hRz : RD.size = 32 := by rw [hRD, row_size, sumF_len]
    have hR1 : RD.all (·.oneCell') = true := by rw [hRD]; exact row_one _ _
    have h0q : 0 < qs.length := by have := HQ.out; omega
    have hq0 : (qs[0]'h0q).1 = ptF l0 7 0 := by
      have h : (qs.map (·.1))[0]? = some (ptF l0 7 0) := by rw [HQ.out.2.2.1]; simp [partsF, ← HN.out, ← HQ.out.2.2.2.2.1, show 0 < N by have := HQ.out; omega]
      rw [List.getElem?_map, List.getElem?_eq_getElem h0q] at h
      injection h
    have hkq : k < qs.length := by have := HQ.out; omega
    have hqk : (qs[k]'hkq).1 = ptF l0 7 k := by
      have h : (qs.map (·.1))[k]? = some (ptF l0 7 k) := by rw [HQ.out.2.2.1]; simp [partsF, ← HN.out, ← HQ.out.2.2.2.2.1, HQ.out.2.2.2.2.2.1]
      rw [List.getElem?_map, List.getElem?_eq_getElem hkq] at h
      injection h
    have hrw : wA.rangeAt g o RD.toList := fun j u hj => by
      have h := range_get HQ.out.2.1 HQ.out.1.1.wh h0q
      rw [Nat.zero_mul, Nat.add_zero] at h
      have h2 := range_wh h
      rw [hq0] at h2
      refine later bc8 (h2 j u ?_)
      rw [hRD] at hj
      exact hj
    have hdl : ∀ q ∈ qs, q.1.da.length ≤ 1000000 := fun q hq => by
      have : q.1 ∈ qs.map (·.1) := List.mem_map_of_mem hq
      rw [HQ.out.2.2.1] at this
      obtain ⟨i, _, e⟩ := partsF_mem this
      rw [e]
      show (pieceF l0 7 i).length ≤ _
      rw [pieceF_len]; omega
    obtain ⟨u8, hu8⟩ : ∃ u, u = (qs[k]'hkq).2 := ⟨_, rfl⟩
    have hgk := HQ.out.1.1 _ (List.getElem_mem hkq)
    rw [hqk, ← hu8] at hgk
    obtain ⟨bk, ok', sk, lk, _⟩ := hgk.2
    obtain ⟨ak, ck, rfl, _⟩ := by unfold SlV at sk; exact sk
    obtain ⟨dk, hdk⟩ : ∃ d, d = (ptF l0 7 k).da.length := ⟨_, rfl⟩
    rw [← hdk] at hu8
    have hck : wA.cell? ⟨g, o + k * 35 + 34, none⟩ = some (.slice ak dk ck) := by
      refine later bc8 (range_get HQ.out.2.1 HQ.out.1.1.wh hkq 34 _ ?_)
      have h := pcells_data (hgk.1.1) (ptF l0 7 k).sz (ptF l0 7 k).at' (.slice ak dk ck)
      rw [List.getElem?_toArray] at h
      rw [← h]
      show (pcells _ _ _ _)[34]? = _
      rw [hqk, ← hu8]
    have H8 := Lib.hid (And.intro own8 (And.intro bc8 (And.intro hrw (And.intro hRz (And.intro hR1 (And.intro hdl (And.intro hRD hdk)))))))
    have HCK := Lib.hid hck
    clear own8 bc8 hrw hRz hR1 hdl hRD hdk hgk hq0 hqk h0q hkq sk lk hu8 hS hck
    obtain ⟨W9, hW9⟩ : ∃ W, W = wA.alloc (.cells RD 23) := ⟨_, rfl⟩
    obtain ⟨g9, hg9⟩ : ∃ g, g = wA.heap.size := ⟨_, rfl⟩
    have n9 := heap_alloc_new wA (.cells RD 23)
    have b9 := below1 wA (.cells RD 23)
    rw [← hW9, ← hg9] at n9
    rw [← hW9] at b9
    have H9 := Lib.hid (And.intro n9 (And.intro (BC_trans H8.out.2.1 b9) (And.intro hW9 (And.intro hg9 (later b9 HCK.out)))))
    clear n9 b9 hW9 hg9
    go_upto_region 8 with (first | ((with_reducible refine wlw_load_mid (o := ⟨some 40, _, _, _, _, _⟩) ?_ 23 (.tmp 39) ?_ _ _ ?_ RD _ H8.out.2.2.1 Try.underlying23 ?_ ?_ ?_); (focus rfl); (focus rfl); (focus rfl); (focus rfl); (focus (rw [H8.out.2.2.2.1]; kernel_rfl))) | (refine wpList_store_rowTo rfl 23 _ _ rfl rfl _ RD rfl rfl 23 zb32 (heap_alloc_new wA _) (by rw [H8.out.2.2.2.1]; kernel_rfl) (by rw [H8.out.2.2.2.1]; kernel_rfl) H8.out.2.2.2.2.1 ?_; rw [World.setRow_alloc_new]))
    rw [← H9.out.2.2.1, ← H9.out.2.2.2.1]
    have hx1 : ∀ x : HW (BC W9), x.w.cell? ⟨g, o + k * 35 + 34, none⟩ = some (.slice ak dk ck) := BC_cell H9.out.2.2.2.2
    have hln : (partsF l0 7).length = N := by rw [partsF_len, ← HN.out, HQ.out.2.2.2.2.1]
    have hb9 : ∀ x : HW (BC W9), BC w2 x.w := fun x => BC_trans H9.out.2.1 x.h
    have hN1 : (1 : Nat) ≤ n ∧ n ≤ 120 := H5.out
    obtain ⟨M1, hM1⟩ : ∃ m, m = n + 1 := ⟨_, rfl⟩
    have s2 : IntKind.i64.wrap ((n : Int) + 1) = (M1 : Int) := by rw [IntKind.wrap_i64]; omega
    have rdl : RdP wA.heap.size wA (.slice a8 (k + (N - K1)) c8) (qs.take k ++ qs.drop K1) := H8.out.1.rd (HLS.out.2.1.to H8.out.2.1)
    have hpm : ∀ p ∈ partsF l0 7, p.sz = (n : Int) := fun p hp => by
      obtain ⟨i, _, e⟩ := partsF_mem hp
      rw [e, HN.out]; rfl
    have C1 : Hid (∀ x : HW (BC W9), Calls Try.prog 32 #[.slice a8 (k + (N - K1)) c8, .agg RD, .int .i64 (n : Int)] x.w fun e w' => e = .returned (.int .i64 (dk : Int)) ∧ Below x.w.heap.size x.w w') := Lib.hid fun x => by
      have h := missing_any _ _ (sumF l0) (n : Int) x.w (rdl.to (BC_trans (by rw [H9.out.2.2.1]; exact below1 wA _) x.h)) (by rw [List.length_append, HLS.out.2.2.1, HLS.out.2.2.2.1]; have := HQ.out; omega) (fun q hq => H8.out.2.2.2.2.2.1 q (by
        rcases List.mem_append.1 hq with h | h
        · exact List.mem_of_mem_take h
        · exact List.mem_of_mem_drop h)) (sumF_len l0) (by omega)
      rw [HLS.out.1, HN.out, miss_less (by decide) (by rw [← HN.out]; omega) (by rw [← HN.out]; omega) (by rw [← HN.out, ← HQ.out.2.2.2.2.1]; exact HQ.out.2.2.2.2.2.1), ← H8.out.2.2.2.2.2.2.1, ← HN.out] at h
      rw [H8.out.2.2.2.2.2.2.2]
      exact h
    have C2 : Hid (∀ x : HW (BC W9), Calls Try.prog 32 #[.slice none 0 0, .agg RD, .int .i64 (n : Int)] x.w fun e w' => e = .returned (.int .i64 (n : Int)) ∧ Below x.w.heap.size x.w w') := Lib.hid fun x => by
      have h := missing_any (.slice none 0 0) [] (sumF l0) (n : Int) x.w (RdP.nil _ _) (by simp) (fun q hq => by simp at hq) (sumF_len l0) (by omega)
      rw [show ([] : List (Pt × Value)).map (·.1) = [] from rfl, hmiss hN1.1 (by omega) (fun p hp => by simp at hp), ← H8.out.2.2.2.2.2.2.1] at h
      exact h
    have hrp := HQ.out.1
    rw [HQ.out.2.2.2.1] at hrp
    have C3 : Hid (∀ x : HW (BC W9), Calls Try.prog 32 #[.slice (some ⟨g, o, none⟩) N c2, .agg RD, .int .i64 (n : Int)] x.w fun e w' => e = .returned (.int .i64 0) ∧ Below x.w.heap.size x.w w') := Lib.hid fun x => by
      have h := missing_any _ qs (sumF l0) (n : Int) x.w (hrp.to (hb9 x)) (by have := HQ.out; omega) H8.out.2.2.2.2.2.1 (sumF_len l0) (by omega)
      rw [HQ.out.2.2.1, HN.out, miss_all (by decide) (by rw [← HN.out]; omega) (by rw [← HN.out]; omega), ← H8.out.2.2.2.2.2.2.1, ← HN.out] at h
      exact h
    have C4 : Hid (∀ x : HW (BC W9), Calls Try.prog 32 #[.slice (some ⟨g, o, none⟩) N c2, .agg RD, .int .i64 (M1 : Int)] x.w fun e w' => e = .returned (.int .i64 (M1 : Int)) ∧ Below x.w.heap.size x.w w') := Lib.hid fun x => by
      have h := missing_any _ qs (sumF l0) (M1 : Int) x.w (hrp.to (hb9 x)) (by have := HQ.out; omega) H8.out.2.2.2.2.2.1 (sumF_len l0) (by omega)
      rw [HQ.out.2.2.1, hmiss (by omega) (by omega) (fun p hp => by rw [hpm p hp]; omega), ← H8.out.2.2.2.2.2.2.1] at h
      exact h
    have HRD : Hid (∀ x : HW (BC W9), x.w.heap[g9]? = some (.cells RD 23 (0, 0))) := Lib.hid (BC_blk H9.out.1)
    have HRS := Lib.hid H8.out.2.2.2.1
    clear hmiss hN1 hM1 rdl hpm hrp hln hb9 hzd
    have hS := BC_all (w := W9)
    haveI := BC_inst W9
    refine wp_region_head (BC W9) 45 (by kernel_rfl) (by kernel_rfl) (BC_start _) ?_
    simp only [List.take_succ_cons, List.take_zero, List.drop_succ_cons, List.drop_zero]
    repeat (first
      | ((with_reducible refine headG_load_row (o := ⟨some 44, _, _, _, _, _⟩) 23 (.tmp 9) ?_ ?_ _ ?_ _ RD _ _ HRD.out Try.underlying23 ?_ ?_ ?_); (focus rfl); (focus rfl); (focus rfl); (focus rfl); (focus (rw [HRS.out]; kernel_rfl)))
      | ((with_reducible refine headG_load_row (o := ⟨some 57, _, _, _, _, _⟩) 23 (.tmp 9) ?_ ?_ _ ?_ _ RD _ _ HRD.out Try.underlying23 ?_ ?_ ?_); (focus rfl); (focus rfl); (focus rfl); (focus rfl); (focus (rw [HRS.out]; kernel_rfl)))
      | ((with_reducible refine headG_load_row (o := ⟨some 67, _, _, _, _, _⟩) 23 (.tmp 9) ?_ ?_ _ ?_ _ RD _ _ HRD.out Try.underlying23 ?_ ?_ ?_); (focus rfl); (focus rfl); (focus rfl); (focus rfl); (focus (rw [HRS.out]; kernel_rfl)))
      | ((with_reducible refine headG_load_row (o := ⟨some 75, _, _, _, _, _⟩) 23 (.tmp 9) ?_ ?_ _ ?_ _ RD _ _ HRD.out Try.underlying23 ?_ ?_ ?_); (focus rfl); (focus rfl); (focus rfl); (focus rfl); (focus (rw [HRS.out]; kernel_rfl)))
      | (refine headG_step (fun K hK => ?_)
         go_simp
         first
           | (refine hK _ ?_; clear hK K)
           | (apply Exists.intro
              refine ⟨fun x => ?_, hK _ ?_⟩
              (first
                | exact BC_call x (by with_reducible exact C1.out _)
                | exact BC_call x (by with_reducible exact C2.out _)
                | exact BC_call x (by with_reducible exact C3.out _)
                | exact BC_call x (by with_reducible exact C4.out _))
              clear hK K)))
    refine headG_nil ?_
    intro w11 b11
    have HF := Lib.hid (BC_below HW2.out HW2.out.size (BC_trans H9.out.2.1 b11))
    clear hS hx1 b11
    go_wp2_with fail
    go_ret
    exact ⟨rfl, HF.out⟩

theorem own : ownKnob Try.prog.godebug = none := by kernel_rfl
theorem laidOut : laidOutB Try.prog = true := by kernel_rfl
set_option maxRecDepth 100000 in
theorem lifted (os : Os) (started : os.Started) (H : Type) (enc : TypeId × Value → H) :
    ReturnsInHanded {} Try.checked os 10 .any (Rows.gatherMissingSpec.pre6 enc Try.prog Try.f10 Rows.gatherMissingRow.domain false) (Rows.gatherMissingSpec.post enc Try.prog Try.f10 false true false false) := by
  refine returnsInHanded_of_change (C := Try.checked) own started (by kernel_rfl) Try.func10
    (ChangeSpec.witness6 (enc := enc) (C := Try.checked) false ⟨#[], #[.slice none 0 0, .int .u8 0], []⟩ 8 (by kernel_rfl) (by kernel_rfl) (by kernel_rfl) (by kernel_rfl)) ?_
  intro W base args ds gs before hval0 hW hcnd _
  have hval : ∀ (j : Nat) t v, Try.f10.params[j]? = some t → args[j]? = some v → Value.okWide Try.prog W .any base t v := hval0
  have hW' := hW
  obtain ⟨p, q, hA0, hV, rfl, hfz, hnd⟩ := hW
  have hA : DataW.TrodAll enc Try.prog W 0 (fun _ => true) true Try.f10.params.toList args.toList ds p := hA0
  rw [Try.params10] at hA hval
  obtain ⟨v0, vs0, d0, ds0, p0, q0, hargs, rfl, rfl, h0, r0⟩ := trodAll_cons hA
  obtain ⟨v1, vs1, d1, ds1, p1, q1, rfl, rfl, rfl, h1, r1⟩ := trodAll_cons r0
  obtain ⟨rfl, rfl, rfl⟩ := trodAll_nil r1
  obtain rfl : args = #[v0, v1] := by cases args; simp_all
  obtain ⟨rfl, rfl⟩ := trodVars_none hV
  obtain ⟨a0, len0, cap0, rfl⟩ := okWide_slice Try.underlying24 (hval 0 24 v0 rfl rfl)
  have k0 := h0
  have lt0 : ∀ x ∈ p0, x.block < W.heap.size := by obtain ⟨m, hm⟩ := k0; exact DataW.trod_lt m _ _ _ hm
  obtain ⟨z0, w0⟩ : ∃ zs, IsRow .u8 W a0 len0 cap0 zs := by
    obtain ⟨fuel, hf⟩ := h0
    rcases open_ints Try.underlying24 Try.underlying5 (by kernel_rfl) hf with ⟨hcs, _⟩ | ⟨x, l, c, zs, hcs, _, hl, hm, hz, _, hcell, hwz⟩
    · simp [Value.cells] at hcs
      obtain ⟨rfl, rfl, rfl⟩ := hcs
      exact ⟨[], .inl ⟨rfl, rfl, rfl, rfl⟩⟩
    · simp [Value.cells] at hcs
      obtain ⟨rfl, rfl, rfl⟩ := hcs
      exact ⟨zs, .inr ⟨_, rfl, hl, hm, by simpa using hz, hcell, hwz⟩⟩
  obtain ⟨b0, o0, l0, hv0, hl0, hb0⟩ := isb_of_row w0
  obtain ⟨a1, rfl, rfl, rfl, w1⟩ := open_int Try.underlying5 (hval 1 5 v1 rfl rfl) h1
  clear hA0 hval0
  refine (walk (.slice a0 len0 cap0) b0 o0 l0 a1 hv0 hb0 w1 W hl0).mono fun e W' ⟨he, bel⟩ => ?_
  subst he
  exact ⟨_, rfl, _, _, _, [], _, [], hW', trodAll_mk1 (shut_bool Try.underlying4 _), (trodAll_cons_mk (Below.trod laidOut (by kernel_rfl) (of_decide_eq_true (by kernel_rfl)) k0 bel lt0) (trodAll_cons_mk (shut_int Try.underlying5 w1) trodAll_mk0)), rfl, bel.frame _, fun h => by cases h⟩
theorem over : Rows.gatherMissingRow.holds Try.pinned (OpenSpec.ofChange Rows.gatherMissingSpec) :=
  OpenClaim.holds_of_wide 10 Try.f10 rfl rfl rfl rfl rfl rfl rfl ⟨rfl, rfl, rfl, rfl, rfl⟩ rfl rfl rfl rfl rfl (by kernel_rfl) Try.func10 (by kernel_rfl)
    (of_decide_eq_true (by kernel_rfl)) (by unfold Func.isWrapper; first | (rw [if_pos (by decide +kernel)]; kernel_rfl) | (rw [if_neg (by decide +kernel)]; exact ⟨rfl, rfl⟩))
    (fun os started H enc _ => lifted os started H enc)
theorem proved : Rows.GatherMissingSaid := over
#print axioms proved
end Go.Proofs.Ytjnimbhecfpnmaa.gatherMissingDone
