/- The walk of bindlelaw14.ViewTrees. -/
import Derived.Test.YtagdlbadkmgdmaaDoorRTree
import Derived.Test.YtagdlbadkmgdmaaDoorSame8
import Derived.Test.YtagdlbadkmgdmaaDoorAwake14
import Derived.Deep.Cut
namespace Go.Proofs.YtagdlbadkmgdmaaDoor
set_option maxRecDepth 100000
open Go.ChangeShapes Go.WideShapes Go.ChangeAt Go.RowKit

/-- contents that came in, of any length -/
def GoodB0 (w : World) (bs : List Bl) : Prop := ∀ p ∈ bs, Bytes p.1 ∧ ∃ b o, SlV p.2 b o p.1.length ∧ Lies w b o p.1
theorem treeK_len (ss : List Sd) (bl : List (List Int)) : ∀ (i : Nat) (fs : List (ByteArray × List Int)), treeK ss bl i = some fs → fs.length = i
  | 0, fs, h => by
    injection h with h
    subst h
    rfl
  | i + 1, fs, h => by
    rw [treeK] at h
    cases h1 : treeK ss bl i with
    | none => rw [h1] at h; cases h
    | some fs0 =>
      cases h2 : ss[i]? with
      | none => rw [h1, h2] at h; cases h
      | some s =>
        rw [h1, h2] at h
        simp only [Option.map_eq_some_iff] at h
        obtain ⟨l, _, rfl⟩ := h
        rw [List.length_append, List.length_singleton, treeK_len ss bl i fs0 h1]
/-- what the files of both are -/
def TreeOut (ss : List Sd) (bl : List (List Int)) (e : Ending) (w' : World) : Prop := ∃ v' fs x, e = .returned (.tuple #[v', .int .i64 x]) ∧ RdG 2 w'.heap.size w' v' (fiR fs) ∧ GoodF w' fs ∧ ((treeK ss bl ss.length = none ∧ fs = [] ∧ x = 6) ∨ (treeK ss bl ss.length = some (fs.map (·.1)) ∧ x = 0))
theorem treeOut {ss : List Sd} {bl : List (List Int)} {e : Ending} {w' : World} (h : (treeK ss bl ss.length = none ∧ e = .returned (.tuple #[.slice none 0 0, .int .i64 6])) ∨ (∃ v' fs, treeK ss bl ss.length = some (fs.map (·.1)) ∧ e = .returned (.tuple #[v', .int .i64 0]) ∧ RdG 2 w'.heap.size w' v' (fiR fs) ∧ GoodF w' fs)) : TreeOut ss bl e w' := by
  rcases h with ⟨h1, h2⟩ | ⟨v', fs, h1, h2, h3, h4⟩
  · exact ⟨_, [], 6, h2, RdG.nil _ _ _, fun f hf => absurd hf List.not_mem_nil, .inl ⟨h1, rfl, rfl⟩⟩
  · exact ⟨v', fs, 0, h2, h3, h4, .inr ⟨h1, rfl⟩⟩
attribute [local irreducible] SlV Lies headG slotG
attribute [local go_sem] takes takesE comesTo comesToP
set_option maxHeartbeats 16000000 in
theorem viewTrees_walk (v v1 : Value) (ss : List Sd) (bs : List Bl) (w : World) (hv : RdG 36 w.heap.size w v (sdR ss)) (hsum : ∀ s ∈ ss, s.sum.length = 32) (hb : GoodB0 w bs) (hb1 : RdG 1 w.heap.size w v1 (blR bs)) (ht : Tab w) :
    Calls Tryd.prog 7 #[v, v1] w fun e w' => e = .returned (.bool true) ∧ Below w.heap.size w w' := by
  have HAW := bx (awake14_any w ht)
  have hv0 := hv
  have hb10 := hb1
  obtain ⟨_, g, o, sv, rg, _⟩ := hv
  have hlen : (sdR ss).length = ss.length := by simp [sdR]
  rw [hlen] at sv
  obtain ⟨a, c, rfl, _, hcm, ha, _⟩ := by unfold SlV at sv; exact sv
  obtain ⟨n, hN⟩ : ∃ n, n = ss.length := ⟨_, rfl⟩
  obtain ⟨_, gb, ob, svb, rgb, _⟩ := hb1
  have hlen2 : (blR bs).length = bs.length := by simp [blR]
  rw [hlen2] at svb
  obtain ⟨ab, cb, rfl, _, hcm2, hab, _⟩ := by unfold SlV at svb; exact svb
  obtain ⟨m, hM⟩ : ∃ n, n = bs.length := ⟨_, rfl⟩
  have hm63 : m ≤ 9223372036854775807 := by have h1 : maxLen = 9223372036854775807 := by decide
                                            omega
  rw [← hN] at ha hv0 ⊢
  rw [← hM] at hab hb10 ⊢
  have HV := bx (And.intro rg (And.intro hN (And.intro ha (And.intro hv0 hsum))))
  have HB := bx (And.intro rgb (And.intro hM (And.intro hab (And.intro hb (And.intro hb10 hm63)))))
  clear sv rg hN ha hlen hsum rgb hM hab svb hlen2 hb hb10 hv0 ht hcm hcm2 hm63
  go_enter Tryd.func7, Tryd.ntmps7
  go_wp2_with fail
  refine HAW.out.mono ?_
  rintro e w1 ⟨rfl, b1⟩
  have H1 := bx (show BC w w1 from b1)
  clear b1 HAW
  rcases Nat.lt_or_ge 20 n with hn | hn
  · have hn2 : (20 : Int) < (n : Int) := by omega
    go_wp2_with fail
    go_ret
    exact ⟨rfl, H1.out⟩
  have hn2 : ¬ (20 : Int) < (n : Int) := by omega
  rcases Nat.lt_or_ge 20 m with hm | hm
  · have hm2 : (20 : Int) < (m : Int) := by omega
    go_wp2_with fail
    go_ret
    exact ⟨rfl, H1.out⟩
  have hm2 : ¬ (20 : Int) < (m : Int) := by omega
  have HNM := bx (And.intro hn hm)
  clear hn hm
  go_upto_region 5 with fail
  go_loopw [6] (fun v6 wr => ∃ i : Nat, i ≤ m ∧ v6 = .int .i64 (i : Int) ∧ wr = w1 ∧ ∀ j (hj : j < bs.length), j < i → bs[j].1.length ≤ 300) (fun i _ => m - (intOf i).toNat)
  case atStart => exact ⟨0, Nat.zero_le _, rfl, rfl, fun j hj h => by omega⟩
  case round =>
    obtain ⟨i, hi, rfl, rfl, hz⟩ := hrel
    have HR := bx (And.intro hi hz)
    clear hi hz
    by_cases hlt : i < m
    · have i0 : (0 : Int) ≤ (i : Int) := by omega
      have i1 : (i : Int) < (m : Int) := by omega
      obtain ⟨I1, hI1⟩ : ∃ m, m = i + 1 := ⟨_, rfl⟩
      have s1 : IntKind.i64.wrap ((i : Int) + 1) = (I1 : Int) := by rw [IntKind.wrap_i64]; have := HNM.out.2; omega
      have hib : i < bs.length := by rw [← HB.out.2.1]; exact hlt
      have hrk := rangeG_get HB.out.1 (blR_n bs) (show i < (blR bs).length by simp [blR]; exact hib)
      have hpm := List.getElem_mem hib
      obtain ⟨p, hp⟩ : ∃ p, p = bs[i] := ⟨_, rfl⟩
      have hrk0 := hrk 0 p.2 (by simp [blR, hp])
      rw [Nat.mul_one, Nat.add_zero] at hrk0
      rw [← hp] at hpm
      obtain rfl := HB.out.2.2.1 (by omega)
      obtain ⟨_, b, o', h3, _⟩ := HB.out.2.2.2.1 p hpm
      obtain ⟨pa, pc, hpf, _⟩ := by unfold SlV at h3; exact h3
      have c0 := later H1.out hrk0
      rw [hpf] at c0
      obtain ⟨l, hl⟩ : ∃ l, l = p.1.length := ⟨_, rfl⟩
      rw [← hl] at c0
      have HI := bx (And.intro hI1 (And.intro hlt (And.intro hp (And.intro hl hib))))
      clear hI1 hlt hrk hpm hp hrk0 h3 hpf hl
      rcases Nat.lt_or_ge 300 l with h300 | h300
      · have h3 : (300 : Int) < (l : Int) := by omega
        go_wp2_with fail
        go_ret
        exact ⟨rfl, H1.out⟩
      · have h3 : ¬ (300 : Int) < (l : Int) := by omega
        go_wp2_with fail
        go_roundw
        case rel => exact ⟨I1, by have := HI.out; omega, rfl, trivial, fun j hj hjk => by
          have h1 := HI.out.1
          by_cases h : j = i
          · subst h
            rw [← HI.out.2.2.1, ← HI.out.2.2.2.1]
            exact h300
          · exact HR.out.2 j hj (by omega)⟩
        case measure => have := HI.out; simp [intOf]; omega
    · have hge : ¬ (i : Int) < (m : Int) := by omega
      have him : i = m := by have := HR.out.1; omega
      have hrb : RdB w (.slice ab m cb) bs := ⟨fun p hp => by
        obtain ⟨h1, b, o, h2, h3⟩ := HB.out.2.2.2.1 p hp
        obtain ⟨j, hj, rfl⟩ := List.getElem_of_mem hp
        have h4 := HR.out.2 j hj (by rw [him, HB.out.2.1]; exact hj)
        exact ⟨by omega, h1, b, o, h2, h3⟩, HB.out.2.2.2.2.1⟩
      have HRB := bx hrb
      obtain ⟨bl, hbl⟩ : ∃ l, l = bs.map (·.1) := ⟨_, rfl⟩
      have hnl : ss.length ≤ 100000 := by have h1 := HV.out.2.1; have h2 := HNM.out.1; omega
      have hml : bs.length ≤ 100000 := by have h1 := HB.out.2.1; have h2 := HNM.out.2; omega
      have HT := bx (tree_any (.slice a n c) (.slice ab m cb) ss bs wr (HV.out.2.2.2.1.to H1.out) hnl HV.out.2.2.2.2 (hrb.to H1.out) hml)
      have HC := bx (And.intro hnl hml)
      clear hrb hlt him hnl hml
      go_wp2_with fail
      refine HT.out.mono ?_
      rintro e w2 ⟨ho, b2⟩
      obtain ⟨va, fs1, x1, rfl, hr1, hg1, hx1⟩ := treeOut ho
      have bw2 := BC_trans H1.out b2
      have HRL := bx (real_any (.slice a n c) ss w2 (HV.out.2.2.2.1.to bw2) HC.out.1)
      obtain ⟨vaa, vac, hvf⟩ := hr1.form
      have H2 := bx (And.intro bw2 (And.intro hr1 (And.intro hg1 hx1)))
      subst hvf
      clear ho b2 bw2 hr1 hg1 hx1
      go_wp2_with fail
      refine HRL.out.mono ?_
      rintro e w3 ⟨v3, rfl, hr3, b3⟩
      have bw3 := BC_trans H2.out.1 b3
      have HRT := bx (rtree_any v3 (.slice ab m cb) ss bs w3 hr3 HC.out.1 HV.out.2.2.2.2 (HRB.out.to bw3) HC.out.2)
      obtain ⟨v3a, v3c, hvf⟩ := hr3.form
      have H3 := bx (And.intro bw3 (show BC w2 w3 from b3))
      subst hvf
      clear b3 bw3 hr3
      go_wp2_with fail
      refine HRT.out.mono ?_
      rintro e w4 ⟨ho, b4⟩
      obtain ⟨vb, fs2, x2, rfl, hr2, hg2, hx2⟩ := treeOut ho
      have heq : fs1.map (·.1) = fs2.map (·.1) ∧ x1 = x2 := by
        have hx1 := H2.out.2.2.2
        rcases hx1 with ⟨h1, h2, h3⟩ | ⟨h1, h3⟩
        · rcases hx2 with ⟨k1, k2, k3⟩ | ⟨k1, k3⟩
          · exact ⟨by rw [h2, k2], by rw [h3, k3]⟩
          · rw [h1] at k1; cases k1
        · rcases hx2 with ⟨k1, k2, k3⟩ | ⟨k1, k3⟩
          · rw [h1] at k1; cases k1
          · rw [h1] at k1
            injection k1 with k1
            exact ⟨k1, by rw [h3, k3]⟩
      have hfl : fs1.length ≤ 1000000 := by
        rcases H2.out.2.2.2 with ⟨_, h2, _⟩ | ⟨h1, _⟩
        · rw [h2]; exact Nat.zero_le _
        · have h := treeK_len _ _ _ _ h1
          rw [List.length_map] at h
          have h4 := HC.out.1
          omega
      have hxx : (x1 == x2) = true := beq_iff_eq.2 heq.2
      have bw4 := BC_trans H3.out.1 b4
      have HSM := bx (fun (W : World) (hW : BC w4 W) => same8_any _ vb fs1 fs2 W (H2.out.2.1.to (BC_trans H3.out.2 (BC_trans b4 hW))) (H2.out.2.2.1.to (BC_trans H3.out.2 (BC_trans b4 hW))) (hr2.to hW) (hg2.to hW) heq.1 hfl)
      obtain ⟨vba, vbc, hvf⟩ := hr2.form
      have H4 := bx bw4
      subst hvf
      clear ho b4 bw4 hr2 hg2 hx2 heq hfl
      go_upto_region 12 with fail
      go_loopw [11] (fun v11 wr => ∃ i : Nat, v11 = .int .i64 (i : Int) ∧ i ≤ n ∧ BC w4 wr) (fun i _ => n - (intOf i).toNat)
      case atStart => exact ⟨0, rfl, Nat.zero_le _, BC_refl _⟩
      case round =>
        obtain ⟨i, rfl, hi, hbr⟩ := hrel
        have HQ := bx (And.intro hi (And.intro (show BC w4 _ from hbr) (BC_trans H4.out hbr)))
        clear hi hbr
        by_cases hin : i < n
        · by_cases him : i < m
          · have i0 : (0 : Int) ≤ (i : Int) := by omega
            have i1 : (i : Int) < (n : Int) := by omega
            have i2 : (i : Int) < (m : Int) := by omega
            obtain ⟨I1, hI1⟩ : ∃ m, m = i + 1 := ⟨_, rfl⟩
            have s1 : IntKind.i64.wrap ((i : Int) + 1) = (I1 : Int) := by rw [IntKind.wrap_i64]; have := HNM.out.2; omega
            have hib : i < bs.length := by rw [← HB.out.2.1]; exact him
            have hiq : i < ss.length := by rw [← HV.out.2.1]; exact hin
            have hrk := rangeG_get HB.out.1 (blR_n bs) (show i < (blR bs).length by simp [blR]; exact hib)
            have hpm := List.getElem_mem hib
            obtain ⟨p, hp⟩ : ∃ p, p = bs[i] := ⟨_, rfl⟩
            have hrk0 := hrk 0 p.2 (by simp [blR, hp])
            rw [Nat.mul_one, Nat.add_zero] at hrk0
            rw [← hp] at hpm
            have hrg := rangeG_get HV.out.1 (sdR_n ss) (show i < (sdR ss).length by simp [sdR]; exact hiq)
            have hvi : (sdR ss)[i]'(by simp [sdR]; exact hiq) = sdC (ss[i]'hiq) := by simp [sdR]
            rw [hvi] at hrg
            have hsm := HV.out.2.2.2.2 _ (List.getElem_mem hiq)
            obtain ⟨s, hs⟩ : ∃ s, s = ss[i]'hiq := ⟨_, rfl⟩
            rw [← hs] at hrg hsm
            obtain rfl := HB.out.2.2.1 (by omega)
            obtain rfl := HV.out.2.2.1 (by omega)
            have hhp := HRB.out.1 p hpm
            obtain ⟨h1, h2, b, o', h3, h4⟩ := hhp
            obtain ⟨A, hA⟩ : ∃ A, A = (sdC s).toArray := ⟨_, rfl⟩
            obtain ⟨pa, pc, hpf, _⟩ := by unfold SlV at h3; exact h3
            obtain ⟨fb, hfb⟩ : ∃ x, x = fitsF s p.1 := ⟨_, rfl⟩
            obtain ⟨wq, hwq⟩ : ∃ W, W = wr := ⟨_, rfl⟩
            have HF1 : Bx (∀ x : HW (BC _), Calls Tryd.prog 21 #[.agg A, p.2] x.w fun e w' => e = .returned (.bool fb) ∧ Below x.w.heap.size x.w w') := bx fun x => by
              rw [hA, hfb]
              exact vfits_any s hsm p.1 h2 h1 b o' p.2 h3 x.w (h4.below (BC_trans HQ.out.2.2 x.h))
            have HF2 : Bx (∀ x : HW (BC _), Calls Tryd.prog 22 #[.agg A, p.2] x.w fun e w' => e = .returned (.bool fb) ∧ Below x.w.heap.size x.w w') := bx fun x => by
              rw [hA, hfb]
              exact rfits_any s hsm p.1 h2 h1 b o' p.2 h3 x.w (h4.below (BC_trans HQ.out.2.2 x.h))
            have HXA : Bx (∀ x : HW (BC _), x.w.rangeAt g (o + i * 36) A.toList) := bx fun x j u hj => later (BC_trans HQ.out.2.2 x.h) (hrg j u (by rw [hA] at hj; exact hj))
            have HAZ := bx (show A.size = 36 by rw [hA]; simpa using sdC_len s)
            have c2 : ∀ x : HW (BC _), x.w.cell? ⟨gb, ob + i, none⟩ = some p.2 := fun x => later (BC_trans HQ.out.2.2 x.h) hrk0
            rw [hpf] at HF1 HF2 c2
            obtain ⟨l, hl⟩ : ∃ l, l = p.1.length := ⟨_, rfl⟩
            rw [← hl] at HF1 HF2 c2
            have HI := bx (And.intro hI1 (And.intro hin him))
            clear hI1 hin him hrk hpm hp hrk0 hrg hvi hsm hs h1 h2 h3 h4 hA hpf hfb hl hwq
            go_upto_region 14 with fail
            refine wp_region_slots (by kernel_rfl) (by kernel_rfl) (by kernel_rfl) [none, none, none, none, none, none, none, none, none, none, none, none, none, none, none, none, none, none, none] ?_
            repeat (first
              | ((with_reducible refine slotG_mid (o := ⟨some 63, _, _, _, _, _⟩) 40 (.tmp 62) ?_ ?_ _ _ ?_ A _ HXA.out Tryd.underlying40 ?_ ?_ ?_); (focus rfl); (focus (exact fun _ => rfl)); (focus (exact fun _ => rfl)); (focus rfl); (focus (rw [HAZ.out]; kernel_rfl)); apply Exists.intro; refine ⟨fun u => ?_, ?_⟩; (focus (go_simp; try exact rfl)))
              | ((with_reducible refine slotG_mid (o := ⟨some 72, _, _, _, _, _⟩) 40 (.tmp 71) ?_ ?_ _ _ ?_ A _ HXA.out Tryd.underlying40 ?_ ?_ ?_); (focus rfl); (focus (exact fun _ => rfl)); (focus (exact fun _ => rfl)); (focus rfl); (focus (rw [HAZ.out]; kernel_rfl)); apply Exists.intro; refine ⟨fun u => ?_, ?_⟩; (focus (go_simp; try exact rfl)))
              | (refine slotG_oneN (fun K hK => ?_)
                 apply Exists.intro
                 refine ⟨fun x u hF => ?_, ?_⟩
                 (focus (go_simp
                         first
                           | (go_at_call 21
                              with_reducible refine (HF1.out x).mono ?_
                              rintro e w' ⟨rfl, hz⟩
                              exact ⟨rfl, hz⟩)
                           | (go_at_call 22
                              with_reducible refine (HF2.out x).mono ?_
                              rintro e w' ⟨rfl, hz⟩
                              exact ⟨rfl, hz⟩)
                           | (exact rfl)
                           | (exact ⟨rfl, BC_refl _⟩)))
                 apply Exists.intro
                 refine ⟨fun u => ?_, ?_⟩
                 (focus (go_simp; try exact rfl))
                 refine hK _ ?_
                 clear hK K))
            refine slotG_end ?_
            intro wy u hby hall
            have HY := bx (BC_trans HQ.out.2.1 hby)
            clear hall hby c2
            go_wp2_with fail
            go_roundw
            case rel => exact ⟨I1, rfl, by have := HI.out; omega, HY.out⟩
            case measure => have := HI.out; simp [intOf]; omega
          · have i1 : (i : Int) < (n : Int) := by omega
            have i2 : ¬ (i : Int) < (m : Int) := by omega
            go_wp2_with fail
            refine (HSM.out _ HQ.out.2.1).mono ?_
            rintro e w9 ⟨rfl, b9⟩
            have HE := bx (BC_trans HQ.out.2.2 b9)
            clear b9
            go_wp2_with fail
            go_ret
            exact ⟨rfl, HE.out⟩
        · have i1 : ¬ (i : Int) < (n : Int) := by omega
          go_wp2_with fail
          refine (HSM.out _ HQ.out.2.1).mono ?_
          rintro e w9 ⟨rfl, b9⟩
          have HE := bx (BC_trans HQ.out.2.2 b9)
          clear b9
          go_wp2_with fail
          go_ret
          exact ⟨rfl, HE.out⟩
end Go.Proofs.YtagdlbadkmgdmaaDoor
