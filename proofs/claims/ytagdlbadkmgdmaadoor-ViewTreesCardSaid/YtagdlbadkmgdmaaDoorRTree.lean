/- bindleref14.Tree. -/
import Derived.Test.YtagdlbadkmgdmaaDoorTree
namespace Go.Proofs.YtagdlbadkmgdmaaDoor
set_option maxRecDepth 100000
open Go.ChangeShapes Go.WideShapes Go.ChangeAt Go.RowKit

/-- a new slice of one file -/
def OneSl (pa : ByteArray) (c v : Value) (w : World) : Prop := ∃ b, v = .slice (some ⟨b, 0, none⟩) 1 1 ∧ w.heap[b]? = some (.cells #[.string pa, c] 92 (0, 0))
theorem OneSl.to {pa : ByteArray} {c v : Value} {w w' : World} (hb : BC w w') (h : OneSl pa c v w) : OneSl pa c v w' := by
  obtain ⟨b, h1, h2⟩ := h
  exact ⟨b, h1, BC_blk1 hb h2⟩
attribute [local irreducible] SlV Lies headG slotG
attribute [local go_sem] takes takesE comesTo comesToP
set_option maxHeartbeats 16000000 in
theorem rtree_any (v vb : Value) (ss : List Sd) (bs : List Bl) (w : World) (hv : RdG 36 w.heap.size w v (sdR ss)) (hn : ss.length ≤ 100000) (hsum : ∀ s ∈ ss, s.sum.length = 32) (hb : RdB w vb bs) (hm : bs.length ≤ 100000) :
    Calls Tryd.prog 20 #[v, vb] w fun e w' => ((treeK ss (bs.map (·.1)) ss.length = none ∧ e = .returned (.tuple #[.slice none 0 0, .int .i64 6])) ∨ (∃ v' fs, treeK ss (bs.map (·.1)) ss.length = some (fs.map (·.1)) ∧ e = .returned (.tuple #[v', .int .i64 0]) ∧ RdG 2 w'.heap.size w' v' (fiR fs) ∧ GoodF w' fs)) ∧ Below w.heap.size w w' := by
  obtain ⟨_, g, o, sv, rg, _⟩ := hv
  have hlen : (sdR ss).length = ss.length := by simp [sdR]
  rw [hlen] at sv
  obtain ⟨a, c, rfl, _, _, ha, _⟩ := by unfold SlV at sv; exact sv
  obtain ⟨n, hN⟩ : ∃ n, n = ss.length := ⟨_, rfl⟩
  rw [← hN] at ha hn ⊢
  have hb0 := hb
  obtain ⟨_, _, gb, ob, svb, rgb, _⟩ := hb
  have hlen2 : (blR bs).length = bs.length := by simp [blR]
  rw [hlen2] at svb
  obtain ⟨ab, cb, rfl, _, _, hab, _⟩ := by unfold SlV at svb; exact svb
  obtain ⟨m, hM⟩ : ∃ n, n = bs.length := ⟨_, rfl⟩
  rw [← hM] at hab hm hb0 ⊢
  obtain ⟨bl, hbl⟩ : ∃ l, l = bs.map (·.1) := ⟨_, rfl⟩
  rw [← hbl]
  have HV := bx (And.intro rg (And.intro hN (And.intro ha (And.intro hn hsum))))
  have HB := bx (And.intro rgb (And.intro hM (And.intro hab (And.intro hm (And.intro hb0 hbl)))))
  clear sv rg hN ha hn hlen hsum rgb hM hab hm hb0 svb hlen2 hbl
  go_enter Tryd.func20, Tryd.ntmps20
  go_wp2_with fail
  go_loopw [6, 7] (fun v6 v7 wr => ∃ (i : Nat) (fs : List Fi), i ≤ n ∧ v7 = .int .i64 (i : Int) ∧ OwnG shFi w.heap.size wr v6 (fiR fs) ∧ GoodF wr fs ∧ (∀ f ∈ fs, Held1 w f.2 f.1.2) ∧ treeK ss bl i = some (fs.map (·.1)) ∧ fs.length ≤ i ∧ BC w wr) (fun _ i _ => n - (intOf i).toNat)
  case atStart => exact ⟨0, [], Nat.zero_le _, rfl, OwnG.nil _ _ _, fun f hf => absurd hf List.not_mem_nil, fun f hf => absurd hf List.not_mem_nil, rfl, Nat.le_refl _, BC_refl _⟩
  case round =>
    obtain ⟨i, fs, hi, rfl, hown, hgf, hgt, htk, hfl, hbr⟩ := hrel
    obtain ⟨wr0, hw0⟩ : ∃ W, W = wr := ⟨_, rfl⟩
    rw [← hw0] at hown hgf hbr
    have HR := bx (And.intro hown (And.intro hgf (And.intro hgt (And.intro htk (And.intro hfl (And.intro hbr (And.intro hi hw0)))))))
    clear hown hgf hgt htk hfl hbr hi hw0
    by_cases hlt : i < n
    · have i0 : (0 : Int) ≤ (i : Int) := by omega
      have i1 : (i : Int) < (n : Int) := by omega
      obtain ⟨I1, hI1⟩ : ∃ m, m = i + 1 := ⟨_, rfl⟩
      have s1 : IntKind.i64.wrap ((i : Int) + 1) = (I1 : Int) := by rw [IntKind.wrap_i64]; have := HV.out.2.2.2.1; omega
      have hiq : i < ss.length := by rw [← HV.out.2.1]; exact hlt
      obtain rfl := HV.out.2.2.1 (by omega)
      have hrg := rangeG_get HV.out.1 (sdR_n ss) (show i < (sdR ss).length by simp [sdR]; exact hiq)
      have hvi : (sdR ss)[i]'(by simp [sdR]; exact hiq) = sdC (ss[i]'hiq) := by simp [sdR]
      rw [hvi] at hrg
      have hsm := HV.out.2.2.2.2 _ (List.getElem_mem hiq)
      have hse : ss[i]? = some (ss[i]'hiq) := List.getElem?_eq_getElem hiq
      obtain ⟨s, hs⟩ : ∃ s, s = ss[i]'hiq := ⟨_, rfl⟩
      rw [← hs] at hrg hsm hse
      have hstep : treeK ss bl I1 = (bl.find? (fitsF s)).map fun l => fs.map (·.1) ++ [(s.path, l)] := by rw [hI1, treeK, HR.out.2.2.2.1, hse]
      obtain ⟨A, hA⟩ : ∃ A, A = (sdC s).toArray := ⟨_, rfl⟩
      have hAz : A.size = 36 := by rw [hA]; simpa using sdC_len s
      have hrg2 : ∀ x : HW (BC w), x.w.rangeAt g (o + i * 36) A.toList := fun x j u hj => later x.h (hrg j u (by rw [hA] at hj; exact hj))
      obtain ⟨pa, hpa⟩ : ∃ x, x = s.path := ⟨_, rfl⟩
      have hcp : ∀ x : HW (BC w), x.w.cell? ⟨g, o + i * 36, none⟩ = some (.string pa) := fun x => hrg2 x 0 _ (by rw [hA, hpa]; rfl)
      have HFI := bx (fun (W : World) (hW : BC w W) (q : Bl) (hq : q ∈ bs) => by
        obtain ⟨h1, h2, b, o, h3, h4⟩ := (HB.out.2.2.2.2.1.1.to hW) q hq
        exact rfits_any s hsm q.1 h2 h1 b o q.2 h3 W h4)
      rw [← hA] at HFI
      have HI := bx (And.intro hI1 (And.intro hlt (And.intro hstep hpa)))
      have H8 := bx (And.intro hrg2 (And.intro hcp hAz))
      clear hI1 hlt hstep hpa hrg hvi hsm hse hs hiq hA hAz hrg2 hcp
      go_wp2_with fail
      go_loopw [8] (fun v8 wr => ∃ k : Nat, k ≤ m ∧ v8 = .int .i64 (k : Int) ∧ BC wr0 wr ∧ ∀ j (hj : j < bs.length), j < k → fitsF s bs[j].1 = false) (fun k _ => m - (intOf k).toNat)
      case atStart => exact ⟨0, Nat.zero_le _, rfl, by rw [HR.out.2.2.2.2.2.2.2]; exact BC_refl _, fun j hj h => by omega⟩
      case round =>
        obtain ⟨k, hk, rfl, hbk, hz⟩ := hrel
        have HK := bx (And.intro hk (And.intro hbk (And.intro hz (BC_trans HR.out.2.2.2.2.2.1 hbk))))
        clear hk hbk hz
        have HXA : Bx (∀ x : HW (BC wr), x.w.rangeAt g (o + i * 36) A.toList) := bx fun x => H8.out.1 ⟨x.w, BC_trans HK.out.2.2.2 x.h⟩
        by_cases hkm : k < m
        · have k0 : (0 : Int) ≤ (k : Int) := by omega
          have k1 : (k : Int) < (m : Int) := by omega
          obtain ⟨K1, hK1⟩ : ∃ m, m = k + 1 := ⟨_, rfl⟩
          have s2 : IntKind.i64.wrap ((k : Int) + 1) = (K1 : Int) := by rw [IntKind.wrap_i64]; have := HB.out.2.2.2.1; omega
          have hkb : k < bs.length := by rw [← HB.out.2.1]; exact hkm
          have hpm := List.getElem_mem hkb
          have hrk := rangeG_get HB.out.1 (blR_n bs) (show k < (blR bs).length by simp [blR]; exact hkb)
          obtain ⟨p, hp⟩ : ∃ p, p = bs[k] := ⟨_, rfl⟩
          rw [← hp] at hpm
          have hrk0 := hrk 0 p.2 (by simp [blR, hp])
          rw [Nat.mul_one, Nat.add_zero] at hrk0
          obtain rfl := HB.out.2.2.1 (by omega)
          have hhp : Held1 w p.2 p.1 := HB.out.2.2.2.2.1.1 p hpm
          obtain ⟨pva, pvc, hpvf⟩ := hhp.form
          have c2 : ∀ x : HW (BC wr), x.w.cell? ⟨gb, ob + k, none⟩ = some p.2 := fun x => later (BC_trans HK.out.2.2.2 x.h) hrk0
          have HFT : Bx (∀ x : HW (BC wr), Calls Tryd.prog 22 #[.agg A, p.2] x.w fun e w' => e = .returned (.bool (fitsF s p.1)) ∧ Below x.w.heap.size x.w w') := bx fun x => HFI.out x.w (BC_trans HK.out.2.2.2 x.h) p hpm
          rw [hpvf] at c2 HFT
          obtain ⟨ft, hft⟩ : ∃ b, b = fitsF s p.1 := ⟨_, rfl⟩
          rw [← hft] at HFT
          have HKK := bx (And.intro hK1 (And.intro hkm (And.intro hft (And.intro hp (And.intro hkb (And.intro hhp hpvf))))))
          obtain ⟨ll, hll⟩ : ∃ n, n = p.1.length := ⟨_, rfl⟩
          rw [← hll] at c2 HFT
          have HLL := bx hll
          clear hK1 hkm hft hp hpm hrk hrk0 hhp hpvf hll
          cases ft with
          | true =>
            go_upto_region 6 with fail
            refine wp_region_slots (by kernel_rfl) (by kernel_rfl) (by kernel_rfl) [none, none, none, none, none, none, none, none, none, none, none, none, none, none, none, none] ?_
            repeat (first
              | ((with_reducible refine slotG_mid (o := ⟨some 23, _, _, _, _, _⟩) 50 (.tmp 22) ?_ ?_ _ _ ?_ A _ HXA.out Tryd.underlying50 ?_ ?_ ?_); (focus rfl); (focus (exact fun _ => rfl)); (focus (exact fun _ => rfl)); (focus rfl); (focus (rw [H8.out.2.2]; kernel_rfl)); apply Exists.intro; refine ⟨fun u => ?_, ?_⟩; (focus (go_simp; try exact rfl)))
              | (refine slotG_oneN (fun K hK => ?_)
                 apply Exists.intro
                 refine ⟨fun x u hF => ?_, ?_⟩
                 (focus (go_simp
                         first
                           | (go_at_call 22
                              with_reducible refine (HFT.out x).mono ?_
                              rintro e w' ⟨rfl, hz⟩
                              exact ⟨rfl, hz⟩)
                           | (exact rfl)
                           | (exact ⟨rfl, BC_refl _⟩)))
                 apply Exists.intro
                 refine ⟨fun u => ?_, ?_⟩
                 (focus (go_simp; try exact rfl))
                 refine hK _ ?_
                 clear hK K))
            refine slotG_end ?_
            intro wy u hby hall
            have hne : ((k : Int) == (m : Int)) = false := beq_eq_false_iff_ne.2 (by omega)
            have hfind : bl.find? (fitsF s) = some p.1 := by
              have hkbl : k < bl.length := by rw [HB.out.2.2.2.2.2, List.length_map]; exact HKK.out.2.2.2.2.1
              have h := find_at (pr := fitsF s) (l := bl) hkbl (by simp only [HB.out.2.2.2.2.2, List.getElem_map]; rw [← HKK.out.2.2.2.1]; exact HKK.out.2.2.1.symm) (fun j hj hjk => by simp only [HB.out.2.2.2.2.2, List.getElem_map]; exact HK.out.2.2.1 j (by rw [HB.out.2.2.2.2.2, List.length_map] at hj; exact hj) hjk)
              rw [h]
              simp only [HB.out.2.2.2.2.2, List.getElem_map]
              rw [← HKK.out.2.2.2.1]
            have HY := bx (And.intro (BC_trans HK.out.2.1 hby) (And.intro (BC_trans HK.out.2.2.2 hby) hfind))
            have d2 : ∀ x : HW (BC wy), x.w.cell? ⟨gb, ob + k, none⟩ = some (.slice pva ll pvc) := fun x => c2 ⟨x.w, BC_trans hby x.h⟩
            have d1 : ∀ x : HW (BC wy), x.w.cell? ⟨g, o + i * 36, none⟩ = some (.string pa) := fun x => H8.out.2.1 ⟨x.w, BC_trans HY.out.2.1 x.h⟩
            clear hall hby c2 hfind
            go_upto_region 10 with fail
            refine wp_region_slotsT 12 (by kernel_rfl) (by kernel_rfl) (by kernel_rfl) (by kernel_rfl) (by kernel_rfl) (by kernel_rfl) [none, none, none, none, none, none, none, none, none, none, none, some (OneSl pa (.slice pva ll pvc))] ?_
            simp only [List.take_succ_cons, List.take_zero, List.drop_succ_cons, List.drop_zero]
            repeat (first
              | (refine slotG_oneN (fun K hK => ?_)
                 apply Exists.intro
                 refine ⟨fun x u hF => ?_, ?_⟩
                 (focus (go_simp
                         first
                           | (exact rfl)
                           | (exact ⟨rfl, BC_refl _⟩)))
                 apply Exists.intro
                 refine ⟨fun u => ?_, ?_⟩
                 (focus (go_simp; try exact rfl))
                 refine hK _ ?_
                 clear hK K))
            refine slotG_someN (i := 11) (fun v w w' hb h2 => h2.to hb) (fun K hK => ?_)
            refine ⟨fun x u hF => ?_, ?_⟩
            focus
              go_simp
              exact ⟨⟨_, rfl, heap_alloc_new _ _⟩, below1 _ _⟩
            apply Exists.intro
            refine ⟨fun u => ?_, ?_⟩
            (focus (go_simp; try exact rfl))
            refine hK _ ?_
            clear hK K
            refine slotG_end ?_
            intro wz uz hbz hallz
            obtain ⟨gn, h1, h2⟩ := hallz.1
            rw [h1]
            have bzr := BC_trans HY.out.1 hbz
            have hr3 : wz.rangeAt gn 0 (fiC ((pa, p.1), p.2)) := fun j u hj => by
              rw [Nat.zero_add]
              refine cell_row h2 j ?_
              rw [HLL.out, ← HKK.out.2.2.2.2.2.2]
              rw [← List.getElem?_toArray] at hj
              exact hj
            have hone : ∀ u ∈ fiC ((pa, p.1), p.2), u.oneCell' = true := fun u hu => by
              unfold fiC at hu
              rcases List.mem_cons.1 hu with rfl | hu
              · rfl
              · rw [List.mem_singleton.1 hu]
                show Value.oneCell' p.2 = true
                rw [HKK.out.2.2.2.2.2.2]
                rfl
            have hll : (fiR fs).length ≤ 1000000 := by have h1 := HR.out.2.2.2.2.1; have h2 := HR.out.2.2.2.2.2.2.1; have h3 := HV.out.2.2.2.1; simp [fiR]; omega
            have bwz := BC_trans HY.out.2.1 hbz
            have HT := bx (And.intro (HR.out.1.below bzr) (And.intro hr3 (And.intro hone (And.intro hll (And.intro (show Below w.heap.size w wz from bwz).size bwz)))))
            clear h1 h2 bzr hr3 hone hll bwz hallz hbz d1 d2
            go_wp2_with ((with_reducible refine wl_append1G shFi shFi_ok (o := ⟨some 49, _, _, _, _, _⟩) ?_ (.tmp 37) (.tmp 48) ?_ w.heap.size _ (fiR fs) ?_ HT.out.1 gn 0 1 ?_ (fiC ((pa, p.1), p.2)) HT.out.2.1 rfl HT.out.2.2.1 HT.out.2.2.2.1 HT.out.2.2.2.2.1 ?_); (focus rfl); (focus rfl); (focus rfl); (focus rfl); intro v5 w5 own5 b5)
            have b6 : BC w w5 := (show Below w.heap.size w _ from HT.out.2.2.2.2.2).trans b5
            have own6 : OwnG shFi w.heap.size w5 v5 (fiR (fs ++ [((pa, p.1), p.2)])) := by
              rw [show fiR (fs ++ [((pa, p.1), p.2)]) = fiR fs ++ [fiC ((pa, p.1), p.2)] by simp [fiR]]
              exact own5
            have h6 : ∀ f ∈ fs ++ [((pa, p.1), p.2)], Held1 w f.2 f.1.2 := fun f hf => by
              rcases List.mem_append.1 hf with h | h
              · exact HR.out.2.2.1 f h
              · rw [List.mem_singleton.1 h]
                exact HKK.out.2.2.2.2.2.1
            have tk6 : treeK ss bl I1 = some ((fs ++ [((pa, p.1), p.2)]).map (·.1)) := by
              rw [HI.out.2.2.1, HY.out.2.2, Option.map_some, List.map_append, ← HI.out.2.2.2]
              rfl
            have HO := bx (And.intro own6 (And.intro (show GoodF w5 _ from fun f hf => (h6 f hf).to b6) (And.intro h6 (And.intro tk6 b6))))
            clear own5 own6 h6 tk6 b5 b6
            go_wp2_with fail
            go_roundw
            case rel => exact ⟨I1, _, by have := HI.out; omega, rfl, HO.out.1, HO.out.2.1, HO.out.2.2.1, HO.out.2.2.2.1, by have h1 := HR.out.2.2.2.2.1; have h2 := HI.out.1; rw [List.length_append, List.length_singleton]; omega, HO.out.2.2.2.2⟩
            case measure => have := HI.out; simp [intOf]; omega
          | false =>
            go_upto_region 6 with fail
            refine wp_region_slots (by kernel_rfl) (by kernel_rfl) (by kernel_rfl) [none, none, none, none, none, none, none, none, none, none, none, none, none, none, none, none] ?_
            repeat (first
              | ((with_reducible refine slotG_mid (o := ⟨some 23, _, _, _, _, _⟩) 50 (.tmp 22) ?_ ?_ _ _ ?_ A _ HXA.out Tryd.underlying50 ?_ ?_ ?_); (focus rfl); (focus (exact fun _ => rfl)); (focus (exact fun _ => rfl)); (focus rfl); (focus (rw [H8.out.2.2]; kernel_rfl)); apply Exists.intro; refine ⟨fun u => ?_, ?_⟩; (focus (go_simp; try exact rfl)))
              | (refine slotG_oneN (fun K hK => ?_)
                 apply Exists.intro
                 refine ⟨fun x u hF => ?_, ?_⟩
                 (focus (go_simp
                         first
                           | (go_at_call 22
                              with_reducible refine (HFT.out x).mono ?_
                              rintro e w' ⟨rfl, hz⟩
                              exact ⟨rfl, hz⟩)
                           | (exact rfl)
                           | (exact ⟨rfl, BC_refl _⟩)))
                 apply Exists.intro
                 refine ⟨fun u => ?_, ?_⟩
                 (focus (go_simp; try exact rfl))
                 refine hK _ ?_
                 clear hK K))
            refine slotG_end ?_
            intro wy u hby hall
            have HY := bx (BC_trans HK.out.2.1 hby)
            clear hall hby c2
            go_wp2_with fail
            go_roundw
            case rel => exact ⟨K1, by have := HKK.out; omega, rfl, HY.out, fun j hj hjk => by
              have h1 := HKK.out.1
              by_cases h : j = k
              · subst h
                rw [← HKK.out.2.2.2.1]; exact HKK.out.2.2.1.symm
              · exact HK.out.2.2.1 j hj (by omega)⟩
            case measure => have := HKK.out; simp [intOf]; omega
        · have hkn : k = m := by have := HK.out.1; omega
          subst hkn
          have hge : ¬ (k : Int) < (k : Int) := by omega
          have hfind : bl.find? (fitsF s) = none := find_not fun j hj => by
            simp only [HB.out.2.2.2.2.2, List.getElem_map]
            have hj2 : j < bs.length := by rw [HB.out.2.2.2.2.2, List.length_map] at hj; exact hj
            exact HK.out.2.2.1 j hj2 (by rw [HB.out.2.1]; exact hj2)
          have htn : treeK ss bl n = none := by
            have h := treeK_none ss bl I1 (by rw [HI.out.2.2.1, hfind]; rfl) (n - I1)
            rw [show I1 + (n - I1) = n by have h1 := HI.out.1; have h2 := HI.out.2.1; omega] at h
            exact h
          have HN := bx htn
          have hee : ((k : Int) == (k : Int)) = true := beq_iff_eq.2 rfl
          clear hkm hfind htn
          go_upto_region 6 with fail
          refine wp_region_slots (by kernel_rfl) (by kernel_rfl) (by kernel_rfl) [none, none, none, none, none, none, none, none, none, none, none, none, none, none, none, none] ?_
          repeat (first
            | (refine slotG_oneN (fun K hK => ?_)
               apply Exists.intro
               refine ⟨fun x u hF => ?_, ?_⟩
               (focus (go_simp
                       first
                         | (exact rfl)
                         | (exact ⟨rfl, BC_refl _⟩)))
               apply Exists.intro
               refine ⟨fun u => ?_, ?_⟩
               (focus (go_simp; try exact rfl))
               refine hK _ ?_
               clear hK K))
          refine slotG_end ?_
          intro wy u hby hall
          have HY := bx (BC_trans HK.out.2.2.2 hby)
          clear hall hby
          go_wp2_with fail
          go_ret2
          exact ⟨.inl ⟨HN.out, rfl⟩, HY.out⟩
    · have hin : i = n := by have := HR.out.2.2.2.2.2.2.1; omega
      have hge : ¬ (i : Int) < (n : Int) := by omega
      have HF := bx hin
      clear hin hlt
      go_wp2_with fail
      go_ret2
      have h1 := HR.out.1
      have h2 := HR.out.2.1
      have h3 := HR.out.2.2.2.2.2.1
      rw [HR.out.2.2.2.2.2.2.2] at h1 h2 h3
      refine ⟨.inr ⟨_, fs, by rw [← HF.out]; exact HR.out.2.2.2.1, rfl, h1.rd (fiR_n fs), h2⟩, h3⟩
end Go.Proofs.YtagdlbadkmgdmaaDoor
