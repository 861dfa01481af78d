/- The walk of bindleref10.Join. -/
import Derived.Test.YtagdlbadkmgdmaaDoorVec3
import Derived.Test.YtagdlbadkmgdmaaDoorQuick
import Derived.Test.YtagdlbadkmgdmaaDoorSlots
import Derived.ChangeArms
import Derived.Deep.Cut
namespace Go.Proofs.YtagdlbadkmgdmaaDoor
set_option maxRecDepth 100000
open Go.ChangeShapes Go.WideShapes Go.ChangeAt Go.RowKit

/-- the greater of both, of the first k replicas -/
def joinK (a b : List Int) : Nat → List Int
  | 0 => a
  | k + 1 => (joinK a b k).set k (if (joinK a b k).getD k 0 < b.getD k 0 then b.getD k 0 else (joinK a b k).getD k 0)
theorem joinK_len (a b : List Int) : ∀ k, (joinK a b k).length = a.length
  | 0 => rfl
  | k + 1 => by rw [joinK, List.length_set, joinK_len a b k]
def joinF (xs ys : List Dt) : List Dt := ofF (joinK (allF xs) (allF ys) 32)
attribute [local irreducible] SlV Lies headG slotG
attribute [local go_sem] takes takesE comesTo comesToP
set_option maxHeartbeats 8000000 in
theorem rjoin_any (v1 v2 : Value) (xs ys : List Dt) (w : World) (h1 : RdG 2 w.heap.size w v1 (vecR xs)) (hn1 : xs.length ≤ 1000000) (h2 : RdG 2 w.heap.size w v2 (vecR ys)) (hn2 : ys.length ≤ 1000000) :
    Calls Tryd.prog 25 #[v1, v2] w fun e w' => ∃ v', e = .returned v' ∧ RdG 2 w'.heap.size w' v' (vecR (joinF xs ys)) ∧ Below w.heap.size w w' ∧ TyB 34 w' v' := by
  have hz := zero_a32
  have HA1 := Lib.hid (rall_any v1 xs w h1 hn1)
  have HA2 := Lib.hid (fun W (b : BC w W) => rall_any v2 ys W (h2.to b) hn2)
  obtain ⟨a1, c1, hf1⟩ := h1.form
  obtain ⟨a2, c2, hf2⟩ := h2.form
  obtain ⟨s1, hs1⟩ : ∃ s, s = allF xs := ⟨_, rfl⟩
  obtain ⟨s2, hs2⟩ : ∃ s, s = allF ys := ⟨_, rfl⟩
  have hl1 : s1.length = 32 := by rw [hs1]; exact allF_len xs
  have hl2 : s2.length = 32 := by rw [hs2]; exact allF_len ys
  have hfn : joinF xs ys = ofF (joinK s1 s2 32) := by rw [hs1, hs2]; rfl
  obtain ⟨R1, hR1⟩ : ∃ R, R = row .i64 s1 := ⟨_, rfl⟩
  obtain ⟨R2, hR2⟩ : ∃ R, R = row .i64 s2 := ⟨_, rfl⟩
  have hz1 : R1.size = 32 := by rw [hR1, row_size, hl1]
  have hz2 : R2.size = 32 := by rw [hR2, row_size, hl2]
  have ho1 : R1.all (·.oneCell') = true := by rw [hR1]; exact row_one _ _
  have ho2 : R2.all (·.oneCell') = true := by rw [hR2]; exact row_one _ _
  rw [← hs1, ← hR1] at HA1
  rw [← hs2, ← hR2] at HA2
  rw [hfn]
  have HS := Lib.hid (And.intro hl1 (And.intro hl2 (And.intro hR1 (And.intro hR2 (And.intro hz1 (And.intro hz2 (And.intro ho1 ho2)))))))
  subst hf1 hf2
  clear hs1 hs2 hl1 hl2 hfn hR1 hR2 hz1 hz2 ho1 ho2 h1 h2 hn1 hn2
  go_enter Tryd.func25, Tryd.ntmps25
  go_upto_region 1 with fail
  go_wp2_with fail
  refine HA1.out.mono ?_
  rintro e w2 ⟨rfl, b2⟩
  obtain ⟨W3, hW3⟩ : ∃ W, W = w2.alloc (.cells R1 98) := ⟨_, rfl⟩
  obtain ⟨g3, hg3⟩ : ∃ g, g = w2.heap.size := ⟨_, rfl⟩
  have n3 := heap_alloc_new w2 (.cells R1 98)
  have b3 := below1 w2 (.cells R1 98)
  rw [← hW3, ← hg3] at n3
  rw [← hW3] at b3
  have bw3 := BC_trans b2 b3
  have hgw : w.heap.size ≤ g3 := by rw [hg3]; exact b2.size
  have H3 := Lib.hid (And.intro hW3 (And.intro hg3 (And.intro n3 (And.intro bw3 hgw))))
  clear hW3 hg3 n3 b2 b3 bw3 hgw
  go_upto_region 2 with (refine wpList_store_rowTo rfl 98 _ _ rfl rfl _ R1 rfl rfl 98 z32 (heap_alloc_new w2 _) (by rw [HS.out.2.2.2.2.1]; kernel_rfl) (by rw [HS.out.2.2.2.2.1]; kernel_rfl) HS.out.2.2.2.2.2.2.1 ?_; rw [World.setRow_alloc_new])
  rw [← H3.out.1, ← H3.out.2.1]
  go_wp2_with fail
  refine (HA2.out W3 H3.out.2.2.2.1).mono ?_
  rintro e w4 ⟨rfl, b4⟩
  obtain ⟨W5, hW5⟩ : ∃ W, W = w4.alloc (.cells R2 98) := ⟨_, rfl⟩
  obtain ⟨g5, hg5⟩ : ∃ g, g = w4.heap.size := ⟨_, rfl⟩
  have n5 := heap_alloc_new w4 (.cells R2 98)
  have b5 := below1 w4 (.cells R2 98)
  rw [← hW5, ← hg5] at n5
  rw [← hW5] at b5
  have n3 := BC_blk1 (BC_trans b4 b5) H3.out.2.2.1
  have hne : ¬ g3 = g5 := by have := blk_lt (BC_blk1 b4 H3.out.2.2.1); omega
  have bw5 := BC_trans H3.out.2.2.2.1 (BC_trans b4 b5)
  have H5 := Lib.hid (And.intro hW5 (And.intro hg5 (And.intro n5 (And.intro n3 bw5))))
  clear hW5 hg5 n5 n3 b4 b5 bw5
  go_upto_region 3 with (refine wpList_store_rowTo rfl 98 _ _ rfl rfl _ R2 rfl rfl 98 z32 (heap_alloc_new w4 _) (by rw [HS.out.2.2.2.2.2.1]; kernel_rfl) (by rw [HS.out.2.2.2.2.2.1]; kernel_rfl) HS.out.2.2.2.2.2.2.2 ?_; rw [World.setRow_alloc_new])
  rw [← H5.out.1, ← H5.out.2.1]
  clear hz
  go_wp2_with fail
  go_loopw [7] (fun v7 wr => ∃ k : Nat, k ≤ 32 ∧ v7 = .int .i64 (k : Int) ∧ wr.heap[g3]? = some (.cells (row .i64 (joinK s1 s2 k)) 98 (0, 0)) ∧ wr.heap[g5]? = some (.cells R2 98 (0, 0)) ∧ BC w wr) (fun k _ => 32 - (intOf k).toNat)
  case atStart => exact ⟨0, Nat.zero_le _, rfl, by rw [H5.out.2.2.2.1, HS.out.2.2.1]; rfl, H5.out.2.2.1, H5.out.2.2.2.2⟩
  case round =>
    obtain ⟨k, hk, rfl, hr3, hr5, hbr⟩ := hrel
    obtain ⟨st, hst⟩ : ∃ s, s = joinK s1 s2 k := ⟨_, rfl⟩
    rw [← hst] at hr3
    have hsl : st.length = 32 := by rw [hst, joinK_len]; exact HS.out.1
    have HR := Lib.hid (And.intro hr3 (And.intro hr5 (And.intro hbr (And.intro hst (And.intro hsl hk)))))
    clear hr3 hr5 hbr hst hsl
    by_cases hlt : k < 32
    · have i0 : (0 : Int) ≤ (k : Int) := by omega
      have i1 : (k : Int) < 32 := by omega
      obtain ⟨K1, hK1⟩ : ∃ m, m = k + 1 := ⟨_, rfl⟩
      have s1' : IntKind.i64.wrap ((k : Int) + 1) = (K1 : Int) := by rw [IntKind.wrap_i64]; omega
      obtain ⟨x, hx⟩ : ∃ x, x = st.getD k 0 := ⟨_, rfl⟩
      obtain ⟨y, hy⟩ : ∃ y, y = s2.getD k 0 := ⟨_, rfl⟩
      have d0 : ∀ z : HW (BC wr), z.w.cell? ⟨g3, k, none⟩ = some (.int .i64 x) := fun z => by
        refine cell_row (BC_blk1 z.h HR.out.1) k ?_
        rw [hx]
        simp [row, HR.out.2.2.2.2.1, hlt, List.getD]
      have d1 : ∀ z : HW (BC wr), z.w.cell? ⟨g5, k, none⟩ = some (.int .i64 y) := fun z => by
        refine cell_row (BC_blk1 z.h HR.out.2.1) k ?_
        rw [hy, HS.out.2.2.2.1]
        simp [row, HS.out.2.1, hlt, List.getD]
      obtain ⟨m, hm⟩ : ∃ m, m = if x < y then y else x := ⟨_, rfl⟩
      have hnx : joinK s1 s2 K1 = st.set k m := by rw [hK1, joinK, ← HR.out.2.2.2.1, ← hx, ← hy, hm]
      have HI := Lib.hid (And.intro hK1 (And.intro hlt (And.intro hnx hm)))
      clear hK1 hlt hx hy hnx hm
      go_upto_region 6 with fail
      refine wp_region_slotsT 9 (by kernel_rfl) (by kernel_rfl) (by kernel_rfl) (by kernel_rfl) (by kernel_rfl) (by kernel_rfl) [none, none, none, none, none, none, none, none, none] ?_
      simp only [List.take_succ_cons, List.take_zero, List.drop_succ_cons, List.drop_zero]
      repeat (first
        | (refine slotG_oneN (fun K hK => ?_)
           apply Exists.intro
           refine ⟨fun x u hF => ?_, ?_⟩
           (focus (go_simp
                   first
                     | (exact rfl)
                     | (exact ⟨rfl, BC_refl _⟩)))
           apply Exists.intro
           refine ⟨fun u => ?_, ?_⟩
           (focus (go_simp; try exact rfl))
           refine hK _ ?_
           clear hK K))
      refine slotG_end ?_
      intro wy u hby hall
      rw [← HI.out.2.2.2]
      have q3 := BC_blk1 hby HR.out.1
      have q5 := BC_blk1 hby HR.out.2.1
      have f3 := free_row q3 k
      have e0 := d0 ⟨wy, hby⟩
      dsimp only at e0
      have t3 : (wy.setCell ⟨g3, k, none⟩ (.int .i64 m)).heap[g3]? = some (.cells (row .i64 (st.set k m)) 98 (0, 0)) := by
        have h := Go.heap_setCell_same wy g3 k _ _ (.int .i64 m) q3
        rw [h]
        congr 2
        unfold row
        apply Array.toList_inj.1
        simp [List.map_set]
      have t5 : (wy.setCell ⟨g3, k, none⟩ (.int .i64 m)).heap[g5]? = some (.cells R2 98 (0, 0)) := by rw [heap_setCell_other _ _ _ _ (fun h => hne h.symm)]; exact q5
      have tb : BC w (wy.setCell ⟨g3, k, none⟩ (.int .i64 m)) := Below.setCell (BC_trans HR.out.2.2.1 hby) H3.out.2.2.2.2 _
      have HT := Lib.hid (And.intro t3 (And.intro t5 tb))
      clear q3 q5 t3 t5 tb hby d0 d1 hall
      go_wp2_with fail
      go_roundw
      case rel => exact ⟨K1, by have := HI.out; omega, rfl, by rw [HI.out.2.2.1]; exact HT.out.1, HT.out.2.1, HT.out.2.2⟩
      case measure => have := HI.out; simp [intOf]; omega
    · have hk2 : k = 32 := by have := HR.out.2.2.2.2.2; omega
      have hge : ¬ (k : Int) < 32 := by omega
      obtain ⟨RS, hRS⟩ : ∃ R, R = row .i64 st := ⟨_, rfl⟩
      have hRz : RS.size = 32 := by rw [hRS, row_size]; exact HR.out.2.2.2.2.1
      have q3 := HR.out.1
      rw [← hRS] at q3
      have HOF := Lib.hid (rof_any st HR.out.2.2.2.2.1 wr)
      rw [← hRS, HR.out.2.2.2.1, hk2] at HOF
      have HT := Lib.hid (And.intro q3 (And.intro hRz HR.out.2.2.1))
      clear q3 hRz hRS hk2 hlt
      go_wp2_with (refine wpList_load_row rfl 98 _ rfl _ rfl _ _ _ _ HT.out.1 Tryd.underlying98 rfl (by rw [HT.out.2.1]; kernel_rfl) ?_)
      refine HOF.out.mono ?_
      rintro e w7 ⟨v7, rfl, r7, b7, t7⟩
      have HE := Lib.hid (And.intro r7 (And.intro (BC_trans HT.out.2.2 b7) t7))
      clear r7 b7 t7
      go_wp2_with fail
      go_ret
      exact ⟨_, rfl, HE.out.1, HE.out.2.1, HE.out.2.2⟩
end Go.Proofs.YtagdlbadkmgdmaaDoor
