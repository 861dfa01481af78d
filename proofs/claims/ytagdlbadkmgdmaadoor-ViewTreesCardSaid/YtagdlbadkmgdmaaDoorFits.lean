/- bindle/view.Fits, bindleref14.Fits. -/
import Derived.Test.YtagdlbadkmgdmaaDoorSort
import Derived.Test.YtagdlbadkmgdmaaDoorSlots
import Derived.Test.YtagdlbadkmgdmaaDoorEq
import Derived.Test.YtagdlbadkmgdmaaDoorTold
import Derived.Test.YtagdlbadkmgdmaaDoorRef03Sum
import Derived.ChangeArms
import Derived.Deep.Cut
namespace Go.Proofs.YtagdlbadkmgdmaaDoor
set_option maxRecDepth 100000
open Go.ChangeShapes Go.WideShapes Go.ChangeAt Go.RowKit

/-- is a file as it is shown? -/
def fitsF (s : Sd) (l : List Int) : Bool := decide ((l.length : Int) = s.size) && decide (sumF l = s.sum)
attribute [local irreducible] SlV Lies headG slotG
attribute [local go_sem] takes takesE comesTo comesToP
set_option maxHeartbeats 4000000 in
theorem vfits_any (s : Sd) (hs : s.sum.length = 32) (l : List Int) (hb : Bytes l) (hn : l.length ≤ 1000000) (b o : Nat) (v : Value) (hv : SlV v b o l.length) (w : World) (hl : Lies w b o l) :
    Calls Tryd.prog 21 #[.agg (sdC s).toArray, v] w fun e w' => e = .returned (.bool (fitsF s l)) ∧ Below w.heap.size w w' := by
  obtain ⟨A, hA⟩ : ∃ A, A = (sdC s).toArray := ⟨_, rfl⟩
  rw [← hA]
  obtain ⟨W1, hW1⟩ : ∃ W, W = w.alloc (.cells A 40) := ⟨_, rfl⟩
  obtain ⟨g1, hg1⟩ : ∃ g, g = w.heap.size := ⟨_, rfl⟩
  have n1 := heap_alloc_new w (.cells A 40)
  have b1 := below1 w (.cells A 40)
  rw [← hW1, ← hg1] at n1
  rw [← hW1] at b1
  obtain ⟨sz, hsz⟩ : ∃ x, x = s.size := ⟨_, rfl⟩
  have c35 : ∀ x : HW (BC W1), x.w.cell? ⟨g1, 35, none⟩ = some (.int .i64 sz) := fun x => cell_row (BC_blk1 x.h n1) 35 (by rw [hA, hsz, List.getElem?_toArray]; simp [sdC])
  obtain ⟨SU, hSU⟩ : ∃ S, S = row .u8 s.sum := ⟨_, rfl⟩
  have HSU : Bx (∀ x : HW (BC W1), x.w.rangeAt g1 3 SU.toList) := bx fun x j u hj => by
    refine cell_row (BC_blk1 x.h n1) (3 + j) ?_
    rw [hSU, row_list, List.getElem?_map] at hj
    have hj32 : j < s.sum.length := by
      rcases Nat.lt_or_ge j s.sum.length with h | h
      · exact h
      · rw [List.getElem?_eq_none h] at hj; cases hj
    rw [List.getElem?_eq_getElem hj32, Option.map_some] at hj
    have hj33 : j < 32 := by omega
    rw [hA, List.getElem?_toArray, sdC, List.getElem?_append_right (by simp), List.getElem?_append_left (by simp; omega)]
    simp [hj33, List.getD, hj32]
    simpa using hj
  have HSZ := bx (show SU.size = 32 by rw [hSU, row_size, hs])
  obtain ⟨S1, hS1⟩ : ∃ S, S = row .u8 (sumF l) := ⟨_, rfl⟩
  have HC : Bx (∀ x : HW (BC W1), Calls Tryd.prog 43 #[v] x.w fun e w' => e = .returned (.agg S1) ∧ Below x.w.heap.size x.w w') := bx fun x => by
    rw [hS1]
    exact sum_any l hb (by omega) b o _ hv x.w (hl.below (BC_trans b1 x.h))
  have heq : ∀ W, (binOp .eql 36 (.agg S1) (.agg SU)).run Tryd.prog W = .ok (.bool (decide (sumF l = s.sum))) W := fun W => by
    rw [hS1, hSU]
    exact run_eql_row W 36 5 32 .u8 Tryd.underlying36 Tryd.underlying5 (by kernel_rfl) _ _ (sumF_len l) hs
  obtain ⟨a, c, rfl⟩ : ∃ a c, v = .slice a l.length c := by
    obtain ⟨a, c, e, _⟩ := by unfold SlV at hv; exact hv
    exact ⟨a, c, e⟩
  obtain ⟨n, hN⟩ : ∃ n, n = l.length := ⟨_, rfl⟩
  rw [← hN] at HC ⊢
  have hff : fitsF s l = (decide ((n : Int) = sz) && decide (sumF l = s.sum)) := by rw [hN, hsz]; rfl
  rw [hff]
  obtain ⟨bb, hbb⟩ : ∃ x, x = decide (sumF l = s.sum) := ⟨_, rfl⟩
  rw [← hbb] at heq ⊢
  have HM := Lib.hid (And.intro hW1 (And.intro hg1 b1))
  clear hA hW1 hg1 n1 b1 hsz hSU hS1 hv hl hb hn hs hN hff hbb
  by_cases h1 : (n : Int) = sz
  · have h2 : ((n : Int) == sz) = true := beq_iff_eq.2 h1
    rw [decide_eq_true h1, Bool.true_and]
    have H1 := Lib.hid h1
    clear h1
    go_enter Tryd.func21, Tryd.ntmps21
    go_upto_region 1 with fail
    rw [← HM.out.1, ← HM.out.2.1]
    refine wp_region_slots (by kernel_rfl) (by kernel_rfl) (by kernel_rfl) [none, none, none, none, none, none, none, none, none, none, none, none, none] ?_
    repeat (first
      | ((with_reducible refine slotG_mid (o := ⟨some 14, _, _, _, _, _⟩) 36 (.tmp 13) ?_ ?_ _ _ ?_ SU _ HSU.out Tryd.underlying36 ?_ ?_ ?_); (focus rfl); (focus (exact fun _ => rfl)); (focus (exact fun _ => rfl)); (focus rfl); (focus (rw [HSZ.out]; kernel_rfl)); apply Exists.intro; refine ⟨fun u => ?_, ?_⟩; (focus (go_simp; try exact rfl)))
      | (refine slotG_oneN (fun K hK => ?_)
         apply Exists.intro
         refine ⟨fun x u hF => ?_, ?_⟩
         (focus (go_simp
                 first
                   | (go_at_call 43
                      with_reducible refine (HC.out x).mono ?_
                      rintro e w' ⟨rfl, hz⟩
                      exact ⟨rfl, hz⟩)
                   | (exact rfl)
                   | (exact ⟨rfl, BC_refl _⟩)))
         apply Exists.intro
         refine ⟨fun u => ?_, ?_⟩
         (focus (go_simp; try exact rfl))
         refine hK _ ?_
         clear hK K))
    refine slotG_end ?_
    intro wy u hby hall
    have HB := Lib.hid (show Below w.heap.size w wy from BC_trans HM.out.2.2 hby)
    clear hby hall
    go_wp2_with fail
    go_ret
    exact ⟨rfl, HB.out⟩
  · have h2 : ((n : Int) == sz) = false := beq_eq_false_iff_ne.2 h1
    rw [decide_eq_false h1, Bool.false_and]
    go_enter Tryd.func21, Tryd.ntmps21
    go_upto_region 1 with fail
    rw [← HM.out.1, ← HM.out.2.1]
    refine wp_region_slots (by kernel_rfl) (by kernel_rfl) (by kernel_rfl) [none, none, none, none, none, none, none, none, none, none, none, none, none] ?_
    repeat (first
      | ((with_reducible refine slotG_mid (o := ⟨some 14, _, _, _, _, _⟩) 36 (.tmp 13) ?_ ?_ _ _ ?_ SU _ HSU.out Tryd.underlying36 ?_ ?_ ?_); (focus rfl); (focus (exact fun _ => rfl)); (focus (exact fun _ => rfl)); (focus rfl); (focus (rw [HSZ.out]; kernel_rfl)); apply Exists.intro; refine ⟨fun u => ?_, ?_⟩; (focus (go_simp; try exact rfl)))
      | (refine slotG_oneN (fun K hK => ?_)
         apply Exists.intro
         refine ⟨fun x u hF => ?_, ?_⟩
         (focus (go_simp
                 first
                   | (go_at_call 43
                      with_reducible refine (HC.out x).mono ?_
                      rintro e w' ⟨rfl, hz⟩
                      exact ⟨rfl, hz⟩)
                   | (exact rfl)
                   | (exact ⟨rfl, BC_refl _⟩)))
         apply Exists.intro
         refine ⟨fun u => ?_, ?_⟩
         (focus (go_simp; try exact rfl))
         refine hK _ ?_
         clear hK K))
    refine slotG_end ?_
    intro wy u hby hall
    have HB := Lib.hid (show Below w.heap.size w wy from BC_trans HM.out.2.2 hby)
    clear hby hall
    go_wp2_with fail
    go_ret
    exact ⟨rfl, HB.out⟩
set_option maxHeartbeats 4000000 in
theorem rfits_any (s : Sd) (hs : s.sum.length = 32) (l : List Int) (hb : Bytes l) (hn : l.length ≤ 1000000) (b o : Nat) (v : Value) (hv : SlV v b o l.length) (w : World) (hl : Lies w b o l) :
    Calls Tryd.prog 22 #[.agg (sdC s).toArray, v] w fun e w' => e = .returned (.bool (fitsF s l)) ∧ Below w.heap.size w w' := by
  obtain ⟨A, hA⟩ : ∃ A, A = (sdC s).toArray := ⟨_, rfl⟩
  rw [← hA]
  obtain ⟨W1, hW1⟩ : ∃ W, W = w.alloc (.cells A 50) := ⟨_, rfl⟩
  obtain ⟨g1, hg1⟩ : ∃ g, g = w.heap.size := ⟨_, rfl⟩
  have n1 := heap_alloc_new w (.cells A 50)
  have b1 := below1 w (.cells A 50)
  rw [← hW1, ← hg1] at n1
  rw [← hW1] at b1
  obtain ⟨sz, hsz⟩ : ∃ x, x = s.size := ⟨_, rfl⟩
  have c35 : ∀ x : HW (BC W1), x.w.cell? ⟨g1, 35, none⟩ = some (.int .i64 sz) := fun x => cell_row (BC_blk1 x.h n1) 35 (by rw [hA, hsz, List.getElem?_toArray]; simp [sdC])
  obtain ⟨SU, hSU⟩ : ∃ S, S = row .u8 s.sum := ⟨_, rfl⟩
  have HSU : Bx (∀ x : HW (BC W1), x.w.rangeAt g1 3 SU.toList) := bx fun x j u hj => by
    refine cell_row (BC_blk1 x.h n1) (3 + j) ?_
    rw [hSU, row_list, List.getElem?_map] at hj
    have hj32 : j < s.sum.length := by
      rcases Nat.lt_or_ge j s.sum.length with h | h
      · exact h
      · rw [List.getElem?_eq_none h] at hj; cases hj
    rw [List.getElem?_eq_getElem hj32, Option.map_some] at hj
    have hj33 : j < 32 := by omega
    rw [hA, List.getElem?_toArray, sdC, List.getElem?_append_right (by simp), List.getElem?_append_left (by simp; omega)]
    simp [hj33, List.getD, hj32]
    simpa using hj
  have HSZ := bx (show SU.size = 32 by rw [hSU, row_size, hs])
  obtain ⟨S1, hS1⟩ : ∃ S, S = row .u8 (sumF l) := ⟨_, rfl⟩
  have HC : Bx (∀ x : HW (BC W1), Calls Tryd.prog 24 #[v] x.w fun e w' => e = .returned (.agg S1) ∧ Below x.w.heap.size x.w w') := bx fun x => by
    rw [hS1]
    exact r3sum_any l hb hn b o _ hv x.w (hl.below (BC_trans b1 x.h))
  have heq : ∀ W, (binOp .eql 36 (.agg S1) (.agg SU)).run Tryd.prog W = .ok (.bool (decide (sumF l = s.sum))) W := fun W => by
    rw [hS1, hSU]
    exact run_eql_row W 36 5 32 .u8 Tryd.underlying36 Tryd.underlying5 (by kernel_rfl) _ _ (sumF_len l) hs
  obtain ⟨a, c, rfl⟩ : ∃ a c, v = .slice a l.length c := by
    obtain ⟨a, c, e, _⟩ := by unfold SlV at hv; exact hv
    exact ⟨a, c, e⟩
  obtain ⟨n, hN⟩ : ∃ n, n = l.length := ⟨_, rfl⟩
  rw [← hN] at HC ⊢
  have hff : fitsF s l = (decide ((n : Int) = sz) && decide (sumF l = s.sum)) := by rw [hN, hsz]; rfl
  rw [hff]
  obtain ⟨bb, hbb⟩ : ∃ x, x = decide (sumF l = s.sum) := ⟨_, rfl⟩
  rw [← hbb] at heq ⊢
  have HM := Lib.hid (And.intro hW1 (And.intro hg1 b1))
  clear hA hW1 hg1 n1 b1 hsz hSU hS1 hv hl hb hn hs hN hff hbb
  by_cases h1 : (n : Int) = sz
  · have h2 : ((n : Int) == sz) = true := beq_iff_eq.2 h1
    rw [decide_eq_true h1, Bool.true_and]
    have H1 := Lib.hid h1
    clear h1
    go_enter Tryd.func22, Tryd.ntmps22
    go_upto_region 1 with fail
    rw [← HM.out.1, ← HM.out.2.1]
    refine wp_region_slots (by kernel_rfl) (by kernel_rfl) (by kernel_rfl) [none, none, none, none, none, none, none, none, none, none, none, none, none] ?_
    repeat (first
      | ((with_reducible refine slotG_mid (o := ⟨some 14, _, _, _, _, _⟩) 36 (.tmp 13) ?_ ?_ _ _ ?_ SU _ HSU.out Tryd.underlying36 ?_ ?_ ?_); (focus rfl); (focus (exact fun _ => rfl)); (focus (exact fun _ => rfl)); (focus rfl); (focus (rw [HSZ.out]; kernel_rfl)); apply Exists.intro; refine ⟨fun u => ?_, ?_⟩; (focus (go_simp; try exact rfl)))
      | (refine slotG_oneN (fun K hK => ?_)
         apply Exists.intro
         refine ⟨fun x u hF => ?_, ?_⟩
         (focus (go_simp
                 first
                   | (go_at_call 24
                      with_reducible refine (HC.out x).mono ?_
                      rintro e w' ⟨rfl, hz⟩
                      exact ⟨rfl, hz⟩)
                   | (exact rfl)
                   | (exact ⟨rfl, BC_refl _⟩)))
         apply Exists.intro
         refine ⟨fun u => ?_, ?_⟩
         (focus (go_simp; try exact rfl))
         refine hK _ ?_
         clear hK K))
    refine slotG_end ?_
    intro wy u hby hall
    have HB := Lib.hid (show Below w.heap.size w wy from BC_trans HM.out.2.2 hby)
    clear hby hall
    go_wp2_with fail
    go_ret
    exact ⟨rfl, HB.out⟩
  · have h2 : ((n : Int) == sz) = false := beq_eq_false_iff_ne.2 h1
    rw [decide_eq_false h1, Bool.false_and]
    go_enter Tryd.func22, Tryd.ntmps22
    go_upto_region 1 with fail
    rw [← HM.out.1, ← HM.out.2.1]
    refine wp_region_slots (by kernel_rfl) (by kernel_rfl) (by kernel_rfl) [none, none, none, none, none, none, none, none, none, none, none, none, none] ?_
    repeat (first
      | ((with_reducible refine slotG_mid (o := ⟨some 14, _, _, _, _, _⟩) 36 (.tmp 13) ?_ ?_ _ _ ?_ SU _ HSU.out Tryd.underlying36 ?_ ?_ ?_); (focus rfl); (focus (exact fun _ => rfl)); (focus (exact fun _ => rfl)); (focus rfl); (focus (rw [HSZ.out]; kernel_rfl)); apply Exists.intro; refine ⟨fun u => ?_, ?_⟩; (focus (go_simp; try exact rfl)))
      | (refine slotG_oneN (fun K hK => ?_)
         apply Exists.intro
         refine ⟨fun x u hF => ?_, ?_⟩
         (focus (go_simp
                 first
                   | (go_at_call 24
                      with_reducible refine (HC.out x).mono ?_
                      rintro e w' ⟨rfl, hz⟩
                      exact ⟨rfl, hz⟩)
                   | (exact rfl)
                   | (exact ⟨rfl, BC_refl _⟩)))
         apply Exists.intro
         refine ⟨fun u => ?_, ?_⟩
         (focus (go_simp; try exact rfl))
         refine hK _ ?_
         clear hK K))
    refine slotG_end ?_
    intro wy u hby hall
    have HB := Lib.hid (show Below w.heap.size w wy from BC_trans HM.out.2.2 hby)
    clear hby hall
    go_wp2_with fail
    go_ret
    exact ⟨rfl, HB.out⟩
end Go.Proofs.YtagdlbadkmgdmaaDoor
