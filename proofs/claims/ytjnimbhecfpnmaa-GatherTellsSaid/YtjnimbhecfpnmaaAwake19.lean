/- What the law's awake comes to, plain. -/
import Derived.Test.YtjnimbhecfpnmaaParts
import Derived.Test.YtjnimbhecfpnmaaAdd
import Derived.Test.YtjnimbhecfpnmaaWhole
import Derived.Deep.Cut
import Derived.Lib.SlBytesConst
namespace Go.Proofs.Ytjnimbhecfpnmaa
section -- Awk
set_option maxRecDepth 100000
open Go.ChangeShapes Go.WideShapes Go.ChangeAt Go.RowKit

theorem cmpB_self : ∀ l : List Int, cmpB l l = 0
  | [] => rfl
  | a :: l => by rw [cmpB, if_neg (by omega), if_neg (by omega)]; exact cmpB_self l
theorem cmpI_self (a : Int) : cmpI a a = 0 := by unfold cmpI; rw [if_neg (by omega), if_neg (by omega)]
def abc : List Int := [97, 98, 99]
theorem abc_bytes : Bytes abc := bytes_mem fun x h => by simp [abc] at h; omega
def apt (D : List Int) (a : Int) (l : List Int) : Pt := ⟨D, 3, a, l⟩
theorem parts_abc : partsF abc 2 = [apt (sumF abc) 0 [97, 98], apt (sumF abc) 2 [99]] := by
  have e : chunksN abc.length 2 = 2 := by decide
  unfold partsF
  rw [e]
  rfl
section
variable (D : List Int)
theorem add_one : addL [] (apt D 2 [99]) = ([apt D 2 [99]], 0) := by
  unfold addL
  rw [if_neg (by simp [mayB, apt]), if_neg (by simp), if_neg (by simp)]
  rfl
theorem cmp_ab : cmpPt (apt D 0 [97, 98]) (apt D 2 [99]) = -1 := by
  show orF [cmpB D D, cmpI 3 3, cmpI 0 2, cmpB [97, 98] [99]] = -1
  rw [cmpB_self]
  rfl
theorem cmp_ba : cmpPt (apt D 2 [99]) (apt D 0 [97, 98]) = 1 := by
  show orF [cmpB D D, cmpI 3 3, cmpI 2 0, cmpB [99] [97, 98]] = 1
  rw [cmpB_self]
  rfl
theorem add_two : addL [apt D 2 [99]] (apt D 0 [97, 98]) = ([apt D 0 [97, 98], apt D 2 [99]], 0) := by
  unfold addL
  rw [if_neg (by simp [mayB, apt]), if_neg (by simp [cmp_ab]), if_neg (by simp)]
  have e : placeF [apt D 2 [99]] (apt D 0 [97, 98]) = 0 := by simp [placeF, cmp_ba, List.findIdx_cons]
  rw [e]
  rfl
theorem laid_one : laidF [apt D 2 [99]] D 3 = [none, none, some 99] := by
  show laidN [apt D 2 [99]] D 3 1 = _
  simp only [laidN, List.getElem?_cons_zero, apt]
  rw [if_pos ⟨trivial, rfl⟩]
  rfl
theorem laid_two : laidF [apt D 0 [97, 98], apt D 2 [99]] D 3 = [some 97, some 98, some 99] := by
  show laidN [apt D 0 [97, 98], apt D 2 [99]] D 3 2 = _
  simp only [laidN, List.getElem?_cons_zero, List.getElem?_cons_succ, apt]
  rw [if_pos ⟨trivial, rfl⟩, if_pos ⟨trivial, rfl⟩]
  rfl
theorem whole_one : wholeF [apt D 2 [99]] D = none := by
  unfold wholeF
  rw [Option.map_eq_none_iff, List.find?_eq_none]
  intro p hp
  rw [List.mem_singleton.1 hp]
  have : goodW [apt D 2 [99]] D (apt D 2 [99]).sz.toNat = false := good_false (by show 0 < lackF (laidF _ _ 3); rw [laid_one]; decide)
  rw [this]
  simp
theorem miss_one : missF [apt D 2 [99]] D 3 = 2 := by
  unfold missF
  rw [if_pos (by decide)]
  show (lackF (laidF [apt D 2 [99]] D 3) : Int) = 2
  rw [laid_one]
  rfl
end
theorem whole_two : wholeF [apt (sumF abc) 0 [97, 98], apt (sumF abc) 2 [99]] (sumF abc) = some abc := by
  have hg : goodW [apt (sumF abc) 0 [97, 98], apt (sumF abc) 2 [99]] (sumF abc) 3 = true := by
    rw [good_zero (by rw [laid_two]; rfl), laid_two]
    exact decide_eq_true rfl
  have hm : mayS (apt (sumF abc) 0 [97, 98]).sz = true := by decide
  unfold wholeF
  rw [List.find?_cons_of_pos (by rw [hm]; show (decide (sumF abc = sumF abc) && (true && goodW _ (sumF abc) 3)) = true; rw [hg]; simp)]
  show some (outL (laidF _ (sumF abc) 3)) = some abc
  rw [laid_two]
  rfl
end
set_option maxRecDepth 100000
open Go.ChangeShapes Go.WideShapes Go.ChangeAt Go.RowKit

theorem range_wh {w : World} {g o : Nat} {q : Pt × Value} (h : w.rangeAt g o (qC q)) : w.rangeAt g o (row .u8 q.1.wh).toList := fun j v hj => h j v (by
  rw [row_list] at hj
  have hl := (List.getElem?_eq_some_iff.1 hj).1
  unfold qC pcells
  rw [List.getElem?_append_left hl]
  exact hj)
theorem two_of {qs : List (Pt × Value)} {p0 p1 : Pt} (h : qs.map (·.1) = [p0, p1]) : ∃ u0 u1, qs = [(p0, u0), (p1, u1)] := by
  match qs, h with
  | [(a, u0), (b, u1)], h =>
    simp at h
    exact ⟨u0, u1, by rw [h.1, h.2]⟩
theorem str_abc : strOfNums abc = { data := #[97, 98, 99] } := by decide
attribute [local irreducible] SlV Lies
attribute [local go_sem] takes takesE comesTo
set_option maxHeartbeats 8000000 in
theorem awake19_any (w : World) : Calls Try.prog 28 #[] w fun e w' => e = .returned (.bool true) ∧ Below w.heap.size w w' := by
  obtain ⟨W0, hW0⟩ : ∃ W, W = w.alloc (.cells (row .u8 abc) 5 (3, 4)) := ⟨_, rfl⟩
  obtain ⟨B, hB⟩ : ∃ B, B = w.heap.size := ⟨_, rfl⟩
  have n0 := heap_alloc_new w (.cells (row .u8 abc) 5 (3, 4))
  have b0 := below1 w (.cells (row .u8 abc) 5 (3, 4))
  rw [← hW0, ← hB] at n0
  rw [← hW0] at b0
  have hrow : row .u8 abc = #[.int .u8 97, .int .u8 98, .int .u8 99] := rfl
  rw [hrow] at hW0
  have hli : Lies W0 B 0 abc := Lies.of_row n0
  have hpa := parts_any (.slice (some ⟨B, 0, none⟩) 3 3) B 0 abc 2 (by decide) (by decide) abc_bytes (by decide) (slv_all B 3 (by decide)) W0 hli
  rw [parts_abc] at hpa
  obtain ⟨D, hD⟩ : ∃ D, D = sumF abc := ⟨_, rfl⟩
  have hD32 : D.length = 32 := by rw [hD]; exact sumF_len abc
  have hDb : Bytes D := by rw [hD]; exact sumF_bytes abc
  have hw2 := whole_two
  rw [← hD] at hpa hw2
  have HPA := Lib.hid hpa
  have H0 := Lib.hid (And.intro b0 (And.intro hW0 (And.intro hB (And.intro hD32 (And.intro hDb hw2)))))
  have kc : ∀ w : World, (convert 24 24 (.slice (some ⟨w.heap.size, 0, none⟩) 3 3)).run Try.prog (w.alloc (.cells #[.int .u8 97, .int .u8 98, .int .u8 99] 5)) = .ok (.slice (some ⟨w.heap.size, 0, none⟩) 3 3) (w.alloc (.cells #[.int .u8 97, .int .u8 98, .int .u8 99] 5 (3, 4))) := fun w => Lib.run_convert_bytes_const (P := Try.prog) w 24 5 #[.int .u8 97, .int .u8 98, .int .u8 99] 3 3 Try.underlying24 Try.underlying5
  clear hli hpa hrow n0 b0 hW0 hB hD hD32 hDb hw2
  go_enter Try.func28, Try.ntmps28
  go_upto_region 2 with fail
  rw [← H0.out.2.1, ← H0.out.2.2.1]
  clear kc
  go_wp2_with fail
  refine HPA.out.mono ?_
  rintro e w1 ⟨v1, qs, rfl, rd1, hqs, b1⟩
  obtain ⟨u0, u1, rfl⟩ := two_of hqs
  obtain ⟨g, o, sv1, rg1, _⟩ := rd1.2
  obtain ⟨pv, cv, rfl, _, _, hpv, _⟩ := by unfold SlV at sv1; exact sv1
  obtain rfl := hpv (by simp)
  have r0 := range_get (i := 0) rg1 rd1.1.wh (by simp)
  have r1 := range_get (i := 1) rg1 rd1.1.wh (by simp)
  rw [Nat.zero_mul, Nat.add_zero] at r0
  have rw0 := range_wh r0
  have g0 := rd1.1 (apt D 0 [97, 98], u0) (by simp)
  have g1 := rd1.1 (apt D 2 [99], u1) (by simp)
  have z0 := qC_size (q := (apt D 0 [97, 98], u0)) H0.out.2.2.2.1
  have z1 := qC_size (q := (apt D 2 [99], u1)) H0.out.2.2.2.1
  have A1 := add_any (.slice none 0 0) [] (apt D 2 [99], u1) w1 (RdP.nil _ _) (by simp) g1.1 g1.2 (by simp [apt])
  rw [show ([] : List (Pt × Value)).map (·.1) = [] from rfl, add_one] at A1
  have A2 := fun w' (hb : BC w1 w') v qs (hq : qs.map (·.1) = [apt D 2 [99]]) (hr : RdP w'.heap.size w' v qs) => add_any v qs (apt D 0 [97, 98], u0) w' hr (by have := congrArg List.length hq; simp at this; omega) g0.1 ((g0.2.below hb).mono hb.size) (by simp [apt])
  have HA := Lib.hid (And.intro A1 A2)
  obtain ⟨C0, hC0⟩ : ∃ C, C = (qC (apt D 0 [97, 98], u0)).toArray := ⟨_, rfl⟩
  obtain ⟨C1, hC1⟩ : ∃ C, C = (qC (apt D 2 [99], u1)).toArray := ⟨_, rfl⟩
  rw [← hC0] at z0 HA
  rw [← hC1] at z1 HA
  have R0 : Hid (∀ w', BC w1 w' → w'.rangeAt g o C0.toList) := Lib.hid fun w' hb j v hj => later hb (r0 j v (by rw [hC0] at hj; simpa using hj))
  have R1 : Hid (w1.rangeAt g (o + 1 * 35) C1.toList) := Lib.hid fun j v hj => r1 j v (by rw [hC1] at hj; simpa using hj)
  obtain ⟨RD, hRD⟩ : ∃ R, R = row .u8 D := ⟨_, rfl⟩
  have RW : Hid (∀ w', BC w1 w' → w'.rangeAt g o RD.toList) := Lib.hid fun w' hb j v hj => later hb (rw0 j v (by rw [hRD] at hj; exact hj))
  have HSZ := Lib.hid (And.intro z0 (And.intro z1 (show RD.size = 32 by rw [hRD, row_size]; exact H0.out.2.2.2.1)))
  have HRD := Lib.hid hRD
  have H1 := Lib.hid (BC_below H0.out.1 H0.out.1.size b1)
  clear rd1 hqs sv1 rg1 hpv r0 r1 rw0 g0 g1 z0 z1 A1 A2 hC0 hC1 hRD b1
  have i1 : (1 : Int) < 2 := by decide
  have i0 : (0 : Int) < 2 := by decide
  go_wp2_with ((with_reducible refine wlw_load_mid (o := ⟨some 18, _, _, _, _, _⟩) ?_ 26 (.tmp 17) ?_ _ _ ?_ C1 _ R1.out Try.underlying26 ?_ ?_ ?_); (focus rfl); (focus rfl); (focus rfl); (focus rfl); (focus (rw [HSZ.out.2.1]; kernel_rfl)))
  refine HA.out.1.mono ?_
  rintro e w2 ⟨v2, qs2, rfl, rd2, hq2, b2⟩
  obtain ⟨a2, c2, rfl⟩ := rd2.form
  have hl2 : qs2.length = 1 := by have := congrArg List.length hq2; simpa using this
  rw [hl2] at rd2 ⊢
  have hd2 : ∀ q ∈ qs2, q.1.da.length ≤ 1000000 := fun q hq => by
    have : q.1 ∈ qs2.map (·.1) := List.mem_map_of_mem hq
    rw [hq2] at this
    rw [List.mem_singleton.1 this]; simp [apt]
  have hz2 : ∀ q ∈ qs2, q.1.sz ≤ 1000000 := fun q hq => by
    have : q.1 ∈ qs2.map (·.1) := List.mem_map_of_mem hq
    rw [hq2] at this
    rw [List.mem_singleton.1 this]; simp [apt]
  have W1 : Hid (∀ w', BC w2 w' → Calls Try.prog 31 #[.slice a2 1 c2, .agg RD] w' fun e w3 => ∃ v', e = .returned (.tuple #[v', .bool false]) ∧ Own w'.heap.size w3 v' [] ∧ Below w'.heap.size w' w3) := Lib.hid fun w' hb => by
    have h := whole_any _ qs2 D w' (rd2.to hb) (by omega) hd2 hz2 H0.out.2.2.2.1 H0.out.2.2.2.2.1
    rw [hq2, whole_one, ← HRD.out] at h
    exact h
  have M1 : Hid (∀ w', BC w2 w' → Calls Try.prog 32 #[.slice a2 1 c2, .agg RD, .int .i64 3] w' fun e w3 => e = .returned (.int .i64 2) ∧ Below w'.heap.size w' w3) := Lib.hid fun w' hb => by
    have h := missing_any _ qs2 D 3 w' (rd2.to hb) (by omega) hd2 H0.out.2.2.2.1 (by decide)
    rw [hq2, miss_one, ← HRD.out] at h
    exact h
  have A2 : Hid (∀ w', BC w2 w' → Calls Try.prog 30 #[.slice a2 1 c2, .agg C0] w' fun e w3 => ∃ v' qs', e = .returned (.tuple #[v', .int .i64 0]) ∧ RdP w3.heap.size w3 v' qs' ∧ qs'.map (·.1) = [apt D 0 [97, 98], apt D 2 [99]] ∧ Below w'.heap.size w' w3) := Lib.hid fun w' hb => by
    have h := HA.out.2 w' (BC_trans b2 hb) _ qs2 hq2 (rd2.to hb)
    rw [hq2, add_two] at h
    exact h
  have H2 := Lib.hid (And.intro b2 (BC_below H1.out H1.out.size b2))
  clear rd2 hq2 b2 hl2 hd2 hz2
  have F27 := Lib.hid (RW.out w2 H2.out.1)
  go_wp2_with ((with_reducible refine wlw_load_mid (o := ⟨some 27, _, _, _, _, _⟩) ?_ 23 (.tmp 26) ?_ _ _ ?_ RD _ F27.out Try.underlying23 ?_ ?_ ?_); (focus rfl); (focus rfl); (focus rfl); (focus rfl); (focus (rw [HSZ.out.2.2]; kernel_rfl)))
  refine (W1.out w2 (BC_refl w2)).mono ?_
  rintro e w3 ⟨v3, rfl, own3, b3⟩
  have H3 := Lib.hid (And.intro b3 (BC_below H2.out.2 H2.out.2.size b3))
  clear own3 b3
  have F35 := Lib.hid (R0.out w3 (BC_trans H2.out.1 H3.out.1))
  go_wp2_with ((with_reducible refine wlw_load_mid (o := ⟨some 35, _, _, _, _, _⟩) ?_ 26 (.tmp 34) ?_ _ _ ?_ C0 _ F35.out Try.underlying26 ?_ ?_ ?_); (focus rfl); (focus rfl); (focus rfl); (focus rfl); (focus (rw [HSZ.out.1]; kernel_rfl)))
  refine (A2.out w3 H3.out.1).mono ?_
  rintro e w4 ⟨v4, qs4, rfl, rd4, hq4, b4⟩
  obtain ⟨a4, c4, rfl⟩ := rd4.form
  have hl4 : qs4.length = 2 := by have := congrArg List.length hq4; simpa using this
  rw [hl4] at rd4 ⊢
  have hin : ∀ q ∈ qs4, q.1.da.length ≤ 1000000 ∧ q.1.sz ≤ 1000000 := fun q hq => by
    have : q.1 ∈ qs4.map (·.1) := List.mem_map_of_mem hq
    rw [hq4] at this
    simp at this
    rcases this with h | h <;> rw [h] <;> simp [apt]
  have W2 : Hid (Calls Try.prog 31 #[.slice a4 2 c4, .agg RD] w4 fun e w3 => ∃ v', e = .returned (.tuple #[v', .bool true]) ∧ Own w4.heap.size w3 v' abc ∧ Below w4.heap.size w4 w3) := Lib.hid (by
    have h := whole_any _ qs4 D w4 rd4 (by omega) (fun q hq => (hin q hq).1) (fun q hq => (hin q hq).2) H0.out.2.2.2.1 H0.out.2.2.2.2.1
    rw [hq4, H0.out.2.2.2.2.2, ← HRD.out] at h
    exact h)
  have H4 := Lib.hid (And.intro (BC_trans H3.out.1 b4) (BC_below H3.out.2 H3.out.2.size b4))
  clear rd4 hq4 b4 hl4 hin
  have F44 := Lib.hid (RW.out w4 (BC_trans H2.out.1 H4.out.1))
  go_wp2_with ((with_reducible refine wlw_load_mid (o := ⟨some 44, _, _, _, _, _⟩) ?_ 23 (.tmp 43) ?_ _ _ ?_ RD _ F44.out Try.underlying23 ?_ ?_ ?_); (focus rfl); (focus rfl); (focus rfl); (focus rfl); (focus (rw [HSZ.out.2.2]; kernel_rfl)))
  refine W2.out.mono ?_
  rintro e w5 ⟨v5, rfl, own5, b5⟩
  obtain ⟨g5, sl5, li5, _⟩ := own5.slv
  have cs := conv_slv g5 0 _ abc sl5 w5 li5
  rw [str_abc] at cs
  have H5 := Lib.hid (And.intro (BC_trans H4.out.1 b5) (BC_below H4.out.2 H4.out.2.size b5))
  clear own5 b5 sl5 li5
  have F76 := Lib.hid (RW.out w5 (BC_trans H2.out.1 H5.out.1))
  go_wp2_with ((with_reducible refine wlw_load_mid (o := ⟨some 76, _, _, _, _, _⟩) ?_ 23 (.tmp 75) ?_ _ _ ?_ RD _ F76.out Try.underlying23 ?_ ?_ ?_); (focus rfl); (focus rfl); (focus rfl); (focus rfl); (focus (rw [HSZ.out.2.2]; kernel_rfl)))
  refine (M1.out w5 H5.out.1).mono ?_
  rintro e w6 ⟨rfl, b6⟩
  have HF := Lib.hid (BC_below H5.out.2 H5.out.2.size b6)
  clear b6
  go_wp2_with fail
  go_ret
  exact ⟨rfl, HF.out⟩
end Go.Proofs.Ytjnimbhecfpnmaa
