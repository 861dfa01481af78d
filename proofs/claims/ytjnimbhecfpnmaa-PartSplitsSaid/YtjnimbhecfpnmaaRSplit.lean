/- The walk of the reference's Split (layer 18). -/
import Derived.Test.YtjnimbhecfpnmaaAwake18
import Derived.Test.YtjnimbhecfpnmaaREnc18
import Derived.Deep.Cut
namespace Go.Proofs.Ytjnimbhecfpnmaa
set_option maxRecDepth 100000
open Go.ChangeShapes Go.WideShapes Go.ChangeAt Go.RowKit

theorem splitF_len (l : List Int) (size : Nat) : (splitF l size).length = chunksN l.length size := by simp [splitF]
theorem splitF_get (l : List Int) (size k : Nat) (h : k < chunksN l.length size) : (splitF l size).getD k [] = encF (sumF l) l.length ((k * size : Nat) : Int) (pieceF l size k) := by
  simp [splitF, List.getD, h]
theorem build_rpart (W : List Int) (hW : W.length = 32) (s a : Int) (p : Option Addr) (n c : Nat) :
    Try.prog.built 33 [(0, .agg (row .u8 W)), (1, .int .i64 s), (2, .int .i64 a), (3, .slice p n c)] = some (pcells W s a (.slice p n c)).toArray := by
  iterate 32 (rcases W with _ | ⟨_, W⟩; · simp at hW)
  rcases W with _ | ⟨_, W⟩
  · kernel_rfl
  · simp at hW
theorem chunks_many {n : Nat} {most : Int} (h0 : 1 ≤ n) (h1 : n ≤ 400000) (hm : 4096 ≤ most) : manyF n most = (chunksN n (szP most n) : Int) := by
  rw [manyF_ref (by omega) (by omega) hm]
  have hz : (szP most n : Int) = min (min most 8388608 - 80) (n : Int) := by unfold szP inF; omega
  obtain ⟨z, hzz⟩ : ∃ z, z = szP most n := ⟨_, rfl⟩
  rw [← hzz] at hz ⊢
  have hz0 : 0 < z := by omega
  unfold chunksN
  by_cases h : most - 80 < (n : Int)
  · have e : (most - 80) = (z : Int) := by omega
    rw [e, show n + z - 1 = (n - 1) + z by omega, Nat.add_div_right _ hz0]
    have e2 : ((n : Int) - 1) = ((n - 1 : Nat) : Int) := by omega
    rw [e2]
    simp
  · have e : z = n := by omega
    rw [e, Int.ediv_eq_zero_of_lt (by omega) (by omega), show n + n - 1 = (n - 1) + n by omega, Nat.add_div_right _ (by omega), Nat.div_eq_of_lt (by omega)]
    rfl
theorem piece_at {n k : Nat} {most : Int} (h0 : 1 ≤ n) (h1 : n ≤ 400000) (hm : 4096 ≤ most) (hk : k < chunksN n (szP most n)) :
    (k : Int) * (most - 80) = ((k * szP most n : Nat) : Int) ∧ k * szP most n < n ∧ (most - 80 < (n : Int) - ((k * szP most n : Nat) : Int) → most - 80 = (szP most n : Int)) ∧ (¬ most - 80 < (n : Int) - ((k * szP most n : Nat) : Int) → n - k * szP most n ≤ szP most n) := by
  have hz : (szP most n : Int) = min (min most 8388608 - 80) (n : Int) := by unfold szP inF; omega
  obtain ⟨z, hzz⟩ : ∃ z, z = szP most n := ⟨_, rfl⟩
  rw [← hzz] at hz hk ⊢
  have hz0 : 0 < z := by omega
  have hlt : k * z < n := by
    unfold chunksN at hk
    rw [Nat.lt_div_iff_mul_lt hz0] at hk
    omega
  by_cases h : most - 80 < (n : Int)
  · have e : (most - 80) = (z : Int) := by omega
    refine ⟨by rw [e, Int.natCast_mul], hlt, fun _ => e, fun h2 => by omega⟩
  · have e : z = n := by omega
    have hk0 : k = 0 := by
      rcases Nat.eq_zero_or_pos k with h2 | h2
      · exact h2
      · have : 1 * z ≤ k * z := Nat.mul_le_mul_right _ h2
        omega
    subst hk0
    exact ⟨by simp, hlt, fun h2 => by omega, fun _ => by omega⟩
attribute [local go_sem] takes takesE comesTo
attribute [local irreducible] SlV Lies
theorem rsplit_arg (b o : Nat) (v : Value) (l : List Int) (most : Int) (hm : most < 4096 ∨ l = []) (hv : SlV v b o l.length) (w : World) :
    Calls Try.prog 23 #[v, .int .i64 most] w fun e w' => e = .returned (.tuple #[.slice none 0 0, .int .i64 1]) ∧ Below w.heap.size w w' := by
  obtain ⟨a, cap, rfl, _⟩ := by unfold SlV at hv; exact hv
  clear hv
  by_cases h1 : most < 4096
  · go_enter Try.func23, Try.ntmps23
    go_wp2_with fail
    go_ret2
    exact ⟨rfl, Below.refl _ _⟩
  · have h2 : l = [] := hm.resolve_left h1
    have h3 : l.length = 0 := by rw [h2]; rfl
    rw [h3]
    go_enter Try.func23, Try.ntmps23
    go_wp2_with fail
    go_ret2
    exact ⟨rfl, Below.refl _ _⟩
set_option linter.unusedSimpArgs false in
set_option maxHeartbeats 2000000 in
theorem rsplit_main (b o : Nat) (v : Value) (l : List Int) (most : Int) (hm : 4096 ≤ most) (hw80 : IntKind.i64.wrap (most - 80) = most - 80) (hl0 : 0 < l.length) (hN : l.length ≤ 400000) (hlb : Bytes l) (hv : SlV v b o l.length) (w : World) (hl : Lies w b o l) :
    Calls Try.prog 23 #[v, .int .i64 most] w fun e w' => ∃ v', e = .returned (.tuple #[v', .int .i64 0]) ∧ OwnS w.heap.size w' v' (splitF l (szP most l.length)) ∧ Below w.heap.size w w' := by
  have HV := Lib.hid hv
  obtain ⟨a, cap, rfl, hcap, hmax, hp, _⟩ := by unfold SlV at hv; exact hv
  obtain rfl := hp hl0
  obtain ⟨n, hn⟩ : ∃ n, n = l.length := ⟨_, rfl⟩
  obtain ⟨size, hsz⟩ : ∃ s, s = szP most n := ⟨_, rfl⟩
  obtain ⟨N, hNc⟩ : ∃ N, N = chunksN n size := ⟨_, rfl⟩
  have hrm := rmany_any (n : Int) most (fun _ => hw80)
  rw [← hn] at HV hl0 hN hcap hp hv ⊢
  rw [chunks_many hl0 hN hm, ← hsz, ← hNc] at hrm
  rw [← hsz]
  have hsz2 : (size : Int) = min (min most 8388608 - 80) (n : Int) := by rw [hsz]; unfold szP inF; omega
  have HRM := Lib.hid hrm
  have HL := Lib.hid (And.intro hlb (And.intro hl (And.intro hn (And.intro hN (And.intro hcap (And.intro hmax (And.intro hsz (And.intro hNc (And.intro hsz2 hl0)))))))))
  have h1 : ¬ most < 4096 := by omega
  have h2 : ((n : Int) == 0) = false := beq_eq_false_iff_ne.2 (by omega)
  have h2' : ¬ n = 0 := by omega
  have h3 : ¬ (4194304 : Int) < (n : Int) := by omega
  have HM := Lib.hid hm
  clear hlb hl hN hcap hmax hp hsz hsz2 hn hNc hrm hl0 hv
  go_enter Try.func23, Try.ntmps23
  go_wp2_with fail
  clear h2 h2' h3
  go_loopw [6, 7] (fun v6 i wr => ∃ (k : Nat) (p6 : Option Addr) (n6 c6 : Nat), k ≤ N ∧ v6 = .slice p6 n6 c6 ∧ i = .int .i64 (k : Int) ∧ OwnS w.heap.size wr (.slice p6 n6 c6) ((splitF l size).take k) ∧ Below w.heap.size w wr) (fun _ i _ => N - (intOf i).toNat)
  case atStart => exact ⟨0, none, 0, 0, Nat.zero_le _, rfl, rfl, by rw [List.take_zero]; exact OwnS.nil _ _, Below.refl _ _⟩
  case round =>
    obtain ⟨k, p6, n6, c6, hk, rfl, rfl, hown, hbw⟩ := hrel
    have HR := Lib.hid (And.intro hown hbw)
    clear hown hbw
    by_cases hlt : k < N
    · obtain ⟨q1, q2, q3, q4⟩ := piece_at (n := n) (k := k) (most := most) HL.out.2.2.2.2.2.2.2.2.2 HL.out.2.2.2.1 HM.out (by rw [← HL.out.2.2.2.2.2.2.1, ← HL.out.2.2.2.2.2.2.2.1]; exact hlt)
      rw [← HL.out.2.2.2.2.2.2.1] at q1 q2 q3 q4
      obtain ⟨K1, hK1⟩ : ∃ K, K = k * size := ⟨_, rfl⟩
      rw [← hK1] at q1 q2 q3 q4
      obtain ⟨ee, hee⟩ : ∃ e, e = (pieceF l size k).length := ⟨_, rfl⟩
      have hee2 : ee = min size (n - K1) := by rw [hee, pieceF_len, ← HL.out.2.2.1, hK1]
      have i1 : (k : Int) < (N : Int) := by omega
      have s1 : IntKind.i64.wrap ((k : Int) * (most - 80)) = (K1 : Int) := by rw [q1, IntKind.wrap_i64]; have := HL.out; omega
      have s2 : IntKind.i64.wrap ((n : Int) - (K1 : Int)) = (n : Int) - (K1 : Int) := by rw [IntKind.wrap_i64]; have := HL.out; omega
      have s3 : wrap64 ((k : Int) * (most - 80)) = (K1 : Int) := by rw [q1]; unfold wrap64; have := HL.out; omega
      obtain ⟨T, hT⟩ : ∃ T, T = K1 + ee := ⟨_, rfl⟩
      have s5 : IntKind.i64.wrap ((k : Int) + 1) = ((k + 1 : Nat) : Int) := by have := HL.out; have h9 : N ≤ n + size - 1 := (by rw [HL.out.2.2.2.2.2.2.2.1]; exact Nat.div_le_self _ _); rw [IntKind.wrap_i64]; omega
      have k0 : (0 : Int) ≤ (K1 : Int) := by omega
      have k1 : (K1 : Int) ≤ (T : Int) := by omega
      have k2 : (T : Int) ≤ (cap : Int) := by have := HL.out; omega
      have k3 : ¬ cap = K1 := by have := HL.out; omega
      have k4 : T - K1 = ee := by omega
      have HQ := Lib.hid (And.intro q2 (And.intro hK1 (And.intro hee (And.intro hee2 (And.intro hT hlt)))))
      have hc : (most - 80 < (n : Int) - (K1 : Int) ∧ IntKind.i64.wrap ((K1 : Int) + most) = (K1 : Int) + most ∧ IntKind.i64.wrap ((K1 : Int) + most - 80) = (T : Int)) ∨ (¬ most - 80 < (n : Int) - (K1 : Int) ∧ T = n) := by
        by_cases h : most - 80 < (n : Int) - (K1 : Int)
        · have e := q3 h
          have := HL.out
          exact .inl ⟨h, by rw [IntKind.wrap_i64]; omega, by rw [IntKind.wrap_i64]; omega⟩
        · exact .inr ⟨h, by have := q4 h; omega⟩
      clear q1 q2 q3 q4 hK1 hee hee2 hT hlt
      go_wp2_with fail
      refine (HRM.out _).mono ?_
      rintro e wm ⟨rfl, rfl⟩
      obtain ⟨d, hd⟩ : ∃ d, d = sumF l := ⟨_, rfl⟩
      have hd32 : d.length = 32 := by rw [hd]; exact sumF_len l
      have hdb : Bytes d := by rw [hd]; exact sumF_bytes l
      have hbu := build_rpart d hd32 (n : Int) (K1 : Int) (some ⟨b, o + K1, none⟩) ee (cap - K1)
      have hPsz := pcells_sz hd32 (n : Int) (K1 : Int) (.slice (some ⟨b, o + K1, none⟩) ee (cap - K1))
      have hmy : mayB (n : Int) (K1 : Int) (pieceF l size k).length = true := by
        have h := may_piece (l := l) (k := k) (size := size) (by have := HL.out; omega) (by have := HL.out; omega) (by rw [← HL.out.2.2.1, ← HL.out.2.2.2.2.2.2.2.1]; exact HQ.out.2.2.2.2.2)
        rw [← HL.out.2.2.1, ← HQ.out.2.1] at h
        exact h
      have hlp : ∀ W, Below w.heap.size w W → Lies W b (o + K1) (pieceF l size k) := fun W hW => by rw [HQ.out.2.1]; exact lies_take (lies_drop (HL.out.2.1.below' hW) (k * size)) size
      have hen : ∀ W, Below w.heap.size w W → Calls Try.prog 16 #[.agg (pcells d (n : Int) (K1 : Int) (.slice (some ⟨b, o + K1, none⟩) ee (cap - K1))).toArray] W fun e w' => ∃ v', e = .returned (.tuple #[v', .int .i64 0]) ∧ Own W.heap.size w' v' (encF d (n : Int) (K1 : Int) (pieceF l size k)) ∧ Below W.heap.size W w' := fun W hW =>
        rencode_yes d hd32 hdb (n : Int) (K1 : Int) _ b (o + K1) (pieceF l size k) (bytes_take (bytes_drop HL.out.1 _) _) (by rw [← HQ.out.2.2.1]; have := HQ.out; have := HL.out; omega) (by rw [← HQ.out.2.2.1]; exact slv_at _ _ _ _ (by have := HQ.out; have := HL.out; omega) (by have := HL.out; omega)) hmy W (hlp W hW)
      have hsum : ∀ W, Below w.heap.size w W → Calls Try.prog 27 #[.slice (some ⟨b, o, none⟩) n cap] W fun e w' => e = .returned (.agg (row .u8 d)) ∧ Below W.heap.size W w' := fun W hW => by
        rw [hd]
        exact r3sum_any l HL.out.1 (by have := HL.out; omega) b o _ (by rw [← HL.out.2.2.1]; exact HV.out) W (HL.out.2.1.below' hW)
      have HSUM : Hid (∀ x : HW (BC wr), Calls Try.prog 27 #[.slice (some ⟨b, o, none⟩) n cap] x.w fun e w' => e = .returned (.agg (row .u8 d)) ∧ Below x.w.heap.size x.w w') := Lib.hid (fun x => hsum x.w (BC_below HR.out.2 HR.out.2.size x.h))
      generalize (pcells d (n : Int) (K1 : Int) (.slice (some ⟨b, o + K1, none⟩) ee (cap - K1))).toArray = PC at *
      have HEN := Lib.hid hen
      have HBU := Lib.hid (And.intro hbu hPsz)
      have HD := Lib.hid hd
      clear hen hsum hlp hmy hbu hPsz hd hd32 hdb
      generalize row .u8 d = RD at *
      have hS := BC_refl
      haveI := BC_inst wr
      rcases hc with ⟨c1, c2, c3⟩ | ⟨c1, c2⟩
      · go_upto_region 13 with fail
        have SB := Lib.hid (BC_refl wr)
        go_wp2_with fail
        refine wp_region_E (by kernel_rfl) ?_
        refine takeE (i := 0) rfl (by kernel_rfl) (by kernel_rfl) (by kernel_rfl) (fun _ _ _ _ h => h) SB.out (fun K hK => ?_)
        go_simp
        refine hK.out _ ?_
        clear hK K
        refine takeE (i := 1) rfl (by kernel_rfl) (by kernel_rfl) (by kernel_rfl) (fun _ _ _ _ h => h) SB.out (fun K hK => ?_)
        go_simp
        apply Exists.intro
        refine ⟨fun x => ?_, hK.out _ ?_⟩
        · go_at_call 27
          exact HSUM.out x
        clear hK K
        refine takeE (i := 2) rfl (by kernel_rfl) (by kernel_rfl) (by kernel_rfl) (fun _ _ _ _ h => h) SB.out (fun K hK => ?_)
        go_simp
        refine hK.out _ ?_
        clear hK K
        refine takeE (i := 3) rfl (by kernel_rfl) (by kernel_rfl) (by kernel_rfl) (fun _ _ _ _ h => h) SB.out (fun K hK => ?_)
        go_simp
        refine hK.out _ ?_
        clear hK K
        refine takeE (i := 4) rfl (by kernel_rfl) (by kernel_rfl) (by kernel_rfl) (fun _ _ _ _ h => h) SB.out (fun K hK => ?_)
        go_simp
        refine hK.out _ ?_
        clear hK K
        refine takeE (i := 5) rfl (by kernel_rfl) (by kernel_rfl) (by kernel_rfl) (fun _ _ _ _ h => h) SB.out (fun K hK => ?_)
        go_simp
        refine hK.out _ ?_
        clear hK K
        refine takeE (i := 6) rfl (by kernel_rfl) (by kernel_rfl) (by kernel_rfl) (fun _ _ _ _ h => h) SB.out (fun K hK => ?_)
        go_simp
        refine hK.out _ ?_
        clear hK K
        refine takeE (i := 7) rfl (by kernel_rfl) (by kernel_rfl) (by kernel_rfl) (fun _ _ _ _ h => h) SB.out (fun K hK => ?_)
        go_simp
        refine hK.out _ ?_
        clear hK K
        refine takeE (i := 8) rfl (by kernel_rfl) (by kernel_rfl) (by kernel_rfl) (fun _ _ _ _ h => h) SB.out (fun K hK => ?_)
        go_simp
        refine hK.out _ ?_
        clear hK K
        refine takeEB (i := 9) rfl (by kernel_rfl) (by kernel_rfl) (by kernel_rfl) (fun _ _ _ _ h => h) SB.out 33 _ rfl (by rfl) PC (Eq.trans (congrArg (Try.prog.built 33) (by kernel_rfl)) HBU.out.1) ?_
        simp only [Act.put, List.setIfInBounds_toArray, List.set_cons_zero, List.set_cons_succ]
        refine stepE (i := 10) rfl (by kernel_rfl) (fun w3 r3 K hK => ?_)
        go_simp
        refine (HEN.out w3 (BC_below HR.out.2 HR.out.2.size r3)).mono ?_
        rintro e w4 ⟨v4, rfl, own4, b4⟩
        have S4 := Lib.hid (BC_trans r3 b4)
        refine hK.out _ _ S4.out ?_
        have HO4 := Lib.hid own4
        clear hK K b4 own4
        obtain ⟨p4, c4, rfl⟩ := HO4.out.form
        refine takeE (i := 11) rfl (by kernel_rfl) (by kernel_rfl) (by kernel_rfl) (fun _ _ _ _ h => h) S4.out (fun K hK => ?_)
        go_simp
        refine hK.out _ ?_
        clear hK K
        refine takeE (i := 12) rfl (by kernel_rfl) (by kernel_rfl) (by kernel_rfl) (fun _ _ _ _ h => h) S4.out (fun K hK => ?_)
        go_simp
        refine hK.out _ ?_
        clear hK K
        refine takeE (i := 13) rfl (by kernel_rfl) (by kernel_rfl) (by kernel_rfl) (fun _ _ _ _ h => h) S4.out (fun K hK => ?_)
        go_simp
        refine hK.out _ ?_
        clear hK K
        refine takeE (i := 14) rfl (by kernel_rfl) (by kernel_rfl) (by kernel_rfl) (fun _ _ _ _ h => h) S4.out (fun K hK => ?_)
        go_simp
        refine hK.out _ ?_
        clear hK K
        refine takeE (i := 15) rfl (by kernel_rfl) (by kernel_rfl) (by kernel_rfl) (fun _ _ _ _ h => h) S4.out (fun K hK => ?_)
        go_simp
        refine hK.out _ ?_
        clear hK K
        refine doneE (by kernel_rfl) (fun w9 r9 => ?_) _
        clear hS
        have hE : (encF d (n : Int) (K1 : Int) (pieceF l size k)) = (splitF l size).getD k [] := by
          rw [splitF_get l size k (by rw [← HL.out.2.2.1, ← HL.out.2.2.2.2.2.2.2.1]; exact HQ.out.2.2.2.2.2), HD.out, HL.out.2.2.1, HQ.out.2.1]
        have hbs : w.heap.size ≤ w9.heap.size := Nat.le_trans HR.out.2.size (BC_trans S4.out r9).size
        have hos : OwnS w.heap.size (w9.alloc (.cells #[.slice p4 (encF d (n : Int) (K1 : Int) (pieceF l size k)).length c4] 24)) (.slice p6 n6 c6) ((splitF l size).take k) := (HR.out.1.below (BC_trans S4.out r9)).below (below1 _ _)
        have hoe : Own w.heap.size (w9.alloc (.cells #[.slice p4 (encF d (n : Int) (K1 : Int) (pieceF l size k)).length c4] 24)) (.slice p4 (encF d (n : Int) (K1 : Int) (pieceF l size k)).length c4) (encF d (n : Int) (K1 : Int) (pieceF l size k)) := ((HO4.out.mono (Nat.le_trans HR.out.2.size r3.size)).below r9).below (below1 _ _)
        have hce : (w9.alloc (.cells #[.slice p4 (encF d (n : Int) (K1 : Int) (pieceF l size k)).length c4] 24)).cell? ⟨w9.heap.size, 0, none⟩ = some (.slice p4 (encF d (n : Int) (K1 : Int) (pieceF l size k)).length c4) := (cell_new _ _ _ _).trans rfl
        have hkl : ((splitF l size).take k).length ≤ 10000000 := by rw [List.length_take]; have := HL.out; have h9 : N ≤ n + size - 1 := (by rw [HL.out.2.2.2.2.2.2.2.1]; exact Nat.div_le_self _ _); omega
        have HB := Lib.hid (And.intro hos (And.intro hoe (And.intro hce (And.intro hkl (And.intro (Nat.le_trans hbs (below1 w9 (.cells #[.slice p4 (encF d (n : Int) (K1 : Int) (pieceF l size k)).length c4] 24)).size) (BC_below HR.out.2 HR.out.2.size (BC_trans S4.out r9)))))))
        have HE2 := Lib.hid hE
        clear hE hbs hos hoe hce hkl r9 r3
        generalize encF d (n : Int) (K1 : Int) (pieceF l size k) = E at *
        go_wp2_with (at_builtin; refine wl_append_s rfl _ _ rfl w.heap.size _ _ rfl HB.out.1 HB.out.2.2.2.1 w9.heap.size 1 rfl _ E HB.out.2.2.1 HB.out.2.1 HB.out.2.2.2.2.1 ?_; intro v11 w11 own11 grown11 at11)
        obtain ⟨p11, n11, c11, rfl⟩ := own11.isSlice
        have hkN : k + 1 ≤ N := HQ.out.2.2.2.2.2
        have b11 : Below w.heap.size w w11 := (HB.out.2.2.2.2.2.alloc HB.out.2.2.2.2.2.size _).grown grown11 HB.out.2.2.2.2.1 HB.out.1.own_block
        have o11 : OwnS w.heap.size w11 (.slice p11 n11 c11) ((splitF l size).take (k + 1)) := by
          have e : (splitF l size).take (k + 1) = (splitF l size).take k ++ [E] := by
            rw [HE2.out, List.take_add_one]
            have hlen : k < (splitF l size).length := by rw [splitF_len, ← HL.out.2.2.1, ← HL.out.2.2.2.2.2.2.2.1]; omega
            simp [List.getD, hlen]
          rw [e]
          exact own11
        have HF := Lib.hid (And.intro o11 b11)
        clear own11 grown11 at11 b11 o11
        go_wp2_with fail
        go_roundw
        case rel => exact ⟨k + 1, p11, n11, c11, hkN, rfl, rfl, HF.out.1, HF.out.2⟩
        case measure => simp [intOf]; omega
      · obtain rfl : n = T := c2.symm
        clear c2
        go_upto_region 13 with fail
        have SB := Lib.hid (BC_refl wr)
        go_wp2_with fail
        refine wp_region_E (by kernel_rfl) ?_
        refine takeE (i := 0) rfl (by kernel_rfl) (by kernel_rfl) (by kernel_rfl) (fun _ _ _ _ h => h) SB.out (fun K hK => ?_)
        go_simp
        refine hK.out _ ?_
        clear hK K
        refine takeE (i := 1) rfl (by kernel_rfl) (by kernel_rfl) (by kernel_rfl) (fun _ _ _ _ h => h) SB.out (fun K hK => ?_)
        go_simp
        apply Exists.intro
        refine ⟨fun x => ?_, hK.out _ ?_⟩
        · go_at_call 27
          exact HSUM.out x
        clear hK K
        refine takeE (i := 2) rfl (by kernel_rfl) (by kernel_rfl) (by kernel_rfl) (fun _ _ _ _ h => h) SB.out (fun K hK => ?_)
        go_simp
        refine hK.out _ ?_
        clear hK K
        refine takeE (i := 3) rfl (by kernel_rfl) (by kernel_rfl) (by kernel_rfl) (fun _ _ _ _ h => h) SB.out (fun K hK => ?_)
        go_simp
        refine hK.out _ ?_
        clear hK K
        refine takeE (i := 4) rfl (by kernel_rfl) (by kernel_rfl) (by kernel_rfl) (fun _ _ _ _ h => h) SB.out (fun K hK => ?_)
        go_simp
        refine hK.out _ ?_
        clear hK K
        refine takeE (i := 5) rfl (by kernel_rfl) (by kernel_rfl) (by kernel_rfl) (fun _ _ _ _ h => h) SB.out (fun K hK => ?_)
        go_simp
        refine hK.out _ ?_
        clear hK K
        refine takeE (i := 6) rfl (by kernel_rfl) (by kernel_rfl) (by kernel_rfl) (fun _ _ _ _ h => h) SB.out (fun K hK => ?_)
        go_simp
        refine hK.out _ ?_
        clear hK K
        refine takeE (i := 7) rfl (by kernel_rfl) (by kernel_rfl) (by kernel_rfl) (fun _ _ _ _ h => h) SB.out (fun K hK => ?_)
        go_simp
        refine hK.out _ ?_
        clear hK K
        refine takeE (i := 8) rfl (by kernel_rfl) (by kernel_rfl) (by kernel_rfl) (fun _ _ _ _ h => h) SB.out (fun K hK => ?_)
        go_simp
        refine hK.out _ ?_
        clear hK K
        refine takeEB (i := 9) rfl (by kernel_rfl) (by kernel_rfl) (by kernel_rfl) (fun _ _ _ _ h => h) SB.out 33 _ rfl (by rfl) PC (Eq.trans (congrArg (Try.prog.built 33) (by kernel_rfl)) HBU.out.1) ?_
        simp only [Act.put, List.setIfInBounds_toArray, List.set_cons_zero, List.set_cons_succ]
        refine stepE (i := 10) rfl (by kernel_rfl) (fun w3 r3 K hK => ?_)
        go_simp
        refine (HEN.out w3 (BC_below HR.out.2 HR.out.2.size r3)).mono ?_
        rintro e w4 ⟨v4, rfl, own4, b4⟩
        have S4 := Lib.hid (BC_trans r3 b4)
        refine hK.out _ _ S4.out ?_
        have HO4 := Lib.hid own4
        clear hK K b4 own4
        obtain ⟨p4, c4, rfl⟩ := HO4.out.form
        refine takeE (i := 11) rfl (by kernel_rfl) (by kernel_rfl) (by kernel_rfl) (fun _ _ _ _ h => h) S4.out (fun K hK => ?_)
        go_simp
        refine hK.out _ ?_
        clear hK K
        refine takeE (i := 12) rfl (by kernel_rfl) (by kernel_rfl) (by kernel_rfl) (fun _ _ _ _ h => h) S4.out (fun K hK => ?_)
        go_simp
        refine hK.out _ ?_
        clear hK K
        refine takeE (i := 13) rfl (by kernel_rfl) (by kernel_rfl) (by kernel_rfl) (fun _ _ _ _ h => h) S4.out (fun K hK => ?_)
        go_simp
        refine hK.out _ ?_
        clear hK K
        refine takeE (i := 14) rfl (by kernel_rfl) (by kernel_rfl) (by kernel_rfl) (fun _ _ _ _ h => h) S4.out (fun K hK => ?_)
        go_simp
        refine hK.out _ ?_
        clear hK K
        refine takeE (i := 15) rfl (by kernel_rfl) (by kernel_rfl) (by kernel_rfl) (fun _ _ _ _ h => h) S4.out (fun K hK => ?_)
        go_simp
        refine hK.out _ ?_
        clear hK K
        refine doneE (by kernel_rfl) (fun w9 r9 => ?_) _
        clear hS
        have hE : (encF d (n : Int) (K1 : Int) (pieceF l size k)) = (splitF l size).getD k [] := by
          rw [splitF_get l size k (by rw [← HL.out.2.2.1, ← HL.out.2.2.2.2.2.2.2.1]; exact HQ.out.2.2.2.2.2), HD.out, HL.out.2.2.1, HQ.out.2.1]
        have hbs : w.heap.size ≤ w9.heap.size := Nat.le_trans HR.out.2.size (BC_trans S4.out r9).size
        have hos : OwnS w.heap.size (w9.alloc (.cells #[.slice p4 (encF d (n : Int) (K1 : Int) (pieceF l size k)).length c4] 24)) (.slice p6 n6 c6) ((splitF l size).take k) := (HR.out.1.below (BC_trans S4.out r9)).below (below1 _ _)
        have hoe : Own w.heap.size (w9.alloc (.cells #[.slice p4 (encF d (n : Int) (K1 : Int) (pieceF l size k)).length c4] 24)) (.slice p4 (encF d (n : Int) (K1 : Int) (pieceF l size k)).length c4) (encF d (n : Int) (K1 : Int) (pieceF l size k)) := ((HO4.out.mono (Nat.le_trans HR.out.2.size r3.size)).below r9).below (below1 _ _)
        have hce : (w9.alloc (.cells #[.slice p4 (encF d (n : Int) (K1 : Int) (pieceF l size k)).length c4] 24)).cell? ⟨w9.heap.size, 0, none⟩ = some (.slice p4 (encF d (n : Int) (K1 : Int) (pieceF l size k)).length c4) := (cell_new _ _ _ _).trans rfl
        have hkl : ((splitF l size).take k).length ≤ 10000000 := by rw [List.length_take]; have := HL.out; have h9 : N ≤ n + size - 1 := (by rw [HL.out.2.2.2.2.2.2.2.1]; exact Nat.div_le_self _ _); omega
        have HB := Lib.hid (And.intro hos (And.intro hoe (And.intro hce (And.intro hkl (And.intro (Nat.le_trans hbs (below1 w9 (.cells #[.slice p4 (encF d (n : Int) (K1 : Int) (pieceF l size k)).length c4] 24)).size) (BC_below HR.out.2 HR.out.2.size (BC_trans S4.out r9)))))))
        have HE2 := Lib.hid hE
        clear hE hbs hos hoe hce hkl r9 r3
        generalize encF d (n : Int) (K1 : Int) (pieceF l size k) = E at *
        go_wp2_with (at_builtin; refine wl_append_s rfl _ _ rfl w.heap.size _ _ rfl HB.out.1 HB.out.2.2.2.1 w9.heap.size 1 rfl _ E HB.out.2.2.1 HB.out.2.1 HB.out.2.2.2.2.1 ?_; intro v11 w11 own11 grown11 at11)
        obtain ⟨p11, n11, c11, rfl⟩ := own11.isSlice
        have hkN : k + 1 ≤ N := HQ.out.2.2.2.2.2
        have b11 : Below w.heap.size w w11 := (HB.out.2.2.2.2.2.alloc HB.out.2.2.2.2.2.size _).grown grown11 HB.out.2.2.2.2.1 HB.out.1.own_block
        have o11 : OwnS w.heap.size w11 (.slice p11 n11 c11) ((splitF l size).take (k + 1)) := by
          have e : (splitF l size).take (k + 1) = (splitF l size).take k ++ [E] := by
            rw [HE2.out, List.take_add_one]
            have hlen : k < (splitF l size).length := by rw [splitF_len, ← HL.out.2.2.1, ← HL.out.2.2.2.2.2.2.2.1]; omega
            simp [List.getD, hlen]
          rw [e]
          exact own11
        have HF := Lib.hid (And.intro o11 b11)
        clear own11 grown11 at11 b11 o11
        go_wp2_with fail
        go_roundw
        case rel => exact ⟨k + 1, p11, n11, c11, hkN, rfl, rfl, HF.out.1, HF.out.2⟩
        case measure => simp [intOf]; omega
    · have hge : ¬ (k : Int) < (N : Int) := by omega
      have hk2 : k = N := by omega
      have HX : Hid (OwnS w.heap.size wr (.slice p6 n6 c6) (splitF l size)) := Lib.hid (by
        have h := HR.out.1
        rw [List.take_of_length_le (by rw [splitF_len, ← HL.out.2.2.1, ← HL.out.2.2.2.2.2.2.2.1]; omega)] at h
        exact h)
      clear hk2
      go_wp2_with fail
      refine (HRM.out _).mono ?_
      rintro e wm ⟨rfl, rfl⟩
      go_wp2_with fail
      go_ret2
      exact ⟨_, rfl, HX.out, HR.out.2⟩
end Go.Proofs.Ytjnimbhecfpnmaa
