/- The statement PartCuts: a part's bytes, cut, or with more behind, or with a byte turned, are none, or not this part's. No condition. -/
import Derived.Test.YtjnimbhecfpnmaaAwake18
import Derived.Test.YtjnimbhecfpnmaaSame18
import Derived.Test.YtjnimbhecfpnmaaOpenP
import Derived.Test.YtjnimbhecfpnmaaGuard
import Derived.Test.YtjnimbhecfpnmaaREnc18
import Derived.Laws.BitsAllLaws
import Derived.Laws.OwnMore
import Derived.Deep.Cut
import Derived.Deep.DeepCutAuto
import Derived.OpenShut
import Derived.ShutString
import Derived.ChangeOld
namespace Go.Proofs.Ytjnimbhecfpnmaa.partCutsDone
open Go.ChangeShapes Go.WideShapes Go.ChangeAt Go.RowKit
set_option linter.unusedVariables false
set_option linter.unusedSimpArgs false
set_option maxRecDepth 100000
attribute [local irreducible] SlV Lies

theorem zero_p (w : World) : (zeroValue 26).run Try.prog w = .ok (.agg zpart) w := by kernel_rfl
theorem zero_r (w : World) : (zeroValue 33).run Try.prog w = .ok (.agg zpart) w := by kernel_rfl
theorem same_ne {wh L : List Int} {s t : Int} {l : List Int} (h : errF L = 0) (hne : L ≠ encF wh s t l) : samePB (dWh L) wh (dSz L) s (dAt L) t (dDa L) l = false := by
  refine decide_eq_false fun ⟨e1, e2, e3, e4⟩ => hne ?_
  rw [← (enc_dec h).2.1, e1, e2, e3, e4]
theorem own_stored {base : Nat} {w : World} {g n cap : Nat} {l : List Int} (h : Own base w (.slice (some ⟨g, 0, none⟩) n cap) l) (hn : n = l.length) (k : Nat) (z : Int) :
    Own base (w.setCell ⟨g, k, none⟩ (.int .u8 z)) (.slice (some ⟨g, 0, none⟩) n cap) (l.set k z) := by
  subst hn
  have h1 := (World.ownsRow.stored h k (.int .u8 z)).1
  unfold Own
  rw [List.length_set, List.map_set]
  exact h1
theorem xor_byte (a c : Int) (ha : 0 ≤ a ∧ a ≤ 255) (hc : 0 ≤ c ∧ c ≤ 255) : ∃ z : Int, bits .xor .u8 a c = z ∧ 0 ≤ z ∧ z ≤ 255 ∧ (c ≠ 0 → z ≠ a) := by
  obtain ⟨x, rfl⟩ := Int.eq_ofNat_of_zero_le ha.1
  obtain ⟨y, rfl⟩ := Int.eq_ofNat_of_zero_le hc.1
  refine ⟨_, u8_xor_nat x y (by omega) (by omega), by omega, ?_, fun h0 e => h0 ?_⟩
  · have : x ^^^ y < 2 ^ 8 := Nat.xor_lt_two_pow (by omega) (by omega)
    omega
  · have e' : x ^^^ y = x := by omega
    have h1 : x ^^^ (x ^^^ y) = x ^^^ x := by rw [e']
    rw [← Nat.xor_assoc, Nat.xor_self, Nat.zero_xor] at h1
    omega
set_option maxHeartbeats 4000000 in
theorem walk (wh0 : List Int) (s0 t0 : Int) (u0 : Value) (b0 o0 : Nat) (l0 : List Int) (a1 a2 : Int) (hw0 : wh0.length = 32) (hwb0 : Bytes wh0) (hs0 : (Lit.int .i64 s0).wf = true) (ht0 : (Lit.int .i64 t0).wf = true) (hu0 : SlV u0 b0 o0 l0.length) (hb0 : Bytes l0)
    (w1 : (Lit.int .u16 a1).wf = true) (w2 : (Lit.int .u8 a2).wf = true) (w : World) (hl0 : Lies w b0 o0 l0) :
    Calls Try.prog 7 #[.agg (pcells wh0 s0 t0 u0).toArray, .int .u16 a1, .int .u8 a2] w fun e w' => e = .returned (.bool true) ∧ Below w.heap.size w w' := by
  have hz := zero_p
  have hz' := zero_r
  simp [Lit.wf, IntKind.min, IntKind.max, IntKind.signed, IntKind.bits] at w1 w2
  obtain ⟨la1, ua1⟩ := w1
  have HU := Lib.hid hu0
  obtain ⟨pu, cu, rfl, hq1, hq2, _⟩ := by unfold SlV at hu0; exact hu0
  obtain ⟨C0, hC0⟩ : ∃ C, C = (pcells wh0 s0 t0 (.slice pu l0.length cu)).toArray := ⟨_, rfl⟩
  have k34 := pcells_data hw0 s0 t0 (.slice pu l0.length cu)
  have hsz0 := pcells_sz hw0 s0 t0 (.slice pu l0.length cu)
  have hon0 := pcells_one wh0 s0 t0 (.slice pu l0.length cu) rfl
  rw [← hC0] at k34 hsz0 hon0 ⊢
  have HP := Lib.hid (And.intro hC0 (And.intro hw0 (And.intro hwb0 (And.intro hl0 (And.intro hb0 (And.intro hq1 hq2))))))
  have HZ0 := Lib.hid hsz0
  have HO0 := Lib.hid hon0
  have HK := Lib.hid k34
  have HA2 := Lib.hid w2
  have HB0 := Lib.hid (And.intro (heap_alloc_new w (.cells C0 26)) (below1 w (.cells C0 26)))
  clear hC0 hw0 hwb0 hs0 ht0 hu0 hb0 hl0 k34 hsz0 hon0 hq1 hq2 w2
  obtain ⟨n0, hn0⟩ : ∃ n, n = l0.length := ⟨_, rfl⟩
  rw [← hn0] at HP HK HU
  have HN := Lib.hid hn0
  clear hn0
  go_enter Try.func7, Try.ntmps7
  go_wp2_with fail
  refine (awake18_any _).mono ?_
  rintro e w1 ⟨rfl, ba⟩
  have H1 := Lib.hid (And.intro (BC_blk1 ba HB0.out.1) (BC_below HB0.out.2 HB0.out.2.size ba))
  have c34 := cell_row H1.out.1 34 HK.out
  clear ba
  rcases Nat.lt_or_ge 5000 n0 with h5 | h5
  · have h5' : (5000 : Int) < (n0 : Int) := by omega
    go_wp2_with fail
    go_ret
    exact ⟨rfl, H1.out.2⟩
  have h5' : ¬ (5000 : Int) < (n0 : Int) := by omega
  have HM5 := Lib.hid h5
  clear h5
  obtain ⟨m, hm⟩ : ∃ m, m = mayB s0 t0 n0 := ⟨_, rfl⟩
  cases m with
  | false =>
    have hen := encode_no wh0 HP.out.2.1 s0 t0 (.slice pu n0 cu) b0 o0 n0 (HN.out ▸ HU.out) hm.symm w1
    rw [← HP.out.1] at hen
    have HEN := Lib.hid hen
    clear hen hm
    go_wp2_with ((with_reducible refine wlw_load_row (o := ⟨some 29, _, _, _, _, _⟩) ?_ 26 (.tmp 3) ?_ _ ?_ _ C0 _ _ H1.out.1 Try.underlying26 ?_ ?_ ?_); (focus rfl); (focus rfl); (focus rfl); (focus rfl); (focus (rw [HZ0.out]; kernel_rfl)))
    refine HEN.out.mono ?_
    rintro e wT ⟨rfl, bx⟩
    have HT := Lib.hid (BC_below H1.out.2 H1.out.2.size bx)
    clear bx c34
    go_wp2_with fail
    go_ret
    exact ⟨rfl, HT.out⟩
  | true =>
    have hen := encode_yes wh0 HP.out.2.1 HP.out.2.2.1 s0 t0 (.slice pu n0 cu) b0 o0 l0 HP.out.2.2.2.2.1 (by have := HM5.out; have := HN.out; omega) (by rw [← HN.out]; exact HU.out) (by rw [← HN.out]; exact hm.symm) w1 (HP.out.2.2.2.1.below' H1.out.2)
    rw [← HP.out.1] at hen
    have HEN := Lib.hid hen
    have HMT := Lib.hid hm
    clear hen hm
    go_wp2_with ((with_reducible refine wlw_load_row (o := ⟨some 29, _, _, _, _, _⟩) ?_ 26 (.tmp 3) ?_ _ ?_ _ C0 _ _ H1.out.1 Try.underlying26 ?_ ?_ ?_); (focus rfl); (focus rfl); (focus rfl); (focus rfl); (focus (rw [HZ0.out]; kernel_rfl)))
    refine HEN.out.mono ?_
    rintro e w2 ⟨vx, rfl, ownx, bx⟩
    have hxl := encF_len HP.out.2.1 s0 t0 l0
    have hxb := encF_bytes HP.out.2.2.1 HP.out.2.2.2.2.1 s0 t0
    obtain ⟨gx, sx, lx, hgx⟩ := ownx.slv
    obtain ⟨px, cx, rfl⟩ := ownx.form
    have hpx : px = some ⟨gx, 0, none⟩ := by
      have h := sx
      unfold SlV at h
      obtain ⟨_, _, e1, _, _, e2, _⟩ := h
      injection e1 with e1
      rw [e1]
      exact e2 (by omega)
    subst hpx
    obtain ⟨X, hX⟩ : ∃ X, X = encF wh0 s0 t0 l0 := ⟨_, rfl⟩
    rw [← hX] at hxl hxb sx lx ⊢
    rw [hxl]
    obtain ⟨nx, hnx⟩ : ∃ nx, nx = 80 + l0.length := ⟨_, rfl⟩
    rw [← hnx] at hxl ⊢
    obtain ⟨k, hk⟩ : ∃ k : Nat, (k : Int) = a1 % (nx : Int) := ⟨(a1 % (nx : Int)).toNat, by rw [Int.toNat_of_nonneg (Int.emod_nonneg _ (by omega))]⟩
    have hk1 : k < nx := by have := Int.emod_lt_of_pos a1 (show (0 : Int) < (nx : Int) by omega); omega
    have hcx : nx ≤ cx ∧ cx ≤ maxLen := by
      have h := sx
      unfold SlV at h
      obtain ⟨_, _, e1, e2, e3, _⟩ := h
      injection e1 with _ e4 e5
      omega
    have HX := Lib.hid (And.intro hX (And.intro hxl (And.intro hxb (And.intro lx (And.intro hnx (And.intro hk1 (And.intro hcx (And.intro (BC_blk1 bx H1.out.1) (BC_below H1.out.2 H1.out.2.size bx)))))))))
    have sxl : SlV (.slice (some ⟨gx, 0, none⟩) nx cx) gx 0 X.length := by rw [hxl]; exact slv_at _ _ _ _ hcx.1 hcx.2
    have HSX := Lib.hid sxl
    have q1 : (a1 % (nx : Int)) = (k : Int) := hk.symm
    have q2 : IntKind.i64.wrap a1 = a1 := by rw [IntKind.wrap_i64]; omega
    have q3 : ¬ (nx : Int) = 0 := by omega
    have q4 : (0 : Int) ≤ (k : Int) := by omega
    have q5 : (k : Int) ≤ (cx : Int) := by omega
    have q6 : (0 : Int) ≤ (nx : Int) := by omega
    have q7 : ((nx : Int) == 0) = false := beq_eq_false_iff_ne.2 q3
    clear ownx bx hxl hxb lx hgx sx hX hnx hcx hk c34 sxl
    go_wp2_with fail
    refine (decode_any gx 0 _ (X.take k) (bytes_take HX.out.2.2.1 _) (by rw [List.length_take]; have := HM5.out; have := HN.out; have := HX.out; omega) (by rw [List.length_take, HX.out.2.1, Nat.min_eq_left (Nat.le_of_lt HX.out.2.2.2.2.2.1)]; exact slv_at _ _ _ _ (by have := HX.out; omega) (by have := HX.out; omega)) w2 (lies_take HX.out.2.2.2.1 k)).mono ?_
    rintro e wd1 ⟨vd1, rfl, ownd1, bd1⟩
    obtain ⟨L1, hL1⟩ : ∃ L, L = X.take k := ⟨_, rfl⟩
    rw [← hL1] at ownd1 ⊢
    obtain ⟨gd1, sd1, ld1, _⟩ := ownd1.slv
    obtain ⟨pd1, cd1, rfl⟩ := ownd1.form
    have hsz1 := pcells_sz (dWh_len L1) (dSz L1) (dAt L1) (.slice pd1 (dDa L1).length cd1)
    have hon1 := pcells_one (dWh L1) (dSz L1) (dAt L1) (.slice pd1 (dDa L1).length cd1) rfl
    obtain ⟨CD1, hCD1⟩ : ∃ C, C = (pcells (dWh L1) (dSz L1) (dAt L1) (.slice pd1 (dDa L1).length cd1)).toArray := ⟨_, rfl⟩
    rw [← hCD1] at hsz1 hon1 ⊢
    obtain ⟨g1, hg1⟩ : ∃ g, g = errF L1 := ⟨_, rfl⟩
    rw [← hg1]
    have HSD1 := Lib.hid (And.intro hsz1 hon1)
    have bD1 := below1 wd1 (.cells CD1 26)
    have HD1 := Lib.hid (And.intro hL1 (And.intro sd1 (And.intro (ld1.below' bD1) (And.intro hCD1 hg1))))
    have nD1 := heap_alloc_new wd1 (.cells CD1 26)
    have BD1 := bd1.trans (bD1.mono bd1.size)
    clear hsz1 hon1 hL1 sd1 ld1 hCD1 hg1 ownd1 bd1 bD1

    obtain ⟨W3, hW3⟩ : ∃ W, W = wd1.alloc (.cells CD1 26) := ⟨_, rfl⟩
    obtain ⟨B11, hB11⟩ : ∃ B, B = wd1.heap.size := ⟨_, rfl⟩
    rw [← hW3, ← hB11] at nD1
    rw [← hW3] at BD1 HD1
    have H3 := Lib.hid (And.intro (BC_blk1 BD1 HX.out.2.2.2.2.2.2.2.1) (And.intro nD1 (And.intro (BC_below HX.out.2.2.2.2.2.2.2.2 HX.out.2.2.2.2.2.2.2.2.size BD1) (HX.out.2.2.2.1.below' BD1))))
    have HE3 := Lib.hid (And.intro hW3 hB11)
    clear nD1 BD1 hW3 hB11 q2 q3 q5 q6 q7
    rw [q1]
    clear q1
    have q8 : (k : Int) < (nx : Int) := by omega
    go_upto_region 9 with (refine wpList_store_rowTo rfl 26 _ _ rfl rfl _ CD1 rfl rfl 26 zpart (heap_alloc_new wd1 _) (by rw [HSD1.out.1]; kernel_rfl) (by rw [HSD1.out.1]; kernel_rfl) HSD1.out.2 ?_; rw [World.setRow_alloc_new])
    rw [← HE3.out.1, ← HE3.out.2]
    have OZ := Lib.hid (own_zero W3 W3.heap.size (Nat.le_refl _))
    have BZ := Lib.hid (below1 W3 (.cells #[] 5))
    go_wp2_with (first
        | (at_builtin; refine wl_append_B rfl _ _ rfl W3.heap.size _ _ rfl OZ.out _ rfl gx 0 X HSX.out (H3.out.2.2.2.below' BZ.out) (by have := HX.out; have := HM5.out; have := HN.out; simp; omega) BZ.out.size ?_; intro v4 w4 own4 b4; have K4 := Lib.hid (And.intro own4 (BZ.out.trans b4)); clear own4 b4)
        | (at_builtin; refine wl_append_B rfl _ _ rfl W3.heap.size _ _ rfl (K4.out.1.below (below1 w4 (.cells #[.int .u8 a2] 5))) _ rfl w4.heap.size 0 [a2] (slv_all _ 1 (by decide)) (Lies.of_row (l := [a2]) (heap_alloc_new w4 _)) (by have := HX.out; have := HM5.out; have := HN.out; simp; omega) (Nat.le_trans K4.out.2.size (below1 w4 (.cells #[.int .u8 a2] 5)).size) ?_; intro v5 w5 own5 b5; have K5 := Lib.hid (And.intro own5 (K4.out.2.trans ((below1 w4 (.cells #[.int .u8 a2] 5)).mono K4.out.2.size |>.trans b5))); clear own5 b5))
    obtain ⟨g5, s5, l5, _⟩ := K5.out.1.slv

    refine (decode_any g5 0 _ (X ++ [a2]) (bytes_app HX.out.2.2.1 (bytes_mem fun y hy => by rw [List.mem_singleton.1 hy]; exact HA2.out)) (by have := HM5.out; have := HN.out; have := HX.out; simp; omega) s5 w5 l5).mono ?_
    rintro e wd2 ⟨vd2, rfl, ownd2, bd2⟩
    obtain ⟨L2, hL2⟩ : ∃ L, L = X ++ [a2] := ⟨_, rfl⟩
    rw [← hL2] at ownd2 ⊢
    obtain ⟨gd2, sd2, ld2, _⟩ := ownd2.slv
    obtain ⟨pd2, cd2, rfl⟩ := ownd2.form
    have hsz2 := pcells_sz (dWh_len L2) (dSz L2) (dAt L2) (.slice pd2 (dDa L2).length cd2)
    have hon2 := pcells_one (dWh L2) (dSz L2) (dAt L2) (.slice pd2 (dDa L2).length cd2) rfl
    obtain ⟨CD2, hCD2⟩ : ∃ C, C = (pcells (dWh L2) (dSz L2) (dAt L2) (.slice pd2 (dDa L2).length cd2)).toArray := ⟨_, rfl⟩
    rw [← hCD2] at hsz2 hon2 ⊢
    obtain ⟨g2, hg2⟩ : ∃ g, g = errF L2 := ⟨_, rfl⟩
    rw [← hg2]
    have HSD2 := Lib.hid (And.intro hsz2 hon2)
    have bD2 := below1 wd2 (.cells CD2 26)
    have HD2 := Lib.hid (And.intro hL2 (And.intro sd2 (And.intro (ld2.below' bD2) (And.intro hCD2 hg2))))
    have nD2 := heap_alloc_new wd2 (.cells CD2 26)
    have BD2 := bd2.trans (bD2.mono bd2.size)
    clear hsz2 hon2 hL2 sd2 ld2 hCD2 hg2 ownd2 bd2 bD2

    obtain ⟨W6, hW6⟩ : ∃ W, W = wd2.alloc (.cells CD2 26) := ⟨_, rfl⟩
    obtain ⟨B13, hB13⟩ : ∃ B, B = wd2.heap.size := ⟨_, rfl⟩
    rw [← hW6, ← hB13] at nD2
    rw [← hW6] at BD2 HD2
    have b36 : BC W3 W6 := BC_trans K5.out.2 BD2
    have H6 := Lib.hid (And.intro (BC_blk1 b36 H3.out.1) (And.intro (BC_blk1 b36 H3.out.2.1) (And.intro nD2 (And.intro (BC_below H3.out.2.2.1 H3.out.2.2.1.size b36) (And.intro (H3.out.2.2.2.below' b36) b36)))))
    have HE6 := Lib.hid (And.intro hW6 hB13)
    clear nD2 BD2 hW6 hB13 b36 s5 l5
    go_upto_region 10 with (refine wpList_store_rowTo rfl 26 _ _ rfl rfl _ CD2 rfl rfl 26 zpart (heap_alloc_new wd2 _) (by rw [HSD2.out.1]; kernel_rfl) (by rw [HSD2.out.1]; kernel_rfl) HSD2.out.2 ?_; rw [World.setRow_alloc_new])
    rw [← HE6.out.1, ← HE6.out.2]
    have OZ := Lib.hid (own_zero W6 W6.heap.size (Nat.le_refl _))
    have BZ := Lib.hid (below1 W6 (.cells #[] 5))
    go_upto_region 11 with ((at_builtin; refine wl_append_B rfl _ _ rfl W6.heap.size _ _ rfl OZ.out _ rfl gx 0 X HSX.out (H6.out.2.2.2.2.1.below' BZ.out) (by have := HX.out; have := HM5.out; have := HN.out; simp; omega) BZ.out.size ?_; intro v7 w7 own7 b7))
    have o7 : Own W6.heap.size w7 v7 X := own7
    obtain ⟨g7, s7, l7, h7⟩ := o7.slv
    obtain ⟨p7, c7, hv7⟩ := o7.form
    have hXl := HX.out.2.1
    have hp7 : p7 = some ⟨g7, 0, none⟩ := by
      have h := s7
      rw [hv7] at h
      unfold SlV at h
      obtain ⟨_, _, e1, _, _, e2, _⟩ := h
      injection e1 with e1
      rw [e1]
      exact e2 (by rw [hXl]; omega)
    subst hp7
    rw [hXl] at hv7
    subst hv7
    have b67 : BC W6 w7 := BZ.out.trans b7
    obtain ⟨y, hy⟩ : ∃ y, y = X.getD k 0 := ⟨_, rfl⟩
    obtain ⟨z, hz1, hz2, hz3, hz4⟩ := xor_byte y a2 (by rw [hy]; exact HX.out.2.2.1 k) HA2.out
    have cK : w7.cell? ⟨g7, k, none⟩ = some (.int .u8 y) := by
      have h := l7
      unfold Lies at h
      have h2 := h k (by rw [hXl]; exact hk1)
      rw [Nat.zero_add, ← hy] at h2
      exact h2
    rw [hy] at hz4
    clear hy
    have fK : w7.frozen? ⟨g7, k, none⟩ = false := by
      obtain ⟨_, ⟨e1, _⟩ | ⟨_, _, _, e1, _, hb, _⟩⟩ := o7
      · cases e1
      · injection e1 with e1
        injection e1 with e1
        injection e1 with e1
        subst e1
        exact free_row hb k
    have o8 := own_stored o7 hXl.symm k z
    have hg7 : W6.heap.size ≤ g7 := (h7 (by rw [hXl]; omega)).2.1
    have b68 : BC W6 (w7.setCell ⟨g7, k, none⟩ (.int .u8 z)) := Below.setCell (p := ⟨g7, k, none⟩) b67 hg7 _
    have hL3b : Bytes (X.set k z) := bytes_mem fun y hy => by
      rcases List.mem_or_eq_of_mem_set hy with h | h
      · obtain ⟨i, hi, rfl⟩ := List.getElem_of_mem h
        have := HX.out.2.2.1 i
        simpa [List.getD, hi] using this
      · subst h; exact ⟨hz2, hz3⟩
    obtain ⟨g8, s8, l8, _⟩ := o8.slv
    have H8 := Lib.hid (And.intro o8 (And.intro b68 (And.intro hL3b (And.intro s8 (And.intro l8 hz4)))))
    clear own7 o7 s7 l7 h7 b7 b67 o8 hg7 b68 hL3b s8 l8 hz2 hz3 hz4 hXl
    go_wp2_with fail

    refine (decode_any g8 0 _ (X.set k z) H8.out.2.2.1 (by rw [List.length_set]; have := HM5.out; have := HN.out; have := HX.out; omega) H8.out.2.2.2.1 _ H8.out.2.2.2.2.1).mono ?_
    rintro e wd3 ⟨vd3, rfl, ownd3, bd3⟩
    obtain ⟨L3, hL3⟩ : ∃ L, L = X.set k z := ⟨_, rfl⟩
    rw [← hL3] at ownd3 ⊢
    obtain ⟨gd3, sd3, ld3, _⟩ := ownd3.slv
    obtain ⟨pd3, cd3, rfl⟩ := ownd3.form
    have hsz3 := pcells_sz (dWh_len L3) (dSz L3) (dAt L3) (.slice pd3 (dDa L3).length cd3)
    have hon3 := pcells_one (dWh L3) (dSz L3) (dAt L3) (.slice pd3 (dDa L3).length cd3) rfl
    obtain ⟨CD3, hCD3⟩ : ∃ C, C = (pcells (dWh L3) (dSz L3) (dAt L3) (.slice pd3 (dDa L3).length cd3)).toArray := ⟨_, rfl⟩
    rw [← hCD3] at hsz3 hon3 ⊢
    obtain ⟨g3, hg3⟩ : ∃ g, g = errF L3 := ⟨_, rfl⟩
    rw [← hg3]
    have HSD3 := Lib.hid (And.intro hsz3 hon3)
    have bD3 := below1 wd3 (.cells CD3 26)
    have HD3 := Lib.hid (And.intro hL3 (And.intro sd3 (And.intro (ld3.below' bD3) (And.intro hCD3 hg3))))
    have nD3 := heap_alloc_new wd3 (.cells CD3 26)
    have BD3 := bd3.trans (bD3.mono bd3.size)
    clear hsz3 hon3 hL3 sd3 ld3 hCD3 hg3 ownd3 bd3 bD3

    obtain ⟨W9, hW9⟩ : ∃ W, W = wd3.alloc (.cells CD3 26) := ⟨_, rfl⟩
    obtain ⟨B16, hB16⟩ : ∃ B, B = wd3.heap.size := ⟨_, rfl⟩
    rw [← hW9, ← hB16] at nD3
    rw [← hW9] at BD3 HD3
    have b69 : BC W6 W9 := BC_trans H8.out.2.1 BD3
    have H9 := Lib.hid (And.intro (BC_blk1 b69 H6.out.1) (And.intro (BC_blk1 b69 H6.out.2.1) (And.intro (BC_blk1 b69 H6.out.2.2.1) (And.intro nD3 (BC_below H6.out.2.2.2.1 H6.out.2.2.2.1.size b69)))))
    have HB69 := Lib.hid b69
    have HE9 := Lib.hid (And.intro hW9 hB16)
    clear nD3 BD3 hW9 hB16 b69 cK fK hz1
    go_upto_region 13 with (refine wpList_store_rowTo rfl 26 _ _ rfl rfl _ CD3 rfl rfl 26 zpart (heap_alloc_new wd3 _) (by rw [HSD3.out.1]; kernel_rfl) (by rw [HSD3.out.1]; kernel_rfl) HSD3.out.2 ?_; rw [World.setRow_alloc_new])
    rw [← HE9.out.1, ← HE9.out.2]
    obtain ⟨W10, hW10⟩ : ∃ W, W = W9.alloc (.cells C0 33) := ⟨_, rfl⟩
    obtain ⟨B18, hB18⟩ : ∃ B, B = W9.heap.size := ⟨_, rfl⟩
    have n18 := heap_alloc_new W9 (.cells C0 33)
    have b10 := below1 W9 (.cells C0 33)
    rw [← hW10] at b10
    rw [← hW10, ← hB18] at n18
    have H10 := Lib.hid (And.intro (BC_blk1 b10 H9.out.2.1) (And.intro (BC_blk1 b10 H9.out.2.2.1) (And.intro (BC_blk1 b10 H9.out.2.2.2.1) (And.intro n18 (BC_below H9.out.2.2.2.2 H9.out.2.2.2.2.size b10)))))
    have HD1' := Lib.hid (BC_trans (BC_trans H6.out.2.2.2.2.2 HB69.out) b10)
    have HD2' := Lib.hid (BC_trans HB69.out b10)
    have HD3' := Lib.hid b10
    have HE10 := Lib.hid (And.intro hW10 hB18)
    clear b10 n18 hW10 hB18
    go_upto_region 14 with (first
        | ((with_reducible refine wlw_load_row (o := ⟨some 84, _, _, _, _, _⟩) ?_ 26 (.tmp 3) ?_ _ ?_ _ C0 _ _ H9.out.1 Try.underlying26 ?_ ?_ ?_); (focus rfl); (focus rfl); (focus rfl); (focus rfl); (focus (rw [HZ0.out]; kernel_rfl)))
        | (refine wpList_store_rowTo rfl 33 _ _ rfl rfl _ C0 rfl rfl 33 zpart (heap_alloc_new W9 _) (by rw [HZ0.out]; kernel_rfl) (by rw [HZ0.out]; kernel_rfl) HO0.out ?_; rw [World.setRow_alloc_new]))
    rw [← HE10.out.1, ← HE10.out.2]
    have HLP := Lib.hid (HP.out.2.2.2.1.below' H10.out.2.2.2.2)
    have hS1 : g1 = 0 → ∀ W, BC W10 W → Calls Try.prog 21 #[.agg CD1, .agg C0] W fun e w' => e = .returned (.bool false) ∧ Below W.heap.size W w' := fun h0 W hW => by
      have h := HD1.out
      have hs := rsame_any (dWh L1) wh0 (dWh_len _) HP.out.2.1 (dSz L1) (dAt L1) s0 t0 _ (.slice pu n0 cu) gd1 0 b0 o0 (dDa L1) l0 (dDa_bytes (by rw [h.1]; exact bytes_take HX.out.2.2.1 _)) HP.out.2.2.2.2.1 h.2.1 (by rw [← HN.out]; exact HU.out) W ((h.2.2.1.below' HD1'.out).below' hW) (HLP.out.below' hW)
      rw [← HP.out.1, ← h.2.2.2.1, same_ne (by rw [← h.2.2.2.2]; exact h0) (fun e => by
        have h1 := congrArg List.length e
        rw [h.1, ← HX.out.1, List.length_take, HX.out.2.1] at h1
        have := HX.out.2.2.2.2.2.1
        omega)] at hs
      exact hs
    have hS2 : g2 = 0 → ∀ W, BC W10 W → Calls Try.prog 21 #[.agg CD2, .agg C0] W fun e w' => e = .returned (.bool false) ∧ Below W.heap.size W w' := fun h0 W hW => by
      have h := HD2.out
      have hs := rsame_any (dWh L2) wh0 (dWh_len _) HP.out.2.1 (dSz L2) (dAt L2) s0 t0 _ (.slice pu n0 cu) gd2 0 b0 o0 (dDa L2) l0 (dDa_bytes (by rw [h.1]; exact bytes_app HX.out.2.2.1 (bytes_mem fun y hy => by rw [List.mem_singleton.1 hy]; exact HA2.out))) HP.out.2.2.2.2.1 h.2.1 (by rw [← HN.out]; exact HU.out) W ((h.2.2.1.below' HD2'.out).below' hW) (HLP.out.below' hW)
      rw [← HP.out.1, ← h.2.2.2.1, same_ne (by rw [← h.2.2.2.2]; exact h0) (fun e => by
        have h1 := congrArg List.length e
        rw [h.1, ← HX.out.1, List.length_append] at h1
        simp at h1)] at hs
      exact hs
    have hS3 : a2 ≠ 0 → g3 = 0 → ∀ W, BC W10 W → Calls Try.prog 21 #[.agg CD3, .agg C0] W fun e w' => e = .returned (.bool false) ∧ Below W.heap.size W w' := fun ha h0 W hW => by
      have h := HD3.out
      have hs := rsame_any (dWh L3) wh0 (dWh_len _) HP.out.2.1 (dSz L3) (dAt L3) s0 t0 _ (.slice pu n0 cu) gd3 0 b0 o0 (dDa L3) l0 (dDa_bytes (by rw [h.1]; exact H8.out.2.2.1)) HP.out.2.2.2.2.1 h.2.1 (by rw [← HN.out]; exact HU.out) W ((h.2.2.1.below' HD3'.out).below' hW) (HLP.out.below' hW)
      rw [← HP.out.1, ← h.2.2.2.1, same_ne (by rw [← h.2.2.2.2]; exact h0) (fun e => by
        have h1 := congrArg (fun x : List Int => x.getD k 0) e
        rw [h.1, ← HX.out.1] at h1
        have hk2 : k < X.length := by rw [HX.out.2.1]; exact HX.out.2.2.2.2.2.1
        simp only [List.getD, List.getElem?_set, hk2, if_true, Option.getD_some] at h1
        exact H8.out.2.2.2.2.2 ha (by simpa [List.getD] using h1))] at hs
      exact hs
    have HS1 := Lib.hid hS1
    have HS2 := Lib.hid hS2
    have HS3 := Lib.hid hS3
    clear hS1 hS2 hS3 HD1 HD2 HD3 HD1' HD2' HD3' HLP H9 HB69 HE9 HE10 HE6 HE3 H8 H6 H3 OZ BZ K4 K5 HX HSX HEN HMT HM5 HN HP HU HK HB0 H1 h5' hk1 q4 q8 la1 ua1
    go_cut [19] (fun s19 wx => s19 = .bool true ∧ BC W10 wx)
    case first =>
      by_cases e1 : g1 = 0
      · have HCC := Lib.hid (HS1.out e1 W10 (BC_refl W10))
        subst e1
        go_wp2_with (first
        | ((with_reducible refine wlw_load_row (o := ⟨some 88, _, _, _, _, _⟩) ?_ 26 (.tmp 11) ?_ _ ?_ _ CD1 _ _ H10.out.1 Try.underlying26 ?_ ?_ ?_); (focus rfl); (focus rfl); (focus rfl); (focus rfl); (focus (rw [HSD1.out.1]; kernel_rfl)))
        | ((with_reducible refine wlw_load_row (o := ⟨some 89, _, _, _, _, _⟩) ?_ 33 (.tmp 18) ?_ _ ?_ _ C0 _ _ (BC_blk1 (BC_refl W10) H10.out.2.2.2.1) Try.underlying33 ?_ ?_ ?_); (focus rfl); (focus rfl); (focus rfl); (focus rfl); (focus (rw [HZ0.out]; kernel_rfl))))
        refine HCC.out.mono ?_
        rintro e wy ⟨rfl, by1⟩
        go_wp2_with fail
        go_meet
        exact ⟨rfl, BC_trans (BC_refl W10) by1⟩
      · have e2 : (g1 == 0) = false := beq_eq_false_iff_ne.2 e1
        have e3 : (g1 != 0) = true := by rw [bne_iff_ne]; exact e1
        clear e1
        go_wp2_with fail
        go_meet
        exact ⟨rfl, (BC_refl W10)⟩
    case rest =>
      obtain ⟨rfl, hb11⟩ := hcut
      obtain ⟨wA, rfl⟩ : ∃ W, W = wc := ⟨_, rfl⟩
      have HBA := Lib.hid hb11
      clear hb11 HS1
      go_upto_region 15 with fail
      go_cut [20] (fun s20 wx => s20 = .bool true ∧ BC W10 wx)
      case first =>
        by_cases e1 : g2 = 0
        · have HCC := Lib.hid (HS2.out e1 wA HBA.out)
          subst e1
          go_wp2_with (first
          | ((with_reducible refine wlw_load_row (o := ⟨some 96, _, _, _, _, _⟩) ?_ 26 (.tmp 13) ?_ _ ?_ _ CD2 _ _ (BC_blk1 HBA.out H10.out.2.1) Try.underlying26 ?_ ?_ ?_); (focus rfl); (focus rfl); (focus rfl); (focus rfl); (focus (rw [HSD2.out.1]; kernel_rfl)))
          | ((with_reducible refine wlw_load_row (o := ⟨some 97, _, _, _, _, _⟩) ?_ 33 (.tmp 18) ?_ _ ?_ _ C0 _ _ (BC_blk1 HBA.out H10.out.2.2.2.1) Try.underlying33 ?_ ?_ ?_); (focus rfl); (focus rfl); (focus rfl); (focus rfl); (focus (rw [HZ0.out]; kernel_rfl))))
          refine HCC.out.mono ?_
          rintro e wy ⟨rfl, by1⟩
          go_wp2_with fail
          go_meet
          exact ⟨rfl, BC_trans HBA.out by1⟩
        · have e2 : (g2 == 0) = false := beq_eq_false_iff_ne.2 e1
          have e3 : (g2 != 0) = true := by rw [bne_iff_ne]; exact e1
          clear e1
          go_wp2_with fail
          go_meet
          exact ⟨rfl, HBA.out⟩
      case rest =>
        obtain ⟨rfl, hb11⟩ := hcut
        obtain ⟨wB, rfl⟩ : ∃ W, W = wc := ⟨_, rfl⟩
        have HBB := Lib.hid hb11
        clear hb11 HS2 HBA
        by_cases ez : a2 = 0
        · have ez2 : (a2 == 0) = true := beq_iff_eq.2 ez
          clear ez
          go_wp2_with fail
          go_ret
          exact ⟨rfl, BC_below H10.out.2.2.2.2 H10.out.2.2.2.2.size HBB.out⟩
        · have ez2 : (a2 == 0) = false := beq_eq_false_iff_ne.2 ez
          have HEZ := Lib.hid ez
          clear ez
          go_upto_region 16 with fail
          go_cut [21] (fun s21 wx => s21 = .bool true ∧ BC W10 wx)
          case first =>
            by_cases e1 : g3 = 0
            · have HCC := Lib.hid (HS3.out HEZ.out e1 wB HBB.out)
              subst e1
              go_wp2_with (first
              | ((with_reducible refine wlw_load_row (o := ⟨some 108, _, _, _, _, _⟩) ?_ 26 (.tmp 16) ?_ _ ?_ _ CD3 _ _ (BC_blk1 HBB.out H10.out.2.2.1) Try.underlying26 ?_ ?_ ?_); (focus rfl); (focus rfl); (focus rfl); (focus rfl); (focus (rw [HSD3.out.1]; kernel_rfl)))
              | ((with_reducible refine wlw_load_row (o := ⟨some 109, _, _, _, _, _⟩) ?_ 33 (.tmp 18) ?_ _ ?_ _ C0 _ _ (BC_blk1 HBB.out H10.out.2.2.2.1) Try.underlying33 ?_ ?_ ?_); (focus rfl); (focus rfl); (focus rfl); (focus rfl); (focus (rw [HZ0.out]; kernel_rfl))))
              refine HCC.out.mono ?_
              rintro e wy ⟨rfl, by1⟩
              go_wp2_with fail
              go_meet
              exact ⟨rfl, BC_trans HBB.out by1⟩
            · have e2 : (g3 == 0) = false := beq_eq_false_iff_ne.2 e1
              have e3 : (g3 != 0) = true := by rw [bne_iff_ne]; exact e1
              clear e1
              go_wp2_with fail
              go_meet
              exact ⟨rfl, HBB.out⟩
          case rest =>
            obtain ⟨rfl, hb11⟩ := hcut
            have HBC := Lib.hid hb11
            clear hb11 HS3 HBB
            go_wp2_with fail
            go_ret
            exact ⟨rfl, BC_below H10.out.2.2.2.2 H10.out.2.2.2.2.size HBC.out⟩
theorem own : ownKnob Try.prog.godebug = none := by kernel_rfl
theorem laidOut : laidOutB Try.prog = true := by kernel_rfl
set_option maxRecDepth 100000 in
theorem lifted (os : Os) (started : os.Started) (H : Type) (enc : TypeId × Value → H) :
    ReturnsInHanded {} Try.checked os 7 .any (Rows.partCutsSpec.pre6 enc Try.prog Try.f7 Rows.partCutsRow.domain false) (Rows.partCutsSpec.post enc Try.prog Try.f7 false true false false) := by
  refine returnsInHanded_of_change (C := Try.checked) own started (by kernel_rfl) Try.func7
    (ChangeSpec.witness6 (enc := enc) (C := Try.checked) false ⟨#[], #[.agg (pcells (List.replicate 32 0) 0 0 (.slice none 0 0)).toArray, .int .u16 0, .int .u8 0], []⟩ 8 (by kernel_rfl) (by kernel_rfl) (by kernel_rfl) (by kernel_rfl)) ?_
  intro W base args ds gs before hval0 hW hcnd _
  have hval : ∀ (j : Nat) t v, Try.f7.params[j]? = some t → args[j]? = some v → Value.okWide Try.prog W .any base t v := hval0
  have hW' := hW
  obtain ⟨p, q, hA0, hV, rfl, hfz, hnd⟩ := hW
  have hA : DataW.TrodAll enc Try.prog W 0 (fun _ => true) true Try.f7.params.toList args.toList ds p := hA0
  rw [Try.params7] at hA hval
  obtain ⟨v0, vs0, d0, ds0, p0, q0, hargs, rfl, rfl, h0, r0⟩ := trodAll_cons hA
  obtain ⟨v1, vs1, d1, ds1, p1, q1, rfl, rfl, rfl, h1, r1⟩ := trodAll_cons r0
  obtain ⟨v2, vs2, d2, ds2, p2, q2, rfl, rfl, rfl, h2, r2⟩ := trodAll_cons r1
  obtain ⟨rfl, rfl, rfl⟩ := trodAll_nil r2
  obtain rfl : args = #[v0, v1, v2] := by cases args; simp_all
  obtain ⟨rfl, rfl⟩ := trodVars_none hV
  have k0 := h0
  have lt0 : ∀ x ∈ p0, x.block < W.heap.size := by obtain ⟨m, hm⟩ := k0; exact DataW.trod_lt m _ _ _ hm
  obtain ⟨wh0, s0, t0, u0, l0, rfl, hw0, hwb0, hs0, ht0, b0, o0, hu0, hl0, hb0⟩ := open_part (hval 0 26 v0 rfl rfl) h0
  obtain ⟨a1, rfl, rfl, rfl, w1⟩ := open_int Try.underlying50 (hval 1 50 v1 rfl rfl) h1
  obtain ⟨a2, rfl, rfl, rfl, w2⟩ := open_int Try.underlying5 (hval 2 5 v2 rfl rfl) h2
  clear hA0 hval0
  refine (walk wh0 s0 t0 u0 b0 o0 l0 a1 a2 hw0 hwb0 hs0 ht0 hu0 hb0 w1 w2 W hl0).mono fun e W' ⟨he, bel⟩ => ?_
  subst he
  exact ⟨_, rfl, _, _, _, [], _, [], hW', trodAll_mk1 (shut_bool Try.underlying4 _), (trodAll_cons_mk (Below.trod laidOut (by kernel_rfl) (of_decide_eq_true (by kernel_rfl)) k0 bel lt0) (trodAll_cons_mk (shut_int Try.underlying50 w1) (trodAll_cons_mk (shut_int Try.underlying5 w2) trodAll_mk0))), rfl, bel.frame _, fun h => by cases h⟩
theorem over : Rows.partCutsRow.holds Try.pinned (OpenSpec.ofChange Rows.partCutsSpec) :=
  OpenClaim.holds_of_wide 7 Try.f7 rfl rfl rfl rfl rfl rfl rfl ⟨rfl, rfl, rfl, rfl, rfl⟩ rfl rfl rfl rfl rfl (by kernel_rfl) Try.func7 (by kernel_rfl)
    (of_decide_eq_true (by kernel_rfl)) (by unfold Func.isWrapper; first | (rw [if_pos (by decide +kernel)]; kernel_rfl) | (rw [if_neg (by decide +kernel)]; exact ⟨rfl, rfl⟩))
    (fun os started H enc _ => lifted os started H enc)
theorem proved : Rows.PartCutsSaid := over
#print axioms proved
end Go.Proofs.Ytjnimbhecfpnmaa.partCutsDone
