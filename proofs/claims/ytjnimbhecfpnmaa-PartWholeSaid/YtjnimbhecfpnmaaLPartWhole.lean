/- The statement PartWhole: bytes in parts stand one behind the other in these; each tells the whole's digest and size, and where it stands. No condition. -/
import Derived.Test.YtjnimbhecfpnmaaAwake18
import Derived.Test.YtjnimbhecfpnmaaSame18
import Derived.Test.YtjnimbhecfpnmaaOpenP
import Derived.Test.YtjnimbhecfpnmaaGuard
import Derived.Test.YtjnimbhecfpnmaaREnc18
import Derived.Deep.Cut
import Derived.OpenShut
import Derived.ShutString
import Derived.ChangeOld
namespace Go.Proofs.Ytjnimbhecfpnmaa.partWholeDone
open Go.ChangeShapes Go.WideShapes Go.ChangeAt Go.RowKit
set_option linter.unusedVariables false
set_option linter.unusedSimpArgs false
set_option maxRecDepth 100000
attribute [local irreducible] SlV Lies

attribute [local go_sem] takes comesTo
attribute [local irreducible] headG
theorem take_piece (l : List Int) (size k : Nat) : l.take (k * size) ++ pieceF l size k = l.take (k * size + size) := by
  unfold pieceF
  rw [List.take_add]
theorem take_minl (l : List Int) (m : Nat) : l.take (min l.length m) = l.take m := by
  rcases Nat.le_total l.length m with h | h
  · rw [Nat.min_eq_left h, List.take_length, List.take_of_length_le h]
  · rw [Nat.min_eq_right h]
theorem chunk_lt {n size k : Nat} (hs : 0 < size) (h : k < chunksN n size) : k * size < n := by
  unfold chunksN at h
  rw [Nat.lt_div_iff_mul_lt hs] at h
  omega
theorem chunk_all {n size : Nat} (hs : 0 < size) : n ≤ chunksN n size * size := by
  unfold chunksN
  have := Nat.lt_div_mul_add hs (a := n + size - 1)
  omega
theorem splitF_len (l : List Int) (size : Nat) : (splitF l size).length = chunksN l.length size := by simp [splitF]
theorem splitF_get (l : List Int) (size k : Nat) (h : k < chunksN l.length size) : (splitF l size).getD k [] = encF (sumF l) l.length ((k * size : Nat) : Int) (pieceF l size k) := by
  simp [splitF, List.getD, h]
set_option maxHeartbeats 4000000 in
theorem walk (v0 : Value) (b0 o0 : Nat) (l0 : List Int) (a1 : Int) (hv0 : SlV v0 b0 o0 l0.length) (hb0 : Bytes l0) (w1 : (Lit.int .u16 a1).wf = true) (w : World) (hl0 : Lies w b0 o0 l0) :
    Calls Try.prog 6 #[v0, .int .u16 a1] w fun e w' => e = .returned (.bool true) ∧ Below w.heap.size w w' := by
  have hz := zero_part
  simp [Lit.wf, IntKind.min, IntKind.max, IntKind.signed, IntKind.bits] at w1
  obtain ⟨la1, ua1⟩ := w1
  have HV := Lib.hid hv0
  obtain ⟨pv, cv, rfl, _⟩ := by unfold SlV at hv0; exact hv0
  obtain ⟨n, hn⟩ : ∃ n, n = l0.length := ⟨_, rfl⟩
  rw [← hn] at HV ⊢
  have HP := Lib.hid (And.intro hn (And.intro hb0 hl0))
  clear hn hb0 hl0 hv0
  go_enter Try.func6, Try.ntmps6
  go_wp2_with fail
  refine (awake18_any _).mono ?_
  rintro e wa ⟨rfl, ba⟩
  have HA := Lib.hid ba
  clear ba
  rcases Nat.eq_zero_or_pos n with h0 | h0
  · have h1 : ((n : Int) == 0) = true := beq_iff_eq.2 (by omega)
    subst h0
    go_wp2_with fail
    go_ret
    exact ⟨rfl, HA.out⟩
  have h0' : ((n : Int) == 0) = false := beq_eq_false_iff_ne.2 (by omega)
  have h0'' : ¬ n = 0 := by omega
  rcases Nat.lt_or_ge 12000 n with h5 | h5
  · have h5' : (12000 : Int) < (n : Int) := by omega
    go_wp2_with fail
    go_ret
    exact ⟨rfl, HA.out⟩
  have h5' : ¬ (12000 : Int) < (n : Int) := by omega
  obtain ⟨M, hM⟩ : ∃ M : Nat, (M : Int) = 4096 + a1 % 9000 := ⟨(4096 + a1 % 9000).toNat, by omega⟩
  have hM1 : 4096 ≤ M ∧ M ≤ 13096 := by omega
  have r1 : 4096 + a1 % 9000 = (M : Int) := hM.symm
  have r2 : IntKind.i64.wrap (4096 + a1 % 9000) = (M : Int) := by rw [IntKind.wrap_i64]; omega
  have r3 : IntKind.i64.wrap a1 = a1 := by rw [IntKind.wrap_i64]; omega
  obtain ⟨size, hsz⟩ : ∃ s, s = szP (M : Int) n := ⟨_, rfl⟩
  have hs1 : 0 < size ∧ (size : Int) = min ((M : Int) - 80) (n : Int) := by
    have : (size : Int) = min ((M : Int) - 80) (n : Int) := by rw [hsz]; unfold szP inF; omega
    omega
  have hsp := split_main b0 o0 (.slice pv n cv) l0 (M : Int) (by omega) (by rw [← HP.out.1]; omega) (by rw [← HP.out.1]; omega) HP.out.2.1 (by rw [← HP.out.1]; exact HV.out) wa (HP.out.2.2.below' HA.out)
  rw [← HP.out.1, ← hsz] at hsp
  obtain ⟨N, hN⟩ : ∃ N, N = chunksN n size := ⟨_, rfl⟩
  have hN0 : 0 < N := by
    have h1 := chunk_all (n := n) hs1.1
    rw [← hN] at h1
    rcases Nat.eq_zero_or_pos N with h | h
    · rw [h] at h1; omega
    · exact h
  have hNn : N ≤ n + size := by rw [hN]; unfold chunksN; exact Nat.le_trans (Nat.div_le_self _ _) (by omega)
  have HS := Lib.hid hsp
  have HM := Lib.hid (And.intro hM1 (And.intro hs1 (And.intro hN (And.intro h0 (And.intro h5 (And.intro hN0 hNn))))))
  clear hsp hM hM1 hsz hs1 hN h0 h5 hNn
  go_wp2_with fail
  refine HS.out.mono ?_
  rintro e w2 ⟨v2, rfl, own2, b2⟩
  obtain ⟨a2, c2, rfl, _, hc0⟩ := own2.form
  have hlen : (splitF l0 size).length = N := by rw [splitF_len, ← HP.out.1, HM.out.2.2.1]
  obtain ⟨g2, _, ha2, hg2, _⟩ := hc0 0 (by rw [hlen]; exact hN0)
  subst ha2
  rw [hlen]
  have H2 := Lib.hid (And.intro own2 (And.intro (BC_below HA.out HA.out.size b2) hlen))
  clear own2 b2 hc0 hlen hg2 r1 r2 r3 la1 ua1 h0' h0'' h5'
  go_wp2_with fail
  go_loopw [9, 10] (fun v9 i wr => ∃ (k A : Nat) (p9 : Option Addr) (c9 : Nat), k ≤ N ∧ A = min n (k * size) ∧ v9 = .slice p9 A c9 ∧ i = .int .i64 (k : Int) ∧ Own w2.heap.size wr (.slice p9 A c9) (l0.take A) ∧ BC w2 wr) (fun _ i _ => N - (intOf i).toNat)
  case atStart => exact ⟨0, 0, none, 0, Nat.zero_le _, by simp, rfl, rfl, by rw [List.take_zero]; exact Own.nil _ _, BC_refl _⟩
  case round =>
    obtain ⟨k, A, p9, c9, hk, hA, rfl, rfl, hown, hbw⟩ := hrel
    have HR := Lib.hid (And.intro hA (And.intro hown hbw))
    clear hA hown hbw
    by_cases hlt : k < N
    · have hkn : k * size < n := chunk_lt HM.out.2.1.1 (by rw [← HM.out.2.2.1]; exact hlt)
      have hAk : A = k * size := by rw [HR.out.1]; omega
      obtain ⟨ar, cr, e2, _, hcr⟩ := (H2.out.1.below HR.out.2.2).form
      obtain ⟨g2', x, e3, _, qx, ox⟩ := hcr k (by rw [H2.out.2.2]; exact hlt)
      rw [e3] at e2
      injection e2 with e2 e4 e5
      injection e2 with e2
      injection e2 with e2
      subst e2
      rw [splitF_get l0 size k (by rw [← HP.out.1, ← HM.out.2.2.1]; exact hlt), ← HP.out.1, ← hAk] at ox
      obtain ⟨ee, hee⟩ : ∃ e, e = (pieceF l0 size k).length := ⟨_, rfl⟩
      have hee2 : ee = min size (n - k * size) := by rw [hee, pieceF_len, ← HP.out.1]
      have hmy : mayB (n : Int) (A : Int) (pieceF l0 size k).length = true := by
        have h := may_piece (l := l0) (k := k) HM.out.2.1.1 (by have := HM.out; have := HP.out.1; omega) (by rw [← HP.out.1, ← HM.out.2.2.1]; exact hlt)
        rw [← HP.out.1, ← hAk] at h
        exact h
      obtain ⟨d1, d2, d3, d4⟩ := dec_enc (sumF_len l0) hmy
      have he := errF_enc (sumF_len l0) hmy
      have hxl := encF_len (sumF_len l0) (n : Int) (A : Int) (pieceF l0 size k)
      rw [← hee] at hxl
      have hxb := encF_bytes (sumF_bytes l0) (bytes_take (bytes_drop HP.out.2.1 (k * size)) size) (n : Int) (A : Int)
      obtain ⟨gx, sx, lx, _⟩ := ox.slv
      obtain ⟨px, cx, rfl⟩ := ox.form
      have hdc := decode_any gx 0 _ _ hxb (by rw [show encF (sumF l0) (n : Int) (A : Int) (List.take size (List.drop (k * size) l0)) = encF (sumF l0) (n : Int) (A : Int) (pieceF l0 size k) from rfl, hxl]; have := HM.out; omega) sx wr lx
      rw [show encF (sumF l0) (n : Int) (A : Int) (List.take size (List.drop (k * size) l0)) = encF (sumF l0) (n : Int) (A : Int) (pieceF l0 size k) from rfl, he, d1, d2, d3, d4] at hdc
      rw [hxl] at hdc qx
      obtain ⟨nx, hnx⟩ : ∃ nx, nx = 80 + ee := ⟨_, rfl⟩
      rw [← hnx] at hdc qx
      have HDC := Lib.hid hdc
      have HQ := Lib.hid (And.intro hkn (And.intro hAk (And.intro hee (And.intro hee2 hnx))))
      have i0 : (0 : Int) ≤ (k : Int) := by omega
      have i1 : (k : Int) < (N : Int) := by omega
      have i2 : k < N := hlt
      obtain ⟨K1, hK1⟩ : ∃ m, m = k + 1 := ⟨_, rfl⟩
      have s1 : IntKind.i64.wrap ((k : Int) + 1) = (K1 : Int) := by rw [IntKind.wrap_i64]; have := HM.out; omega
      have HK1 := Lib.hid hK1
      clear hK1
      clear hdc hkn hAk hee hee2 hnx hmy d1 d2 d3 d4 he hxl hxb sx lx ox hcr e4 e5 e3
      go_wp2_with fail
      refine HDC.out.mono ?_
      rintro e wd ⟨vd, rfl, ownd, bd⟩
      obtain ⟨gd, sd, ld, _⟩ := ownd.slv
      obtain ⟨pd, cd, rfl⟩ := ownd.form
      obtain ⟨D, hD⟩ : ∃ D, D = sumF l0 := ⟨_, rfl⟩
      have hD32 : D.length = 32 := by rw [hD]; exact sumF_len l0
      rw [← hD, ← HQ.out.2.2.1]
      have hsz2 := pcells_sz hD32 (n : Int) (A : Int) (.slice pd ee cd)
      have hon2 := pcells_one D (n : Int) (A : Int) (.slice pd ee cd) rfl
      have k32 := pcells_size hD32 (n : Int) (A : Int) (.slice pd ee cd)
      have k33 := pcells_at hD32 (n : Int) (A : Int) (.slice pd ee cd)
      have k34 := pcells_data hD32 (n : Int) (A : Int) (.slice pd ee cd)
      have hmidW : ∀ (W : World) (g : Nat), W.heap[g]? = some (.cells (pcells D (n : Int) (A : Int) (.slice pd ee cd)).toArray 26 (0, 0)) → W.rangeAt g 0 (row .u8 D).toList := fun W g h => lies_range (lies_whole h)
      generalize (pcells D (n : Int) (A : Int) (.slice pd ee cd)).toArray = CD at *
      obtain ⟨W3, hW3⟩ : ∃ W, W = wd.alloc (.cells CD 26) := ⟨_, rfl⟩
      obtain ⟨B11, hB11⟩ : ∃ B, B = wd.heap.size := ⟨_, rfl⟩
      have n11 := heap_alloc_new wd (.cells CD 26)
      have b3 := below1 wd (.cells CD 26)
      rw [← hW3, ← hB11] at n11
      rw [← hW3] at b3
      have bw3 : BC wr W3 := BC_trans bd b3
      have HSD := Lib.hid (And.intro hsz2 hon2)
      have HK := Lib.hid (And.intro (k34) (And.intro n11 (And.intro bw3 (And.intro sd (And.intro (ld.below' b3) (And.intro hW3 hB11))))))
      have hRsz : (row .u8 D).size = 32 := by rw [row_size, hD32]
      have HRS := Lib.hid hRsz
      have hne : ∀ w, (binOp .neq 23 (.agg (row .u8 D)) (.agg (row .u8 D))).run Try.prog w = .ok (.bool false) w := fun w => by
        have h := run_neq_row w 23 5 32 .u8 Try.underlying23 Try.underlying5 (by kernel_rfl) D D hD32 hD32
        rw [decide_eq_true (rfl : D = D)] at h
        exact h
      have HSUM : Hid (∀ x : HW (BC W3), Calls Try.prog 27 #[.slice pv n cv] x.w fun e w' => e = .returned (.agg (row .u8 D)) ∧ Below x.w.heap.size x.w w') := Lib.hid (fun x => by
        rw [hD]
        exact r3sum_any l0 HP.out.2.1 (by have := HM.out; have := HP.out.1; omega) b0 o0 _ (by rw [← HP.out.1]; exact HV.out) x.w (HP.out.2.2.below' (BC_below (BC_below H2.out.2.1 H2.out.2.1.size HR.out.2.2) (BC_below H2.out.2.1 H2.out.2.1.size HR.out.2.2).size (BC_trans bw3 x.h))))
      have hmid : ∀ x : HW (BC W3), x.w.rangeAt B11 0 (row .u8 D).toList := fun x => hmidW x.w B11 (BC_blk n11 x)
      have HMID := Lib.hid hmid
      have hx1 : ∀ x : HW (BC W3), x.w.cell? ⟨g2, k, none⟩ = some (.slice px nx cx) := BC_cell (later bw3 qx)
      have hx2 : ∀ x : HW (BC W3), x.w.cell? ⟨B11, 32, none⟩ = some (.int .i64 (n : Int)) := BC_cell (cell_row n11 32 k32)
      have hx3 : ∀ x : HW (BC W3), x.w.cell? ⟨B11, 33, none⟩ = some (.int .i64 (A : Int)) := BC_cell (cell_row n11 33 k33)
      clear hsz2 hon2 k32 k33 k34 hmidW n11 b3 bw3 hW3 hB11 sd ld ownd bd qx hRsz hD hD32 hmid
      generalize row .u8 D = RD at *
      go_upto_region 13 with (refine wpList_store_rowTo rfl 26 _ _ rfl rfl _ CD rfl rfl 26 zpart (heap_alloc_new wd _) (by rw [HSD.out.1]; kernel_rfl) (by rw [HSD.out.1]; kernel_rfl) HSD.out.2 ?_; rw [World.setRow_alloc_new])
      rw [← HK.out.2.2.2.2.2.1, ← HK.out.2.2.2.2.2.2]
      have hnM : ¬ (M : Int) < (nx : Int) := by have := HM.out; have := HQ.out; omega
      have hnMb : decide (M < nx) = false := decide_eq_false (by omega)
      have hcases : ((K1 : Int) < (N : Int) ∧ ((nx : Int) != (M : Int)) = false ∧ ((nx : Int) == (M : Int)) = true ∧ decide ((K1 : Int) < (N : Int)) = true ∧ decide (K1 < N) = true ∧ (nx != M) = false ∧ (nx == M) = true) ∨ (¬ (K1 : Int) < (N : Int) ∧ decide ((K1 : Int) < (N : Int)) = false ∧ decide (K1 < N) = false) := by
        by_cases h : (K1 : Int) < (N : Int)
        · have hk1 := HK1.out
          have hk2 : (k + 1) * size < n := chunk_lt HM.out.2.1.1 (by rw [← HM.out.2.2.1]; omega)
          rw [Nat.add_mul, Nat.one_mul] at hk2
          have e : (nx : Int) = (M : Int) := by have := HM.out; have := HQ.out; omega
          have e' : nx = M := by omega
          exact .inl ⟨h, by rw [e]; simp, by rw [e]; simp, decide_eq_true h, decide_eq_true (by omega), by rw [e']; simp, by rw [e']; simp⟩
        · exact .inr ⟨h, decide_eq_false h, decide_eq_false (by omega)⟩
      have hS := BC_all (w := W3)
      haveI := BC_inst W3
      rcases hcases with ⟨c1, c2', c3, c4, c5, c6, c7⟩ | ⟨c1, c4, c5⟩
      all_goals
        refine wp_region_head (BC W3) 48 (by kernel_rfl) (by kernel_rfl) (BC_start _) ?_
        simp only [List.take_succ_cons, List.take_zero, List.drop_succ_cons, List.drop_zero]
        repeat (first
          | ((with_reducible refine headG_load_mid (o := ⟨some 76, _, _, _, _, _⟩) 23 (.tmp 75) ?_ ?_ _ _ ?_ RD _ HMID.out Try.underlying23 ?_ ?_ ?_); (focus rfl); (focus rfl); (focus rfl); (focus rfl); (focus (rw [HRS.out]; kernel_rfl)))
          | (refine headG_step (fun K hK => ?_)
             go_simp
             first
               | (refine hK _ ?_; clear hK K)
               | (apply Exists.intro
                  refine ⟨fun x => ?_, hK _ ?_⟩
                  (go_at_call 27; exact BC_call x (HSUM.out x))
                  clear hK K)))
        refine headG_nil ?_
        intro w4 b4
        clear hS hx1 hx2 hx3 hne
        have h34 : w4.cell? ⟨B11, 34, none⟩ = some (.slice pd ee cd) := cell_row (BC_blk1 b4 HK.out.2.1) 34 HK.out.1
        have HB4 := Lib.hid b4
        clear b4
        go_wp2_with (at_builtin; refine wl_append_B rfl _ _ rfl w2.heap.size _ _ rfl (HR.out.2.1.below (BC_trans HK.out.2.2.1 HB4.out)) _ rfl gd 0 (pieceF l0 size k) (by have h := HK.out.2.2.2.1; rw [← HQ.out.2.2.1] at h ⊢; exact h) (HK.out.2.2.2.2.1.below' HB4.out) (by rw [List.length_take, ← HQ.out.2.2.1]; have := HM.out; have := HP.out; have := HQ.out; omega) (Nat.le_trans HR.out.2.2.size (BC_trans HK.out.2.2.1 HB4.out).size) ?_; intro v5 w5 own5 b5)
        obtain ⟨p5, c5, rfl⟩ := own5.form
        have hlen5 : (List.take A l0 ++ pieceF l0 size k).length = A + ee := by rw [List.length_append, List.length_take, ← HQ.out.2.2.1]; have := HP.out; have := HQ.out; omega
        rw [hlen5]
        have hA5 : A + ee = min n ((k + 1) * size) := by rw [Nat.add_mul, Nat.one_mul]; have := HQ.out; omega
        have own6 : Own w2.heap.size w5 (.slice p5 (A + ee) c5) (l0.take (A + ee)) := by
          have e0 : List.take A l0 ++ pieceF l0 size k = l0.take (k * size + size) := by rw [HQ.out.2.1, take_piece]
          have e : List.take A l0 ++ pieceF l0 size k = l0.take (A + ee) := by
            rw [e0, hA5, HP.out.1, take_minl, Nat.add_mul, Nat.one_mul]
          rw [← e]
          rw [hlen5] at own5
          exact own5
        have b6 : BC w2 w5 := (BC_trans HR.out.2.2 (BC_trans HK.out.2.2.1 HB4.out)).trans b5
        have HO := Lib.hid (And.intro own6 (And.intro b6 hA5))
        clear own5 own6 b5 b6 hA5 h34 hlen5
        go_wp2_with fail
        go_roundw
        case rel => exact ⟨K1, A + ee, p5, c5, by have := HK1.out; omega, by rw [HK1.out]; exact HO.out.2.2, rfl, rfl, HO.out.1, HO.out.2.1⟩
        case measure => have := HK1.out; simp [intOf]; omega
    · have hkN : k = N := by omega
      have hAn : A = n := by
        rw [HR.out.1, hkN]
        have := chunk_all (n := n) HM.out.2.1.1
        rw [← HM.out.2.2.1] at this
        omega
      have hge : ¬ (k : Int) < (N : Int) := by omega
      obtain ⟨g9, s9, l9, _⟩ := HR.out.2.1.slv
      have hb9 := BC_below H2.out.2.1 H2.out.2.1.size HR.out.2.2
      have ht : l0.take A = l0 := by rw [hAn, HP.out.1]; exact List.take_length
      rw [ht] at s9 l9
      have cA := conv_slv g9 0 _ l0 (by rw [← HP.out.1, ← hAn]; have h := s9; rw [← HP.out.1, ← hAn] at h; exact h) wr l9
      have cB := conv_slv b0 o0 _ l0 (by rw [← HP.out.1]; exact HV.out) wr (HP.out.2.2.below' hb9)
      generalize strOfNums l0 = S at *
      have HB9 := Lib.hid hb9
      clear s9 l9 hb9 ht hkN hAn hlt
      go_wp2_with fail
      go_ret
      exact ⟨rfl, HB9.out⟩
theorem own : ownKnob Try.prog.godebug = none := by kernel_rfl
theorem laidOut : laidOutB Try.prog = true := by kernel_rfl
set_option maxRecDepth 100000 in
theorem lifted (os : Os) (started : os.Started) (H : Type) (enc : TypeId × Value → H) :
    ReturnsInHanded {} Try.checked os 6 .any (Rows.partWholeSpec.pre6 enc Try.prog Try.f6 Rows.partWholeRow.domain false) (Rows.partWholeSpec.post enc Try.prog Try.f6 false true false false) := by
  refine returnsInHanded_of_change (C := Try.checked) own started (by kernel_rfl) Try.func6
    (ChangeSpec.witness6 (enc := enc) (C := Try.checked) false ⟨#[], #[.slice none 0 0, .int .u16 0], []⟩ 8 (by kernel_rfl) (by kernel_rfl) (by kernel_rfl) (by kernel_rfl)) ?_
  intro W base args ds gs before hval0 hW hcnd _
  have hval : ∀ (j : Nat) t v, Try.f6.params[j]? = some t → args[j]? = some v → Value.okWide Try.prog W .any base t v := hval0
  have hW' := hW
  obtain ⟨p, q, hA0, hV, rfl, hfz, hnd⟩ := hW
  have hA : DataW.TrodAll enc Try.prog W 0 (fun _ => true) true Try.f6.params.toList args.toList ds p := hA0
  rw [Try.params6] at hA hval
  obtain ⟨v0, vs0, d0, ds0, p0, q0, hargs, rfl, rfl, h0, r0⟩ := trodAll_cons hA
  obtain ⟨v1, vs1, d1, ds1, p1, q1, rfl, rfl, rfl, h1, r1⟩ := trodAll_cons r0
  obtain ⟨rfl, rfl, rfl⟩ := trodAll_nil r1
  obtain rfl : args = #[v0, v1] := by cases args; simp_all
  obtain ⟨rfl, rfl⟩ := trodVars_none hV
  obtain ⟨a0, len0, cap0, rfl⟩ := okWide_slice Try.underlying24 (hval 0 24 v0 rfl rfl)
  have k0 := h0
  have lt0 : ∀ x ∈ p0, x.block < W.heap.size := by obtain ⟨m, hm⟩ := k0; exact DataW.trod_lt m _ _ _ hm
  obtain ⟨z0, w0⟩ : ∃ zs, IsRow .u8 W a0 len0 cap0 zs := by
    obtain ⟨fuel, hf⟩ := h0
    rcases open_ints Try.underlying24 Try.underlying5 (by kernel_rfl) hf with ⟨hcs, _⟩ | ⟨x, l, c, zs, hcs, _, hl, hm, hz, _, hcell, hwz⟩
    · simp [Value.cells] at hcs
      obtain ⟨rfl, rfl, rfl⟩ := hcs
      exact ⟨[], .inl ⟨rfl, rfl, rfl, rfl⟩⟩
    · simp [Value.cells] at hcs
      obtain ⟨rfl, rfl, rfl⟩ := hcs
      exact ⟨zs, .inr ⟨_, rfl, hl, hm, by simpa using hz, hcell, hwz⟩⟩
  obtain ⟨b0, o0, l0, hv0, hl0, hb0⟩ := isb_of_row w0
  obtain ⟨a1, rfl, rfl, rfl, w1⟩ := open_int Try.underlying50 (hval 1 50 v1 rfl rfl) h1
  clear hA0 hval0
  refine (walk (.slice a0 len0 cap0) b0 o0 l0 a1 hv0 hb0 w1 W hl0).mono fun e W' ⟨he, bel⟩ => ?_
  subst he
  exact ⟨_, rfl, _, _, _, [], _, [], hW', trodAll_mk1 (shut_bool Try.underlying4 _), (trodAll_cons_mk (Below.trod laidOut (by kernel_rfl) (of_decide_eq_true (by kernel_rfl)) k0 bel lt0) (trodAll_cons_mk (shut_int Try.underlying50 w1) trodAll_mk0)), rfl, bel.frame _, fun h => by cases h⟩
theorem over : Rows.partWholeRow.holds Try.pinned (OpenSpec.ofChange Rows.partWholeSpec) :=
  OpenClaim.holds_of_wide 6 Try.f6 rfl rfl rfl rfl rfl rfl rfl ⟨rfl, rfl, rfl, rfl, rfl⟩ rfl rfl rfl rfl rfl (by kernel_rfl) Try.func6 (by kernel_rfl)
    (of_decide_eq_true (by kernel_rfl)) (by unfold Func.isWrapper; first | (rw [if_pos (by decide +kernel)]; kernel_rfl) | (rw [if_neg (by decide +kernel)]; exact ⟨rfl, rfl⟩))
    (fun os started H enc _ => lifted os started H enc)
theorem proved : Rows.PartWholeSaid := over
#print axioms proved
end Go.Proofs.Ytjnimbhecfpnmaa.partWholeDone
