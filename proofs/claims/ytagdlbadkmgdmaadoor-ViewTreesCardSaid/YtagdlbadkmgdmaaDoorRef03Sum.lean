/- The walk of bindleref03.Sum. -/
import Derived.Test.YtagdlbadkmgdmaaDoorRef03
import Derived.Test.YtagdlbadkmgdmaaDoorTold
namespace Go.Proofs.YtagdlbadkmgdmaaDoor
set_option maxRecDepth 100000
open Go.ChangeShapes Go.WideShapes Go.ChangeAt Go.RowKit

theorem own_zero (w : World) (base : Nat) (hb : base ≤ w.heap.size) : Own base (w.alloc (.cells #[] 5)) (.slice (some ⟨w.heap.size, 0, none⟩) 0 0) [] :=
  Own.of_row (l := []) (cap := 0) hb (heap_alloc_new w _) (Nat.zero_le _) rfl (Nat.le_refl _) rfl
theorem own_zero1 (w : World) (A : Obj) (base : Nat) (hb : base ≤ w.heap.size + 1) : Own base ((w.alloc A).alloc (.cells #[] 5)) (.slice (some ⟨w.heap.size + 1, 0, none⟩) 0 0) [] := by
  have h := own_zero (w.alloc A) base (by rw [size_new]; exact hb)
  rwa [size_new] at h
theorem Own.cells {base : Nat} {w : World} {v : Value} {l : List Int} (h : Own base w v l) (hl : 0 < l.length) : ∃ g cap cur, v = .slice (some ⟨g, 0, none⟩) l.length cap ∧ base ≤ g ∧ w.heap[g]? = some (.cells cur 5 (0, 0)) ∧
    l.length ≤ cap ∧ cap ≤ maxLen ∧ ∀ j, j < l.length → cur[j]? = some (.int .u8 (l.getD j 0)) := by
  obtain ⟨h1, h2 | ⟨g, cap, cur, rfl, hb, hg, hn, hc, hs, ht⟩⟩ := h
  · omega
  · refine ⟨g, cap, cur, rfl, hb, hg, hn, hc, fun j hj => ?_⟩
    have h3 : (cur.toList.take (l.length * 1))[j]? = (l.map (Value.int .u8))[j]? := by rw [ht]
    rw [List.getElem?_take_of_lt (by omega)] at h3
    rw [← Array.getElem?_toList, h3, List.getElem?_map, List.getElem?_eq_getElem hj]
    simp [List.getD, hj]
theorem zero_w8 (w : World) : (zeroValue 95).run Tryd.prog w = .ok (.agg z8) w := by kernel_rfl
theorem zero_b64 (w : World) : (zeroValue 96).run Tryd.prog w = .ok (.agg zeros8) w := by kernel_rfl
theorem first8_row : first8.row = f8 := by kernel_rfl
theorem grown_blk {w w' : World} {row : Option Nat} (h : w.grownBy w' row) {k : Nat} {o : Obj} (hk : w.heap[k]? = some o) (hn : some k ≠ row) : w'.heap[k]? = some o := (h.block k (blk_lt hk) hn).trans hk
theorem step256u (V t X : Nat) (hX : X = V / 256 ^ t) (hV : V < 4294967296) : (X : Int) / 256 % 4294967296 = ((V / 256 ^ (t + 1) : Nat) : Int) := by
  have h1 : X ≤ V := by rw [hX]; exact Nat.div_le_self _ _
  have h2 : V / 256 ^ (t + 1) = X / 256 := by rw [Nat.pow_succ, ← Nat.div_div_eq_div_mul, hX]
  rw [h2]
  omega
theorem byte256 (y : BitVec 32) (V t f X : Nat) (hV : V = y.toNat) (hX : X = V / 256 ^ t) (hf : f + t = 3) : (X : Int) % 256 = byteW y f := by
  have e : 2 ^ (8 * (3 - f)) = 256 ^ t := by rw [show 3 - f = t by omega, Nat.pow_mul]
  unfold byteW
  rw [e, ← hV, ← hX]
  omega
theorem chunk_get (A : List Int) (q i : Nat) (hi : i < 64) : ((A.drop (64 * q)).take 64).getD i 0 = A.getD (64 * q + i) 0 := by
  simp only [List.getD_eq_getElem?_getD, List.getElem?_take_of_lt hi, List.getElem?_drop]
theorem chunk_len (A : List Int) (q : Nat) (h : 64 * q + 64 ≤ A.length) : ((A.drop (64 * q)).take 64).length = 64 := by
  rw [List.length_take, List.length_drop]; omega
attribute [local go_sem] takes comesTo
set_option maxHeartbeats 2000000 in
theorem r3sum_any (l : List Int) (hb : Bytes l) (hn : l.length ≤ 1000000) (b o : Nat) (v : Value) (hv : SlV v b o l.length) (w : World) (hl : Lies w b o l) :
    Calls Tryd.prog 24 #[v] w fun e w' => e = .returned (.agg (row .u8 (sumF l))) ∧ Below w.heap.size w w' := by
  have hz1 := zero_dig
  have hz2 := zero_w8
  have hz3 := zero_b64
  have HV := Lib.hid hv
  obtain ⟨a, cap, rfl, _⟩ := hv
  have HL := Lib.hid (And.intro hb (And.intro hn hl))
  clear hb hn hl
  generalize hN : l.length = n at *
  have HN := Lib.hid hN
  clear hN
  generalize hsl : sumF l = sl
  have HSL := Lib.hid hsl
  clear hsl
  go_enter Tryd.func24, Tryd.ntmps24
  go_wp2_with ((at_builtin; refine wl_append_b rfl _ _ rfl (w.heap.size + 1) _ _ rfl (own_zero1 _ _ _ (Nat.le_refl _)) _ rfl b o l (by rw [HN.out]; exact HV.out) ((HL.out.2.2.below (below1 w _)).below (below1 _ _)) (by rw [HN.out]; have := HL.out.2.1; simp; omega) (by rw [size_new, size_new]; omega) ?_; intro v1 w1 hown1 hgrow1 hat1))
  rw [List.nil_append] at hown1
  have HOZ := Lib.hid (own_zero1 w (.cells zb32 36) (w.heap.size + 1) (Nat.le_refl _))
  have H1 := Lib.hid (And.intro hown1 (And.intro (grown_blk hgrow1 (blk2 w (.cells zb32 36) (.cells #[] 5)).1 (fun h => by have := own_block HOZ.out _ h.symm; omega)) ((below2 w (.cells zb32 36) (.cells #[] 5)).grown hgrow1 (by rw [size_new, size_new]; omega) (fun k hk => by have := own_block HOZ.out k hk; omega))))
  clear hown1 hgrow1 hat1 HOZ
  refine (r3pad_in n (by have := HL.out.2.1; omega) _).mono ?_
  rintro e w2 ⟨v2, rfl, hown2, b2⟩
  obtain ⟨gp, hs2, hl2, _⟩ := hown2.slv
  have H2 := Lib.hid (And.intro (H1.out.1.below b2) (And.intro (BC_blk1 b2 H1.out.2.1) (And.intro (BC_below H1.out.2.2 H1.out.2.2.size b2) (And.intro hs2 hl2))))
  clear hown2 hs2 hl2 b2 H1
  obtain ⟨A, hA⟩ : ∃ A, A = l ++ padF n := ⟨_, rfl⟩
  have hAlen : A.length = n + (padF n).length := by rw [hA, List.length_append, HN.out]
  have hAX : sl = digF (hashTo A (A.length / 64)) := by rw [hA, ← HSL.out]; unfold sumF padded; rw [HN.out]
  have hAb : Bytes A := by rw [hA]; exact bytes_app HL.out.1 (padF_bytes n)
  have HA := Lib.hid (And.intro hA (And.intro hAX (And.intro hAb (And.intro (show A.length % 64 = 0 by rw [hAlen]; exact padF_whole n) (And.intro (show 0 < A.length by rw [hAlen]; have := padF_le n; omega) (show A.length ≤ 1000100 by rw [hAlen]; have := padF_le n; have := HL.out.2.1; omega))))))
  clear hA hAlen hAX hAb
  go_wp2_with (first
    | (at_builtin; refine wl_append_b rfl _ _ rfl (w.heap.size + 1) _ _ rfl H2.out.1 _ rfl gp 0 (padF n) H2.out.2.2.2.1 H2.out.2.2.2.2 (by rw [HN.out]; have := HL.out.2.1; have := padF_le n; omega) (by have := blk_lt H2.out.2.1; omega) ?_
       intro v3 w3 hown3 hgrow3 hat3
       rw [← HA.out.1] at hown3
       obtain ⟨ga, capA, curA, rfl, hga, hblk, hle, hmx, hcA⟩ := hown3.cells HA.out.2.2.2.2.1
       have H3 := Lib.hid (And.intro (grown_blk hgrow3 H2.out.2.1 (fun h => by have := own_block H2.out.1 _ h.symm; omega)) (And.intro hblk (And.intro (H2.out.2.2.1.grown hgrow3 (by have := blk_lt H2.out.2.1; omega) (fun k hk => by have := own_block H2.out.1 k hk; omega)) (And.intro hga hcA))))
       clear hown3 hgrow3 hat3 hga hblk hle hmx hcA)
    | (refine wpList_buildTo rfl 95 _ rfl (some 20) rfl f8 (by kernel_rfl) ?_)
    | (refine wpList_store_rowTo (o := ⟨none, .store 95 _ _, _, _, _, _⟩) rfl 95 _ _ rfl rfl _ f8 rfl rfl 95 z8 (heap_alloc_new _ _) (by kernel_rfl) (by kernel_rfl) (by kernel_rfl) ?_; rw [World.setRow_alloc_new]))
  have H4 := Lib.hid (And.intro (blk_old H3.out.1 (.cells f8 95)) (And.intro (blk_old H3.out.2.1 (.cells f8 95)) (And.intro (heap_alloc_new w3 (.cells f8 95)) (H3.out.2.2.1.alloc H3.out.2.2.1.size (.cells f8 95)))))
  have HG := Lib.hid (And.intro H3.out.2.2.2.1 (And.intro (blk_lt H3.out.2.1) H3.out.2.2.2.2))
  clear H3 H2
  generalize w3.alloc (.cells f8 95) = w4 at *
  generalize w3.heap.size = gh at *
  go_loopw [5] (fun n wr => ∃ q : Nat, 64 * q ≤ A.length ∧ n = .int .i64 ((64 * q : Nat) : Int) ∧ wr.heap[w.heap.size]? = some (.cells zb32 36 (0, 0)) ∧ wr.heap[ga]? = some (.cells curA 5 (0, 0)) ∧
      wr.heap[gh]? = some (.cells (hashTo A q).row 95 (0, 0)) ∧ Below w.heap.size w wr) (fun n _ => A.length - (intOf n).toNat)
  case atStart => exact ⟨0, by omega, rfl, H4.out.1, H4.out.2.1, by rw [show hashTo A 0 = first8 from rfl, first8_row]; exact H4.out.2.2.1, H4.out.2.2.2⟩
  case round =>
    clear H4
    obtain ⟨q, hq, rfl, h1, h2, h3, hbe⟩ := hrel
    have HH := Lib.hid (And.intro h1 (And.intro h2 (And.intro h3 hbe)))
    clear h1 h2 h3 hbe
    by_cases hlt : 64 * q < A.length
    · have hq2 : 64 * q + 64 ≤ A.length := by have := HA.out.2.2.2.1; omega
      obtain ⟨Q, hQ⟩ : ∃ Q, Q = 64 * q := ⟨_, rfl⟩
      obtain ⟨LA, hLA⟩ : ∃ LA, LA = A.length := ⟨_, rfl⟩
      have hQl : (Q : Int) < (LA : Int) := by omega
      have hLb : (LA : Int) ≤ 1000100 := by have := HA.out.2.2.2.2.2; omega
      have HLB := Lib.hid hLb
      have HQ := Lib.hid (And.intro hQ (And.intro hLA hq2))
      have HX := Lib.hid (show hashTo A (q + 1) = compF (hashTo A q) ((A.drop (64 * q)).take 64) from rfl)
      have HD := Lib.hid (And.intro (chunk_len A q hq2) (And.intro (fun i hi => chunk_get A q i hi) (bytes_take (bytes_drop HA.out.2.2.1 (64 * q)) 64)))
      rw [← hQ, ← hLA]
      clear hQ hLA hlt hq2 hq hLb
      generalize hashTo A q = X0 at *
      generalize (A.drop (64 * q)).take 64 = D at *
      go_wp2_with fail
      go_loopw [7] (fun n wr2 => ∃ i : Nat, i ≤ 64 ∧ n = .int .i64 (i : Int) ∧ wr2.heap[w.heap.size]? = some (.cells zb32 36 (0, 0)) ∧ wr2.heap[ga]? = some (.cells curA 5 (0, 0)) ∧
          wr2.heap[gh]? = some (.cells X0.row 95 (0, 0)) ∧ wr2.heap[wr.heap.size]? = some (.cells (row .u8 (fillTo D i)) 96 (0, 0)) ∧ Below w.heap.size w wr2) (fun n _ => 64 - (intOf n).toNat)
      case atStart => exact ⟨0, by omega, rfl, blk_old HH.out.1 _, blk_old HH.out.2.1 _, blk_old HH.out.2.2.1 _, by rw [fillTo_zero, HD.out.1]; exact heap_alloc_new _ _, HH.out.2.2.2.alloc HH.out.2.2.2.size _⟩
      case round =>
        have G1 := Lib.hid (And.intro (blk_lt HH.out.2.2.1) (And.intro (blk_lt HH.out.2.1) (And.intro (blk_lt HH.out.1) HH.out.2.2.2.size)))
        clear HH
        generalize wr.heap.size = gx at *
        obtain ⟨i, hi, rfl, h1, h2, h3, h4, hbe⟩ := hrel
        have HH := Lib.hid (And.intro h1 (And.intro h2 (And.intro h3 (And.intro h4 hbe))))
        clear h1 h2 h3 h4 hbe
        by_cases hlt : i < 64
        · obtain ⟨m, hm⟩ : ∃ m, m = Q + i := ⟨_, rfl⟩
          have hQ1 := HQ.out
          have s1 : IntKind.i64.wrap ((Q : Int) + (i : Int)) = (m : Int) := by have := HLB.out; rw [IntKind.wrap_i64]; omega
          have s2 : (m : Int) < (LA : Int) := by omega
          have s3 : (i : Int) < 64 := by omega
          have hsz : i < (row .u8 (fillTo D i)).size := by rw [row_size, fillTo_len _ _ (by rw [HD.out.1]; omega), HD.out.1]; exact hlt
          have c1 := cell_row HH.out.2.1 m (HG.out.2.2 m (by omega))
          have c2 := cell_row HH.out.2.2.2.1 i (Array.getElem?_eq_getElem hsz)
          have c3 := free_row HH.out.2.2.2.1 i
          have hset : Hid ((row .u8 (fillTo D i)).setIfInBounds i (.int .u8 (A.getD m 0)) = row .u8 (fillTo D (i + 1))) := Lib.hid (by
            rw [row_set, hm, hQ1.1, ← HD.out.2.1 i hlt, fillTo_set _ _ (by rw [HD.out.1]; exact hlt)])
          have HI := Lib.hid hlt
          generalize A.getD m 0 = T at *
          generalize (row .u8 (fillTo D i))[i]'hsz = old at *
          clear hm hQ1 hsz hi hlt
          go_wp2_with fail
          have hlt := HI.out
          have g1 := G1.out
          have g2 := HG.out
          refine ⟨⟨i + 1, by omega, rfl, (heap_setCell_other _ _ _ _ (by simp; omega)).trans HH.out.1, (heap_setCell_other _ _ _ _ (by simp; omega)).trans HH.out.2.1, (heap_setCell_other _ _ _ _ (by simp; omega)).trans HH.out.2.2.1, (heap_setCell_same _ _ _ _ _ _ HH.out.2.2.2.1).trans (by rw [hset.out]), HH.out.2.2.2.2.setCell (by simp; omega) _⟩, ?_⟩
          simp [intOf]; omega
        · obtain rfl : i = 64 := by omega
          have hrow : row .u8 (fillTo D 64) = row .u8 D := by
            have h := fillTo_all D
            rw [HD.out.1] at h
            rw [h]
          have h4 := HH.out.2.2.2.1
          rw [hrow] at h4
          have H4 := Lib.hid h4
          have HDS : Hid ((row .u8 D).size = 64) := Lib.hid (by rw [row_size, HD.out.1])
          clear h4 hrow
          have hs2 : IntKind.i64.wrap ((Q : Int) + 64) = ((Q + 64 : Nat) : Int) := by have := HLB.out; rw [IntKind.wrap_i64]; omega
          go_wp2_with (first
            | (refine wpList_load_row (o := ⟨some 39, _, _, _, _, _⟩) rfl 95 _ rfl _ rfl _ X0.row _ _ (by exact HH.out.2.2.1) Tryd.underlying95 rfl (by rw [W8.row_size]; kernel_rfl) ?_)
            | (refine wpList_load_row (o := ⟨some 40, _, _, _, _, _⟩) rfl 96 _ rfl _ rfl _ (row .u8 D) _ _ (by exact H4.out) Tryd.underlying96 rfl (by rw [HDS.out]; kernel_rfl) ?_))
          refine (r2comp_any X0 D HD.out.1 HD.out.2.2 _).mono ?_
          rintro e w6 ⟨rfl, b6⟩
          have H6 := Lib.hid (And.intro (BC_blk1 b6 HH.out.1) (And.intro (BC_blk1 b6 HH.out.2.1) (And.intro (BC_blk1 b6 HH.out.2.2.1) (BC_below HH.out.2.2.2.2 HH.out.2.2.2.2.size b6))))
          clear b6 HH H4
          go_wp2_with (refine wpList_store_rowTo rfl 95 _ _ rfl rfl _ (compF X0 D).row rfl rfl 95 X0.row H6.out.2.2.1 (by rw [W8.row_size]; kernel_rfl) (by rw [W8.row_size, W8.row_size]) (W8.row_one _) ?_)
          have hQ1 := HQ.out
          have g2 := HG.out
          have g1 := G1.out
          refine ⟨⟨q + 1, by omega, by rw [show 64 * (q + 1) = Q + 64 by omega]; rfl, (setRow_other _ _ _ _ (by omega)).trans H6.out.1, (setRow_other _ _ _ _ (by omega)).trans H6.out.2.1, (setRow_heap _ _ _ _ _ _ H6.out.2.2.1).trans (by rw [HX.out]), below_row H6.out.2.2.2 (by omega) _⟩, ?_⟩
          simp [intOf]; omega
    · have hq2 : q = A.length / 64 := by omega
      have hX : sl = digF (hashTo A q) := by rw [hq2]; exact HA.out.2.1
      have hcond : ¬ ((64 * q : Nat) : Int) < (A.length : Int) := by omega
      have hDl := digF_len (hashTo A q)
      have hDg := digF_get (hashTo A q)
      have hXg : ∀ e, e < 8 → (hashTo A q).row[e]? = some (.int .u32 (((hashTo A q).list.getD e 0).toNat : Int)) := fun e he => rowU_get (hashTo A q).list e he
      have hXo := W8.row_size (hashTo A q)
      have HD := Lib.hid (And.intro hX (And.intro hDl (And.intro hDg hXg)))
      clear hX hDl hDg hXg hXo hq2 hq hlt HA
      generalize 64 * q = Q at *
      generalize A.length = LA at *
      generalize digF (hashTo A q) = D at *
      generalize (hashTo A q).list = xl at *
      generalize (hashTo A q).row = xr at *
      go_wp2_with fail
      go_loopw [9] (fun n wr2 => ∃ i : Nat, i ≤ 32 ∧ n = .int .i64 (i : Int) ∧ wr2.heap[w.heap.size]? = some (.cells zb32 36 (0, 0)) ∧ wr2.heap[gh]? = some (.cells xr 95 (0, 0)) ∧
          wr2.heap[wr.heap.size]? = some (.cells (row .u8 (fillTo D i)) 36 (0, 0)) ∧ Below w.heap.size w wr2) (fun n _ => 32 - (intOf n).toNat)
      case atStart => exact ⟨0, by omega, rfl, blk_old HH.out.1 _, blk_old HH.out.2.2.1 _, by rw [fillTo_zero, HD.out.2.1]; exact heap_alloc_new _ _, HH.out.2.2.2.alloc HH.out.2.2.2.size _⟩
      case round =>
        have G1 := Lib.hid (And.intro (blk_lt HH.out.2.2.1) (And.intro (blk_lt HH.out.1) HH.out.2.2.2.size))
        clear HH hcond
        generalize wr.heap.size = gx at *
        obtain ⟨i, hi, rfl, h1, h2, h3, hbe⟩ := hrel
        have HH := Lib.hid (And.intro h1 (And.intro h2 (And.intro h3 hbe)))
        clear h1 h2 h3 hbe
        by_cases hlt : i < 32
        · obtain ⟨e, he⟩ : ∃ e, e = i / 4 := ⟨_, rfl⟩
          obtain ⟨f, hf⟩ : ∃ f, f = i % 4 := ⟨_, rfl⟩
          obtain ⟨V, hV⟩ : ∃ V, V = (xl.getD e 0).toNat := ⟨_, rfl⟩
          have hVb : V < 4294967296 := by rw [hV]; exact (xl.getD e 0).isLt
          have s1 : (i : Int) / 4 = (e : Int) := by omega
          have s2 : (i : Int) % 4 = (f : Int) := by omega
          have s3 : (i : Int) < 32 := by omega
          have s4 : (e : Int) < 8 := by omega
          have hTT : Hid (D.getD i 0 = byteW (xl.getD e 0) f) := Lib.hid (by rw [HD.out.2.2.1 i hlt, ← he, ← hf])
          have c1 := cell_row HH.out.2.1 e (by have h := HD.out.2.2.2 e (by omega); rw [← hV] at h; exact h)
          have HV := Lib.hid (And.intro hV (And.intro hVb (And.intro hlt (show f < 4 by omega))))
          clear he hf hV hVb hlt hi
          go_wp2_with fail
          go_loopw [10, 11] (fun x c wr3 => ∃ t : Nat, f + t ≤ 3 ∧ x = .int .u32 ((V / 256 ^ t : Nat) : Int) ∧ c = .int .i64 ((f + t : Nat) : Int) ∧ wr3 = wr) (fun _ c _ => 3 - (intOf c).toNat)
          case atStart => exact ⟨0, by have := HV.out; omega, by simp, by rw [Nat.add_zero, s2], rfl⟩
          case round =>
            obtain ⟨t, ht, rfl, rfl, rfl⟩ := hrel
            obtain ⟨X, hX⟩ : ∃ X, X = V / 256 ^ t := ⟨_, rfl⟩
            obtain ⟨C, hC⟩ : ∃ C, C = f + t := ⟨_, rfl⟩
            rw [← hX, ← hC]
            have HX := Lib.hid (And.intro hX (And.intro hC ht))
            by_cases hlt : C < 3
            · have hc7 : (C : Int) < 3 := by omega
              have hX0 : (0 : Int) ≤ (X : Int) := by omega
              clear hX hC ht hlt
              go_wp2_with fail
              obtain ⟨h1, h2, h3⟩ := HX.out
              refine ⟨⟨t + 1, by omega, by rw [step256u V t X h1 HV.out.2.1], by rw [h2]; rfl, trivial⟩, ?_⟩
              simp [intOf]; omega
            · have hc7 : ¬ (C : Int) < 3 := by omega
              have hX0 : (0 : Int) ≤ (X : Int) := by omega
              have hsz : i < (row .u8 (fillTo D i)).size := by rw [row_size, fillTo_len _ _ (by rw [HD.out.2.1]; have := HV.out; omega), HD.out.2.1]; exact HV.out.2.2.1
              have c2 := cell_row HH.out.2.2.1 i (Array.getElem?_eq_getElem hsz)
              have c3 := free_row HH.out.2.2.1 i
              generalize (row .u8 (fillTo D i))[i]'hsz = old at *
              have hset : Hid ((row .u8 (fillTo D i)).setIfInBounds i (.int .u8 (D.getD i 0)) = row .u8 (fillTo D (i + 1))) := Lib.hid (by
                rw [row_set, fillTo_set _ _ (by rw [HD.out.2.1]; exact HV.out.2.2.1)])
              clear hX hC ht hlt hsz
              go_wp2_with fail
              obtain ⟨h1, h2, h3⟩ := HX.out
              have hv := HV.out
              have g1 := G1.out
              rw [byte256 (xl.getD e 0) V t f X hv.1 h1 (by omega), ← hTT.out]
              refine ⟨⟨i + 1, by omega, rfl, (heap_setCell_other _ _ _ _ (by simp; omega)).trans HH.out.1, (heap_setCell_other _ _ _ _ (by simp; omega)).trans HH.out.2.1, (heap_setCell_same _ _ _ _ _ _ HH.out.2.2.1).trans (by rw [hset.out]), HH.out.2.2.2.setCell (by simp; omega) _⟩, ?_⟩
              simp [intOf]; omega
        · obtain rfl : i = 32 := by omega
          have hrow : row .u8 (fillTo D 32) = row .u8 D := by
            have h := fillTo_all D
            rw [HD.out.2.1] at h
            rw [h]
          have h4 := HH.out.2.2.1
          rw [hrow] at h4
          have H4 := Lib.hid h4
          have HDS : Hid ((row .u8 D).size = 32) := Lib.hid (by rw [row_size, HD.out.2.1])
          clear h4 hrow
          go_wp2_with (first
            | (refine wpList_load_row rfl 36 _ rfl _ rfl _ (row .u8 D) _ _ H4.out Tryd.underlying36 rfl (by rw [HDS.out]; kernel_rfl) ?_)
            | (refine wpList_store_rowTo rfl 36 _ _ rfl rfl _ (row .u8 D) rfl rfl 36 zb32 HH.out.1 (by rw [HDS.out]; kernel_rfl) (by rw [HDS.out]; kernel_rfl) (row_one _ _) ?_))
          rw [HD.out.1]
          exact bodyPost_ret (results_cell_row (p := 2) (by kernel_rfl) _ _ _ _ _ _ _ rfl (setRow_heap _ _ _ _ _ _ HH.out.1) Tryd.underlying36 rfl (by rw [HDS.out]; kernel_rfl)) rfl ⟨rfl, below_row HH.out.2.2.2 (by omega) _⟩
end Go.Proofs.YtagdlbadkmgdmaaDoor
