/- The statement BlockApart: of one block unlike words are compressed to words that are unlike, less those; what is compressed is the words behind the rounds, and these, together. No condition. -/
import Derived.Test.YtmcpiclmbehlnaaBlockAwake
import Derived.Test.YtmcpiclmbehlnaaBlockRef
import Derived.Test.YtmcpiclmbehlnaaBitsKRef
import Derived.OpenShut
import Derived.ShutString
import Derived.ChangeOld
namespace Go.Proofs.Ytmcpiclmbehlnaa.blockApartDone
open Go.ChangeShapes Go.WideShapes Go.ChangeAt Go.RowKit
set_option linter.unusedVariables false
set_option linter.unusedSimpArgs false
attribute [local go_sem] U_wadd U_wsub takes comesTo

theorem eql8_self (y : W8) (w : World) : (binOp .eql 25 (.agg y.row) (.agg y.row)).run Try.prog w = .ok (.bool true) w := by
  have h := eql8 y y w
  rw [decide_eq_true (rfl : y.list = y.list)] at h
  exact h

theorem bv_back (h b c k w t : BitVec 32) : h + b + c + k + w + t - t - b - c - k - w = h := by
  simp only [BitVec.add_sub_cancel]
  rw [show h + b + c + k + w = h + w + k + c + b by ac_rfl]
  simp only [BitVec.add_sub_cancel]
theorem bv_mid (d o t : BitVec 32) : d + o - (o + t - t) = d := by simp only [BitVec.add_sub_cancel]
theorem undo_round (x : W8) (k w : BitVec 32) : undoF (roundF x k w) k w = x := by
  obtain ⟨a, b, c, d, e, f, g, h⟩ := x
  simp only [undoF, roundF, one, two, W8.mk.injEq, true_and, and_true]
  exact ⟨bv_mid _ _ _, bv_back _ _ _ _ _ _⟩
theorem setRow_new1 (w : World) (A : Obj) (cs cs' : Array Value) (t : TypeId) : ((w.alloc A).alloc (.cells cs t)).setRow (w.heap.size + 1) cs' = (w.alloc A).alloc (.cells cs' t) := by
  have h := World.setRow_alloc_new (w.alloc A) cs cs' t
  rwa [size_new] at h
theorem rto_inj (x y : W8) (ws : List (BitVec 32)) : ∀ n, rto x ws n = rto y ws n → x = y
  | 0, h => h
  | n + 1, h => rto_inj x y ws n (by
    have h2 := congrArg (fun z => undoF z (kn.getD n 0) (ws.getD n 0)) h
    simp only [rto, undo_round] at h2
    exact h2)
def sub8 (x h : W8) : W8 := ⟨x.a - h.a, x.b - h.b, x.c - h.c, x.d - h.d, x.e - h.e, x.f - h.f, x.g - h.g, x.h - h.h⟩
theorem sub_add (x h : W8) : sub8 (add8 x h) h = x := by
  obtain ⟨a, b, c, d, e, f, g, i⟩ := x
  simp only [sub8, add8, BitVec.add_sub_cancel]
def subTo (x h : List (BitVec 32)) : Nat → List (BitVec 32)
  | 0 => x
  | i + 1 => (subTo x h i).set i ((subTo x h i).getD i 0 - h.getD i 0)
theorem subTo_len (x h : List (BitVec 32)) : ∀ i, (subTo x h i).length = x.length
  | 0 => rfl
  | i + 1 => by rw [subTo, List.length_set, subTo_len x h i]
theorem subTo_all (x h : W8) : subTo x.list h.list 8 = (sub8 x h).list := rfl
theorem list_inj {x y : W8} (h : x.list = y.list) : x = y := by
  obtain ⟨a, b, c, d, e, f, g, i⟩ := x
  obtain ⟨a', b', c', d', e', f', g', i'⟩ := y
  simp only [W8.list, List.cons.injEq, and_true] at h
  obtain ⟨rfl, rfl, rfl, rfl, rfl, rfl, rfl, rfl⟩ := h
  rfl
set_option maxHeartbeats 4000000 in
theorem walk0 (r0 r1 m0 S K : Array Value) (P Q Z : Nat → Array Value) (p q a c kk ww : Nat → BitVec 32) (b : Bool)
    (s0 : r0.size = 8 ∧ r0.all (·.oneCell') = true) (s1 : r1.size = 8) (sm : m0.size = 64) (sS : S.size = 64 ∧ S.all (·.oneCell') = true) (sK : K.size = 64 ∧ K.all (·.oneCell') = true)
    (sP : ∀ k, (P k).size = 8 ∧ (P k).all (·.oneCell') = true) (sQ : ∀ k, (Q k).size = 8 ∧ (Q k).all (·.oneCell') = true) (sZ : ∀ k, (Z k).size = 8 ∧ (Z k).all (·.oneCell') = true)
    (ep : ∀ k, k < 8 → r0[k]? = some (.int .u32 (U (p k)))) (eq : ∀ k, k < 8 → r1[k]? = some (.int .u32 (U (q k)))) (ea : ∀ k, k < 8 → (P k)[k]? = some (.int .u32 (U (a k)))) (ec : ∀ k, k < 8 → (Q k)[k]? = some (.int .u32 (U (c k))))
    (nP : ∀ k, k < 8 → (P k).setIfInBounds k (.int .u32 (U (a k - p k))) = P (k + 1)) (nQ : ∀ k, k < 8 → (Q k).setIfInBounds k (.int .u32 (U (c k - q k))) = Q (k + 1))
    (eK : ∀ k, k < 64 → K[k]? = some (.int .u32 (U (kk k)))) (eS : ∀ k, k < 64 → S[k]? = some (.int .u32 (U (ww k)))) (z0 : Z 0 = r0)
    (h1 : ∀ w : World, Calls Try.prog 41 #[.agg r0, .agg m0] w fun e w' => e = .returned (.agg (P 0)) ∧ Below w.heap.size w w')
    (h2 : ∀ w : World, Calls Try.prog 41 #[.agg r1, .agg m0] w fun e w' => e = .returned (.agg (Q 0)) ∧ Below w.heap.size w w')
    (h3 : ∀ w : World, Calls Try.prog 35 #[.agg m0] w fun e w' => e = .returned (.agg S) ∧ Below w.heap.size w w')
    (h4 : ∀ w : World, Calls Try.prog 37 #[] w fun e w' => e = .returned (.agg K) ∧ Below w.heap.size w w')
    (h5 : ∀ k, k < 64 → ∀ w : World, Calls Try.prog 38 #[.agg (Z k), .int .u32 (U (kk k)), .int .u32 (U (ww k))] w fun e w' => e = .returned (.agg (Z (k + 1))) ∧ Below w.heap.size w w')
    (e1 : ∀ w, (binOp .eql 25 (.agg (P 8)) (.agg (Q 8))).run Try.prog w = .ok (.bool b) w)
    (e2 : ∀ w, (binOp .eql 25 (.agg r0) (.agg r1)).run Try.prog w = .ok (.bool b) w)
    (e3 : ∀ w, (binOp .eql 25 (.agg (P 8)) (.agg (Z 64))).run Try.prog w = .ok (.bool true) w)
    (e4 : ∀ w, (binOp .eql 4 (.bool b) (.bool b)).run Try.prog w = .ok (.bool true) w) (w : World) :
    Calls Try.prog 14 #[.agg r0, .agg r1, .agg m0] w fun e w' => e = .returned (.bool true) ∧ Below w.heap.size w w' := by
  have ha := alloc8
  have ha64 := alloc64
  have H0 := Lib.hid (And.intro s0 (And.intro s1 sm))
  have HSK := Lib.hid (And.intro sS sK)
  have HP := Lib.hid sP
  have HQ := Lib.hid sQ
  have HZ := Lib.hid sZ
  have HE := Lib.hid (And.intro ep (And.intro eq (And.intro ea ec)))
  have HN := Lib.hid (And.intro nP nQ)
  have HKS := Lib.hid (And.intro eK eS)
  have HZ0 := Lib.hid z0
  have H1 := Lib.hid h1
  have H2 := Lib.hid h2
  have H3 := Lib.hid h3
  have H4 := Lib.hid h4
  have H5 := Lib.hid h5
  have HEQ := Lib.hid (And.intro e1 (And.intro e2 (And.intro e3 e4)))
  clear s0 s1 sm sS sK sP sQ sZ ep eq ea ec nP nQ eK eS z0 h1 h2 h3 h4 h5 e1 e2 e3 e4
  go_enter Try.func14, Try.ntmps14
  go_wp2_with fail
  refine (awake2_any _).mono ?_
  rintro e w1 ⟨rfl, b1⟩
  have HH := Lib.hid (And.intro (BC_blk1 b1 (blk3 w (.cells r0 25) (.cells r1 25) (.cells m0 38)).1) (And.intro (BC_blk1 b1 (blk3 w (.cells r0 25) (.cells r1 25) (.cells m0 38)).2.1) (And.intro (BC_blk1 b1 (blk3 w (.cells r0 25) (.cells r1 25) (.cells m0 38)).2.2) (BC_below (below3 w _ _ _) (below3 w _ _ _).size b1))))
  clear b1
  go_wp2_with (first | (refine wpList_load_row (o := ⟨some 16, _, _, _, _, _⟩) rfl 25 _ rfl _ rfl _ r0 _ _ (by exact HH.out.1) Try.underlying25 rfl (by rw [H0.out.1.1]; kernel_rfl) ?_) | (refine wpList_load_row (o := ⟨some 17, _, _, _, _, _⟩) rfl 38 _ rfl _ rfl _ m0 _ _ (by exact HH.out.2.2.1) Try.underlying38 rfl (by rw [H0.out.2.2]; kernel_rfl) ?_))
  refine (H1.out _).mono ?_
  rintro e w2 ⟨rfl, b2⟩
  have HH2 := Lib.hid (And.intro (BC_blk1 b2 HH.out.1) (And.intro (BC_blk1 b2 HH.out.2.1) (And.intro (BC_blk1 b2 HH.out.2.2.1) (BC_below HH.out.2.2.2 HH.out.2.2.2.size b2))))
  clear b2 HH
  clear w1
  go_wp2_with (first | (refine wpList_store_rowTo (o := ⟨none, .store 25 _ _, _, _, _, _⟩) rfl 25 _ _ rfl rfl _ (P 0) rfl rfl 25 z8 (by exact heap_alloc_new _ _) (by rw [(HP.out 0).1]; kernel_rfl) (by rw [(HP.out 0).1]; kernel_rfl) (HP.out 0).2 ?_; rw [World.setRow_alloc_new]) | (refine wpList_load_row (o := ⟨some 19, _, _, _, _, _⟩) rfl 25 _ rfl _ rfl _ r1 _ _ (by exact blk_old HH2.out.2.1 _) Try.underlying25 rfl (by rw [H0.out.2.1]; kernel_rfl) ?_) | (refine wpList_load_row (o := ⟨some 20, _, _, _, _, _⟩) rfl 38 _ rfl _ rfl _ m0 _ _ (by exact blk_old HH2.out.2.2.1 _) Try.underlying38 rfl (by rw [H0.out.2.2]; kernel_rfl) ?_))
  have HH := Lib.hid (And.intro (blk_old HH2.out.1 (.cells (P 0) 25)) (And.intro (blk_old HH2.out.2.1 (.cells (P 0) 25)) (And.intro (blk_old HH2.out.2.2.1 (.cells (P 0) 25)) (And.intro (heap_alloc_new w2 (.cells (P 0) 25)) (And.intro (HH2.out.2.2.2.alloc HH2.out.2.2.2.size (.cells (P 0) 25)) (blk_lt (heap_alloc_new w2 (.cells (P 0) 25))))))))
  have G8 := Lib.hid (blk_lt HH2.out.2.2.1)
  clear HH2
  generalize w2.alloc (.cells (P 0) 25) = w1 at *
  generalize w2.heap.size = g8 at *
  refine (H2.out _).mono ?_
  rintro e w3 ⟨rfl, b2⟩
  have HH2 := Lib.hid (And.intro (BC_blk1 b2 HH.out.1) (And.intro (BC_blk1 b2 HH.out.2.1) (And.intro (BC_blk1 b2 HH.out.2.2.1) (And.intro (BC_blk1 b2 HH.out.2.2.2.1) (BC_below HH.out.2.2.2.2.1 HH.out.2.2.2.2.1.size b2)))))
  have G9 := Lib.hid (Nat.lt_of_lt_of_le HH.out.2.2.2.2.2 b2.size)
  clear b2 HH
  clear w1 w2 H1 H2
  go_wp2_with (refine wpList_store_rowTo (o := ⟨none, .store 25 _ _, _, _, _, _⟩) rfl 25 _ _ rfl rfl _ (Q 0) rfl rfl 25 z8 (by exact heap_alloc_new _ _) (by rw [(HQ.out 0).1]; kernel_rfl) (by rw [(HQ.out 0).1]; kernel_rfl) (HQ.out 0).2 ?_; rw [World.setRow_alloc_new])
  have HH := Lib.hid (And.intro (blk_old HH2.out.1 (.cells (Q 0) 25)) (And.intro (blk_old HH2.out.2.1 (.cells (Q 0) 25)) (And.intro (blk_old HH2.out.2.2.1 (.cells (Q 0) 25)) (And.intro (blk_old HH2.out.2.2.2.1 (.cells (Q 0) 25)) (And.intro (heap_alloc_new w3 (.cells (Q 0) 25)) (HH2.out.2.2.2.2.alloc HH2.out.2.2.2.2.size (.cells (Q 0) 25)))))))
  clear HH2
  generalize w3.alloc (.cells (Q 0) 25) = w1 at *
  generalize w3.heap.size = g9 at *
  go_loopw [10] (fun n wr => ∃ k : Nat, k ≤ 8 ∧ n = .int .i64 k ∧ wr.heap[w.heap.size]? = some (.cells r0 25 (0, 0)) ∧ wr.heap[w.heap.size + 1]? = some (.cells r1 25 (0, 0)) ∧ wr.heap[w.heap.size + 1 + 1]? = some (.cells m0 38 (0, 0)) ∧ wr.heap[g8]? = some (.cells (P k) 25 (0, 0)) ∧ wr.heap[g9]? = some (.cells (Q k) 25 (0, 0)) ∧ Below w.heap.size w wr) (fun n _ => 8 - (intOf n).toNat)
  case atStart => exact ⟨0, by omega, rfl, HH.out.1, HH.out.2.1, HH.out.2.2.1, HH.out.2.2.2.1, HH.out.2.2.2.2.1, HH.out.2.2.2.2.2⟩
  case round =>
    clear HH
    obtain ⟨k, hk, rfl, h1, h2, h3, h4, h5, hbe⟩ := hrel
    have HH := Lib.hid (And.intro h1 (And.intro h2 (And.intro h3 (And.intro h4 (And.intro h5 hbe)))))
    clear h1 h2 h3 h4 h5 hbe
    by_cases hlt : k < 8
    · have HK := Lib.hid hlt
      have c0 := QC_cell (cell_row HH.out.2.2.2.1 k (HE.out.2.2.1 k hlt))
      have c1 := QC_cell (cell_row HH.out.1 k (HE.out.1 k hlt))
      have hk0 : 0 ≤ (k : Int) := by omega
      have hk1 : (k : Int) < 8 := by omega
      have hS := @QC_all wr
      haveI := QC_inst wr
      go_wp2_with fail
      refine wp_region_head (QC wr) 9 (by kernel_rfl) (by kernel_rfl) (QC_start _) ?_
      simp only [List.take_succ_cons, List.take_zero, List.drop_succ_cons, List.drop_zero]
      repeat (first
        | (refine headG_step (fun K hK => ?_)
           go_simp
           first
             | (refine hK _ ?_; clear hK K)))
      refine headG_nil ?_
      intro w2 hw2
      have HR := Lib.hid (QC_blk1 hw2 HH.out.2.2.2.1)
      clear hS c0 c1
      go_wp2_with (refine wl_store_int rfl 23 _ _ rfl rfl _ _ _ _ rfl rfl (by kernel_rfl) HR.out (by rw [(HP.out k).1]; exact HK.out) ?_; intro W3 g1 g2 g3; have HG := Lib.hid (And.intro g1 (And.intro g2 g3)); clear g1 g2 g3)
      have HH3 : Hid (W3.heap[w.heap.size]? = some (.cells r0 25 (0, 0)) ∧ W3.heap[w.heap.size + 1]? = some (.cells r1 25 (0, 0)) ∧ W3.heap[w.heap.size + 1 + 1]? = some (.cells m0 38 (0, 0)) ∧ W3.heap[g8]? = some (.cells (P (k + 1)) 25 (0, 0)) ∧ W3.heap[g9]? = some (.cells (Q k) 25 (0, 0)) ∧ Below w.heap.size w W3) := by
        have l8 := G8.out
        have l9 := G9.out
        exact Lib.hid ⟨(HG.out.2.1 _ (by omega)).trans (QC_blk1 hw2 HH.out.1), (HG.out.2.1 _ (by omega)).trans (QC_blk1 hw2 HH.out.2.1), (HG.out.2.1 _ (by omega)).trans (QC_blk1 hw2 HH.out.2.2.1), (by rw [← HN.out.1 k hlt]; exact HG.out.1), (HG.out.2.1 _ (by omega)).trans (QC_blk1 hw2 HH.out.2.2.2.2.1), HG.out.2.2 _ _ (by omega) (QC_below HH.out.2.2.2.2.2 hw2)⟩
      clear HG HH HR hw2
      have c0 := QC_cell (cell_row HH3.out.2.2.2.2.1 k (HE.out.2.2.2 k hlt))
      have c1 := QC_cell (cell_row HH3.out.2.1 k (HE.out.2.1 k hlt))
      have hS := @QC_all W3
      haveI := QC_inst W3
      go_wp2_with fail
      refine wp_region_head (QC W3) 9 (by kernel_rfl) (by kernel_rfl) (QC_start _) ?_
      simp only [List.take_succ_cons, List.take_zero, List.drop_succ_cons, List.drop_zero]
      repeat (first
        | (refine headG_step (fun K hK => ?_)
           go_simp
           first
             | (refine hK _ ?_; clear hK K)))
      refine headG_nil ?_
      intro w5 hw2
      have HR := Lib.hid (QC_blk1 hw2 HH3.out.2.2.2.2.1)
      clear hS c0 c1
      go_wp2_with (refine wl_store_int rfl 23 _ _ rfl rfl _ _ _ _ rfl rfl (by kernel_rfl) HR.out (by rw [(HQ.out k).1]; exact HK.out) ?_; intro W6 g1 g2 g3; have HG := Lib.hid (And.intro g1 (And.intro g2 g3)); clear g1 g2 g3)
      go_roundw
      case rel =>
        have l8 := G8.out
        have l9 := G9.out
        exact ⟨k + 1, by omega, by go_num, (HG.out.2.1 _ (by omega)).trans (QC_blk1 hw2 HH3.out.1), (HG.out.2.1 _ (by omega)).trans (QC_blk1 hw2 HH3.out.2.1), (HG.out.2.1 _ (by omega)).trans (QC_blk1 hw2 HH3.out.2.2.1), (HG.out.2.1 _ (by omega)).trans (QC_blk1 hw2 HH3.out.2.2.2.1), (by rw [← HN.out.2 k hlt]; exact HG.out.1), HG.out.2.2 _ _ (by omega) (QC_below HH3.out.2.2.2.2.2 hw2)⟩
      case measure => simp [intOf]; omega
    · obtain rfl : k = 8 := by omega
      have H8 := Lib.hid (And.intro (HP.out 8) (HQ.out 8))
      clear HE HN HP HQ
      generalize P 8 = P8 at *
      generalize Q 8 = Q8 at *
      obtain ⟨wo, rfl⟩ : ∃ wo : World, wo = wr := ⟨_, rfl⟩
      go_wp2_with (refine wpList_load_row (o := ⟨some 44, _, _, _, _, _⟩) rfl 38 _ rfl _ rfl _ m0 _ _ (by exact HH.out.2.2.1) Try.underlying38 rfl (by rw [H0.out.2.2]; kernel_rfl) ?_)
      refine (H3.out _).mono ?_
      rintro e w2 ⟨rfl, b2⟩
      have HH2 := Lib.hid (And.intro (BC_blk1 b2 HH.out.1) (And.intro (BC_blk1 b2 HH.out.2.1) (And.intro (BC_blk1 b2 HH.out.2.2.2.1) (And.intro (BC_blk1 b2 HH.out.2.2.2.2.1) (BC_below HH.out.2.2.2.2.2 HH.out.2.2.2.2.2.size b2)))))
      clear b2 HH
      clear wo H3
      go_wp2_with (first | (refine wpList_store_rowTo (o := ⟨none, .store 39 _ _, _, _, _, _⟩) rfl 39 _ _ rfl rfl _ S rfl rfl 39 z64 (by exact heap_alloc_new _ _) (by rw [HSK.out.1.1]; kernel_rfl) (by rw [HSK.out.1.1]; kernel_rfl) HSK.out.1.2 ?_; rw [World.setRow_alloc_new]) | (refine wpList_load_row (o := ⟨some 46, _, _, _, _, _⟩) rfl 25 _ rfl _ rfl _ r0 _ _ (by exact blk_old HH2.out.1 _) Try.underlying25 rfl (by rw [H0.out.1.1]; kernel_rfl) ?_) | (refine wpList_store_rowTo (o := ⟨none, .store 25 _ _, _, _, _, _⟩) rfl 25 _ _ rfl rfl _ r0 rfl rfl 25 z8 (by exact blk_new1 _ _ _) (by rw [H0.out.1.1]; kernel_rfl) (by rw [H0.out.1.1]; kernel_rfl) H0.out.1.2 ?_; rw [setRow_new1]))
      have HH := Lib.hid (And.intro (blk_old (blk_old HH2.out.1 (.cells S 39)) (.cells r0 25)) (And.intro (blk_old (blk_old HH2.out.2.1 (.cells S 39)) (.cells r0 25)) (And.intro (blk_old (blk_old HH2.out.2.2.1 (.cells S 39)) (.cells r0 25)) (And.intro (blk_old (blk_old HH2.out.2.2.2.1 (.cells S 39)) (.cells r0 25)) (And.intro (blk2 w2 (.cells S 39) (.cells r0 25)).1 (And.intro (blk2 w2 (.cells S 39) (.cells r0 25)).2 (HH2.out.2.2.2.2.trans ((below2 w2 (.cells S 39) (.cells r0 25)).mono HH2.out.2.2.2.2.size))))))))
      have G11 := Lib.hid (blk_lt HH2.out.2.2.2.1)
      clear HH2
      generalize (w2.alloc (.cells S 39)).alloc (.cells r0 25) = w1 at *
      generalize w2.heap.size = g11 at *
      refine (H4.out _).mono ?_
      rintro e w3 ⟨rfl, b2⟩
      have HH2 := Lib.hid (And.intro (BC_blk1 b2 HH.out.1) (And.intro (BC_blk1 b2 HH.out.2.1) (And.intro (BC_blk1 b2 HH.out.2.2.1) (And.intro (BC_blk1 b2 HH.out.2.2.2.1) (And.intro (BC_blk1 b2 HH.out.2.2.2.2.1) (And.intro (BC_blk1 b2 HH.out.2.2.2.2.2.1) (BC_below HH.out.2.2.2.2.2.2 HH.out.2.2.2.2.2.2.size b2)))))))
      have G13 := Lib.hid (Nat.lt_of_lt_of_le (blk_lt HH.out.2.2.2.2.2.1) b2.size)
      clear b2 HH
      clear w1 w2 H4
      go_wp2_with (refine wpList_store_rowTo (o := ⟨none, .store 39 _ _, _, _, _, _⟩) rfl 39 _ _ rfl rfl _ K rfl rfl 39 z64 (by exact heap_alloc_new _ _) (by rw [HSK.out.2.1]; kernel_rfl) (by rw [HSK.out.2.1]; kernel_rfl) HSK.out.2.2 ?_; rw [World.setRow_alloc_new])
      have HH := Lib.hid (And.intro (blk_old HH2.out.1 (.cells K 39)) (And.intro (blk_old HH2.out.2.1 (.cells K 39)) (And.intro (blk_old HH2.out.2.2.1 (.cells K 39)) (And.intro (blk_old HH2.out.2.2.2.1 (.cells K 39)) (And.intro (blk_old HH2.out.2.2.2.2.1 (.cells K 39)) (And.intro (blk_old HH2.out.2.2.2.2.2.1 (.cells K 39)) (And.intro (heap_alloc_new w3 (.cells K 39)) (HH2.out.2.2.2.2.2.2.alloc HH2.out.2.2.2.2.2.2.size (.cells K 39)))))))))
      clear HH2 ha ha64
      generalize w3.alloc (.cells K 39) = w1 at *
      generalize w3.heap.size = g13 at *
      go_loopw [14] (fun n wr => ∃ k : Nat, k ≤ 64 ∧ n = .int .i64 k ∧ wr.heap[w.heap.size]? = some (.cells r0 25 (0, 0)) ∧ wr.heap[w.heap.size + 1]? = some (.cells r1 25 (0, 0)) ∧ wr.heap[g8]? = some (.cells P8 25 (0, 0)) ∧ wr.heap[g9]? = some (.cells Q8 25 (0, 0)) ∧ wr.heap[g11]? = some (.cells S 39 (0, 0)) ∧ wr.heap[g11 + 1]? = some (.cells (Z k) 25 (0, 0)) ∧ wr.heap[g13]? = some (.cells K 39 (0, 0)) ∧ Below w.heap.size w wr) (fun n _ => 64 - (intOf n).toNat)
      case atStart => exact ⟨0, by omega, rfl, HH.out.1, HH.out.2.1, HH.out.2.2.1, HH.out.2.2.2.1, HH.out.2.2.2.2.1, (by rw [HZ0.out]; exact HH.out.2.2.2.2.2.1), HH.out.2.2.2.2.2.2.1, HH.out.2.2.2.2.2.2.2⟩
      case round =>
        clear HH
        obtain ⟨k, hk, rfl, h1, h2, h3, h4, h5, h6, h7, hbe⟩ := hrel
        have HH := Lib.hid (And.intro h1 (And.intro h2 (And.intro h3 (And.intro h4 (And.intro h5 (And.intro h6 (And.intro h7 hbe)))))))
        clear h1 h2 h3 h4 h5 h6 h7 hbe
        by_cases hlt : k < 64
        · have hrow := BC_blk HH.out.2.2.2.2.2.1
          have c0 := BC_cell (cell_row HH.out.2.2.2.2.1 k (HKS.out.2 k hlt))
          have c1 := BC_cell (cell_row HH.out.2.2.2.2.2.2.1 k (HKS.out.1 k hlt))
          have HC := Lib.hid (H5.out k hlt)
          have hk0 : 0 ≤ (k : Int) := by omega
          have hk1 : (k : Int) < 64 := by omega
          have hS := @BC_all wr
          haveI := BC_inst wr
          go_wp2_with fail
          refine wp_region_head (BC wr) 8 (by kernel_rfl) (by kernel_rfl) (BC_start _) ?_
          simp only [List.take_succ_cons, List.take_zero, List.drop_succ_cons, List.drop_zero]
          repeat (first
            | (refine headG_load_row 25 _ rfl rfl _ rfl _ _ _ _ hrow Try.underlying25 rfl (by rw [(HZ.out k).1]; kernel_rfl) ?_)
            | (refine headG_step (fun K hK => ?_)
               go_simp
               first
                 | (refine hK _ ?_; clear hK K)
                 | (apply Exists.intro
                    refine ⟨fun x => ?_, hK _ ?_⟩
                    (first
                      | (go_at_call 38; exact BC_call x (HC.out _)))
                    clear hK K)))
          refine headG_nil ?_
          intro w2 hw2
          have HR := Lib.hid (BC_blk1 hw2 HH.out.2.2.2.2.2.1)
          clear hS hrow c0 c1
          go_wp2_with (refine wpList_store_rowTo rfl 25 _ _ rfl rfl _ (Z (k + 1)) rfl rfl _ _ HR.out (by rw [(HZ.out (k + 1)).1]; kernel_rfl) (by rw [(HZ.out (k + 1)).1, (HZ.out k).1]) (HZ.out (k + 1)).2 ?_)
          go_roundw
          case rel =>
            have l8 := G8.out
            have l9 := G9.out
            have l11 := G11.out
            have l13 := G13.out
            exact ⟨k + 1, by omega, by go_num, (setRow_other _ _ _ _ (by omega)).trans (BC_blk1 hw2 HH.out.1), (setRow_other _ _ _ _ (by omega)).trans (BC_blk1 hw2 HH.out.2.1), (setRow_other _ _ _ _ (by omega)).trans (BC_blk1 hw2 HH.out.2.2.1), (setRow_other _ _ _ _ (by omega)).trans (BC_blk1 hw2 HH.out.2.2.2.1), (setRow_other _ _ _ _ (by omega)).trans (BC_blk1 hw2 HH.out.2.2.2.2.1), setRow_heap _ _ _ _ _ _ HR.out, (setRow_other _ _ _ _ (by omega)).trans (BC_blk1 hw2 HH.out.2.2.2.2.2.2.1), below_row (BC_below HH.out.2.2.2.2.2.2.2 HH.out.2.2.2.2.2.2.2.size hw2) (by omega) _⟩
          case measure => simp [intOf]; omega
        · obtain rfl : k = 64 := by omega
          have HZ8 := Lib.hid (HZ.out 64).1
          generalize Z 64 = Z8 at *
          have e1 := HEQ.out.1
          have e2 := HEQ.out.2.1
          have e3 := HEQ.out.2.2.1
          have e4 := HEQ.out.2.2.2
          have q0 := QC_blk HH.out.1
          have q1 := QC_blk HH.out.2.1
          have q2 := QC_blk HH.out.2.2.1
          have q3 := QC_blk HH.out.2.2.2.1
          have q4 := QC_blk HH.out.2.2.2.2.2.1
          have hS := @QC_all wr
          haveI := QC_inst wr
          go_wp2_with fail
          refine wp_region_head (QC wr) 16 (by kernel_rfl) (by kernel_rfl) (QC_start _) ?_
          simp only [List.take_succ_cons, List.take_zero, List.drop_succ_cons, List.drop_zero]
          repeat (first
            | (refine headG_load_row 25 _ rfl rfl _ rfl _ _ _ _ q0 Try.underlying25 rfl (by rw [H0.out.1.1]; kernel_rfl) ?_)
            | (refine headG_load_row 25 _ rfl rfl _ rfl _ _ _ _ q1 Try.underlying25 rfl (by rw [H0.out.2.1]; kernel_rfl) ?_)
            | (refine headG_load_row 25 _ rfl rfl _ rfl _ _ _ _ q2 Try.underlying25 rfl (by rw [H8.out.1.1]; kernel_rfl) ?_)
            | (refine headG_load_row 25 _ rfl rfl _ rfl _ _ _ _ q3 Try.underlying25 rfl (by rw [H8.out.2.1]; kernel_rfl) ?_)
            | (refine headG_load_row 25 _ rfl rfl _ rfl _ _ _ _ q4 Try.underlying25 rfl (by rw [HZ8.out]; kernel_rfl) ?_)
            | (refine headG_step (fun K hK => ?_)
               go_simp
               first
                 | (refine hK _ ?_; clear hK K)))
          refine headG_nil ?_
          intro w4 hw4
          clear e1 e2 e3 e4 q0 q1 q2 q3 q4 hS
          go_wp2_with fail
          go_ret
          exact ⟨rfl, QC_below HH.out.2.2.2.2.2.2.2 hw4⟩
theorem walk (l0 l1 l2 : List Int) (hl0 : l0.length = 8) (wl0 : ∀ x ∈ l0, (Lit.int .u32 x).wf = true) (hl1 : l1.length = 8) (wl1 : ∀ x ∈ l1, (Lit.int .u32 x).wf = true) (hl2 : l2.length = 64) (wl2 : ∀ x ∈ l2, (Lit.int .u8 x).wf = true) (w : World) :
    Calls Try.prog 14 #[.agg (row .u32 l0), .agg (row .u32 l1), .agg (row .u8 l2)] w fun e w' => e = .returned (.bool true) ∧ Below w.heap.size w w' := by
  obtain ⟨x, hx⟩ := w8_of hl0 wl0
  obtain ⟨y, hy⟩ := w8_of hl1 wl1
  rw [hx, hy]
  have hb := bytes_of wl2
  have hsl := sched_len l2
  have gx : ∀ (z : W8) (k : Nat), k < 8 → z.row[k]? = some (.int .u32 (U (z.list.getD k 0))) := fun z k h => rowU_get z.list k h
  have eP : rowU (subTo (compF x l2).list x.list 8) = (rto x (sched l2) 64).row := by rw [subTo_all, compF, sub_add, W8.row_eq]
  have eQ : rowU (subTo (compF y l2).list y.list 8) = (rto y (sched l2) 64).row := by rw [subTo_all, compF, sub_add, W8.row_eq]
  have eb : decide (x.list = y.list) = decide ((rto x (sched l2) 64).list = (rto y (sched l2) 64).list) :=
    decide_eq_decide.2 ⟨fun e => by rw [list_inj e], fun e => by rw [rto_inj x y _ 64 (list_inj e)]⟩
  exact walk0 x.row y.row (row .u8 l2) (rowU (sched l2)) k64 (fun k => rowU (subTo (compF x l2).list x.list k)) (fun k => rowU (subTo (compF y l2).list y.list k)) (fun k => (rto x (sched l2) k).row)
    (fun k => x.list.getD k 0) (fun k => y.list.getD k 0) (fun k => (subTo (compF x l2).list x.list k).getD k 0) (fun k => (subTo (compF y l2).list y.list k).getD k 0) (fun k => kn.getD k 0) (fun k => (sched l2).getD k 0) (decide (x.list = y.list))
    ⟨W8.row_size x, W8.row_one x⟩ (W8.row_size y) (by rw [row_size, hl2]) ⟨by rw [rowU_size, hsl], rowU_one _⟩ ⟨by kernel_rfl, rowU_one _⟩
    (fun k => ⟨by rw [rowU_size, subTo_len]; rfl, rowU_one _⟩) (fun k => ⟨by rw [rowU_size, subTo_len]; rfl, rowU_one _⟩) (fun k => ⟨W8.row_size _, W8.row_one _⟩)
    (gx x) (gx y) (fun k h => rowU_get _ _ (by rw [subTo_len]; exact h)) (fun k h => rowU_get _ _ (by rw [subTo_len]; exact h))
    (fun k h => by rw [rowU_set]; rfl) (fun k h => by rw [rowU_set]; rfl) (fun k h => rowU_get kn k (by rw [show kn.length = 64 by kernel_rfl]; exact h)) (fun k h => rowU_get _ k (by rw [hsl]; exact h)) rfl
    (comp_any x l2 hl2 hb) (comp_any y l2 hl2 hb) (sched_any l2 hl2 hb) r2constants_any (fun k _ => round_any (rto x (sched l2) k) (kn.getD k 0) ((sched l2).getD k 0))
    (fun w => by rw [eP, eQ, eb]; exact eql8 _ _ w) (fun w => eql8 x y w) (fun w => by rw [eP]; exact eql8_self _ w)
    (fun w => by generalize decide (x.list = y.list) = b; cases b <;> kernel_rfl) w

theorem own : ownKnob Try.prog.godebug = none := by kernel_rfl
theorem laidOut : laidOutB Try.prog = true := by kernel_rfl
set_option maxRecDepth 100000 in
theorem lifted (os : Os) (started : os.Started) (H : Type) (enc : TypeId × Value → H) :
    ReturnsInHanded {} Try.checked os 14 .any (Rows.blockApartSpec.pre6 enc Try.prog Try.f14 Rows.blockApartRow.domain false) (Rows.blockApartSpec.post enc Try.prog Try.f14 false true false false) := by
  refine returnsInHanded_of_change (C := Try.checked) own started (by kernel_rfl) Try.func14
    (ChangeSpec.witness6 (enc := enc) (C := Try.checked) false ⟨#[], #[.agg (row .u32 (List.replicate 8 0)), .agg (row .u32 (List.replicate 8 0)), .agg (row .u8 (List.replicate 64 0))], []⟩ 8 (by kernel_rfl) (by kernel_rfl) (by kernel_rfl) (by kernel_rfl)) ?_
  intro W base args ds gs before hval0 hW hcnd _
  have hval : ∀ (j : Nat) t v, Try.f14.params[j]? = some t → args[j]? = some v → Value.okWide Try.prog W .any base t v := hval0
  have hW' := hW
  obtain ⟨p, q, hA0, hV, rfl, hfz, hnd⟩ := hW
  have hA : DataW.TrodAll enc Try.prog W 0 (fun _ => true) true Try.f14.params.toList args.toList ds p := hA0
  rw [Try.params14] at hA hval
  obtain ⟨v0, vs0, d0, ds0, p0, q0, hargs, rfl, rfl, h0, r0⟩ := trodAll_cons hA
  obtain ⟨v1, vs1, d1, ds1, p1, q1, rfl, rfl, rfl, h1, r1⟩ := trodAll_cons r0
  obtain ⟨v2, vs2, d2, ds2, p2, q2, rfl, rfl, rfl, h2, r2⟩ := trodAll_cons r1
  obtain ⟨rfl, rfl, rfl⟩ := trodAll_nil r2
  obtain rfl : args = #[v0, v1, v2] := by cases args; simp_all
  obtain ⟨rfl, rfl⟩ := trodVars_none hV
  have k0 := h0
  have lt0 : ∀ x ∈ p0, x.block < W.heap.size := by obtain ⟨m, hm⟩ := k0; exact DataW.trod_lt m _ _ _ hm
  obtain ⟨l0, rfl, hl0, wl0⟩ := open_row Try.underlying25 Try.underlying23 (by kernel_rfl) (by kernel_rfl) (hval 0 25 v0 rfl rfl) h0
  have k1 := h1
  have lt1 : ∀ x ∈ p1, x.block < W.heap.size := by obtain ⟨m, hm⟩ := k1; exact DataW.trod_lt m _ _ _ hm
  obtain ⟨l1, rfl, hl1, wl1⟩ := open_row Try.underlying25 Try.underlying23 (by kernel_rfl) (by kernel_rfl) (hval 1 25 v1 rfl rfl) h1
  have k2 := h2
  have lt2 : ∀ x ∈ p2, x.block < W.heap.size := by obtain ⟨m, hm⟩ := k2; exact DataW.trod_lt m _ _ _ hm
  obtain ⟨l2, rfl, hl2, wl2⟩ := open_row Try.underlying38 Try.underlying5 (by kernel_rfl) (by kernel_rfl) (hval 2 38 v2 rfl rfl) h2
  clear hA0 hval0
  refine (walk l0 l1 l2 hl0 wl0 hl1 wl1 hl2 wl2 W).mono fun e W' ⟨he, bel⟩ => ?_
  subst he
  exact ⟨_, rfl, _, _, _, [], _, [], hW', trodAll_mk1 (shut_bool Try.underlying4 _), (trodAll_cons_mk (Below.trod laidOut (by kernel_rfl) (of_decide_eq_true (by kernel_rfl)) k0 bel lt0) (trodAll_cons_mk (Below.trod laidOut (by kernel_rfl) (of_decide_eq_true (by kernel_rfl)) k1 bel lt1) (trodAll_cons_mk (Below.trod laidOut (by kernel_rfl) (of_decide_eq_true (by kernel_rfl)) k2 bel lt2) trodAll_mk0))), rfl, bel.frame _, fun h => by cases h⟩
theorem over : Rows.blockApartRow.holds Try.pinned (OpenSpec.ofChange Rows.blockApartSpec) :=
  OpenClaim.holds_of_wide 14 Try.f14 rfl rfl rfl rfl rfl rfl rfl ⟨rfl, rfl, rfl, rfl, rfl⟩ rfl rfl rfl rfl rfl (by kernel_rfl) Try.func14 (by kernel_rfl)
    (of_decide_eq_true (by kernel_rfl)) (by unfold Func.isWrapper; first | (rw [if_pos (by decide +kernel)]; kernel_rfl) | (rw [if_neg (by decide +kernel)]; exact ⟨rfl, rfl⟩))
    (fun os started H enc _ => lifted os started H enc)
theorem proved : Rows.BlockApartSaid := over
#print axioms proved
end Go.Proofs.Ytmcpiclmbehlnaa.blockApartDone
