/- The statement ShaPieces: in whatever pieces bytes are written, and whatever is told between, the digest is that of all of them. No condition. -/
import Derived.Test.YtcijdceomgdakaaShaAwake
import Derived.Test.YtcijdceomgdakaaOpenB
import Derived.Test.YtcijdceomgdakaaRef03Sum
import Derived.Test.YtcijdceomgdakaaOpenS
import Derived.OpenShut
import Derived.ShutString
import Derived.ChangeOld
namespace Go.Proofs.Ytcijdceomgdakaa.shaPiecesDone
open Go.ChangeShapes Go.WideShapes Go.ChangeAt Go.RowKit
set_option linter.unusedVariables false
set_option linter.unusedSimpArgs false

theorem eqd (l : List Int) (hl : l.length = 32) (w : World) : (binOp .eql 25 (.agg (row .u8 l)) (.agg (row .u8 l))).run Try.prog w = .ok (.bool true) w := by
  have h := run_eql_row w 25 5 32 .u8 Try.underlying25 Try.underlying5 (by kernel_rfl) l l hl hl
  rw [decide_eq_true (rfl : l = l)] at h
  exact h

theorem neqd (l : List Int) (hl : l.length = 32) (w : World) : (binOp .neq 25 (.agg (row .u8 l)) (.agg (row .u8 l))).run Try.prog w = .ok (.bool false) w := by
  have h := run_neq_row w 25 5 32 .u8 Try.underlying25 Try.underlying5 (by kernel_rfl) l l hl hl
  rw [decide_eq_true (rfl : l = l)] at h
  exact h
theorem hash_grown {w w' : World} {g : Nat} {l : List Int} {r : Option Nat} (h : HashAt w g l) (hg : w.grownBy w' r) (hn : some g ≠ r) : HashAt w' g l := by
  obtain ⟨x, p, hs, hb⟩ := h
  exact ⟨x, p, hs, grown_blk hg hb hn⟩
set_option maxHeartbeats 2000000 in
theorem walk (v0 : Value) (n : Nat) (w : World) (hs0 : SlSl w v0 n) :
    Calls Try.prog 5 #[v0] w fun e w' => e = .returned (.bool true) ∧ Below w.heap.size w w' := by
  obtain ⟨a, cap, rfl, hs⟩ := hs0
  have HSL := Lib.hid hs
  clear hs
  go_enter Try.func5, Try.ntmps5
  go_wp2_with fail
  refine (awake3_any _).mono ?_
  rintro e w1 ⟨rfl, b1⟩
  go_wp2_with fail
  refine (new_h _).mono ?_
  rintro e w2 ⟨g, rfl, hg1, hg2, b2⟩
  have H2 := Lib.hid (And.intro (Nat.le_trans b1.size hg1) (And.intro hg2 (b1.trans (b2.mono b1.size))))
  clear hg1 hg2 b1 b2
  go_wp2_with fail
  go_loopw [5, 6] (fun v i wr => ∃ (A : List Int) (k : Nat), k ≤ 30 ∧ k ≤ n ∧ i = .int .i64 (k : Int) ∧ Bytes A ∧ A.length ≤ 4000 ∧ Own w.heap.size wr v A ∧ (∀ b, v.ownBlock = some b → g < b) ∧ HashAt wr g A ∧ Below w.heap.size w wr) (fun _ i _ => 30 - (intOf i).toNat)
  case atStart => exact ⟨[], 0, by omega, by omega, rfl, bytes_nil, by simp, Own.nil _ _, (fun b h => by simp [Value.ownBlock] at h), H2.out.2.1, H2.out.2.2⟩
  case round =>
    have HG := Lib.hid H2.out.1
    clear H2
    obtain ⟨A, k, hk30, hkn, rfl, hAb, hAl, hown, hblk, hash, hbe⟩ := hrel
    have HF := Lib.hid (And.intro hAl (And.intro hAb (And.intro hash (And.intro hown hbe))))
    have HBK := Lib.hid hblk
    obtain ⟨gv, ⟨av, capv, rfl, _⟩, _, _⟩ := hown.slv
    have HKN := Lib.hid (And.intro hk30 hkn)
    clear hash hbe hblk hown
    by_cases hlt : k < n ∧ k < 30
    · obtain ⟨B, O, rfl, hcell⟩ := HSL.out (by omega)
      obtain ⟨c, b, o, l, hc, hv, hl, hlb, hlr⟩ := hcell k hlt.1
      obtain ⟨al, capl, rfl, _⟩ := id hv
      have HCL := Lib.hid (And.intro hv (And.intro hl (And.intro hlb (And.intro hlr hc))))
      have HLT := Lib.hid hlt
      have hk1 : (k : Int) < (n : Int) := by omega
      have hk2 : (k : Int) < 30 := by omega
      have hk3 : (0 : Int) ≤ (k : Int) := by omega
      have cc := HF.out.2.2.2.2.cell (block_lt_of_cell hc)
      rw [hc] at cc
      clear hcell hv hl hc
      generalize hLA : A.length = LA at *
      generalize hLL : l.length = LL at *
      have s1 : IntKind.i64.wrap ((LA : Int) + (LL : Int)) = ((LA + LL : Nat) : Int) := by rw [IntKind.wrap_i64]; omega
      have HLL := Lib.hid (And.intro hLA hLL)
      have hbig : LA + LL ≤ 4000 ∨ (4000 : Int) < ((LA + LL : Nat) : Int) := by omega
      clear hLA hLL hlt hlb hlr hAl hAb hk30 hkn
      rcases hbig with hbig | hbig
      · have hb2 : ¬ (4000 : Int) < ((LA + LL : Nat) : Int) := by omega
        have HBIG := Lib.hid hbig
        clear hbig
        go_wp2_with fail
        refine (write_h A l HCL.out.2.2.1 (by rw [HLL.out.1, HLL.out.2]; have := HBIG.out; omega) g b o (fun h => by have := HCL.out.2.1.lt h; have := HG.out; omega) _ (by rw [HLL.out.2]; exact HCL.out.1) wr HF.out.2.2.1 (fun j hj => (HF.out.2.2.2.2.cell (block_lt_of_cell (HCL.out.2.1 j hj))).trans (HCL.out.2.1 j hj))).mono ?_
        rintro e w4 ⟨rfl, hbut, hash4⟩
        have cc4 := hbut.cell cc (show B ≠ g by have hb : B < w.heap.size := block_lt_of_cell HCL.out.2.2.2.2; have := HG.out; omega)
        have H4 := Lib.hid (And.intro hash4 (And.intro (HF.out.2.2.2.1.but hbut (fun h => by have := HBK.out _ h; omega)) (hbut.below w.heap.size w HG.out HF.out.2.2.2.2.size HF.out.2.2.2.2)))
        clear hbut hash4 cc
        have he := neqd (sumF (A ++ l)) (sumF_len (A ++ l))
        generalize hS : row .u8 (sumF (A ++ l)) = S at *
        have HS := Lib.hid hS
        clear hS
        go_wp2_with (at_builtin; refine wl_append_b rfl _ _ rfl w.heap.size _ _ rfl H4.out.2.1 _ rfl b o l (by rw [HLL.out.2]; exact HCL.out.1) (fun j hj => (H4.out.2.2.cell (block_lt_of_cell (HCL.out.2.1 j hj))).trans (HCL.out.2.1 j hj)) (by rw [HLL.out.1, HLL.out.2]; have := HBIG.out; omega) H4.out.2.2.size ?_
                     intro v6 w6 hown6 hgrow6 hat6
                     have hsz4 := H4.out.1.lt
                     have H6 := Lib.hid (And.intro hown6 (And.intro (fun (bb : Nat) (hbb : v6.ownBlock = some bb) => (show g < bb from by
                       rcases hat6 with h | h
                       · exact HBK.out bb (h.symm.trans hbb)
                       · have := h.symm.trans hbb; simp at this; omega)) (And.intro (hash_grown H4.out.1 hgrow6 (fun h => by have := HBK.out g h.symm; omega)) (H4.out.2.2.grown hgrow6 H4.out.2.2.size (fun kk hk => own_block H4.out.2.1 kk hk)))))
                     clear hown6 hgrow6 hat6 hsz4)
        · refine (told_h (A ++ l) (by rw [List.length_append, HLL.out.1, HLL.out.2]; have := HBIG.out; omega) g _ H6.out.2.2.1).mono ?_
          rintro e x1 ⟨rfl, c1⟩
          rw [HS.out]
          have H7 := Lib.hid (And.intro (H6.out.1.below c1) (And.intro H6.out.2.1 (And.intro (H6.out.2.2.1.below c1) (BC_below H6.out.2.2.2 H6.out.2.2.2.size c1))))
          clear c1
          go_wp2_with fail
          obtain ⟨gA, sA, lA, _⟩ := H7.out.1.slv
          refine (sum_any (A ++ l) (bytes_app HF.out.2.1 HCL.out.2.2.1) (by rw [List.length_append, HLL.out.1, HLL.out.2]; have := HBIG.out; omega) gA 0 _ sA _ lA).mono ?_
          rintro e x2 ⟨rfl, c2⟩
          rw [HS.out]
          have H8 := Lib.hid (And.intro (H7.out.1.below c2) (And.intro H7.out.2.1 (And.intro (H7.out.2.2.1.below c2) (BC_below H7.out.2.2.2 H7.out.2.2.2.size c2))))
          clear c2 sA lA
          go_wp2_with fail
          refine ⟨⟨A ++ l, k + 1, by have := HLT.out; omega, by have := HLT.out; omega, rfl, bytes_app HF.out.2.1 HCL.out.2.2.1, by rw [List.length_append, HLL.out.1, HLL.out.2]; exact HBIG.out, H8.out.1, H8.out.2.1, H8.out.2.2.1, H8.out.2.2.2⟩, by simp [intOf]; have := HLT.out; omega⟩
        · refine ⟨⟨A ++ l, k + 1, by have := HLT.out; omega, by have := HLT.out; omega, rfl, bytes_app HF.out.2.1 HCL.out.2.2.1, by rw [List.length_append, HLL.out.1, HLL.out.2]; exact HBIG.out, H6.out.1, H6.out.2.1, H6.out.2.2.1, H6.out.2.2.2⟩, by simp [intOf]; have := HLT.out; omega⟩
      · have HLA := Lib.hid HLL.out.1
        have he := eqd (sumF A) (sumF_len A)
        generalize hS : row .u8 (sumF A) = S at *
        have HS := Lib.hid hS
        clear hS
        go_wp2_with fail
        refine (told_h A (by have := HF.out.1; have := HLA.out; omega) g _ HF.out.2.2.1).mono ?_
        rintro e x1 ⟨rfl, c1⟩
        rw [HS.out]
        have HF1 := Lib.hid (And.intro HF.out.1 (And.intro HF.out.2.1 (And.intro (HF.out.2.2.1.below c1) (And.intro (HF.out.2.2.2.1.below c1) (BC_below HF.out.2.2.2.2 HF.out.2.2.2.2.size c1)))))
        clear c1 HF
        go_wp2_with fail
        obtain ⟨gA, sA, lA, _⟩ := HF1.out.2.2.2.1.slv
        refine (sum_any A HF1.out.2.1 (by have := HF1.out.1; have := HLA.out; omega) gA 0 _ sA _ lA).mono ?_
        rintro e x2 ⟨rfl, c2⟩
        rw [HS.out]
        have HF2 := Lib.hid (And.intro HF1.out.1 (And.intro HF1.out.2.1 (And.intro (HF1.out.2.2.1.below c2) (And.intro (HF1.out.2.2.2.1.below c2) (BC_below HF1.out.2.2.2.2 HF1.out.2.2.2.2.size c2)))))
        clear c2 HF1 sA lA
        go_wp2_with fail
        refine (told_h A (by have := HF2.out.1; have := HLA.out; omega) g _ HF2.out.2.2.1).mono ?_
        rintro e x3 ⟨rfl, c3⟩
        rw [HS.out]
        have HF3 := Lib.hid (And.intro HF2.out.1 (And.intro HF2.out.2.1 (And.intro (HF2.out.2.2.1.below c3) (And.intro (HF2.out.2.2.2.1.below c3) (BC_below HF2.out.2.2.2.2 HF2.out.2.2.2.2.size c3)))))
        clear c3 HF2
        go_wp2_with fail
        obtain ⟨gA2, sA, lA, _⟩ := HF3.out.2.2.2.1.slv
        refine (r3sum_any A HF3.out.2.1 (by have := HF3.out.1; have := HLA.out; omega) gA2 0 _ sA _ lA).mono ?_
        rintro e x4 ⟨rfl, c4⟩
        rw [HS.out]
        have HF4 := Lib.hid (And.intro (HF3.out.2.2.1.below c4) (BC_below HF3.out.2.2.2.2 HF3.out.2.2.2.2.size c4))
        clear c4 HF3 sA lA
        go_wp2_with fail
        refine (len_h A g _ HF4.out.1).mono ?_
        rintro e x5 ⟨rfl, rfl⟩
        rw [HLA.out]
        go_wp2_with fail
        go_ret
        exact ⟨rfl, HF4.out.2⟩
    · generalize hLA2 : A.length = LA at *
      have HLA := Lib.hid hLA2
      clear hLA2 hAb hAl
      by_cases hn : k < n
      · have h1 : (k : Int) < (n : Int) := by omega
        have h2 : ¬ (k : Int) < 30 := by omega
        clear hlt hn hk30 hkn
        have he := eqd (sumF A) (sumF_len A)
        generalize hS : row .u8 (sumF A) = S at *
        have HS := Lib.hid hS
        clear hS
        go_wp2_with fail
        refine (told_h A (by have := HF.out.1; have := HLA.out; omega) g _ HF.out.2.2.1).mono ?_
        rintro e x1 ⟨rfl, c1⟩
        rw [HS.out]
        have HF1 := Lib.hid (And.intro HF.out.1 (And.intro HF.out.2.1 (And.intro (HF.out.2.2.1.below c1) (And.intro (HF.out.2.2.2.1.below c1) (BC_below HF.out.2.2.2.2 HF.out.2.2.2.2.size c1)))))
        clear c1 HF
        go_wp2_with fail
        obtain ⟨gA, sA, lA, _⟩ := HF1.out.2.2.2.1.slv
        refine (sum_any A HF1.out.2.1 (by have := HF1.out.1; have := HLA.out; omega) gA 0 _ sA _ lA).mono ?_
        rintro e x2 ⟨rfl, c2⟩
        rw [HS.out]
        have HF2 := Lib.hid (And.intro HF1.out.1 (And.intro HF1.out.2.1 (And.intro (HF1.out.2.2.1.below c2) (And.intro (HF1.out.2.2.2.1.below c2) (BC_below HF1.out.2.2.2.2 HF1.out.2.2.2.2.size c2)))))
        clear c2 HF1 sA lA
        go_wp2_with fail
        refine (told_h A (by have := HF2.out.1; have := HLA.out; omega) g _ HF2.out.2.2.1).mono ?_
        rintro e x3 ⟨rfl, c3⟩
        rw [HS.out]
        have HF3 := Lib.hid (And.intro HF2.out.1 (And.intro HF2.out.2.1 (And.intro (HF2.out.2.2.1.below c3) (And.intro (HF2.out.2.2.2.1.below c3) (BC_below HF2.out.2.2.2.2 HF2.out.2.2.2.2.size c3)))))
        clear c3 HF2
        go_wp2_with fail
        obtain ⟨gA2, sA, lA, _⟩ := HF3.out.2.2.2.1.slv
        refine (r3sum_any A HF3.out.2.1 (by have := HF3.out.1; have := HLA.out; omega) gA2 0 _ sA _ lA).mono ?_
        rintro e x4 ⟨rfl, c4⟩
        rw [HS.out]
        have HF4 := Lib.hid (And.intro (HF3.out.2.2.1.below c4) (BC_below HF3.out.2.2.2.2 HF3.out.2.2.2.2.size c4))
        clear c4 HF3 sA lA
        go_wp2_with fail
        refine (len_h A g _ HF4.out.1).mono ?_
        rintro e x5 ⟨rfl, rfl⟩
        rw [HLA.out]
        go_wp2_with fail
        go_ret
        exact ⟨rfl, HF4.out.2⟩
      · have h1 : ¬ (k : Int) < (n : Int) := by omega
        clear hlt hn hk30 hkn
        have he := eqd (sumF A) (sumF_len A)
        generalize hS : row .u8 (sumF A) = S at *
        have HS := Lib.hid hS
        clear hS
        go_wp2_with fail
        refine (told_h A (by have := HF.out.1; have := HLA.out; omega) g _ HF.out.2.2.1).mono ?_
        rintro e x1 ⟨rfl, c1⟩
        rw [HS.out]
        have HF1 := Lib.hid (And.intro HF.out.1 (And.intro HF.out.2.1 (And.intro (HF.out.2.2.1.below c1) (And.intro (HF.out.2.2.2.1.below c1) (BC_below HF.out.2.2.2.2 HF.out.2.2.2.2.size c1)))))
        clear c1 HF
        go_wp2_with fail
        obtain ⟨gA, sA, lA, _⟩ := HF1.out.2.2.2.1.slv
        refine (sum_any A HF1.out.2.1 (by have := HF1.out.1; have := HLA.out; omega) gA 0 _ sA _ lA).mono ?_
        rintro e x2 ⟨rfl, c2⟩
        rw [HS.out]
        have HF2 := Lib.hid (And.intro HF1.out.1 (And.intro HF1.out.2.1 (And.intro (HF1.out.2.2.1.below c2) (And.intro (HF1.out.2.2.2.1.below c2) (BC_below HF1.out.2.2.2.2 HF1.out.2.2.2.2.size c2)))))
        clear c2 HF1 sA lA
        go_wp2_with fail
        refine (told_h A (by have := HF2.out.1; have := HLA.out; omega) g _ HF2.out.2.2.1).mono ?_
        rintro e x3 ⟨rfl, c3⟩
        rw [HS.out]
        have HF3 := Lib.hid (And.intro HF2.out.1 (And.intro HF2.out.2.1 (And.intro (HF2.out.2.2.1.below c3) (And.intro (HF2.out.2.2.2.1.below c3) (BC_below HF2.out.2.2.2.2 HF2.out.2.2.2.2.size c3)))))
        clear c3 HF2
        go_wp2_with fail
        obtain ⟨gA2, sA, lA, _⟩ := HF3.out.2.2.2.1.slv
        refine (r3sum_any A HF3.out.2.1 (by have := HF3.out.1; have := HLA.out; omega) gA2 0 _ sA _ lA).mono ?_
        rintro e x4 ⟨rfl, c4⟩
        rw [HS.out]
        have HF4 := Lib.hid (And.intro (HF3.out.2.2.1.below c4) (BC_below HF3.out.2.2.2.2 HF3.out.2.2.2.2.size c4))
        clear c4 HF3 sA lA
        go_wp2_with fail
        refine (len_h A g _ HF4.out.1).mono ?_
        rintro e x5 ⟨rfl, rfl⟩
        rw [HLA.out]
        go_wp2_with fail
        go_ret
        exact ⟨rfl, HF4.out.2⟩

theorem own : ownKnob Try.prog.godebug = none := by kernel_rfl
theorem laidOut : laidOutB Try.prog = true := by kernel_rfl
set_option maxRecDepth 100000 in
theorem lifted (os : Os) (started : os.Started) (H : Type) (enc : TypeId × Value → H) :
    ReturnsInHanded {} Try.checked os 5 .any (Rows.shaPiecesSpec.pre6 enc Try.prog Try.f5 Rows.shaPiecesRow.domain false) (Rows.shaPiecesSpec.post enc Try.prog Try.f5 false true false false) := by
  refine returnsInHanded_of_change_sized (C := Try.checked) own started (by kernel_rfl) Try.func5
    (ChangeSpec.witness6 (enc := enc) (C := Try.checked) false ⟨#[], #[.slice none 0 0], []⟩ 8 (by kernel_rfl) (by kernel_rfl) (by kernel_rfl) (by kernel_rfl)) ?_
  intro W base args ds gs before hval0 hW hcnd hsz0 _
  have hsz : (DataW.weightsEach Try.prog (Try.f5.params.toList ++ Rows.shaPiecesSpec.plain.varTypes Try.prog) (ds ++ gs)).all (· ≤ reachBytes) = true := hsz0
  have hval : ∀ (j : Nat) t v, Try.f5.params[j]? = some t → args[j]? = some v → Value.okWide Try.prog W .any base t v := hval0
  have hW' := hW
  obtain ⟨p, q, hA0, hV, rfl, hfz, hnd⟩ := hW
  have hA : DataW.TrodAll enc Try.prog W 0 (fun _ => true) true Try.f5.params.toList args.toList ds p := hA0
  rw [Try.params5] at hA hval hsz
  obtain ⟨v0, vs0, d0, ds0, p0, q0, hargs, rfl, rfl, h0, r0⟩ := trodAll_cons hA
  obtain ⟨rfl, rfl, rfl⟩ := trodAll_nil r0
  obtain rfl : args = #[v0] := by cases args; simp_all
  obtain ⟨rfl, rfl⟩ := trodVars_none hV
  obtain ⟨a0, len0, cap0, rfl⟩ := okWide_slice Try.underlying30 (hval 0 30 v0 rfl rfl)
  have k0 := h0
  have lt0 : ∀ x ∈ p0, x.block < W.heap.size := by obtain ⟨m, hm⟩ := k0; exact DataW.trod_lt m _ _ _ hm
  have hs0 : SlSl W (.slice a0 len0 cap0) len0 := by
    obtain ⟨fuel, hf⟩ := h0
    exact open_slices Try.underlying30 Try.underlying22 Try.underlying5 (by kernel_rfl) (by kernel_rfl) (by kernel_rfl) hf (fun n hn => by
      have := List.all_eq_true.1 hsz n (DataW.weights_mem_each (j := 0) rfl rfl n hn)
      simpa using this)
  clear hA0 hval0
  refine (walk (.slice a0 len0 cap0) len0 W hs0).mono fun e W' ⟨he, bel⟩ => ?_
  subst he
  exact ⟨_, rfl, _, _, _, [], _, [], hW', trodAll_mk1 (shut_bool Try.underlying4 _), (trodAll_cons_mk (Below.trod laidOut (by kernel_rfl) (of_decide_eq_true (by kernel_rfl)) k0 bel lt0) trodAll_mk0), rfl, bel.frame _, fun h => by cases h⟩
theorem over : Rows.shaPiecesRow.holds Try.pinned (OpenSpec.ofChange Rows.shaPiecesSpec) :=
  OpenClaim.holds_of_wide 5 Try.f5 rfl rfl rfl rfl rfl rfl rfl ⟨rfl, rfl, rfl, rfl, rfl⟩ rfl rfl rfl rfl rfl (by kernel_rfl) Try.func5 (by kernel_rfl)
    (of_decide_eq_true (by kernel_rfl)) (by unfold Func.isWrapper; first | (rw [if_pos (by decide +kernel)]; kernel_rfl) | (rw [if_neg (by decide +kernel)]; exact ⟨rfl, rfl⟩))
    (fun os started H enc _ => lifted os started H enc)
theorem proved : Rows.ShaPiecesSaid := over
#print axioms proved
end Go.Proofs.Ytcijdceomgdakaa.shaPiecesDone
