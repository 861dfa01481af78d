/- The statement BlockWords: a block's first sixteen words are its bytes; each other one is told by the sixteen ahead of it. No condition. -/
import Derived.Test.YtmcpiclmbehlnaaBlockAwake
import Derived.Test.YtmcpiclmbehlnaaBlockRef
import Derived.Test.YtmcpiclmbehlnaaBitsRef
import Derived.OpenShut
import Derived.ShutString
import Derived.ChangeOld
namespace Go.Proofs.Ytmcpiclmbehlnaa.blockWordsDone
open Go.ChangeShapes Go.WideShapes Go.ChangeAt Go.RowKit
set_option linter.unusedVariables false
set_option linter.unusedSimpArgs false
attribute [local go_sem] U_wadd U_wsub takes comesTo

theorem schedTo_keep (l : List Int) (j : Nat) : ∀ t, j < t → t ≤ 64 → (schedTo l t).getD j 0 = nextW l (schedTo l j) j
  | 0, h, _ => by omega
  | t + 1, h, h64 => by
    rw [schedTo, List.getD_eq_getElem?_getD]
    by_cases e : t = j
    · subst e
      rw [List.getElem?_set_self (by rw [schedTo_len]; omega)]
      rfl
    · rw [List.getElem?_set_ne e, ← List.getD_eq_getElem?_getD]
      exact schedTo_keep l j t (by omega) (by omega)
theorem sched_at (l : List Int) (j : Nat) (h : j < 64) : (sched l).getD j 0 = nextW l (schedTo l j) j := schedTo_keep l j 64 h (by omega)
theorem sched_low (l : List Int) (j : Nat) (h : j < 16) : (sched l).getD j 0 = wordI (l.getD (4 * j) 0) (l.getD (4 * j + 1) 0) (l.getD (4 * j + 2) 0) (l.getD (4 * j + 3) 0) := by
  rw [sched_at l j (by omega)]
  unfold nextW
  rw [if_pos h]
theorem schedTo_sched (l : List Int) (t j : Nat) (h : j < t) (ht : t ≤ 64) : (schedTo l t).getD j 0 = (sched l).getD j 0 := by
  rw [sched_at l j (by omega), schedTo_keep l j t h ht]
theorem sched_high (l : List Int) (t : Nat) (h16 : 16 ≤ t) (h : t < 64) :
    (sched l).getD t 0 = small1 ((sched l).getD (t - 2) 0) + (sched l).getD (t - 7) 0 + small0 ((sched l).getD (t - 15) 0) + (sched l).getD (t - 16) 0 := by
  rw [sched_at l t h]
  unfold nextW
  rw [if_neg (by omega), schedTo_sched l t (t - 2) (by omega) (by omega), schedTo_sched l t (t - 7) (by omega) (by omega), schedTo_sched l t (t - 15) (by omega) (by omega), schedTo_sched l t (t - 16) (by omega) (by omega)]
theorem bv_told (a b c d : BitVec 32) : a + b + c + d - a - b - c = d := by
  rw [show a + b + c + d = d + c + b + a by ac_rfl]
  simp only [BitVec.add_sub_cancel]
set_option maxHeartbeats 400000 in
theorem walk0 (m0 r : Array Value) (a1 : Int) (hm : m0.size = 64) (hr : r.size = 64) (ho : r.all (·.oneCell') = true) (i t : Nat) (hb : 0 ≤ a1 ∧ a1 ≤ 255) (hi : a1 % 16 = i) (ht : 16 + a1 % 48 = t)
    (n0 n1 n2 n3 : Int) (b0 : 0 ≤ n0 ∧ n0 ≤ 255) (b1 : 0 ≤ n1 ∧ n1 ≤ 255) (b2 : 0 ≤ n2 ∧ n2 ≤ 255) (b3 : 0 ≤ n3 ∧ n3 ≤ 255)
    (e0 : m0[4 * i]? = some (.int .u8 n0)) (e1 : m0[4 * i + 1]? = some (.int .u8 n1)) (e2 : m0[4 * i + 2]? = some (.int .u8 n2)) (e3 : m0[4 * i + 3]? = some (.int .u8 n3))
    (wi wt w2 w7 w15 w16 : BitVec 32) (ei : r[i]? = some (.int .u32 (U wi))) (et : r[t]? = some (.int .u32 (U wt))) (f2 : r[t - 2]? = some (.int .u32 (U w2))) (f7 : r[t - 7]? = some (.int .u32 (U w7)))
    (f15 : r[t - 15]? = some (.int .u32 (U w15))) (f16 : r[t - 16]? = some (.int .u32 (U w16))) (hwi : wi = wordI n0 n1 n2 n3) (hwt : wt - small1 w2 - w7 - small0 w15 = w16)
    (h1 : ∀ w : World, Calls Try.prog 35 #[.agg m0] w fun e w' => e = .returned (.agg r) ∧ Below w.heap.size w w') (w : World) :
    Calls Try.prog 12 #[.agg m0, .int .u8 a1] w fun e w' => e = .returned (.bool true) ∧ Below w.heap.size w w' := by
  have ha := alloc64
  have HM := Lib.hid hm
  have HR := Lib.hid (And.intro hr ho)
  have HO := Lib.hid (or_word b0 b1 b2 b3)
  have H1 := Lib.hid h1
  have HE := Lib.hid (And.intro e0 (And.intro e1 (And.intro e2 e3)))
  have HF := Lib.hid (And.intro et (And.intro f2 (And.intro f7 (And.intro f15 (And.intro f16 ei)))))
  have HWI := Lib.hid hwi
  have HWT := Lib.hid hwt
  have HB := Lib.hid (And.intro b0 (And.intro b1 (And.intro b2 b3)))
  clear hm hr ho h1 e0 e1 e2 e3 ei et f2 f7 f15 f16 hwi hwt b0 b1 b2 b3
  obtain ⟨hb0, hb1⟩ := hb
  have hi1 : (i : Int) < 16 := by omega
  have ht0 : 16 ≤ t := by omega
  have ht1 : (t : Int) < 64 := by omega
  have st : IntKind.i64.wrap ((t : Int)) = (t : Int) := by rw [IntKind.wrap_i64]; omega
  go_enter Try.func12, Try.ntmps12
  go_wp2_with fail
  refine (awake2_any _).mono ?_
  rintro e w1 ⟨rfl, b1⟩
  have hm0 := BC_blk1 b1 (heap_alloc_new w (.cells m0 38))
  go_wp2_with (refine wpList_load_row (o := ⟨some 12, _, _, _, _, _⟩) rfl 38 _ rfl _ rfl _ m0 _ _ (by exact hm0) Try.underlying38 rfl (by rw [HM.out]; kernel_rfl) ?_)
  refine (H1.out _).mono ?_
  rintro e w2 ⟨rfl, b2⟩
  have HH := Lib.hid (And.intro (BC_blk1 b2 hm0) (BC_below (BC_below (below1 w (.cells m0 38)) (below1 w _).size b1) (BC_below (below1 w (.cells m0 38)) (below1 w _).size b1).size b2))
  clear hm0 b1 b2
  go_wp2_with (refine wpList_store_rowTo (o := ⟨none, .store 39 _ _, _, _, _, _⟩) rfl 39 _ _ rfl rfl _ r rfl rfl 39 z64 (by exact heap_alloc_new _ _) (by rw [HR.out.1]; kernel_rfl) (by rw [HR.out.1]; kernel_rfl) HR.out.2 ?_; rw [World.setRow_alloc_new])
  clear ha
  refine abs_world (fun W => W.heap[w.heap.size]? = some (.cells m0 38 (0, 0)) ∧ W.heap[w2.heap.size]? = some (.cells r 39 (0, 0)) ∧ Below w.heap.size w W) ⟨blk_old HH.out.1 _, heap_alloc_new _ _, HH.out.2.alloc HH.out.2.size _⟩ ?_
  clear HH
  generalize w2.heap.size = g
  intro wr hr
  have HH := Lib.hid hr
  clear hr
  have c0 := QC_cell (cell_row HH.out.1 (4 * i) HE.out.1)
  have c1 := QC_cell (cell_row HH.out.1 (4 * i + 1) HE.out.2.1)
  have c2 := QC_cell (cell_row HH.out.1 (4 * i + 2) HE.out.2.2.1)
  have c3 := QC_cell (cell_row HH.out.1 (4 * i + 3) HE.out.2.2.2)
  have s0 : IntKind.i64.wrap (4 * (i : Int)) = 4 * (i : Int) := by rw [IntKind.wrap_i64]; omega
  have v0 : 0 ≤ 4 * (i : Int) := by omega
  have z0 : 4 * (i : Int) < 64 := by omega
  have t0 : (4 * (i : Int)).toNat = 4 * i := by omega
  have s1 : IntKind.i64.wrap (4 * (i : Int) + 1) = 4 * (i : Int) + 1 := by rw [IntKind.wrap_i64]; omega
  have v1 : 0 ≤ 4 * (i : Int) + 1 := by omega
  have z1 : 4 * (i : Int) + 1 < 64 := by omega
  have t1 : (4 * (i : Int) + 1).toNat = 4 * i + 1 := by omega
  have s2 : IntKind.i64.wrap (4 * (i : Int) + 2) = 4 * (i : Int) + 2 := by rw [IntKind.wrap_i64]; omega
  have v2 : 0 ≤ 4 * (i : Int) + 2 := by omega
  have z2 : 4 * (i : Int) + 2 < 64 := by omega
  have t2 : (4 * (i : Int) + 2).toNat = 4 * i + 2 := by omega
  have s3 : IntKind.i64.wrap (4 * (i : Int) + 3) = 4 * (i : Int) + 3 := by rw [IntKind.wrap_i64]; omega
  have v3 : 0 ≤ 4 * (i : Int) + 3 := by omega
  have z3 : 4 * (i : Int) + 3 < 64 := by omega
  have t3 : (4 * (i : Int) + 3).toNat = 4 * i + 3 := by omega
  have x0 : IntKind.u32.wrap n0 = n0 := by have := HB.out; rw [IntKind.wrap_u32']; omega
  have x1 : IntKind.u32.wrap n1 = n1 := by have := HB.out; rw [IntKind.wrap_u32']; omega
  have x2 : IntKind.u32.wrap n2 = n2 := by have := HB.out; rw [IntKind.wrap_u32']; omega
  have x3 : IntKind.u32.wrap n3 = n3 := by have := HB.out; rw [IntKind.wrap_u32']; omega
  have y0 : IntKind.u32.wrap (n0 * 16777216) = n0 * 16777216 := by have := HB.out; rw [IntKind.wrap_u32']; omega
  have y1 : IntKind.u32.wrap (n1 * 65536) = n1 * 65536 := by have := HB.out; rw [IntKind.wrap_u32']; omega
  have y2 : IntKind.u32.wrap (n2 * 256) = n2 * 256 := by have := HB.out; rw [IntKind.wrap_u32']; omega
  have ho := HO.out
  have hS := @QC_all wr
  haveI := QC_inst wr
  go_wp2_with fail
  refine wp_region_head (QC wr) 30 (by kernel_rfl) (by kernel_rfl) (QC_start _) ?_
  simp only [List.take_succ_cons, List.take_zero, List.drop_succ_cons, List.drop_zero]
  repeat (first
    | (refine headG_step (fun K hK => ?_)
       go_simp
       first
         | (refine hK _ ?_; clear hK K)))
  refine headG_nil ?_
  intro w3 hw3
  rw [← HWI.out]
  have HH2 := Lib.hid (And.intro (QC_blk1 hw3 HH.out.1) (And.intro (QC_blk1 hw3 HH.out.2.1) (QC_below HH.out.2.2 hw3)))
  clear hw3 hS c0 c1 c2 c3 s0 v0 z0 t0 s1 v1 z1 t1 s2 v2 z2 t2 s3 v3 z3 t3 x0 x1 x2 x3 y0 y1 y2 ho HO HE HB HH
  have c0 := QC_cell (cell_row HH2.out.2.1 t HF.out.1)
  have c2 := QC_cell (cell_row HH2.out.2.1 (t - 2) HF.out.2.1)
  have c7 := QC_cell (cell_row HH2.out.2.1 (t - 7) HF.out.2.2.1)
  have c15 := QC_cell (cell_row HH2.out.2.1 (t - 15) HF.out.2.2.2.1)
  have s2 : IntKind.i64.wrap ((t : Int) - 2) = (t : Int) - 2 := by rw [IntKind.wrap_i64]; omega
  have v2 : 0 ≤ (t : Int) - 2 := by omega
  have z2 : (t : Int) - 2 < 64 := by omega
  have t2 : ((t : Int) - 2).toNat = t - 2 := by omega
  have u2 : (2 : Int) ≤ (t : Int) := by omega
  have s7 : IntKind.i64.wrap ((t : Int) - 7) = (t : Int) - 7 := by rw [IntKind.wrap_i64]; omega
  have v7 : 0 ≤ (t : Int) - 7 := by omega
  have z7 : (t : Int) - 7 < 64 := by omega
  have t7 : ((t : Int) - 7).toNat = t - 7 := by omega
  have u7 : (7 : Int) ≤ (t : Int) := by omega
  have s15 : IntKind.i64.wrap ((t : Int) - 15) = (t : Int) - 15 := by rw [IntKind.wrap_i64]; omega
  have v15 : 0 ≤ (t : Int) - 15 := by omega
  have z15 : (t : Int) - 15 < 64 := by omega
  have t15 : ((t : Int) - 15).toNat = t - 15 := by omega
  have u15 : (15 : Int) ≤ (t : Int) := by omega
  have hS := @QC_all w3
  haveI := QC_inst w3
  go_wp2_with fail
  refine wp_region_head (QC w3) 21 (by kernel_rfl) (by kernel_rfl) (QC_start _) ?_
  simp only [List.take_succ_cons, List.take_zero, List.drop_succ_cons, List.drop_zero]
  repeat (first
    | (refine headG_step (fun K hK => ?_)
       go_simp
       first
         | (refine hK _ ?_; clear hK K)
         | (apply Exists.intro
            refine ⟨fun x => ?_, hK _ ?_⟩
            (first
              | (go_at_call 33; exact QC_call x (refSmall1_any _ _))
              | (go_at_call 31; exact QC_call x (refSmall0_any _ _)))
            clear hK K)))
  refine headG_nil ?_
  intro w4 hw4
  rw [HWT.out]
  have c1 := cell_row (QC_blk1 hw4 HH2.out.2.1) i HF.out.2.2.2.2.2
  have c6 := cell_row (QC_blk1 hw4 HH2.out.2.1) (t - 16) HF.out.2.2.2.2.1
  have HX := Lib.hid (QC_below HH2.out.2.2 hw4)
  clear hw4 hS c0 c2 c7 c15 s2 v2 z2 t2 s7 v7 z7 t7 s15 v15 z15 t15
  have s16 : IntKind.i64.wrap ((t : Int) - 16) = (t : Int) - 16 := by rw [IntKind.wrap_i64]; omega
  have v16 : 0 ≤ (t : Int) - 16 := by omega
  have z16 : (t : Int) - 16 < 64 := by omega
  have t16 : ((t : Int) - 16).toNat = t - 16 := by omega
  have u16 : (16 : Int) ≤ (t : Int) := by omega
  go_wp2_with fail
  go_ret
  exact ⟨rfl, HX.out⟩

theorem walk (l0 : List Int) (a1 : Int) (hl0 : l0.length = 64) (wl0 : ∀ x ∈ l0, (Lit.int .u8 x).wf = true) (w1 : (Lit.int .u8 a1).wf = true) (w : World) :
    Calls Try.prog 12 #[.agg (row .u8 l0), .int .u8 a1] w fun e w' => e = .returned (.bool true) ∧ Below w.heap.size w w' := by
  have HB := bytes_of wl0
  have hb : 0 ≤ a1 ∧ a1 ≤ 255 := by
    simp [Lit.wf, IntKind.min, IntKind.max, IntKind.signed, IntKind.bits] at w1
    omega
  have hsl := sched_len l0
  obtain ⟨i, hi⟩ := Int.eq_ofNat_of_zero_le (show 0 ≤ a1 % 16 by omega)
  obtain ⟨t, ht⟩ := Int.eq_ofNat_of_zero_le (show 0 ≤ 16 + a1 % 48 by omega)
  have hi16 : i < 16 := by omega
  have ht16 : 16 ≤ t := by omega
  have ht64 : t < 64 := by omega
  exact walk0 (row .u8 l0) (rowU (sched l0)) a1 (by rw [row_size, hl0]) (by rw [rowU_size, hsl]) (rowU_one _) i t hb hi ht _ _ _ _ (HB _) (HB _) (HB _) (HB _)
    (row_get .u8 l0 _ (by omega)) (row_get .u8 l0 _ (by omega)) (row_get .u8 l0 _ (by omega)) (row_get .u8 l0 _ (by omega)) _ _ _ _ _ _
    (rowU_get _ _ (by omega)) (rowU_get _ _ (by omega)) (rowU_get _ _ (by omega)) (rowU_get _ _ (by omega)) (rowU_get _ _ (by omega)) (rowU_get _ _ (by omega))
    (sched_low l0 i hi16) (by rw [sched_high l0 t ht16 ht64, bv_told]) (sched_any l0 hl0 HB) w
theorem own : ownKnob Try.prog.godebug = none := by kernel_rfl
theorem laidOut : laidOutB Try.prog = true := by kernel_rfl
set_option maxRecDepth 100000 in
theorem lifted (os : Os) (started : os.Started) (H : Type) (enc : TypeId × Value → H) :
    ReturnsInHanded {} Try.checked os 12 .any (Rows.blockWordsSpec.pre6 enc Try.prog Try.f12 Rows.blockWordsRow.domain false) (Rows.blockWordsSpec.post enc Try.prog Try.f12 false true false false) := by
  refine returnsInHanded_of_change (C := Try.checked) own started (by kernel_rfl) Try.func12
    (ChangeSpec.witness6 (enc := enc) (C := Try.checked) false ⟨#[], #[.agg (row .u8 (List.replicate 64 0)), .int .u8 0], []⟩ 8 (by kernel_rfl) (by kernel_rfl) (by kernel_rfl) (by kernel_rfl)) ?_
  intro W base args ds gs before hval0 hW hcnd _
  have hval : ∀ (j : Nat) t v, Try.f12.params[j]? = some t → args[j]? = some v → Value.okWide Try.prog W .any base t v := hval0
  have hW' := hW
  obtain ⟨p, q, hA0, hV, rfl, hfz, hnd⟩ := hW
  have hA : DataW.TrodAll enc Try.prog W 0 (fun _ => true) true Try.f12.params.toList args.toList ds p := hA0
  rw [Try.params12] at hA hval
  obtain ⟨v0, vs0, d0, ds0, p0, q0, hargs, rfl, rfl, h0, r0⟩ := trodAll_cons hA
  obtain ⟨v1, vs1, d1, ds1, p1, q1, rfl, rfl, rfl, h1, r1⟩ := trodAll_cons r0
  obtain ⟨rfl, rfl, rfl⟩ := trodAll_nil r1
  obtain rfl : args = #[v0, v1] := by cases args; simp_all
  obtain ⟨rfl, rfl⟩ := trodVars_none hV
  have k0 := h0
  have lt0 : ∀ x ∈ p0, x.block < W.heap.size := by obtain ⟨m, hm⟩ := k0; exact DataW.trod_lt m _ _ _ hm
  obtain ⟨l0, rfl, hl0, wl0⟩ := open_row Try.underlying38 Try.underlying5 (by kernel_rfl) (by kernel_rfl) (hval 0 38 v0 rfl rfl) h0
  obtain ⟨a1, rfl, rfl, rfl, w1⟩ := open_int Try.underlying5 (hval 1 5 v1 rfl rfl) h1
  clear hA0 hval0
  refine (walk l0 a1 hl0 wl0 w1 W).mono fun e W' ⟨he, bel⟩ => ?_
  subst he
  exact ⟨_, rfl, _, _, _, [], _, [], hW', trodAll_mk1 (shut_bool Try.underlying4 _), (trodAll_cons_mk (Below.trod laidOut (by kernel_rfl) (of_decide_eq_true (by kernel_rfl)) k0 bel lt0) (trodAll_cons_mk (shut_int Try.underlying5 w1) trodAll_mk0)), rfl, bel.frame _, fun h => by cases h⟩
theorem over : Rows.blockWordsRow.holds Try.pinned (OpenSpec.ofChange Rows.blockWordsSpec) :=
  OpenClaim.holds_of_wide 12 Try.f12 rfl rfl rfl rfl rfl rfl rfl ⟨rfl, rfl, rfl, rfl, rfl⟩ rfl rfl rfl rfl rfl (by kernel_rfl) Try.func12 (by kernel_rfl)
    (of_decide_eq_true (by kernel_rfl)) (by unfold Func.isWrapper; first | (rw [if_pos (by decide +kernel)]; kernel_rfl) | (rw [if_neg (by decide +kernel)]; exact ⟨rfl, rfl⟩))
    (fun os started H enc _ => lifted os started H enc)
theorem proved : Rows.BlockWordsSaid := over
#print axioms proved
end Go.Proofs.Ytmcpiclmbehlnaa.blockWordsDone
