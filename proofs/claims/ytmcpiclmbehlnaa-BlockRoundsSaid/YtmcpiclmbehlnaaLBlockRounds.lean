/- The statement BlockRounds: any words behind a round are the reference's; its constants are made of roots. No condition. -/
import Derived.Test.YtmcpiclmbehlnaaBlockAwake
import Derived.Test.YtmcpiclmbehlnaaBlockRef
import Derived.Test.YtmcpiclmbehlnaaBitsKRef
import Derived.OpenShut
import Derived.ShutString
import Derived.ChangeOld
namespace Go.Proofs.Ytmcpiclmbehlnaa.blockRoundsDone
open Go.ChangeShapes Go.WideShapes Go.ChangeAt Go.RowKit
set_option linter.unusedVariables false
set_option linter.unusedSimpArgs false
attribute [local go_sem] U_wadd takes comesTo

theorem eql8_self (y : W8) (w : World) : (binOp .eql 25 (.agg y.row) (.agg y.row)).run Try.prog w = .ok (.bool true) w := by
  have h := eql8 y y w
  rw [decide_eq_true (rfl : y.list = y.list)] at h
  exact h

set_option maxHeartbeats 400000 in
theorem walk0 (r0 v k0 : Array Value) (hz : r0.size = 8) (a1 a2 : Int) (i : Nat) (q : BitVec 32) (hb : 0 ≤ a2 ∧ a2 < 4294967296) (hi : a2 % 64 = i)
    (h1 : ∀ w : World, Calls Try.prog 38 #[.agg r0, .int .u32 a1, .int .u32 a2] w fun e w' => e = .returned (.agg v) ∧ Below w.heap.size w w')
    (h2 : ∀ w : World, Calls Try.prog 39 #[.agg r0, .int .u32 a1, .int .u32 a2] w fun e w' => e = .returned (.agg v) ∧ Below w.heap.size w w')
    (h3 : ∀ w : World, Calls Try.prog 37 #[] w fun e w' => e = .returned (.agg k0) ∧ Below w.heap.size w w')
    (h4 : ∀ w : World, Calls Try.prog 17 #[.int .i64 i] w fun e w' => e = .returned (.int .u32 (U q)) ∧ Below w.heap.size w w')
    (hx : ∀ w, (Instr.index 39 (.agg k0) (.int .i64 (i : Int))).run Try.prog w = .ok (.int .u32 (U q)) w)
    (he : ∀ w, (binOp .eql 25 (.agg v) (.agg v)).run Try.prog w = .ok (.bool true) w) (w : World) :
    Calls Try.prog 10 #[.agg r0, .int .u32 a1, .int .u32 a2] w fun e w' => e = .returned (.bool true) ∧ Below w.heap.size w w' := by
  have HZ := Lib.hid hz
  have H1 := Lib.hid h1
  have H2 := Lib.hid h2
  have H3 := Lib.hid h3
  have H4 := Lib.hid h4
  clear hz h1 h2 h3 h4
  obtain ⟨hb0, hb1⟩ := hb
  have hi0 : 0 ≤ (i : Int) := by omega
  have hi1 : (i : Int) < 64 := by omega
  go_enter Try.func10, Try.ntmps10
  go_wp2_with fail
  refine (awake2_any _).mono ?_
  rintro e w1 ⟨rfl, b1⟩
  go_wp2_with fail
  refine (H3.out _).mono ?_
  rintro e w2 ⟨rfl, b2⟩
  have HB := BC_below (below1 w (.cells r0 25)) (below1 w _).size b1
  have HH := Lib.hid (BC_below HB HB.size b2)
  have hrow0 := BC_blk (BC_blk1 b2 (BC_blk1 b1 (heap_alloc_new w (.cells r0 25))))
  clear b1 b2 HB
  have hS := @BC_all w2
  haveI := BC_inst w2
  go_wp2_with fail
  refine wp_region_head (BC w2) 19 (by kernel_rfl) (by kernel_rfl) (BC_start _) ?_
  simp only [List.take_succ_cons, List.take_zero, List.drop_succ_cons, List.drop_zero]
  repeat (first
    | (refine headG_load_row 25 _ rfl rfl _ rfl _ _ _ _ hrow0 Try.underlying25 rfl (by rw [HZ.out]; kernel_rfl) ?_)
    | (refine headG_step (fun K hK => ?_)
       go_simp
       first
         | (refine hK _ ?_; clear hK K)
         | (apply Exists.intro
            refine ⟨fun x => ?_, hK _ ?_⟩
            (first
              | (go_at_call 38; exact BC_call x (H1.out _))
              | (go_at_call 39; exact BC_call x (H2.out _))
              | (go_at_call 17; exact BC_call x (H4.out _)))
            clear hK K)))
  refine headG_nil ?_
  intro w3 hw3
  go_wp2_with fail
  go_ret
  exact ⟨rfl, BC_below HH.out HH.out.size hw3⟩
theorem walk (l0 : List Int) (a1 a2 : Int) (hl0 : l0.length = 8) (wl0 : ∀ x ∈ l0, (Lit.int .u32 x).wf = true) (w1 : (Lit.int .u32 a1).wf = true) (w2 : (Lit.int .u32 a2).wf = true) (w : World) :
    Calls Try.prog 10 #[.agg (row .u32 l0), .int .u32 a1, .int .u32 a2] w fun e w' => e = .returned (.bool true) ∧ Below w.heap.size w w' := by
  obtain ⟨x0, hx0⟩ := w8_of hl0 wl0
  obtain ⟨k, rfl⟩ := U_of w1
  obtain ⟨v, rfl⟩ := U_of w2
  rw [hx0]
  have hi : U v % 64 = ((v.toNat % 64 : Nat) : Int) := by unfold U; omega
  exact walk0 x0.row _ k64 (W8.row_size x0) _ _ (v.toNat % 64) (kn.getD (v.toNat % 64) 0) (by have := v.isLt; unfold U; omega) hi (round_any x0 k v) (r2round_any x0 k v) r2constants_any (refK_in _ (by omega))
    (fun w => run_index_row w _ _ 64 Try.underlying39 Try.underlying23 (by kernel_rfl) kn (by kernel_rfl) _ (by omega)) (eql8_self _) w
theorem own : ownKnob Try.prog.godebug = none := by kernel_rfl
theorem laidOut : laidOutB Try.prog = true := by kernel_rfl
set_option maxRecDepth 100000 in
theorem lifted (os : Os) (started : os.Started) (H : Type) (enc : TypeId × Value → H) :
    ReturnsInHanded {} Try.checked os 10 .any (Rows.blockRoundsSpec.pre6 enc Try.prog Try.f10 Rows.blockRoundsRow.domain false) (Rows.blockRoundsSpec.post enc Try.prog Try.f10 false true false false) := by
  refine returnsInHanded_of_change (C := Try.checked) own started (by kernel_rfl) Try.func10
    (ChangeSpec.witness6 (enc := enc) (C := Try.checked) false ⟨#[], #[.agg (row .u32 (List.replicate 8 0)), .int .u32 0, .int .u32 0], []⟩ 8 (by kernel_rfl) (by kernel_rfl) (by kernel_rfl) (by kernel_rfl)) ?_
  intro W base args ds gs before hval0 hW hcnd _
  have hval : ∀ (j : Nat) t v, Try.f10.params[j]? = some t → args[j]? = some v → Value.okWide Try.prog W .any base t v := hval0
  have hW' := hW
  obtain ⟨p, q, hA0, hV, rfl, hfz, hnd⟩ := hW
  have hA : DataW.TrodAll enc Try.prog W 0 (fun _ => true) true Try.f10.params.toList args.toList ds p := hA0
  rw [Try.params10] at hA hval
  obtain ⟨v0, vs0, d0, ds0, p0, q0, hargs, rfl, rfl, h0, r0⟩ := trodAll_cons hA
  obtain ⟨v1, vs1, d1, ds1, p1, q1, rfl, rfl, rfl, h1, r1⟩ := trodAll_cons r0
  obtain ⟨v2, vs2, d2, ds2, p2, q2, rfl, rfl, rfl, h2, r2⟩ := trodAll_cons r1
  obtain ⟨rfl, rfl, rfl⟩ := trodAll_nil r2
  obtain rfl : args = #[v0, v1, v2] := by cases args; simp_all
  obtain ⟨rfl, rfl⟩ := trodVars_none hV
  have k0 := h0
  have lt0 : ∀ x ∈ p0, x.block < W.heap.size := by obtain ⟨m, hm⟩ := k0; exact DataW.trod_lt m _ _ _ hm
  obtain ⟨l0, rfl, hl0, wl0⟩ := open_row Try.underlying25 Try.underlying23 (by kernel_rfl) (by kernel_rfl) (hval 0 25 v0 rfl rfl) h0
  obtain ⟨a1, rfl, rfl, rfl, w1⟩ := open_int Try.underlying23 (hval 1 23 v1 rfl rfl) h1
  obtain ⟨a2, rfl, rfl, rfl, w2⟩ := open_int Try.underlying23 (hval 2 23 v2 rfl rfl) h2
  clear hA0 hval0
  refine (walk l0 a1 a2 hl0 wl0 w1 w2 W).mono fun e W' ⟨he, bel⟩ => ?_
  subst he
  exact ⟨_, rfl, _, _, _, [], _, [], hW', trodAll_mk1 (shut_bool Try.underlying4 _), (trodAll_cons_mk (Below.trod laidOut (by kernel_rfl) (of_decide_eq_true (by kernel_rfl)) k0 bel lt0) (trodAll_cons_mk (shut_int Try.underlying23 w1) (trodAll_cons_mk (shut_int Try.underlying23 w2) trodAll_mk0))), rfl, bel.frame _, fun h => by cases h⟩
theorem over : Rows.blockRoundsRow.holds Try.pinned (OpenSpec.ofChange Rows.blockRoundsSpec) :=
  OpenClaim.holds_of_wide 10 Try.f10 rfl rfl rfl rfl rfl rfl rfl ⟨rfl, rfl, rfl, rfl, rfl⟩ rfl rfl rfl rfl rfl (by kernel_rfl) Try.func10 (by kernel_rfl)
    (of_decide_eq_true (by kernel_rfl)) (by unfold Func.isWrapper; first | (rw [if_pos (by decide +kernel)]; kernel_rfl) | (rw [if_neg (by decide +kernel)]; exact ⟨rfl, rfl⟩))
    (fun os started H enc _ => lifted os started H enc)
theorem proved : Rows.BlockRoundsSaid := over
#print axioms proved
end Go.Proofs.Ytmcpiclmbehlnaa.blockRoundsDone
