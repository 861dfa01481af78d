/- The statement BlockCompresses: any words behind any block are the reference's. No condition. -/
import Derived.Test.YtmcpiclmbehlnaaBlockAwake
import Derived.Test.YtmcpiclmbehlnaaBlockRef
import Derived.OpenShut
import Derived.ShutString
import Derived.ChangeOld
namespace Go.Proofs.Ytmcpiclmbehlnaa.blockCompressesDone
open Go.ChangeShapes Go.WideShapes Go.ChangeAt Go.RowKit
set_option linter.unusedVariables false
set_option linter.unusedSimpArgs false
attribute [local go_sem] U_wadd takes comesTo

theorem eql8_self (y : W8) (w : World) : (binOp .eql 25 (.agg y.row) (.agg y.row)).run Try.prog w = .ok (.bool true) w := by
  have h := eql8 y y w
  rw [decide_eq_true (rfl : y.list = y.list)] at h
  exact h

set_option maxHeartbeats 400000 in
theorem walk0 (x0 : W8) (l1 : List Int) (hl1 : l1.length = 64) (res : Array Value)
    (h1 : ∀ w : World, Calls Try.prog 41 #[.agg x0.row, .agg (row .u8 l1)] w fun e w' => e = .returned (.agg res) ∧ Below w.heap.size w w')
    (h2 : ∀ w : World, Calls Try.prog 42 #[.agg x0.row, .agg (row .u8 l1)] w fun e w' => e = .returned (.agg res) ∧ Below w.heap.size w w')
    (he : ∀ w, (binOp .eql 25 (.agg res) (.agg res)).run Try.prog w = .ok (.bool true) w) (w : World) :
    Calls Try.prog 13 #[.agg x0.row, .agg (row .u8 l1)] w fun e w' => e = .returned (.bool true) ∧ Below w.heap.size w w' := by
  have HL := Lib.hid hl1
  have H1 := Lib.hid h1
  have H2 := Lib.hid h2
  clear hl1 h1 h2
  have HZ := Lib.hid (W8.row_size x0)
  generalize x0.row = r0 at *
  generalize hm : row .u8 l1 = m0 at *
  have HM : Hid (m0.size = 64) := Lib.hid (by rw [← hm, row_size, HL.out])
  clear hm HL
  go_enter Try.func13, Try.ntmps13
  go_wp2_with fail
  refine (awake2_any _).mono ?_
  rintro e w1 ⟨rfl, b1⟩
  have hrow0 := BC_blk (BC_blk1 b1 (blk2 w (.cells r0 25) (.cells m0 38)).1)
  have hrow1 := BC_blk (BC_blk1 b1 (blk2 w (.cells r0 25) (.cells m0 38)).2)
  have HH := Lib.hid (BC_below (below2 w _ _) (below2 w _ _).size b1)
  clear b1
  have hS := @BC_all w1
  haveI := BC_inst w1
  go_wp2_with fail
  refine wp_region_head (BC w1) 11 (by kernel_rfl) (by kernel_rfl) (BC_start _) ?_
  simp only [List.take_succ_cons, List.take_zero, List.drop_succ_cons, List.drop_zero]
  repeat (first
    | (refine headG_load_row 25 _ rfl rfl _ rfl _ _ _ _ hrow0 Try.underlying25 rfl (by rw [HZ.out]; kernel_rfl) ?_)
    | (refine headG_load_row 38 _ rfl rfl _ rfl _ _ _ _ hrow1 Try.underlying38 rfl (by rw [HM.out]; kernel_rfl) ?_)
    | (refine headG_step (fun K hK => ?_)
       go_simp
       first
         | (refine hK _ ?_; clear hK K)
         | (apply Exists.intro
            refine ⟨fun x => ?_, hK _ ?_⟩
            (first
              | (go_at_call 41; exact BC_call x (H1.out _))
              | (go_at_call 42; exact BC_call x (H2.out _)))
            clear hK K)))
  refine headG_nil ?_
  intro w2 hw2
  go_wp2_with fail
  go_ret
  exact ⟨rfl, BC_below HH.out HH.out.size hw2⟩
theorem walk (l0 l1 : List Int) (hl0 : l0.length = 8) (wl0 : ∀ x ∈ l0, (Lit.int .u32 x).wf = true) (hl1 : l1.length = 64) (wl1 : ∀ x ∈ l1, (Lit.int .u8 x).wf = true) (w : World) :
    Calls Try.prog 13 #[.agg (row .u32 l0), .agg (row .u8 l1)] w fun e w' => e = .returned (.bool true) ∧ Below w.heap.size w w' := by
  obtain ⟨x0, hx0⟩ := w8_of hl0 wl0
  rw [hx0]
  exact walk0 x0 l1 hl1 _ (comp_any x0 l1 hl1 (bytes_of wl1)) (r2comp_any x0 l1 hl1 (bytes_of wl1)) (eql8_self _) w
theorem own : ownKnob Try.prog.godebug = none := by kernel_rfl
theorem laidOut : laidOutB Try.prog = true := by kernel_rfl
set_option maxRecDepth 100000 in
theorem lifted (os : Os) (started : os.Started) (H : Type) (enc : TypeId × Value → H) :
    ReturnsInHanded {} Try.checked os 13 .any (Rows.blockCompressesSpec.pre6 enc Try.prog Try.f13 Rows.blockCompressesRow.domain false) (Rows.blockCompressesSpec.post enc Try.prog Try.f13 false true false false) := by
  refine returnsInHanded_of_change (C := Try.checked) own started (by kernel_rfl) Try.func13
    (ChangeSpec.witness6 (enc := enc) (C := Try.checked) false ⟨#[], #[.agg (row .u32 (List.replicate 8 0)), .agg (row .u8 (List.replicate 64 0))], []⟩ 8 (by kernel_rfl) (by kernel_rfl) (by kernel_rfl) (by kernel_rfl)) ?_
  intro W base args ds gs before hval0 hW hcnd _
  have hval : ∀ (j : Nat) t v, Try.f13.params[j]? = some t → args[j]? = some v → Value.okWide Try.prog W .any base t v := hval0
  have hW' := hW
  obtain ⟨p, q, hA0, hV, rfl, hfz, hnd⟩ := hW
  have hA : DataW.TrodAll enc Try.prog W 0 (fun _ => true) true Try.f13.params.toList args.toList ds p := hA0
  rw [Try.params13] at hA hval
  obtain ⟨v0, vs0, d0, ds0, p0, q0, hargs, rfl, rfl, h0, r0⟩ := trodAll_cons hA
  obtain ⟨v1, vs1, d1, ds1, p1, q1, rfl, rfl, rfl, h1, r1⟩ := trodAll_cons r0
  obtain ⟨rfl, rfl, rfl⟩ := trodAll_nil r1
  obtain rfl : args = #[v0, v1] := by cases args; simp_all
  obtain ⟨rfl, rfl⟩ := trodVars_none hV
  have k0 := h0
  have lt0 : ∀ x ∈ p0, x.block < W.heap.size := by obtain ⟨m, hm⟩ := k0; exact DataW.trod_lt m _ _ _ hm
  obtain ⟨l0, rfl, hl0, wl0⟩ := open_row Try.underlying25 Try.underlying23 (by kernel_rfl) (by kernel_rfl) (hval 0 25 v0 rfl rfl) h0
  have k1 := h1
  have lt1 : ∀ x ∈ p1, x.block < W.heap.size := by obtain ⟨m, hm⟩ := k1; exact DataW.trod_lt m _ _ _ hm
  obtain ⟨l1, rfl, hl1, wl1⟩ := open_row Try.underlying38 Try.underlying5 (by kernel_rfl) (by kernel_rfl) (hval 1 38 v1 rfl rfl) h1
  clear hA0 hval0
  refine (walk l0 l1 hl0 wl0 hl1 wl1 W).mono fun e W' ⟨he, bel⟩ => ?_
  subst he
  exact ⟨_, rfl, _, _, _, [], _, [], hW', trodAll_mk1 (shut_bool Try.underlying4 _), (trodAll_cons_mk (Below.trod laidOut (by kernel_rfl) (of_decide_eq_true (by kernel_rfl)) k0 bel lt0) (trodAll_cons_mk (Below.trod laidOut (by kernel_rfl) (of_decide_eq_true (by kernel_rfl)) k1 bel lt1) trodAll_mk0)), rfl, bel.frame _, fun h => by cases h⟩
theorem over : Rows.blockCompressesRow.holds Try.pinned (OpenSpec.ofChange Rows.blockCompressesSpec) :=
  OpenClaim.holds_of_wide 13 Try.f13 rfl rfl rfl rfl rfl rfl rfl ⟨rfl, rfl, rfl, rfl, rfl⟩ rfl rfl rfl rfl rfl (by kernel_rfl) Try.func13 (by kernel_rfl)
    (of_decide_eq_true (by kernel_rfl)) (by unfold Func.isWrapper; first | (rw [if_pos (by decide +kernel)]; kernel_rfl) | (rw [if_neg (by decide +kernel)]; exact ⟨rfl, rfl⟩))
    (fun os started H enc _ => lifted os started H enc)
theorem proved : Rows.BlockCompressesSaid := over
#print axioms proved
end Go.Proofs.Ytmcpiclmbehlnaa.blockCompressesDone
