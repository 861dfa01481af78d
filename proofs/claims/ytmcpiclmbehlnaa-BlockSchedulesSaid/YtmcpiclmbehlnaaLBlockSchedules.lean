/- The statement BlockSchedules: any block's words are the reference's. No condition. -/
import Derived.Test.YtmcpiclmbehlnaaBlockAwake
import Derived.Test.YtmcpiclmbehlnaaBlockRef
import Derived.OpenShut
import Derived.ShutString
import Derived.ChangeOld
namespace Go.Proofs.Ytmcpiclmbehlnaa.blockSchedulesDone
open Go.ChangeShapes Go.WideShapes Go.ChangeAt Go.RowKit
set_option linter.unusedVariables false
set_option linter.unusedSimpArgs false
attribute [local go_sem] U_wadd takes comesTo

set_option maxHeartbeats 400000 in
theorem walk (l0 : List Int) (hl0 : l0.length = 64) (wl0 : ∀ x ∈ l0, (Lit.int .u8 x).wf = true) (w : World) :
    Calls Try.prog 9 #[.agg (row .u8 l0)] w fun e w' => e = .returned (.bool true) ∧ Below w.heap.size w w' := by
  have HL := Lib.hid hl0
  have HB := Lib.hid (bytes_of wl0)
  clear hl0 wl0
  have H1 := Lib.hid (sched_any l0 HL.out HB.out)
  have H2 := Lib.hid (r2sched_any l0 HL.out HB.out)
  have hlen := sched_len l0
  generalize sched l0 = ws at *
  have he : ∀ w, (binOp .eql 39 (.agg (rowU ws)) (.agg (rowU ws))).run Try.prog w = .ok (.bool true) w := fun w => by
    have h := eql_row (n := 64) _ _ Try.underlying39 Try.underlying23 (by kernel_rfl) ws ws hlen hlen w
    rw [decide_eq_true (rfl : ws = ws)] at h
    exact h
  clear hlen
  generalize rowU ws = res at *
  go_enter Try.func9, Try.ntmps9
  go_wp2_with fail
  refine (awake2_any _).mono ?_
  rintro e w1 ⟨rfl, b1⟩
  have hrow0 := BC_blk (BC_blk1 b1 (heap_alloc_new w (.cells (row .u8 l0) 38)))
  have HH := Lib.hid (BC_below (below1 w _) (below1 w _).size b1)
  clear b1
  have hS := @BC_all w1
  haveI := BC_inst w1
  go_wp2_with fail
  refine wp_region_head (BC w1) 9 (by kernel_rfl) (by kernel_rfl) (BC_start _) ?_
  simp only [List.take_succ_cons, List.take_zero, List.drop_succ_cons, List.drop_zero]
  repeat (first
    | (refine headG_load_row 38 _ rfl rfl _ rfl _ _ _ _ hrow0 Try.underlying38 rfl (by rw [row_size, HL.out]; kernel_rfl) ?_)
    | (refine headG_step (fun K hK => ?_)
       go_simp
       first
         | (refine hK _ ?_; clear hK K)
         | (apply Exists.intro
            refine ⟨fun x => ?_, hK _ ?_⟩
            (first
              | (go_at_call 35; exact BC_call x (H1.out _))
              | (go_at_call 36; exact BC_call x (H2.out _)))
            clear hK K)))
  refine headG_nil ?_
  intro w2 hw2
  go_wp2_with fail
  go_ret
  exact ⟨rfl, BC_below HH.out HH.out.size hw2⟩
theorem own : ownKnob Try.prog.godebug = none := by kernel_rfl
theorem laidOut : laidOutB Try.prog = true := by kernel_rfl
set_option maxRecDepth 100000 in
theorem lifted (os : Os) (started : os.Started) (H : Type) (enc : TypeId × Value → H) :
    ReturnsInHanded {} Try.checked os 9 .any (Rows.blockSchedulesSpec.pre6 enc Try.prog Try.f9 Rows.blockSchedulesRow.domain false) (Rows.blockSchedulesSpec.post enc Try.prog Try.f9 false true false false) := by
  refine returnsInHanded_of_change (C := Try.checked) own started (by kernel_rfl) Try.func9
    (ChangeSpec.witness6 (enc := enc) (C := Try.checked) false ⟨#[], #[.agg (row .u8 (List.replicate 64 0))], []⟩ 8 (by kernel_rfl) (by kernel_rfl) (by kernel_rfl) (by kernel_rfl)) ?_
  intro W base args ds gs before hval0 hW hcnd _
  have hval : ∀ (j : Nat) t v, Try.f9.params[j]? = some t → args[j]? = some v → Value.okWide Try.prog W .any base t v := hval0
  have hW' := hW
  obtain ⟨p, q, hA0, hV, rfl, hfz, hnd⟩ := hW
  have hA : DataW.TrodAll enc Try.prog W 0 (fun _ => true) true Try.f9.params.toList args.toList ds p := hA0
  rw [Try.params9] at hA hval
  obtain ⟨v0, vs0, d0, ds0, p0, q0, hargs, rfl, rfl, h0, r0⟩ := trodAll_cons hA
  obtain ⟨rfl, rfl, rfl⟩ := trodAll_nil r0
  obtain rfl : args = #[v0] := by cases args; simp_all
  obtain ⟨rfl, rfl⟩ := trodVars_none hV
  have k0 := h0
  have lt0 : ∀ x ∈ p0, x.block < W.heap.size := by obtain ⟨m, hm⟩ := k0; exact DataW.trod_lt m _ _ _ hm
  obtain ⟨l0, rfl, hl0, wl0⟩ := open_row Try.underlying38 Try.underlying5 (by kernel_rfl) (by kernel_rfl) (hval 0 38 v0 rfl rfl) h0
  clear hA0 hval0
  refine (walk l0 hl0 wl0 W).mono fun e W' ⟨he, bel⟩ => ?_
  subst he
  exact ⟨_, rfl, _, _, _, [], _, [], hW', trodAll_mk1 (shut_bool Try.underlying4 _), (trodAll_cons_mk (Below.trod laidOut (by kernel_rfl) (of_decide_eq_true (by kernel_rfl)) k0 bel lt0) trodAll_mk0), rfl, bel.frame _, fun h => by cases h⟩
theorem over : Rows.blockSchedulesRow.holds Try.pinned (OpenSpec.ofChange Rows.blockSchedulesSpec) :=
  OpenClaim.holds_of_wide 9 Try.f9 rfl rfl rfl rfl rfl rfl rfl ⟨rfl, rfl, rfl, rfl, rfl⟩ rfl rfl rfl rfl rfl (by kernel_rfl) Try.func9 (by kernel_rfl)
    (of_decide_eq_true (by kernel_rfl)) (by unfold Func.isWrapper; first | (rw [if_pos (by decide +kernel)]; kernel_rfl) | (rw [if_neg (by decide +kernel)]; exact ⟨rfl, rfl⟩))
    (fun os started H enc _ => lifted os started H enc)
theorem proved : Rows.BlockSchedulesSaid := over
#print axioms proved
end Go.Proofs.Ytmcpiclmbehlnaa.blockSchedulesDone
