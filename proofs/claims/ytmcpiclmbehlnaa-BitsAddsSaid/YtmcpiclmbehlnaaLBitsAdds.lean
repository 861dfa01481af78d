/- The statement BitsAdds: package bits' Sigmas of two words added bit by bit are the Sigmas added; of 0 they are 0. No condition. -/
import Derived.Test.YtmcpiclmbehlnaaBitsRef
import Derived.Test.YtmcpiclmbehlnaaBitsK
import Derived.OpenShut
import Derived.ShutString
import Derived.ChangeOld
namespace Go.Proofs.Ytmcpiclmbehlnaa.bitsAddsDone
open Go.ChangeShapes Go.WideShapes Go.ChangeAt Go.RowKit
set_option linter.unusedVariables false

attribute [local go_sem] U_xor
theorem rot_add (x y : BitVec 32) (k : Nat) : rot (x ^^^ y) k = rot x k ^^^ rot y k := by
  unfold rot
  apply BitVec.eq_of_getLsbD_eq
  intro i hi
  simp only [BitVec.getLsbD_or, BitVec.getLsbD_xor, BitVec.getLsbD_ushiftRight, BitVec.getLsbD_shiftLeft]
  by_cases h : i < 32 - k
  · simp [h]
  · have e : ∀ z : BitVec 32, z.getLsbD (k + i) = false := fun z => BitVec.getLsbD_of_ge _ _ (by omega)
    simp [h, e, hi]
theorem big0_add (x y : BitVec 32) : big0 (x ^^^ y) = big0 x ^^^ big0 y := by
  unfold big0; rw [rot_add, rot_add, rot_add]; ac_rfl
theorem big1_add (x y : BitVec 32) : big1 (x ^^^ y) = big1 x ^^^ big1 y := by
  unfold big1; rw [rot_add, rot_add, rot_add]; ac_rfl
theorem shr_add (x y : BitVec 32) (k : Nat) : (x ^^^ y) >>> k = x >>> k ^^^ y >>> k := BitVec.ushiftRight_xor_distrib _ _ _
theorem small0_add (x y : BitVec 32) : small0 (x ^^^ y) = small0 x ^^^ small0 y := by
  unfold small0; rw [rot_add, rot_add, shr_add]; ac_rfl
theorem small1_add (x y : BitVec 32) : small1 (x ^^^ y) = small1 x ^^^ small1 y := by
  unfold small1; rw [rot_add, rot_add, shr_add]; ac_rfl
theorem big0_zero (w : World) : Calls Try.prog 26 #[.int .u32 0] w fun e w' => e = .returned (.int .u32 0) ∧ w = w' := big0_any 0#32 w
theorem small1_zero (w : World) : Calls Try.prog 32 #[.int .u32 0] w fun e w' => e = .returned (.int .u32 0) ∧ w = w' := small1_any 0#32 w
theorem walk (a0 a1 : Int) (w0 : (Lit.int .u32 a0).wf = true) (w1 : (Lit.int .u32 a1).wf = true) (w : World) :
    Calls Try.prog 8 #[.int .u32 a0, .int .u32 a1] w fun e w' => e = .returned (.bool true) ∧ Below w.heap.size w w' := by
  obtain ⟨x, rfl⟩ := U_of w0
  obtain ⟨y, rfl⟩ := U_of w1
  clear w0 w1
  have e1 := big0_add x y
  have e2 := big1_add x y
  have e3 := small0_add x y
  have e4 := small1_add x y
  go_enter Try.func8, Try.ntmps8
  go_wp2_with fail
  refine (awake1_any _).mono ?_
  rintro e w1 ⟨rfl, b1⟩
  go_wp2_with (first | (go_at_call 26; (with_reducible refine (big0_zero _).mono ?_); rintro e w' ⟨rfl, rfl⟩) | (go_at_call 32; (with_reducible refine (small1_zero _).mono ?_); rintro e w' ⟨rfl, rfl⟩) | (go_at_call 26; refine (big0_any _ _).mono ?_; rintro e w' ⟨rfl, rfl⟩) | (go_at_call 28; refine (big1_any _ _).mono ?_; rintro e w' ⟨rfl, rfl⟩) | (go_at_call 30; refine (small0_any _ _).mono ?_; rintro e w' ⟨rfl, rfl⟩) | (go_at_call 32; refine (small1_any _ _).mono ?_; rintro e w' ⟨rfl, rfl⟩) | (go_at_call 27; refine (refBig0_any _ _).mono ?_; rintro e w' ⟨rfl, rfl⟩) | (go_at_call 29; refine (refBig1_any _ _).mono ?_; rintro e w' ⟨rfl, rfl⟩) | (go_at_call 31; refine (refSmall0_any _ _).mono ?_; rintro e w' ⟨rfl, rfl⟩) | (go_at_call 33; refine (refSmall1_any _ _).mono ?_; rintro e w' ⟨rfl, rfl⟩))
  go_ret
  exact ⟨rfl, b1⟩
theorem own : ownKnob Try.prog.godebug = none := by kernel_rfl
theorem laidOut : laidOutB Try.prog = true := by kernel_rfl
set_option maxRecDepth 100000 in
theorem lifted (os : Os) (started : os.Started) (H : Type) (enc : TypeId × Value → H) :
    ReturnsInHanded {} Try.checked os 8 .any (Rows.bitsAddsSpec.pre6 enc Try.prog Try.f8 Rows.bitsAddsRow.domain false) (Rows.bitsAddsSpec.post enc Try.prog Try.f8 false true false false) := by
  refine returnsInHanded_of_change (C := Try.checked) own started (by kernel_rfl) Try.func8
    (ChangeSpec.witness6 (enc := enc) (C := Try.checked) false ⟨#[], #[.int .u32 0, .int .u32 0], []⟩ 8 (by kernel_rfl) (by kernel_rfl) (by kernel_rfl) (by kernel_rfl)) ?_
  intro W base args ds gs before hval0 hW hcnd _
  have hval : ∀ (j : Nat) t v, Try.f8.params[j]? = some t → args[j]? = some v → Value.okWide Try.prog W .any base t v := hval0
  have hW' := hW
  obtain ⟨p, q, hA0, hV, rfl, hfz, hnd⟩ := hW
  have hA : DataW.TrodAll enc Try.prog W 0 (fun _ => true) true Try.f8.params.toList args.toList ds p := hA0
  rw [Try.params8] at hA hval
  obtain ⟨v0, vs0, d0, ds0, p0, q0, hargs, rfl, rfl, h0, r0⟩ := trodAll_cons hA
  obtain ⟨v1, vs1, d1, ds1, p1, q1, rfl, rfl, rfl, h1, r1⟩ := trodAll_cons r0
  obtain ⟨rfl, rfl, rfl⟩ := trodAll_nil r1
  obtain rfl : args = #[v0, v1] := by cases args; simp_all
  obtain ⟨rfl, rfl⟩ := trodVars_none hV
  obtain ⟨a0, rfl, rfl, rfl, w0⟩ := open_int Try.underlying23 (hval 0 23 v0 rfl rfl) h0
  obtain ⟨a1, rfl, rfl, rfl, w1⟩ := open_int Try.underlying23 (hval 1 23 v1 rfl rfl) h1
  clear hA0 hval0
  refine (walk a0 a1 w0 w1 W).mono fun e W' ⟨he, bel⟩ => ?_
  subst he
  exact ⟨_, rfl, _, _, _, [], _, [], hW', trodAll_mk1 (shut_bool Try.underlying4 _), (trodAll_cons_mk (shut_int Try.underlying23 w0) (trodAll_cons_mk (shut_int Try.underlying23 w1) trodAll_mk0)), rfl, bel.frame _, fun h => by cases h⟩
theorem over : Rows.bitsAddsRow.holds Try.pinned (OpenSpec.ofChange Rows.bitsAddsSpec) :=
  OpenClaim.holds_of_wide 8 Try.f8 rfl rfl rfl rfl rfl rfl rfl ⟨rfl, rfl, rfl, rfl, rfl⟩ rfl rfl rfl rfl rfl (by kernel_rfl) Try.func8 (by kernel_rfl)
    (of_decide_eq_true (by kernel_rfl)) (by unfold Func.isWrapper; first | (rw [if_pos (by decide +kernel)]; kernel_rfl) | (rw [if_neg (by decide +kernel)]; exact ⟨rfl, rfl⟩))
    (fun os started H enc _ => lifted os started H enc)
theorem proved : Rows.BitsAddsSaid := over
#print axioms proved
end Go.Proofs.Ytmcpiclmbehlnaa.bitsAddsDone
