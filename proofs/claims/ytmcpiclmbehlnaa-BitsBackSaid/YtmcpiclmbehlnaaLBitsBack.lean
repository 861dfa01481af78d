/- The statement BitsBack: a word turned by two numbers is turned by both together; turned back it is as it was. No condition. -/
import Derived.Test.YtmcpiclmbehlnaaBitsRef
import Derived.Test.YtmcpiclmbehlnaaBitsK
import Derived.OpenShut
import Derived.ShutString
import Derived.ChangeOld
namespace Go.Proofs.Ytmcpiclmbehlnaa.bitsBackDone
open Go.ChangeShapes Go.WideShapes Go.ChangeAt Go.RowKit
set_option linter.unusedVariables false

theorem rot_rot (x : BitVec 32) (i j : Nat) (hi : i < 32) (hj : j < 32) : rot (rot x i) j = rot x ((i + j) % 32) := by
  rw [rot_right _ i hi, rot_right _ j hj, rot_right _ _ (Nat.mod_lt _ (by omega)), right_right]
theorem rot_zero (x : BitVec 32) : rot x 0 = x := by
  rw [rot_right _ 0 (by omega)]
  apply BitVec.eq_of_getLsbD_eq
  intro i hi
  simp [hi]
theorem i16_bd {n : Int} (h : (Lit.int .i16 n).wf = true) : -32768 ≤ n ∧ n ≤ 32767 := by
  simp [Lit.wf, IntKind.min, IntKind.max, IntKind.signed, IntKind.bits] at h
  omega
theorem walk (a0 a1 a2 : Int) (w0 : (Lit.int .u32 a0).wf = true) (w1 : (Lit.int .i16 a1).wf = true) (w2 : (Lit.int .i16 a2).wf = true) (w : World) :
    Calls Try.prog 4 #[.int .u32 a0, .int .i16 a1, .int .i16 a2] w fun e w' => e = .returned (.bool true) ∧ Below w.heap.size w w' := by
  obtain ⟨x, rfl⟩ := U_of w0
  obtain ⟨l1, m1⟩ := i16_bd w1
  obtain ⟨l2, m2⟩ := i16_bd w2
  clear w0 w1 w2
  have e1 : rot (rot x (a1 % 32).toNat) (a2 % 32).toNat = rot x ((a1 + a2) % 32).toNat := by
    rw [rot_rot _ _ _ (by omega) (by omega)]; congr 1; omega
  have e2 : rot (rot x (a1 % 32).toNat) (-a1 % 32).toNat = x := by
    rw [rot_rot _ _ _ (by omega) (by omega)]
    have : ((a1 % 32).toNat + (-a1 % 32).toNat) % 32 = 0 := by omega
    rw [this, rot_zero]
  have e3 : rot x ((a1 + 32) % 32).toNat = rot x (a1 % 32).toNat := by congr 1; omega
  have E1 : (U (rot (rot x (a1 % 32).toNat) (a2 % 32).toNat) == U (rot x ((a1 + a2) % 32).toNat)) = true := by rw [e1]; simp
  have E2 : (U (rot (rot x (a1 % 32).toNat) (-a1 % 32).toNat) == U x) = true := by rw [e2]; simp
  have E3 : (U (rot x ((a1 + 32) % 32).toNat) == U (rot x (a1 % 32).toNat)) = true := by rw [e3]; simp
  clear e1 e2 e3
  go_enter Try.func4, Try.ntmps4
  go_wp2_with fail
  refine (awake1_any _).mono ?_
  rintro e w1 ⟨rfl, b1⟩
  go_wp2_with (go_at_call 20; refine (rot_any _ _ _).mono ?_; rintro e w' ⟨rfl, rfl⟩)
  go_ret
  exact ⟨rfl, b1⟩
theorem own : ownKnob Try.prog.godebug = none := by kernel_rfl
theorem laidOut : laidOutB Try.prog = true := by kernel_rfl
set_option maxRecDepth 100000 in
theorem lifted (os : Os) (started : os.Started) (H : Type) (enc : TypeId × Value → H) :
    ReturnsInHanded {} Try.checked os 4 .any (Rows.bitsBackSpec.pre6 enc Try.prog Try.f4 Rows.bitsBackRow.domain false) (Rows.bitsBackSpec.post enc Try.prog Try.f4 false true false false) := by
  refine returnsInHanded_of_change (C := Try.checked) own started (by kernel_rfl) Try.func4
    (ChangeSpec.witness6 (enc := enc) (C := Try.checked) false ⟨#[], #[.int .u32 0, .int .i16 0, .int .i16 0], []⟩ 8 (by kernel_rfl) (by kernel_rfl) (by kernel_rfl) (by kernel_rfl)) ?_
  intro W base args ds gs before hval0 hW hcnd _
  have hval : ∀ (j : Nat) t v, Try.f4.params[j]? = some t → args[j]? = some v → Value.okWide Try.prog W .any base t v := hval0
  have hW' := hW
  obtain ⟨p, q, hA0, hV, rfl, hfz, hnd⟩ := hW
  have hA : DataW.TrodAll enc Try.prog W 0 (fun _ => true) true Try.f4.params.toList args.toList ds p := hA0
  rw [Try.params4] at hA hval
  obtain ⟨v0, vs0, d0, ds0, p0, q0, hargs, rfl, rfl, h0, r0⟩ := trodAll_cons hA
  obtain ⟨v1, vs1, d1, ds1, p1, q1, rfl, rfl, rfl, h1, r1⟩ := trodAll_cons r0
  obtain ⟨v2, vs2, d2, ds2, p2, q2, rfl, rfl, rfl, h2, r2⟩ := trodAll_cons r1
  obtain ⟨rfl, rfl, rfl⟩ := trodAll_nil r2
  obtain rfl : args = #[v0, v1, v2] := by cases args; simp_all
  obtain ⟨rfl, rfl⟩ := trodVars_none hV
  obtain ⟨a0, rfl, rfl, rfl, w0⟩ := open_int Try.underlying23 (hval 0 23 v0 rfl rfl) h0
  obtain ⟨a1, rfl, rfl, rfl, w1⟩ := open_int Try.underlying28 (hval 1 28 v1 rfl rfl) h1
  obtain ⟨a2, rfl, rfl, rfl, w2⟩ := open_int Try.underlying28 (hval 2 28 v2 rfl rfl) h2
  clear hA0 hval0
  refine (walk a0 a1 a2 w0 w1 w2 W).mono fun e W' ⟨he, bel⟩ => ?_
  subst he
  exact ⟨_, rfl, _, _, _, [], _, [], hW', trodAll_mk1 (shut_bool Try.underlying4 _), (trodAll_cons_mk (shut_int Try.underlying23 w0) (trodAll_cons_mk (shut_int Try.underlying28 w1) (trodAll_cons_mk (shut_int Try.underlying28 w2) trodAll_mk0))), rfl, bel.frame _, fun h => by cases h⟩
theorem over : Rows.bitsBackRow.holds Try.pinned (OpenSpec.ofChange Rows.bitsBackSpec) :=
  OpenClaim.holds_of_wide 4 Try.f4 rfl rfl rfl rfl rfl rfl rfl ⟨rfl, rfl, rfl, rfl, rfl⟩ rfl rfl rfl rfl rfl (by kernel_rfl) Try.func4 (by kernel_rfl)
    (of_decide_eq_true (by kernel_rfl)) (by unfold Func.isWrapper; first | (rw [if_pos (by decide +kernel)]; kernel_rfl) | (rw [if_neg (by decide +kernel)]; exact ⟨rfl, rfl⟩))
    (fun os started H enc _ => lifted os started H enc)
theorem proved : Rows.BitsBackSaid := over
#print axioms proved
end Go.Proofs.Ytmcpiclmbehlnaa.bitsBackDone
