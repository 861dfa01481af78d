/- The statement ShaSums: any bytes' digest (of 4000 at most) is the reference's. No condition. -/
import Derived.Test.YtcijdceomgdakaaShaAwake
import Derived.Test.YtcijdceomgdakaaOpenB
import Derived.Test.YtcijdceomgdakaaRef03Sum
import Derived.OpenShut
import Derived.ShutString
import Derived.ChangeOld
namespace Go.Proofs.Ytcijdceomgdakaa.shaSumsDone
open Go.ChangeShapes Go.WideShapes Go.ChangeAt Go.RowKit
set_option linter.unusedVariables false
set_option linter.unusedSimpArgs false

theorem eqd (l : List Int) (hl : l.length = 32) (w : World) : (binOp .eql 25 (.agg (row .u8 l)) (.agg (row .u8 l))).run Try.prog w = .ok (.bool true) w := by
  have h := run_eql_row w 25 5 32 .u8 Try.underlying25 Try.underlying5 (by kernel_rfl) l l hl hl
  rw [decide_eq_true (rfl : l = l)] at h
  exact h

set_option maxHeartbeats 400000 in
theorem walk (v0 : Value) (b0 o0 : Nat) (l0 : List Int) (hv0 : SlV v0 b0 o0 l0.length) (hb0 : Bytes l0) (w : World) (hl0 : Lies w b0 o0 l0) :
    Calls Try.prog 3 #[v0] w fun e w' => e = .returned (.bool true) ∧ Below w.heap.size w w' := by
  have HV := Lib.hid hv0
  have HL := Lib.hid (And.intro hb0 hl0)
  have he := eqd (sumF l0) (sumF_len l0)
  generalize hS : row .u8 (sumF l0) = S at *
  have HS := Lib.hid hS
  obtain ⟨a, cap, rfl, _⟩ := hv0
  clear hS hb0 hl0
  generalize hN : l0.length = n at *
  have HN := Lib.hid hN
  clear hN
  go_enter Try.func3, Try.ntmps3
  go_wp2_with fail
  refine (awake3_any _).mono ?_
  rintro e w1 ⟨rfl, b1⟩
  by_cases hlt : n ≤ 4000
  · have hc : ¬ (4000 : Int) < (n : Int) := by omega
    have HLT := Lib.hid hlt
    clear hlt
    go_wp2_with fail
    refine (sum_any l0 HL.out.1 (by rw [HN.out]; have := HLT.out; omega) b0 o0 _ (by rw [HN.out]; exact HV.out) _ (HL.out.2.below b1)).mono ?_
    rintro e w2 ⟨rfl, b2⟩
    rw [HS.out]
    go_wp2_with fail
    refine (r3sum_any l0 HL.out.1 (by rw [HN.out]; have := HLT.out; omega) b0 o0 _ (by rw [HN.out]; exact HV.out) _ ((HL.out.2.below b1).below b2)).mono ?_
    rintro e w3 ⟨rfl, b3⟩
    rw [HS.out]
    have HH := Lib.hid (b1.trans ((b2.mono b1.size).trans (b3.mono (Nat.le_trans b1.size b2.size))))
    clear b1 b2 b3
    go_wp2_with fail
    go_ret
    exact ⟨rfl, HH.out⟩
  · have hc : (4000 : Int) < (n : Int) := by omega
    have HH := Lib.hid b1
    clear b1 hlt
    go_wp2_with fail
    go_ret
    exact ⟨rfl, HH.out⟩
theorem own : ownKnob Try.prog.godebug = none := by kernel_rfl
theorem laidOut : laidOutB Try.prog = true := by kernel_rfl
set_option maxRecDepth 100000 in
theorem lifted (os : Os) (started : os.Started) (H : Type) (enc : TypeId × Value → H) :
    ReturnsInHanded {} Try.checked os 3 .any (Rows.shaSumsSpec.pre6 enc Try.prog Try.f3 Rows.shaSumsRow.domain false) (Rows.shaSumsSpec.post enc Try.prog Try.f3 false true false false) := by
  refine returnsInHanded_of_change (C := Try.checked) own started (by kernel_rfl) Try.func3
    (ChangeSpec.witness6 (enc := enc) (C := Try.checked) false ⟨#[], #[.slice none 0 0], []⟩ 8 (by kernel_rfl) (by kernel_rfl) (by kernel_rfl) (by kernel_rfl)) ?_
  intro W base args ds gs before hval0 hW hcnd _
  have hval : ∀ (j : Nat) t v, Try.f3.params[j]? = some t → args[j]? = some v → Value.okWide Try.prog W .any base t v := hval0
  have hW' := hW
  obtain ⟨p, q, hA0, hV, rfl, hfz, hnd⟩ := hW
  have hA : DataW.TrodAll enc Try.prog W 0 (fun _ => true) true Try.f3.params.toList args.toList ds p := hA0
  rw [Try.params3] at hA hval
  obtain ⟨v0, vs0, d0, ds0, p0, q0, hargs, rfl, rfl, h0, r0⟩ := trodAll_cons hA
  obtain ⟨rfl, rfl, rfl⟩ := trodAll_nil r0
  obtain rfl : args = #[v0] := by cases args; simp_all
  obtain ⟨rfl, rfl⟩ := trodVars_none hV
  obtain ⟨a0, len0, cap0, rfl⟩ := okWide_slice Try.underlying22 (hval 0 22 v0 rfl rfl)
  have k0 := h0
  have lt0 : ∀ x ∈ p0, x.block < W.heap.size := by obtain ⟨m, hm⟩ := k0; exact DataW.trod_lt m _ _ _ hm
  obtain ⟨z0, w0⟩ : ∃ zs, IsRow .u8 W a0 len0 cap0 zs := by
    obtain ⟨fuel, hf⟩ := h0
    rcases open_ints Try.underlying22 Try.underlying5 (by kernel_rfl) hf with ⟨hcs, _⟩ | ⟨x, l, c, zs, hcs, _, hl, hm, hz, _, hcell, hwz⟩
    · simp [Value.cells] at hcs
      obtain ⟨rfl, rfl, rfl⟩ := hcs
      exact ⟨[], .inl ⟨rfl, rfl, rfl, rfl⟩⟩
    · simp [Value.cells] at hcs
      obtain ⟨rfl, rfl, rfl⟩ := hcs
      exact ⟨zs, .inr ⟨_, rfl, hl, hm, by simpa using hz, hcell, hwz⟩⟩
  obtain ⟨b0, o0, l0, hv0, hl0, hb0⟩ := isb_of_row w0
  clear hA0 hval0
  refine (walk (.slice a0 len0 cap0) b0 o0 l0 hv0 hb0 W hl0).mono fun e W' ⟨he, bel⟩ => ?_
  subst he
  exact ⟨_, rfl, _, _, _, [], _, [], hW', trodAll_mk1 (shut_bool Try.underlying4 _), (trodAll_cons_mk (Below.trod laidOut (by kernel_rfl) (of_decide_eq_true (by kernel_rfl)) k0 bel lt0) trodAll_mk0), rfl, bel.frame _, fun h => by cases h⟩
theorem over : Rows.shaSumsRow.holds Try.pinned (OpenSpec.ofChange Rows.shaSumsSpec) :=
  OpenClaim.holds_of_wide 3 Try.f3 rfl rfl rfl rfl rfl rfl rfl ⟨rfl, rfl, rfl, rfl, rfl⟩ rfl rfl rfl rfl rfl (by kernel_rfl) Try.func3 (by kernel_rfl)
    (of_decide_eq_true (by kernel_rfl)) (by unfold Func.isWrapper; first | (rw [if_pos (by decide +kernel)]; kernel_rfl) | (rw [if_neg (by decide +kernel)]; exact ⟨rfl, rfl⟩))
    (fun os started H enc _ => lifted os started H enc)
theorem proved : Rows.ShaSumsSaid := over
#print axioms proved
end Go.Proofs.Ytcijdceomgdakaa.shaSumsDone
