/- The statement ShaNobody: a Hash that is nil tells nothing; one of nothing tells the digest of nothing. No condition. -/
import Derived.Test.YtcijdceomgdakaaShaAwake
import Derived.Test.YtcijdceomgdakaaOpenB
import Derived.OpenShut
import Derived.ShutString
import Derived.ChangeOld
namespace Go.Proofs.Ytcijdceomgdakaa.shaNobodyDone
open Go.ChangeShapes Go.WideShapes Go.ChangeAt Go.RowKit
set_option linter.unusedVariables false
set_option linter.unusedSimpArgs false

theorem eqd (l : List Int) (hl : l.length = 32) (w : World) : (binOp .eql 25 (.agg (row .u8 l)) (.agg (row .u8 l))).run Try.prog w = .ok (.bool true) w := by
  have h := run_eql_row w 25 5 32 .u8 Try.underlying25 Try.underlying5 (by kernel_rfl) l l hl hl
  rw [decide_eq_true (rfl : l = l)] at h
  exact h

theorem eqz (w : World) : (binOp .eql 25 (.agg zb32) (.agg #[.int .u8 0, .int .u8 0, .int .u8 0, .int .u8 0, .int .u8 0, .int .u8 0, .int .u8 0, .int .u8 0, .int .u8 0, .int .u8 0, .int .u8 0, .int .u8 0, .int .u8 0, .int .u8 0, .int .u8 0, .int .u8 0, .int .u8 0, .int .u8 0, .int .u8 0, .int .u8 0, .int .u8 0, .int .u8 0, .int .u8 0, .int .u8 0, .int .u8 0, .int .u8 0, .int .u8 0, .int .u8 0, .int .u8 0, .int .u8 0, .int .u8 0, .int .u8 0])).run Try.prog w = .ok (.bool true) w := by kernel_rfl
set_option maxHeartbeats 400000 in
theorem walk (v0 : Value) (b0 o0 : Nat) (l0 : List Int) (hv0 : SlV v0 b0 o0 l0.length) (hb0 : Bytes l0) (w : World) (hl0 : Lies w b0 o0 l0) :
    Calls Try.prog 8 #[v0] w fun e w' => e = .returned (.bool true) ∧ Below w.heap.size w w' := by
  clear hv0 hb0 hl0
  have he := eqd (sumF []) (sumF_len [])
  have hz := eqz
  generalize hS : row .u8 (sumF []) = S at *
  have HS := Lib.hid hS
  clear hS
  go_enter Try.func8, Try.ntmps8
  go_wp2_with fail
  refine (awake3_any _).mono ?_
  rintro e w1 ⟨rfl, b1⟩
  go_wp2_with fail
  refine (write_nil _ _).mono ?_
  rintro e w2 ⟨rfl, rfl⟩
  go_wp2_with fail
  refine (new_h _).mono ?_
  rintro e w2 ⟨g, rfl, hg1, hg2, b2⟩
  have H2 := Lib.hid (And.intro (Nat.le_trans b1.size hg1) (And.intro hg2 (b1.trans (b2.mono b1.size))))
  clear hg1 hg2 b1 b2
  go_wp2_with fail
  refine (write_h [] [] bytes_nil (by simp) g 0 0 (fun h => by simp at h) _ ⟨none, 0, rfl, Nat.le_refl _, Nat.zero_le _, fun h => by simp at h, fun _ => rfl⟩ _ H2.out.2.1 (Lies.nil _ _ _)).mono ?_
  rintro e w3 ⟨rfl, hb, hh⟩
  have H3 := Lib.hid (And.intro hh (hb.below w.heap.size w H2.out.1 H2.out.2.2.size H2.out.2.2))
  clear hb hh
  go_wp2_with fail
  refine (told_nil _).mono ?_
  rintro e w4 ⟨rfl, b4⟩
  have H4 := Lib.hid (And.intro (H3.out.1.below b4) (BC_below H3.out.2 H3.out.2.size b4))
  clear b4
  go_wp2_with fail
  refine (len_nil _).mono ?_
  rintro e w5 ⟨rfl, rfl⟩
  go_wp2_with fail
  refine (told_h [] (by simp) g _ H4.out.1).mono ?_
  rintro e w6 ⟨rfl, b6⟩
  rw [HS.out]
  have H6 := Lib.hid (And.intro (H4.out.1.below b6) (BC_below H4.out.2 H4.out.2.size b6))
  clear b6
  go_wp2_with fail
  refine (sum_any [] bytes_nil (by simp) 0 0 _ ⟨none, 0, rfl, Nat.le_refl _, Nat.zero_le _, fun h => by simp at h, fun _ => rfl⟩ _ (Lies.nil _ _ _)).mono ?_
  rintro e w7 ⟨rfl, b7⟩
  rw [HS.out]
  have H7 := Lib.hid (And.intro (H6.out.1.below b7) (BC_below H6.out.2 H6.out.2.size b7))
  clear b7
  go_wp2_with fail
  refine (len_h [] g _ H7.out.1).mono ?_
  rintro e w8 ⟨rfl, rfl⟩
  go_wp2_with fail
  go_ret
  exact ⟨rfl, H7.out.2⟩
theorem own : ownKnob Try.prog.godebug = none := by kernel_rfl
theorem laidOut : laidOutB Try.prog = true := by kernel_rfl
set_option maxRecDepth 100000 in
theorem lifted (os : Os) (started : os.Started) (H : Type) (enc : TypeId × Value → H) :
    ReturnsInHanded {} Try.checked os 8 .any (Rows.shaNobodySpec.pre6 enc Try.prog Try.f8 Rows.shaNobodyRow.domain false) (Rows.shaNobodySpec.post enc Try.prog Try.f8 false true false false) := by
  refine returnsInHanded_of_change (C := Try.checked) own started (by kernel_rfl) Try.func8
    (ChangeSpec.witness6 (enc := enc) (C := Try.checked) false ⟨#[], #[.slice none 0 0], []⟩ 8 (by kernel_rfl) (by kernel_rfl) (by kernel_rfl) (by kernel_rfl)) ?_
  intro W base args ds gs before hval0 hW hcnd _
  have hval : ∀ (j : Nat) t v, Try.f8.params[j]? = some t → args[j]? = some v → Value.okWide Try.prog W .any base t v := hval0
  have hW' := hW
  obtain ⟨p, q, hA0, hV, rfl, hfz, hnd⟩ := hW
  have hA : DataW.TrodAll enc Try.prog W 0 (fun _ => true) true Try.f8.params.toList args.toList ds p := hA0
  rw [Try.params8] at hA hval
  obtain ⟨v0, vs0, d0, ds0, p0, q0, hargs, rfl, rfl, h0, r0⟩ := trodAll_cons hA
  obtain ⟨rfl, rfl, rfl⟩ := trodAll_nil r0
  obtain rfl : args = #[v0] := by cases args; simp_all
  obtain ⟨rfl, rfl⟩ := trodVars_none hV
  obtain ⟨a0, len0, cap0, rfl⟩ := okWide_slice Try.underlying22 (hval 0 22 v0 rfl rfl)
  have k0 := h0
  have lt0 : ∀ x ∈ p0, x.block < W.heap.size := by obtain ⟨m, hm⟩ := k0; exact DataW.trod_lt m _ _ _ hm
  obtain ⟨z0, w0⟩ : ∃ zs, IsRow .u8 W a0 len0 cap0 zs := by
    obtain ⟨fuel, hf⟩ := h0
    rcases open_ints Try.underlying22 Try.underlying5 (by kernel_rfl) hf with ⟨hcs, _⟩ | ⟨x, l, c, zs, hcs, _, hl, hm, hz, _, hcell, hwz⟩
    · simp [Value.cells] at hcs
      obtain ⟨rfl, rfl, rfl⟩ := hcs
      exact ⟨[], .inl ⟨rfl, rfl, rfl, rfl⟩⟩
    · simp [Value.cells] at hcs
      obtain ⟨rfl, rfl, rfl⟩ := hcs
      exact ⟨zs, .inr ⟨_, rfl, hl, hm, by simpa using hz, hcell, hwz⟩⟩
  obtain ⟨b0, o0, l0, hv0, hl0, hb0⟩ := isb_of_row w0
  clear hA0 hval0
  refine (walk (.slice a0 len0 cap0) b0 o0 l0 hv0 hb0 W hl0).mono fun e W' ⟨he, bel⟩ => ?_
  subst he
  exact ⟨_, rfl, _, _, _, [], _, [], hW', trodAll_mk1 (shut_bool Try.underlying4 _), (trodAll_cons_mk (Below.trod laidOut (by kernel_rfl) (of_decide_eq_true (by kernel_rfl)) k0 bel lt0) trodAll_mk0), rfl, bel.frame _, fun h => by cases h⟩
theorem over : Rows.shaNobodyRow.holds Try.pinned (OpenSpec.ofChange Rows.shaNobodySpec) :=
  OpenClaim.holds_of_wide 8 Try.f8 rfl rfl rfl rfl rfl rfl rfl ⟨rfl, rfl, rfl, rfl, rfl⟩ rfl rfl rfl rfl rfl (by kernel_rfl) Try.func8 (by kernel_rfl)
    (of_decide_eq_true (by kernel_rfl)) (by unfold Func.isWrapper; first | (rw [if_pos (by decide +kernel)]; kernel_rfl) | (rw [if_neg (by decide +kernel)]; exact ⟨rfl, rfl⟩))
    (fun os started H enc _ => lifted os started H enc)
theorem proved : Rows.ShaNobodySaid := over
#print axioms proved
end Go.Proofs.Ytcijdceomgdakaa.shaNobodyDone
