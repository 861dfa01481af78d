/- The statement ShaPads: what stands behind any number of bytes is the reference's; none where the number is out of bounds. No condition. -/
import Derived.Test.YtcijdceomgdakaaShaAwake
import Derived.Test.YtcijdceomgdakaaOpenB
import Derived.Test.YtcijdceomgdakaaRef03Sum
import Derived.Laws.BytesArg
import Derived.Deep.RegionHeld
import Derived.OpenShut
import Derived.ShutString
import Derived.ChangeOld
namespace Go.Proofs.Ytcijdceomgdakaa.shaPadsDone
open Go.ChangeShapes Go.WideShapes Go.ChangeAt Go.RowKit
set_option linter.unusedVariables false
set_option linter.unusedSimpArgs false

theorem conv_own {base : Nat} {w : World} {v : Value} {l : List Int} (h : Own base w v l) (hl : 0 < l.length) (w' : World) (hb : Below w.heap.size w w') : (convert 22 9 v).run Try.prog w' = .ok (.string (strOfNums l)) w' := by
  obtain ⟨g, cap, cur, rfl, _, hg, _, _, hc⟩ := h.cells hl
  exact run_convert_bytes_arg w' 22 5 Try.underlying22 Try.underlying5 g 0 l.length cap l rfl (fun i hi => by
    rw [Nat.zero_add]
    have h2 := (hb.block g (blk_lt hg)).trans hg
    exact cell_row h2 i (hc i hi)) 9 Try.underlying9
theorem walk_out (a0 : Int) (hn : a0 < 0 ∨ 1099511627776 < a0) (w : World) :
    Calls Try.prog 4 #[.int .i64 a0] w fun e w' => e = .returned (.bool true) ∧ Below w.heap.size w w' := by
  rcases hn with hn | hn
  · have hp := pad_out a0 (.inl hn)
    have HP := Lib.hid hp
    clear hp
    go_enter Try.func4, Try.ntmps4
    go_wp2_with fail
    refine (awake3_any _).mono ?_
    rintro e w1 ⟨rfl, b1⟩
    go_wp2_with fail
    refine (HP.out _).mono ?_
    rintro e w2 ⟨rfl, rfl⟩
    go_wp2_with fail
    go_ret
    exact ⟨rfl, b1⟩
  · have h0 : ¬ a0 < 0 := by omega
    have hp := pad_out a0 (.inr hn)
    have HP := Lib.hid hp
    clear hp
    go_enter Try.func4, Try.ntmps4
    go_wp2_with fail
    refine (awake3_any _).mono ?_
    rintro e w1 ⟨rfl, b1⟩
    go_wp2_with fail
    refine (HP.out _).mono ?_
    rintro e w2 ⟨rfl, rfl⟩
    go_wp2_with fail
    go_ret
    exact ⟨rfl, b1⟩
set_option maxHeartbeats 1000000 in
theorem walk_in (n : Nat) (hn : n ≤ 1099511627776) (w : World) :
    Calls Try.prog 4 #[.int .i64 (n : Int)] w fun e w' => e = .returned (.bool true) ∧ Below w.heap.size w w' := by
  have HN := Lib.hid hn
  have hn0 : ¬ (n : Int) < 0 := by omega
  clear hn
  go_enter Try.func4, Try.ntmps4
  generalize hL : (1099511627776 : Int) = L
  have hL2 : ¬ L < (n : Int) := by have := HN.out; omega
  have HL := Lib.hid hL
  clear hL
  go_wp2_with fail
  refine (awake3_any _).mono ?_
  rintro e w1 ⟨rfl, b1⟩
  have HB1 := Lib.hid b1
  clear b1
  go_wp2_with fail
  refine (pad_in n HN.out _).mono ?_
  rintro e w2 ⟨v1, rfl, hown, b2⟩
  have HO := Lib.hid (And.intro hown (And.intro (BC_below HB1.out HB1.out.size b2) (Nat.le_trans HB1.out.size b2.size)))
  obtain ⟨g, cap, cur, rfl, _, hg, _, _, hc⟩ := hown.cells (by have := padF_le n; omega)
  have hpl := padF_le n
  have hpw := padF_whole n
  have hs : ∀ w', Below w2.heap.size w2 w' → (convert 22 9 (.slice (some ⟨g, 0, none⟩) (padF n).length cap)).run Try.prog w' = .ok (.string (strOfNums (padF n))) w' := conv_own hown (by omega)
  have HS := Lib.hid hs
  obtain ⟨q, hq⟩ : ∃ q, n + (padF n).length = 64 * q := ⟨(n + (padF n).length) / 64, by omega⟩
  have HPL := Lib.hid (show 0 < (padF n).length by omega)
  generalize hl : (padF n).length = pl at *
  have k1 : IntKind.i64.wrap ((n : Int) + (pl : Int)) = 64 * (q : Int) := by have := HN.out; rw [IntKind.wrap_i64]; omega
  have k2 : (9 : Int) ≤ (pl : Int) := by omega
  have k3 : (pl : Int) ≤ 72 := by omega
  clear hown b2 hg hc hpl hpw hs hq hl
  have HCO := Lib.hid (fun (base : Nat) (w : World) (v : Value) (h : Own base w v (padF n)) (w' : World) (hb : Below w.heap.size w w') => conv_own h (by have := padF_le n; omega) w' hb)
  generalize strOfNums (padF n) = st at *
  have HK : Hid (∀ w', Below w2.heap.size w2 w' → (convert 22 9 (.slice (some ⟨g, 0, none⟩) pl cap)).run Try.prog w' = .ok (.string st) w' ∧ Below w2.heap.size w2 w') := Lib.hid (fun w' h => ⟨HS.out w' h, h⟩)
  go_wp2_with fail
  go_region_held (fun w' => (convert 22 9 (.slice (some ⟨g, 0, none⟩) pl cap)).run Try.prog w' = .ok (.string st) w' ∧ Below w2.heap.size w2 w')
    ((go_split_ands
      first
        | exact HK.out _ (by first | assumption | exact Below.refl _ _ | exact Below.drew (Below.refl _ _) | exact Below.drew (by assumption) | exact Below.drew (Below.drew (by assumption)))
        | exact HK.out _ (BC_below (by first | assumption | exact Below.refl _ _ | exact Below.drew (Below.refl _ _) | exact Below.drew (by assumption)) (by first | exact Below.size (by assumption) | exact Nat.le_refl _ | (simp; done)) b5)))
    ((go_at_call 13
      refine (r3pad_in n HN.out _).mono ?_
      rintro e w5 ⟨v5, rfl, hown5, b5⟩
      have e1 := HCO.out _ w5 v5 hown5 w5 (Below.refl _ _)
      have e2 := HCO.out _ w5 v5 hown5 w5.drew (Below.drew (Below.refl _ _))))
  go_wp2_with fail
  go_ret
  exact ⟨rfl, BC_below HO.out.2.1 HO.out.2.2 ((Below.drew (Below.refl w2.heap.size w2)).trans b5)⟩
theorem walk (a0 : Int) (w0 : (Lit.int .i64 a0).wf = true) (w : World) :
    Calls Try.prog 4 #[.int .i64 a0] w fun e w' => e = .returned (.bool true) ∧ Below w.heap.size w w' := by
  by_cases h : a0 < 0 ∨ 1099511627776 < a0
  · exact walk_out a0 h w
  · obtain ⟨n, rfl⟩ := Int.eq_ofNat_of_zero_le (show 0 ≤ a0 by omega)
    exact walk_in n (by omega) w

theorem own : ownKnob Try.prog.godebug = none := by kernel_rfl
theorem laidOut : laidOutB Try.prog = true := by kernel_rfl
set_option maxRecDepth 100000 in
theorem lifted (os : Os) (started : os.Started) (H : Type) (enc : TypeId × Value → H) :
    ReturnsInHanded {} Try.checked os 4 .any (Rows.shaPadsSpec.pre6 enc Try.prog Try.f4 Rows.shaPadsRow.domain false) (Rows.shaPadsSpec.post enc Try.prog Try.f4 false true false false) := by
  refine returnsInHanded_of_change (C := Try.checked) own started (by kernel_rfl) Try.func4
    (ChangeSpec.witness6 (enc := enc) (C := Try.checked) false ⟨#[], #[.int .i64 0], []⟩ 8 (by kernel_rfl) (by kernel_rfl) (by kernel_rfl) (by kernel_rfl)) ?_
  intro W base args ds gs before hval0 hW hcnd _
  have hval : ∀ (j : Nat) t v, Try.f4.params[j]? = some t → args[j]? = some v → Value.okWide Try.prog W .any base t v := hval0
  have hW' := hW
  obtain ⟨p, q, hA0, hV, rfl, hfz, hnd⟩ := hW
  have hA : DataW.TrodAll enc Try.prog W 0 (fun _ => true) true Try.f4.params.toList args.toList ds p := hA0
  rw [Try.params4] at hA hval
  obtain ⟨v0, vs0, d0, ds0, p0, q0, hargs, rfl, rfl, h0, r0⟩ := trodAll_cons hA
  obtain ⟨rfl, rfl, rfl⟩ := trodAll_nil r0
  obtain rfl : args = #[v0] := by cases args; simp_all
  obtain ⟨rfl, rfl⟩ := trodVars_none hV
  obtain ⟨a0, rfl, rfl, rfl, w0⟩ := open_int Try.underlying2 (hval 0 2 v0 rfl rfl) h0
  clear hA0 hval0
  refine (walk a0 w0 W).mono fun e W' ⟨he, bel⟩ => ?_
  subst he
  exact ⟨_, rfl, _, _, _, [], _, [], hW', trodAll_mk1 (shut_bool Try.underlying4 _), (trodAll_cons_mk (shut_int Try.underlying2 w0) trodAll_mk0), rfl, bel.frame _, fun h => by cases h⟩
theorem over : Rows.shaPadsRow.holds Try.pinned (OpenSpec.ofChange Rows.shaPadsSpec) :=
  OpenClaim.holds_of_wide 4 Try.f4 rfl rfl rfl rfl rfl rfl rfl ⟨rfl, rfl, rfl, rfl, rfl⟩ rfl rfl rfl rfl rfl (by kernel_rfl) Try.func4 (by kernel_rfl)
    (of_decide_eq_true (by kernel_rfl)) (by unfold Func.isWrapper; first | (rw [if_pos (by decide +kernel)]; kernel_rfl) | (rw [if_neg (by decide +kernel)]; exact ⟨rfl, rfl⟩))
    (fun os started H enc _ => lifted os started H enc)
theorem proved : Rows.ShaPadsSaid := over
#print axioms proved
end Go.Proofs.Ytcijdceomgdakaa.shaPadsDone
