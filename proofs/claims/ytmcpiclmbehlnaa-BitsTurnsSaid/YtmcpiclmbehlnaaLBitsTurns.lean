/- The statement BitsTurns: any word turned by any number, any three words' Ch and Maj are the reference's. No condition. -/
import Derived.Test.YtmcpiclmbehlnaaBitsRef
import Derived.Test.YtmcpiclmbehlnaaBitsK
import Derived.Test.YtmcpiclmbehlnaaOpen
import Derived.OpenShut
import Derived.ShutString
import Derived.ChangeOld
namespace Go.Proofs.Ytmcpiclmbehlnaa.bitsTurnsDone
open Go.ChangeShapes Go.WideShapes Go.ChangeAt Go.RowKit
set_option linter.unusedVariables false

theorem len3 {α : Type} {l : List α} (h : l.length = 3) : ∃ x y z, l = [x, y, z] := by
  match l, h with
  | [x, y, z], _ => exact ⟨x, y, z, rfl⟩
theorem walk (l0 : List Int) (a1 : Int) (hl0 : l0.length = 3) (wl0 : ∀ x ∈ l0, (Lit.int .u32 x).wf = true) (w1 : (Lit.int .i64 a1).wf = true) (w : World) :
    Calls Try.prog 5 #[.agg (row .u32 l0), .int .i64 a1] w fun e w' => e = .returned (.bool true) ∧ Below w.heap.size w w' := by
  obtain ⟨ws, rfl⟩ := U_list wl0
  rw [List.length_map] at hl0
  obtain ⟨x, y, z, rfl⟩ := len3 hl0
  clear wl0 hl0 w1
  have f0 : (row .u32 (List.map U [x, y, z]))[0]? = some (.int .u32 (U x)) := rfl
  have f1 : (row .u32 (List.map U [x, y, z]))[1]? = some (.int .u32 (U y)) := rfl
  have f2 : (row .u32 (List.map U [x, y, z]))[2]? = some (.int .u32 (U z)) := rfl
  have F0 := Lib.hid f0
  have F1 := Lib.hid f1
  have F2 := Lib.hid f2
  clear f0 f1 f2
  generalize row .u32 (List.map U [x, y, z]) = cs at *
  go_enter Try.func5, Try.ntmps5
  go_wp2_with fail
  refine (awake1_any _).mono ?_
  rintro e w1 ⟨rfl, b1⟩
  have c0 : w1.cell? ⟨w.heap.size, 0, none⟩ = some (.int .u32 (U x)) := (b1.cell (p := ⟨w.heap.size, 0, none⟩) (by simp)).trans ((cell_new _ _ _ _).trans F0.out)
  have c1 : w1.cell? ⟨w.heap.size, 1, none⟩ = some (.int .u32 (U y)) := (b1.cell (p := ⟨w.heap.size, 1, none⟩) (by simp)).trans ((cell_new _ _ _ _).trans F1.out)
  have c2 : w1.cell? ⟨w.heap.size, 2, none⟩ = some (.int .u32 (U z)) := (b1.cell (p := ⟨w.heap.size, 2, none⟩) (by simp)).trans ((cell_new _ _ _ _).trans F2.out)
  go_wp2_with (first | (go_at_call 20; refine (rot_any _ _ _).mono ?_; rintro e w' ⟨rfl, rfl⟩) | (go_at_call 22; refine (ch_any _ _ _ _).mono ?_; rintro e w' ⟨rfl, rfl⟩) | (go_at_call 24; refine (maj_any _ _ _ _).mono ?_; rintro e w' ⟨rfl, rfl⟩) | (go_at_call 21; refine (refRot_any _ _ _).mono ?_; rintro e w' ⟨rfl, rfl⟩) | (go_at_call 23; refine (refCh_any _ _ _ _).mono ?_; rintro e w' ⟨rfl, rfl⟩) | (go_at_call 25; refine (refMaj_any _ _ _ _).mono ?_; rintro e w' ⟨rfl, rfl⟩))
  go_ret
  exact ⟨rfl, ((Below.refl _ _).alloc (Nat.le_refl _) _).trans (b1.mono (by simp))⟩
theorem own : ownKnob Try.prog.godebug = none := by kernel_rfl
theorem laidOut : laidOutB Try.prog = true := by kernel_rfl
set_option maxRecDepth 100000 in
theorem lifted (os : Os) (started : os.Started) (H : Type) (enc : TypeId × Value → H) :
    ReturnsInHanded {} Try.checked os 5 .any (Rows.bitsTurnsSpec.pre6 enc Try.prog Try.f5 Rows.bitsTurnsRow.domain false) (Rows.bitsTurnsSpec.post enc Try.prog Try.f5 false true false false) := by
  refine returnsInHanded_of_change (C := Try.checked) own started (by kernel_rfl) Try.func5
    (ChangeSpec.witness6 (enc := enc) (C := Try.checked) false ⟨#[], #[.agg (row .u32 (List.replicate 3 0)), .int .i64 0], []⟩ 8 (by kernel_rfl) (by kernel_rfl) (by kernel_rfl) (by kernel_rfl)) ?_
  intro W base args ds gs before hval0 hW hcnd _
  have hval : ∀ (j : Nat) t v, Try.f5.params[j]? = some t → args[j]? = some v → Value.okWide Try.prog W .any base t v := hval0
  have hW' := hW
  obtain ⟨p, q, hA0, hV, rfl, hfz, hnd⟩ := hW
  have hA : DataW.TrodAll enc Try.prog W 0 (fun _ => true) true Try.f5.params.toList args.toList ds p := hA0
  rw [Try.params5] at hA hval
  obtain ⟨v0, vs0, d0, ds0, p0, q0, hargs, rfl, rfl, h0, r0⟩ := trodAll_cons hA
  obtain ⟨v1, vs1, d1, ds1, p1, q1, rfl, rfl, rfl, h1, r1⟩ := trodAll_cons r0
  obtain ⟨rfl, rfl, rfl⟩ := trodAll_nil r1
  obtain rfl : args = #[v0, v1] := by cases args; simp_all
  obtain ⟨rfl, rfl⟩ := trodVars_none hV
  have k0 := h0
  have lt0 : ∀ x ∈ p0, x.block < W.heap.size := by obtain ⟨m, hm⟩ := k0; exact DataW.trod_lt m _ _ _ hm
  obtain ⟨l0, rfl, hl0, wl0⟩ := open_row Try.underlying31 Try.underlying23 (by kernel_rfl) (by kernel_rfl) (hval 0 31 v0 rfl rfl) h0
  obtain ⟨a1, rfl, rfl, rfl, w1⟩ := open_int Try.underlying3 (hval 1 3 v1 rfl rfl) h1
  clear hA0 hval0
  refine (walk l0 a1 hl0 wl0 w1 W).mono fun e W' ⟨he, bel⟩ => ?_
  subst he
  exact ⟨_, rfl, _, _, _, [], _, [], hW', trodAll_mk1 (shut_bool Try.underlying4 _), (trodAll_cons_mk (Below.trod laidOut (by kernel_rfl) (of_decide_eq_true (by kernel_rfl)) k0 bel lt0) (trodAll_cons_mk (shut_int Try.underlying3 w1) trodAll_mk0)), rfl, bel.frame _, fun h => by cases h⟩
theorem over : Rows.bitsTurnsRow.holds Try.pinned (OpenSpec.ofChange Rows.bitsTurnsSpec) :=
  OpenClaim.holds_of_wide 5 Try.f5 rfl rfl rfl rfl rfl rfl rfl ⟨rfl, rfl, rfl, rfl, rfl⟩ rfl rfl rfl rfl rfl (by kernel_rfl) Try.func5 (by kernel_rfl)
    (of_decide_eq_true (by kernel_rfl)) (by unfold Func.isWrapper; first | (rw [if_pos (by decide +kernel)]; kernel_rfl) | (rw [if_neg (by decide +kernel)]; exact ⟨rfl, rfl⟩))
    (fun os started H enc _ => lifted os started H enc)
theorem proved : Rows.BitsTurnsSaid := over
#print axioms proved
end Go.Proofs.Ytmcpiclmbehlnaa.bitsTurnsDone
