/- The statement BlockUndone: a round can be undone, and what is undone can be done. No condition. -/
import Derived.Test.YtmcpiclmbehlnaaBlockAwake
import Derived.Test.YtmcpiclmbehlnaaBlockRef
import Derived.OpenShut
import Derived.ShutString
import Derived.ChangeOld
namespace Go.Proofs.Ytmcpiclmbehlnaa.blockUndoneDone
open Go.ChangeShapes Go.WideShapes Go.ChangeAt Go.RowKit
set_option linter.unusedVariables false
set_option linter.unusedSimpArgs false
attribute [local go_sem] U_wadd takes comesTo

theorem eql8_self (y : W8) (w : World) : (binOp .eql 25 (.agg y.row) (.agg y.row)).run Try.prog w = .ok (.bool true) w := by
  have h := eql8 y y w
  rw [decide_eq_true (rfl : y.list = y.list)] at h
  exact h

theorem bv_back (h b c k w t : BitVec 32) : h + b + c + k + w + t - t - b - c - k - w = h := by
  simp only [BitVec.add_sub_cancel]
  rw [show h + b + c + k + w = h + w + k + c + b by ac_rfl]
  simp only [BitVec.add_sub_cancel]
theorem bv_sub (x y : BitVec 32) : x - y + y = x := BitVec.sub_add_cancel x y
theorem bv_mid (d o t : BitVec 32) : d + o - (o + t - t) = d := by simp only [BitVec.add_sub_cancel]
theorem bv_one (a t b c k w : BitVec 32) : a - t - b - c - k - w + b + c + k + w = a - t := by
  generalize a - t = x
  simp only [BitVec.sub_eq_add_neg]
  rw [show x + -b + -c + -k + -w + b + c + k + w = x + (b + -b) + (c + -c) + (k + -k) + (w + -w) by ac_rfl]
  simp only [← BitVec.sub_eq_add_neg, BitVec.sub_self, BitVec.add_zero]
theorem undo_round (x : W8) (k w : BitVec 32) : undoF (roundF x k w) k w = x := by
  obtain ⟨a, b, c, d, e, f, g, h⟩ := x
  simp only [undoF, roundF, one, two, W8.mk.injEq, true_and, and_true]
  exact ⟨bv_mid _ _ _, bv_back _ _ _ _ _ _⟩
theorem round_undo (x : W8) (k w : BitVec 32) : roundF (undoF x k w) k w = x := by
  obtain ⟨a, b, c, d, e, f, g, h⟩ := x
  simp only [undoF, roundF, one, two, W8.mk.injEq, true_and, and_true]
  rw [bv_one]
  exact ⟨bv_sub _ _, bv_sub _ _⟩
set_option maxHeartbeats 400000 in
theorem walk0 (r0 v u : Array Value) (hz : r0.size = 8) (a1 a2 : Int)
    (h1 : ∀ w : World, Calls Try.prog 38 #[.agg r0, .int .u32 a1, .int .u32 a2] w fun e w' => e = .returned (.agg v) ∧ Below w.heap.size w w')
    (h2 : ∀ w : World, Calls Try.prog 40 #[.agg v, .int .u32 a1, .int .u32 a2] w fun e w' => e = .returned (.agg r0) ∧ Below w.heap.size w w')
    (h3 : ∀ w : World, Calls Try.prog 40 #[.agg r0, .int .u32 a1, .int .u32 a2] w fun e w' => e = .returned (.agg u) ∧ Below w.heap.size w w')
    (h4 : ∀ w : World, Calls Try.prog 38 #[.agg u, .int .u32 a1, .int .u32 a2] w fun e w' => e = .returned (.agg r0) ∧ Below w.heap.size w w')
    (he : ∀ w, (binOp .eql 25 (.agg r0) (.agg r0)).run Try.prog w = .ok (.bool true) w) (w : World) :
    Calls Try.prog 11 #[.agg r0, .int .u32 a1, .int .u32 a2] w fun e w' => e = .returned (.bool true) ∧ Below w.heap.size w w' := by
  have HZ := Lib.hid hz
  have H1 := Lib.hid h1
  have H2 := Lib.hid h2
  have H3 := Lib.hid h3
  have H4 := Lib.hid h4
  clear hz h1 h2 h3 h4
  go_enter Try.func11, Try.ntmps11
  go_wp2_with fail
  refine (awake2_any _).mono ?_
  rintro e w1 ⟨rfl, b1⟩
  have hrow0 := BC_blk (BC_blk1 b1 (heap_alloc_new w (.cells r0 25)))
  have HH := Lib.hid (BC_below (below1 w _) (below1 w _).size b1)
  clear b1
  have hS := @BC_all w1
  haveI := BC_inst w1
  go_wp2_with fail
  refine wp_region_head (BC w1) 24 (by kernel_rfl) (by kernel_rfl) (BC_start _) ?_
  simp only [List.take_succ_cons, List.take_zero, List.drop_succ_cons, List.drop_zero]
  repeat (first
    | (refine headG_load_row 25 _ rfl rfl _ rfl _ _ _ _ hrow0 Try.underlying25 rfl (by rw [HZ.out]; kernel_rfl) ?_)
    | (refine headG_step (fun K hK => ?_)
       go_simp
       first
         | (refine hK _ ?_; clear hK K)
         | (apply Exists.intro
            refine ⟨fun x => ?_, hK _ ?_⟩
            (first
              | (go_at_call 38; exact BC_call x (by with_reducible exact H1.out _))
              | (go_at_call 40; exact BC_call x (by with_reducible exact H2.out _))
              | (go_at_call 40; exact BC_call x (by with_reducible exact H3.out _))
              | (go_at_call 38; exact BC_call x (by with_reducible exact H4.out _)))
            clear hK K)))
  refine headG_nil ?_
  intro w2 hw2
  go_wp2_with fail
  go_ret
  exact ⟨rfl, BC_below HH.out HH.out.size hw2⟩
theorem walk (l0 : List Int) (a1 a2 : Int) (hl0 : l0.length = 8) (wl0 : ∀ x ∈ l0, (Lit.int .u32 x).wf = true) (w1 : (Lit.int .u32 a1).wf = true) (w2 : (Lit.int .u32 a2).wf = true) (w : World) :
    Calls Try.prog 11 #[.agg (row .u32 l0), .int .u32 a1, .int .u32 a2] w fun e w' => e = .returned (.bool true) ∧ Below w.heap.size w w' := by
  obtain ⟨x0, hx0⟩ := w8_of hl0 wl0
  obtain ⟨k, rfl⟩ := U_of w1
  obtain ⟨v, rfl⟩ := U_of w2
  rw [hx0]
  have e2 := r2undo_any (roundF x0 k v) k v
  rw [undo_round] at e2
  have e4 := round_any (undoF x0 k v) k v
  rw [round_undo] at e4
  exact walk0 x0.row _ _ (W8.row_size x0) _ _ (round_any x0 k v) e2 (r2undo_any x0 k v) e4 (eql8_self x0) w
theorem own : ownKnob Try.prog.godebug = none := by kernel_rfl
theorem laidOut : laidOutB Try.prog = true := by kernel_rfl
set_option maxRecDepth 100000 in
theorem lifted (os : Os) (started : os.Started) (H : Type) (enc : TypeId × Value → H) :
    ReturnsInHanded {} Try.checked os 11 .any (Rows.blockUndoneSpec.pre6 enc Try.prog Try.f11 Rows.blockUndoneRow.domain false) (Rows.blockUndoneSpec.post enc Try.prog Try.f11 false true false false) := by
  refine returnsInHanded_of_change (C := Try.checked) own started (by kernel_rfl) Try.func11
    (ChangeSpec.witness6 (enc := enc) (C := Try.checked) false ⟨#[], #[.agg (row .u32 (List.replicate 8 0)), .int .u32 0, .int .u32 0], []⟩ 8 (by kernel_rfl) (by kernel_rfl) (by kernel_rfl) (by kernel_rfl)) ?_
  intro W base args ds gs before hval0 hW hcnd _
  have hval : ∀ (j : Nat) t v, Try.f11.params[j]? = some t → args[j]? = some v → Value.okWide Try.prog W .any base t v := hval0
  have hW' := hW
  obtain ⟨p, q, hA0, hV, rfl, hfz, hnd⟩ := hW
  have hA : DataW.TrodAll enc Try.prog W 0 (fun _ => true) true Try.f11.params.toList args.toList ds p := hA0
  rw [Try.params11] at hA hval
  obtain ⟨v0, vs0, d0, ds0, p0, q0, hargs, rfl, rfl, h0, r0⟩ := trodAll_cons hA
  obtain ⟨v1, vs1, d1, ds1, p1, q1, rfl, rfl, rfl, h1, r1⟩ := trodAll_cons r0
  obtain ⟨v2, vs2, d2, ds2, p2, q2, rfl, rfl, rfl, h2, r2⟩ := trodAll_cons r1
  obtain ⟨rfl, rfl, rfl⟩ := trodAll_nil r2
  obtain rfl : args = #[v0, v1, v2] := by cases args; simp_all
  obtain ⟨rfl, rfl⟩ := trodVars_none hV
  have k0 := h0
  have lt0 : ∀ x ∈ p0, x.block < W.heap.size := by obtain ⟨m, hm⟩ := k0; exact DataW.trod_lt m _ _ _ hm
  obtain ⟨l0, rfl, hl0, wl0⟩ := open_row Try.underlying25 Try.underlying23 (by kernel_rfl) (by kernel_rfl) (hval 0 25 v0 rfl rfl) h0
  obtain ⟨a1, rfl, rfl, rfl, w1⟩ := open_int Try.underlying23 (hval 1 23 v1 rfl rfl) h1
  obtain ⟨a2, rfl, rfl, rfl, w2⟩ := open_int Try.underlying23 (hval 2 23 v2 rfl rfl) h2
  clear hA0 hval0
  refine (walk l0 a1 a2 hl0 wl0 w1 w2 W).mono fun e W' ⟨he, bel⟩ => ?_
  subst he
  exact ⟨_, rfl, _, _, _, [], _, [], hW', trodAll_mk1 (shut_bool Try.underlying4 _), (trodAll_cons_mk (Below.trod laidOut (by kernel_rfl) (of_decide_eq_true (by kernel_rfl)) k0 bel lt0) (trodAll_cons_mk (shut_int Try.underlying23 w1) (trodAll_cons_mk (shut_int Try.underlying23 w2) trodAll_mk0))), rfl, bel.frame _, fun h => by cases h⟩
theorem over : Rows.blockUndoneRow.holds Try.pinned (OpenSpec.ofChange Rows.blockUndoneSpec) :=
  OpenClaim.holds_of_wide 11 Try.f11 rfl rfl rfl rfl rfl rfl rfl ⟨rfl, rfl, rfl, rfl, rfl⟩ rfl rfl rfl rfl rfl (by kernel_rfl) Try.func11 (by kernel_rfl)
    (of_decide_eq_true (by kernel_rfl)) (by unfold Func.isWrapper; first | (rw [if_pos (by decide +kernel)]; kernel_rfl) | (rw [if_neg (by decide +kernel)]; exact ⟨rfl, rfl⟩))
    (fun os started H enc _ => lifted os started H enc)
theorem proved : Rows.BlockUndoneSaid := over
#print axioms proved
end Go.Proofs.Ytmcpiclmbehlnaa.blockUndoneDone
