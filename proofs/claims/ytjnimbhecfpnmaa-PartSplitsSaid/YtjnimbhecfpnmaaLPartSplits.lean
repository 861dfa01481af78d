/- The statement PartSplits: any bytes in parts, of any bound, or the error, and how many these are. No condition. -/
import Derived.Test.YtjnimbhecfpnmaaAwake18
import Derived.Test.YtjnimbhecfpnmaaSame18
import Derived.Test.YtjnimbhecfpnmaaOpenP
import Derived.Test.YtjnimbhecfpnmaaGuard
import Derived.Test.YtjnimbhecfpnmaaRSplit
import Derived.Deep.Cut
import Derived.OpenShut
import Derived.ShutString
import Derived.ChangeOld
namespace Go.Proofs.Ytjnimbhecfpnmaa.partSplitsDone
open Go.ChangeShapes Go.WideShapes Go.ChangeAt Go.RowKit
set_option linter.unusedVariables false
set_option linter.unusedSimpArgs false
set_option maxRecDepth 100000
attribute [local irreducible] SlV Lies

theorem piece_bytes {l : List Int} (hb : Bytes l) (size i : Nat) : Bytes ((splitF l size).getD i []) := by
  by_cases h : i < chunksN l.length size
  · rw [splitF_get l size i h]
    exact encF_bytes (sumF_bytes l) (bytes_take (bytes_drop hb _) _) _ _
  · have : (splitF l size).getD i [] = [] := by simp [List.getD, splitF, h]
    rw [this]
    exact bytes_nil
theorem wrap80 {most : Int} (h : (Lit.int .i64 most).wf = true) (h2 : 4096 ≤ most) : IntKind.i64.wrap (most - 80) = most - 80 := by
  simp [Lit.wf, IntKind.min, IntKind.max, IntKind.signed, IntKind.bits] at h
  rw [IntKind.wrap_i64]
  omega
set_option maxHeartbeats 4000000 in
theorem walk (v0 : Value) (b0 o0 : Nat) (l0 : List Int) (a1 a2 : Int) (hv0 : SlV v0 b0 o0 l0.length) (hb0 : Bytes l0) (w1 : (Lit.int .i64 a1).wf = true) (w2 : (Lit.int .i64 a2).wf = true) (w : World) (hl0 : Lies w b0 o0 l0) :
    Calls Try.prog 4 #[v0, .int .i64 a1, .int .i64 a2] w fun e w' => e = .returned (.bool true) ∧ Below w.heap.size w w' := by
  have HW80 := Lib.hid (wrap80 w1)
  clear w1 w2
  have HV := Lib.hid hv0
  obtain ⟨pv, cv, rfl, _⟩ := by unfold SlV at hv0; exact hv0
  obtain ⟨n, hn⟩ : ∃ n, n = l0.length := ⟨_, rfl⟩
  rw [← hn] at HV ⊢
  have HP := Lib.hid (And.intro hn (And.intro hb0 hl0))
  clear hn hb0 hl0 hv0
  go_enter Try.func4, Try.ntmps4
  go_wp2_with fail
  refine (awake18_any _).mono ?_
  rintro e wa ⟨rfl, ba⟩
  have HA := Lib.hid ba
  clear ba
  rcases Nat.lt_or_ge 12000 n with h5 | h5
  · have h5' : (12000 : Int) < (n : Int) := by omega
    go_wp2_with fail
    go_ret
    exact ⟨rfl, HA.out⟩
  have h5' : ¬ (12000 : Int) < (n : Int) := by omega
  have HMA := Lib.hid (many_any a2 a1)
  have HRM := Lib.hid (rmany_any a2 a1 HW80.out)
  have HMN := Lib.hid (many_any (n : Int) a1)
  generalize manyF a2 a1 = m2 at *
  have H5 := Lib.hid h5
  clear h5
  by_cases hbad : a1 < 4096 ∨ n = 0
  · have hs := split_arg b0 o0 (.slice pv n cv) l0 a1 (hbad.imp_right fun h => List.eq_nil_of_length_eq_zero (by rw [← HP.out.1]; exact h)) (by rw [← HP.out.1]; exact HV.out) wa
    have hr := rsplit_arg b0 o0 (.slice pv n cv) l0 a1 (hbad.imp_right fun h => List.eq_nil_of_length_eq_zero (by rw [← HP.out.1]; exact h)) (by rw [← HP.out.1]; exact HV.out)
    have HS := Lib.hid hs
    have HR := Lib.hid hr
    clear hs hr hbad
    go_wp2_with fail
    refine HS.out.mono ?_
    rintro e wb ⟨rfl, bb⟩
    have HB := Lib.hid (BC_below HA.out HA.out.size bb)
    clear bb
    go_wp2_with fail
    refine (HR.out wb).mono ?_
    rintro e wc ⟨rfl, bc⟩
    have HC := Lib.hid (BC_below HB.out HB.out.size bc)
    clear bc
    go_wp2_with fail
    refine (blobs_any (.slice none 0 0) (.slice none 0 0) [] [] (fun i => by simpa using bytes_nil) (fun i => by simpa using bytes_nil) (by decide) (by decide) wc (OwnS.nil 0 wc).rd (OwnS.nil 0 wc).rd).mono ?_
    rintro e wd ⟨rfl, bd⟩
    have HD := Lib.hid (BC_below HC.out HC.out.size bd)
    clear bd
    rw [show sameLB [] [] = true from decide_eq_true rfl]
    go_wp2_with fail
    refine (HMA.out _).mono ?_
    rintro e we ⟨rfl, rfl⟩
    go_wp2_with fail
    refine (HRM.out _).mono ?_
    rintro e we ⟨rfl, rfl⟩
    go_wp2_with fail
    go_ret
    exact ⟨rfl, HD.out⟩
  have hm : 4096 ≤ a1 := by omega
  have hn0 : 0 < n := by omega
  obtain ⟨size, hsz⟩ : ∃ s, s = szP a1 n := ⟨_, rfl⟩
  have hs := split_main b0 o0 (.slice pv n cv) l0 a1 hm (by rw [← HP.out.1]; exact hn0) (by rw [← HP.out.1]; omega) HP.out.2.1 (by rw [← HP.out.1]; exact HV.out) wa (HP.out.2.2.below' HA.out)
  have hr := fun W (hW : Below w.heap.size w W) => rsplit_main b0 o0 (.slice pv n cv) l0 a1 hm (HW80.out hm) (by rw [← HP.out.1]; exact hn0) (by rw [← HP.out.1]; have := H5.out; omega) HP.out.2.1 (by rw [← HP.out.1]; exact HV.out) W (HP.out.2.2.below' hW)
  rw [← HP.out.1, ← hsz] at hs
  rw [← HP.out.1, ← hsz] at hr
  have hN := chunks_many (n := n) (most := a1) hn0 (by have := H5.out; omega) hm
  rw [← hsz] at hN
  rw [hN] at HMN
  obtain ⟨N, hNN⟩ : ∃ N, N = chunksN n size := ⟨_, rfl⟩
  rw [← hNN] at HMN
  have hlen : (splitF l0 size).length = N := by rw [splitF_len, ← HP.out.1, hNN]
  have hNb : N ≤ 10000000 := by
    have h1 : N ≤ n + size - 1 := by rw [hNN]; exact Nat.div_le_self _ _
    have h2 : (size : Int) ≤ (n : Int) := by rw [hsz]; unfold szP; omega
    have := H5.out
    omega
  have hpb := piece_bytes HP.out.2.1 size
  have HS := Lib.hid hs
  have HR := Lib.hid hr
  generalize splitF l0 size = L at *
  have HL := Lib.hid (And.intro hlen (And.intro hNb hpb))
  clear hs hr hbad hm hn0 hsz hN hNN hlen hNb hpb
  go_wp2_with fail
  refine HS.out.mono ?_
  rintro e wb ⟨vb, rfl, ob, bb⟩
  have HB := Lib.hid (And.intro (BC_below HA.out HA.out.size bb) ob)
  clear bb ob
  go_wp2_with fail
  refine (HR.out wb HB.out.1).mono ?_
  rintro e wc ⟨vc, rfl, oc, bc⟩
  have HC := Lib.hid (And.intro (BC_below HB.out.1 HB.out.1.size bc) (And.intro (HB.out.2.below bc).rd oc.rd))
  obtain ⟨pb, cb, rfl, _⟩ := (HB.out.2.below bc).rd
  clear bc oc
  go_wp2_with fail
  refine (blobs_any _ vc L L HL.out.2.2 HL.out.2.2 (by rw [HL.out.1]; exact HL.out.2.1) (by rw [HL.out.1]; exact HL.out.2.1) wc HC.out.2.1 HC.out.2.2).mono ?_
  rintro e wd ⟨rfl, bd⟩
  have HD := Lib.hid (BC_below HC.out.1 HC.out.1.size bd)
  clear bd
  rw [show sameLB L L = true from decide_eq_true rfl]
  go_wp2_with fail
  refine (HMA.out _).mono ?_
  rintro e we ⟨rfl, rfl⟩
  go_wp2_with fail
  refine (HRM.out _).mono ?_
  rintro e we ⟨rfl, rfl⟩
  rw [HL.out.1]
  go_wp2_with fail
  refine (HMN.out _).mono ?_
  rintro e we ⟨rfl, rfl⟩
  go_wp2_with fail
  go_ret
  exact ⟨rfl, HD.out⟩
theorem own : ownKnob Try.prog.godebug = none := by kernel_rfl
theorem laidOut : laidOutB Try.prog = true := by kernel_rfl
set_option maxRecDepth 100000 in
theorem lifted (os : Os) (started : os.Started) (H : Type) (enc : TypeId × Value → H) :
    ReturnsInHanded {} Try.checked os 4 .any (Rows.partSplitsSpec.pre6 enc Try.prog Try.f4 Rows.partSplitsRow.domain false) (Rows.partSplitsSpec.post enc Try.prog Try.f4 false true false false) := by
  refine returnsInHanded_of_change (C := Try.checked) own started (by kernel_rfl) Try.func4
    (ChangeSpec.witness6 (enc := enc) (C := Try.checked) false ⟨#[], #[.slice none 0 0, .int .i64 0, .int .i64 0], []⟩ 8 (by kernel_rfl) (by kernel_rfl) (by kernel_rfl) (by kernel_rfl)) ?_
  intro W base args ds gs before hval0 hW hcnd _
  have hval : ∀ (j : Nat) t v, Try.f4.params[j]? = some t → args[j]? = some v → Value.okWide Try.prog W .any base t v := hval0
  have hW' := hW
  obtain ⟨p, q, hA0, hV, rfl, hfz, hnd⟩ := hW
  have hA : DataW.TrodAll enc Try.prog W 0 (fun _ => true) true Try.f4.params.toList args.toList ds p := hA0
  rw [Try.params4] at hA hval
  obtain ⟨v0, vs0, d0, ds0, p0, q0, hargs, rfl, rfl, h0, r0⟩ := trodAll_cons hA
  obtain ⟨v1, vs1, d1, ds1, p1, q1, rfl, rfl, rfl, h1, r1⟩ := trodAll_cons r0
  obtain ⟨v2, vs2, d2, ds2, p2, q2, rfl, rfl, rfl, h2, r2⟩ := trodAll_cons r1
  obtain ⟨rfl, rfl, rfl⟩ := trodAll_nil r2
  obtain rfl : args = #[v0, v1, v2] := by cases args; simp_all
  obtain ⟨rfl, rfl⟩ := trodVars_none hV
  obtain ⟨a0, len0, cap0, rfl⟩ := okWide_slice Try.underlying24 (hval 0 24 v0 rfl rfl)
  have k0 := h0
  have lt0 : ∀ x ∈ p0, x.block < W.heap.size := by obtain ⟨m, hm⟩ := k0; exact DataW.trod_lt m _ _ _ hm
  obtain ⟨z0, w0⟩ : ∃ zs, IsRow .u8 W a0 len0 cap0 zs := by
    obtain ⟨fuel, hf⟩ := h0
    rcases open_ints Try.underlying24 Try.underlying5 (by kernel_rfl) hf with ⟨hcs, _⟩ | ⟨x, l, c, zs, hcs, _, hl, hm, hz, _, hcell, hwz⟩
    · simp [Value.cells] at hcs
      obtain ⟨rfl, rfl, rfl⟩ := hcs
      exact ⟨[], .inl ⟨rfl, rfl, rfl, rfl⟩⟩
    · simp [Value.cells] at hcs
      obtain ⟨rfl, rfl, rfl⟩ := hcs
      exact ⟨zs, .inr ⟨_, rfl, hl, hm, by simpa using hz, hcell, hwz⟩⟩
  obtain ⟨b0, o0, l0, hv0, hl0, hb0⟩ := isb_of_row w0
  obtain ⟨a1, rfl, rfl, rfl, w1⟩ := open_int Try.underlying3 (hval 1 3 v1 rfl rfl) h1
  obtain ⟨a2, rfl, rfl, rfl, w2⟩ := open_int Try.underlying3 (hval 2 3 v2 rfl rfl) h2
  clear hA0 hval0
  refine (walk (.slice a0 len0 cap0) b0 o0 l0 a1 a2 hv0 hb0 w1 w2 W hl0).mono fun e W' ⟨he, bel⟩ => ?_
  subst he
  exact ⟨_, rfl, _, _, _, [], _, [], hW', trodAll_mk1 (shut_bool Try.underlying4 _), (trodAll_cons_mk (Below.trod laidOut (by kernel_rfl) (of_decide_eq_true (by kernel_rfl)) k0 bel lt0) (trodAll_cons_mk (shut_int Try.underlying3 w1) (trodAll_cons_mk (shut_int Try.underlying3 w2) trodAll_mk0))), rfl, bel.frame _, fun h => by cases h⟩
theorem over : Rows.partSplitsRow.holds Try.pinned (OpenSpec.ofChange Rows.partSplitsSpec) :=
  OpenClaim.holds_of_wide 4 Try.f4 rfl rfl rfl rfl rfl rfl rfl ⟨rfl, rfl, rfl, rfl, rfl⟩ rfl rfl rfl rfl rfl (by kernel_rfl) Try.func4 (by kernel_rfl)
    (of_decide_eq_true (by kernel_rfl)) (by unfold Func.isWrapper; first | (rw [if_pos (by decide +kernel)]; kernel_rfl) | (rw [if_neg (by decide +kernel)]; exact ⟨rfl, rfl⟩))
    (fun os started H enc _ => lifted os started H enc)
theorem proved : Rows.PartSplitsSaid := over
#print axioms proved
end Go.Proofs.Ytjnimbhecfpnmaa.partSplitsDone
