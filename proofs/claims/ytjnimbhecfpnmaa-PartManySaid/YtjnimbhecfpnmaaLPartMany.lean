/- The statement PartMany: as many parts as are needed, and no more; of greater parts there are no more; more bytes make no fewer. No condition. -/
import Derived.Test.YtjnimbhecfpnmaaAwake18
import Derived.Test.YtjnimbhecfpnmaaRef18
import Derived.OpenShut
import Derived.ShutString
import Derived.ChangeOld
namespace Go.Proofs.Ytjnimbhecfpnmaa.partManyDone
open Go.ChangeShapes Go.WideShapes Go.ChangeAt Go.RowKit
set_option linter.unusedVariables false
set_option linter.unusedSimpArgs false

theorem many_facts {n m more : Int} (h1 : 1 ≤ n) (h2 : n ≤ 4194304) (h3 : 4096 ≤ m) (h4 : m ≤ 69631) (h5 : 0 ≤ more) (h6 : more ≤ 65535) :
    1 ≤ manyF n m ∧ n ≤ manyF n m * (m - 80) ∧ (manyF n m - 1) * (m - 80) < n ∧ manyF n (m + more) ≤ manyF n m ∧ (2 ≤ n → manyF (n - 1) m ≤ manyF n m) ∧ manyF 0 m = 0 ∧ manyF n 4095 = 0 ∧ manyF n m ≤ 4194304 ∧ manyF n m * (m - 80) ≤ 4194304 + 69631 := by
  have e0 : manyF 0 m = 0 := by unfold manyF; rw [if_pos (by omega)]
  have e9 : manyF n 4095 = 0 := by unfold manyF; rw [if_pos (by omega)]
  rw [manyF_ref h1 h2 h3, manyF_ref h1 h2 (show 4096 ≤ m + more by omega)]
  have hn : 0 ≤ n - 1 := by omega
  obtain ⟨d, hd⟩ : ∃ d, d = m - 80 := ⟨_, rfl⟩
  have hd0 : 0 < d := by omega
  have q0 : 0 ≤ (n - 1) / d := Int.ediv_nonneg hn (by omega)
  have q1 : (n - 1) / d * d ≤ n - 1 := Int.ediv_mul_le _ (by omega)
  have q2 : n - 1 < ((n - 1) / d + 1) * d := Int.lt_ediv_add_one_mul_self _ hd0
  have q3 : (n - 1) / d ≤ n - 1 := Int.ediv_le_self _ hn
  have e1 : ((n - 1) / d + 1) * d = (n - 1) / d * d + d := by rw [Int.add_mul, Int.one_mul]
  have q4 : (n - 1) / (m + more - 80) ≤ (n - 1) / d := by
    have a0 : 0 ≤ (n - 1) / (m + more - 80) := Int.ediv_nonneg hn (by omega)
    have a1 : (n - 1) / (m + more - 80) * (m + more - 80) ≤ n - 1 := Int.ediv_mul_le _ (by omega)
    have a2 : (n - 1) / (m + more - 80) * d ≤ (n - 1) / (m + more - 80) * (m + more - 80) := Int.mul_le_mul_of_nonneg_left (by omega) a0
    exact Int.le_ediv_of_mul_le hd0 (by omega)
  have q5 : 2 ≤ n → manyF (n - 1) m ≤ (n - 1) / d + 1 := by
    intro h
    rw [manyF_ref (by omega) (by omega) h3, ← hd]
    have := Int.ediv_le_ediv hd0 (show n - 1 - 1 ≤ n - 1 by omega)
    omega
  rw [← hd]
  rw [show (n - 1) / d + 1 - 1 = (n - 1) / d by omega]
  exact ⟨by omega, by omega, by omega, by omega, q5, e0, e9, by omega, by omega⟩
set_option maxRecDepth 100000
set_option maxHeartbeats 800000 in
theorem walk (a0 a1 a2 : Int) (w0 : (Lit.int .u32 a0).wf = true) (w1 : (Lit.int .u16 a1).wf = true) (w2 : (Lit.int .u16 a2).wf = true) (w : World) :
    Calls Try.prog 8 #[.int .u32 a0, .int .u16 a1, .int .u16 a2] w fun e w' => e = .returned (.bool true) ∧ Below w.heap.size w w' := by
  simp [Lit.wf, IntKind.min, IntKind.max, IntKind.signed, IntKind.bits] at w0 w1 w2
  obtain ⟨l0, u0⟩ := w0
  obtain ⟨l1, u1⟩ := w1
  obtain ⟨l2, u2⟩ := w2
  obtain ⟨n, hn⟩ : ∃ n, n = 1 + a0 % 4194304 := ⟨_, rfl⟩
  obtain ⟨m, hm⟩ : ∃ m, m = 4096 + a1 := ⟨_, rfl⟩
  obtain ⟨m2, hm2⟩ : ∃ m2, m2 = m + a2 := ⟨_, rfl⟩
  obtain ⟨f1, f2, f3, f4, f5, f6, f7, f8, f9⟩ := many_facts (n := n) (m := m) (more := a2) (by omega) (by omega) (by omega) (by omega) (by omega) (by omega)
  have HK := many_any n m
  have HK2 := many_any n (m + a2)
  have HK3 := many_any (n - 1) m
  have HK4 := many_any 0 m
  have HK5 := many_any n 4095
  rw [f6] at HK4
  rw [f7] at HK5
  rw [← hm2] at f4 HK2
  generalize manyF n m = k at *
  generalize manyF n m2 = k2 at *
  generalize manyF (n - 1) m = k3 at *
  have HC := Lib.hid (And.intro HK (And.intro HK2 (And.intro HK3 (And.intro HK4 HK5))))
  clear HK HK2 HK3 HK4 HK5 f6 f7
  have n1 : 1 ≤ n := by omega
  have n2 : n ≤ 4194304 := by omega
  have m1 : 4096 ≤ m := by omega
  have m1' : m ≤ 69631 := by omega
  have r1 : 1 + a0 % 4194304 = n := hn.symm
  have r2 : 4096 + a1 = m := hm.symm
  have r3 : m + a2 = m2 := hm2.symm
  have s1 : IntKind.i64.wrap (1 + a0 % 4194304) = n := by rw [IntKind.wrap_i64]; omega
  have s2 : IntKind.i64.wrap (4096 + a1) = m := by rw [IntKind.wrap_i64]; omega
  have s3 : IntKind.i64.wrap (m + a2) = m2 := by rw [IntKind.wrap_i64]; omega
  have s4 : IntKind.i64.wrap a0 = a0 := by rw [IntKind.wrap_i64]; omega
  have s5 : IntKind.i64.wrap a1 = a1 := by rw [IntKind.wrap_i64]; omega
  have s6 : IntKind.i64.wrap a2 = a2 := by rw [IntKind.wrap_i64]; omega
  obtain ⟨p, hp⟩ : ∃ p, p = k * (m - 80) := ⟨_, rfl⟩
  obtain ⟨q, hq⟩ : ∃ q, q = (k - 1) * (m - 80) := ⟨_, rfl⟩
  have hqp : q = p - (m - 80) := by rw [hq, hp, Int.sub_mul, Int.one_mul]
  rw [← hp] at f2 f9
  rw [← hq] at f3
  have s7 : IntKind.i64.wrap (k * (m - 80)) = p := by rw [← hp, IntKind.wrap_i64]; omega
  have s8 : IntKind.i64.wrap ((k - 1) * (m - 80)) = q := by rw [← hq, IntKind.wrap_i64]; omega
  have s9 : wrap64 (k * (m - 80)) = p := by unfold wrap64; rw [← hp]; omega
  have s10 : wrap64 ((k - 1) * (m - 80)) = q := by unfold wrap64; rw [← hq]; omega
  have f2' : n ≤ p := f2
  have HF := Lib.hid f5
  clear hn hm hm2 hp hq hqp f5 f9
  by_cases hn2 : n < 2
  · go_enter Try.func8, Try.ntmps8
    go_wp2_with fail
    refine (awake18_any _).mono ?_
    rintro e w1 ⟨rfl, b1⟩
    have HB := Lib.hid b1
    clear b1
    go_wp2_with fail
    clear r1 r2 s1 s2 s4 s5 l0 u0 l1 u1
    refine (HC.out.1 _).mono ?_
    rintro e wx ⟨rfl, rfl⟩
    go_wp2_with fail
    refine (HC.out.2.1 _).mono ?_
    rintro e wx ⟨rfl, rfl⟩
    go_wp2_with fail
    refine (HC.out.2.2.2.1 _).mono ?_
    rintro e wx ⟨rfl, rfl⟩
    go_wp2_with fail
    refine (HC.out.2.2.2.2 _).mono ?_
    rintro e wx ⟨rfl, rfl⟩
    go_wp2_with fail
    go_ret
    exact ⟨rfl, HB.out⟩
  · have hf5 : k3 ≤ k := HF.out (by omega)
    have s11 : IntKind.i64.wrap (n - 1) = n - 1 := by rw [IntKind.wrap_i64]; omega
    go_enter Try.func8, Try.ntmps8
    go_wp2_with fail
    refine (awake18_any _).mono ?_
    rintro e w1 ⟨rfl, b1⟩
    have HB := Lib.hid b1
    clear b1
    go_wp2_with fail
    clear r1 r2 s1 s2 s4 s5 l0 u0 l1 u1
    refine (HC.out.1 _).mono ?_
    rintro e wx ⟨rfl, rfl⟩
    go_wp2_with fail
    refine (HC.out.2.1 _).mono ?_
    rintro e wx ⟨rfl, rfl⟩
    go_wp2_with fail
    refine (HC.out.2.2.1 _).mono ?_
    rintro e wx ⟨rfl, rfl⟩
    go_wp2_with fail
    refine (HC.out.2.2.2.1 _).mono ?_
    rintro e wx ⟨rfl, rfl⟩
    go_wp2_with fail
    refine (HC.out.2.2.2.2 _).mono ?_
    rintro e wx ⟨rfl, rfl⟩
    go_wp2_with fail
    go_ret
    exact ⟨rfl, HB.out⟩
theorem own : ownKnob Try.prog.godebug = none := by kernel_rfl
theorem laidOut : laidOutB Try.prog = true := by kernel_rfl
set_option maxRecDepth 100000 in
theorem lifted (os : Os) (started : os.Started) (H : Type) (enc : TypeId × Value → H) :
    ReturnsInHanded {} Try.checked os 8 .any (Rows.partManySpec.pre6 enc Try.prog Try.f8 Rows.partManyRow.domain false) (Rows.partManySpec.post enc Try.prog Try.f8 false true false false) := by
  refine returnsInHanded_of_change (C := Try.checked) own started (by kernel_rfl) Try.func8
    (ChangeSpec.witness6 (enc := enc) (C := Try.checked) false ⟨#[], #[.int .u32 0, .int .u16 0, .int .u16 0], []⟩ 8 (by kernel_rfl) (by kernel_rfl) (by kernel_rfl) (by kernel_rfl)) ?_
  intro W base args ds gs before hval0 hW hcnd _
  have hval : ∀ (j : Nat) t v, Try.f8.params[j]? = some t → args[j]? = some v → Value.okWide Try.prog W .any base t v := hval0
  have hW' := hW
  obtain ⟨p, q, hA0, hV, rfl, hfz, hnd⟩ := hW
  have hA : DataW.TrodAll enc Try.prog W 0 (fun _ => true) true Try.f8.params.toList args.toList ds p := hA0
  rw [Try.params8] at hA hval
  obtain ⟨v0, vs0, d0, ds0, p0, q0, hargs, rfl, rfl, h0, r0⟩ := trodAll_cons hA
  obtain ⟨v1, vs1, d1, ds1, p1, q1, rfl, rfl, rfl, h1, r1⟩ := trodAll_cons r0
  obtain ⟨v2, vs2, d2, ds2, p2, q2, rfl, rfl, rfl, h2, r2⟩ := trodAll_cons r1
  obtain ⟨rfl, rfl, rfl⟩ := trodAll_nil r2
  obtain rfl : args = #[v0, v1, v2] := by cases args; simp_all
  obtain ⟨rfl, rfl⟩ := trodVars_none hV
  obtain ⟨a0, rfl, rfl, rfl, w0⟩ := open_int Try.underlying54 (hval 0 54 v0 rfl rfl) h0
  obtain ⟨a1, rfl, rfl, rfl, w1⟩ := open_int Try.underlying50 (hval 1 50 v1 rfl rfl) h1
  obtain ⟨a2, rfl, rfl, rfl, w2⟩ := open_int Try.underlying50 (hval 2 50 v2 rfl rfl) h2
  clear hA0 hval0
  refine (walk a0 a1 a2 w0 w1 w2 W).mono fun e W' ⟨he, bel⟩ => ?_
  subst he
  exact ⟨_, rfl, _, _, _, [], _, [], hW', trodAll_mk1 (shut_bool Try.underlying4 _), (trodAll_cons_mk (shut_int Try.underlying54 w0) (trodAll_cons_mk (shut_int Try.underlying50 w1) (trodAll_cons_mk (shut_int Try.underlying50 w2) trodAll_mk0))), rfl, bel.frame _, fun h => by cases h⟩
theorem over : Rows.partManyRow.holds Try.pinned (OpenSpec.ofChange Rows.partManySpec) :=
  OpenClaim.holds_of_wide 8 Try.f8 rfl rfl rfl rfl rfl rfl rfl ⟨rfl, rfl, rfl, rfl, rfl⟩ rfl rfl rfl rfl rfl (by kernel_rfl) Try.func8 (by kernel_rfl)
    (of_decide_eq_true (by kernel_rfl)) (by unfold Func.isWrapper; first | (rw [if_pos (by decide +kernel)]; kernel_rfl) | (rw [if_neg (by decide +kernel)]; exact ⟨rfl, rfl⟩))
    (fun os started H enc _ => lifted os started H enc)
theorem proved : Rows.PartManySaid := over
#print axioms proved
end Go.Proofs.Ytjnimbhecfpnmaa.partManyDone
