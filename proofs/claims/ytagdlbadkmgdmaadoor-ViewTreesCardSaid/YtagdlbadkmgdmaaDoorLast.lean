/- bindleref13.Last: those of some events that none of these at its path knows, rising: plain, and the walk. -/
import Derived.Test.YtagdlbadkmgdmaaDoorEv
import Derived.Test.YtagdlbadkmgdmaaDoorQuick
import Derived.ChangeArms
import Derived.Deep.Cut
namespace Go.Proofs.YtagdlbadkmgdmaaDoor
set_option maxRecDepth 100000
set_option linter.unusedSimpArgs false
open Go.ChangeShapes Go.WideShapes Go.ChangeAt Go.RowKit

def okKI (a b : Ev) (k i : Nat) : Bool := (!(a.path.toList == b.path.toList) || !hasF a.deps b.dot) && (decide (i ≤ k) || !decide (cmpD a.dot b.dot = 0))
/-- the first k let the i-th stand -/
def isK (qs : List (Ev × Value)) (i : Nat) : Nat → Bool
  | 0 => true
  | k + 1 => isK qs i k && match qs[k]?, qs[i]? with
    | some a, some b => okKI a.1 b.1 k i
    | _, _ => true
def posE (os : List (Ev × Value)) (q : Ev × Value) : Nat := os.findIdx fun r => !decide (cmpE r.1 q.1 < 0)
def insE (os : List (Ev × Value)) (q : Ev × Value) : List (Ev × Value) := os.take (posE os q) ++ [q] ++ os.drop (posE os q)
def lastK (qs : List (Ev × Value)) : Nat → List (Ev × Value)
  | 0 => []
  | i + 1 => match qs[i]? with
    | some q => if isK qs i qs.length = true then insE (lastK qs i) q else lastK qs i
    | none => lastK qs i
def lastF (qs : List (Ev × Value)) : List (Ev × Value) := lastK qs qs.length
theorem insE_len (os : List (Ev × Value)) (q : Ev × Value) : (insE os q).length = os.length + 1 := by
  unfold insE
  have h := congrArg List.length (List.take_append_drop (posE os q) os)
  simp only [List.length_append, List.length_singleton] at h ⊢
  omega
theorem insE_mem {os : List (Ev × Value)} {q x : Ev × Value} (h : x ∈ insE os q) : x ∈ os ∨ x = q := by
  unfold insE at h
  rcases List.mem_append.1 h with h | h
  · rcases List.mem_append.1 h with h | h
    · exact .inl (List.mem_of_mem_take h)
    · exact .inr (List.mem_singleton.1 h)
  · exact .inl (List.mem_of_mem_drop h)
theorem lastK_len (qs : List (Ev × Value)) : ∀ i, (lastK qs i).length ≤ i
  | 0 => Nat.le_refl _
  | i + 1 => by
    rw [lastK]
    have := lastK_len qs i
    split
    · split
      · rw [insE_len]; omega
      · omega
    · omega
theorem lastK_mem (qs : List (Ev × Value)) : ∀ i, ∀ x ∈ lastK qs i, x ∈ qs
  | 0, x, h => by cases h
  | i + 1, x, h => by
    rw [lastK] at h
    have ih := lastK_mem qs i
    split at h
    · rename_i q hq
      split at h
      · rcases insE_mem h with h | h
        · exact ih x h
        · rw [h]; exact List.mem_of_getElem? hq
      · exact ih x h
    · exact ih x h
theorem posE_first {os : List (Ev × Value)} {q : Ev × Value} {k : Nat} (hk : k < os.length) (h1 : ¬ cmpE os[k].1 q.1 < 0) (h2 : ∀ j (h : j < os.length), j < k → cmpE os[j].1 q.1 < 0) : posE os q = k := by
  unfold posE
  rw [List.findIdx_eq hk]
  exact ⟨by simp [h1], fun j hj => by simp [h2 j (by omega) hj]⟩
theorem posE_last {os : List (Ev × Value)} {q : Ev × Value} (h2 : ∀ j (h : j < os.length), cmpE os[j].1 q.1 < 0) : posE os q = os.length := by
  unfold posE
  rw [List.findIdx_eq_length]
  intro x hx
  obtain ⟨j, hj, rfl⟩ := List.getElem_of_mem hx
  simp [h2 j hj]
theorem evR_take (os : List (Ev × Value)) (k : Nat) : evR (os.take k) = (evR os).take k := by simp [evR, List.map_take]
theorem evR_drop (os : List (Ev × Value)) (k : Nat) : evR (os.drop k) = (evR os).drop k := by simp [evR, List.map_drop]
attribute [local irreducible] SlV Lies headG
attribute [local go_sem] takes takesE comesTo
set_option maxHeartbeats 16000000 in
theorem rlast_any (v : Value) (qs : List (Ev × Value)) (w : World) (hv : RdE w.heap.size w v qs) (hn : qs.length ≤ 10000) :
    Calls Tryd.prog 10 #[v] w fun e w' => ∃ v', e = .returned v' ∧ RdE w'.heap.size w' v' (lastF qs) ∧ Below w.heap.size w w' := by
  have hvv := hv
  obtain ⟨_, _, g, o, sv, rg, _⟩ := hvv
  have hlen : (evR qs).length = qs.length := by simp [evR]
  rw [hlen] at sv
  obtain ⟨a, c, rfl, hc, hm, ha, _⟩ := by unfold SlV at sv; exact sv
  obtain ⟨n, hN⟩ : ∃ n, n = qs.length := ⟨_, rfl⟩
  rw [← hN] at ha hv hn ⊢
  have HV := bx (And.intro hv (And.intro rg (And.intro hN (And.intro ha hn))))
  clear hv sv rg hN ha hc hm hn hlen
  go_enter Tryd.func10, Tryd.ntmps10
  go_wp2_with fail
  go_loopw [3, 4] (fun v3 v4 wr => ∃ (i : Nat) (os : List (Ev × Value)), i ≤ n ∧ v4 = .int .i64 (i : Int) ∧ RdE wr.heap.size wr v3 os ∧ (os = [] → v3 = .slice none 0 0) ∧ os = lastK qs i ∧ BC w wr) (fun _ i _ => n - (intOf i).toNat)
  case atStart => exact ⟨0, [], Nat.zero_le _, rfl, ⟨fun q hq => absurd hq List.not_mem_nil, RdG.nil _ _ _⟩, fun _ => rfl, rfl, BC_refl _⟩
  case round =>
    obtain ⟨i, os, hi, rfl, hrd, hnone, hos, hbr⟩ := hrel
    obtain ⟨wr0, hw0⟩ : ∃ W, W = wr := ⟨_, rfl⟩
    have hrd0 := hrd
    have hbr0 := hbr
    rw [← hw0] at hrd0 hbr0
    have HR := bx (And.intro hrd0 (And.intro hnone (And.intro hbr0 (And.intro hos (And.intro hi hw0)))))
    clear hos hbr hrd0 hbr0 hi hw0
    obtain ⟨_, _, g3, o3, sv3, rg3, _⟩ := hrd
    have hol : (evR os).length = os.length := by simp [evR]
    rw [hol] at sv3
    obtain ⟨a3, c3, rfl, hc3, hm3, ha3, _⟩ := by unfold SlV at sv3; exact sv3
    obtain ⟨m, hM⟩ : ∃ m, m = os.length := ⟨_, rfl⟩
    have hml : m ≤ 10000 := by rw [hM, HR.out.2.2.2.1]; exact Nat.le_trans (lastK_len qs i) (by have := HR.out.2.2.2.2.1; have := HV.out.2.2.2.2; omega)
    have hR1 : RdE wr0.heap.size wr0 (.slice a3 m c3) os := by rw [hM]; exact HR.out.1
    rw [← hM] at ha3 hc3 hnone ⊢
    have HRM := bx (And.intro hR1 hnone)
    have HO := bx (And.intro ha3 (And.intro (show wr0.rangeAt g3 o3 (evR os).flatten by rw [HR.out.2.2.2.2.2]; exact rg3) (And.intro hM (And.intro hml (And.intro hc3 (And.intro hm3 hnone))))))
    clear sv3 rg3 hol ha3 hM hml hc3 hm3 hnone hR1
    by_cases hlt : i < n
    · have i0 : (0 : Int) ≤ (i : Int) := by omega
      have i1 : (i : Int) < (n : Int) := by omega
      obtain ⟨I1, hI1⟩ : ∃ m, m = i + 1 := ⟨_, rfl⟩
      have s1 : IntKind.i64.wrap ((i : Int) + 1) = (I1 : Int) := by rw [IntKind.wrap_i64]; have := HV.out.2.2.2.2; omega
      have hiq : i < qs.length := by rw [← HV.out.2.2.1]; exact hlt
      obtain rfl := HV.out.2.2.2.1 (by omega)
      have hrg := rangeG_get HV.out.2.1 (evR_n HV.out.1.1) (show i < (evR qs).length by simp [evR]; exact hiq)
      have hvi : (evR qs)[i]'(by simp [evR]; exact hiq) = evC (qs[i]'hiq) := by simp [evR]
      rw [hvi] at hrg
      have hqm := List.getElem_mem hiq
      have hqg : qs[i]? = some (qs[i]'hiq) := List.getElem?_eq_getElem hiq
      obtain ⟨q, hq⟩ : ∃ q, q = qs[i]'hiq := ⟨_, rfl⟩
      rw [← hq] at hrg hqm hqg
      obtain ⟨CI, hCI⟩ : ∃ C, C = (evC q).toArray := ⟨_, rfl⟩
      have hCz : CI.size = 38 := by rw [hCI]; simpa using evC_len (HV.out.1.1 q hqm).1
      have HQI : Bx (∀ x : HW (BC w), x.w.rangeAt g (o + i * 38) CI.toList) := bx fun x j u hj => later x.h (hrg j u (by rw [hCI] at hj; exact hj))
      have HI := bx (And.intro hI1 (And.intro hqg (And.intro hqm (And.intro hCI (And.intro hCz hlt)))))
      have HQA := bx (And.intro (show (Value.agg CI).cells.size = shEv.n from HI.out.2.2.2.2.1) (And.intro (show (evC q).length = shEv.n from evC_len (HV.out.1.1 q HI.out.2.2.1).1) (evC_one (HV.out.1.1 q HI.out.2.2.1).2.2.one)))
      clear hI1 hqg hqm hCI hCz hlt hvi hrg hq hiq
      go_wp2_with fail
      go_loopw [5, 6] (fun v5 v6 wr => ∃ k : Nat, k ≤ n ∧ v6 = .int .i64 (k : Int) ∧ v5 = .bool (isK qs i k) ∧ BC wr0 wr) (fun _ k _ => n - (intOf k).toNat)
      case atStart => exact ⟨0, Nat.zero_le _, rfl, rfl, by rw [HR.out.2.2.2.2.2]; exact BC_refl _⟩
      case round =>
        obtain ⟨k, hk, rfl, rfl, hbk⟩ := hrel
        obtain ⟨f, hf⟩ : ∃ f, f = isK qs i k := ⟨_, rfl⟩
        rw [← hf]
        have HK := bx (And.intro hk (And.intro hbk hf))
        clear hk hbk hf
        by_cases hkn : k < n
        · have k0 : (0 : Int) ≤ (k : Int) := by omega
          have k1 : (k : Int) < (n : Int) := by omega
          obtain ⟨K1, hK1⟩ : ∃ m, m = k + 1 := ⟨_, rfl⟩
          have s2 : IntKind.i64.wrap ((k : Int) + 1) = (K1 : Int) := by rw [IntKind.wrap_i64]; have := HV.out.2.2.2.2; omega
          have hkq : k < qs.length := by rw [← HV.out.2.2.1]; exact hkn
          have hrk := rangeG_get HV.out.2.1 (evR_n HV.out.1.1) (show k < (evR qs).length by simp [evR]; exact hkq)
          have hvk : (evR qs)[k]'(by simp [evR]; exact hkq) = evC (qs[k]'hkq) := by simp [evR]
          rw [hvk] at hrk
          have hrm := List.getElem_mem hkq
          have hrq : qs[k]? = some (qs[k]'hkq) := List.getElem?_eq_getElem hkq
          obtain ⟨r, hr⟩ : ∃ r, r = qs[k]'hkq := ⟨_, rfl⟩
          rw [← hr] at hrk hrm hrq
          have hstep : isK qs i K1 = (f && okKI r.1 q.1 k i) := by rw [hK1, isK, hrq, HI.out.2.1, ← HK.out.2.2]
          have bwk := BC_trans HR.out.2.2.1 HK.out.2.1
          obtain ⟨CK, hCK⟩ : ∃ C, C = (evC r).toArray := ⟨_, rfl⟩
          have hKz : CK.size = 38 := by rw [hCK]; simpa using evC_len (HV.out.1.1 r hrm).1
          have HXI : Bx (∀ x : HW (BC wr), x.w.rangeAt g (o + i * 38) CI.toList) := bx fun x => HQI.out ⟨x.w, BC_trans bwk x.h⟩
          have HXK : Bx (∀ x : HW (BC wr), x.w.rangeAt g (o + k * 38) CK.toList) := bx fun x j u hj => later (BC_trans bwk x.h) (hrk j u (by rw [hCK] at hj; exact hj))
          have HKN : Bx (∀ x : HW (BC wr), Calls Tryd.prog 28 #[.agg CK, .agg CI] x.w fun e w' => e = .returned (.bool (hasF r.1.deps q.1.dot)) ∧ Below x.w.heap.size x.w w') := bx fun x => by
            rw [hCK, HI.out.2.2.2.1]
            have h := HV.out.1.1 r hrm
            exact rknows_any r q x.w h.2.1 (h.2.2.to (BC_trans bwk x.h))
          have HCM := bx (fun W => rcompare9_any r.1.dot q.1.dot W)
          have e0 : ∀ x : HW (BC wr), x.w.cell? ⟨g, o + k * 38, none⟩ = some (.int .i64 r.1.dot.1) := fun x => later (BC_trans bwk x.h) (hrk 0 _ rfl)
          have e1 : ∀ x : HW (BC wr), x.w.cell? ⟨g, o + k * 38 + 1, none⟩ = some (.int .i64 r.1.dot.2) := fun x => later (BC_trans bwk x.h) (hrk 1 _ rfl)
          have e4 : ∀ x : HW (BC wr), x.w.cell? ⟨g, o + k * 38 + 4, none⟩ = some (.string r.1.path) := fun x => later (BC_trans bwk x.h) (hrk 4 _ rfl)
          have d0 : ∀ x : HW (BC wr), x.w.cell? ⟨g, o + i * 38, none⟩ = some (.int .i64 q.1.dot.1) := fun x => HXI.out x 0 _ (by rw [HI.out.2.2.2.1]; rfl)
          have d1 : ∀ x : HW (BC wr), x.w.cell? ⟨g, o + i * 38 + 1, none⟩ = some (.int .i64 q.1.dot.2) := fun x => HXI.out x 1 _ (by rw [HI.out.2.2.2.1]; rfl)
          have d4 : ∀ x : HW (BC wr), x.w.cell? ⟨g, o + i * 38 + 4, none⟩ = some (.string q.1.path) := fun x => HXI.out x 4 _ (by rw [HI.out.2.2.2.1]; rfl)
          have HSZ := bx (And.intro hKz HI.out.2.2.2.2.1)
          have HKK := bx (And.intro hK1 (And.intro hkn hstep))
          obtain ⟨kn, hkn2⟩ : ∃ z, z = hasF r.1.deps q.1.dot := ⟨_, rfl⟩
          obtain ⟨sm, hsm⟩ : ∃ z, z = (r.1.path.toList == q.1.path.toList) := ⟨_, rfl⟩
          obtain ⟨cd, hcd⟩ : ∃ z, z = cmpD r.1.dot q.1.dot := ⟨_, rfl⟩
          have hok : okKI r.1 q.1 k i = ((!sm || !kn) && (decide (i ≤ k) || !decide (cd = 0))) := by rw [hsm, hkn2, hcd]; rfl
          have hsm2 : (r.1.path.toList == q.1.path.toList) = sm := hsm.symm
          rw [← hkn2] at HKN
          rw [← hcd] at HCM
          have HOK := bx (show isK qs i K1 = (f && ((!sm || !kn) && (decide (i ≤ k) || !decide (cd = 0)))) by rw [hstep, hok])
          clear hK1 hkn hstep hrk hrm hrq hr hvk hkq bwk hCK hKz hkn2 hsm hcd hok
          cases f with
          | false =>
            have hnx : isK qs i K1 = false := by rw [HOK.out]; rfl
            have HNX := bx hnx
            clear hnx
            go_upto_region 9 with fail
            have hS := BC_all (w := wr)
            haveI := BC_inst wr
            refine wp_region_head (BC wr) 46 (by kernel_rfl) (by kernel_rfl) (BC_start _) ?_
            simp only [List.take_succ_cons, List.take_zero, List.drop_succ_cons, List.drop_zero]
            repeat (first
              | ((with_reducible refine headG_load_mid (o := ⟨some 38, _, _, _, _, _⟩) 38 (.tmp 37) ?_ ?_ _ _ ?_ CK _ HXK.out Tryd.underlying38 ?_ ?_ ?_); (focus rfl); (focus rfl); (focus rfl); (focus rfl); (focus (rw [HSZ.out.1]; kernel_rfl)))
              | ((with_reducible refine headG_load_mid (o := ⟨some 42, _, _, _, _, _⟩) 38 (.tmp 41) ?_ ?_ _ _ ?_ CI _ HXI.out Tryd.underlying38 ?_ ?_ ?_); (focus rfl); (focus rfl); (focus rfl); (focus rfl); (focus (rw [HSZ.out.2]; kernel_rfl)))
              | (refine headG_no rfl (fun K hK => ?_)
                 go_simp
                 (refine hK _ ?_; clear hK K))
              | (refine headG_yes rfl (fun K hK => ?_)
                 go_simp
                 first
                   | (refine hK _ ?_; clear hK K)
                   | (apply Exists.intro
                      refine ⟨fun x => ?_, hK _ ?_⟩
                      first
                        | (go_at_call 28; exact BC_call x (HKN.out x))
                        | (go_at_call 29; exact BC_call x (HCM.out x.w))
                      clear hK K)))
            refine headG_nil ?_
            intro wy hby
            have HY := bx (BC_trans HK.out.2.1 hby)
            clear hS hby
            go_wp2_with fail
            go_roundw
            case rel => exact ⟨K1, by have := HKK.out; omega, rfl, by rw [HNX.out], HY.out⟩
            case measure => have := HKK.out; simp [intOf]; omega
          | true =>
            cases sm with
            | true =>
              cases kn with
              | true =>
                have hnx : isK qs i K1 = false := by rw [HOK.out]; rfl
                have HNX := bx hnx
                clear hnx
                go_upto_region 9 with fail
                have hS := BC_all (w := wr)
                haveI := BC_inst wr
                refine wp_region_head (BC wr) 46 (by kernel_rfl) (by kernel_rfl) (BC_start _) ?_
                simp only [List.take_succ_cons, List.take_zero, List.drop_succ_cons, List.drop_zero]
                repeat (first
                  | ((with_reducible refine headG_load_mid (o := ⟨some 38, _, _, _, _, _⟩) 38 (.tmp 37) ?_ ?_ _ _ ?_ CK _ HXK.out Tryd.underlying38 ?_ ?_ ?_); (focus rfl); (focus rfl); (focus rfl); (focus rfl); (focus (rw [HSZ.out.1]; kernel_rfl)))
                  | ((with_reducible refine headG_load_mid (o := ⟨some 42, _, _, _, _, _⟩) 38 (.tmp 41) ?_ ?_ _ _ ?_ CI _ HXI.out Tryd.underlying38 ?_ ?_ ?_); (focus rfl); (focus rfl); (focus rfl); (focus rfl); (focus (rw [HSZ.out.2]; kernel_rfl)))
                  | (refine headG_no rfl (fun K hK => ?_)
                     go_simp
                     (refine hK _ ?_; clear hK K))
                  | (refine headG_yes rfl (fun K hK => ?_)
                     go_simp
                     first
                       | (refine hK _ ?_; clear hK K)
                       | (apply Exists.intro
                          refine ⟨fun x => ?_, hK _ ?_⟩
                          first
                            | (go_at_call 28; exact BC_call x (HKN.out x))
                            | (go_at_call 29; exact BC_call x (HCM.out x.w))
                          clear hK K)))
                refine headG_nil ?_
                intro wy hby
                have HY := bx (BC_trans HK.out.2.1 hby)
                clear hS hby
                go_wp2_with fail
                go_roundw
                case rel => exact ⟨K1, by have := HKK.out; omega, rfl, by rw [HNX.out], HY.out⟩
                case measure => have := HKK.out; simp [intOf]; omega
              | false =>
                rcases Nat.lt_or_ge k i with hki | hki
                · have k9 : ¬ (i : Int) ≤ (k : Int) := by omega
                  have hnx : isK qs i K1 = !(cd == 0) := by rw [HOK.out, decide_eq_false (by omega)]; by_cases h : cd = 0 <;> simp [h]
                  have HNX := bx hnx
                  clear hnx hki
                  go_upto_region 9 with fail
                  have hS := BC_all (w := wr)
                  haveI := BC_inst wr
                  refine wp_region_head (BC wr) 46 (by kernel_rfl) (by kernel_rfl) (BC_start _) ?_
                  simp only [List.take_succ_cons, List.take_zero, List.drop_succ_cons, List.drop_zero]
                  repeat (first
                    | ((with_reducible refine headG_load_mid (o := ⟨some 38, _, _, _, _, _⟩) 38 (.tmp 37) ?_ ?_ _ _ ?_ CK _ HXK.out Tryd.underlying38 ?_ ?_ ?_); (focus rfl); (focus rfl); (focus rfl); (focus rfl); (focus (rw [HSZ.out.1]; kernel_rfl)))
                    | ((with_reducible refine headG_load_mid (o := ⟨some 42, _, _, _, _, _⟩) 38 (.tmp 41) ?_ ?_ _ _ ?_ CI _ HXI.out Tryd.underlying38 ?_ ?_ ?_); (focus rfl); (focus rfl); (focus rfl); (focus rfl); (focus (rw [HSZ.out.2]; kernel_rfl)))
                    | (refine headG_no rfl (fun K hK => ?_)
                       go_simp
                       (refine hK _ ?_; clear hK K))
                    | (refine headG_yes rfl (fun K hK => ?_)
                       go_simp
                       first
                         | (refine hK _ ?_; clear hK K)
                         | (apply Exists.intro
                            refine ⟨fun x => ?_, hK _ ?_⟩
                            first
                              | (go_at_call 28; exact BC_call x (HKN.out x))
                              | (go_at_call 29; exact BC_call x (HCM.out x.w))
                            clear hK K)))
                  refine headG_nil ?_
                  intro wy hby
                  have HY := bx (BC_trans HK.out.2.1 hby)
                  clear hS hby
                  go_wp2_with fail
                  go_roundw
                  case rel => exact ⟨K1, by have := HKK.out; omega, rfl, by rw [HNX.out]; rfl, HY.out⟩
                  case measure => have := HKK.out; simp [intOf]; omega
                · have k9 : (i : Int) ≤ (k : Int) := by omega
                  have hnx : isK qs i K1 = true := by rw [HOK.out, decide_eq_true hki]; rfl
                  have HNX := bx hnx
                  clear hnx hki
                  go_upto_region 9 with fail
                  have hS := BC_all (w := wr)
                  haveI := BC_inst wr
                  refine wp_region_head (BC wr) 46 (by kernel_rfl) (by kernel_rfl) (BC_start _) ?_
                  simp only [List.take_succ_cons, List.take_zero, List.drop_succ_cons, List.drop_zero]
                  repeat (first
                    | ((with_reducible refine headG_load_mid (o := ⟨some 38, _, _, _, _, _⟩) 38 (.tmp 37) ?_ ?_ _ _ ?_ CK _ HXK.out Tryd.underlying38 ?_ ?_ ?_); (focus rfl); (focus rfl); (focus rfl); (focus rfl); (focus (rw [HSZ.out.1]; kernel_rfl)))
                    | ((with_reducible refine headG_load_mid (o := ⟨some 42, _, _, _, _, _⟩) 38 (.tmp 41) ?_ ?_ _ _ ?_ CI _ HXI.out Tryd.underlying38 ?_ ?_ ?_); (focus rfl); (focus rfl); (focus rfl); (focus rfl); (focus (rw [HSZ.out.2]; kernel_rfl)))
                    | (refine headG_no rfl (fun K hK => ?_)
                       go_simp
                       (refine hK _ ?_; clear hK K))
                    | (refine headG_yes rfl (fun K hK => ?_)
                       go_simp
                       first
                         | (refine hK _ ?_; clear hK K)
                         | (apply Exists.intro
                            refine ⟨fun x => ?_, hK _ ?_⟩
                            first
                              | (go_at_call 28; exact BC_call x (HKN.out x))
                              | (go_at_call 29; exact BC_call x (HCM.out x.w))
                            clear hK K)))
                  refine headG_nil ?_
                  intro wy hby
                  have HY := bx (BC_trans HK.out.2.1 hby)
                  clear hS hby
                  go_wp2_with fail
                  go_roundw
                  case rel => exact ⟨K1, by have := HKK.out; omega, rfl, by rw [HNX.out], HY.out⟩
                  case measure => have := HKK.out; simp [intOf]; omega
            | false =>
              rcases Nat.lt_or_ge k i with hki | hki
              · have k9 : ¬ (i : Int) ≤ (k : Int) := by omega
                have hnx : isK qs i K1 = !(cd == 0) := by rw [HOK.out, decide_eq_false (by omega)]; by_cases h : cd = 0 <;> simp [h]
                have HNX := bx hnx
                clear hnx hki
                go_upto_region 9 with fail
                have hS := BC_all (w := wr)
                haveI := BC_inst wr
                refine wp_region_head (BC wr) 46 (by kernel_rfl) (by kernel_rfl) (BC_start _) ?_
                simp only [List.take_succ_cons, List.take_zero, List.drop_succ_cons, List.drop_zero]
                repeat (first
                  | ((with_reducible refine headG_load_mid (o := ⟨some 38, _, _, _, _, _⟩) 38 (.tmp 37) ?_ ?_ _ _ ?_ CK _ HXK.out Tryd.underlying38 ?_ ?_ ?_); (focus rfl); (focus rfl); (focus rfl); (focus rfl); (focus (rw [HSZ.out.1]; kernel_rfl)))
                  | ((with_reducible refine headG_load_mid (o := ⟨some 42, _, _, _, _, _⟩) 38 (.tmp 41) ?_ ?_ _ _ ?_ CI _ HXI.out Tryd.underlying38 ?_ ?_ ?_); (focus rfl); (focus rfl); (focus rfl); (focus rfl); (focus (rw [HSZ.out.2]; kernel_rfl)))
                  | (refine headG_no rfl (fun K hK => ?_)
                     go_simp
                     (refine hK _ ?_; clear hK K))
                  | (refine headG_yes rfl (fun K hK => ?_)
                     go_simp
                     first
                       | (refine hK _ ?_; clear hK K)
                       | (apply Exists.intro
                          refine ⟨fun x => ?_, hK _ ?_⟩
                          first
                            | (go_at_call 28; exact BC_call x (HKN.out x))
                            | (go_at_call 29; exact BC_call x (HCM.out x.w))
                          clear hK K)))
                refine headG_nil ?_
                intro wy hby
                have HY := bx (BC_trans HK.out.2.1 hby)
                clear hS hby
                go_wp2_with fail
                go_roundw
                case rel => exact ⟨K1, by have := HKK.out; omega, rfl, by rw [HNX.out]; rfl, HY.out⟩
                case measure => have := HKK.out; simp [intOf]; omega
              · have k9 : (i : Int) ≤ (k : Int) := by omega
                have hnx : isK qs i K1 = true := by rw [HOK.out, decide_eq_true hki]; rfl
                have HNX := bx hnx
                clear hnx hki
                go_upto_region 9 with fail
                have hS := BC_all (w := wr)
                haveI := BC_inst wr
                refine wp_region_head (BC wr) 46 (by kernel_rfl) (by kernel_rfl) (BC_start _) ?_
                simp only [List.take_succ_cons, List.take_zero, List.drop_succ_cons, List.drop_zero]
                repeat (first
                  | ((with_reducible refine headG_load_mid (o := ⟨some 38, _, _, _, _, _⟩) 38 (.tmp 37) ?_ ?_ _ _ ?_ CK _ HXK.out Tryd.underlying38 ?_ ?_ ?_); (focus rfl); (focus rfl); (focus rfl); (focus rfl); (focus (rw [HSZ.out.1]; kernel_rfl)))
                  | ((with_reducible refine headG_load_mid (o := ⟨some 42, _, _, _, _, _⟩) 38 (.tmp 41) ?_ ?_ _ _ ?_ CI _ HXI.out Tryd.underlying38 ?_ ?_ ?_); (focus rfl); (focus rfl); (focus rfl); (focus rfl); (focus (rw [HSZ.out.2]; kernel_rfl)))
                  | (refine headG_no rfl (fun K hK => ?_)
                     go_simp
                     (refine hK _ ?_; clear hK K))
                  | (refine headG_yes rfl (fun K hK => ?_)
                     go_simp
                     first
                       | (refine hK _ ?_; clear hK K)
                       | (apply Exists.intro
                          refine ⟨fun x => ?_, hK _ ?_⟩
                          first
                            | (go_at_call 28; exact BC_call x (HKN.out x))
                            | (go_at_call 29; exact BC_call x (HCM.out x.w))
                          clear hK K)))
                refine headG_nil ?_
                intro wy hby
                have HY := bx (BC_trans HK.out.2.1 hby)
                clear hS hby
                go_wp2_with fail
                go_roundw
                case rel => exact ⟨K1, by have := HKK.out; omega, rfl, by rw [HNX.out], HY.out⟩
                case measure => have := HKK.out; simp [intOf]; omega
        · have hkk : k = n := by have := HK.out.1; omega
          have hge2 : ¬ (k : Int) < (n : Int) := by omega
          have hff : f = isK qs i qs.length := by rw [HK.out.2.2, hkk, HV.out.2.2.1]
          have HFF := bx hff
          have bwk := BC_trans HR.out.2.2.1 HK.out.2.1
          clear hkk hff hkn
          cases f with
          | false =>
            have HBW := bx bwk
            clear bwk
            go_wp2_with fail
            go_roundw
            case rel => exact ⟨I1, os, by have := HI.out; omega, rfl, HRM.out.1.to HK.out.2.1, HRM.out.2, by rw [HI.out.1, lastK, HI.out.2.1, ← HFF.out]; exact HR.out.2.2.2.1, HBW.out⟩
            case measure => have := HI.out; simp [intOf]; omega
          | true =>
            have HIS := bx (show isK qs i qs.length = true from HFF.out.symm)
            have HBK := bx HK.out.2.1
            clear bwk
            go_wp2_with fail
            go_loopw [7] (fun v7 wr => ∃ k : Nat, k ≤ m ∧ v7 = .int .i64 (k : Int) ∧ (∀ j (h : j < os.length), j < k → cmpE (os[j]).1 q.1 < 0) ∧ BC wr0 wr) (fun k _ => m - (intOf k).toNat)
            case atStart => exact ⟨0, Nat.zero_le _, rfl, fun j h hj => by omega, HBK.out⟩
            case round =>
              obtain ⟨k, hk, rfl, hno, hbk⟩ := hrel
              have HK := bx (And.intro hk (And.intro hno hbk))
              clear hk hno hbk
              have HXI : Bx (∀ x : HW (BC wr), x.w.rangeAt g (o + i * 38) CI.toList) := bx fun x => HQI.out ⟨x.w, BC_trans HR.out.2.2.1 (BC_trans HK.out.2.2 x.h)⟩
              by_cases hkm : k < m
              · have k0 : (0 : Int) ≤ (k : Int) := by omega
                have k1 : (k : Int) < (m : Int) := by omega
                obtain ⟨K1, hK1⟩ : ∃ m, m = k + 1 := ⟨_, rfl⟩
                have s2 : IntKind.i64.wrap ((k : Int) + 1) = (K1 : Int) := by rw [IntKind.wrap_i64]; have := HO.out.2.2.2.1; omega
                have hko : k < os.length := by rw [← HO.out.2.2.1]; exact hkm
                obtain rfl := HO.out.1 (by omega)
                have hro := rangeG_get HO.out.2.1 (evR_n HR.out.1.1) (show k < (evR os).length by simp [evR]; exact hko)
                have hvo : (evR os)[k]'(by simp [evR]; exact hko) = evC (os[k]'hko) := by simp [evR]
                rw [hvo] at hro
                have hom := List.getElem_mem hko
                obtain ⟨r, hr⟩ : ∃ r, r = os[k]'hko := ⟨_, rfl⟩
                rw [← hr] at hro hom
                obtain ⟨CO, hCO⟩ : ∃ C, C = (evC r).toArray := ⟨_, rfl⟩
                have hOz : CO.size = 38 := by rw [hCO]; simpa using evC_len (HR.out.1.1 r hom).1
                have HXO : Bx (∀ x : HW (BC wr), x.w.rangeAt g3 (o3 + k * 38) CO.toList) := bx fun x j u hj => later (BC_trans HK.out.2.2 x.h) (hro j u (by rw [hCO] at hj; exact hj))
                obtain ⟨cc, hcc⟩ : ∃ z, z = cmpE r.1 q.1 := ⟨_, rfl⟩
                have HCE : Bx (∀ x : HW (BC wr), Calls Tryd.prog 30 #[.agg CO, .agg CI] x.w fun e w' => e = .returned (.int .i64 cc) ∧ Below x.w.heap.size x.w w') := bx fun x => by
                  rw [hCO, HI.out.2.2.2.1, hcc]
                  exact rcompare12_any r q x.w
                have HSO := bx (And.intro hOz HI.out.2.2.2.2.1)
                have HKK := bx (And.intro hK1 (And.intro hkm (And.intro hr (And.intro hcc hko))))
                clear hK1 hro hom hvo hr hCO hOz hcc
                rcases Int.lt_or_le cc 0 with hneg | hpos
                · have HNG := bx hneg
                  clear hkm
                  go_upto_region 12 with fail
                  have hS := BC_all (w := wr)
                  haveI := BC_inst wr
                  refine wp_region_head (BC wr) 16 (by kernel_rfl) (by kernel_rfl) (BC_start _) ?_
                  simp only [List.take_succ_cons, List.take_zero, List.drop_succ_cons, List.drop_zero]
                  repeat (first
                    | ((with_reducible refine headG_load_mid (o := ⟨some 76, _, _, _, _, _⟩) 38 (.tmp 75) ?_ ?_ _ _ ?_ CO _ HXO.out Tryd.underlying38 ?_ ?_ ?_); (focus rfl); (focus rfl); (focus rfl); (focus rfl); (focus (rw [HSO.out.1]; kernel_rfl)))
                    | ((with_reducible refine headG_load_mid (o := ⟨some 80, _, _, _, _, _⟩) 38 (.tmp 79) ?_ ?_ _ _ ?_ CI _ HXI.out Tryd.underlying38 ?_ ?_ ?_); (focus rfl); (focus rfl); (focus rfl); (focus rfl); (focus (rw [HSO.out.2]; kernel_rfl)))
                    | (refine headG_no rfl (fun K hK => ?_)
                       go_simp
                       (refine hK _ ?_; clear hK K))
                    | (refine headG_yes rfl (fun K hK => ?_)
                       go_simp
                       first
                         | (refine hK _ ?_; clear hK K)
                         | (apply Exists.intro
                            refine ⟨fun x => ?_, hK _ ?_⟩
                            (go_at_call 30; exact BC_call x (HCE.out x))
                            clear hK K)))
                  refine headG_nil ?_
                  intro wy hby
                  have HY := bx (BC_trans HK.out.2.2 hby)
                  clear hS hby
                  go_wp2_with fail
                  go_roundw
                  case rel => exact ⟨K1, by have := HKK.out; omega, rfl, fun j h hj => by
                    by_cases e : j = k
                    · subst e
                      rw [← HKK.out.2.2.1, ← HKK.out.2.2.2.1]
                      exact HNG.out
                    · exact HK.out.2.1 j h (by have := HKK.out; omega), HY.out⟩
                  case measure => have := HKK.out; simp [intOf]; omega
                · have hng : ¬ cc < 0 := by omega
                  have hpl := posE_first HKK.out.2.2.2.2 (by rw [← HKK.out.2.2.1, ← HKK.out.2.2.2.1]; exact hng) HK.out.2.1
                  have hkn : k ≤ m := Nat.le_of_lt hkm
                  have f3 : ¬ c3 = k := by have := HO.out.2.2.2.2.1; omega
                  clear hkm hpos
                  go_upto_region 12 with fail
                  have hS := BC_all (w := wr)
                  haveI := BC_inst wr
                  refine wp_region_head (BC wr) 16 (by kernel_rfl) (by kernel_rfl) (BC_start _) ?_
                  simp only [List.take_succ_cons, List.take_zero, List.drop_succ_cons, List.drop_zero]
                  repeat (first
                    | ((with_reducible refine headG_load_mid (o := ⟨some 76, _, _, _, _, _⟩) 38 (.tmp 75) ?_ ?_ _ _ ?_ CO _ HXO.out Tryd.underlying38 ?_ ?_ ?_); (focus rfl); (focus rfl); (focus rfl); (focus rfl); (focus (rw [HSO.out.1]; kernel_rfl)))
                    | ((with_reducible refine headG_load_mid (o := ⟨some 80, _, _, _, _, _⟩) 38 (.tmp 79) ?_ ?_ _ _ ?_ CI _ HXI.out Tryd.underlying38 ?_ ?_ ?_); (focus rfl); (focus rfl); (focus rfl); (focus rfl); (focus (rw [HSO.out.2]; kernel_rfl)))
                    | (refine headG_no rfl (fun K hK => ?_)
                       go_simp
                       (refine hK _ ?_; clear hK K))
                    | (refine headG_yes rfl (fun K hK => ?_)
                       go_simp
                       first
                         | (refine hK _ ?_; clear hK K)
                         | (apply Exists.intro
                            refine ⟨fun x => ?_, hK _ ?_⟩
                            (go_at_call 30; exact BC_call x (HCE.out x))
                            clear hK K)))
                  refine headG_nil ?_
                  intro wy hby
                  have HY := bx (BC_trans HK.out.2.2 hby)
                  clear hS hby
                  have hkl : k ≤ os.length := by rw [← HO.out.2.2.1]; exact hkn
                  have HT1 : Bx (SlV (.slice (some ⟨g3, o3, none⟩) k c3) g3 o3 (os.take k).length) := bx (by
                    rw [List.length_take, Nat.min_eq_left hkl]
                    unfold SlV
                    exact ⟨_, _, rfl, by have := HO.out.2.2.2.2.1; omega, HO.out.2.2.2.2.2.1, fun _ => rfl, fun h => by cases h⟩)
                  have f1 : (k : Int) ≤ (c3 : Int) := by have := HO.out.2.2.2.2.1; omega
                  have f2 : (k : Int) ≤ (m : Int) := by omega
                  have f0 : (0 : Int) ≤ (k : Int) := by omega
                  have bwy := BC_trans HR.out.2.2.1 HY.out
                  have HB0 := bx (below1 wy (.cells #[] 38))
                  have gos : GoodE wr0.heap.size wr0 os := HR.out.1.1
                  have rgt : (wy.alloc (.cells #[] 38)).rangeAt g3 o3 (evR (os.take k)).flatten := fun j u hj => later (BC_trans HY.out HB0.out) (rangeG_take HO.out.2.1 (evR_n gos) (show k ≤ (evR os).length by rw [evR, List.length_map]; exact hkl) j u (by rw [← evR_take]; exact hj))
                  have gtk := gos.sub (fun q hq => List.mem_of_mem_take (i := k) hq)
                  have gdr := gos.sub (fun q hq => List.mem_of_mem_drop (i := k) hq)
                  have HTF := bx (And.intro (show OwnG shEv wy.heap.size (wy.alloc (.cells #[] 38)) (.slice (some ⟨wy.heap.size, 0, none⟩) 0 0) [] from OwnG.zero shEv wy wy.heap.size (Nat.le_refl _)) (And.intro rgt (And.intro (show ∀ r ∈ evR (os.take k), r.length = shEv.n from evR_n gtk) (And.intro (evR_one gtk) (And.intro (show ∀ r ∈ evR (os.drop k), r.length = shEv.n from evR_n gdr) (And.intro (evR_one gdr) (And.intro HB0.out.size (And.intro bwy (And.intro hkl hpl)))))))))
                  clear hkl rgt bwy hpl hkn gos gtk gdr
                  go_upto_region 15 with ((with_reducible refine wl_append_G shEv shEv_ok (o := ⟨some 90, _, _, _, _, _⟩) ?_ (.tmp 86) (.tmp 89) ?_ wy.heap.size _ ([]) ?_ HTF.out.1 _ ?_ g3 o3 (evR (os.take k)) (by simpa [evR] using HT1.out) HTF.out.2.1 HTF.out.2.2.1 HTF.out.2.2.2.1 ?_ HTF.out.2.2.2.2.2.2.1 ?_); (focus rfl); (focus rfl); (focus rfl); (focus rfl); (focus (have := HTF.out.2.2.2.2.2.2.2.2.1; have := HO.out.2.2.2.1; have := HO.out.2.2.1; simp only [evR, List.length_map, List.length_take, List.length_nil, List.length_append, List.length_drop, List.length_singleton]; omega)); intro v8 w8 own8 b8)
                  have by8 : BC wy w8 := (show Below wy.heap.size wy _ from HB0.out).trans b8
                  obtain ⟨W11, hW11⟩ : ∃ W, W = w8.alloc (.cells CI 38) := ⟨_, rfl⟩
                  have n11 := heap_alloc_new w8 (.cells CI 38)
                  have b11 := below1 w8 (.cells CI 38)
                  rw [← hW11] at n11 b11
                  have hr11 : W11.rangeAt w8.heap.size 0 (evC q) := fun j u hj => by
                    rw [Nat.zero_add]
                    refine cell_row n11 j ?_
                    rw [HI.out.2.2.2.1, List.getElem?_toArray]
                    exact hj
                  have hx8 : w8.rangeAt g (o + i * 38) CI.toList := HQI.out ⟨w8, BC_trans HTF.out.2.2.2.2.2.2.2.1 by8⟩
                  have H11 := bx (And.intro hx8 (And.intro hW11 (And.intro hr11 (And.intro (own8.below b11) (And.intro (BC_trans by8 b11) (BC_trans by8 b11).size)))))
                  clear hx8 hW11 hr11 n11 b11 by8 own8 b8
                  go_upto_region 16 with (first | ((with_reducible refine wlw_load_mid (o := ⟨some 95, _, _, _, _, _⟩) ?_ 38 (.tmp 94) ?_ _ _ ?_ CI _ H11.out.1 Tryd.underlying38 ?_ ?_ ?_); (focus rfl); (focus rfl); (focus rfl); (focus rfl); (focus (rw [HI.out.2.2.2.2.1]; kernel_rfl))) | ((with_reducible refine wl_build1G shEv shEv_ok (o := ⟨some 96, _, _, _, _, _⟩) ?_ (.tmp 95) ?_ (.agg CI) ?_ HQA.out.1 ?_); (focus rfl); (focus rfl); (focus rfl); show wpList _ _ _ _ _ (w8.alloc (.cells CI 38)); rw [← H11.out.2.1]) | ((with_reducible refine wl_append1G shEv shEv_ok (o := ⟨some 97, _, _, _, _, _⟩) ?_ (.tmp 91) (.tmp 96) ?_ wy.heap.size _ ([] ++ evR (os.take k)) ?_ H11.out.2.2.2.1 w8.heap.size 0 1 ?_ (evC q) H11.out.2.2.1 HQA.out.2.1 HQA.out.2.2 ?_ H11.out.2.2.2.2.2 ?_); (focus rfl); (focus rfl); (focus rfl); (focus rfl); (focus (have := HTF.out.2.2.2.2.2.2.2.2.1; have := HO.out.2.2.2.1; have := HO.out.2.2.1; simp only [evR, List.length_map, List.length_take, List.length_nil, List.length_append, List.length_drop, List.length_singleton]; omega)); intro v12 w12 own12 b12))
                  have by12 : BC wy w12 := (show Below wy.heap.size wy _ from H11.out.2.2.2.2.1).trans b12
                  have hT2 : SlV (.slice (some ⟨g3, o3 + k * 38, none⟩) (m - k) (c3 - k)) g3 (o3 + k * 38) (os.drop k).length := by
                    rw [List.length_drop, ← HO.out.2.2.1]
                    unfold SlV
                    exact ⟨_, _, rfl, by have := HO.out.2.2.2.2.1; omega, by have := HO.out.2.2.2.2.2.1; omega, fun _ => rfl, fun h => by cases h⟩
                  have rgd : w12.rangeAt g3 (o3 + k * 38) (evR (os.drop k)).flatten := fun j u hj => later (BC_trans HY.out by12) (rangeG_drop HO.out.2.1 (evR_n HR.out.1.1) (show k ≤ (evR os).length by rw [evR, List.length_map]; exact HTF.out.2.2.2.2.2.2.2.2.1) j u (by rw [← evR_drop]; exact hj))
                  have H12 := bx (And.intro own12 (And.intro hT2 (And.intro rgd (And.intro by12.size by12))))
                  clear own12 hT2 rgd by12 b12
                  go_wp2_with ((with_reducible refine wl_append_G shEv shEv_ok (o := ⟨some 102, _, _, _, _, _⟩) ?_ (.tmp 98) (.tmp 101) ?_ wy.heap.size _ ([] ++ evR (os.take k) ++ [evC q]) ?_ H12.out.1 _ ?_ g3 (o3 + k * 38) (evR (os.drop k)) (by simpa [evR] using H12.out.2.1) H12.out.2.2.1 HTF.out.2.2.2.2.1 HTF.out.2.2.2.2.2.1 ?_ H12.out.2.2.2.1 ?_); (focus rfl); (focus rfl); (focus rfl); (focus rfl); (focus (have := HTF.out.2.2.2.2.2.2.2.2.1; have := HO.out.2.2.2.1; have := HO.out.2.2.1; simp only [evR, List.length_map, List.length_take, List.length_nil, List.length_append, List.length_drop, List.length_singleton]; omega)); intro v15 w15 own15 b15)
                  have hb : BC w w15 := BC_trans HTF.out.2.2.2.2.2.2.2.1 ((show Below wy.heap.size wy _ from H12.out.2.2.2.2).trans b15)
                  have own16 : OwnG shEv wy.heap.size w15 v15 (evR (insE os q)) := by
                    rw [insE, HTF.out.2.2.2.2.2.2.2.2.2, evR_append, evR_append]
                    have h := own15
                    rw [List.nil_append] at h
                    exact h
                  have hgd : GoodE w15.heap.size w15 (insE os q) := (HV.out.1.1.to hb).sub fun x hx => by
                    rcases insE_mem hx with h | h
                    · rw [HR.out.2.2.2.1] at h; exact lastK_mem qs i x h
                    · rw [h]; exact HI.out.2.2.1
                  have HF := bx (And.intro own16 (And.intro hb hgd))
                  clear own15 own16 hb b15 hgd
                  go_roundw
                  case rel => exact ⟨I1, insE os q, by have := HI.out; omega, rfl, ⟨HF.out.2.2, HF.out.1.rd (evR_n HF.out.2.2)⟩, fun h => by have := congrArg List.length h; rw [insE_len] at this; simp at this, by rw [HI.out.1, lastK, HI.out.2.1, HIS.out, HR.out.2.2.2.1]; rfl, HF.out.2.1⟩
                  case measure => have := HI.out; simp [intOf]; omega
              · have hkm2 : k = m := by have := HK.out; omega
                have hkn : k ≤ m := Nat.le_of_eq hkm2
                have HKM := bx hkm2
                have hge2 : ¬ (k : Int) < (m : Int) := by omega
                have hpl : posE os q = k := by rw [HKM.out, HO.out.2.2.1]; exact posE_last fun j h => HK.out.2.1 j h (by rw [HKM.out, HO.out.2.2.1]; exact h)
                have HSO := bx (And.intro HI.out.2.2.2.2.1 HI.out.2.2.2.2.1)
                clear hkm hkm2
                go_upto_region 12 with fail
                have hS := BC_all (w := wr)
                haveI := BC_inst wr
                refine wp_region_head (BC wr) 16 (by kernel_rfl) (by kernel_rfl) (BC_start _) ?_
                simp only [List.take_succ_cons, List.take_zero, List.drop_succ_cons, List.drop_zero]
                repeat (first
                  | (refine headG_no rfl (fun K hK => ?_)
                     go_simp
                     (refine hK _ ?_; clear hK K))
                  | (refine headG_yes rfl (fun K hK => ?_)
                     go_simp
                     (refine hK _ ?_; clear hK K)))
                refine headG_nil ?_
                intro wy hby
                have HY := bx (BC_trans HK.out.2.2 hby)
                clear hS hby
                cases a3 with
                | none =>
                  have hm0 : m = 0 := by
                    rcases Nat.eq_zero_or_pos m with h | h
                    · exact h
                    · have := HO.out.1 h; cases this
                  have ho0 : os = [] := List.eq_nil_of_length_eq_zero (by rw [← HO.out.2.2.1]; exact hm0)
                  have hc0 : c3 = 0 := by have := HO.out.2.2.2.2.2.2 ho0; injection this
                  have hk0 : k = 0 := by omega
                  subst ho0
                  subst hm0
                  subst hc0
                  subst hk0
                  clear hge2
                  have hkl : 0 ≤ ([] : List (Ev × Value)).length := by rw [← HO.out.2.2.1]; exact hkn
                  have HT1 : Bx (SlV (.slice none 0 0) g3 o3 (([] : List (Ev × Value)).take 0).length) := bx (by
                    rw [List.length_take, Nat.min_eq_left hkl]
                    unfold SlV
                    exact ⟨_, _, rfl, by have := HO.out.2.2.2.2.1; omega, HO.out.2.2.2.2.2.1, fun h => by omega, fun _ => rfl⟩)
                  have f1 : (0 : Int) ≤ (0 : Int) := by have := HO.out.2.2.2.2.1; omega
                  have f2 : (0 : Int) ≤ (0 : Int) := by omega
                  have f0 : (0 : Int) ≤ (0 : Int) := by omega
                  have bwy := BC_trans HR.out.2.2.1 HY.out
                  have HB0 := bx (below1 wy (.cells #[] 38))
                  have gos : GoodE wr0.heap.size wr0 ([] : List (Ev × Value)) := HR.out.1.1
                  have rgt : (wy.alloc (.cells #[] 38)).rangeAt g3 o3 (evR (([] : List (Ev × Value)).take 0)).flatten := fun j u hj => later (BC_trans HY.out HB0.out) (rangeG_take HO.out.2.1 (evR_n gos) (show 0 ≤ (evR ([] : List (Ev × Value))).length by rw [evR, List.length_map]; exact hkl) j u (by rw [← evR_take]; exact hj))
                  have gtk := gos.sub (fun q hq => List.mem_of_mem_take (i := 0) hq)
                  have gdr := gos.sub (fun q hq => List.mem_of_mem_drop (i := 0) hq)
                  have HTF := bx (And.intro (show OwnG shEv wy.heap.size (wy.alloc (.cells #[] 38)) (.slice (some ⟨wy.heap.size, 0, none⟩) 0 0) [] from OwnG.zero shEv wy wy.heap.size (Nat.le_refl _)) (And.intro rgt (And.intro (show ∀ r ∈ evR (([] : List (Ev × Value)).take 0), r.length = shEv.n from evR_n gtk) (And.intro (evR_one gtk) (And.intro (show ∀ r ∈ evR (([] : List (Ev × Value)).drop 0), r.length = shEv.n from evR_n gdr) (And.intro (evR_one gdr) (And.intro HB0.out.size (And.intro bwy (And.intro hkl hpl)))))))))
                  clear hkl rgt bwy hpl hkn gos gtk gdr
                  go_upto_region 15 with ((with_reducible refine wl_append_G shEv shEv_ok (o := ⟨some 90, _, _, _, _, _⟩) ?_ (.tmp 86) (.tmp 89) ?_ wy.heap.size _ ([]) ?_ HTF.out.1 _ ?_ g3 o3 (evR (([] : List (Ev × Value)).take 0)) (by simpa [evR] using HT1.out) HTF.out.2.1 HTF.out.2.2.1 HTF.out.2.2.2.1 ?_ HTF.out.2.2.2.2.2.2.1 ?_); (focus rfl); (focus rfl); (focus rfl); (focus rfl); (focus (have := HTF.out.2.2.2.2.2.2.2.2.1; have := HO.out.2.2.2.1; have := HO.out.2.2.1; simp only [evR, List.length_map, List.length_take, List.length_nil, List.length_append, List.length_drop, List.length_singleton]; omega)); intro v8 w8 own8 b8)
                  have by8 : BC wy w8 := (show Below wy.heap.size wy _ from HB0.out).trans b8
                  obtain ⟨W11, hW11⟩ : ∃ W, W = w8.alloc (.cells CI 38) := ⟨_, rfl⟩
                  have n11 := heap_alloc_new w8 (.cells CI 38)
                  have b11 := below1 w8 (.cells CI 38)
                  rw [← hW11] at n11 b11
                  have hr11 : W11.rangeAt w8.heap.size 0 (evC q) := fun j u hj => by
                    rw [Nat.zero_add]
                    refine cell_row n11 j ?_
                    rw [HI.out.2.2.2.1, List.getElem?_toArray]
                    exact hj
                  have hx8 : w8.rangeAt g (o + i * 38) CI.toList := HQI.out ⟨w8, BC_trans HTF.out.2.2.2.2.2.2.2.1 by8⟩
                  have H11 := bx (And.intro hx8 (And.intro hW11 (And.intro hr11 (And.intro (own8.below b11) (And.intro (BC_trans by8 b11) (BC_trans by8 b11).size)))))
                  clear hx8 hW11 hr11 n11 b11 by8 own8 b8
                  go_upto_region 16 with (first | ((with_reducible refine wlw_load_mid (o := ⟨some 95, _, _, _, _, _⟩) ?_ 38 (.tmp 94) ?_ _ _ ?_ CI _ H11.out.1 Tryd.underlying38 ?_ ?_ ?_); (focus rfl); (focus rfl); (focus rfl); (focus rfl); (focus (rw [HI.out.2.2.2.2.1]; kernel_rfl))) | ((with_reducible refine wl_build1G shEv shEv_ok (o := ⟨some 96, _, _, _, _, _⟩) ?_ (.tmp 95) ?_ (.agg CI) ?_ HQA.out.1 ?_); (focus rfl); (focus rfl); (focus rfl); show wpList _ _ _ _ _ (w8.alloc (.cells CI 38)); rw [← H11.out.2.1]) | ((with_reducible refine wl_append1G shEv shEv_ok (o := ⟨some 97, _, _, _, _, _⟩) ?_ (.tmp 91) (.tmp 96) ?_ wy.heap.size _ ([] ++ evR (([] : List (Ev × Value)).take 0)) ?_ H11.out.2.2.2.1 w8.heap.size 0 1 ?_ (evC q) H11.out.2.2.1 HQA.out.2.1 HQA.out.2.2 ?_ H11.out.2.2.2.2.2 ?_); (focus rfl); (focus rfl); (focus rfl); (focus rfl); (focus (have := HTF.out.2.2.2.2.2.2.2.2.1; have := HO.out.2.2.2.1; have := HO.out.2.2.1; simp only [evR, List.length_map, List.length_take, List.length_nil, List.length_append, List.length_drop, List.length_singleton]; omega)); intro v12 w12 own12 b12))
                  have by12 : BC wy w12 := (show Below wy.heap.size wy _ from H11.out.2.2.2.2.1).trans b12
                  have hT2 : SlV (.slice none (0 - 0) (0 - 0)) g3 (o3 + 0 * 38) (([] : List (Ev × Value)).drop 0).length := by
                    rw [List.length_drop, ← HO.out.2.2.1]
                    unfold SlV
                    exact ⟨_, _, rfl, by have := HO.out.2.2.2.2.1; omega, by have := HO.out.2.2.2.2.2.1; omega, fun h => by omega, fun _ => rfl⟩
                  have rgd : w12.rangeAt g3 (o3 + 0 * 38) (evR (([] : List (Ev × Value)).drop 0)).flatten := fun j u hj => later (BC_trans HY.out by12) (rangeG_drop HO.out.2.1 (evR_n HR.out.1.1) (show 0 ≤ (evR ([] : List (Ev × Value))).length by rw [evR, List.length_map]; exact HTF.out.2.2.2.2.2.2.2.2.1) j u (by rw [← evR_drop]; exact hj))
                  have H12 := bx (And.intro own12 (And.intro hT2 (And.intro rgd (And.intro by12.size by12))))
                  clear own12 hT2 rgd by12 b12
                  go_wp2_with ((with_reducible refine wl_append_G shEv shEv_ok (o := ⟨some 102, _, _, _, _, _⟩) ?_ (.tmp 98) (.tmp 101) ?_ wy.heap.size _ ([] ++ evR (([] : List (Ev × Value)).take 0) ++ [evC q]) ?_ H12.out.1 _ ?_ g3 (o3 + 0 * 38) (evR (([] : List (Ev × Value)).drop 0)) (by simpa [evR] using H12.out.2.1) H12.out.2.2.1 HTF.out.2.2.2.2.1 HTF.out.2.2.2.2.2.1 ?_ H12.out.2.2.2.1 ?_); (focus rfl); (focus rfl); (focus rfl); (focus rfl); (focus (have := HTF.out.2.2.2.2.2.2.2.2.1; have := HO.out.2.2.2.1; have := HO.out.2.2.1; simp only [evR, List.length_map, List.length_take, List.length_nil, List.length_append, List.length_drop, List.length_singleton]; omega)); intro v15 w15 own15 b15)
                  have hb : BC w w15 := BC_trans HTF.out.2.2.2.2.2.2.2.1 ((show Below wy.heap.size wy _ from H12.out.2.2.2.2).trans b15)
                  have own16 : OwnG shEv wy.heap.size w15 v15 (evR (insE ([] : List (Ev × Value)) q)) := by
                    rw [insE, HTF.out.2.2.2.2.2.2.2.2.2, evR_append, evR_append]
                    have h := own15
                    rw [List.nil_append] at h
                    exact h
                  have hgd : GoodE w15.heap.size w15 (insE ([] : List (Ev × Value)) q) := (HV.out.1.1.to hb).sub fun x hx => by
                    rcases insE_mem hx with h | h
                    · rw [HR.out.2.2.2.1] at h; exact lastK_mem qs i x h
                    · rw [h]; exact HI.out.2.2.1
                  have HF := bx (And.intro own16 (And.intro hb hgd))
                  clear own15 own16 hb b15 hgd
                  go_roundw
                  case rel => exact ⟨I1, insE ([] : List (Ev × Value)) q, by have := HI.out; omega, rfl, ⟨HF.out.2.2, HF.out.1.rd (evR_n HF.out.2.2)⟩, fun h => by have := congrArg List.length h; rw [insE_len] at this; simp at this, by rw [HI.out.1, lastK, HI.out.2.1, HIS.out, HR.out.2.2.2.1]; rfl, HF.out.2.1⟩
                  case measure => have := HI.out; simp [intOf]; omega
                | some ad =>
                  have hkl : k ≤ os.length := by rw [← HO.out.2.2.1]; exact hkn
                  have HT1 : Bx (SlV (.slice (some ad) k c3) g3 o3 (os.take k).length) := bx (by
                    rw [List.length_take, Nat.min_eq_left hkl]
                    unfold SlV
                    exact ⟨_, _, rfl, by have := HO.out.2.2.2.2.1; omega, HO.out.2.2.2.2.2.1, fun h => HO.out.1 (by omega), fun h => by cases h⟩)
                  have f1 : (k : Int) ≤ (c3 : Int) := by have := HO.out.2.2.2.2.1; omega
                  have f2 : (k : Int) ≤ (m : Int) := by omega
                  have f0 : (0 : Int) ≤ (k : Int) := by omega
                  have bwy := BC_trans HR.out.2.2.1 HY.out
                  have HB0 := bx (below1 wy (.cells #[] 38))
                  have gos : GoodE wr0.heap.size wr0 os := HR.out.1.1
                  have rgt : (wy.alloc (.cells #[] 38)).rangeAt g3 o3 (evR (os.take k)).flatten := fun j u hj => later (BC_trans HY.out HB0.out) (rangeG_take HO.out.2.1 (evR_n gos) (show k ≤ (evR os).length by rw [evR, List.length_map]; exact hkl) j u (by rw [← evR_take]; exact hj))
                  have gtk := gos.sub (fun q hq => List.mem_of_mem_take (i := k) hq)
                  have gdr := gos.sub (fun q hq => List.mem_of_mem_drop (i := k) hq)
                  have HTF := bx (And.intro (show OwnG shEv wy.heap.size (wy.alloc (.cells #[] 38)) (.slice (some ⟨wy.heap.size, 0, none⟩) 0 0) [] from OwnG.zero shEv wy wy.heap.size (Nat.le_refl _)) (And.intro rgt (And.intro (show ∀ r ∈ evR (os.take k), r.length = shEv.n from evR_n gtk) (And.intro (evR_one gtk) (And.intro (show ∀ r ∈ evR (os.drop k), r.length = shEv.n from evR_n gdr) (And.intro (evR_one gdr) (And.intro HB0.out.size (And.intro bwy (And.intro hkl hpl)))))))))
                  clear hkl rgt bwy hpl hkn gos gtk gdr
                  go_upto_region 15 with ((with_reducible refine wl_append_G shEv shEv_ok (o := ⟨some 90, _, _, _, _, _⟩) ?_ (.tmp 86) (.tmp 89) ?_ wy.heap.size _ ([]) ?_ HTF.out.1 _ ?_ g3 o3 (evR (os.take k)) (by simpa [evR] using HT1.out) HTF.out.2.1 HTF.out.2.2.1 HTF.out.2.2.2.1 ?_ HTF.out.2.2.2.2.2.2.1 ?_); (focus rfl); (focus rfl); (focus rfl); (focus rfl); (focus (have := HTF.out.2.2.2.2.2.2.2.2.1; have := HO.out.2.2.2.1; have := HO.out.2.2.1; simp only [evR, List.length_map, List.length_take, List.length_nil, List.length_append, List.length_drop, List.length_singleton]; omega)); intro v8 w8 own8 b8)
                  have by8 : BC wy w8 := (show Below wy.heap.size wy _ from HB0.out).trans b8
                  obtain ⟨W11, hW11⟩ : ∃ W, W = w8.alloc (.cells CI 38) := ⟨_, rfl⟩
                  have n11 := heap_alloc_new w8 (.cells CI 38)
                  have b11 := below1 w8 (.cells CI 38)
                  rw [← hW11] at n11 b11
                  have hr11 : W11.rangeAt w8.heap.size 0 (evC q) := fun j u hj => by
                    rw [Nat.zero_add]
                    refine cell_row n11 j ?_
                    rw [HI.out.2.2.2.1, List.getElem?_toArray]
                    exact hj
                  have hx8 : w8.rangeAt g (o + i * 38) CI.toList := HQI.out ⟨w8, BC_trans HTF.out.2.2.2.2.2.2.2.1 by8⟩
                  have H11 := bx (And.intro hx8 (And.intro hW11 (And.intro hr11 (And.intro (own8.below b11) (And.intro (BC_trans by8 b11) (BC_trans by8 b11).size)))))
                  clear hx8 hW11 hr11 n11 b11 by8 own8 b8
                  go_upto_region 16 with (first | ((with_reducible refine wlw_load_mid (o := ⟨some 95, _, _, _, _, _⟩) ?_ 38 (.tmp 94) ?_ _ _ ?_ CI _ H11.out.1 Tryd.underlying38 ?_ ?_ ?_); (focus rfl); (focus rfl); (focus rfl); (focus rfl); (focus (rw [HI.out.2.2.2.2.1]; kernel_rfl))) | ((with_reducible refine wl_build1G shEv shEv_ok (o := ⟨some 96, _, _, _, _, _⟩) ?_ (.tmp 95) ?_ (.agg CI) ?_ HQA.out.1 ?_); (focus rfl); (focus rfl); (focus rfl); show wpList _ _ _ _ _ (w8.alloc (.cells CI 38)); rw [← H11.out.2.1]) | ((with_reducible refine wl_append1G shEv shEv_ok (o := ⟨some 97, _, _, _, _, _⟩) ?_ (.tmp 91) (.tmp 96) ?_ wy.heap.size _ ([] ++ evR (os.take k)) ?_ H11.out.2.2.2.1 w8.heap.size 0 1 ?_ (evC q) H11.out.2.2.1 HQA.out.2.1 HQA.out.2.2 ?_ H11.out.2.2.2.2.2 ?_); (focus rfl); (focus rfl); (focus rfl); (focus rfl); (focus (have := HTF.out.2.2.2.2.2.2.2.2.1; have := HO.out.2.2.2.1; have := HO.out.2.2.1; simp only [evR, List.length_map, List.length_take, List.length_nil, List.length_append, List.length_drop, List.length_singleton]; omega)); intro v12 w12 own12 b12))
                  have by12 : BC wy w12 := (show Below wy.heap.size wy _ from H11.out.2.2.2.2.1).trans b12
                  have hT2 : SlV (.slice (if c3 = k then some ad else some (ad.add (k * 38))) (m - k) (c3 - k)) g3 (o3 + k * 38) (os.drop k).length := by
                    rw [List.length_drop, ← HO.out.2.2.1]
                    unfold SlV
                    exact ⟨_, _, rfl, by have := HO.out.2.2.2.2.1; omega, by have := HO.out.2.2.2.2.2.1; omega, fun h => by have := HKM.out; omega, fun h => by split at h <;> cases h⟩
                  have rgd : w12.rangeAt g3 (o3 + k * 38) (evR (os.drop k)).flatten := fun j u hj => later (BC_trans HY.out by12) (rangeG_drop HO.out.2.1 (evR_n HR.out.1.1) (show k ≤ (evR os).length by rw [evR, List.length_map]; exact HTF.out.2.2.2.2.2.2.2.2.1) j u (by rw [← evR_drop]; exact hj))
                  have H12 := bx (And.intro own12 (And.intro hT2 (And.intro rgd (And.intro by12.size by12))))
                  clear own12 hT2 rgd by12 b12
                  go_wp2_with ((with_reducible refine wl_append_G shEv shEv_ok (o := ⟨some 102, _, _, _, _, _⟩) ?_ (.tmp 98) (.tmp 101) ?_ wy.heap.size _ ([] ++ evR (os.take k) ++ [evC q]) ?_ H12.out.1 _ ?_ g3 (o3 + k * 38) (evR (os.drop k)) (by simpa [evR] using H12.out.2.1) H12.out.2.2.1 HTF.out.2.2.2.2.1 HTF.out.2.2.2.2.2.1 ?_ H12.out.2.2.2.1 ?_); (focus rfl); (focus rfl); (focus rfl); (focus rfl); (focus (have := HTF.out.2.2.2.2.2.2.2.2.1; have := HO.out.2.2.2.1; have := HO.out.2.2.1; simp only [evR, List.length_map, List.length_take, List.length_nil, List.length_append, List.length_drop, List.length_singleton]; omega)); intro v15 w15 own15 b15)
                  all_goals
                    have hb : BC w w15 := BC_trans HTF.out.2.2.2.2.2.2.2.1 ((show Below wy.heap.size wy _ from H12.out.2.2.2.2).trans b15)
                    have own16 : OwnG shEv wy.heap.size w15 v15 (evR (insE os q)) := by
                      rw [insE, HTF.out.2.2.2.2.2.2.2.2.2, evR_append, evR_append]
                      have h := own15
                      rw [List.nil_append] at h
                      exact h
                    have hgd : GoodE w15.heap.size w15 (insE os q) := (HV.out.1.1.to hb).sub fun x hx => by
                      rcases insE_mem hx with h | h
                      · rw [HR.out.2.2.2.1] at h; exact lastK_mem qs i x h
                      · rw [h]; exact HI.out.2.2.1
                    have HF := bx (And.intro own16 (And.intro hb hgd))
                    clear own15 own16 hb b15 hgd
                    go_roundw
                    case rel => exact ⟨I1, insE os q, by have := HI.out; omega, rfl, ⟨HF.out.2.2, HF.out.1.rd (evR_n HF.out.2.2)⟩, fun h => by have := congrArg List.length h; rw [insE_len] at this; simp at this, by rw [HI.out.1, lastK, HI.out.2.1, HIS.out, HR.out.2.2.2.1]; rfl, HF.out.2.1⟩
                    case measure => have := HI.out; simp [intOf]; omega
    · have hin : i = n := by have := HR.out.2.2.2.2.1; omega
      have hge : ¬ (i : Int) < (n : Int) := by omega
      have HF := bx hin
      clear hin hlt
      go_wp2_with fail
      go_ret
      have h := HR.out.1
      have h2 := HR.out.2.2.2.1
      rw [HF.out, HV.out.2.2.1] at h2
      rw [h2, HR.out.2.2.2.2.2] at h
      have hb := HR.out.2.2.1
      rw [HR.out.2.2.2.2.2] at hb
      refine ⟨_, rfl, ?_, hb⟩
      rw [HO.out.2.2.1, h2]
      exact h
end Go.Proofs.YtagdlbadkmgdmaaDoor
