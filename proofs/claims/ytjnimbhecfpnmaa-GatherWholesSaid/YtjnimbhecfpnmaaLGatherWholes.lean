/- The statement GatherWholes: the wholes are told, each once; each is made of its own parts alone; Clear takes each out, and then none is left. No condition. -/
import Derived.Test.YtjnimbhecfpnmaaAwake19
import Derived.Test.YtjnimbhecfpnmaaOpenB
import Derived.Test.YtjnimbhecfpnmaaWhl
import Derived.Test.YtjnimbhecfpnmaaWhole
import Derived.Test.YtjnimbhecfpnmaaReal
import Derived.Test.YtjnimbhecfpnmaaClear
import Derived.Deep.Cut
import Derived.OpenShut
import Derived.ShutString
import Derived.ChangeOld
namespace Go.Proofs.Ytjnimbhecfpnmaa.gatherWholesDone
open Go.ChangeShapes Go.WideShapes Go.ChangeAt Go.RowKit
set_option linter.unusedVariables false
set_option linter.unusedSimpArgs false
set_option maxRecDepth 100000
attribute [local irreducible] SlV Lies headG

attribute [local go_sem] takes takesE comesTo
/-- a part laid behind others -/
def layP (wh : List Int) (n : Nat) (st : List (Option Int)) (p : Pt) : List (Option Int) := if p.wh = wh ∧ p.sz = (n : Int) then putN p.at' p.da st p.da.length else st
theorem laidN_fold (ps : List Pt) (wh : List Int) (n : Nat) : ∀ i, i ≤ ps.length → laidN ps wh n i = (ps.take i).foldl (layP wh n) (List.replicate n none)
  | 0, _ => rfl
  | i + 1, h => by
    rw [laidN, List.getElem?_eq_getElem (by omega), List.take_succ_eq_append_getElem (by omega), List.foldl_append, ← laidN_fold ps wh n i (by omega)]
    rfl
theorem laidF_fold (ps : List Pt) (wh : List Int) (n : Nat) : laidF ps wh n = ps.foldl (layP wh n) (List.replicate n none) := by
  unfold laidF
  rw [laidN_fold ps wh n _ (Nat.le_refl _), List.take_length]
theorem fold_filter (wh : List Int) (n : Nat) : ∀ (ps : List Pt) (st : List (Option Int)), (ps.filter fun p => decide (p.wh = wh)).foldl (layP wh n) st = ps.foldl (layP wh n) st
  | [], _ => rfl
  | p :: ps, st => by
    by_cases h : p.wh = wh
    · rw [List.filter_cons, if_pos (by simpa using h), List.foldl_cons, List.foldl_cons, fold_filter wh n ps]
    · rw [List.filter_cons, if_neg (by simpa using h), List.foldl_cons, fold_filter wh n ps]
      have : layP wh n st p = st := by unfold layP; rw [if_neg (fun e => h e.1)]
      rw [this]
theorem laidF_own (ps : List Pt) (wh : List Int) (n : Nat) : laidF (ps.filter fun p => decide (p.wh = wh)) wh n = laidF ps wh n := by
  rw [laidF_fold, laidF_fold, fold_filter]
theorem find_own {wh : List Int} {f : Pt → Bool} : ∀ (ps : List Pt), (ps.filter fun p => decide (p.wh = wh)).find? (fun p => decide (p.wh = wh) && f p) = ps.find? (fun p => decide (p.wh = wh) && f p)
  | [] => rfl
  | p :: ps => by
    by_cases h : p.wh = wh
    · rw [List.filter_cons, if_pos (by simpa using h), List.find?_cons, List.find?_cons, find_own ps]
    · rw [List.filter_cons, if_neg (by simpa using h), List.find?_cons, find_own ps, decide_eq_false h]
      rfl
theorem wholeF_own (ps : List Pt) (wh : List Int) : wholeF (ps.filter fun p => decide (p.wh = wh)) wh = wholeF ps wh := by
  unfold wholeF goodW
  simp only [laidF_own]
  rw [find_own]
/-- the parts that no whole of these has -/
def leftQ (qs : List (Pt × Value)) (ds : List (List Int)) : List (Pt × Value) := qs.filter fun q => !decide (q.1.wh ∈ ds)
theorem leftQ_step (qs : List (Pt × Value)) {ds : List (List Int)} {i : Nat} (h : i < ds.length) : (leftQ qs (ds.take i)).filter (fun q => !decide (q.1.wh = ds[i])) = leftQ qs (ds.take (i + 1)) := by
  unfold leftQ
  rw [List.filter_filter]
  congr 1
  funext q
  have hm : q.1.wh ∈ ds.take (i + 1) ↔ q.1.wh ∈ ds.take i ∨ q.1.wh = ds[i] := by rw [List.take_succ_eq_append_getElem h, List.mem_append, List.mem_singleton]
  rw [decide_eq_decide.2 hm]
  by_cases h1 : q.1.wh = ds[i]
  · rw [decide_eq_true h1, decide_eq_true (Or.inr h1)]; rfl
  · by_cases h2 : q.1.wh ∈ ds.take i
    · rw [decide_eq_true h2, decide_eq_true (Or.inl h2), Bool.and_comm]; rfl
    · rw [decide_eq_false h1, decide_eq_false h2, decide_eq_false (fun h => h.elim h2 h1)]; rfl
theorem nodup_inj {α : Type} {l : List α} (h : l.Nodup) {i j : Nat} (hi : i < l.length) (hj : j < l.length) (e : l[i] = l[j]) : i = j := by
  have hp := List.pairwise_iff_getElem.1 h
  rcases Nat.lt_trichotomy i j with h1 | h1 | h1
  · exact absurd e (hp i j hi hj h1)
  · exact h1
  · exact absurd e.symm (hp j i hj hi h1)
theorem leftQ_all (qs : List (Pt × Value)) : leftQ qs (wholesF (qs.map (·.1))) = [] := by
  unfold leftQ
  rw [List.filter_eq_nil_iff]
  intro q hq
  have : q.1.wh ∈ wholesF (qs.map (·.1)) := ((wholesF_inv _ _ rfl).2.2 _).2 ⟨q.1, List.mem_map_of_mem hq, rfl⟩
  simp [this]
theorem filter_less {α : Type} (f : α → Bool) : ∀ {l : List α}, (∃ x ∈ l, f x = false) → (l.filter f).length < l.length
  | [], ⟨x, hx, _⟩ => by simp at hx
  | a :: l, ⟨x, hx, hf⟩ => by
    by_cases ha : f a = true
    · rw [List.filter_cons, if_pos ha, List.length_cons, List.length_cons]
      have := filter_less f (l := l) ⟨x, by rcases List.mem_cons.1 hx with rfl | h; (· rw [ha] at hf; cases hf); exact h, hf⟩
      omega
    · rw [List.filter_cons, if_neg ha, List.length_cons]
      have := List.length_filter_le f l
      omega
theorem leftQ_less (qs : List (Pt × Value)) {i : Nat} (h : i < (wholesF (qs.map (·.1))).length) : (leftQ qs ((wholesF (qs.map (·.1))).take (i + 1))).length < (leftQ qs ((wholesF (qs.map (·.1))).take i)).length := by
  rw [← leftQ_step qs h]
  apply filter_less
  obtain ⟨i1, i2, i3⟩ := wholesF_inv _ (qs.map (·.1)) rfl
  obtain ⟨p, hp, e⟩ := (i3 _).1 (List.getElem_mem h)
  obtain ⟨q, hq, rfl⟩ := List.mem_map.1 hp
  refine ⟨q, List.mem_filter.2 ⟨hq, ?_⟩, by simp [e]⟩
  have hno : ¬ q.1.wh ∈ (wholesF (qs.map (·.1))).take i := fun hm => by
    rw [e] at hm
    obtain ⟨j, hj, e2⟩ := List.getElem_of_mem hm
    rw [List.length_take] at hj
    rw [List.getElem_take] at e2
    have := nodup_inj i2 (by omega) h e2
    omega
  simpa using hno
set_option maxHeartbeats 8000000 in
theorem walk (v0 : Value) (qs : List (Pt × Value)) (w : World) (hp0 : RdP w.heap.size w v0 qs) :
    Calls Try.prog 13 #[v0] w fun e w' => e = .returned (.bool true) ∧ Below w.heap.size w w' := by
  have hv0 := hp0
  obtain ⟨_, g, o, sv, rg, _⟩ := hp0
  obtain ⟨a, c, rfl, hc, hm, ha, _⟩ := by unfold SlV at sv; exact sv
  have HSMA := Lib.hid (small_any (.slice a qs.length c) qs)
  obtain ⟨n, hN⟩ : ∃ n, n = qs.length := ⟨_, rfl⟩
  rw [← hN] at ha HSMA hv0 ⊢
  obtain ⟨ps, hps⟩ : ∃ ps, ps = qs.map (·.1) := ⟨_, rfl⟩
  rw [← hps] at HSMA
  have HV := Lib.hid (And.intro hv0 (And.intro rg (And.intro hN (And.intro ha hps))))
  clear hv0 sv rg hN ha hc hm hps
  go_enter Try.func13, Try.ntmps13
  go_wp2_with fail
  refine (awake19_any _).mono ?_
  rintro e wa ⟨rfl, ba⟩
  have hra := HV.out.1.to ba
  have HSM := Lib.hid (HSMA.out wa hra)
  have HA := Lib.hid (And.intro ba hra)
  clear ba hra HSMA
  obtain ⟨sb, hsb⟩ : ∃ x, x = smallB ps := ⟨_, rfl⟩
  rw [← hsb] at HSM
  have HSB := Lib.hid hsb
  clear hsb
  cases sb with
  | false =>
    go_wp2_with fail
    refine HSM.out.mono ?_
    rintro e wx ⟨rfl, hwb⟩
    subst hwb
    go_wp2_with fail
    go_ret
    exact ⟨rfl, HA.out.1⟩
  | true =>
    have hin := smallB_in HSB.out.symm
    have HIN : Hid (n ≤ 20 ∧ ∀ q ∈ qs, q.1.da.length ≤ 300 ∧ q.1.sz ≤ 3000) := Lib.hid ⟨by have h := hin.1; rw [HV.out.2.2.2.2, List.length_map, ← HV.out.2.2.1] at h; exact h, fun q hq => hin.2 q.1 (by rw [HV.out.2.2.2.2]; exact List.mem_map_of_mem hq)⟩
    have HWL := Lib.hid (wholes_any _ qs wa HA.out.2 (by rw [← HV.out.2.2.1]; have := HIN.out.1; omega))
    clear hin
    go_wp2_with fail
    refine HSM.out.mono ?_
    rintro e wx ⟨rfl, hwb⟩
    subst hwb
    clear HSM
    go_wp2_with fail
    refine HWL.out.mono ?_
    rintro e wb ⟨v4, rfl, rdd, bb⟩
    obtain ⟨ds, hds⟩ : ∃ ds, ds = wholesF ps := ⟨_, rfl⟩
    rw [← HV.out.2.2.2.2, ← hds] at rdd
    obtain ⟨hd32, gd, od, sd, rgd, _⟩ := rdd
    obtain ⟨pd, cd, rfl, _, _, hpd, _⟩ := by unfold SlV at sd; exact sd
    obtain ⟨M, hM⟩ : ∃ M, M = ds.length := ⟨_, rfl⟩
    rw [← hM] at hpd ⊢
    have hmn : M ≤ n := by
      have := (wholesF_inv _ ps rfl).1
      rw [← hds, ← hM, HV.out.2.2.2.2, List.length_map, ← HV.out.2.2.1] at this
      exact this
    have hbb := BC_trans (show BC w wx from HA.out.1) bb
    have HD := Lib.hid (And.intro hd32 (And.intro rgd (And.intro hM (And.intro hpd (And.intro hds (And.intro hmn (And.intro hbb (HV.out.1.to hbb))))))))
    clear hd32 rgd hM hpd hds hmn hbb sd bb HWL
    go_wp2_with fail
    go_loopw [5, 6] (fun v5 v6 wr => ∃ (i : Nat) (ls : List (Pt × Value)), i ≤ M ∧ v6 = .int .i64 (i : Int) ∧ RdP wr.heap.size wr v5 ls ∧ ls = leftQ qs (ds.take i) ∧ BC wb wr) (fun _ i _ => M - (intOf i).toNat)
    case atStart => exact ⟨0, qs, Nat.zero_le _, rfl, HD.out.2.2.2.2.2.2.2, (List.filter_eq_self.2 (fun q _ => by simp)).symm, BC_refl _⟩
    case round =>
      obtain ⟨i, ls, hi, rfl, rdl, hls, hbr⟩ := hrel
      obtain ⟨pl, cl, hfl⟩ := rdl.form
      subst hfl
      have HR := Lib.hid (And.intro rdl (And.intro hls (And.intro hbr hi)))
      by_cases hlt : i < M
      · have hn20 := HIN.out.1
        have i0 : (0 : Int) ≤ (i : Int) := by omega
        have i1 : (i : Int) < (M : Int) := by omega
        obtain ⟨I1, hI1⟩ : ∃ m, m = i + 1 := ⟨_, rfl⟩
        have hm20 : M ≤ 20 := by have := HD.out.2.2.2.2.2.1; omega
        have s1 : IntKind.i64.wrap ((i : Int) + 1) = (I1 : Int) := by rw [IntKind.wrap_i64]; omega
        obtain rfl := HD.out.2.2.2.1 (by omega)
        have hid : i < ds.length := by rw [← HD.out.2.2.1]; exact hlt
        have hlen : ls.length ≤ 20 := by rw [hls]; unfold leftQ; exact Nat.le_trans (List.length_filter_le _ _) (by rw [← HV.out.2.2.1]; exact hn20)
        have hless : (leftQ qs (ds.take (i + 1))).length < (leftQ qs (ds.take i)).length := by
          rw [HD.out.2.2.2.2.1, HV.out.2.2.2.2]
          exact leftQ_less qs (by rw [← HV.out.2.2.2.2, ← HD.out.2.2.2.2.1]; exact hid)
        have hstep := leftQ_step qs hid
        rw [← hls, ← hI1] at hless
        rw [← hls, ← hI1] at hstep
        obtain ⟨d, hd⟩ : ∃ d, d = ds[i]'hid := ⟨_, rfl⟩
        have hdl : d.length = 32 := by rw [hd]; exact HD.out.1 _ (List.getElem_mem hid)
        have hdb : Bytes d := by
          have hm : d ∈ wholesF ps := by rw [hd, ← HD.out.2.2.2.2.1]; exact List.getElem_mem hid
          obtain ⟨p, hp, e⟩ := ((wholesF_inv _ ps rfl).2.2 d).1 hm
          rw [HV.out.2.2.2.2] at hp
          obtain ⟨q, hq, rfl⟩ := List.mem_map.1 hp
          rw [← e]; exact (HV.out.1.1 q hq).1.2.1
        have hrgi := rangeD_get HD.out.2.1 HD.out.1 hid
        rw [← hd] at hrgi hstep
        have hnd := (wholesF_inv _ ps rfl).2.1
        rw [← HD.out.2.2.2.2.1] at hnd
        have hne : ∀ j (hj : j < ds.length), j < i → d ≠ ds[j] := fun j hj hji e => by
          rw [hd] at e
          have := nodup_inj hnd hid hj e
          omega
        obtain ⟨RE, hRE⟩ : ∃ R, R = row .u8 d := ⟨_, rfl⟩
        have hEz : RE.size = 32 := by rw [hRE, row_size, hdl]
        have hrgR : wb.rangeAt gd (od + i * 32) RE.toList := fun j u hj => hrgi j u (by rw [hRE] at hj; exact hj)
        obtain ⟨ns, hns⟩ : ∃ ns, ns = leftQ qs (ds.take I1) := ⟨_, rfl⟩
        rw [← hns] at hless hstep
        have HCLA : Hid (∀ W, RdP W.heap.size W (.slice pl ls.length cl) ls → Calls Try.prog 34 #[.slice pl ls.length cl, .agg RE] W fun e w' => ∃ v', e = .returned v' ∧ RdP w'.heap.size w' v' ns ∧ Below W.heap.size W w') := Lib.hid fun W hW => by
          have h := clear_any _ ls d hdl W hW (by omega)
          rw [hstep, ← hRE] at h
          exact h
        obtain ⟨ll, hll⟩ : ∃ m, m = ls.length := ⟨_, rfl⟩
        rw [← hll] at HCLA HR hlen hless rdl ⊢
        have HI := Lib.hid (And.intro hI1 (And.intro hlt (And.intro hdl (And.intro hdb (And.intro hne (And.intro hRE (And.intro hEz (And.intro hrgR (And.intro hns hless)))))))))
        have HLL := Lib.hid hll
        have HRL := Lib.hid rdl
        clear hI1 hlt hdl hdb hne hRE hEz hrgR hns hless hll hd hid hrgi hnd hstep hls rdl hi hn20
        go_wp2_with fail
        go_loopw [7] (fun v7 wr => ∃ j : Nat, j ≤ i ∧ v7 = .int .i64 (j : Int) ∧ RdP wr.heap.size wr (.slice pl ll cl) ls ∧ BC wb wr) (fun j _ => i - (intOf j).toNat)
        case atStart => exact ⟨0, Nat.zero_le _, rfl, HRL.out, HR.out.2.2.1⟩
        case round =>
          obtain ⟨j, hj, rfl, rdj, hbj⟩ := hrel
          have HJ := Lib.hid (And.intro hj (And.intro rdj hbj))
          clear hj rdj hbj
          by_cases hlt : j < i
          · have j0 : (0 : Int) ≤ (j : Int) := by omega
            have j1 : (j : Int) < (i : Int) := by omega
            have j2 : (j : Int) < (M : Int) := by have := HI.out; omega
            obtain ⟨J1, hJ1⟩ : ∃ m, m = j + 1 := ⟨_, rfl⟩
            have s2 : IntKind.i64.wrap ((j : Int) + 1) = (J1 : Int) := by rw [IntKind.wrap_i64]; have := HI.out; omega
            have hjd : j < ds.length := by rw [← HD.out.2.2.1]; have := HI.out; omega
            have hrgj := rangeD_get HD.out.2.1 HD.out.1 hjd
            have hnej := HI.out.2.2.2.2.1 j hjd hlt
            have hjl := HD.out.1 _ (List.getElem_mem hjd)
            obtain ⟨e2, he2⟩ : ∃ x, x = ds[j]'hjd := ⟨_, rfl⟩
            rw [← he2] at hrgj hnej hjl
            obtain ⟨RJ, hRJ⟩ : ∃ R, R = row .u8 e2 := ⟨_, rfl⟩
            have hJz : RJ.size = 32 := by rw [hRJ, row_size, hjl]
            have heq : ∀ w, (binOp .eql 23 (.agg RE) (.agg RJ)).run Try.prog w = .ok (.bool false) w := fun w => by
              have h := run_eql_row w 23 5 32 .u8 Try.underlying23 Try.underlying5 (by kernel_rfl) d e2 HI.out.2.2.1 hjl
              rw [← HI.out.2.2.2.2.2.1, ← hRJ, decide_eq_false hnej] at h
              exact h
            have HFI : Hid (∀ x : HW (BC wr), x.w.rangeAt gd (od + i * 32) RE.toList) := Lib.hid fun x j u hj => later (BC_trans HJ.out.2.2 x.h) (HI.out.2.2.2.2.2.2.2.1 j u hj)
            have HFJ : Hid (∀ x : HW (BC wr), x.w.rangeAt gd (od + j * 32) RJ.toList) := Lib.hid fun x k u hk => later (BC_trans HJ.out.2.2 x.h) (hrgj k u (by rw [hRJ] at hk; exact hk))
            have HRS := Lib.hid (And.intro HI.out.2.2.2.2.2.2.1 hJz)
            have HJJ := Lib.hid (And.intro hJ1 hlt)
            clear hJ1 hlt hrgj hnej hjl he2 hRJ hJz hjd
            go_upto_region 12 with fail
            have hS := BC_all (w := wr)
            haveI := BC_inst wr
            refine wp_region_head (BC wr) 9 (by kernel_rfl) (by kernel_rfl) (BC_start _) ?_
            simp only [List.take_succ_cons, List.take_zero, List.drop_succ_cons, List.drop_zero]
            repeat (first
              | ((with_reducible refine headG_load_mid (o := ⟨some 37, _, _, _, _, _⟩) 23 (.tmp 36) ?_ ?_ _ _ ?_ RE _ HFI.out Try.underlying23 ?_ ?_ ?_); (focus rfl); (focus rfl); (focus rfl); (focus rfl); (focus (rw [HRS.out.1]; kernel_rfl)))
              | ((with_reducible refine headG_load_mid (o := ⟨some 41, _, _, _, _, _⟩) 23 (.tmp 40) ?_ ?_ _ _ ?_ RJ _ HFJ.out Try.underlying23 ?_ ?_ ?_); (focus rfl); (focus rfl); (focus rfl); (focus rfl); (focus (rw [HRS.out.2]; kernel_rfl)))
              | (refine headG_step (fun K hK => ?_)
                 go_simp
                 (refine hK _ ?_; clear hK K)))
            refine headG_nil ?_
            intro wy hby
            have HY := Lib.hid (And.intro (HJ.out.2.1.to hby) (BC_trans HJ.out.2.2 hby))
            clear hS hby heq
            go_wp2_with fail
            go_roundw
            case rel => exact ⟨J1, by have := HJJ.out; omega, rfl, HY.out.1, HY.out.2⟩
            case measure => have := HJJ.out; simp [intOf]; omega
          · have hge : ¬ (j : Int) < (i : Int) := by omega
            have HCL := Lib.hid (HCLA.out wr HJ.out.2.1)
            have hrgI : wr.rangeAt gd (od + i * 32) RE.toList := fun j u hj => later HJ.out.2.2 (HI.out.2.2.2.2.2.2.2.1 j u hj)
            have HRI := Lib.hid hrgI
            clear hrgI hlt
            go_wp2_with ((with_reducible refine wlw_load_mid (o := ⟨some 47, _, _, _, _, _⟩) ?_ 23 (.tmp 46) ?_ _ _ ?_ RE _ HRI.out Try.underlying23 ?_ ?_ ?_); (focus rfl); (focus rfl); (focus rfl); (focus rfl); (focus (rw [HI.out.2.2.2.2.2.2.1]; kernel_rfl)))
            refine HCL.out.mono ?_
            rintro e wc ⟨vn, rfl, rdn, bc⟩
            obtain ⟨pn, cn, hfn⟩ := rdn.form
            subst hfn
            obtain ⟨ln, hln⟩ : ∃ m, m = ns.length := ⟨_, rfl⟩
            have hbc := BC_trans HJ.out.2.2 bc
            have hlnl : ln < ll := by rw [hln]; exact HI.out.2.2.2.2.2.2.2.2.2
            have hge2 : ¬ (ll : Int) ≤ (ln : Int) := by omega
            rw [← hln] at rdn ⊢
            have HN := Lib.hid (And.intro rdn (And.intro hbc hln))
            clear rdn hbc hln bc hlnl
            go_wp2_with fail
            go_loopw [9, 10] (fun v9 v10 wr => ∃ k : Nat, k ≤ n ∧ v10 = .int .i64 (k : Int) ∧ OwnP wc.heap.size wr v9 ((qs.take k).filter fun q => decide (q.1.wh = d)) ∧ BC wc wr) (fun _ k _ => n - (intOf k).toNat)
            case atStart => exact ⟨0, Nat.zero_le _, rfl, OwnP.nil _ _, BC_refl _⟩
            case round =>
              obtain ⟨k, hk, rfl, own9, hbk⟩ := hrel
              have HK := Lib.hid (And.intro hk (And.intro own9 hbk))
              have HKB := Lib.hid (BC_trans HN.out.2.1 hbk)
              clear hk own9 hbk
              by_cases hlt : k < n
              · have k0 : (0 : Int) ≤ (k : Int) := by omega
                have k1 : (k : Int) < (n : Int) := by omega
                obtain ⟨K1, hK1⟩ : ∃ m, m = k + 1 := ⟨_, rfl⟩
                have s3 : IntKind.i64.wrap ((k : Int) + 1) = (K1 : Int) := by rw [IntKind.wrap_i64]; have := HIN.out; omega
                have hkq : k < qs.length := by rw [← HV.out.2.2.1]; exact hlt
                obtain rfl := HV.out.2.2.2.1 (by omega)
                have bwk := BC_trans HD.out.2.2.2.2.2.2.1 HKB.out
                have hrg := range_get HV.out.2.1 HV.out.1.1.wh hkq
                have hrw := range_wh hrg
                have hgq := HV.out.1.1 _ (List.getElem_mem hkq)
                have htk : (qs.take K1).filter (fun q => decide (q.1.wh = d)) = (qs.take k).filter (fun q => decide (q.1.wh = d)) ++ (if (qs[k]'hkq).1.wh = d then [qs[k]'hkq] else []) := by
                  rw [hK1, List.take_succ_eq_append_getElem hkq, List.filter_append]
                  by_cases e : (qs[k]'hkq).1.wh = d <;> simp [e]
                obtain ⟨q, hq⟩ : ∃ q, q = qs[k]'hkq := ⟨_, rfl⟩
                rw [← hq] at hrg hrw hgq htk
                have h32 := hgq.1.1
                obtain ⟨wk, hwk⟩ : ∃ x, x = q.1.wh := ⟨_, rfl⟩
                rw [← hwk] at hrw htk h32
                obtain ⟨RJ, hRJ⟩ : ∃ R, R = row .u8 wk := ⟨_, rfl⟩
                have hJz : RJ.size = 32 := by rw [hRJ, row_size, h32]
                obtain ⟨C, hC⟩ : ∃ C, C = (qC q).toArray := ⟨_, rfl⟩
                have hCz : C.size = 35 := by rw [hC]; exact qC_size hgq.1.1
                have hrgC : w.rangeAt g (o + k * 35) C.toList := fun j u hj => hrg j u (by rw [hC] at hj; exact hj)
                obtain ⟨z, hz⟩ : ∃ z, z = decide (wk = d) := ⟨_, rfl⟩
                have heq : ∀ w, (binOp .eql 23 (.agg RJ) (.agg RE)).run Try.prog w = .ok (.bool z) w := fun w => by
                  have h := run_eql_row w 23 5 32 .u8 Try.underlying23 Try.underlying5 (by kernel_rfl) wk d h32 HI.out.2.2.1
                  rw [← HI.out.2.2.2.2.2.1, ← hRJ, ← hz] at h
                  exact h
                have HFI : Hid (∀ x : HW (BC wr), x.w.rangeAt gd (od + i * 32) RE.toList) := Lib.hid fun x j u hj => later (BC_trans HKB.out x.h) (HI.out.2.2.2.2.2.2.2.1 j u hj)
                have HFJ : Hid (∀ x : HW (BC wr), x.w.rangeAt g (o + k * 35) RJ.toList) := Lib.hid fun x j u hj => later (BC_trans bwk x.h) (hrw j u (by rw [hRJ] at hj; exact hj))
                have HRS := Lib.hid (And.intro HI.out.2.2.2.2.2.2.1 hJz)
                have HKK := Lib.hid (And.intro hK1 (And.intro hlt (And.intro htk (And.intro hz (And.intro hC (And.intro hCz (And.intro hrgC (And.intro hgq bwk))))))))
                clear hK1 hlt htk hz hC hCz hrgC hgq bwk hrg hrw hq h32 hwk hRJ hJz hkq
                go_upto_region 21 with fail
                have hS := BC_all (w := wr)
                haveI := BC_inst wr
                refine wp_region_head (BC wr) 10 (by kernel_rfl) (by kernel_rfl) (BC_start _) ?_
                simp only [List.take_succ_cons, List.take_zero, List.drop_succ_cons, List.drop_zero]
                repeat (first
                  | ((with_reducible refine headG_load_mid (o := ⟨some 64, _, _, _, _, _⟩) 23 (.tmp 63) ?_ ?_ _ _ ?_ RJ _ HFJ.out Try.underlying23 ?_ ?_ ?_); (focus rfl); (focus rfl); (focus rfl); (focus rfl); (focus (rw [HRS.out.2]; kernel_rfl)))
                  | ((with_reducible refine headG_load_mid (o := ⟨some 68, _, _, _, _, _⟩) 23 (.tmp 67) ?_ ?_ _ _ ?_ RE _ HFI.out Try.underlying23 ?_ ?_ ?_); (focus rfl); (focus rfl); (focus rfl); (focus rfl); (focus (rw [HRS.out.1]; kernel_rfl)))
                  | (refine headG_step (fun K hK => ?_)
                     go_simp
                     (refine hK _ ?_; clear hK K)))
                refine headG_nil ?_
                intro wy hby
                have hy9 := HK.out.2.1.below hby
                have HY := Lib.hid (And.intro hy9 (And.intro hby (And.intro (BC_trans HK.out.2.2 hby) (BC_trans HKK.out.2.2.2.2.2.2.2.2 hby))))
                clear hS hby heq hy9
                cases z with
                | true =>
                  have htk2 := HKK.out.2.2.1
                  rw [if_pos (of_decide_eq_true HKK.out.2.2.2.1.symm)] at htk2
                  have hry : wy.rangeAt g (o + k * 35) C.toList := fun j u hj => later HY.out.2.2.2 (HKK.out.2.2.2.2.2.2.1 j u hj)
                  obtain ⟨W3, hW3⟩ : ∃ W, W = wy.alloc (.cells C 26) := ⟨_, rfl⟩
                  have n3 := heap_alloc_new wy (.cells C 26)
                  have b3 := below1 wy (.cells C 26)
                  rw [← hW3] at n3 b3
                  have hr3 : W3.rangeAt wy.heap.size 0 (qC q) := fun j u hj => by
                    rw [Nat.zero_add]
                    refine cell_row n3 j ?_
                    rw [HKK.out.2.2.2.2.1, List.getElem?_toArray]
                    exact hj
                  have o3 := HY.out.1.below b3
                  have hlf : ((qs.take k).filter fun q => decide (q.1.wh = d)).length ≤ 1000000 := by
                    have h1 := List.length_filter_le (fun q : Pt × Value => decide (q.1.wh = d)) (qs.take k)
                    have h2 : (qs.take k).length ≤ 20 := by rw [List.length_take, ← HV.out.2.2.1]; have := HIN.out.1; omega
                    omega
                  have hbase3 := (BC_trans HY.out.2.2.1 b3).size
                  have HQ32 := Lib.hid (And.intro HKK.out.2.2.2.2.2.2.2.1.1.1 HKK.out.2.2.2.2.2.2.2.1.2.one)
                  have H3 := Lib.hid (And.intro hry (And.intro hr3 (And.intro o3 (And.intro hlf (And.intro hbase3 (And.intro hW3 (And.intro b3 htk2)))))))
                  clear hry hr3 o3 hlf hbase3 hW3 b3 htk2 n3
                  go_wp2_with (first
                    | ((with_reducible refine wlw_load_mid (o := ⟨some 74, _, _, _, _, _⟩) ?_ 26 (.tmp 73) ?_ _ _ ?_ C _ H3.out.1 Try.underlying26 ?_ ?_ ?_); (focus rfl); (focus rfl); (focus rfl); (focus rfl); (focus (rw [HKK.out.2.2.2.2.2.1]; kernel_rfl)))
                    | ((with_reducible refine wl_build1P (o := ⟨some 75, _, _, _, _, _⟩) ?_ (.tmp 74) ?_ C ?_ HKK.out.2.2.2.2.2.1 ?_); (focus rfl); (focus rfl); (focus rfl); rw [← H3.out.2.2.2.2.2.1])
                    | ((with_reducible refine wl_append1P (o := ⟨some 76, _, _, _, _, _⟩) ?_ (.tmp 70) (.tmp 75) ?_ wc.heap.size _ _ ?_ H3.out.2.2.1 wy.heap.size 0 1 ?_ q H3.out.2.1 HQ32.out.1 HQ32.out.2 H3.out.2.2.2.1 H3.out.2.2.2.2.1 ?_); (focus rfl); (focus rfl); (focus rfl); (focus rfl); intro v8 w8 own8 b8))
                  rw [← H3.out.2.2.2.2.2.2.2] at own8
                  have b38 : BC wc w8 := (show Below wc.heap.size wc W3 from BC_trans HY.out.2.2.1 H3.out.2.2.2.2.2.2.1).trans b8
                  have H8 := Lib.hid (And.intro own8 b38)
                  clear own8 b8 b38
                  go_wp2_with fail
                  go_roundw
                  case rel => exact ⟨K1, by have := HKK.out; omega, rfl, H8.out.1, H8.out.2⟩
                  case measure => have := HKK.out; simp [intOf]; omega
                | false =>
                  have htk2 := HKK.out.2.2.1
                  rw [if_neg (of_decide_eq_false HKK.out.2.2.2.1.symm), List.append_nil] at htk2
                  have h2 := HY.out.1
                  rw [← htk2] at h2
                  have H8 := Lib.hid h2
                  clear h2 htk2
                  go_wp2_with fail
                  go_roundw
                  case rel => exact ⟨K1, by have := HKK.out; omega, rfl, H8.out, HY.out.2.2.1⟩
                  case measure => have := HKK.out; simp [intOf]; omega
              · have hin : k = n := by have := HK.out; omega
                have hge3 : ¬ (k : Int) < (n : Int) := by omega
                have own9 := HK.out.2.1
                rw [List.take_of_length_le (by rw [← HV.out.2.2.1]; omega)] at own9
                obtain ⟨os, hos⟩ : ∃ os, os = qs.filter fun q => decide (q.1.wh = d) := ⟨_, rfl⟩
                rw [← hos] at own9
                have bwk := BC_trans HD.out.2.2.2.2.2.2.1 HKB.out
                have hom : ∀ q ∈ os, q ∈ qs := fun q hq => by rw [hos] at hq; exact (List.mem_filter.1 hq).1
                have rdo := own9.rd ((HV.out.1.1.to bwk).sub hom)
                have hmap : os.map (·.1) = ps.filter fun p => decide (p.wh = d) := by rw [hos, HV.out.2.2.2.2, List.filter_map]; rfl
                obtain ⟨po, co, hfo⟩ := rdo.form
                subst hfo
                have hol : os.length ≤ 20 := by rw [hos]; exact Nat.le_trans (List.length_filter_le _ _) (by rw [← HV.out.2.2.1]; exact HIN.out.1)
                have hW1 := whole_any (.slice a n c) qs d wr (HV.out.1.to bwk) (by rw [← HV.out.2.2.1]; have := HIN.out.1; omega) (fun q hq => by have := HIN.out.2 q hq; omega) (fun q hq => by have := HIN.out.2 q hq; omega) HI.out.2.2.1 HI.out.2.2.2.1
                have hW2 : ∀ W, BC wr W → Calls Try.prog 31 #[.slice po os.length co, .agg (row .u8 d)] W fun e w' => ∃ v', e = .returned (.tuple #[v', .bool (wholeF (os.map (·.1)) d).isSome]) ∧ Own W.heap.size w' v' ((wholeF (os.map (·.1)) d).getD []) ∧ Below W.heap.size W w' := fun W hW =>
                  whole_any _ os d W (rdo.to hW) (by omega) (fun q hq => by have := HIN.out.2 q (hom q hq); omega) (fun q hq => by have := HIN.out.2 q (hom q hq); omega) HI.out.2.2.1 HI.out.2.2.2.1
                rw [hmap, wholeF_own] at hW2
                rw [← HV.out.2.2.2.2, ← HI.out.2.2.2.2.2.1] at hW1
                rw [← HI.out.2.2.2.2.2.1] at hW2
                have hrgI : wr.rangeAt gd (od + i * 32) RE.toList := fun j u hj => later HKB.out (HI.out.2.2.2.2.2.2.2.1 j u hj)
                generalize hRR : (wholeF ps d).getD [] = rb at *
                generalize (wholeF ps d).isSome = rs at *
                generalize os.length = lo at *
                have HW1 := Lib.hid hW1
                have HW2 := Lib.hid hW2
                have HRI := Lib.hid hrgI
                clear hW1 hW2 hrgI own9 hos hom rdo hmap hol hRR hin hlt bwk
                go_wp2_with ((with_reducible refine wlw_load_mid (o := ⟨some 82, _, _, _, _, _⟩) ?_ 23 (.tmp 81) ?_ _ _ ?_ RE _ HRI.out Try.underlying23 ?_ ?_ ?_); (focus rfl); (focus rfl); (focus rfl); (focus rfl); (focus (rw [HI.out.2.2.2.2.2.2.1]; kernel_rfl)))
                refine HW1.out.mono ?_
                rintro e wu ⟨vu, rfl, ownu, bu⟩
                have hw2 := HW2.out wu bu
                have hrgI : wu.rangeAt gd (od + i * 32) RE.toList := fun j u hj => later bu (HRI.out j u hj)
                have HU := Lib.hid (And.intro ownu (And.intro bu (And.intro hw2 hrgI)))
                clear ownu bu hw2 hrgI
                go_wp2_with ((with_reducible refine wlw_load_mid (o := ⟨some 91, _, _, _, _, _⟩) ?_ 23 (.tmp 90) ?_ _ _ ?_ RE _ HU.out.2.2.2 Try.underlying23 ?_ ?_ ?_); (focus rfl); (focus rfl); (focus rfl); (focus rfl); (focus (rw [HI.out.2.2.2.2.2.2.1]; kernel_rfl)))
                refine HU.out.2.2.1.mono ?_
                rintro e wv ⟨vv, rfl, ownv, bv⟩
                have ownu2 := HU.out.1.below bv
                obtain ⟨gu, su, lu, _⟩ := ownu2.slv
                have cu := conv_slv gu 0 _ rb su wv lu
                obtain ⟨gv, sv, lv, _⟩ := ownv.slv
                have cv := conv_slv gv 0 _ rb sv wv lv
                obtain ⟨SS, hSS⟩ : ∃ S, S = strOfNums rb := ⟨_, rfl⟩
                rw [← hSS] at cu cv
                have HVV := Lib.hid (And.intro (((HN.out.1.to HK.out.2.2).to HU.out.2.1).to bv) (BC_trans (BC_trans HKB.out HU.out.2.1) bv))
                clear ownu2 su lu ownv sv lv hSS bv
                cases rs with
                | true =>
                  go_wp2_with fail
                  go_roundw
                  case rel => exact ⟨I1, ns, by have := HI.out; omega, rfl, HVV.out.1, HI.out.2.2.2.2.2.2.2.2.1, HVV.out.2⟩
                  case measure => have := HI.out; simp [intOf]; omega
                | false =>
                  go_wp2_with fail
                  go_roundw
                  case rel => exact ⟨I1, ns, by have := HI.out; omega, rfl, HVV.out.1, HI.out.2.2.2.2.2.2.2.2.1, HVV.out.2⟩
                  case measure => have := HI.out; simp [intOf]; omega
      · have hin : i = M := by omega
        have hge : ¬ (i : Int) < (M : Int) := by omega
        have hls0 : ls = [] := by rw [hls, List.take_of_length_le (by rw [← HD.out.2.2.1]; omega), HD.out.2.2.2.2.1, HV.out.2.2.2.2]; exact leftQ_all qs
        have hll : ls.length = 0 := by rw [hls0]; rfl
        rw [hll]
        have HZ := Lib.hid (BC_trans HD.out.2.2.2.2.2.2.1 hbr)
        clear hls rdl hbr hin hls0 hll hlt hi
        go_wp2_with fail
        go_ret
        exact ⟨rfl, HZ.out⟩

theorem own : ownKnob Try.prog.godebug = none := by kernel_rfl
theorem laidOut : laidOutB Try.prog = true := by kernel_rfl
set_option maxRecDepth 100000 in
theorem lifted (os : Os) (started : os.Started) (H : Type) (enc : TypeId × Value → H) :
    ReturnsInHanded {} Try.checked os 13 .any (Rows.gatherWholesSpec.pre6 enc Try.prog Try.f13 Rows.gatherWholesRow.domain false) (Rows.gatherWholesSpec.post enc Try.prog Try.f13 false true false false) := by
  refine returnsInHanded_of_change (C := Try.checked) own started (by kernel_rfl) Try.func13
    (ChangeSpec.witness6 (enc := enc) (C := Try.checked) false ⟨#[], #[.slice none 0 0], []⟩ 8 (by kernel_rfl) (by kernel_rfl) (by kernel_rfl) (by kernel_rfl)) ?_
  intro W base args ds gs before hval0 hW hcnd _
  have hval : ∀ (j : Nat) t v, Try.f13.params[j]? = some t → args[j]? = some v → Value.okWide Try.prog W .any base t v := hval0
  have hW' := hW
  obtain ⟨p, q, hA0, hV, rfl, hfz, hnd⟩ := hW
  have hA : DataW.TrodAll enc Try.prog W 0 (fun _ => true) true Try.f13.params.toList args.toList ds p := hA0
  rw [Try.params13] at hA hval
  obtain ⟨v0, vs0, d0, ds0, p0, q0, hargs, rfl, rfl, h0, r0⟩ := trodAll_cons hA
  obtain ⟨rfl, rfl, rfl⟩ := trodAll_nil r0
  obtain rfl : args = #[v0] := by cases args; simp_all
  obtain ⟨rfl, rfl⟩ := trodVars_none hV
  have k0 := h0
  have lt0 : ∀ x ∈ p0, x.block < W.heap.size := by obtain ⟨m, hm⟩ := k0; exact DataW.trod_lt m _ _ _ hm
  obtain ⟨ps0, hp0⟩ := open_parts (hval 0 56 v0 rfl rfl) h0
  clear hA0 hval0
  refine (walk v0 ps0 W hp0).mono fun e W' ⟨he, bel⟩ => ?_
  subst he
  exact ⟨_, rfl, _, _, _, [], _, [], hW', trodAll_mk1 (shut_bool Try.underlying4 _), (trodAll_cons_mk (Below.trod laidOut (by kernel_rfl) (of_decide_eq_true (by kernel_rfl)) k0 bel lt0) trodAll_mk0), rfl, bel.frame _, fun h => by cases h⟩
theorem over : Rows.gatherWholesRow.holds Try.pinned (OpenSpec.ofChange Rows.gatherWholesSpec) :=
  OpenClaim.holds_of_wide 13 Try.f13 rfl rfl rfl rfl rfl rfl rfl ⟨rfl, rfl, rfl, rfl, rfl⟩ rfl rfl rfl rfl rfl (by kernel_rfl) Try.func13 (by kernel_rfl)
    (of_decide_eq_true (by kernel_rfl)) (by unfold Func.isWrapper; first | (rw [if_pos (by decide +kernel)]; kernel_rfl) | (rw [if_neg (by decide +kernel)]; exact ⟨rfl, rfl⟩))
    (fun os started H enc _ => lifted os started H enc)
theorem proved : Rows.GatherWholesSaid := over
#print axioms proved
end Go.Proofs.Ytjnimbhecfpnmaa.gatherWholesDone
