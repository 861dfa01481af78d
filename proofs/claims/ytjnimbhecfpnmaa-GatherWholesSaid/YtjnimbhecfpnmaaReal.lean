/- Parts that come in; the walks of the law's small and real and of the reference's List. -/
import Derived.Test.YtjnimbhecfpnmaaFind
import Derived.Test.YtjnimbhecfpnmaaOpenP
import Derived.Test.YtjnimbhecfpnmaaSame18
import Derived.ChangeArms
import Derived.Deep.Cut
namespace Go.Proofs.Ytjnimbhecfpnmaa
set_option maxRecDepth 100000
open Go.ChangeShapes Go.WideShapes Go.ChangeAt Go.RowKit

theorem choose_list {α : Type} {p : Nat → α → Prop} : ∀ n, (∀ i, i < n → ∃ x, p i x) → ∃ l : List α, l.length = n ∧ ∀ i (h : i < l.length), p i l[i]
  | 0, _ => ⟨[], rfl, fun i h => by simp at h⟩
  | n + 1, h => by
    obtain ⟨l, hl, hp⟩ := choose_list n (fun i hi => h i (by omega))
    obtain ⟨x, hx⟩ := h n (by omega)
    refine ⟨l ++ [x], by simp [hl], fun i hi => ?_⟩
    by_cases e : i < l.length
    · rw [List.getElem_append_left e]; exact hp i e
    · have e2 : i = n := by simp at hi; omega
      subst e2
      rw [List.getElem_append_right (by omega)]
      simpa [hl] using hx
theorem open_parts {H : Type} {enc : TypeId × Value → H} {w : World} {b0 : Nat} {r : Reach} {v : Value} {d : DataW H} {p : List MemPlace}
    (hv : Value.okWide Try.prog w r b0 56 v) (h : DataW.Trod enc Try.prog w 0 (fun _ => true) true 56 v d p) : ∃ qs, RdP w.heap.size w v qs := by
  obtain ⟨a0, len0, cap0, rfl⟩ := okWide_slice Try.underlying56 hv
  obtain ⟨fuel, hf⟩ := h
  rcases DataW.trod_slice Try.underlying56 hf with ⟨hcs, _⟩ | ⟨a, len, cap, elems, rest, n, rfl, hcs, hx, _, hl, hm, hlen, hel, _, _⟩
  · simp [Value.cells] at hcs
    obtain ⟨rfl, rfl, rfl⟩ := hcs
    exact ⟨[], RdP.nil _ _⟩
  · simp [Value.cells] at hcs
    obtain ⟨rfl, rfl, rfl⟩ := hcs
    have hce : Try.prog.cellsOf 26 = 35 := by kernel_rfl
    have each : ∀ i, i < len0 → ∃ q : Pt × Value, (q.1.ok ∧ Held w.heap.size w q.2 q.1.da) ∧ ∀ j, j < 35 → w.cell? ((a.add (i * 35)).add j) = (qC q)[j]? := by
      intro i hi
      have hE := hel i hi
      obtain ⟨y, hy⟩ : ∃ y, elems[i]? = some y := ⟨_, List.getElem?_eq_getElem (by omega)⟩
      rw [hy, hce] at hE
      simp only [Option.bind_eq_some_iff] at hE
      obtain ⟨cs, hc, hy1⟩ := hE
      obtain ⟨wh, s, at', u, l, rfl, h32, hwb, hs, ha, b, o, h1, h2, h3⟩ := trod_part hy1
      refine ⟨(⟨wh, s, at', l⟩, u), ⟨⟨h32, hwb, h3, hs, ha⟩, Held.of_lies h1 h2⟩, fun j hj => ?_⟩
      unfold World.cells? at hc
      rw [if_pos (Nat.zero_le _)] at hc
      exact mapM_some_get hc j j (by simp [hj])
    obtain ⟨qs, hql, hq⟩ := choose_list len0 each
    obtain ⟨b, off, spot⟩ := a
    refine ⟨qs, fun q hqm => ?_, b, off, ?_⟩
    · obtain ⟨i, hi, rfl⟩ := List.getElem_of_mem hqm
      exact (hq i hi).1
    · by_cases h0 : 0 < qs.length
      · have hc0 := (hq 0 h0).2 0 (by decide)
        have h35 : (qC qs[0]).length = 35 := qC_len (hq 0 h0).1.1.1
        rw [List.getElem?_eq_getElem (by omega)] at hc0
        have hs : spot = none := by simpa [Addr.add] using World.cell?_spot hc0
        subst hs
        have h32 : ∀ q ∈ qs, q.1.wh.length = 32 := fun q hqm => by
          obtain ⟨i, hi, rfl⟩ := List.getElem_of_mem hqm
          exact (hq i hi).1.1.1
        refine ⟨⟨_, cap0, by rw [hql], by omega, hm, fun _ => rfl, fun h => by cases h⟩, fun x u hx => ?_, fun _ => ?_⟩
        · have hxl : x < qs.length * 35 := by have := (List.getElem?_eq_some_iff.1 hx).1; rwa [flatQ_len h32] at this
          have hi : x / 35 < qs.length := by omega
          have hj : x % 35 < 35 := Nat.mod_lt _ (by decide)
          have h := (hq (x / 35) hi).2 (x % 35) hj
          rw [Addr.add_mid, Addr.add_mid, Nat.add_assoc, show x / 35 * 35 + x % 35 = x by omega, ← flatQ_get h32 hi hj, show x / 35 * 35 + x % 35 = x by omega, hx] at h
          exact h
        · have h := hc0
          rw [Addr.add_mid, Addr.add_mid] at h
          exact block_lt_of_cell h
      · have hn : qs = [] := List.eq_nil_of_length_eq_zero (by omega)
        subst hn
        have : len0 = 0 := by simpa using hql.symm
        subst this
        exact ⟨⟨_, cap0, rfl, Nat.zero_le _, hm, fun h => by simp at h, fun h => by cases h⟩, fun j u hj => by simp [flatQ] at hj, fun h => by simp at h⟩
/-- at most 20 parts, of at most 300 bytes, of wholes of at most 3000 -/
def okP (p : Pt) : Bool := decide (p.da.length ≤ 300) && decide (p.sz ≤ 3000)
def smallB (ps : List Pt) : Bool := (ps.take 21).all okP && decide (ps.length ≤ 20)
theorem smallB_in {ps : List Pt} (h : smallB ps = true) : ps.length ≤ 20 ∧ ∀ p ∈ ps, p.da.length ≤ 300 ∧ p.sz ≤ 3000 := by
  unfold smallB at h
  rw [Bool.and_eq_true, decide_eq_true_eq] at h
  refine ⟨h.2, fun p hp => ?_⟩
  have := List.all_eq_true.1 h.1 p (by rw [List.take_of_length_le (by omega)]; exact hp)
  simpa [okP] using this
attribute [local irreducible] SlV Lies
attribute [local go_sem] takes takesE comesTo
set_option maxHeartbeats 4000000 in
theorem small_any (v : Value) (qs : List (Pt × Value)) (w : World) (hv : RdP w.heap.size w v qs) :
    Calls Try.prog 33 #[v] w fun e w' => e = .returned (.bool (smallB (qs.map (·.1)))) ∧ w' = w := by
  obtain ⟨hg, g, o, sv, rg, _⟩ := hv
  have hsv := sv
  obtain ⟨a, c, rfl, hc, hm, ha, _⟩ := by unfold SlV at hsv; exact hsv
  obtain ⟨n, hN⟩ : ∃ n, n = qs.length := ⟨_, rfl⟩
  rw [← hN] at hc ha ⊢
  have hnm : n ≤ maxLen := by omega
  have HV := Lib.hid (And.intro hg (And.intro rg (And.intro hN (And.intro ha hnm))))
  clear hg sv rg hN ha hc hm hsv hnm
  go_enter Try.func33, Try.ntmps33
  go_wp2_with fail
  go_loopw [3] (fun v3 wr => ∃ i : Nat, i ≤ 21 ∧ i ≤ n ∧ v3 = .int .i64 (i : Int) ∧ wr = w ∧ ∀ j (h : j < qs.length), j < i → okP (qs[j]).1 = true) (fun i _ => 22 - (intOf i).toNat)
  case atStart => exact ⟨0, by omega, Nat.zero_le _, rfl, rfl, fun j _ h => by omega⟩
  case round =>
    obtain ⟨i, hi, hin, rfl, hwr, hok⟩ := hrel
    subst hwr
    have HR := Lib.hid (And.intro hi (And.intro hin hok))
    clear hok hin
    by_cases hlt : i < n ∧ i < 21
    · obtain ⟨h1, h2⟩ := hlt
      have i0 : (0 : Int) ≤ (i : Int) := by omega
      have i1 : (i : Int) < (n : Int) := by omega
      have i2 : (i : Int) < 21 := by omega
      obtain ⟨I1, hI1⟩ : ∃ m, m = i + 1 := ⟨_, rfl⟩
      have s1 : IntKind.i64.wrap ((i : Int) + 1) = (I1 : Int) := by rw [IntKind.wrap_i64]; omega
      have hiq : i < qs.length := by rw [← HV.out.2.2.1]; exact h1
      obtain rfl := HV.out.2.2.2.1 (by omega)
      have hrg := range_get HV.out.2.1 HV.out.1.wh hiq
      have hgq := HV.out.1 _ (List.getElem_mem hiq)
      obtain ⟨q, hq⟩ : ∃ q, q = qs[i] := ⟨_, rfl⟩
      rw [← hq] at hrg hgq
      obtain ⟨p, u⟩ := q
      dsimp only at hgq
      obtain ⟨hpk, b, o2, su, _, _⟩ := hgq
      obtain ⟨pu, cu, rfl, _⟩ := by unfold SlV at su; exact su
      have k32 := pcells_size hpk.1 p.sz p.at' (.slice pu p.da.length cu)
      have k34 := pcells_data hpk.1 p.sz p.at' (.slice pu p.da.length cu)
      rw [List.getElem?_toArray] at k32 k34
      have c32 : wr.cell? ⟨g, o + i * 35 + 32, none⟩ = some (.int .i64 p.sz) := hrg 32 _ k32
      have c34 : wr.cell? ⟨g, o + i * 35 + 34, none⟩ = some (.slice pu p.da.length cu) := hrg 34 _ k34
      have HI := Lib.hid (And.intro hI1 (And.intro h1 (And.intro h2 (And.intro hq hiq))))
      obtain ⟨dl, hdl⟩ : ∃ d, d = p.da.length := ⟨_, rfl⟩
      obtain ⟨sz, hsz⟩ : ∃ d, d = p.sz := ⟨_, rfl⟩
      rw [← hsz] at c32
      rw [← hdl] at c34
      have HD := Lib.hid (And.intro hdl hsz)
      have hbad : ¬ (dl ≤ 300 ∧ sz ≤ 3000) → smallB (qs.map (·.1)) = false := fun h => by
        unfold smallB
        rw [Bool.and_eq_false_iff]
        left
        rw [List.all_eq_false]
        refine ⟨p, ?_, ?_⟩
        · refine List.mem_iff_getElem.2 ⟨i, by rw [List.length_take, List.length_map]; have := HI.out; omega, ?_⟩
          rw [List.getElem_take, List.getElem_map, ← HI.out.2.2.2.1]
        · intro h2
          unfold okP at h2
          rw [Bool.and_eq_true, decide_eq_true_eq, decide_eq_true_eq] at h2
          exact h (by rw [HD.out.1, HD.out.2]; exact h2)
      have HBD := Lib.hid hbad
      clear hI1 h1 h2 hq hrg hpk su k32 k34 hdl hsz hbad
      rcases Nat.lt_or_ge 300 dl with d1 | d1
      · have d1' : (300 : Int) < (dl : Int) := by omega
        have hF := HBD.out (by omega)
        have HF := Lib.hid hF
        clear hF d1
        go_wp2_with fail
        go_ret
        exact ⟨by rw [HF.out]; rfl, rfl⟩
      · have d1' : ¬ (300 : Int) < (dl : Int) := by omega
        rcases Int.lt_or_le 3000 sz with d2 | d2
        · have hF := HBD.out (by omega)
          have HF := Lib.hid hF
          clear hF d1
          go_wp2_with fail
          go_ret
          exact ⟨by rw [HF.out]; rfl, rfl⟩
        · have d2' : ¬ (3000 : Int) < sz := by omega
          have HX := Lib.hid (And.intro d1 d2)
          clear d1 d2
          go_wp2_with fail
          go_roundw
          case rel => exact ⟨I1, by have := HI.out; omega, by have := HI.out; omega, rfl, by simp, fun j h hj => by
            by_cases e : j = i
            · subst e
              rw [← HI.out.2.2.2.1]
              unfold okP
              rw [Bool.and_eq_true, decide_eq_true_eq, decide_eq_true_eq, ← HD.out.1, ← HD.out.2]
              exact HX.out
            · exact HR.out.2.2 j h (by have := HI.out; omega)⟩
          case measure => have := HI.out; simp [intOf]; omega
    · have hall : smallB (qs.map (·.1)) = decide (n ≤ 20) := by
        unfold smallB
        rw [List.length_map, ← HV.out.2.2.1]
        rcases Nat.lt_or_ge 20 n with h | h
        · rw [decide_eq_false (by omega), Bool.and_false]
        · rw [decide_eq_true h, Bool.and_true, List.all_eq_true]
          intro p hp
          obtain ⟨j, hj, rfl⟩ := List.getElem_of_mem (List.mem_of_mem_take hp)
          rw [List.length_map] at hj
          rw [List.getElem_map]
          exact HR.out.2.2 j hj (by have := HV.out.2.2.1; have := HR.out; omega)
      have HALL := Lib.hid hall
      clear hall
      rcases Nat.lt_or_ge 20 n with h | h
      · have h20 : ¬ (n : Int) ≤ 20 := by omega
        have hi21 : i = 21 := by have := HR.out; omega
        subst hi21
        have hx : ((21 : Nat) : Int) < (n : Int) ∨ ¬ ((21 : Nat) : Int) < (n : Int) := Classical.em _
        have HF := Lib.hid (show smallB (qs.map (·.1)) = false by rw [HALL.out]; exact decide_eq_false (by omega))
        clear hlt h
        rcases hx with hx | hx
        · have hx' : (21 : Int) < (n : Int) := by omega
          go_wp2_with fail
          go_ret
          exact ⟨by rw [HF.out]; rfl, rfl⟩
        · have hx' : ¬ (21 : Int) < (n : Int) := by omega
          go_wp2_with fail
          go_ret
          exact ⟨by rw [HF.out]; rfl, rfl⟩
      · have h20 : (n : Int) ≤ 20 := by omega
        have hge : ¬ (i : Int) < (n : Int) := by omega
        have HF := Lib.hid (show smallB (qs.map (·.1)) = true by rw [HALL.out]; exact decide_eq_true h)
        clear hlt h
        go_wp2_with fail
        go_ret
        exact ⟨by rw [HF.out]; rfl, rfl⟩
set_option maxHeartbeats 4000000 in
theorem real_any (v : Value) (qs : List (Pt × Value)) (w : World) (hv : RdP w.heap.size w v qs) (hn : qs.length ≤ 100000) :
    Calls Try.prog 36 #[v] w fun e w' => ∃ v', e = .returned v' ∧ RdP w'.heap.size w' v' qs ∧ Below w.heap.size w w' := by
  have hv0 := hv
  obtain ⟨hg, g, o, sv, rg, _⟩ := hv
  obtain ⟨a, c, rfl, hc, hm, ha, _⟩ := by unfold SlV at sv; exact sv
  obtain ⟨n, hN⟩ : ∃ n, n = qs.length := ⟨_, rfl⟩
  rw [← hN] at ha ⊢
  have HV := Lib.hid (And.intro hg (And.intro rg (And.intro hN (And.intro ha hn))))
  clear hg sv rg hN ha hc hm hn hv0
  go_enter Try.func36, Try.ntmps36
  go_wp2_with fail
  go_loopw [3, 4] (fun v3 v4 wr => ∃ i : Nat, i ≤ n ∧ v4 = .int .i64 (i : Int) ∧ OwnR w.heap.size wr v3 (qs.take i) ∧ Below w.heap.size w wr) (fun _ i _ => n - (intOf i).toNat)
  case atStart => exact ⟨0, Nat.zero_le _, rfl, OwnR.nil _ _, Below.refl _ _⟩
  case round =>
    obtain ⟨i, hi, rfl, hown, hbr⟩ := hrel
    have HR := Lib.hid (And.intro hown hbr)
    clear hown hbr
    by_cases hlt : i < n
    · have i0 : (0 : Int) ≤ (i : Int) := by omega
      have i1 : (i : Int) < (n : Int) := by omega
      obtain ⟨I1, hI1⟩ : ∃ m, m = i + 1 := ⟨_, rfl⟩
      have hn2 := HV.out.2.2
      have s1 : IntKind.i64.wrap ((i : Int) + 1) = (I1 : Int) := by rw [IntKind.wrap_i64]; omega
      have hiq : i < qs.length := by rw [← HV.out.2.2.1]; exact hlt
      obtain rfl := HV.out.2.2.2.1 (by omega)
      have hrg := range_get HV.out.2.1 HV.out.1.wh hiq
      have hqm := List.getElem_mem hiq
      have htk : qs.take (i + 1) = qs.take i ++ [qs[i]] := List.take_succ_eq_append_getElem hiq
      obtain ⟨q, hq⟩ : ∃ q, q = qs[i] := ⟨_, rfl⟩
      rw [← hq] at hrg hqm htk
      obtain ⟨C, hC⟩ : ∃ C, C = (qC q).toArray := ⟨_, rfl⟩
      have hsz : C.size = 35 := by rw [hC]; exact qC_size (HV.out.1.wh q hqm)
      have hrg2 : wr.rangeAt g (o + i * 35) C.toList := fun j u hj => (HR.out.2.cell (block_lt_of_cell (hrg j u (by rw [hC] at hj; exact hj)))).trans (hrg j u (by rw [hC] at hj; exact hj))
      have HI := Lib.hid (And.intro hI1 (And.intro hlt (And.intro hqm (And.intro htk (And.intro hC (And.intro hsz hrg2))))))
      obtain ⟨W3, hW3⟩ : ∃ W, W = wr.alloc (.cells C 33) := ⟨_, rfl⟩
      have n3 := heap_alloc_new wr (.cells C 33)
      have b3 := below1 wr (.cells C 33)
      rw [← hW3] at n3 b3
      have H3 := Lib.hid (And.intro n3 (And.intro b3 hW3))
      have hr3 : W3.rangeAt wr.heap.size 0 (qC q) := fun j u hj => by
        rw [Nat.zero_add]
        refine cell_row H3.out.1 j ?_
        rw [HI.out.2.2.2.2.1, List.getElem?_toArray]
        exact hj
      have HO3 := Lib.hid (And.intro (HR.out.1.below H3.out.2.1) (And.intro hr3 (And.intro (HV.out.1.wh q HI.out.2.2.1) (HV.out.1 q HI.out.2.2.1).2.one)))
      clear hI1 hlt hqm htk hC hsz hrg hrg2 n3 b3 hW3 hn2 hq hiq hr3
      go_wp2_with (first
        | ((with_reducible refine wlw_load_mid (o := ⟨some 15, _, _, _, _, _⟩) ?_ 26 (.tmp 14) ?_ _ _ ?_ C _ HI.out.2.2.2.2.2.2 Try.underlying26 ?_ ?_ ?_); (focus rfl); (focus rfl); (focus rfl); (focus rfl); (focus (rw [HI.out.2.2.2.2.2.1]; kernel_rfl)))
        | ((with_reducible refine wl_build1R (o := ⟨some 16, _, _, _, _, _⟩) ?_ (.tmp 15) ?_ C ?_ HI.out.2.2.2.2.2.1 ?_); (focus rfl); (focus rfl); (focus rfl); rw [← H3.out.2.2])
        | ((with_reducible refine wl_append1R (o := ⟨some 17, _, _, _, _, _⟩) ?_ (.tmp 11) (.tmp 16) ?_ w.heap.size _ (qs.take i) ?_ HO3.out.1 wr.heap.size 0 1 ?_ q HO3.out.2.1 HO3.out.2.2.1 HO3.out.2.2.2 ?_ ?_ ?_); (focus rfl); (focus rfl); (focus rfl); (focus rfl); (focus (rw [List.length_take]; have := HV.out.2.2; omega)); (focus (exact Nat.le_trans HR.out.2.size H3.out.2.1.size)); intro v5 w5 own5 b5))
      have own6 : OwnR w.heap.size w5 v5 (qs.take (i + 1)) := by rw [HI.out.2.2.2.1]; exact own5
      have b6 : Below w.heap.size w w5 := (BC_below HR.out.2 HR.out.2.size H3.out.2.1).trans b5
      have HO := Lib.hid (And.intro own6 b6)
      clear own5 own6 b5 b6
      go_wp2_with fail
      go_roundw
      case rel => exact ⟨I1, by have := HI.out; omega, rfl, by rw [HI.out.1]; exact HO.out.1, HO.out.2⟩
      case measure => have := HI.out; simp [intOf]; omega
    · have hin : i = n := by omega
      have hge : ¬ (i : Int) < (n : Int) := by omega
      have HF := Lib.hid hin
      clear hin hlt
      go_wp2_with fail
      go_ret
      have h := HR.out.1
      rw [HF.out, HV.out.2.2.1, List.take_length] at h
      exact ⟨_, rfl, h.rd (HV.out.1.to HR.out.2), HR.out.2⟩
attribute [local irreducible] headG
set_option maxHeartbeats 4000000 in
theorem list_any (v1 v2 : Value) (qs rs : List (Pt × Value)) (w : World) (h1 : RdP w.heap.size w v1 qs) (h2 : RdP w.heap.size w v2 rs) (hn : qs.length ≤ 100000) (he : qs.map (·.1) = rs.map (·.1)) :
    Calls Try.prog 35 #[v1, v2] w fun e w' => e = .returned (.bool true) ∧ Below w.heap.size w w' := by
  obtain ⟨hg, g, o, sv, rg, _⟩ := h1
  obtain ⟨hg2, g2, o2, sv2, rg2, _⟩ := h2
  obtain ⟨a, c, rfl, _, _, ha, _⟩ := by unfold SlV at sv; exact sv
  obtain ⟨a2, c2, rfl, _, _, ha2, _⟩ := by unfold SlV at sv2; exact sv2
  obtain ⟨n, hN⟩ : ∃ n, n = qs.length := ⟨_, rfl⟩
  have hN2 : n = rs.length := by have := congrArg List.length he; simp at this; omega
  rw [← hN] at ha ⊢
  rw [← hN2] at ha2 ⊢
  have HV := Lib.hid (And.intro hg (And.intro rg (And.intro hN (And.intro ha hn))))
  have HU := Lib.hid (And.intro hg2 (And.intro rg2 (And.intro hN2 (And.intro ha2 he))))
  clear hg sv rg hN ha hn hg2 sv2 rg2 hN2 ha2 he
  go_enter Try.func35, Try.ntmps35
  go_wp2_with fail
  go_loopw [5] (fun v5 wr => ∃ i : Nat, i ≤ n ∧ v5 = .int .i64 (i : Int) ∧ Below w.heap.size w wr) (fun i _ => n - (intOf i).toNat)
  case atStart => exact ⟨0, Nat.zero_le _, rfl, Below.refl _ _⟩
  case round =>
    obtain ⟨i, hi, rfl, hbr⟩ := hrel
    have HR := Lib.hid hbr
    clear hbr
    by_cases hlt : i < n
    · have i0 : (0 : Int) ≤ (i : Int) := by omega
      have i1 : (i : Int) < (n : Int) := by omega
      have i2 : i < n := hlt
      obtain ⟨I1, hI1⟩ : ∃ m, m = i + 1 := ⟨_, rfl⟩
      have hn2 := HV.out.2.2
      have s1 : IntKind.i64.wrap ((i : Int) + 1) = (I1 : Int) := by rw [IntKind.wrap_i64]; omega
      have hiq : i < qs.length := by rw [← HV.out.2.2.1]; exact hlt
      have hir : i < rs.length := by rw [← HU.out.2.2.1]; exact hlt
      obtain rfl := HV.out.2.2.2.1 (by omega)
      obtain rfl := HU.out.2.2.2.1 (by omega)
      have hrg := range_get HV.out.2.1 HV.out.1.wh hiq
      have hrg2 := range_get HU.out.2.1 HU.out.1.wh hir
      have gq := HV.out.1 _ (List.getElem_mem hiq)
      have gr := HU.out.1 _ (List.getElem_mem hir)
      have hpe : (qs[i]).1 = (rs[i]).1 := by
        have h := congrArg (fun l => l[i]?) HU.out.2.2.2.2
        simp only [List.getElem?_map, List.getElem?_eq_getElem hiq, List.getElem?_eq_getElem hir, Option.map_some] at h
        injection h
      obtain ⟨q, hq⟩ : ∃ q, q = qs[i] := ⟨_, rfl⟩
      obtain ⟨r, hr⟩ : ∃ q, q = rs[i] := ⟨_, rfl⟩
      rw [← hq] at hrg gq hpe
      rw [← hr] at hrg2 gr hpe
      obtain ⟨p, u⟩ := q
      obtain ⟨p', u'⟩ := r
      dsimp only at hpe gq gr
      subst hpe
      obtain ⟨hok, b, ob, su, lu, _⟩ := gq
      obtain ⟨_, b', ob', su', lu', _⟩ := gr
      obtain ⟨C, hC⟩ : ∃ C, C = (qC (p, u)).toArray := ⟨_, rfl⟩
      obtain ⟨C2, hC2⟩ : ∃ C, C = (qC (p, u')).toArray := ⟨_, rfl⟩
      have hz1 : C.size = 35 := by rw [hC]; exact qC_size hok.1
      have hz2 : C2.size = 35 := by rw [hC2]; exact qC_size hok.1
      have HRA : Hid (∀ x : HW (BC wr), x.w.rangeAt g (o + i * 35) C.toList) := Lib.hid fun x j y hj => ((BC_below HR.out HR.out.size x.h).cell (block_lt_of_cell (hrg j y (by rw [hC] at hj; exact hj)))).trans (hrg j y (by rw [hC] at hj; exact hj))
      have HRB : Hid (∀ x : HW (BC wr), x.w.rangeAt g2 (o2 + i * 35) C2.toList) := Lib.hid fun x j y hj => ((BC_below HR.out HR.out.size x.h).cell (block_lt_of_cell (hrg2 j y (by rw [hC2] at hj; exact hj)))).trans (hrg2 j y (by rw [hC2] at hj; exact hj))
      have HSM : Hid (∀ x : HW (BC wr), Calls Try.prog 21 #[.agg C, .agg C2] x.w fun e w' => e = .returned (.bool true) ∧ Below x.w.heap.size x.w w') := Lib.hid fun x => by
        have hbx := BC_below HR.out HR.out.size x.h
        have h := rsame_any p.wh p.wh hok.1 hok.1 p.sz p.at' p.sz p.at' u u' b ob b' ob' p.da p.da hok.2.2.1 hok.2.2.1 su su' x.w (lu.below' hbx) (lu'.below' hbx)
        rw [show samePB p.wh p.wh p.sz p.sz p.at' p.at' p.da p.da = true from decide_eq_true ⟨rfl, rfl, rfl, rfl⟩] at h
        rw [hC, hC2]
        exact h
      have HSZ := Lib.hid (And.intro hz1 hz2)
      have HI := Lib.hid (And.intro hI1 hlt)
      clear hI1 hlt hrg hrg2 hok su lu su' lu' hC hC2 hz1 hz2 hq hr hn2
      go_upto_region 6 with fail
      have hS := BC_all (w := wr)
      haveI := BC_inst wr
      refine wp_region_head (BC wr) 10 (by kernel_rfl) (by kernel_rfl) (BC_start _) ?_
      simp only [List.take_succ_cons, List.take_zero, List.drop_succ_cons, List.drop_zero]
      repeat (first
        | ((with_reducible refine headG_load_mid (o := ⟨some 20, _, _, _, _, _⟩) 33 (.tmp 19) ?_ ?_ _ _ ?_ C _ HRA.out Try.underlying33 ?_ ?_ ?_); (focus rfl); (focus rfl); (focus rfl); (focus rfl); (focus (rw [HSZ.out.1]; kernel_rfl)))
        | ((with_reducible refine headG_load_mid (o := ⟨some 24, _, _, _, _, _⟩) 33 (.tmp 23) ?_ ?_ _ _ ?_ C2 _ HRB.out Try.underlying33 ?_ ?_ ?_); (focus rfl); (focus rfl); (focus rfl); (focus rfl); (focus (rw [HSZ.out.2]; kernel_rfl)))
        | (refine headG_step (fun K hK => ?_)
           go_simp
           first
             | (refine hK _ ?_; clear hK K)
             | (apply Exists.intro
                refine ⟨fun x => ?_, hK _ ?_⟩
                (go_at_call 21; exact BC_call x (HSM.out x))
                clear hK K)))
      refine headG_nil ?_
      intro w4 b4
      have H4 := Lib.hid (BC_below HR.out HR.out.size b4)
      clear hS b4
      go_wp2_with fail
      go_roundw
      case rel => exact ⟨I1, by have := HI.out; omega, rfl, H4.out⟩
      case measure => have := HI.out; simp [intOf]; omega
    · have hge : ¬ (i : Int) < (n : Int) := by omega
      clear hlt
      go_wp2_with fail
      go_ret
      exact ⟨rfl, HR.out⟩
end Go.Proofs.Ytjnimbhecfpnmaa
