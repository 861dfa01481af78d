/- The walks of gather.Add's closures, and of slices.IndexFunc, ContainsFunc and Clone at parts. -/
import Derived.Test.YtjnimbhecfpnmaaRowP
import Derived.Test.YtjnimbhecfpnmaaCmp2
import Derived.Test.YtjnimbhecfpnmaaGuard
namespace Go.Proofs.Ytjnimbhecfpnmaa
set_option maxRecDepth 100000
open Go.ChangeShapes Go.WideShapes Go.ChangeAt Go.RowKit

/-- how two parts stand -/
def cmpPt (p q : Pt) : Int := cmpP p.wh q.wh p.sz q.sz p.at' q.at' p.da q.da
attribute [local go_sem] takes comesTo
theorem qC_size {q : Pt × Value} (h : q.1.wh.length = 32) : (qC q).toArray.size = 35 := by simpa using qC_len h
theorem cmpQ_any {base base2 : Nat} (p q : Pt × Value) (hp : p.1.ok) (hq : q.1.ok) (w : World) (kp : Held base w p.2 p.1.da) (kq : Held base2 w q.2 q.1.da) :
    Calls Try.prog 56 #[.agg (qC p).toArray, .agg (qC q).toArray] w fun e w' => e = .returned (.int .i64 (cmpPt p.1 q.1)) ∧ Below w.heap.size w w' := by
  obtain ⟨b, o, h1, h2, _⟩ := kp
  obtain ⟨b2, o2, h3, h4, _⟩ := kq
  exact compare_any p.1.wh q.1.wh hp.1 hq.1 hp.2.1 hq.2.1 _ _ _ _ _ _ b o b2 o2 _ _ hp.2.2.1 hq.2.2.1 h1 h3 w h2 h4
theorem same_any (p q : Pt × Value) (hp : p.1.ok) (hq : q.1.ok) (B : Nat) (w : World) (hB : w.heap[B]? = some (.cells (qC p).toArray 26 (0, 0))) {base base2 : Nat} (kp : Held base w p.2 p.1.da) (kq : Held base2 w q.2 q.1.da) (hb2 : base2 ≤ w.heap.size) (hb : base ≤ w.heap.size) :
    Calls Try.prog 55 #[.agg (qC q).toArray, .pointer (some ⟨B, 0, none⟩)] w fun e w' => e = .returned (.bool (cmpPt p.1 q.1 == 0)) ∧ Below w.heap.size w w' := by
  have H := Lib.hid fun W (hW : Below w.heap.size w W) => cmpQ_any p q hp hq W ((kp.mono hb).below hW) ((kq.mono hb2).below hW)
  have HS := Lib.hid (And.intro (qC_size hp.1) (qC_size hq.1))
  clear kp kq hp hq hb hb2
  generalize (qC p).toArray = C at *
  generalize (qC q).toArray = C2 at *
  generalize cmpPt p.1 q.1 = r at *
  have hq2 := heap_alloc_new w (.cells C2 26)
  have hb2 := below1 w (.cells C2 26)
  have HB := Lib.hid (And.intro ((hb2.block _ (blk_lt hB)).trans hB) (And.intro hq2 hb2))
  clear hB hq2 hb2
  go_enter Try.func55, Try.ntmps55
  go_wp2_with (first
    | ((with_reducible refine wlw_load_row (o := ⟨some 4, _, _, _, _, _⟩) ?_ 26 (.tmp 1) ?_ _ ?_ _ C _ _ HB.out.1 Try.underlying26 ?_ ?_ ?_); (focus rfl); (focus rfl); (focus rfl); (focus rfl); (focus (rw [HS.out.1]; kernel_rfl)))
    | ((with_reducible refine wlw_load_row (o := ⟨some 5, _, _, _, _, _⟩) ?_ 26 (.tmp 2) ?_ _ ?_ _ C2 _ _ HB.out.2.1 Try.underlying26 ?_ ?_ ?_); (focus rfl); (focus rfl); (focus rfl); (focus rfl); (focus (rw [HS.out.2]; kernel_rfl))))
  refine (H.out _ HB.out.2.2).mono ?_
  rintro e w3 ⟨rfl, b3⟩
  have HF := Lib.hid (BC_below HB.out.2.2 HB.out.2.2.size b3)
  clear b3
  go_wp2_with fail
  go_ret
  exact ⟨rfl, HF.out⟩
theorem over_any (p q : Pt × Value) (hp : p.1.ok) (hq : q.1.ok) (B : Nat) (w : World) (hB : w.heap[B]? = some (.cells (qC p).toArray 26 (0, 0))) {base base2 : Nat} (kp : Held base w p.2 p.1.da) (kq : Held base2 w q.2 q.1.da) (hb2 : base2 ≤ w.heap.size) (hb : base ≤ w.heap.size) :
    Calls Try.prog 60 #[.agg (qC q).toArray, .pointer (some ⟨B, 0, none⟩)] w fun e w' => e = .returned (.bool (decide (0 < cmpPt q.1 p.1))) ∧ Below w.heap.size w w' := by
  have H := Lib.hid fun W (hW : Below w.heap.size w W) => cmpQ_any q p hq hp W ((kq.mono hb2).below hW) ((kp.mono hb).below hW)
  have HS := Lib.hid (And.intro (qC_size hp.1) (qC_size hq.1))
  clear kp kq hp hq hb hb2
  generalize (qC p).toArray = C at *
  generalize (qC q).toArray = C2 at *
  generalize cmpPt q.1 p.1 = r at *
  have hq2 := heap_alloc_new w (.cells C2 26)
  have hb2 := below1 w (.cells C2 26)
  have HB := Lib.hid (And.intro ((hb2.block _ (blk_lt hB)).trans hB) (And.intro hq2 hb2))
  clear hB hq2 hb2
  go_enter Try.func60, Try.ntmps60
  go_wp2_with (first
    | ((with_reducible refine wlw_load_row (o := ⟨some 5, _, _, _, _, _⟩) ?_ 26 (.tmp 1) ?_ _ ?_ _ C _ _ HB.out.1 Try.underlying26 ?_ ?_ ?_); (focus rfl); (focus rfl); (focus rfl); (focus rfl); (focus (rw [HS.out.1]; kernel_rfl)))
    | ((with_reducible refine wlw_load_row (o := ⟨some 4, _, _, _, _, _⟩) ?_ 26 (.tmp 2) ?_ _ ?_ _ C2 _ _ HB.out.2.1 Try.underlying26 ?_ ?_ ?_); (focus rfl); (focus rfl); (focus rfl); (focus rfl); (focus (rw [HS.out.2]; kernel_rfl))))
  refine (H.out _ HB.out.2.2).mono ?_
  rintro e w3 ⟨rfl, b3⟩
  have HF := Lib.hid (BC_below HB.out.2.2 HB.out.2.2.size b3)
  clear b3
  go_wp2_with fail
  go_ret
  exact ⟨rfl, HF.out⟩
/-- the first place where pr holds, or -1 -/
def posF (pr : Pt → Bool) (ps : List Pt) : Int := if ps.any pr then (ps.findIdx pr : Int) else -1
theorem posF_hit (pr : Pt → Bool) : ∀ (ps : List Pt) (k : Nat) (hk : k < ps.length), pr ps[k] = true → (∀ j (hj : j < ps.length), j < k → pr ps[j] = false) → posF pr ps = (k : Int) := by
  intro ps k hk h1 h2
  have ha : ps.any pr = true := List.any_eq_true.2 ⟨_, List.getElem_mem hk, h1⟩
  unfold posF
  rw [if_pos ha, (List.findIdx_eq hk).2 ⟨h1, fun j hj => h2 j (by omega) hj⟩]
theorem posF_miss (pr : Pt → Bool) (ps : List Pt) (h : ∀ j (hj : j < ps.length), pr ps[j] = false) : posF pr ps = -1 := by
  unfold posF
  rw [if_neg]
  rw [List.any_eq_true]
  rintro ⟨x, hx, hp⟩
  obtain ⟨j, hj, rfl⟩ := List.getElem_of_mem hx
  rw [h j hj] at hp
  cases hp
set_option maxHeartbeats 1000000 in
theorem index_any (f B : Nat) (hf : ∀ args w, (callFunc f args).run Try.prog w = .ok (.enter f args) w) (pr : Pt → Bool) (v : Value) (qs : List (Pt × Value)) (w : World) (hv : RdP w.heap.size w v qs) (hn : qs.length ≤ 1000000)
    (hp : ∀ W, Below w.heap.size w W → ∀ q ∈ qs, Calls Try.prog f #[.agg (qC q).toArray, .pointer (some ⟨B, 0, none⟩)] W fun e w' => e = .returned (.bool (pr q.1)) ∧ Below W.heap.size W w') :
    Calls Try.prog 59 #[v, .func (.func f) #[] #[.pointer (some ⟨B, 0, none⟩)]] w fun e w' => e = .returned (.int .i64 (posF pr (qs.map (·.1)))) ∧ Below w.heap.size w w' := by
  obtain ⟨hg, g, o, hs, hr, hlt⟩ := hv
  obtain ⟨a, c, rfl, hcap, hmax, ha, _⟩ := hs
  obtain ⟨n, hN⟩ : ∃ n, n = qs.length := ⟨_, rfl⟩
  rw [← hN]
  have HC := Lib.hid (And.intro hg (And.intro hr (And.intro hN (And.intro hn (And.intro hp ha)))))
  clear hg hr hN hn hp hcap hmax hlt
  go_enter Try.func59, Try.ntmps59
  go_wp2_with fail
  go_loopw [5, 8] (fun v5 i wr => ∃ k : Nat, k ≤ n ∧ i = .int .i64 (k : Int) ∧ Below w.heap.size w wr ∧ (∀ j (hj : j < qs.length), j < k → pr (qs[j]).1 = false)) (fun _ i _ => n - (intOf i).toNat)
  case atStart => exact ⟨0, Nat.zero_le _, rfl, Below.refl _ _, fun j hj h => by omega⟩
  case round =>
    obtain ⟨k, hk, rfl, hb, hz⟩ := hrel
    have HZ := Lib.hid (And.intro hb hz)
    clear hz hb
    by_cases hlt : k < n
    · have hkl : k < qs.length := by have := HC.out.2.2.1; omega
      have i0 : (0 : Int) ≤ (k : Int) := by omega
      have i1 : (k : Int) < (n : Int) := by omega
      obtain ⟨K1, hK1⟩ : ∃ m, m = k + 1 := ⟨_, rfl⟩
      have s1 : IntKind.i64.wrap ((k : Int) + 1) = (K1 : Int) := by rw [IntKind.wrap_i64]; have := HC.out.2.2; omega
      have HK1 := Lib.hid hK1
      clear hK1
      obtain rfl := HC.out.2.2.2.2.2 (by omega)
      obtain ⟨q, hq⟩ : ∃ q, q = qs[k] := ⟨_, rfl⟩
      have hqm : q ∈ qs := by rw [hq]; exact List.getElem_mem hkl
      have hrg := range_get HC.out.2.1 HC.out.1.wh hkl
      rw [← hq] at hrg
      have HRG : Hid (wr.rangeAt g (o + k * 35) (qC q).toArray.toList) := Lib.hid (fun j u hj => (HZ.out.1.cell (block_lt_of_cell (hrg j u hj))).trans (hrg j u hj))
      have HCALL := Lib.hid (HC.out.2.2.2.2.1 wr HZ.out.1 q hqm)
      have HSZ := Lib.hid (qC_size (HC.out.1 q hqm).1.1)
      have HQ := Lib.hid hq
      clear hq hqm hrg
      generalize (qC q).toArray = C at *
      obtain ⟨x, hx⟩ : ∃ x, x = pr q.1 := ⟨_, rfl⟩
      rw [← hx] at HCALL
      have HX := Lib.hid hx
      clear hx
      cases x with
      | true =>
        go_wp2_with ((with_reducible refine wlw_load_mid (o := ⟨some 15, _, _, _, _, _⟩) ?_ 26 (.tmp 14) ?_ _ _ ?_ C _ HRG.out Try.underlying26 ?_ ?_ ?_); (focus rfl); (focus rfl); (focus rfl); (focus rfl); (focus (rw [HSZ.out]; kernel_rfl)))
        refine HCALL.out.mono ?_
        rintro e w3 ⟨rfl, b3⟩
        have HB3 := Lib.hid (BC_below HZ.out.1 HZ.out.1.size b3)
        clear b3
        go_wp2_with fail
        go_ret
        refine ⟨?_, HB3.out⟩
        rw [posF_hit pr (qs.map (·.1)) k (by simpa using hkl) (by rw [List.getElem_map, ← HQ.out]; exact HX.out.symm) (fun j hj hjk => by rw [List.getElem_map]; exact HZ.out.2 j (by simpa using hj) hjk)]
        rfl
      | false =>
        go_wp2_with ((with_reducible refine wlw_load_mid (o := ⟨some 15, _, _, _, _, _⟩) ?_ 26 (.tmp 14) ?_ _ _ ?_ C _ HRG.out Try.underlying26 ?_ ?_ ?_); (focus rfl); (focus rfl); (focus rfl); (focus rfl); (focus (rw [HSZ.out]; kernel_rfl)))
        refine HCALL.out.mono ?_
        rintro e w3 ⟨rfl, b3⟩
        have HB3 := Lib.hid (BC_below HZ.out.1 HZ.out.1.size b3)
        clear b3
        go_wp2_with fail
        go_roundw
        case rel => exact ⟨K1, by have := HK1.out; omega, rfl, HB3.out, fun j hj hjk => by
          have := HK1.out
          by_cases h : j = k
          · subst h
            rw [← HQ.out]; exact HX.out.symm
          · exact HZ.out.2 j hj (by omega)⟩
        case measure => have := HK1.out; simp [intOf]; omega
    · have hge : ¬ (k : Int) < (n : Int) := by omega
      have hor : posF pr (qs.map (·.1)) = -1 := posF_miss _ _ fun j hj => by
        rw [List.getElem_map]
        exact HZ.out.2 j (by simpa using hj) (by have := HC.out.2.2.1; simp at hj; omega)
      have HO := Lib.hid hor
      clear hor
      go_wp2_with fail
      go_ret
      exact ⟨by rw [HO.out]; rfl, HZ.out.1⟩
theorem contains_any (f B : Nat) (hf : ∀ args w, (callFunc f args).run Try.prog w = .ok (.enter f args) w) (pr : Pt → Bool) (v : Value) (qs : List (Pt × Value)) (w : World) (hv : RdP w.heap.size w v qs) (hn : qs.length ≤ 1000000)
    (hp : ∀ W, Below w.heap.size w W → ∀ q ∈ qs, Calls Try.prog f #[.agg (qC q).toArray, .pointer (some ⟨B, 0, none⟩)] W fun e w' => e = .returned (.bool (pr q.1)) ∧ Below W.heap.size W w') :
    Calls Try.prog 58 #[v, .func (.func f) #[] #[.pointer (some ⟨B, 0, none⟩)]] w fun e w' => e = .returned (.bool ((qs.map (·.1)).any pr)) ∧ Below w.heap.size w w' := by
  have H := Lib.hid (index_any f B hf pr v qs w hv hn hp)
  have hr : ((qs.map (·.1)).any pr) = decide (0 ≤ posF pr (qs.map (·.1))) := by
    unfold posF
    cases h : (qs.map (·.1)).any pr
    · rw [if_neg (by simp)]; rfl
    · rw [if_pos rfl]; simp
  rw [hr]
  generalize posF pr (qs.map (·.1)) = r at *
  clear hr hp hv hn
  go_enter Try.func58, Try.ntmps58
  go_wp2_with fail
  refine H.out.mono ?_
  rintro e w3 ⟨rfl, b3⟩
  have HB := Lib.hid b3
  clear b3
  go_wp2_with fail
  go_ret
  exact ⟨rfl, HB.out⟩
/-- slices.Clone of parts -/
theorem pclone_any (v : Value) (qs : List (Pt × Value)) (w : World) (hv : RdP w.heap.size w v qs) (hn : qs.length ≤ 1000000) :
    Calls Try.prog 57 #[v] w fun e w' => ∃ v', e = .returned v' ∧ OwnP w.heap.size w' v' qs ∧ Below w.heap.size w w' := by
  have HV := Lib.hid hv
  have HN := Lib.hid hn
  obtain ⟨hg, g, o, hs, hr, hlt⟩ := hv
  have HS := Lib.hid (And.intro hg (And.intro hs hr))
  obtain ⟨a, c, rfl, hcap, hmax, ha, hc0⟩ := hs
  have q22 : ∀ (w : World) (a : Option Addr) (n c n' c' : Nat), (binOp .eql 56 (.slice a n c) (.slice none n' c')).run Try.prog w = .ok (.bool a.isNone) w := fun w a n c n' c' => Lib.run_eql_slice_nil w _ _ a n c n' c' Try.underlying56
  obtain ⟨n, hN⟩ : ∃ n, n = qs.length := ⟨_, rfl⟩
  rw [← hN] at HS HV ⊢
  have HNN := Lib.hid hN
  cases a with
  | none =>
    have h0 : qs = [] := by
      obtain rfl := hc0 rfl
      exact List.eq_nil_of_length_eq_zero (by omega)
    clear hg hr hlt hN hn hcap hmax ha
    go_enter Try.func57, Try.ntmps57
    go_wp2_with fail
    go_ret
    subst h0
    exact ⟨_, rfl, OwnP.nil _ _, Below.refl _ _⟩
  | some ad =>
    have HZ := Lib.hid (And.intro (OwnP.zero w w.heap.size (Nat.le_refl _)) (below1 w (.cells #[] 26)))
    clear hg hr hlt hN hn hcap hmax ha hc0
    go_enter Try.func57, Try.ntmps57
    go_wp2_with (at_builtin; refine wl_append_P rfl _ _ rfl w.heap.size _ _ rfl HZ.out.1 _ rfl g o qs (by rw [← HNN.out]; exact HS.out.2.1) (fun j u hj => later HZ.out.2 (HS.out.2.2 j u hj)) HS.out.1.wh HS.out.1.one (by have := HN.out; simp; omega) HZ.out.2.size ?_; intro v3 w3 own3 b3)
    have HB := Lib.hid (And.intro own3 (HZ.out.2.trans b3))
    clear own3 b3
    go_ret
    exact ⟨_, rfl, by simpa using HB.out.1, HB.out.2⟩
end Go.Proofs.Ytjnimbhecfpnmaa
