/- Slices of byte slices that came in, slices.Clone of bytes, slices.IndexFunc over them with view.Tree's function; what is shown, as the document has it. -/
import Derived.Test.YtagdlbadkmgdmaaDoorFits
import Derived.Test.YtagdlbadkmgdmaaDoorVec2
import Derived.Test.YtagdlbadkmgdmaaDoorGrow
import Derived.Test.YtagdlbadkmgdmaaDoorGuard
import Derived.Laws.BytesArg
import Derived.ChangeArms
import Derived.Deep.Cut
namespace Go.Proofs.YtagdlbadkmgdmaaDoor
set_option maxRecDepth 100000
open Go.ChangeShapes Go.WideShapes Go.ChangeAt Go.RowKit

abbrev Bl := List Int × Value
def blR (bs : List Bl) : Rows' := bs.map fun p => [p.2]
theorem blR_n (bs : List Bl) : ∀ r ∈ blR bs, r.length = 1 := fun r hr => by
  obtain ⟨d, _, rfl⟩ := List.mem_map.1 hr
  rfl
def GoodB (w : World) (bs : List Bl) : Prop := ∀ p ∈ bs, p.1.length ≤ 1000000 ∧ Bytes p.1 ∧ ∃ b o, SlV p.2 b o p.1.length ∧ Lies w b o p.1
theorem GoodB.to {w w' : World} {bs : List Bl} (h : GoodB w bs) (hb : BC w w') : GoodB w' bs := fun p hp => by
  obtain ⟨h1, h2, b, o, h3, h4⟩ := h p hp
  exact ⟨h1, h2, b, o, h3, h4.below hb⟩
def RdB (w : World) (v : Value) (bs : List Bl) : Prop := GoodB w bs ∧ RdG 1 w.heap.size w v (blR bs)
theorem RdB.to {w w' : World} {v : Value} {bs : List Bl} (h : RdB w v bs) (hb : BC w w') : RdB w' v bs := ⟨h.1.to hb, h.2.to hb⟩
/-- the first that fits, or -1 -/
def posI {α : Type} (pr : α → Bool) (l : List α) : Int := if l.any pr then (l.findIdx pr : Int) else -1
theorem posI_hit {α : Type} (pr : α → Bool) (l : List α) (k : Nat) (hk : k < l.length) (h1 : pr l[k] = true) (h2 : ∀ j (hj : j < l.length), j < k → pr l[j] = false) : posI pr l = (k : Int) := by
  unfold posI
  rw [if_pos (List.any_eq_true.2 ⟨l[k], List.getElem_mem hk, h1⟩), (List.findIdx_eq hk).2 ⟨h1, fun j hj => by rw [h2 j (by omega) hj]⟩]
theorem posI_miss {α : Type} (pr : α → Bool) (l : List α) (h : ∀ j (hj : j < l.length), pr l[j] = false) : posI pr l = -1 := by
  unfold posI
  rw [if_neg]
  intro hx
  obtain ⟨x, hx, hp⟩ := List.any_eq_true.1 hx
  obtain ⟨j, hj, rfl⟩ := List.getElem_of_mem hx
  rw [h j hj] at hp
  cases hp
attribute [local go_sem] takes takesE comesTo
theorem clone_any (b o : Nat) (v : Value) (l : List Int) (hn : l.length ≤ 1000000) (hv : SlV v b o l.length) (w : World) (hl : Lies w b o l) :
    Calls Tryd.prog 42 #[v] w fun e w' => ∃ v', e = .returned v' ∧ Own w.heap.size w' v' l ∧ Below w.heap.size w w' := by
  have HV := Lib.hid hv
  obtain ⟨a, cap, rfl, _, _, hp, hnone⟩ := hv
  have HL := Lib.hid (And.intro hl hn)
  have hq2 : ∀ (w : World) (a : Option Addr) (n c n' c' : Nat), (binOp .eql 57 (.slice a n c) (.slice none n' c')).run Tryd.prog w = .ok (.bool a.isNone) w := fun w a n c n' c' => Lib.run_eql_slice_nil w _ _ a n c n' c' Tryd.underlying57
  clear hl hn
  cases a with
  | none =>
    have h0 := hnone rfl
    have hq : l = [] := by
      rcases Nat.eq_zero_or_pos l.length with h | h
      · exact List.eq_nil_of_length_eq_zero h
      · exact absurd (hp h) (by simp)
    subst hq
    clear HV HL hp hnone
    go_enter Tryd.func42, Tryd.ntmps42
    go_wp2_with fail
    go_ret
    exact ⟨_, rfl, Own.nil _ _, Below.refl _ _⟩
  | some x =>
    have HO := Lib.hid (own_zero w w.heap.size (Nat.le_refl _))
    have HB := Lib.hid (below1 w (.cells #[] 5))
    clear hp hnone
    go_enter Tryd.func42, Tryd.ntmps42
    go_wp2_with ((at_builtin; refine wl_append_b rfl _ _ rfl w.heap.size _ _ rfl HO.out _ rfl b o l HV.out (HL.out.1.below HB.out) (by have := HL.out.2; simp; omega) HB.out.size ?_; intro v2 w2 hown2 hgrow2 hat2))
    have hb2 : Below w.heap.size w w2 := HB.out.grown hgrow2 HB.out.size (own_block HO.out)
    go_ret
    exact ⟨_, rfl, by simpa using hown2, hb2⟩
theorem conv_slv (b o : Nat) (v : Value) (l : List Int) (hv : SlV v b o l.length) (w : World) (hl : Lies w b o l) : (convert 57 9 v).run Tryd.prog w = .ok (.string (strOfNums l)) w := by
  obtain ⟨a, cap, rfl, _, _, hp, hnone⟩ := hv
  by_cases h : 0 < l.length
  · obtain rfl := hp h
    exact run_convert_bytes_arg w 57 5 Tryd.underlying57 Tryd.underlying5 b o l.length cap l rfl hl 9 Tryd.underlying9
  · have h0 : l = [] := List.eq_nil_of_length_eq_zero (by omega)
    subst h0
    cases a with
    | none => exact run_convert_bytes_nil w 57 5 Tryd.underlying57 Tryd.underlying5 0 cap 9 Tryd.underlying9
    | some x =>
      have h2 : (loadCells x 0).run Tryd.prog w = .ok (([] : List Int).map (Value.int .u8)).toArray w := by
        have := run_loadCells_list (P := Tryd.prog) w x [] (fun j v hj => by simp at hj)
        simpa using this
      rw [run_convert_bytes_string w 57 9 5 _ _ cap Tryd.underlying57 Tryd.underlying5 Tryd.underlying9, List.length_nil, run_bytesToString w _ _ cap [] h2]
      rfl
attribute [local irreducible] SlV Lies
set_option maxHeartbeats 1000000 in
theorem index_any (f B : Nat) (hf : ∀ args w, (callFunc f args).run Tryd.prog w = .ok (.enter f args) w) (pr : Bl → Bool) (v : Value) (bs : List Bl) (w : World) (hv : RdB w v bs) (hn : bs.length ≤ 1000000)
    (hp : ∀ W, BC w W → ∀ q ∈ bs, Calls Tryd.prog f #[q.2, .pointer (some ⟨B, 0, none⟩)] W fun e w' => e = .returned (.bool (pr q)) ∧ Below W.heap.size W w') :
    Calls Tryd.prog 40 #[v, .func (.func f) #[] #[.pointer (some ⟨B, 0, none⟩)]] w fun e w' => e = .returned (.int .i64 (posI pr bs)) ∧ Below w.heap.size w w' := by
  obtain ⟨hg, h0, g, o, hs, hr, hlt⟩ := hv
  have hl : (blR bs).length = bs.length := by simp [blR]
  rw [hl] at hs
  obtain ⟨a, c, rfl, hcap, hmax, ha, _⟩ := by unfold SlV at hs; exact hs
  obtain ⟨n, hN⟩ : ∃ n, n = bs.length := ⟨_, rfl⟩
  rw [← hN]
  rw [← hN] at ha
  have HC := bx (And.intro hg (And.intro hr (And.intro hN (And.intro hn (And.intro hp ha)))))
  clear hg hr hN hn hp hcap hmax hlt h0 hs hl
  go_enter Tryd.func40, Tryd.ntmps40
  go_wp2_with fail
  go_loopw [5, 8] (fun v5 i wr => ∃ k : Nat, k ≤ n ∧ i = .int .i64 (k : Int) ∧ BC w wr ∧ (∀ j (hj : j < bs.length), j < k → pr bs[j] = false)) (fun _ i _ => n - (intOf i).toNat)
  case atStart => exact ⟨0, Nat.zero_le _, rfl, BC_refl _, fun j hj h => by omega⟩
  case round =>
    obtain ⟨k, hk, rfl, hb, hz⟩ := hrel
    have HZ := bx (And.intro hb (And.intro hz hk))
    clear hz hb hk
    by_cases hlt : k < n
    · have hkl : k < bs.length := by have := HC.out.2.2.1; omega
      have i0 : (0 : Int) ≤ (k : Int) := by omega
      have i1 : (k : Int) < (n : Int) := by omega
      obtain ⟨K1, hK1⟩ : ∃ m, m = k + 1 := ⟨_, rfl⟩
      have s1 : IntKind.i64.wrap ((k : Int) + 1) = (K1 : Int) := by rw [IntKind.wrap_i64]; have := HC.out.2.2.2.1; have := HC.out.2.2.1; omega
      obtain rfl := HC.out.2.2.2.2.2 (by omega)
      obtain ⟨q, hq⟩ : ∃ q, q = bs[k] := ⟨_, rfl⟩
      have hqm : q ∈ bs := by rw [hq]; exact List.getElem_mem hkl
      have hrg := rangeG_get HC.out.2.1 (blR_n bs) (show k < (blR bs).length by simp [blR]; exact hkl)
      have c0 : wr.cell? ⟨g, o + k, none⟩ = some q.2 := by
        have h := later HZ.out.1 (hrg 0 q.2 (by simp [blR, hq]))
        rw [Nat.mul_one, Nat.add_zero] at h
        exact h
      have HCALL := bx (HC.out.2.2.2.2.1 wr HZ.out.1 q hqm)
      obtain ⟨ap, cp, hqf⟩ : ∃ a c, q.2 = .slice a q.1.length c := by
        obtain ⟨_, _, b, o, h, _⟩ := HC.out.1 q hqm
        obtain ⟨a, c, e, _⟩ := by unfold SlV at h; exact h
        exact ⟨a, c, e⟩
      rw [hqf] at c0 HCALL
      obtain ⟨x, hx⟩ : ∃ x, x = pr q := ⟨_, rfl⟩
      rw [← hx] at HCALL
      have HX := bx (And.intro hx (And.intro hq (And.intro hK1 (And.intro hlt hkl))))
      clear hx hK1 hrg hqm hq hqf hlt
      cases x with
      | true =>
        go_wp2_with fail
        refine HCALL.out.mono ?_
        rintro e w3 ⟨rfl, b3⟩
        have HB3 := bx (BC_trans HZ.out.1 b3)
        clear b3
        go_wp2_with fail
        go_ret
        refine ⟨?_, HB3.out⟩
        rw [posI_hit pr bs k hkl (by rw [← HX.out.2.1]; exact HX.out.1.symm) (fun j hj hjk => HZ.out.2.1 j hj hjk)]
        rfl
      | false =>
        go_wp2_with fail
        refine HCALL.out.mono ?_
        rintro e w3 ⟨rfl, b3⟩
        have HB3 := bx (BC_trans HZ.out.1 b3)
        clear b3
        go_wp2_with fail
        go_roundw
        case rel => exact ⟨K1, by have := HX.out; omega, rfl, HB3.out, fun j hj hjk => by
          have h1 := HX.out.2.2.1
          by_cases h : j = k
          · subst h
            rw [← HX.out.2.1]; exact HX.out.1.symm
          · exact HZ.out.2.1 j hj (by omega)⟩
        case measure => have := HX.out; simp [intOf]; omega
    · have hge : ¬ (k : Int) < (n : Int) := by omega
      have hor : posI pr bs = -1 := posI_miss _ _ fun j hj => HZ.out.2.1 j hj (by have h1 := HC.out.2.2.1; have h2 := HZ.out.2.2; omega)
      have HO := bx hor
      clear hor
      go_wp2_with fail
      go_ret
      exact ⟨by rw [HO.out]; rfl, HZ.out.1⟩
set_option maxHeartbeats 1000000 in
theorem tree1_any (s : Sd) (hs : s.sum.length = 32) (B : Nat) (p : Bl) (w : World) (hB : w.heap[B]? = some (.cells (sdC s).toArray 40 (0, 0))) (hp : p.1.length ≤ 1000000 ∧ Bytes p.1 ∧ ∃ b o, SlV p.2 b o p.1.length ∧ Lies w b o p.1) :
    Calls Tryd.prog 41 #[p.2, .pointer (some ⟨B, 0, none⟩)] w fun e w' => e = .returned (.bool (fitsF s p.1)) ∧ Below w.heap.size w w' := by
  obtain ⟨h1, h2, b, o, h3, h4⟩ := hp
  have HF := bx (vfits_any s hs p.1 h2 h1 b o p.2 h3 w h4)
  obtain ⟨ap, cp, hqf⟩ : ∃ a c, p.2 = .slice a p.1.length c := by
    obtain ⟨a, c, e, _⟩ := by unfold SlV at h3; exact h3
    exact ⟨a, c, e⟩
  rw [hqf] at HF ⊢
  obtain ⟨A, hA⟩ : ∃ A, A = (sdC s).toArray := ⟨_, rfl⟩
  have hAz : A.size = 36 := by rw [hA]; simpa using sdC_len s
  rw [← hA] at HF hB
  have HB := bx (And.intro hB hAz)
  clear h1 h2 h3 h4 hA hAz hB hqf hs
  go_enter Tryd.func41, Tryd.ntmps41
  go_wp2_with ((with_reducible refine wlw_load_row (o := ⟨some 4, _, _, _, _, _⟩) ?_ 40 (.tmp 1) ?_ _ ?_ _ A _ _ HB.out.1 Tryd.underlying40 ?_ ?_ ?_); (focus rfl); (focus rfl); (focus rfl); (focus rfl); (focus (rw [HB.out.2]; kernel_rfl)))
  refine HF.out.mono ?_
  rintro e w3 ⟨rfl, b3⟩
  have HB3 := bx b3
  clear b3
  go_wp2_with fail
  go_ret
  exact ⟨rfl, HB3.out⟩
/-! what is shown, as the document has it -/
def shRd : Sh := ⟨50, 45, 36, 72, zSd⟩
theorem shRd_ok : shRd.Ok := ⟨info_parts (by kernel_rfl), by kernel_rfl, by kernel_rfl, by decide, by decide, by decide⟩
set_option maxHeartbeats 2000000 in
theorem real_any (v : Value) (ss : List Sd) (w : World) (hv : RdG 36 w.heap.size w v (sdR ss)) (hn : ss.length ≤ 100000) :
    Calls Tryd.prog 15 #[v] w fun e w' => ∃ v', e = .returned v' ∧ RdG 36 w'.heap.size w' v' (sdR ss) ∧ Below w.heap.size w w' := by
  obtain ⟨_, g, o, sv, rg, _⟩ := hv
  have hlen : (sdR ss).length = ss.length := by simp [sdR]
  rw [hlen] at sv
  obtain ⟨a, c, rfl, hc, hm, ha, _⟩ := by unfold SlV at sv; exact sv
  obtain ⟨n, hN⟩ : ∃ n, n = ss.length := ⟨_, rfl⟩
  rw [← hN] at ha hn ⊢
  have HV := bx (And.intro rg (And.intro hN (And.intro ha hn)))
  clear sv rg hN ha hc hm hn hlen
  go_enter Tryd.func15, Tryd.ntmps15
  go_wp2_with fail
  go_loopw [3, 4] (fun v3 v4 wr => ∃ i : Nat, i ≤ n ∧ v4 = .int .i64 (i : Int) ∧ OwnG shRd w.heap.size wr v3 (sdR (ss.take i)) ∧ BC w wr) (fun _ i _ => n - (intOf i).toNat)
  case atStart => exact ⟨0, Nat.zero_le _, rfl, OwnG.nil _ _ _, BC_refl _⟩
  case round =>
    obtain ⟨i, hi, rfl, hown, hbr⟩ := hrel
    have HR := bx (And.intro hown (And.intro hbr hi))
    clear hown hbr hi
    by_cases hlt : i < n
    · have i0 : (0 : Int) ≤ (i : Int) := by omega
      have i1 : (i : Int) < (n : Int) := by omega
      obtain ⟨I1, hI1⟩ : ∃ m, m = i + 1 := ⟨_, rfl⟩
      have s1 : IntKind.i64.wrap ((i : Int) + 1) = (I1 : Int) := by rw [IntKind.wrap_i64]; have := HV.out.2.2.2; omega
      have hiq : i < ss.length := by rw [← HV.out.2.1]; exact hlt
      obtain rfl := HV.out.2.2.1 (by omega)
      have hrg := rangeG_get HV.out.1 (sdR_n ss) (show i < (sdR ss).length by simp [sdR]; exact hiq)
      have hvi : (sdR ss)[i]'(by simp [sdR]; exact hiq) = sdC (ss[i]'hiq) := by simp [sdR]
      rw [hvi] at hrg
      have htk : sdR (ss.take I1) = sdR (ss.take i) ++ [sdC (ss[i]'hiq)] := by rw [hI1, List.take_succ_eq_append_getElem hiq, sdR, List.map_append]; rfl
      obtain ⟨s, hs⟩ : ∃ s, s = ss[i]'hiq := ⟨_, rfl⟩
      rw [← hs] at hrg htk
      obtain ⟨A, hA⟩ : ∃ A, A = (sdC s).toArray := ⟨_, rfl⟩
      have hAz : A.size = 36 := by rw [hA]; simpa using sdC_len s
      have hrg2 : wr.rangeAt g (o + i * 36) A.toList := fun j u hj => later HR.out.2.1 (hrg j u (by rw [hA] at hj; exact hj))
      obtain ⟨W3, hW3⟩ : ∃ W, W = wr.alloc (.cells A 50) := ⟨_, rfl⟩
      have n3 := heap_alloc_new wr (.cells A 50)
      have b3 := below1 wr (.cells A 50)
      rw [← hW3] at n3 b3
      have hr3 : W3.rangeAt wr.heap.size 0 (sdC s) := fun j u hj => by
        rw [Nat.zero_add]
        refine cell_row n3 j ?_
        rw [hA, List.getElem?_toArray]
        exact hj
      have hll : (sdR (ss.take i)).length ≤ 1000000 := by have h3 := HV.out.2.2.2; rw [sdR, List.length_map, List.length_take]; omega
      have HT := bx (And.intro hrg2 (And.intro hW3 (And.intro hr3 (And.intro (HR.out.1.below b3) (And.intro (BC_trans HR.out.2.1 b3).size (And.intro (BC_trans HR.out.2.1 b3) (And.intro hAz hll)))))))
      have HTs := bx (And.intro (show (Value.agg A).cells.size = shRd.n from hAz) (And.intro (show (sdC s).length = shRd.n from sdC_len _) (sdC_one s)))
      have HI := bx (And.intro hI1 (And.intro hlt htk))
      clear hI1 hlt htk hrg hvi hs hiq hA hAz hrg2 hW3 n3 b3 hr3 hll
      go_wp2_with (first
        | ((with_reducible refine wlw_load_mid (o := ⟨some 15, _, _, _, _, _⟩) ?_ 40 (.tmp 14) ?_ _ _ ?_ A _ HT.out.1 Tryd.underlying40 ?_ ?_ ?_); (focus rfl); (focus rfl); (focus rfl); (focus rfl); (focus (rw [HT.out.2.2.2.2.2.2.1]; kernel_rfl)))
        | ((with_reducible refine wl_build1G shRd shRd_ok (o := ⟨some 16, _, _, _, _, _⟩) ?_ (.tmp 15) ?_ (.agg A) ?_ HTs.out.1 ?_); (focus rfl); (focus rfl); (focus rfl); show wpList _ _ _ _ _ (wr.alloc (.cells A 50)); rw [← HT.out.2.1])
        | ((with_reducible refine wl_append1G shRd shRd_ok (o := ⟨some 17, _, _, _, _, _⟩) ?_ (.tmp 11) (.tmp 16) ?_ w.heap.size _ (sdR (ss.take i)) ?_ HT.out.2.2.2.1 wr.heap.size 0 1 ?_ (sdC s) HT.out.2.2.1 HTs.out.2.1 HTs.out.2.2 HT.out.2.2.2.2.2.2.2 HT.out.2.2.2.2.1 ?_); (focus rfl); (focus rfl); (focus rfl); (focus rfl); intro v5 w5 own5 b5))
      have own6 : OwnG shRd w.heap.size w5 v5 (sdR (ss.take I1)) := by rw [HI.out.2.2]; exact own5
      have b6 : BC w w5 := (show Below w.heap.size w _ from HT.out.2.2.2.2.2.1).trans b5
      have HO := bx (And.intro own6 b6)
      clear own5 own6 b5 b6
      go_wp2_with fail
      go_roundw
      case rel => exact ⟨I1, by have := HI.out; omega, rfl, HO.out.1, HO.out.2⟩
      case measure => have := HI.out; simp [intOf]; omega
    · have hin : i = n := by have := HR.out.2.2; omega
      have hge : ¬ (i : Int) < (n : Int) := by omega
      have HF := bx hin
      clear hin hlt
      go_wp2_with fail
      go_ret
      have h := HR.out.1
      rw [HF.out, HV.out.2.1, List.take_length] at h
      exact ⟨_, rfl, h.rd (sdR_n _), HR.out.2.1⟩
end Go.Proofs.YtagdlbadkmgdmaaDoor
