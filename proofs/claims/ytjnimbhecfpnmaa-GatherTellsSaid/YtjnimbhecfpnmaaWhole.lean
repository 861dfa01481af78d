/- The walk of gather.Whole. -/
import Derived.Test.YtjnimbhecfpnmaaMiss
import Derived.Test.YtjnimbhecfpnmaaTold
import Derived.Deep.Cut
namespace Go.Proofs.Ytjnimbhecfpnmaa
section -- WholeM
set_option maxRecDepth 100000
open Go.ChangeShapes Go.WideShapes Go.ChangeAt Go.RowKit Go.Maps

theorem law_int : Keyed Try.prog 3 := int_keyed Try.underlying3
theorem zero_int (w : World) : (zeroValue 3).run Try.prog w = .ok (.int .i64 0) w := by kernel_rfl
/-- block b is a map of numbers to numbers: at s it has T s (0 where it has none) -/
def MapI (w : World) (b n : Nat) (T : Int → Int) : Prop :=
  ∃ D : DataW Unit, w.ownsMap Try.prog 3 (plainElem Try.prog 3) b n D ∧ IsMap D ∧ ∀ s, D.atKey (.int .i64 s) (.lit (.int .i64 0)) = .lit (.int .i64 (T s))
theorem MapI.made (w : World) : MapI (w.alloc (.map #[] 0)) w.heap.size 0 (fun _ => 0) := ⟨.map [], World.ownsMap_made _ _ _ _, ⟨[], rfl⟩, fun _ => rfl⟩
theorem MapI.below {w w' : World} {b n : Nat} {T : Int → Int} (h : MapI w b n T) (hb : Below w.heap.size w w') : MapI w' b n T := by
  obtain ⟨D, ⟨es, clock, h1, h2⟩, h3⟩ := h
  exact ⟨D, ⟨es, clock, (hb.block b (blk_lt h1)).trans h1, h2⟩, h3⟩
theorem MapI.look {w : World} {b n : Nat} {T : Int → Int} (h : MapI w b n T) (s : Int) (hs : (Lit.int .i64 s).wf = true) :
    (Instr.lookup 102 (.map (some b)) (.int .i64 s) false).run Try.prog w = .ok (.int .i64 (T s)) w := by
  obtain ⟨D, h1, _, h3⟩ := h
  obtain ⟨c, hrun, hat, _⟩ := h1.lookup_int law_int Try.underlying102 Try.underlying3 (zero_int w) (keyOf_int_mk Try.underlying3 hs)
  rw [h3 s] at hat
  injection hat with hat
  injection hat with _ hat
  rw [hrun, hat]
theorem wl_mapput {w : World} {ops : Array Oper} {rest : List Oper} {o : Oper} {a : Act} {Q : Exit → Act → World → Prop} (hg : o.guard = none) (m x v : Operand) (hop : o.op = Op.mapUpdate 102 m x v) (b n : Nat) (T : Int → Int)
    (hm : a.eval m = .map (some b)) (h : MapI w b n T) (hn : n ≤ 1000000) (s c : Int) (hx : a.eval x = .int .i64 s) (hv : a.eval v = .int .i64 c) (hs : (Lit.int .i64 s).wf = true) (hc : (Lit.int .i64 c).wf = true)
    (hK : ∀ w', MapI w' b (n + 1) (fun y => if y = s then c else T y) → w.grownBy w' (some b) → wpList Try.prog ops Q rest (a.put o.dst undef) w') : wpList Try.prog ops Q (o :: rest) a w := by
  obtain ⟨D, h1, h2, h3⟩ := h
  refine wpList_mapUpdate_own w hg m x v 102 hop 3 3 law_int Try.underlying102 _ b n D hm h1 (by unfold maxLen; omega) _ _ _ hx hv (keyOf_int_mk Try.underlying3 hs) _ [] (plainElem_int Try.underlying3 hc) ?_
  intro w' h4 h5
  refine hK w' ⟨_, h4, h2.put _ _, fun y => ?_⟩ h5
  by_cases hy : y = s
  · subst hy
    rw [atKey_put_same h2 (by exact trivial) _ _]
    simp
  · rw [atKey_put_other (by simpa using hy) _ _, h3 y]
    simp [hy]
end
set_option maxRecDepth 100000
open Go.ChangeShapes Go.WideShapes Go.ChangeAt Go.RowKit Go.Maps

theorem good_false {ps : List Pt} {wh : List Int} {n : Nat} (h : 0 < lackF (laidF ps wh n)) : goodW ps wh n = false := by
  unfold goodW
  rw [beq_eq_false_iff_ne.2 (by omega)]
  rfl
theorem good_zero {ps : List Pt} {wh : List Int} {n : Nat} (h : lackF (laidF ps wh n) = 0) : goodW ps wh n = decide (sumF (outL (laidF ps wh n)) = wh) := by
  unfold goodW
  rw [beq_iff_eq.2 h]
  rfl
theorem laidF_bytes {ps : List Pt} (hp : ∀ p ∈ ps, Bytes p.da) (wh : List Int) (n : Nat) : Bytes (outL (laidF ps wh n)) := outL_bytes (laidN_bytes hp wh n _)
theorem laidF_len (ps : List Pt) (wh : List Int) (n : Nat) : (outL (laidF ps wh n)).length = n := by rw [outL_len, laidF, laidN_len]
theorem find_first {α : Type} {f : α → Bool} {l : List α} {i : Nat} {x : α} (hx : l[i]? = some x) (hf : f x = true) (hb : ∀ j y, j < i → l[j]? = some y → f y = false) : l.find? f = some x := by
  rw [List.find?_eq_some_iff_getElem]
  obtain ⟨hi, rfl⟩ := List.getElem?_eq_some_iff.1 hx
  exact ⟨hf, i, hi, rfl, fun j hj => by rw [hb j _ hj (List.getElem?_eq_getElem (by omega))]; rfl⟩
attribute [local irreducible] SlV Lies headG
attribute [local go_sem] takes takesE comesTo
set_option maxHeartbeats 8000000 in
theorem whole_any (v : Value) (qs : List (Pt × Value)) (wh : List Int) (w : World) (hv : RdP w.heap.size w v qs) (hm : qs.length ≤ 1000000) (hd : ∀ q ∈ qs, q.1.da.length ≤ 1000000) (hz1 : ∀ q ∈ qs, q.1.sz ≤ 1000000) (hw : wh.length = 32) (hwb : Bytes wh) :
    Calls Try.prog 31 #[v, .agg (row .u8 wh)] w fun e w' => ∃ v', e = .returned (.tuple #[v', .bool (wholeF (qs.map (·.1)) wh).isSome]) ∧ Own w.heap.size w' v' ((wholeF (qs.map (·.1)) wh).getD []) ∧ Below w.heap.size w w' := by
  have hz := zero_part
  have hmm := @run_makeMap Try.prog
  obtain ⟨va, vc, rfl⟩ := hv.form
  obtain ⟨ga, oa, hsl, hrg, _⟩ := hv.2
  have hcell : 0 < qs.length → va = some ⟨ga, oa, none⟩ := by
    obtain ⟨_, _, e, _, _, h, _⟩ := by unfold SlV at hsl; exact hsl
    injection e with e1 _ _
    rw [e1]; exact h
  have HV := Lib.hid (And.intro hv (And.intro hm (And.intro hd (And.intro hrg hcell))))
  have HZ1 := Lib.hid hz1
  have hsz : (row .u8 wh).size = 32 := by rw [row_size, hw]
  have HSZ := Lib.hid (And.intro hsz hw)
  obtain ⟨W0, hW0⟩ : ∃ W, W = (w.alloc (.cells (row .u8 wh) 23)).alloc (.map #[] 0) := ⟨_, rfl⟩
  obtain ⟨B, hB⟩ : ∃ B, B = w.heap.size := ⟨_, rfl⟩
  obtain ⟨BM, hBM⟩ : ∃ B, B = w.heap.size + 1 := ⟨_, rfl⟩
  have h00 := blk_old (heap_alloc_new w (.cells (row .u8 wh) 23)) (.map #[] 0)
  have hmap := MapI.made (w.alloc (.cells (row .u8 wh) 23))
  have b00 := below2 w (.cells (row .u8 wh) 23) (.map #[] 0)
  rw [size_new, ← hW0, ← hBM] at hmap
  rw [← hW0, ← hB] at h00
  rw [← hW0] at b00
  have H0 := Lib.hid (And.intro h00 (And.intro b00 (And.intro hmap (And.intro hW0 (And.intro hB hBM)))))
  obtain ⟨RW, hRW⟩ : ∃ R, R = row .u8 wh := ⟨_, rfl⟩
  rw [← hRW] at H0 HSZ ⊢
  have HRW := Lib.hid (And.intro hRW hwb)
  clear hv hm hd hrg hcell hsl hsz hw hW0 hB hBM h00 b00 hRW hmap hz1 hwb
  obtain ⟨ps, hps⟩ : ∃ ps, ps = qs.map (·.1) := ⟨_, rfl⟩
  obtain ⟨m, hm⟩ : ∃ m, m = qs.length := ⟨_, rfl⟩
  have hpl : ps.length = m := by rw [hps, hm, List.length_map]
  obtain ⟨Wf, hWf⟩ : ∃ L, L = wholeF ps wh := ⟨_, rfl⟩
  rw [← hps, ← hm, ← hWf]
  have hpb : ∀ p ∈ ps, Bytes p.da := fun p hp => by
    rw [hps] at hp
    obtain ⟨q, hq, rfl⟩ := List.mem_map.1 hp
    exact (HV.out.1.1 q hq).1.2.2.1
  have HP := Lib.hid (And.intro hps (And.intro hm (And.intro hpl (And.intro hWf hpb))))
  obtain ⟨fP, hfP⟩ : ∃ f : Pt → Bool, f = fun p => decide (p.wh = wh) && (mayS p.sz && goodW ps wh p.sz.toNat) := ⟨_, rfl⟩
  have HFP := Lib.hid hfP
  clear hps hm hpl hWf hpb hfP
  go_enter Try.func31, Try.ntmps31
  go_upto_region 2 with fail
  rw [← H0.out.2.2.2.1, ← H0.out.2.2.2.2.2, ← H0.out.2.2.2.2.1]
  clear hmm
  go_wp2_with fail
  go_loopw [14] (fun v14 wr => ∃ (i : Nat) (T : Int → Int), i ≤ m ∧ v14 = .int .i64 (i : Int) ∧ MapI wr BM i T ∧ (∀ s, T s = 0 ∨ (T s = 1 ∧ goodW ps wh s.toNat = false)) ∧ (∀ j p, j < i → ps[j]? = some p → fP p = false) ∧ wr.heap[B]? = some (.cells RW 23 (0, 0)) ∧ Below w.heap.size w wr) (fun i _ => m - (intOf i).toNat)
  case atStart => exact ⟨0, fun _ => 0, Nat.zero_le _, rfl, H0.out.2.2.1, fun _ => .inl rfl, fun j p h => by omega, H0.out.1, H0.out.2.1⟩
  case round =>
    obtain ⟨i, T, hi, rfl, hT, hT2, hbad, hrB, hbr⟩ := hrel
    have HR := Lib.hid (And.intro hT (And.intro hT2 (And.intro hbad (And.intro hrB (And.intro hbr hi)))))
    clear hT hT2 hbad hrB hbr
    by_cases hlt : i < m
    · have hil : i < qs.length := by have := HP.out.2.1; omega
      have i0 : (0 : Int) ≤ (i : Int) := by omega
      have i1 : (i : Int) < (m : Int) := by omega
      obtain ⟨I1, hI1⟩ : ∃ m, m = i + 1 := ⟨_, rfl⟩
      have s1 : IntKind.i64.wrap ((i : Int) + 1) = (I1 : Int) := by rw [IntKind.wrap_i64]; have := HV.out.2.1; omega
      have HI1 := Lib.hid (And.intro hI1 hlt)
      clear hI1 hlt
      obtain rfl := HV.out.2.2.2.2 (by omega)
      obtain ⟨q, hq⟩ : ∃ q, q = qs[i] := ⟨_, rfl⟩
      have hqm : q ∈ qs := by rw [hq]; exact List.getElem_mem hil
      have hpi : ps[i]? = some q.1 := by rw [HP.out.1, List.getElem?_map, List.getElem?_eq_getElem hil, hq]; rfl
      have hrg := range_get HV.out.2.2.2.1 HV.out.1.1.wh hil
      rw [← hq] at hrg
      have hgd := HV.out.1.1 q hqm
      have hs1m := HZ1.out q hqm
      have hbw := HR.out.2.2.2.2.1
      have hrg2 : wr.rangeAt ga (oa + i * 35) (qC q).toArray.toList := fun j u hj => (hbw.cell (block_lt_of_cell (hrg j u hj))).trans (hrg j u hj)
      clear hq hqm hrg
      obtain ⟨p, u⟩ := q
      dsimp only at hpi hgd hs1m
      obtain ⟨hok, gd, od, hsu, hlu, _⟩ := hgd
      obtain ⟨pd, cd, rfl, _, hcd, hpd, _⟩ := by unfold SlV at hsu; exact hsu
      have hsz35 := qC_size (q := (p, .slice pd p.da.length cd)) hok.1
      have hone : (qC (p, .slice pd p.da.length cd)).toArray.all (·.oneCell') = true := pcells_one _ _ _ _ rfl
      have k32 : (qC (p, .slice pd p.da.length cd)).toArray[32]? = some (.int .i64 p.sz) := pcells_size hok.1 _ _ _
      have hmid : ∀ (W : World) (g : Nat), W.heap[g]? = some (.cells (qC (p, .slice pd p.da.length cd)).toArray 26 (0, 0)) → W.rangeAt g 0 (row .u8 p.wh).toList := fun W g h => lies_range (lies_whole h)
      obtain ⟨C, hC⟩ : ∃ C, C = (qC (p, .slice pd p.da.length cd)).toArray := ⟨_, rfl⟩
      rw [← hC] at hsz35 hone k32 hmid hrg2
      have HSC := Lib.hid (And.intro hsz35 hone)
      have HRG := Lib.hid hrg2
      obtain ⟨W3, hW3⟩ : ∃ W, W = wr.alloc (.cells C 26) := ⟨_, rfl⟩
      obtain ⟨g3, hg3⟩ : ∃ g, g = wr.heap.size := ⟨_, rfl⟩
      have n3 := heap_alloc_new wr (.cells C 26)
      have b3 := below1 wr (.cells C 26)
      rw [← hW3, ← hg3] at n3
      rw [← hW3] at b3
      have H3 := Lib.hid (And.intro (HR.out.1.below b3) (And.intro (BC_blk1 b3 HR.out.2.2.2.1) (And.intro n3 (And.intro (BC_below hbw hbw.size b3) (And.intro hW3 hg3)))))
      obtain ⟨RP, hRP⟩ : ∃ R, R = row .u8 p.wh := ⟨_, rfl⟩
      have hrp := hmid W3 g3 n3
      have hrps : (row .u8 p.wh).size = 32 := by rw [row_size, hok.1]
      have hneq : ∀ w, (binOp .neq 23 (.agg (row .u8 p.wh)) (.agg (row .u8 wh))).run Try.prog w = .ok (.bool (!decide (p.wh = wh))) w := fun w => run_neq_row w 23 5 32 .u8 Try.underlying23 Try.underlying5 (by kernel_rfl) p.wh wh hok.1 HSZ.out.2
      rw [← hRP] at hrp hrps hneq
      rw [← HRW.out.1] at hneq
      have HRP := Lib.hid (And.intro hrp hrps)
      have c32 := cell_row n3 32 k32
      obtain ⟨sz, hsz⟩ : ∃ s, s = p.sz := ⟨_, rfl⟩
      obtain ⟨x, hx⟩ : ∃ x, x = decide (p.wh = wh) := ⟨_, rfl⟩
      obtain ⟨y, hy⟩ : ∃ y, y = mayS sz := ⟨_, rfl⟩
      have hfp : fP p = (x && (y && goodW ps wh sz.toNat)) := by rw [HFP.out, hx, hy, hsz]
      have hwf : (Lit.int .i64 sz).wf = true := by rw [hsz]; exact hok.2.2.2.1
      have hlk : (Instr.lookup 102 (.map (some BM)) (.int .i64 sz) false).run Try.prog W3 = .ok (.int .i64 (T sz)) W3 := H3.out.1.look sz hwf
      rw [← hsz] at c32
      rw [← hx] at hneq
      have HMY := Lib.hid (fun W => gmay_any sz W)
      rw [← hy] at HMY
      have HPP := Lib.hid (And.intro hpi (And.intro hfp (And.intro hwf (And.intro hx (And.intro hy (And.intro hsz hs1m))))))
      have HK32 : Hid (C[32]? = some (.int .i64 sz)) := Lib.hid (by rw [hsz]; exact k32)
      clear hrp hrps hok hpi hpd hcd hbw hrg2 hlu hsu hsz35 hone k32 hmid hC hW3 hg3 n3 b3 hRP hsz hx hy hfp hwf hil hs1m
      go_upto_region 5 with (first | ((with_reducible refine wlw_load_mid (o := ⟨some 17, _, _, _, _, _⟩) ?_ 26 (.tmp 16) ?_ _ _ ?_ C _ HRG.out Try.underlying26 ?_ ?_ ?_); (focus rfl); (focus rfl); (focus rfl); (focus rfl); (focus (rw [HSC.out.1]; kernel_rfl))) | (refine wpList_store_rowTo rfl 26 _ _ rfl rfl _ C rfl rfl 26 zpart (heap_alloc_new wr _) (by rw [HSC.out.1]; kernel_rfl) (by rw [HSC.out.1]; kernel_rfl) HSC.out.2 ?_; rw [World.setRow_alloc_new]))
      rw [← H3.out.2.2.2.2.1, ← H3.out.2.2.2.2.2]
      cases x with
      | false =>
        have hnx : fP p = false := by rw [HPP.out.2.1]; rfl
        have HNX := Lib.hid hnx
        clear hnx
        go_wp2_with (first | ((with_reducible refine wlw_load_mid (o := ⟨some 19, _, _, _, _, _⟩) ?_ 23 (.tmp 18) ?_ _ _ ?_ RP _ HRP.out.1 Try.underlying23 ?_ ?_ ?_); (focus rfl); (focus rfl); (focus rfl); (focus rfl); (focus (rw [HRP.out.2]; kernel_rfl))) | ((with_reducible refine wlw_load_row (o := ⟨some 20, _, _, _, _, _⟩) ?_ 23 (.tmp 3) ?_ _ ?_ _ RW _ _ H3.out.2.1 Try.underlying23 ?_ ?_ ?_); (focus rfl); (focus rfl); (focus rfl); (focus rfl); (focus (rw [HSZ.out.1]; kernel_rfl))))
        go_roundw
        case rel => exact ⟨I1, T, by have := HI1.out; omega, rfl, by obtain ⟨D, ⟨es, ck, h1, h2, h3, h4⟩, h5⟩ := H3.out.1; exact ⟨D, ⟨es, ck, h1, h2, by have := HI1.out; omega, h4⟩, h5⟩, HR.out.2.1, fun j p' hj hp' => by
          by_cases h : j = i
          · rw [h, HPP.out.1] at hp'
            injection hp' with hp'
            rw [← hp']; exact HNX.out
          · exact HR.out.2.2.1 j p' (by have := HI1.out; omega) hp', H3.out.2.1, H3.out.2.2.2.1⟩
        case measure => have := HI1.out; simp [intOf]; omega
      | true =>
        cases y with
        | false =>
          have hnx : fP p = false := by rw [HPP.out.2.1]; rfl
          have HNX := Lib.hid hnx
          clear hnx
          go_wp2_with (first | ((with_reducible refine wlw_load_mid (o := ⟨some 19, _, _, _, _, _⟩) ?_ 23 (.tmp 18) ?_ _ _ ?_ RP _ HRP.out.1 Try.underlying23 ?_ ?_ ?_); (focus rfl); (focus rfl); (focus rfl); (focus rfl); (focus (rw [HRP.out.2]; kernel_rfl))) | ((with_reducible refine wlw_load_row (o := ⟨some 20, _, _, _, _, _⟩) ?_ 23 (.tmp 3) ?_ _ ?_ _ RW _ _ H3.out.2.1 Try.underlying23 ?_ ?_ ?_); (focus rfl); (focus rfl); (focus rfl); (focus rfl); (focus (rw [HSZ.out.1]; kernel_rfl))))
          refine (HMY.out _).mono ?_
          rintro e wX ⟨rfl, rfl⟩
          go_wp2_with (first | ((with_reducible refine wlw_load_mid (o := ⟨some 19, _, _, _, _, _⟩) ?_ 23 (.tmp 18) ?_ _ _ ?_ RP _ HRP.out.1 Try.underlying23 ?_ ?_ ?_); (focus rfl); (focus rfl); (focus rfl); (focus rfl); (focus (rw [HRP.out.2]; kernel_rfl))) | ((with_reducible refine wlw_load_row (o := ⟨some 20, _, _, _, _, _⟩) ?_ 23 (.tmp 3) ?_ _ ?_ _ RW _ _ H3.out.2.1 Try.underlying23 ?_ ?_ ?_); (focus rfl); (focus rfl); (focus rfl); (focus rfl); (focus (rw [HSZ.out.1]; kernel_rfl))))
          go_roundw
          case rel => exact ⟨I1, T, by have := HI1.out; omega, rfl, by obtain ⟨D, ⟨es, ck, h1, h2, h3, h4⟩, h5⟩ := H3.out.1; exact ⟨D, ⟨es, ck, h1, h2, by have := HI1.out; omega, h4⟩, h5⟩, HR.out.2.1, fun j p' hj hp' => by
            by_cases h : j = i
            · rw [h, HPP.out.1] at hp'
              injection hp' with hp'
              rw [← hp']; exact HNX.out
            · exact HR.out.2.2.1 j p' (by have := HI1.out; omega) hp', H3.out.2.1, H3.out.2.2.2.1⟩
          case measure => have := HI1.out; simp [intOf]; omega
        | true =>
          rcases HR.out.2.1 sz with h0 | ⟨h0, hbd⟩
          · rw [h0] at hlk
            have hmy := of_decide_eq_true HPP.out.2.2.2.2.1.symm
            obtain ⟨n, hn⟩ : ∃ n : Nat, sz = (n : Int) := ⟨sz.toNat, by omega⟩
            have hn1 : 1 ≤ n ∧ n ≤ 1000000 := by have := HPP.out; omega
            have HNN := Lib.hid (And.intro hn hn1)
            have HT0 := Lib.hid h0
            clear hmy hn hn1 h0
            go_wp2_with (first | ((with_reducible refine wlw_load_mid (o := ⟨some 19, _, _, _, _, _⟩) ?_ 23 (.tmp 18) ?_ _ _ ?_ RP _ HRP.out.1 Try.underlying23 ?_ ?_ ?_); (focus rfl); (focus rfl); (focus rfl); (focus rfl); (focus (rw [HRP.out.2]; kernel_rfl))) | ((with_reducible refine wlw_load_row (o := ⟨some 20, _, _, _, _, _⟩) ?_ 23 (.tmp 3) ?_ _ ?_ _ RW _ _ H3.out.2.1 Try.underlying23 ?_ ?_ ?_); (focus rfl); (focus rfl); (focus rfl); (focus rfl); (focus (rw [HSZ.out.1]; kernel_rfl))))
            refine (HMY.out _).mono ?_
            rintro e wX ⟨rfl, rfl⟩
            go_upto_region 7 with (first
              | ((with_reducible refine wlw_load_mid (o := ⟨some 19, _, _, _, _, _⟩) ?_ 23 (.tmp 18) ?_ _ _ ?_ RP _ HRP.out.1 Try.underlying23 ?_ ?_ ?_); (focus rfl); (focus rfl); (focus rfl); (focus rfl); (focus (rw [HRP.out.2]; kernel_rfl)))
              | ((with_reducible refine wl_mapput (o := ⟨none, _, _, _, _, _⟩) ?_ (.tmp 35) (.tmp 37) (.tmp 39) ?_ BM i T ?_ H3.out.1 (by have := HV.out.2.1; have := HP.out.2.1; have := HI1.out; omega) sz 1 ?_ ?_ HPP.out.2.2.1 (by decide) ?_); (focus rfl); (focus rfl); (focus rfl); (focus rfl); (focus rfl); intro w4 hm4 hgr4))
            have hBM : BM ≠ g3 := by have h1 := H3.out.2.2.2.2.2; have h2 := H0.out.2.1.size; have h3 := HR.out.2.2.2.2.1.size; have h4 := H0.out.2.2.2.2; have h5 := H0.out.2.2.1; obtain ⟨_, ⟨_, _, h6, _⟩, _⟩ := HR.out.1; have h7 := blk_lt h6; omega
            have hBB : B ≠ BM := by have := H0.out.2.2.2.2; omega
            have q1 : w4.heap[B]? = some (.cells RW 23 (0, 0)) := (hgr4.block B (blk_lt H3.out.2.1) (fun e => hBB (by injection e))).trans H3.out.2.1
            have q2 : w4.heap[g3]? = some (.cells C 26 (0, 0)) := (hgr4.block g3 (blk_lt H3.out.2.2.1) (fun e => hBM (by injection e with e; exact e.symm))).trans H3.out.2.2.1
            have q3 : Below w.heap.size w w4 := H3.out.2.2.2.1.grown hgr4 H3.out.2.2.2.1.size (fun k hk => by cases hk; have := H0.out.2.2.2.2; omega)
            have H4 := Lib.hid (And.intro hm4 (And.intro q1 (And.intro q2 q3)))
            have c32' := cell_row q2 32 HK32.out
            have HLA : Hid (Calls Try.prog 63 #[.slice (some ⟨ga, oa, none⟩) m vc, .agg RW, .int .i64 sz] w4 fun e w' => ∃ v', e = .returned (.tuple #[v', .int .i64 (lackF (laidF ps wh n) : Int)]) ∧ Own w4.heap.size w' v' (outL (laidF ps wh n)) ∧ Below w4.heap.size w4 w') := Lib.hid (by
              have h := laid_any (.slice (some ⟨ga, oa, none⟩) m vc) qs wh n w4 (by have h := HV.out.1.to q3; rw [← HP.out.2.1] at h; exact h) HV.out.2.1 HV.out.2.2.1 HSZ.out.2 HNN.out.2.1 HNN.out.2.2
              rw [← HP.out.1, ← HRW.out.1] at h
              rw [HNN.out.1]
              exact h)
            clear hm4 hgr4 hBM hBB q1 q2 q3 hlk c32
            obtain ⟨L, hL⟩ : ∃ L, L = lackF (laidF ps wh n) := ⟨_, rfl⟩
            obtain ⟨O, hO⟩ : ∃ O, O = outL (laidF ps wh n) := ⟨_, rfl⟩
            rw [← hL, ← hO] at HLA
            have hOb : Bytes O := by rw [hO]; exact laidF_bytes HP.out.2.2.2.2 wh n
            have hOl : O.length = n := by rw [hO]; exact laidF_len ps wh n
            have HLO := Lib.hid (And.intro hL (And.intro hO (And.intro hOb hOl)))
            clear hL hO hOb hOl
            go_wp2_with ((with_reducible refine wlw_load_row (o := ⟨some 42, _, _, _, _, _⟩) ?_ 23 (.tmp 3) ?_ _ ?_ _ RW _ _ H4.out.2.1 Try.underlying23 ?_ ?_ ?_); (focus rfl); (focus rfl); (focus rfl); (focus rfl); (focus (rw [HSZ.out.1]; kernel_rfl)))
            refine HLA.out.mono ?_
            rintro e w5 ⟨v5, rfl, own5, b5⟩
            have H5 := Lib.hid (And.intro own5 (And.intro b5 (And.intro (H4.out.1.below b5) (And.intro (BC_blk1 b5 H4.out.2.1) (BC_below H4.out.2.2.2 H4.out.2.2.2.size b5)))))
            obtain ⟨g5, sl5, li5, _⟩ := own5.slv
            have HSM : Hid (∀ x : HW (BC w5), Calls Try.prog 45 #[v5] x.w fun e w' => e = .returned (.agg (row .u8 (sumF O))) ∧ Below x.w.heap.size x.w w') := Lib.hid fun x => sum_any O HLO.out.2.2.1 (by have := HLO.out.2.2.2; have := HNN.out; omega) g5 0 v5 sl5 x.w (li5.below' x.h)
            obtain ⟨z, hz2⟩ : ∃ z, z = decide (sumF O = wh) := ⟨_, rfl⟩
            have heq : ∀ w, (binOp .eql 23 (.agg (row .u8 (sumF O))) (.agg RW)).run Try.prog w = .ok (.bool z) w := fun w => by
              have h := run_eql_row w 23 5 32 .u8 Try.underlying23 Try.underlying5 (by kernel_rfl) (sumF O) wh (sumF_len O) HSZ.out.2
              rw [← HRW.out.1, ← hz2] at h
              exact h
            have HZQ := Lib.hid hz2
            clear own5 b5 sl5 li5 c32' hz2
            generalize row .u8 (sumF O) = RO at *
            go_upto_region 8 with fail
            have hS := BC_all (w := w5)
            haveI := BC_inst w5
            rcases Nat.eq_zero_or_pos L with hL0 | hL0
            · subst hL0
              refine wp_region_head (BC w5) 8 (by kernel_rfl) (by kernel_rfl) (BC_start _) ?_
              simp only [List.take_succ_cons, List.take_zero, List.drop_succ_cons, List.drop_zero]
              repeat (first
                | ((with_reducible refine headG_load_row (o := ⟨some 53, _, _, _, _, _⟩) 23 (.tmp 3) ?_ ?_ _ ?_ _ RW _ _ (BC_blk H5.out.2.2.2.1) Try.underlying23 ?_ ?_ ?_); (focus rfl); (focus rfl); (focus rfl); (focus rfl); (focus (rw [HSZ.out.1]; kernel_rfl)))
                | (refine headG_step (fun K hK => ?_)
                   go_simp
                   first
                     | (refine hK _ ?_; clear hK K)
                     | (apply Exists.intro
                        refine ⟨fun x => ?_, hK _ ?_⟩
                        (go_at_call 45; exact BC_call x (HSM.out x))
                        clear hK K)))
              refine headG_nil ?_
              intro w6 b6
              have H6 := Lib.hid (And.intro (H5.out.1.below b6) (And.intro (H5.out.2.2.1.below b6) (And.intro (BC_blk1 b6 H5.out.2.2.2.1) (BC_below H5.out.2.2.2.2 H5.out.2.2.2.2.size b6))))
              have hgz : goodW ps wh n = z := by rw [good_zero HLO.out.1.symm, HZQ.out, HLO.out.2.1]
              have HGZ := Lib.hid hgz
              clear hS b6 hgz heq
              cases z with
              | true =>
                have hfin : Wf = some O := by
                  rw [HP.out.2.2.2.1, wholeF, ← HFP.out, find_first HPP.out.1 (by rw [HPP.out.2.1, HNN.out.1, Int.toNat_natCast, HGZ.out]; rfl) HR.out.2.2.1]
                  show some (outL (laidF ps wh p.sz.toNat)) = some O
                  rw [← HPP.out.2.2.2.2.2.1, HNN.out.1, Int.toNat_natCast, ← HLO.out.2.1]
                have HF := Lib.hid hfin
                clear hfin
                go_wp2_with fail
                go_ret2
                exact ⟨_, by rw [HF.out]; rfl, by rw [HF.out]; exact H6.out.1.mono H4.out.2.2.2.size, H6.out.2.2.2⟩
              | false =>
                have hnx : fP p = false := by rw [HPP.out.2.1, HNN.out.1, Int.toNat_natCast, HGZ.out]; rfl
                have HNX := Lib.hid hnx
                clear hnx
                go_wp2_with fail
                go_roundw
                case rel => exact ⟨I1, fun y => if y = sz then 1 else T y, by have := HI1.out; omega, rfl, by rw [HI1.out.1]; exact H6.out.2.1, fun y => by
                  by_cases hy : y = sz
                  · rw [hy]
                    exact .inr ⟨if_pos rfl, by rw [HNN.out.1, Int.toNat_natCast]; exact HGZ.out⟩
                  · simpa [hy] using HR.out.2.1 y, fun j p' hj hp' => by
                  by_cases h : j = i
                  · rw [h, HPP.out.1] at hp'
                    injection hp' with hp'
                    rw [← hp']; exact HNX.out
                  · exact HR.out.2.2.1 j p' (by have := HI1.out; omega) hp', H6.out.2.2.1, H6.out.2.2.2⟩
                case measure => have := HI1.out; simp [intOf]; omega
            · have hL1 : ((L : Int) == 0) = false := beq_eq_false_iff_ne.2 (by omega)
              have hL2 : (L == 0) = false := beq_eq_false_iff_ne.2 (by omega)
              refine wp_region_head (BC w5) 8 (by kernel_rfl) (by kernel_rfl) (BC_start _) ?_
              simp only [List.take_succ_cons, List.take_zero, List.drop_succ_cons, List.drop_zero]
              repeat (first
                | (refine headG_step (fun K hK => ?_)
                   go_simp
                   (refine hK _ ?_; clear hK K)))
              refine headG_nil ?_
              intro w6 b6
              have H6 := Lib.hid (And.intro (H5.out.1.below b6) (And.intro (H5.out.2.2.1.below b6) (And.intro (BC_blk1 b6 H5.out.2.2.2.1) (BC_below H5.out.2.2.2.2 H5.out.2.2.2.2.size b6))))
              have hgz : goodW ps wh n = false := good_false (by rw [← HLO.out.1]; exact hL0)
              have HGZ := Lib.hid hgz
              have hnx : fP p = false := by rw [HPP.out.2.1, HNN.out.1, Int.toNat_natCast, HGZ.out]; rfl
              have HNX := Lib.hid hnx
              clear hS b6 hgz heq hnx
              go_wp2_with fail
              go_roundw
              case rel => exact ⟨I1, fun y => if y = sz then 1 else T y, by have := HI1.out; omega, rfl, by rw [HI1.out.1]; exact H6.out.2.1, fun y => by
                by_cases hy : y = sz
                · rw [hy]
                  exact .inr ⟨if_pos rfl, by rw [HNN.out.1, Int.toNat_natCast]; exact HGZ.out⟩
                · simpa [hy] using HR.out.2.1 y, fun j p' hj hp' => by
                by_cases h : j = i
                · rw [h, HPP.out.1] at hp'
                  injection hp' with hp'
                  rw [← hp']; exact HNX.out
                · exact HR.out.2.2.1 j p' (by have := HI1.out; omega) hp', H6.out.2.2.1, H6.out.2.2.2⟩
              case measure => have := HI1.out; simp [intOf]; omega
          · rw [h0] at hlk
            have hnx : fP p = false := by rw [HPP.out.2.1, hbd]; rfl
            have HNX := Lib.hid hnx
            clear hnx h0 hbd
            go_wp2_with (first | ((with_reducible refine wlw_load_mid (o := ⟨some 19, _, _, _, _, _⟩) ?_ 23 (.tmp 18) ?_ _ _ ?_ RP _ HRP.out.1 Try.underlying23 ?_ ?_ ?_); (focus rfl); (focus rfl); (focus rfl); (focus rfl); (focus (rw [HRP.out.2]; kernel_rfl))) | ((with_reducible refine wlw_load_row (o := ⟨some 20, _, _, _, _, _⟩) ?_ 23 (.tmp 3) ?_ _ ?_ _ RW _ _ H3.out.2.1 Try.underlying23 ?_ ?_ ?_); (focus rfl); (focus rfl); (focus rfl); (focus rfl); (focus (rw [HSZ.out.1]; kernel_rfl))))
            refine (HMY.out _).mono ?_
            rintro e wX ⟨rfl, rfl⟩
            go_wp2_with (first | ((with_reducible refine wlw_load_mid (o := ⟨some 19, _, _, _, _, _⟩) ?_ 23 (.tmp 18) ?_ _ _ ?_ RP _ HRP.out.1 Try.underlying23 ?_ ?_ ?_); (focus rfl); (focus rfl); (focus rfl); (focus rfl); (focus (rw [HRP.out.2]; kernel_rfl))) | ((with_reducible refine wlw_load_row (o := ⟨some 20, _, _, _, _, _⟩) ?_ 23 (.tmp 3) ?_ _ ?_ _ RW _ _ H3.out.2.1 Try.underlying23 ?_ ?_ ?_); (focus rfl); (focus rfl); (focus rfl); (focus rfl); (focus (rw [HSZ.out.1]; kernel_rfl))))
            go_roundw
            case rel => exact ⟨I1, T, by have := HI1.out; omega, rfl, by obtain ⟨D, ⟨es, ck, h1, h2, h3, h4⟩, h5⟩ := H3.out.1; exact ⟨D, ⟨es, ck, h1, h2, by have := HI1.out; omega, h4⟩, h5⟩, HR.out.2.1, fun j p' hj hp' => by
              by_cases h : j = i
              · rw [h, HPP.out.1] at hp'
                injection hp' with hp'
                rw [← hp']; exact HNX.out
              · exact HR.out.2.2.1 j p' (by have := HI1.out; omega) hp', H3.out.2.1, H3.out.2.2.2.1⟩
            case measure => have := HI1.out; simp [intOf]; omega
    · have him : i = m := by omega
      have hge : ¬ (i : Int) < (m : Int) := by omega
      have hfin : Wf = none := by
        rw [HP.out.2.2.2.1, wholeF, ← HFP.out, Option.map_eq_none_iff, List.find?_eq_none]
        intro p hp
        obtain ⟨j, hj, rfl⟩ := List.getElem_of_mem hp
        rw [HR.out.2.2.1 j _ (by have := HP.out.2.2.1; omega) (List.getElem?_eq_getElem hj)]
        simp
      have HF := Lib.hid hfin
      clear him hfin hlt
      go_wp2_with fail
      go_ret2
      exact ⟨_, by rw [HF.out]; rfl, by rw [HF.out]; exact Own.nil _ _, HR.out.2.2.2.2.1⟩
end Go.Proofs.Ytjnimbhecfpnmaa
