/- What parts of a whole lay, plain. -/
import Derived.Test.YtjnimbhecfpnmaaRowP
import Derived.Test.YtjnimbhecfpnmaaFind
import Derived.Test.YtjnimbhecfpnmaaAwake18
import Derived.Deep.DeepCutAuto
import Derived.WalkMore
namespace Go.Proofs.Ytjnimbhecfpnmaa
section -- Lay
set_option maxRecDepth 100000
open Go.ChangeShapes Go.WideShapes Go.ChangeAt Go.RowKit

/-- one byte put at place i, where none is -/
def stPut (st : List (Option Int)) (i c : Int) : List (Option Int) :=
  if 0 ≤ i ∧ i < (st.length : Int) ∧ (st.getD i.toNat none).isNone = true then st.set i.toNat (some c) else st
/-- the first k bytes of a part put -/
def putN (a : Int) (l : List Int) (st : List (Option Int)) : Nat → List (Option Int)
  | 0 => st
  | k + 1 => stPut (putN a l st k) (IntKind.i64.wrap (a + (k : Int))) (l.getD k 0)
/-- the first i parts laid -/
def laidN (ps : List Pt) (wh : List Int) (n : Nat) : Nat → List (Option Int)
  | 0 => List.replicate n none
  | i + 1 => match ps[i]? with
    | some p => if p.wh = wh ∧ p.sz = (n : Int) then putN p.at' p.da (laidN ps wh n i) p.da.length else laidN ps wh n i
    | none => laidN ps wh n i
def laidF (ps : List Pt) (wh : List Int) (n : Nat) : List (Option Int) := laidN ps wh n ps.length
/-- how many bytes lack -/
def lackF (st : List (Option Int)) : Nat := st.countP (·.isNone)
def outL (st : List (Option Int)) : List Int := st.map (·.getD 0)
def outC (st : List (Option Int)) : Array Value := row .u8 (outL st)
def hasC (st : List (Option Int)) : Array Value := (st.map fun x => Value.bool x.isSome).toArray
theorem stPut_len (st : List (Option Int)) (i c : Int) : (stPut st i c).length = st.length := by unfold stPut; split <;> simp
theorem putN_len (a : Int) (l : List Int) (st : List (Option Int)) : ∀ k, (putN a l st k).length = st.length
  | 0 => rfl
  | k + 1 => by rw [putN, stPut_len, putN_len a l st k]
theorem laidN_len (ps : List Pt) (wh : List Int) (n : Nat) : ∀ i, (laidN ps wh n i).length = n
  | 0 => by rw [laidN, List.length_replicate]
  | i + 1 => by
    rw [laidN]
    split
    · split
      · rw [putN_len, laidN_len ps wh n i]
      · exact laidN_len ps wh n i
    · exact laidN_len ps wh n i
theorem lack_zero {st : List (Option Int)} (h : lackF st = 0) (i : Nat) : (st.getD i none).isNone = false ∨ st.length ≤ i := by
  rcases Nat.lt_or_ge i st.length with hi | hi
  · left
    have := (List.countP_eq_zero.1 h) st[i] (List.getElem_mem hi)
    simp [List.getD, hi]
    cases hx : st[i] with
    | none => rw [hx] at this; simp at this
    | some x => simp
  · exact .inr hi
theorem stPut_full {st : List (Option Int)} (h : lackF st = 0) (i c : Int) : stPut st i c = st := by
  unfold stPut
  rw [if_neg]
  rintro ⟨h1, h2, h3⟩
  rcases lack_zero h i.toNat with h4 | h4
  · rw [h4] at h3; cases h3
  · omega
theorem putN_full {a : Int} {l : List Int} {st : List (Option Int)} {k : Nat} (h : lackF (putN a l st k) = 0) : ∀ d, putN a l st (k + d) = putN a l st k
  | 0 => rfl
  | d + 1 => by
    show stPut (putN a l st (k + d)) _ _ = _
    rw [putN_full h d, stPut_full h]
theorem putN_full0 {a : Int} {l : List Int} {st : List (Option Int)} (h : lackF st = 0) (k : Nat) : putN a l st k = st := by
  have := putN_full (a := a) (l := l) (st := st) (k := 0) h k
  rwa [Nat.zero_add] at this
theorem laidN_full {ps : List Pt} {wh : List Int} {n i : Nat} (h : lackF (laidN ps wh n i) = 0) : ∀ d, laidN ps wh n (i + d) = laidN ps wh n i
  | 0 => rfl
  | d + 1 => by
    show laidN ps wh n (i + d + 1) = _
    rw [laidN, laidN_full h d]
    split
    · split
      · exact putN_full0 h _
      · rfl
    · rfl
theorem lack_set {st : List (Option Int)} {i : Nat} (hi : i < st.length) (hn : st[i] = none) (c : Int) : lackF (st.set i (some c)) + 1 = lackF st := by
  unfold lackF
  have hpos : 0 < st.countP (·.isNone) := List.countP_pos_iff.2 ⟨st[i], List.getElem_mem hi, by rw [hn]; rfl⟩
  rw [List.countP_set hi, hn]
  show st.countP (·.isNone) - 1 + 0 + 1 = st.countP (·.isNone)
  omega
theorem lack_le (st : List (Option Int)) : lackF st ≤ st.length := List.countP_le_length
theorem lack_new (n : Nat) : lackF (List.replicate n none) = n := by unfold lackF; rw [List.countP_replicate]; simp
theorem outC_set (st : List (Option Int)) (i : Nat) (c : Int) : outC (st.set i (some c)) = (outC st).setIfInBounds i (.int .u8 c) := by
  unfold outC outL row
  apply Array.toList_inj.1
  simp [List.map_set]
theorem hasC_set (st : List (Option Int)) (i : Nat) (c : Int) : hasC (st.set i (some c)) = (hasC st).setIfInBounds i (.bool true) := by
  unfold hasC
  apply Array.toList_inj.1
  simp [List.map_set]
theorem outC_size (st : List (Option Int)) : (outC st).size = st.length := by unfold outC outL; rw [row_size, List.length_map]
theorem hasC_size (st : List (Option Int)) : (hasC st).size = st.length := by simp [hasC]
theorem hasC_get (st : List (Option Int)) (i : Nat) (h : i < st.length) : (hasC st)[i]? = some (.bool (st.getD i none).isSome) := by simp [hasC, h, List.getD]
theorem outC_get (st : List (Option Int)) (i : Nat) (h : i < st.length) : (outC st)[i]? = some (.int .u8 ((st.getD i none).getD 0)) := by simp [outC, outL, row, h, List.getD]
theorem outL_len (st : List (Option Int)) : (outL st).length = st.length := by simp [outL]
end
set_option maxRecDepth 100000
open Go.ChangeShapes Go.WideShapes Go.ChangeAt Go.RowKit

theorem info_bool : (Try.prog.info? 4).map (fun i => (i.zero, i.size, i.bytes)) = some (some (.bool false), 1, 1) := by kernel_rfl
theorem make_bools (n : Nat) (hn : n ≤ 1000000) (w : World) : (Instr.makeSlice 122 (.int .i64 (n : Int)) (.int .i64 (n : Int))).run Try.prog w = .ok (.slice (some ⟨w.heap.size, 0, none⟩) n n) (w.alloc (.cells (hasC (List.replicate n none)) 4)) := by
  obtain ⟨i, hi, hz0, hz1, hz2⟩ := info_parts info_bool
  have h := run_make_rowN (P := Try.prog) 122 4 i (.bool false) Try.underlying122 hi hz0 .i64 .i64 n n (Nat.le_refl _) (by rw [hz2]; omega) (by omega) w
  rw [h, hz1]
  rw [Nat.mul_one]
  have e : madeCells (Value.bool false).cells n = hasC (List.replicate n none) := by
    apply Array.ext_getElem?
    intro k
    rcases Nat.lt_or_ge k n with h | h
    · simp [madeCells, hasC, Value.cells, h, Nat.mod_one]
    · simp [madeCells, hasC, Value.cells, Nat.not_lt.2 h]
  rw [e]
theorem outC_new (n : Nat) : outC (List.replicate n none) = row .u8 (List.replicate n 0) := by simp [outC, outL]
attribute [local irreducible] SlV Lies
attribute [local go_sem] takes takesE comesTo
set_option maxHeartbeats 8000000 in
theorem laid_any (v : Value) (qs : List (Pt × Value)) (wh : List Int) (n : Nat) (w : World) (hv : RdP w.heap.size w v qs) (hm : qs.length ≤ 1000000) (hd : ∀ q ∈ qs, q.1.da.length ≤ 1000000) (hw : wh.length = 32) (h1 : 1 ≤ n) (hn : n ≤ 1000000) :
    Calls Try.prog 63 #[v, .agg (row .u8 wh), .int .i64 (n : Int)] w fun e w' => ∃ v', e = .returned (.tuple #[v', .int .i64 (lackF (laidF (qs.map (·.1)) wh n) : Int)]) ∧ Own w.heap.size w' v' (outL (laidF (qs.map (·.1)) wh n)) ∧ Below w.heap.size w w' := by
  have mk1 : ∀ W, (Instr.makeSlice 24 (.int .i64 (n : Int)) (.int .i64 (n : Int))).run Try.prog W = .ok (.slice (some ⟨W.heap.size, 0, none⟩) n n) (W.alloc (.cells (outC (List.replicate n none)) 5)) := fun W => by rw [outC_new]; exact make_bytes n hn W
  have mk2 := make_bools n hn
  have hz := zero_part
  obtain ⟨va, vc, rfl⟩ := hv.form
  obtain ⟨ga, oa, hsl, hrg, _⟩ := hv.2
  have hcell : 0 < qs.length → va = some ⟨ga, oa, none⟩ := by
    obtain ⟨_, _, e, _, _, h, _⟩ := by unfold SlV at hsl; exact hsl
    injection e with e1 _ _
    rw [e1]; exact h
  have HV := Lib.hid (And.intro hv (And.intro hm (And.intro hd (And.intro hrg hcell))))
  have HN := Lib.hid (And.intro h1 hn)
  have hsz : (row .u8 wh).size = 32 := by rw [row_size, hw]
  have HSZ := Lib.hid (And.intro hsz hw)
  obtain ⟨W0, hW0⟩ : ∃ W, W = w.alloc (.cells (row .u8 wh) 23) := ⟨_, rfl⟩
  obtain ⟨B, hB⟩ : ∃ B, B = w.heap.size := ⟨_, rfl⟩
  have h00 := heap_alloc_new w (.cells (row .u8 wh) 23)
  have b00 := below1 w (.cells (row .u8 wh) 23)
  rw [← hW0, ← hB] at h00
  rw [← hW0] at b00
  have H0 := Lib.hid (And.intro h00 (And.intro b00 (And.intro hW0 hB)))
  obtain ⟨RW, hRW⟩ : ∃ R, R = row .u8 wh := ⟨_, rfl⟩
  rw [← hRW] at H0 HSZ ⊢
  have HRW := Lib.hid hRW
  obtain ⟨Z1, hZ1⟩ : ∃ Z, Z = outC (List.replicate n none) := ⟨_, rfl⟩
  obtain ⟨Z2, hZ2⟩ : ∃ Z, Z = hasC (List.replicate n none) := ⟨_, rfl⟩
  rw [← hZ1] at mk1
  rw [← hZ2] at mk2
  have HZZ := Lib.hid (And.intro hZ1 hZ2)
  clear hv hm hd hrg hcell hsl hn hsz hw hW0 hB h00 b00 hRW hZ1 hZ2 h1
  obtain ⟨ps, hps⟩ : ∃ ps, ps = qs.map (·.1) := ⟨_, rfl⟩
  obtain ⟨m, hm⟩ : ∃ m, m = qs.length := ⟨_, rfl⟩
  have hpl : ps.length = m := by rw [hps, hm, List.length_map]
  obtain ⟨Lf, hLf⟩ : ∃ L, L = laidF ps wh n := ⟨_, rfl⟩
  rw [← hps, ← hm, ← hLf]
  have HP := Lib.hid (And.intro hps (And.intro hm (And.intro hpl hLf)))
  clear hps hm hpl hLf
  go_enter Try.func63, Try.ntmps63
  go_upto_region 1 with fail
  rw [← H0.out.2.2.1, ← H0.out.2.2.2]
  have hS := BC_refl
  haveI := BC_inst W0
  go_step3
  go_step
  go_cut [8, 9] (fun s8 s9 wx => ∃ g1 g2, s8 = .slice (some ⟨g1, 0, none⟩) n n ∧ s9 = .slice (some ⟨g2, 0, none⟩) n n ∧ g1 ≠ g2 ∧ W0.heap.size ≤ g1 ∧ W0.heap.size ≤ g2 ∧ wx.heap[g1]? = some (.cells Z1 5 (0, 0)) ∧ wx.heap[g2]? = some (.cells Z2 4 (0, 0)) ∧ BC W0 wx)
  case first =>
    refine wp_region_E (by kernel_rfl) ?_
    have SB := Lib.hid (BC_refl W0)
    refine takeE (i := 0) rfl (by kernel_rfl) (by kernel_rfl) (by kernel_rfl) (fun _ _ _ _ h => h) SB.out (fun K hK => ?_)
    go_simp
    refine hK.out _ ?_
    clear hK K
    refine takeE (i := 2) rfl (by kernel_rfl) (by kernel_rfl) (by kernel_rfl) (fun _ _ _ _ h => h) SB.out (fun K hK => ?_)
    go_simp
    refine hK.out _ ?_
    clear hK K
    refine stepEE (i := 1) (j := 3) rfl rfl (by kernel_rfl) ?ga ?gb
    case ga =>
      intro w3 r3 K hK
      go_simp
      have S3 : Hid (BC W0 (w3.alloc (.cells Z1 5))) := Lib.hid (BC_trans r3 (below1 w3 _))
      refine hK.out _ _ S3.out ?_
      clear hK K
      have Z3 := Lib.hid (And.intro (heap_alloc_new w3 (.cells Z1 5)) r3.size)
      generalize w3.alloc (.cells Z1 5) = W3 at *
      obtain ⟨ga1, hga1⟩ : ∃ g, g = w3.heap.size := ⟨_, rfl⟩
      rw [← hga1] at Z3 ⊢
      clear r3 hga1
      refine takeE (i := 4) rfl (by kernel_rfl) (by kernel_rfl) (by kernel_rfl) (fun _ _ _ _ h => h) S3.out (fun K hK => ?_)
      go_simp
      refine hK.out _ ?_
      clear hK K
      refine stepE (i := 3) rfl (by kernel_rfl) (fun w5 r5 K hK => ?_)
      go_simp
      have S5 : Hid (BC W0 (w5.alloc (.cells Z2 4))) := Lib.hid (BC_trans (BC_trans S3.out r5) (below1 w5 _))
      refine hK.out _ _ S5.out ?_
      clear hK K
      have Z5 := Lib.hid (And.intro (heap_alloc_new w5 (.cells Z2 4)) (And.intro (BC_trans S3.out r5).size (And.intro (BC_blk1 (BC_trans r5 (below1 w5 (.cells Z2 4))) Z3.out.1) (Nat.lt_of_lt_of_le (blk_lt Z3.out.1) r5.size))))
      generalize w5.alloc (.cells Z2 4) = W5 at *
      obtain ⟨gb1, hgb1⟩ : ∃ g, g = w5.heap.size := ⟨_, rfl⟩
      rw [← hgb1] at Z5 ⊢
      clear r5 hgb1
      refine takeE (i := 5) rfl (by kernel_rfl) (by kernel_rfl) (by kernel_rfl) (fun _ _ _ _ h => h) S5.out (fun K hK => ?_)
      go_simp
      refine hK.out _ ?_
      clear hK K
      refine doneE (by kernel_rfl) (fun w9 r9 => ?_) _
      have HX := Lib.hid (And.intro (BC_blk1 r9 Z5.out.1) (And.intro (BC_blk1 r9 Z5.out.2.2.1) (BC_trans S5.out r9)))
      clear r9
      go_wp2_with fail
      go_meet
      exact ⟨ga1, gb1, rfl, rfl, by have := Z5.out.2.2.2; omega, Z3.out.2, Z5.out.2.1, HX.out.2.1, HX.out.1, HX.out.2.2⟩
    case gb =>
      intro w3 r3 K hK
      go_simp
      have S3 : Hid (BC W0 (w3.alloc (.cells Z2 4))) := Lib.hid (BC_trans r3 (below1 w3 _))
      refine hK.out _ _ S3.out ?_
      clear hK K
      have Z3 := Lib.hid (And.intro (heap_alloc_new w3 (.cells Z2 4)) r3.size)
      generalize w3.alloc (.cells Z2 4) = W3 at *
      obtain ⟨ga1, hga1⟩ : ∃ g, g = w3.heap.size := ⟨_, rfl⟩
      rw [← hga1] at Z3 ⊢
      clear r3 hga1
      refine stepE (i := 1) rfl (by kernel_rfl) (fun w5 r5 K hK => ?_)
      go_simp
      have S5 : Hid (BC W0 (w5.alloc (.cells Z1 5))) := Lib.hid (BC_trans (BC_trans S3.out r5) (below1 w5 _))
      refine hK.out _ _ S5.out ?_
      clear hK K
      have Z5 := Lib.hid (And.intro (heap_alloc_new w5 (.cells Z1 5)) (And.intro (BC_trans S3.out r5).size (And.intro (BC_blk1 (BC_trans r5 (below1 w5 (.cells Z1 5))) Z3.out.1) (Nat.lt_of_lt_of_le (blk_lt Z3.out.1) r5.size))))
      generalize w5.alloc (.cells Z1 5) = W5 at *
      obtain ⟨gb1, hgb1⟩ : ∃ g, g = w5.heap.size := ⟨_, rfl⟩
      rw [← hgb1] at Z5 ⊢
      clear r5 hgb1
      refine takeE (i := 4) rfl (by kernel_rfl) (by kernel_rfl) (by kernel_rfl) (fun _ _ _ _ h => h) S5.out (fun K hK => ?_)
      go_simp
      refine hK.out _ ?_
      clear hK K
      refine takeE (i := 5) rfl (by kernel_rfl) (by kernel_rfl) (by kernel_rfl) (fun _ _ _ _ h => h) S5.out (fun K hK => ?_)
      go_simp
      refine hK.out _ ?_
      clear hK K
      refine doneE (by kernel_rfl) (fun w9 r9 => ?_) _
      have HX := Lib.hid (And.intro (BC_blk1 r9 Z5.out.1) (And.intro (BC_blk1 r9 Z5.out.2.2.1) (BC_trans S5.out r9)))
      clear r9
      go_wp2_with fail
      go_meet
      exact ⟨gb1, ga1, rfl, rfl, by have := Z5.out.2.2.2; omega, Z5.out.2.1, Z3.out.2, HX.out.1, HX.out.2.1, HX.out.2.2⟩
  case rest =>
    clear mk1 mk2
    obtain ⟨g1, g2, rfl, rfl, hne, hg1, hg2, hc1, hc2, hbx⟩ := hcut
    obtain ⟨wA, rfl⟩ : ∃ W, W = wc := ⟨_, rfl⟩
    have HA := Lib.hid (And.intro hc1 (And.intro hc2 (And.intro hbx (And.intro hg1 hg2))))
    have hne' : ¬ g2 = g1 := fun h => hne h.symm
    clear hc1 hc2 hbx hg1 hg2 hS
    go_wp2_with fail
    go_step3
    go_wp2_with fail
    go_loopw [10, 23] (fun v10 v23 wr => ∃ i : Nat, i ≤ m ∧ v23 = .int .i64 (i : Int) ∧ v10 = .int .i64 (lackF (laidN ps wh n i) : Int) ∧ wr.heap[g1]? = some (.cells (outC (laidN ps wh n i)) 5 (0, 0)) ∧ wr.heap[g2]? = some (.cells (hasC (laidN ps wh n i)) 4 (0, 0)) ∧ BC W0 wr) (fun _ i _ => m - (intOf i).toNat)
    case atStart => exact ⟨0, Nat.zero_le _, rfl, by rw [laidN, lack_new], by rw [laidN, ← HZZ.out.1]; exact HA.out.1, by rw [laidN, ← HZZ.out.2]; exact HA.out.2.1, HA.out.2.2.1⟩
    case round =>
      obtain ⟨i, hi, rfl, rfl, hr1, hr2, hbr⟩ := hrel
      obtain ⟨st, hst⟩ : ∃ st, st = laidN ps wh n i := ⟨_, rfl⟩
      rw [← hst] at hr1 hr2 ⊢
      have hstl : st.length = n := by rw [hst, laidN_len]
      have HST := Lib.hid (And.intro hst (And.intro hstl hi))
      have HR := Lib.hid (And.intro hr1 (And.intro hr2 hbr))
      have hLb : lackF st ≤ n := by rw [← hstl]; exact lack_le st
      obtain ⟨L0, hL0⟩ : ∃ L, L = lackF st := ⟨_, rfl⟩
      rw [← hL0]
      have HL0 := Lib.hid (And.intro hL0 hLb)
      clear hst hstl hr1 hr2 hbr hLb hL0
      by_cases hlt : i < m
      · have hil : i < qs.length := by have := HP.out.2.1; omega
        have i0 : (0 : Int) ≤ (i : Int) := by omega
        have i1 : (i : Int) < (m : Int) := by omega
        obtain ⟨I1, hI1⟩ : ∃ m, m = i + 1 := ⟨_, rfl⟩
        have s1 : IntKind.i64.wrap ((i : Int) + 1) = (I1 : Int) := by rw [IntKind.wrap_i64]; have := HV.out.2.1; omega
        have HI1 := Lib.hid (And.intro hI1 hlt)
        clear hI1 hlt
        obtain rfl := HV.out.2.2.2.2 (by omega)
        obtain ⟨q, hq⟩ : ∃ q, q = qs[i] := ⟨_, rfl⟩
        have hqm : q ∈ qs := by rw [hq]; exact List.getElem_mem hil
        have hpi : ps[i]? = some q.1 := by rw [HP.out.1, List.getElem?_map, List.getElem?_eq_getElem hil, hq]; rfl
        have hrg := range_get HV.out.2.2.2.1 HV.out.1.1.wh hil
        rw [← hq] at hrg
        have hgd := HV.out.1.1 q hqm
        have hdl := HV.out.2.2.1 q hqm
        have hbw := BC_below H0.out.2.1 H0.out.2.1.size HR.out.2.2
        have hrg2 : wr.rangeAt ga (oa + i * 35) (qC q).toArray.toList := fun j u hj => (hbw.cell (block_lt_of_cell (hrg j u hj))).trans (hrg j u hj)
        clear hq hqm hrg
        obtain ⟨p, u⟩ := q
        dsimp only at hpi hgd hdl
        obtain ⟨hok, gd, od, hsu, hlu, _⟩ := hgd
        have hlu2 : Lies wr gd od p.da := hlu.below' hbw
        obtain ⟨pd, cd, rfl, _, hcd, hpd, _⟩ := by unfold SlV at hsu; exact hsu
        have hsz35 := qC_size (q := (p, .slice pd p.da.length cd)) hok.1
        have hone : (qC (p, .slice pd p.da.length cd)).toArray.all (·.oneCell') = true := pcells_one _ _ _ _ rfl
        have k32 : (qC (p, .slice pd p.da.length cd)).toArray[32]? = some (.int .i64 p.sz) := pcells_size hok.1 _ _ _
        have k33 : (qC (p, .slice pd p.da.length cd)).toArray[33]? = some (.int .i64 p.at') := pcells_at hok.1 _ _ _
        have k34 : (qC (p, .slice pd p.da.length cd)).toArray[34]? = some (.slice pd p.da.length cd) := pcells_data hok.1 _ _ _
        have hmid : ∀ (W : World) (g : Nat), W.heap[g]? = some (.cells (qC (p, .slice pd p.da.length cd)).toArray 26 (0, 0)) → W.rangeAt g 0 (row .u8 p.wh).toList := fun W g h => lies_range (lies_whole h)
        obtain ⟨C, hC⟩ : ∃ C, C = (qC (p, .slice pd p.da.length cd)).toArray := ⟨_, rfl⟩
        rw [← hC] at hsz35 hone k32 k33 k34 hmid hrg2
        have HSC := Lib.hid (And.intro hsz35 hone)
        have HRG := Lib.hid hrg2
        obtain ⟨W3, hW3⟩ : ∃ W, W = wr.alloc (.cells C 26) := ⟨_, rfl⟩
        obtain ⟨g3, hg3⟩ : ∃ g, g = wr.heap.size := ⟨_, rfl⟩
        have n3 := heap_alloc_new wr (.cells C 26)
        have b3 := below1 wr (.cells C 26)
        rw [← hW3, ← hg3] at n3
        rw [← hW3] at b3
        have hl1 := blk_lt HR.out.1
        have hl2 := blk_lt HR.out.2.1
        have H3 := Lib.hid (And.intro (BC_blk1 b3 HR.out.1) (And.intro (BC_blk1 b3 HR.out.2.1) (And.intro n3 (And.intro (BC_trans HR.out.2.2 b3) (And.intro (hlu2.below' b3) (And.intro hW3 (And.intro hg3 (And.intro (show g1 < g3 by omega) (show g2 < g3 by omega)))))))))
        have HB3 : Hid (W3.heap[B]? = some (.cells RW 23 (0, 0))) := Lib.hid (BC_blk1 (BC_trans HR.out.2.2 b3) H0.out.1)
        obtain ⟨RP, hRP⟩ : ∃ R, R = row .u8 p.wh := ⟨_, rfl⟩
        have hrp := hmid W3 g3 n3
        have hrps : (row .u8 p.wh).size = 32 := by rw [row_size, hok.1]
        have hneq : ∀ w, (binOp .neq 23 (.agg (row .u8 p.wh)) (.agg (row .u8 wh))).run Try.prog w = .ok (.bool (!decide (p.wh = wh))) w := fun w => run_neq_row w 23 5 32 .u8 Try.underlying23 Try.underlying5 (by kernel_rfl) p.wh wh hok.1 HSZ.out.2
        rw [← hRP] at hrp hrps hneq
        rw [← HRW.out] at hneq
        have HRP := Lib.hid (And.intro hrp hrps)
        have HPP := Lib.hid (And.intro hok (And.intro hpi (And.intro hdl (And.intro hpd (And.intro hcd hlu)))))
        have c32 := cell_row n3 32 k32
        have c33 := cell_row n3 33 k33
        have c34 := cell_row n3 34 k34
        obtain ⟨sz, hsz⟩ : ∃ s, s = p.sz := ⟨_, rfl⟩
        obtain ⟨A, hA⟩ : ∃ s, s = p.at' := ⟨_, rfl⟩
        obtain ⟨dl, hdln⟩ : ∃ s, s = p.da.length := ⟨_, rfl⟩
        obtain ⟨x, hx⟩ : ∃ x, x = decide (p.wh = wh) := ⟨_, rfl⟩
        rw [← hsz] at c32
        rw [← hA] at c33
        rw [← hdln] at c34
        rw [← hx] at hneq
        have HQ := Lib.hid (And.intro hsz (And.intro hA (And.intro hdln hx)))
        have HK33 : Hid (C[33]? = some (.int .i64 A)) := Lib.hid (by rw [hA]; exact k33)
        clear hrp hrps hok hpi hdl hpd hcd hbw hrg2 hlu hlu2 hsu hsz35 hone k32 k33 k34 hmid hC hW3 hg3 n3 b3 hl1 hl2 hRP hsz hA hdln hx hil
        go_upto_region 6 with (first | ((with_reducible refine wlw_load_mid (o := ⟨some 26, _, _, _, _, _⟩) ?_ 26 (.tmp 25) ?_ _ _ ?_ C _ HRG.out Try.underlying26 ?_ ?_ ?_); (focus rfl); (focus rfl); (focus rfl); (focus rfl); (focus (rw [HSC.out.1]; kernel_rfl))) | (refine wpList_store_rowTo rfl 26 _ _ rfl rfl _ C rfl rfl 26 zpart (heap_alloc_new wr _) (by rw [HSC.out.1]; kernel_rfl) (by rw [HSC.out.1]; kernel_rfl) HSC.out.2 ?_; rw [World.setRow_alloc_new]))
        rw [← H3.out.2.2.2.2.2.1, ← H3.out.2.2.2.2.2.2.1]
        cases x with
        | false =>
          have hnx : laidN ps wh n I1 = st := by
            rw [HI1.out.1, laidN, HPP.out.2.1, ← HST.out.1]
            dsimp only
            rw [if_neg (fun h => by have h2 := HQ.out.2.2.2; rw [decide_eq_true h.1] at h2; cases h2)]
          have HNX := Lib.hid hnx
          clear hnx
          go_wp2_with (first | ((with_reducible refine wlw_load_mid (o := ⟨some 28, _, _, _, _, _⟩) ?_ 23 (.tmp 27) ?_ _ _ ?_ RP _ HRP.out.1 Try.underlying23 ?_ ?_ ?_); (focus rfl); (focus rfl); (focus rfl); (focus rfl); (focus (rw [HRP.out.2]; kernel_rfl))) | ((with_reducible refine wlw_load_row (o := ⟨some 29, _, _, _, _, _⟩) ?_ 23 (.tmp 4) ?_ _ ?_ _ RW _ _ HB3.out Try.underlying23 ?_ ?_ ?_); (focus rfl); (focus rfl); (focus rfl); (focus rfl); (focus (rw [HSZ.out.1]; kernel_rfl))))
          go_roundw
          case rel => exact ⟨I1, by have := HI1.out; omega, rfl, by rw [HNX.out, HL0.out.1], by rw [HNX.out]; exact H3.out.1, by rw [HNX.out]; exact H3.out.2.1, H3.out.2.2.2.1⟩
          case measure => have := HI1.out; simp [intOf]; omega
        | true =>
          by_cases hsn : sz = (n : Int)
          · subst hsn
            have hnx : laidN ps wh n I1 = putN A p.da st dl := by
              rw [HI1.out.1, laidN, HPP.out.2.1, ← HST.out.1]
              dsimp only
              rw [if_pos ⟨of_decide_eq_true HQ.out.2.2.2.symm, HQ.out.1.symm⟩, HQ.out.2.1, HQ.out.2.2.1]
            have HNX := Lib.hid hnx
            clear hnx
            go_wp2_with (first | ((with_reducible refine wlw_load_mid (o := ⟨some 28, _, _, _, _, _⟩) ?_ 23 (.tmp 27) ?_ _ _ ?_ RP _ HRP.out.1 Try.underlying23 ?_ ?_ ?_); (focus rfl); (focus rfl); (focus rfl); (focus rfl); (focus (rw [HRP.out.2]; kernel_rfl))) | ((with_reducible refine wlw_load_row (o := ⟨some 29, _, _, _, _, _⟩) ?_ 23 (.tmp 4) ?_ _ ?_ _ RW _ _ HB3.out Try.underlying23 ?_ ?_ ?_); (focus rfl); (focus rfl); (focus rfl); (focus rfl); (focus (rw [HSZ.out.1]; kernel_rfl))))
            go_loopw [10, 40] (fun v10 v40 wq => ∃ k : Nat, k ≤ dl ∧ v40 = .int .i64 (k : Int) ∧ v10 = .int .i64 (lackF (putN A p.da st k) : Int) ∧ wq.heap[g1]? = some (.cells (outC (putN A p.da st k)) 5 (0, 0)) ∧ wq.heap[g2]? = some (.cells (hasC (putN A p.da st k)) 4 (0, 0)) ∧ wq.heap[g3]? = some (.cells C 26 (0, 0)) ∧ BC W0 wq) (fun _ i _ => dl - (intOf i).toNat)
            case atStart => exact ⟨0, Nat.zero_le _, rfl, by rw [HL0.out.1]; rfl, H3.out.1, H3.out.2.1, H3.out.2.2.1, H3.out.2.2.2.1⟩
            case round =>
              obtain ⟨k, hk, rfl, rfl, hq1, hq2, hq3, hbq⟩ := hrel
              obtain ⟨st2, hst2⟩ : ∃ s, s = putN A p.da st k := ⟨_, rfl⟩
              rw [← hst2] at hq1 hq2 ⊢
              have hst2l : st2.length = n := by rw [hst2, putN_len, HST.out.2.1]
              have hLb : lackF st2 ≤ n := by rw [← hst2l]; exact lack_le st2
              obtain ⟨L2, hL2⟩ : ∃ L, L = lackF st2 := ⟨_, rfl⟩
              rw [← hL2]
              have HS2 := Lib.hid (And.intro hst2 (And.intro hst2l (And.intro hL2 (And.intro hLb hk))))
              have HQQ := Lib.hid (And.intro hq1 (And.intro hq2 (And.intro hq3 hbq)))
              clear hst2 hst2l hL2 hLb hk hq1 hq2 hq3 hbq c32 c33 c34
              by_cases hkl : k < dl
              · have k0 : (0 : Int) ≤ (k : Int) := by omega
                have k1 : (k : Int) < (dl : Int) := by omega
                obtain ⟨K1, hK1⟩ : ∃ m, m = k + 1 := ⟨_, rfl⟩
                have s2 : IntKind.i64.wrap ((k : Int) + 1) = (K1 : Int) := by rw [IntKind.wrap_i64]; have := HPP.out.2.2.1; have := HQ.out.2.2.1; omega
                have HK1 := Lib.hid (And.intro hK1 hkl)
                obtain rfl := HPP.out.2.2.2.1 (by have := HQ.out.2.2.1; omega)
                obtain ⟨c, hc⟩ : ∃ c, c = p.da.getD k 0 := ⟨_, rfl⟩
                have cb : wr.cell? ⟨gd, od + k, none⟩ = some (.int .u8 c) := by
                  rw [hc]
                  have h := HPP.out.2.2.2.2.2.below' (BC_below H0.out.2.1 H0.out.2.1.size HQQ.out.2.2.2)
                  unfold Lies at h
                  exact h k (by have := HQ.out.2.2.1; omega)
                have c33 := cell_row HQQ.out.2.2.1 33 HK33.out
                have c33' : wr.cell? ⟨g3, 33, none⟩ = some (.int .i64 A) := c33
                obtain ⟨z, hz2⟩ : ∃ z, z = IntKind.i64.wrap (A + (k : Int)) := ⟨_, rfl⟩
                have s3 : IntKind.i64.wrap (A + (k : Int)) = z := hz2.symm
                have hstep : putN A p.da st K1 = stPut st2 z c := by rw [hK1, putN, ← HS2.out.1, ← hz2, ← hc]
                have HZ := Lib.hid (And.intro hz2 (And.intro hstep hc))
                clear hz2 hstep hc hK1 hkl c33
                rcases Int.lt_or_le z 0 with hz0 | hz0
                · have hput : putN A p.da st K1 = st2 := by rw [HZ.out.2.1]; unfold stPut; rw [if_neg (by omega)]
                  have HPU := Lib.hid hput
                  clear hput
                  go_wp2_with fail
                  go_roundw
                  case rel => exact ⟨K1, by have := HK1.out; omega, rfl, by rw [HPU.out, HS2.out.2.2.1], by rw [HPU.out]; exact HQQ.out.1, by rw [HPU.out]; exact HQQ.out.2.1, HQQ.out.2.2.1, HQQ.out.2.2.2⟩
                  case measure => have := HK1.out; simp [intOf]; omega
                obtain ⟨j, hj⟩ : ∃ j : Nat, z = (j : Int) := ⟨z.toNat, by omega⟩
                subst hj
                have hz1 : ¬ (j : Int) < 0 := by omega
                rcases Nat.lt_or_ge j n with hjn | hjn
                · have hjn1 : ¬ (n : Int) ≤ (j : Int) := by omega
                  have hjn2 : (j : Int) < (n : Int) := by omega
                  have hj2 : j < st2.length := by rw [HS2.out.2.1]; exact hjn
                  obtain ⟨x2, hx2⟩ : ∃ x, x = (st2.getD j none).isSome := ⟨_, rfl⟩
                  have c2 : wr.cell? ⟨g2, j, none⟩ = some (.bool x2) := by rw [hx2]; exact cell_row HQQ.out.2.1 j (hasC_get st2 j hj2)
                  cases x2 with
                  | true =>
                    have hput : putN A p.da st K1 = st2 := by
                      rw [HZ.out.2.1]; unfold stPut
                      rw [if_neg]
                      rintro ⟨_, _, h⟩
                      rw [Int.toNat_natCast] at h
                      cases hg : st2.getD j none with
                      | none => rw [hg] at hx2; cases hx2
                      | some y => rw [hg] at h; cases h
                    have HPU := Lib.hid hput
                    clear hput hx2 hj2 hjn
                    go_wp2_with fail
                    go_roundw
                    case rel => exact ⟨K1, by have := HK1.out; omega, rfl, by rw [HPU.out, HS2.out.2.2.1], by rw [HPU.out]; exact HQQ.out.1, by rw [HPU.out]; exact HQQ.out.2.1, HQQ.out.2.2.1, HQQ.out.2.2.2⟩
                    case measure => have := HK1.out; simp [intOf]; omega
                  | false =>
                    have hnone : st2.getD j none = none := by
                      cases hg : st2.getD j none with
                      | none => rfl
                      | some y => rw [hg] at hx2; cases hx2
                    have hput : putN A p.da st K1 = st2.set j (some c) := by
                      rw [HZ.out.2.1]; unfold stPut
                      rw [if_pos ⟨by omega, by omega, by rw [Int.toNat_natCast, hnone]; rfl⟩, Int.toNat_natCast]
                    obtain ⟨L3, hL3⟩ : ∃ L, L = lackF (st2.set j (some c)) := ⟨_, rfl⟩
                    have hL32 : L3 + 1 = L2 := by
                      rw [hL3, HS2.out.2.2.1]
                      refine lack_set hj2 ?_ c
                      rw [← hnone]; simp [List.getD, hj2]
                    have s4 : IntKind.i64.wrap ((L2 : Int) - 1) = (L3 : Int) := by rw [IntKind.wrap_i64]; have := HS2.out.2.2.1; have := HS2.out.2.2.2.1; have := HN.out; omega
                    have c1 := cell_row HQQ.out.1 j (outC_get st2 j hj2)
                    have f1 := free_row HQQ.out.1 j
                    have f2 := free_row HQQ.out.2.1 j
                    obtain ⟨wr1, hwr1⟩ : ∃ W, W = wr.setCell ⟨g1, j, none⟩ (.int .u8 c) := ⟨_, rfl⟩
                    obtain ⟨wr2, hwr2⟩ : ∃ W, W = wr1.setCell ⟨g2, j, none⟩ (.bool true) := ⟨_, rfl⟩
                    have q1 : wr1.heap[g1]? = some (.cells (outC (st2.set j (some c))) 5 (0, 0)) := by rw [hwr1, outC_set]; exact Go.heap_setCell_same _ _ _ _ _ _ HQQ.out.1
                    have q2 : wr1.heap[g2]? = some (.cells (hasC st2) 4 (0, 0)) := by rw [hwr1, heap_setCell_other _ _ _ _ hne']; exact HQQ.out.2.1
                    have q3 : wr1.heap[g3]? = some (.cells C 26 (0, 0)) := by rw [hwr1, heap_setCell_other _ _ _ _ (by show g3 ≠ g1; have := H3.out; omega)]; exact HQQ.out.2.2.1
                    have t1 : wr2.heap[g1]? = some (.cells (outC (st2.set j (some c))) 5 (0, 0)) := by rw [hwr2, heap_setCell_other _ _ _ _ hne]; exact q1
                    have t2 : wr2.heap[g2]? = some (.cells (hasC (st2.set j (some c))) 4 (0, 0)) := by rw [hwr2, hasC_set]; exact Go.heap_setCell_same _ _ _ _ _ _ q2
                    have t3 : wr2.heap[g3]? = some (.cells C 26 (0, 0)) := by rw [hwr2, heap_setCell_other _ _ _ _ (by show g3 ≠ g2; have := H3.out; omega)]; exact q3
                    have tb : BC W0 wr2 := by rw [hwr2, hwr1]; exact (Below.setCell HQQ.out.2.2.2 HA.out.2.2.2.1 _).setCell HA.out.2.2.2.2 _
                    have c2' := cell_row q2 j (hasC_get st2 j hj2)
                    have f2' := free_row q2 j
                    have HT := Lib.hid (And.intro t1 (And.intro t2 (And.intro t3 (And.intro tb (And.intro hput (And.intro hL3 hL32))))))
                    have HWW := Lib.hid (And.intro hwr1 hwr2)
                    rw [hwr1] at c2' f2'
                    clear q1 q2 q3 t1 t2 t3 tb hwr1 hwr2 hput hL3 hL32 hnone hx2 hj2 hjn
                    rcases Nat.eq_zero_or_pos L3 with h0 | h0
                    · subst h0
                      have hfin : Lf = st2.set j (some c) := by
                        have e0 : lackF (putN A p.da st K1) = 0 := by rw [HT.out.2.2.2.2.1]; exact HT.out.2.2.2.2.2.1.symm
                        obtain ⟨d, hd⟩ : ∃ d, dl = K1 + d := ⟨dl - K1, by have := HK1.out; omega⟩
                        have e1 : laidN ps wh n I1 = st2.set j (some c) := by rw [HNX.out, hd, putN_full e0 d, HT.out.2.2.2.2.1]
                        have e2 : lackF (laidN ps wh n I1) = 0 := by rw [e1]; exact HT.out.2.2.2.2.2.1.symm
                        obtain ⟨d2, hd2⟩ : ∃ d, m = I1 + d := ⟨m - I1, by have := HI1.out; omega⟩
                        rw [HP.out.2.2.2, laidF, HP.out.2.2.1, hd2, laidN_full e2 d2, e1]
                      have HF := Lib.hid hfin
                      clear hfin
                      go_wp2_with fail
                      rw [← HWW.out.1, ← HWW.out.2]
                      go_ret2
                      refine ⟨_, by rw [HF.out, ← HT.out.2.2.2.2.2.1]; rfl, ?_, BC_below H0.out.2.1 H0.out.2.1.size HT.out.2.2.2.1⟩
                      rw [HF.out]
                      have hsl : (st2.set j (some c)).length = n := by rw [List.length_set]; exact HS2.out.2.1
                      have h := Own.of_row (base := w.heap.size) (l := outL (st2.set j (some c))) (cap := n) (Nat.le_trans H0.out.2.1.size HA.out.2.2.2.1) HT.out.1 (by have := HN.out; unfold maxLen; omega) (by rw [outC_size, hsl]) (by rw [outL_len, hsl]; exact Nat.le_refl _) (by rw [List.take_of_length_le (by rw [Array.length_toList, outC_size, outL_len]; exact Nat.le_refl _)]; exact row_list _ _)
                      rw [outL_len, hsl] at h
                      exact h
                    · have h0' : ((L3 : Int) == 0) = false := beq_eq_false_iff_ne.2 (by omega)
                      go_wp2_with fail
                      rw [← HWW.out.1, ← HWW.out.2]
                      go_roundw
                      case rel => exact ⟨K1, by have := HK1.out; omega, rfl, by rw [HT.out.2.2.2.2.1, ← HT.out.2.2.2.2.2.1], by rw [HT.out.2.2.2.2.1]; exact HT.out.1, by rw [HT.out.2.2.2.2.1]; exact HT.out.2.1, HT.out.2.2.1, HT.out.2.2.2.1⟩
                      case measure => have := HK1.out; simp [intOf]; omega
                · have hjn1 : (n : Int) ≤ (j : Int) := by omega
                  have hput : putN A p.da st K1 = st2 := by rw [HZ.out.2.1]; unfold stPut; rw [if_neg (by rw [HS2.out.2.1]; omega)]
                  have HPU := Lib.hid hput
                  clear hput
                  go_wp2_with fail
                  go_roundw
                  case rel => exact ⟨K1, by have := HK1.out; omega, rfl, by rw [HPU.out, HS2.out.2.2.1], by rw [HPU.out]; exact HQQ.out.1, by rw [HPU.out]; exact HQQ.out.2.1, HQQ.out.2.2.1, HQQ.out.2.2.2⟩
                  case measure => have := HK1.out; simp [intOf]; omega
              · have hkd : k = dl := by have := HS2.out; omega
                have hge2 : ¬ (k : Int) < (dl : Int) := by omega
                have hs3 : laidN ps wh n I1 = st2 := by rw [HNX.out, HS2.out.1, hkd]
                have HS3 := Lib.hid hs3
                clear hkl hkd hs3
                go_wp2_with fail
                go_roundw
                case rel => exact ⟨I1, by have := HI1.out; omega, rfl, by rw [HS3.out, HS2.out.2.2.1], by rw [HS3.out]; exact HQQ.out.1, by rw [HS3.out]; exact HQQ.out.2.1, HQQ.out.2.2.2⟩
                case measure => have := HI1.out; simp [intOf]; omega
          · have hnx : laidN ps wh n I1 = st := by
              rw [HI1.out.1, laidN, HPP.out.2.1, ← HST.out.1]
              dsimp only
              rw [if_neg (fun h => hsn (by rw [HQ.out.1]; exact h.2))]
            have HNX := Lib.hid hnx
            have hsn' : (sz != (n : Int)) = true := by simp [hsn]
            clear hnx hsn
            go_wp2_with (first | ((with_reducible refine wlw_load_mid (o := ⟨some 28, _, _, _, _, _⟩) ?_ 23 (.tmp 27) ?_ _ _ ?_ RP _ HRP.out.1 Try.underlying23 ?_ ?_ ?_); (focus rfl); (focus rfl); (focus rfl); (focus rfl); (focus (rw [HRP.out.2]; kernel_rfl))) | ((with_reducible refine wlw_load_row (o := ⟨some 29, _, _, _, _, _⟩) ?_ 23 (.tmp 4) ?_ _ ?_ _ RW _ _ HB3.out Try.underlying23 ?_ ?_ ?_); (focus rfl); (focus rfl); (focus rfl); (focus rfl); (focus (rw [HSZ.out.1]; kernel_rfl))))
            go_roundw
            case rel => exact ⟨I1, by have := HI1.out; omega, rfl, by rw [HNX.out, HL0.out.1], by rw [HNX.out]; exact H3.out.1, by rw [HNX.out]; exact H3.out.2.1, H3.out.2.2.2.1⟩
            case measure => have := HI1.out; simp [intOf]; omega
      · have him : i = m := by omega
        have hge : ¬ (i : Int) < (m : Int) := by omega
        have hfin : st = Lf := by rw [HST.out.1, HP.out.2.2.2, laidF, HP.out.2.2.1, him]
        have HF := Lib.hid hfin
        clear him hfin hlt
        go_wp2_with fail
        go_ret2
        refine ⟨_, by rw [← HF.out, HL0.out.1]; rfl, ?_, BC_below H0.out.2.1 H0.out.2.1.size HR.out.2.2⟩
        rw [← HF.out]
        have h := Own.of_row (base := w.heap.size) (l := outL st) (cap := n) (Nat.le_trans H0.out.2.1.size HA.out.2.2.2.1) HR.out.1 (by have := HN.out; unfold maxLen; omega) (by rw [outC_size, HST.out.2.1]) (by rw [outL_len, HST.out.2.1]; exact Nat.le_refl _) (by rw [List.take_of_length_le (by rw [Array.length_toList, outC_size, outL_len]; exact Nat.le_refl _)]; exact row_list _ _)
        rw [outL_len, HST.out.2.1] at h
        exact h
end Go.Proofs.Ytjnimbhecfpnmaa
