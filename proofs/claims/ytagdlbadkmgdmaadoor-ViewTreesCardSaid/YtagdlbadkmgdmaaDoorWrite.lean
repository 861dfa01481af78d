/- The walk of (*sha.Hash).Write. -/
import Derived.Test.YtagdlbadkmgdmaaDoorHash
namespace Go.Proofs.YtagdlbadkmgdmaaDoor
set_option maxRecDepth 100000
open Go.ChangeShapes Go.WideShapes Go.ChangeAt Go.RowKit

theorem slice_part (g i : Nat) (hi : i < 64) (w : World) : (Instr.sliceAt 96 (.pointer (some ⟨g, 8, none⟩)) (some (.int .i64 (i : Int))) none none).run Tryd.prog w =
    .ok (.slice (some ⟨g, 8 + i, none⟩) (64 - i) (64 - i)) w := by
  have hlen : Tryd.prog.arrayLen 96 = 64 := by kernel_rfl
  have hel : (sizeOf (Tryd.prog.elem 96)).run Tryd.prog w = .ok 1 w := by kernel_rfl
  have h := run_sliceAt_array_l (P := Tryd.prog) w 96 ⟨g, 8, none⟩ (by kernel_rfl) .i64 (i : Int) (by omega) (by rw [hlen]; omega)
  rw [h, hel, hlen]
  have e1 : (i : Int).toNat = i := by omega
  have e3 : ¬ (64 = i) := by omega
  simp [slicedAt, e1, e3, Addr.add]
theorem slice_rest (a : Option Addr) (b o m cap k : Nat) (ha : 0 < m → a = some ⟨b, o, none⟩) (hm : m ≤ cap) (hc : cap ≤ maxLen) (hk : k ≤ m) (hm0 : 0 < m) :
    ∃ v, SlV v b (o + k) (m - k) ∧ ∀ w, (Instr.sliceAt 57 (.slice a m cap) (some (.int .i64 (k : Int))) none none).run Tryd.prog w = .ok v w := by
  have e1 : (k : Int).toNat = k := by omega
  refine ⟨.slice (if cap = k then a else a.map (·.add k)) (m - k) (cap - k), ⟨_, _, rfl, by omega, by omega, fun h => ?_, fun h => ?_⟩, fun w => ?_⟩
  · rw [if_neg (by omega), ha hm0]
    simp [Addr.add]
  · rw [ha hm0] at h
    split at h <;> simp at h
  · have hel : (sizeOf (Tryd.prog.elem 57)).run Tryd.prog w = .ok 1 w := by kernel_rfl
    rw [run_sliceAt_slice w _ _ _ _ _ (by kernel_rfl), run_slice_l (P := Tryd.prog) w 57 a m cap (by kernel_rfl) .i64 (k : Int) (by omega) (by omega), hel]
    simp [sliced, e1]
theorem write_nil (v : Value) (w : World) : Calls Tryd.prog 57 #[.pointer none, v] w fun e w' => e = .returned (.tuple #[]) ∧ w = w' := by
  go_enter Tryd.func57, Tryd.ntmps57
  go_wp2_with fail
  refine bodyPost_ret (results_none rfl _ _ _) rfl ?_
  exact ⟨rfl, rfl⟩
attribute [local go_sem] takes comesTo
set_option maxHeartbeats 1000000 in
theorem write_any (l0 l : List Int) (x0 : W8) (p0 : List Int) (hst : St l0 x0 p0) (hb : Bytes l) (hN : l0.length + l.length ≤ 1099511627776 * 2) (g b o : Nat) (hne : 0 < l.length → b ≠ g) (v : Value) (hv : SlV v b o l.length) (w : World)
    (hg : w.heap[g]? = some (.cells (hcells x0 p0 l0.length).toArray 130 (0, 0))) (hl : Lies w b o l) :
    Calls Tryd.prog 57 #[.pointer (some ⟨g, 0, none⟩), v] w fun e w' => e = .returned (.tuple #[]) ∧ But g w w' ∧
      ∃ x p, St (l0 ++ l) x p ∧ w'.heap[g]? = some (.cells (hcells x p (l0.length + l.length)).toArray 130 (0, 0)) := by
  have HB := Lib.hid (And.intro hb (And.intro hN (And.intro hne hl)))
  have H0 : Hid (∃ x p, St (l0 ++ l.take 0) x p ∧ w.heap[g]? = some (.cells (hcells x p (l0.length + 0)).toArray 130 (0, 0))) := Lib.hid ⟨x0, p0, by rw [List.take_zero, List.append_nil]; exact hst, by rw [Nat.add_zero]; exact hg⟩
  have HV := Lib.hid hv
  clear hst hb hN hne hg hl hv
  go_enter Tryd.func57, Tryd.ntmps57
  go_wp2_with fail
  go_loopw [1] (fun s wr => ∃ j x p, j ≤ l.length ∧ SlV s b (o + j) (l.length - j) ∧ St (l0 ++ l.take j) x p ∧ wr.heap[g]? = some (.cells (hcells x p (l0.length + j)).toArray 130 (0, 0)) ∧ But g w wr)
    (fun s _ => lenOf s)
  case atStart =>
    obtain ⟨x, p, h1, h2⟩ := H0.out
    exact ⟨0, x, p, Nat.zero_le _, HV.out, h1, h2, But.refl _ _⟩
  case round =>
    clear H0 HV
    obtain ⟨j, x, p, hj, ⟨a, cap, rfl, hm, hcap, ha, _⟩, hst, hheap, hbut⟩ := hrel
    by_cases hlt : j < l.length
    · obtain rfl := ha (by omega)
      obtain ⟨i, hi⟩ : ∃ i, i = (l0.length + j) % 64 := ⟨_, rfl⟩
      obtain ⟨k, hk⟩ : ∃ k, k = Nat.min (l.length - j) (64 - i) := ⟨_, rfl⟩
      have hk1 : k ≤ l.length - j := by rw [hk]; exact Nat.min_le_left _ _
      have hk2 : k ≤ 64 - i := by rw [hk]; exact Nat.min_le_right _ _
      have hk0 : 0 < k := by rw [hk]; exact Nat.lt_min.2 ⟨by omega, by omega⟩
      obtain ⟨cs, hcs⟩ : ∃ cs, cs = (l.drop j).take k := ⟨_, rfl⟩
      have hcl : cs.length = k := by rw [hcs, List.length_take, List.length_drop]; omega
      have hll : (l0 ++ l.take j).length % 64 = i := by rw [List.length_append, List.length_take, hi]; congr 2; omega
      have htk : l.take (j + k) = l.take j ++ cs := by rw [hcs, List.take_add]
      have HCS := Lib.hid (And.intro hcs (And.intro hll htk))
      obtain ⟨v2, hv2, hsl⟩ := slice_rest (some ⟨b, o + j, none⟩) b (o + j) (l.length - j) cap k (fun _ => rfl) hm hcap hk1 (by omega)
      have HV2 := Lib.hid hv2
      have HST := Lib.hid hst
      have HH := Lib.hid (And.intro hheap hbut)
      have hp := hst.len
      have c72 : wr.cell? ⟨g, 72, none⟩ = some (.int .i64 ((l0.length + j : Nat) : Int)) := cell_row hheap 72 (by rw [List.getElem?_toArray]; exact hcells_n _ _ _ hp)
      have HP := Lib.hid hp
      have hsp := slice_part g i (by omega)
      have HKS := Lib.hid (And.intro hk (And.intro hk1 (And.intro hk2 hk0)))
      have HCL := Lib.hid hcl
      have HJ := Lib.hid (And.intro hj (And.intro hm hcap))
      have hm0 : (0 : Int) < ((l.length - j : Nat) : Int) := by omega
      have hN0 : (0 : Int) ≤ ((l0.length + j : Nat) : Int) := by omega
      have hrem : ((l0.length + j : Nat) : Int) % 64 = (i : Int) := by omega
      have HI := Lib.hid hi
      clear hcs hll htk hv2 hst hheap hbut hp hk hk1 hk2 hk0 hj hm hcap ha hi hcl hlt
      generalize hNN : l0.length + j = N at *
      have HNN := Lib.hid hNN
      clear hNN
      generalize hMM : l.length - j = m at *
      have HMM := Lib.hid hMM
      clear hMM
      have heq : Hid (hcells x (splice p i cs) N = splice (hcells x p N) (8 + i) (cs.map (Value.int .u8))) := Lib.hid (hcells_part x p N i cs HP.out (by have := HKS.out; have := HCL.out; omega)).symm
      have HP1 : Hid ((splice p i cs).length = 64) := Lib.hid (by rw [length_splice _ _ _ (by have := HKS.out; have := HCL.out; have := HP.out; omega)]; exact HP.out)
      have hlie : Hid (∀ (q : Nat) (u : Value), (cs.map (Value.int .u8))[q]? = some u → wr.cell? ((⟨b, o + j, none⟩ : Addr).add q) = some u) := Lib.hid (fun q u hu => by
        have hq : q < cs.length := by have := (List.getElem?_eq_some_iff.1 hu).1; simpa using this
        have e1 : (⟨b, o + j, none⟩ : Addr).add q = ⟨b, o + (j + q), none⟩ := by rw [Addr.add_mid, Nat.add_assoc]
        rw [e1]
        have h2 := HH.out.2.cell (HB.out.2.2.2 (j + q) (by have := HKS.out; have := HCL.out; have := HMM.out; omega)) (HB.out.2.2.1 (by have := HKS.out; have := HMM.out; omega))
        rw [h2]
        have h3 : cs[q]? = some (l.getD (j + q) 0) := by
          rw [HCS.out.1, List.getElem?_take_of_lt (show q < k by have := HCL.out; omega), List.getElem?_drop]
          rw [List.getElem?_eq_getElem (by have := HKS.out; have := HCL.out; have := HMM.out; omega)]
          simp [List.getD, (show j + q < l.length by have := HKS.out; have := HCL.out; have := HMM.out; omega)]
        rw [List.getElem?_map, h3] at hu
        exact hu)
      have hwk : IntKind.i64.wrap ((N : Int) + (k : Int)) = (N : Int) + (k : Int) := by have := HB.out.2.1; have := HKS.out; have := HNN.out; have := HMM.out; rw [IntKind.wrap_i64]; omega
      go_wp2_with (first
        | (refine wl_copy_part rfl (.tmp 20) (.tmp 21) 57 57 rfl 5 Tryd.underlying57 (by kernel_rfl) g (8 + i) _ _ _ _ _ rfl rfl (hcells x p N) 130 HH.out.1 (cs.map (Value.int .u8)) k (by rw [List.length_map]; exact HCL.out) HKS.out.1 hlie.out (by rw [hcells_len _ _ _ HP.out]; have := HKS.out; omega) (by intro v hv; obtain ⟨q, _, rfl⟩ := List.mem_map.1 hv; rfl) ?_
           intro w2 g1 g2
           rw [← heq.out] at g1
           have c72b : w2.cell? ⟨g, 72, none⟩ = some (.int .i64 (N : Int)) := cell_row g1 72 (by rw [List.getElem?_toArray]; exact hcells_n _ _ _ HP1.out)
           have HW2 := Lib.hid (And.intro g1 g2)
           clear g1 g2 c72)
        | (refine wl_store_int rfl 2 _ _ rfl rfl g 72 .i64 ((N : Int) + (k : Int)) rfl rfl (by kernel_rfl) HW2.out.1 (by rw [List.size_toArray, hcells_len _ _ _ HP1.out]; omega) ?_
           intro w3 g1 g2 g3
           rw [show ((N : Int) + (k : Int)) = ((N + k : Nat) : Int) from rfl, hcells_setn _ _ _ _ HP1.out] at g1
           have c72c : w3.cell? ⟨g, 72, none⟩ = some (.int .i64 ((N + k : Nat) : Int)) := cell_row g1 72 (by rw [List.getElem?_toArray]; exact hcells_n _ _ _ HP1.out)
           have HW3 := Lib.hid (And.intro g1 ((HH.out.2.trans HW2.out.2).trans (But.of_store g2 g3)))
           clear g1 g2 g3 c72b))
      all_goals have hful := (show ((((N : Int) + (k : Int)) % 64 == 0) = true ∨ (((N : Int) + (k : Int)) % 64 == 0) = false) by first | exact Or.inl (by assumption) | exact Or.inr (by assumption))
      · have hf : i + k = 64 := by
          have h9 : ((N : Int) + (k : Int)) % 64 = 0 := by
            have h8 : (((N : Int) + (k : Int)) % 64 == 0) = true := by assumption
            simpa using h8
          have := HKS.out; have := HI.out
          omega
        have HF := Lib.hid hf
        clear hf hful c72c hsl hsp hwk hrem hN0 hm0
        have r0 : ∀ y : HW (BC w3), y.w.rangeAt g 0 x.row.toList := fun y => range_words (BC_blk1 y.h HW3.out.1)
        have r1 : ∀ y : HW (BC w3), y.w.rangeAt g 8 (row .u8 (splice p i cs)).toList := fun y => range_part (BC_blk1 y.h HW3.out.1)
        have hby : Bytes (splice p i cs) := bytes_splice HST.out.bytes (by rw [HCS.out.1]; exact bytes_take (bytes_drop HB.out.1 _) _) _
        have HCC := Lib.hid (comp_any x (splice p i cs) HP1.out hby)
        have HS1 := Lib.hid (row_size .u8 (splice p i cs))
        have hS := @BC_all w3
        haveI := BC_inst w3
        generalize hxr : x.row = xr at *
        have HXR : Hid (xr.size = 8) := Lib.hid (by rw [← hxr]; exact W8.row_size x)
        have HXR2 := Lib.hid hxr
        clear hxr hby
        generalize hpr : row .u8 (splice p i cs) = pr at *
        have HPR : Hid (pr.size = 64) := Lib.hid (by rw [HS1.out, HP1.out])
        clear hpr HS1
        refine wp_region_head (BC w3) 10 (by kernel_rfl) (by kernel_rfl) (BC_start _) ?_
        simp only [List.take_succ_cons, List.take_zero, List.drop_succ_cons, List.drop_zero]
        repeat (first
          | (refine headG_load_mid 95 _ rfl rfl _ _ rfl _ _ r0 Tryd.underlying95 rfl (by rw [HXR.out]; kernel_rfl) ?_)
          | (refine headG_load_mid 96 _ rfl rfl _ _ rfl _ _ r1 Tryd.underlying96 rfl (by rw [HPR.out]; kernel_rfl) ?_)
          | (refine headG_step (fun K hK => ?_)
             go_simp
             first
               | (refine hK _ ?_; clear hK K)
               | (apply Exists.intro
                  refine ⟨fun x => ?_, hK _ ?_⟩
                  (first
                    | (go_at_call 72; exact BC_call x (HCC.out _)))
                  clear hK K)))
        refine headG_nil ?_
        intro w4 hw4
        have HG4 := Lib.hid (And.intro (BC_blk1 hw4 HW3.out.1) (HW3.out.2.trans (But.of_below hw4)))
        clear hw4 r0 r1 hS
        go_wp2_with (refine wl_store_part rfl 95 _ _ rfl rfl g 0 (compF x (splice p i cs)).row rfl rfl (by rw [W8.row_size]; kernel_rfl) (W8.row_one _) HG4.out.1 (by rw [hcells_len _ _ _ HP1.out, W8.row_size]; omega) ?_
                     intro w5 g1 g2
                     rw [hcells_words] at g1
                     have HG5 := Lib.hid (And.intro g1 (HG4.out.2.trans g2))
                     clear g1 g2)
        have hv2 := HV2.out
        have hkm := HKS.out
        have hmm := HMM.out
        have hjj := HJ.out
        have hnn := HNN.out
        have hfl := HF.out
        refine ⟨⟨j + k, compF x (splice p i cs), splice p i cs, by omega, by rwa [show o + (j + k) = o + j + k by omega, show l.length - (j + k) = m - k by omega], ?_, by rw [show l0.length + (j + k) = N + k by omega]; exact HG5.out.1, HG5.out.2⟩, ?_⟩
        · have h := St.full HST.out cs (by rw [HCS.out.1]; exact bytes_take (bytes_drop HB.out.1 _) _) (by rw [HCS.out.2.1, HCL.out]; exact hfl)
          rw [HCS.out.2.1] at h
          rw [HCS.out.2.2, ← List.append_assoc]
          exact h
        · show lenOf v2 < m
          rw [hv2.len]; omega
      · have hf : i + k < 64 := by
          have h9 : ¬ ((N : Int) + (k : Int)) % 64 = 0 := by
            have h8 : (((N : Int) + (k : Int)) % 64 == 0) = false := by assumption
            simpa using h8
          have := HKS.out; have := HI.out
          omega
        have hv2 := HV2.out
        have hkm := HKS.out
        have hmm := HMM.out
        have hjj := HJ.out
        have hnn := HNN.out
        refine ⟨⟨j + k, x, splice p i cs, by omega, by rwa [show o + (j + k) = o + j + k by omega, show l.length - (j + k) = m - k by omega], ?_, by rw [show l0.length + (j + k) = N + k by omega]; exact HW3.out.1, HW3.out.2⟩, ?_⟩
        · have h := St.less HST.out cs (by rw [HCS.out.1]; exact bytes_take (bytes_drop HB.out.1 _) _) (by rw [HCS.out.2.1, HCL.out]; exact hf)
          rw [HCS.out.2.1] at h
          rw [HCS.out.2.2, ← List.append_assoc]
          exact h
        · show lenOf v2 < m
          rw [hv2.len]; omega
    · obtain rfl : j = l.length := by omega
      have HH := Lib.hid (And.intro hheap (And.intro hbut hst))
      have hm0 : ¬ (0 : Int) < ((l.length - l.length : Nat) : Int) := by omega
      clear hst hheap hbut hm hcap ha hlt hj HB
      generalize l.length - l.length = m at *
      go_wp2_with fail
      refine bodyPost_end (results_none rfl _ _ _) rfl ?_
      refine ⟨rfl, HH.out.2.1, x, p, ?_, HH.out.1⟩
      have h := HH.out.2.2
      rwa [List.take_length] at h
end Go.Proofs.YtagdlbadkmgdmaaDoor
