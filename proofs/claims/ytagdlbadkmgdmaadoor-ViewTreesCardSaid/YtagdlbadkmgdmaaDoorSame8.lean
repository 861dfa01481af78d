/- bindleref08.Same of equal lists of files. -/
import Derived.Test.YtagdlbadkmgdmaaDoorTree
namespace Go.Proofs.YtagdlbadkmgdmaaDoor
set_option maxRecDepth 100000
open Go.ChangeShapes Go.WideShapes Go.ChangeAt Go.RowKit
attribute [local irreducible] Lies headG slotG
attribute [local go_sem] takes takesE comesTo comesToP
set_option maxHeartbeats 8000000 in
theorem same8_any (v1 v2 : Value) (fs1 fs2 : List Fi) (w : World) (h1 : RdG 2 w.heap.size w v1 (fiR fs1)) (k1 : GoodF w fs1) (h2 : RdG 2 w.heap.size w v2 (fiR fs2)) (k2 : GoodF w fs2) (he : fs1.map (·.1) = fs2.map (·.1)) (hn : fs1.length ≤ 1000000) :
    Calls Tryd.prog 23 #[v1, v2] w fun e w' => e = .returned (.bool true) ∧ Below w.heap.size w w' := by
  have hl2 : fs2.length = fs1.length := by have h := congrArg List.length he; simpa using h.symm
  obtain ⟨_, g1, o1, s1, r1, _⟩ := h1
  obtain ⟨_, g2, o2, s2, r2, _⟩ := h2
  have e1 : (fiR fs1).length = fs1.length := by simp [fiR]
  have e2 : (fiR fs2).length = fs1.length := by simp [fiR, hl2]
  rw [e1] at s1
  rw [e2] at s2
  obtain ⟨a1, c1, rfl, _, _, ha1, _⟩ := s1
  obtain ⟨a2, c2, rfl, _, _, ha2, _⟩ := s2
  obtain ⟨n, hN⟩ : ∃ n, n = fs1.length := ⟨_, rfl⟩
  rw [← hN] at ha1 ha2 hn hl2 ⊢
  have HV := bx (And.intro r1 (And.intro r2 (And.intro hN (And.intro hl2 (And.intro ha1 (And.intro ha2 (And.intro hn (And.intro k1 (And.intro k2 he)))))))))
  clear r1 r2 hN hl2 ha1 ha2 hn k1 k2 he e1 e2
  have hnn : ((n : Int) == (n : Int)) = true := beq_iff_eq.2 rfl
  go_enter Tryd.func23, Tryd.ntmps23
  go_wp2_with fail
  go_loopw [5] (fun v5 wr => ∃ i : Nat, i ≤ n ∧ v5 = .int .i64 (i : Int) ∧ BC w wr) (fun i _ => n - (intOf i).toNat)
  case atStart => exact ⟨0, Nat.zero_le _, rfl, BC_refl _⟩
  case round =>
    obtain ⟨i, hi, rfl, hbr⟩ := hrel
    have HR := bx (And.intro hbr hi)
    clear hbr hi
    by_cases hlt : i < n
    · have i0 : (0 : Int) ≤ (i : Int) := by omega
      have i1 : (i : Int) < (n : Int) := by omega
      obtain ⟨I1, hI1⟩ : ∃ m, m = i + 1 := ⟨_, rfl⟩
      have s1 : IntKind.i64.wrap ((i : Int) + 1) = (I1 : Int) := by rw [IntKind.wrap_i64]; have := HV.out.2.2.2.2.2.2.1; omega
      have hi1 : i < fs1.length := by rw [← HV.out.2.2.1]; exact hlt
      have hi2 : i < fs2.length := by rw [HV.out.2.2.2.1]; exact hlt
      obtain rfl := HV.out.2.2.2.2.1 (by omega)
      obtain rfl := HV.out.2.2.2.2.2.1 (by omega)
      have q1 := rangeG_get HV.out.1 (fiR_n fs1) (show i < (fiR fs1).length by simp [fiR]; exact hi1)
      have q2 := rangeG_get HV.out.2.1 (fiR_n fs2) (show i < (fiR fs2).length by simp [fiR]; exact hi2)
      have p1 : (fiR fs1)[i]'(by simp [fiR]; exact hi1) = fiC (fs1[i]'hi1) := by simp [fiR]
      have p2 : (fiR fs2)[i]'(by simp [fiR]; exact hi2) = fiC (fs2[i]'hi2) := by simp [fiR]
      rw [p1] at q1
      rw [p2] at q2
      have m1 := HV.out.2.2.2.2.2.2.2.1 _ (List.getElem_mem hi1)
      have m2 := HV.out.2.2.2.2.2.2.2.2.1 _ (List.getElem_mem hi2)
      have heq : (fs1[i]'hi1).1 = (fs2[i]'hi2).1 := by
        have h : (fs1.map (·.1))[i]? = (fs2.map (·.1))[i]? := by rw [HV.out.2.2.2.2.2.2.2.2.2]
        rw [List.getElem?_map, List.getElem?_map, List.getElem?_eq_getElem hi1, List.getElem?_eq_getElem hi2] at h
        injection h
      obtain ⟨f1, hf1⟩ : ∃ f, f = fs1[i]'hi1 := ⟨_, rfl⟩
      obtain ⟨f2, hf2⟩ : ∃ f, f = fs2[i]'hi2 := ⟨_, rfl⟩
      rw [← hf1] at q1 m1 heq
      rw [← hf2] at q2 m2 heq
      obtain ⟨⟨pa, l⟩, x1⟩ := f1
      obtain ⟨pl2, x2⟩ := f2
      dsimp only at heq
      subst heq
      obtain ⟨x1a, x1c, hx1⟩ := m1.form
      obtain ⟨x2a, x2c, hx2⟩ := m2.form
      have d0 : ∀ x : HW (BC wr), x.w.cell? ⟨g1, o1 + i * 2, none⟩ = some (.string pa) := fun x => later (BC_trans HR.out.1 x.h) (q1 0 _ rfl)
      have d1 : ∀ x : HW (BC wr), x.w.cell? ⟨g1, o1 + i * 2 + 1, none⟩ = some x1 := fun x => later (BC_trans HR.out.1 x.h) (q1 1 _ rfl)
      have d2 : ∀ x : HW (BC wr), x.w.cell? ⟨g2, o2 + i * 2, none⟩ = some (.string pa) := fun x => later (BC_trans HR.out.1 x.h) (q2 0 _ rfl)
      have d3 : ∀ x : HW (BC wr), x.w.cell? ⟨g2, o2 + i * 2 + 1, none⟩ = some x2 := fun x => later (BC_trans HR.out.1 x.h) (q2 1 _ rfl)
      have v1 : ∀ x : HW (BC wr), (convert 57 9 x1).run Tryd.prog x.w = .ok (.string (strOfNums l)) x.w := fun x => by
        obtain ⟨_, _, b, o, h3, h4⟩ := m1
        exact conv_slv b o x1 l h3 x.w (h4.below (BC_trans HR.out.1 x.h))
      have v2 : ∀ x : HW (BC wr), (convert 57 9 x2).run Tryd.prog x.w = .ok (.string (strOfNums l)) x.w := fun x => by
        obtain ⟨_, _, b, o, h3, h4⟩ := m2
        exact conv_slv b o x2 l h3 x.w (h4.below (BC_trans HR.out.1 x.h))
      obtain ⟨st, hst⟩ : ∃ s, s = strOfNums l := ⟨_, rfl⟩
      rw [← hst] at v1 v2
      dsimp only at hx1 hx2
      rw [hx1] at d1 v1
      rw [hx2] at d3 v2
      obtain ⟨ll, hll⟩ : ∃ n, n = l.length := ⟨_, rfl⟩
      rw [← hll] at d1 v1 d3 v2
      have z1 : (pa.toList == pa.toList) = true := beq_iff_eq.2 rfl
      have z2 : (st.toList == st.toList) = true := beq_iff_eq.2 rfl
      have HI := bx (And.intro hI1 hlt)
      clear hI1 hlt hf1 hf2 q1 q2 p1 p2 m1 m2 hx1 hx2 hll hst
      go_upto_region 6 with fail
      refine wp_region_slots (by kernel_rfl) (by kernel_rfl) (by kernel_rfl) [none, none, none, none, none, none, none, none, none, none, none, none, none, none, none, none, none, none, none, none, none, none, none, none, none, none] ?_
      repeat (first
        | (refine slotG_oneN (fun K hK => ?_)
           apply Exists.intro
           refine ⟨fun x u hF => ?_, ?_⟩
           (focus (go_simp
                   first
                     | (exact rfl)
                     | (exact ⟨rfl, BC_refl _⟩)))
           apply Exists.intro
           refine ⟨fun u => ?_, ?_⟩
           (focus (go_simp; try exact rfl))
           refine hK _ ?_
           clear hK K))
      refine slotG_end ?_
      intro wy u hby hall
      have HY := bx (BC_trans HR.out.1 hby)
      clear hall hby d0 d1 d2 d3 v1 v2
      go_wp2_with fail
      go_roundw
      case rel => exact ⟨I1, by have := HI.out; omega, rfl, HY.out⟩
      case measure => have := HI.out; simp [intOf]; omega
    · have hge : ¬ (i : Int) < (n : Int) := by omega
      clear hlt
      go_wp2_with fail
      go_ret
      exact ⟨rfl, HR.out.1⟩
end Go.Proofs.YtagdlbadkmgdmaaDoor
