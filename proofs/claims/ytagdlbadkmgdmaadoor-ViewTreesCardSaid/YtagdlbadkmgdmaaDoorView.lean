/- bindle/view.View: plain, and the walk (fewer than 20 shown). -/
import Derived.Test.YtagdlbadkmgdmaaDoorTops
import Derived.Test.YtagdlbadkmgdmaaDoorSort
import Derived.Test.YtagdlbadkmgdmaaDoorApp
import Derived.Laws.StructEq
import Derived.ChangeArms
import Derived.Deep.Cut
namespace Go.Proofs.YtagdlbadkmgdmaaDoor
set_option maxRecDepth 100000
open Go.ChangeShapes Go.WideShapes Go.ChangeAt Go.RowKit

def sdOf (e : Ev) : Sd := ⟨e.path, e.dot, e.sum, e.size⟩
open Classical in
/-- a Put, as it is shown -/
noncomputable def viewOne (T : Best) (D : Dirs) (e : Ev) : Sd := if 0 < D e.path ∨ (T e.path).getD (0, 0) ≠ e.dot then { sdOf e with path := copyB e.path e.dot } else sdOf e
noncomputable def viewK (es : List Ev) (T : Best) (D : Dirs) : Nat → List Sd
  | 0 => []
  | i + 1 => match es[i]? with
    | some e => if e.kind = 1 then viewK es T D i ++ [viewOne T D e] else viewK es T D i
    | none => viewK es T D i
theorem viewK_len (es : List Ev) (T : Best) (D : Dirs) : ∀ i, (viewK es T D i).length ≤ i
  | 0 => Nat.le_refl _
  | i + 1 => by
    have := viewK_len es T D i
    rw [viewK]
    split
    · split
      · rw [List.length_append, List.length_singleton]; omega
      · omega
    · omega
noncomputable def viewF (es : List Ev) : List Sd := sortF (viewK es (topsF es).1 (topsF es).2 es.length)
theorem sdR_append (a b : List Sd) : sdR (a ++ b) = sdR a ++ sdR b := by simp [sdR]
theorem build_sd (p : ByteArray) (a b s : Int) (W : List Int) (hW : W.length = 32) :
    Tryd.prog.built 40 [(0, .string p), (1, .agg #[.int .i64 a, .int .i64 b]), (2, .agg (row .u8 W)), (3, .int .i64 s)] = some (sdC ⟨p, (a, b), W, s⟩).toArray := by
  iterate 32 (rcases W with _ | ⟨_, W⟩; · simp at hW)
  rcases W with _ | ⟨_, W⟩
  · kernel_rfl
  · simp at hW
theorem wl_built {P : Program} {ops : Array Oper} {rest : List Oper} {o : Oper} {a : Act} {w : World} {Q : Exit → Act → World → Prop} (hg : o.guard = none) (t : TypeId) (parts : Array (Nat × Operand)) (ho : o.op = .build t parts) (cs : Array Value)
    (hb : P.built t (parts.map fun (i, x) => (i, a.eval x)).toList = some cs) (h : wpList P ops Q rest (a.put o.dst (.agg cs)) w) : wpList P ops Q (o :: rest) a w :=
  wpList_plain hg fun _ hK => wp_build t parts ho (by rw [hb]; rfl) (by rw [hb]; exact hK _ _ h)
attribute [local irreducible] SlV Lies headG slotG
attribute [local go_sem] takes takesE comesTo comesToP
set_option maxHeartbeats 16000000 in
theorem view_any (v : Value) (qs : List (Ev × Value)) (w : World) (hv : RdE w.heap.size w v qs) (hn : qs.length < 20) (hp : ∀ q ∈ qs, q.1.path.size ≤ 4000000)
    (hd : ∀ q ∈ qs, -9223372036854775808 ≤ q.1.dot.1 ∧ q.1.dot.1 ≤ 9223372036854775807 ∧ -9223372036854775808 ≤ q.1.dot.2 ∧ q.1.dot.2 ≤ 9223372036854775807) (ht : Tab w) :
    Calls Tryd.prog 11 #[v] w fun e w' => ∃ v', e = .returned v' ∧ RdG 36 w'.heap.size w' v' (sdR (viewF (qs.map (·.1)))) ∧ Below w.heap.size w w' := by
  have HTP := Lib.hid (tops_any v qs w hv (by omega) hp)
  have hvv := hv
  obtain ⟨_, _, g, o, sv, rg, _⟩ := hvv
  have hlen : (evR qs).length = qs.length := by simp [evR]
  rw [hlen] at sv
  obtain ⟨a, c, rfl, hc, hm, ha, _⟩ := by unfold SlV at sv; exact sv
  obtain ⟨n, hN⟩ : ∃ n, n = qs.length := ⟨_, rfl⟩
  obtain ⟨es, hes⟩ : ∃ l, l = qs.map (·.1) := ⟨_, rfl⟩
  have hesl : es.length = n := by rw [hes, hN, List.length_map]
  rw [← hN] at ha hv hn HTP ⊢
  rw [← hes] at HTP ⊢
  obtain ⟨T, hT⟩ : ∃ T, T = (topsF es).1 := ⟨_, rfl⟩
  obtain ⟨D, hD⟩ : ∃ D, D = (topsF es).2 := ⟨_, rfl⟩
  have hvf : viewF es = sortF (viewK es T D n) := by rw [viewF, hesl, hT, hD]
  rw [← hT, ← hD] at HTP
  have HV := bx (And.intro hv (And.intro rg (And.intro hN (And.intro ha (And.intro hn (And.intro hp (And.intro hes (And.intro hesl (And.intro hd hvf)))))))))
  have HTB0 := bx ht
  clear hv sv rg hN ha hc hm hn hlen hp hes hesl hT hD hd hvf ht
  go_enter Tryd.func11, Tryd.ntmps11
  go_wp2_with fail
  refine HTP.out.mono ?_
  rintro e w1 ⟨b1, b2, rfl, hB, hDr, hb1⟩
  have HTB := bx (HTB0.out.to hb1)
  have HM := bx (And.intro hB (And.intro hDr (show BC w w1 from hb1)))
  clear hB hDr hb1 HTB0 HTP
  go_upto_region 4 with fail
  go_loopw [5, 16] (fun v5 v16 wr => ∃ i : Nat, i ≤ n ∧ v16 = .int .i64 (i : Int) ∧ OwnG shSd w1.heap.size wr v5 (sdR (viewK es T D i)) ∧ BC w1 wr) (fun _ i _ => n - (intOf i).toNat)
  case atStart => exact ⟨0, Nat.zero_le _, rfl, OwnG.nil _ _ _, BC_refl _⟩
  case round =>
    obtain ⟨i, hi, rfl, hown, hbr⟩ := hrel
    have HR := bx (And.intro hown (And.intro hbr hi))
    clear hown hbr hi
    by_cases hlt : i < n
    · have i0 : (0 : Int) ≤ (i : Int) := by omega
      have i1 : (i : Int) < (n : Int) := by omega
      obtain ⟨I1, hI1⟩ : ∃ m, m = i + 1 := ⟨_, rfl⟩
      have s1 : IntKind.i64.wrap ((i : Int) + 1) = (I1 : Int) := by rw [IntKind.wrap_i64]; have := HV.out.2.2.2.2.1; omega
      have hiq : i < qs.length := by rw [← HV.out.2.2.1]; exact hlt
      obtain rfl := HV.out.2.2.2.1 (by omega)
      have hrg := rangeG_get HV.out.2.1 (evR_n HV.out.1.1) (show i < (evR qs).length by simp [evR]; exact hiq)
      have hvi : (evR qs)[i]'(by simp [evR]; exact hiq) = evC (qs[i]'hiq) := by simp [evR]
      rw [hvi] at hrg
      have hqm := List.getElem_mem hiq
      have hqe : es[i]? = some (qs[i]'hiq).1 := by rw [HV.out.2.2.2.2.2.2.1, List.getElem?_map, List.getElem?_eq_getElem hiq]; rfl
      obtain ⟨q, hq⟩ : ∃ q, q = qs[i]'hiq := ⟨_, rfl⟩
      rw [← hq] at hrg hqm hqe
      obtain ⟨C, hC⟩ : ∃ C, C = (evC q).toArray := ⟨_, rfl⟩
      have hgq := HV.out.1.1 q hqm
      have hCz : C.size = 38 := by rw [hC]; simpa using evC_len hgq.1
      have hC1 : C.all (·.oneCell') = true := by rw [hC]; exact Array.all_eq_true_iff_forall_mem.2 (fun v hv => evC_one hgq.2.2.one v (by simpa using hv))
      have bww := BC_trans HM.out.2.2 HR.out.2.1
      have hrg2 : wr.rangeAt g (o + i * 38) C.toList := fun j u hj => later bww (hrg j u (by rw [hC] at hj; exact hj))
      obtain ⟨W8, hW8⟩ : ∃ W, W = wr.alloc (.cells C 38) := ⟨_, rfl⟩
      obtain ⟨g8, hg8⟩ : ∃ g, g = wr.heap.size := ⟨_, rfl⟩
      have n8 := heap_alloc_new wr (.cells C 38)
      have b8 := below1 wr (.cells C 38)
      rw [← hW8, ← hg8] at n8
      rw [← hW8] at b8
      obtain ⟨pa, hpa⟩ : ∃ x, x = q.1.path := ⟨_, rfl⟩
      obtain ⟨kd, hkd⟩ : ∃ x, x = q.1.kind := ⟨_, rfl⟩
      obtain ⟨dp, hdp⟩ : ∃ x, x = q.1.dot.1 := ⟨_, rfl⟩
      obtain ⟨dq, hdq⟩ : ∃ x, x = q.1.dot.2 := ⟨_, rfl⟩
      obtain ⟨sz, hsz⟩ : ∃ x, x = q.1.size := ⟨_, rfl⟩
      have hcc : ∀ W : World, W.heap[g8]? = some (.cells C 38 (0, 0)) → W.cell? ⟨g8, 0, none⟩ = some (.int .i64 dp) ∧ W.cell? ⟨g8, 1, none⟩ = some (.int .i64 dq) ∧ W.cell? ⟨g8, 3, none⟩ = some (.int .i64 kd) ∧ W.cell? ⟨g8, 4, none⟩ = some (.string pa) ∧ W.cell? ⟨g8, 37, none⟩ = some (.int .i64 sz) := fun W h => by
        rw [hC] at h
        exact ⟨cell_row h 0 (by rw [hdp]; rfl), cell_row h 1 (by rw [hdq]; rfl), cell_row h 3 (by rw [hkd]; rfl), cell_row h 4 (by rw [hpa]; rfl), cell_row h 37 (by rw [hsz, List.getElem?_toArray]; exact evC_size hgq.1)⟩
      obtain ⟨SU, hSU⟩ : ∃ S, S = row .u8 q.1.sum := ⟨_, rfl⟩
      have hSUz : SU.size = 32 := by rw [hSU, row_size]; exact hgq.1
      have hsu : ∀ W : World, W.heap[g8]? = some (.cells C 38 (0, 0)) → W.rangeAt g8 5 SU.toList := fun W h j u hj => by
        refine cell_row h (5 + j) ?_
        have hj32 : j < 32 := by have := (List.getElem?_eq_some_iff.1 hj).1; simpa [hSUz] using this
        rw [hC, List.getElem?_toArray, evC_sum hgq.1 j hj32]
        rw [hSU, row_list] at hj
        exact hj
      have hps : pa.size ≤ 4000000 := by rw [hpa]; exact HV.out.2.2.2.2.2.1 q hqm
      have hdb := HV.out.2.2.2.2.2.2.2.2.1 q hqm
      rw [← hdp, ← hdq] at hdb
      have hbs : Tryd.prog.built 40 [(0, .string pa), (1, .agg #[.int .i64 dp, .int .i64 dq]), (2, .agg SU), (3, .int .i64 sz)] = some (sdC (sdOf q.1)).toArray := by
        rw [hSU, build_sd pa dp dq sz q.1.sum hgq.1, hpa, hdp, hdq, hsz]
        rfl
      have hdot : q.1.dot = (dp, dq) := by rw [hdp, hdq]
      have HI := bx (And.intro hI1 (And.intro hlt (And.intro hqe (And.intro hpa.symm (And.intro hkd (And.intro hbs (And.intro hSUz (And.intro hps (And.intro hdb (And.intro hdot trivial))))))))))
      have H8 := bx (And.intro hW8 (And.intro hg8 (And.intro b8 (And.intro hrg2 (And.intro hCz (And.intro hC1 (And.intro n8 (And.intro hcc (And.intro (BC_trans HR.out.2.1 b8) hsu)))))))))
      have k8 := (hcc W8 n8).2.2.1
      clear hI1 hlt hqe hpa hkd hdp hdq hps hW8 hg8 b8 hrg2 hCz hC1 n8 hcc hC hgq hrg hvi hqm hq hiq bww hsu hdb hbs hsz hSU hSUz hdot
      go_upto_region 6 with (first
        | ((with_reducible refine wl_load_mid (o := ⟨some 19, _, _, _, _, _⟩) ?_ 38 (.tmp 18) ?_ _ _ ?_ C _ H8.out.2.2.2.1 Tryd.underlying38 ?_ ?_ ?_); (focus rfl); (focus rfl); (focus rfl); (focus rfl); (focus (rw [H8.out.2.2.2.2.1]; kernel_rfl)))
        | (refine wpList_store_rowTo rfl 38 _ _ rfl rfl _ C rfl rfl 38 _ (heap_alloc_new wr _) (by rw [H8.out.2.2.2.2.1]; kernel_rfl) (by rw [H8.out.2.2.2.2.1]; kernel_rfl) H8.out.2.2.2.2.2.1 ?_; rw [World.setRow_alloc_new]))
      rw [← H8.out.1, ← H8.out.2.1]
      by_cases hk1 : kd = 1
      · subst hk1
        have hvk : viewK es T D I1 = viewK es T D i ++ [viewOne T D q.1] := by
          rw [HI.out.1, viewK, HI.out.2.2.1]
          simp only
          rw [if_pos HI.out.2.2.2.2.1.symm]
        have HVK := bx hvk
        clear hvk
        obtain ⟨SC, hSC⟩ : ∃ S, S = (sdC (sdOf q.1)).toArray := ⟨_, rfl⟩
        have hSCz : SC.size = 36 := by rw [hSC]; simpa using sdC_len _
        have hSC1 : SC.all (·.oneCell') = true := by rw [hSC]; exact Array.all_eq_true_iff_forall_mem.2 (fun v hv => sdC_one _ v (by simpa using hv))
        obtain ⟨W9, hW9⟩ : ∃ W, W = W8.alloc (.cells SC 40) := ⟨_, rfl⟩
        obtain ⟨g9, hg9⟩ : ∃ g, g = W8.heap.size := ⟨_, rfl⟩
        have n9 := heap_alloc_new W8 (.cells SC 40)
        have b9 := below1 W8 (.cells SC 40)
        rw [← hW9, ← hg9] at n9
        rw [← hW9] at b9
        have hbs := HI.out.2.2.2.2.2.1
        rw [← hSC] at hbs
        have HBS := bx (And.intro hbs (And.intro hSCz hSC1))
        have H9 := bx (And.intro hW9 (And.intro hg9 (And.intro hSC (And.intro n9 (And.intro (BC_trans H8.out.2.2.2.2.2.2.2.2.1 b9) (And.intro (BC_trans H8.out.2.2.2.2.2.2.2.2.1 b9) (BC_trans (show BC wr W8 from H8.out.2.2.1) b9)))))))
        have n89 := BC_blk1 b9 H8.out.2.2.2.2.2.2.1
        have H89 := bx n89
        have k0 := (H8.out.2.2.2.2.2.2.2.1 W8 H8.out.2.2.2.2.2.2.1).1
        have k1 := (H8.out.2.2.2.2.2.2.2.1 W8 H8.out.2.2.2.2.2.2.1).2.1
        have k4 := (H8.out.2.2.2.2.2.2.2.1 W8 H8.out.2.2.2.2.2.2.1).2.2.2.1
        have k5 := (H8.out.2.2.2.2.2.2.2.1 W8 H8.out.2.2.2.2.2.2.1).2.2.2.2
        have HSU := bx (H8.out.2.2.2.2.2.2.2.2.2 W8 H8.out.2.2.2.2.2.2.1)
        clear hSC hSCz hSC1 hW9 hg9 n9 b9 hbs n89
        go_upto_region 8 with (first
          | ((with_reducible refine wl_load_mid (o := ⟨some 28, _, _, _, _, _⟩) ?_ 36 (.tmp 27) ?_ _ _ ?_ SU _ HSU.out Tryd.underlying36 ?_ ?_ ?_); (focus rfl); (focus rfl); (focus rfl); (focus rfl); (focus (rw [HI.out.2.2.2.2.2.2.1]; kernel_rfl)))
          | ((with_reducible refine wl_built (o := ⟨some 31, _, _, _, _, _⟩) ?_ 40 #[(0, .tmp 24), (1, .tmp 26), (2, .tmp 28), (3, .tmp 30)] ?_ SC ?_ ?_); (focus rfl); (focus rfl); (focus (refine Eq.trans (congrArg (Tryd.prog.built 40) ?_) HBS.out.1; kernel_rfl)))
          | (refine wpList_store_rowTo rfl 40 _ _ rfl rfl _ SC rfl rfl 40 _ (heap_alloc_new W8 _) (by rw [HBS.out.2.1]; kernel_rfl) (by rw [HBS.out.2.1]; kernel_rfl) HBS.out.2.2 ?_; rw [World.setRow_alloc_new]))
        rw [← H9.out.1, ← H9.out.2.1]
        clear k0 k1 k4 k5 k8
        have k0 := (H8.out.2.2.2.2.2.2.2.1 W9 H89.out).1
        have k1 := (H8.out.2.2.2.2.2.2.2.1 W9 H89.out).2.1
        have k4 := (H8.out.2.2.2.2.2.2.2.1 W9 H89.out).2.2.2.1
        obtain ⟨x, hx⟩ : ∃ x, x = D pa := ⟨_, rfl⟩
        obtain ⟨t1, ht1⟩ : ∃ x, x = ((T pa).getD (0, 0)).1 := ⟨_, rfl⟩
        obtain ⟨t2, ht2⟩ : ∃ x, x = ((T pa).getD (0, 0)).2 := ⟨_, rfl⟩
        have hl1 : (Instr.lookup 78 (.map (some b2)) (.string pa) false).run Tryd.prog W9 = .ok (.int .i64 x) W9 := by
          obtain ⟨TD, hTD1, hTD2⟩ := HM.out.2.1.to H9.out.2.2.2.2.1
          rw [hTD1.look Tryd.underlying78 Tryd.underlying9 (zero_nint _) pa false, hx, ← hTD2 pa]
          rfl
        have hl2 : (Instr.lookup 77 (.map (some b1)) (.string pa) false).run Tryd.prog W9 = .ok (.agg #[.int .i64 t1, .int .i64 t2]) W9 := by
          rw [(show MapS W9 b1 _ from MapS.to HM.out.1 H9.out.2.2.2.2.1).look Tryd.underlying77 Tryd.underlying9 (zero_dot _) pa false, ht1, ht2]
          cases T pa <;> rfl
        have HX := bx (And.intro hx (And.intro ht1 ht2))
        clear hx ht1 ht2
        have hdd : ∀ P : Prop, (P → 0 < D q.1.path ∨ (T q.1.path).getD (0, 0) ≠ q.1.dot) → P → 0 < D q.1.path ∨ (T q.1.path).getD (0, 0) ≠ q.1.dot := fun P h p => h p
        clear hdd
        by_cases hx0 : 0 < x
        case' pos =>
          have hcf : viewOne T D q.1 = { sdOf q.1 with path := copyB pa (dp, dq) } := by
            unfold viewOne
            rw [if_pos (.inl (by rw [HI.out.2.2.2.1, ← HX.out.1]; exact hx0)), HI.out.2.2.2.1, HI.out.2.2.2.2.2.2.2.2.2.1]
          have HCF := bx hcf
          clear hcf
          go_wp2_with fail
          refine (pcopy_any pa (dp, dq) (by have := HI.out.2.2.2.2.2.2.2.1; omega) HI.out.2.2.2.2.2.2.2.2.1.1 HI.out.2.2.2.2.2.2.2.2.1.2.1 HI.out.2.2.2.2.2.2.2.2.1.2.2.1 HI.out.2.2.2.2.2.2.2.2.1.2.2.2 W9 (HTB.out.to H9.out.2.2.2.2.2.1)).mono ?_
          rintro e w10 ⟨rfl, b10⟩
          have n10 := BC_blk1 b10 H9.out.2.2.2.1
          have f10 := free_row n10 0
          have c10 := cell_row n10 0 (v := .string pa) (by rw [H9.out.2.2.1, ← HI.out.2.2.2.1]; rfl)
          obtain ⟨cp, hcp⟩ : ∃ x, x = copyB pa (dp, dq) := ⟨_, rfl⟩
          rw [← hcp]
          have n12 : (w10.setCell ⟨g9, 0, none⟩ (.string cp)).heap[g9]? = some (.cells (sdC (viewOne T D q.1)).toArray 40 (0, 0)) := by
            rw [Go.heap_setCell_same w10 g9 0 _ _ _ n10, H9.out.2.2.1, HCF.out, ← hcp]
            rfl
          obtain ⟨W12, hW12⟩ : ∃ W, W = w10.setCell ⟨g9, 0, none⟩ (.string cp) := ⟨_, rfl⟩
          have b12 : BC w1 W12 := by
            rw [hW12]
            exact Below.setCell (BC_trans H9.out.2.2.2.2.1 b10) (by have h1 := (show Below w1.heap.size w1 W8 from H8.out.2.2.2.2.2.2.2.2.1).size; have h2 := H9.out.2.1; show w1.heap.size ≤ g9; omega) _
          have x12 : OwnG shSd w1.heap.size W12 u5 (sdR (viewK es T D i)) := by
            rw [hW12]
            exact ownsRow_setCell_other (HR.out.1.below (BC_trans H9.out.2.2.2.2.2.2 b10)) (fun e => by
              have h := (World.ownsRow.lt HR.out.1 _ e).2
              have h2 : g9 < wr.heap.size := h
              have h3 := H9.out.2.1
              have h4 := (show Below wr.heap.size wr W8 from H8.out.2.2.1).size
              omega) _
          rw [← hW12] at n12
          have H12 := bx (And.intro n12 (And.intro b12 x12))
          have HW12 := bx hW12
          clear hcp hW12 n10 n12 b12 x12 b10 hl1 hl2 k0 k1 k4 hx0
          go_upto_region 10 with fail
          rw [← HW12.out]
          clear HW12 f10 c10

        case' neg =>
          by_cases he1 : t1 = dp
          case' neg =>
            have hb1 : (t1 == dp) = false := beq_eq_false_iff_ne.2 he1
            have hcf : viewOne T D q.1 = { sdOf q.1 with path := copyB pa (dp, dq) } := by
              unfold viewOne
              rw [if_pos (.inr (by rw [HI.out.2.2.2.1, HI.out.2.2.2.2.2.2.2.2.2.1]; intro h; exact he1 (by rw [HX.out.2.1, h]))), HI.out.2.2.2.1, HI.out.2.2.2.2.2.2.2.2.2.1]
            have HCF := bx hcf
            clear hcf
            go_wp2_with fail
            refine (pcopy_any pa (dp, dq) (by have := HI.out.2.2.2.2.2.2.2.1; omega) HI.out.2.2.2.2.2.2.2.2.1.1 HI.out.2.2.2.2.2.2.2.2.1.2.1 HI.out.2.2.2.2.2.2.2.2.1.2.2.1 HI.out.2.2.2.2.2.2.2.2.1.2.2.2 W9 (HTB.out.to H9.out.2.2.2.2.2.1)).mono ?_
            rintro e w10 ⟨rfl, b10⟩
            have n10 := BC_blk1 b10 H9.out.2.2.2.1
            have f10 := free_row n10 0
            have c10 := cell_row n10 0 (v := .string pa) (by rw [H9.out.2.2.1, ← HI.out.2.2.2.1]; rfl)
            obtain ⟨cp, hcp⟩ : ∃ x, x = copyB pa (dp, dq) := ⟨_, rfl⟩
            rw [← hcp]
            have n12 : (w10.setCell ⟨g9, 0, none⟩ (.string cp)).heap[g9]? = some (.cells (sdC (viewOne T D q.1)).toArray 40 (0, 0)) := by
              rw [Go.heap_setCell_same w10 g9 0 _ _ _ n10, H9.out.2.2.1, HCF.out, ← hcp]
              rfl
            obtain ⟨W12, hW12⟩ : ∃ W, W = w10.setCell ⟨g9, 0, none⟩ (.string cp) := ⟨_, rfl⟩
            have b12 : BC w1 W12 := by
              rw [hW12]
              exact Below.setCell (BC_trans H9.out.2.2.2.2.1 b10) (by have h1 := (show Below w1.heap.size w1 W8 from H8.out.2.2.2.2.2.2.2.2.1).size; have h2 := H9.out.2.1; show w1.heap.size ≤ g9; omega) _
            have x12 : OwnG shSd w1.heap.size W12 u5 (sdR (viewK es T D i)) := by
              rw [hW12]
              exact ownsRow_setCell_other (HR.out.1.below (BC_trans H9.out.2.2.2.2.2.2 b10)) (fun e => by
                have h := (World.ownsRow.lt HR.out.1 _ e).2
                have h2 : g9 < wr.heap.size := h
                have h3 := H9.out.2.1
                have h4 := (show Below wr.heap.size wr W8 from H8.out.2.2.1).size
                omega) _
            rw [← hW12] at n12
            have H12 := bx (And.intro n12 (And.intro b12 x12))
            have HW12 := bx hW12
            clear hcp hW12 n10 n12 b12 x12 b10 hl1 hl2 k0 k1 k4 hx0 he1 hb1
            go_upto_region 10 with fail
            rw [← HW12.out]
            clear HW12 f10 c10

          case' pos =>
            by_cases he2 : t2 = dq
            case' neg =>
              have hb1 : (t1 == dp) = true := beq_iff_eq.2 he1
              have hb2 : (t2 == dq) = false := beq_eq_false_iff_ne.2 he2
              have hcf : viewOne T D q.1 = { sdOf q.1 with path := copyB pa (dp, dq) } := by
                unfold viewOne
                rw [if_pos (.inr (by rw [HI.out.2.2.2.1, HI.out.2.2.2.2.2.2.2.2.2.1]; intro h; exact he2 (by rw [HX.out.2.2, h]))), HI.out.2.2.2.1, HI.out.2.2.2.2.2.2.2.2.2.1]
              have HCF := bx hcf
              clear hcf
              go_wp2_with fail
              refine (pcopy_any pa (dp, dq) (by have := HI.out.2.2.2.2.2.2.2.1; omega) HI.out.2.2.2.2.2.2.2.2.1.1 HI.out.2.2.2.2.2.2.2.2.1.2.1 HI.out.2.2.2.2.2.2.2.2.1.2.2.1 HI.out.2.2.2.2.2.2.2.2.1.2.2.2 W9 (HTB.out.to H9.out.2.2.2.2.2.1)).mono ?_
              rintro e w10 ⟨rfl, b10⟩
              have n10 := BC_blk1 b10 H9.out.2.2.2.1
              have f10 := free_row n10 0
              have c10 := cell_row n10 0 (v := .string pa) (by rw [H9.out.2.2.1, ← HI.out.2.2.2.1]; rfl)
              obtain ⟨cp, hcp⟩ : ∃ x, x = copyB pa (dp, dq) := ⟨_, rfl⟩
              rw [← hcp]
              have n12 : (w10.setCell ⟨g9, 0, none⟩ (.string cp)).heap[g9]? = some (.cells (sdC (viewOne T D q.1)).toArray 40 (0, 0)) := by
                rw [Go.heap_setCell_same w10 g9 0 _ _ _ n10, H9.out.2.2.1, HCF.out, ← hcp]
                rfl
              obtain ⟨W12, hW12⟩ : ∃ W, W = w10.setCell ⟨g9, 0, none⟩ (.string cp) := ⟨_, rfl⟩
              have b12 : BC w1 W12 := by
                rw [hW12]
                exact Below.setCell (BC_trans H9.out.2.2.2.2.1 b10) (by have h1 := (show Below w1.heap.size w1 W8 from H8.out.2.2.2.2.2.2.2.2.1).size; have h2 := H9.out.2.1; show w1.heap.size ≤ g9; omega) _
              have x12 : OwnG shSd w1.heap.size W12 u5 (sdR (viewK es T D i)) := by
                rw [hW12]
                exact ownsRow_setCell_other (HR.out.1.below (BC_trans H9.out.2.2.2.2.2.2 b10)) (fun e => by
                  have h := (World.ownsRow.lt HR.out.1 _ e).2
                  have h2 : g9 < wr.heap.size := h
                  have h3 := H9.out.2.1
                  have h4 := (show Below wr.heap.size wr W8 from H8.out.2.2.1).size
                  omega) _
              rw [← hW12] at n12
              have H12 := bx (And.intro n12 (And.intro b12 x12))
              have HW12 := bx hW12
              clear hcp hW12 n10 n12 b12 x12 b10 hl1 hl2 k0 k1 k4 hx0 he1 hb1 he2 hb2
              go_upto_region 10 with fail
              rw [← HW12.out]
              clear HW12 f10 c10

            case' pos =>
              have hb1 : (t1 == dp) = true := beq_iff_eq.2 he1
              have hb2 : (t2 == dq) = true := beq_iff_eq.2 he2
              have hcf : viewOne T D q.1 = sdOf q.1 := by
                unfold viewOne
                rw [if_neg ?_]
                rw [HI.out.2.2.2.1, HI.out.2.2.2.2.2.2.2.2.2.1, ← HX.out.1]
                rintro (h | h)
                · exact hx0 h
                · exact h (Prod.ext (by rw [← HX.out.2.1]; exact he1) (by rw [← HX.out.2.2]; exact he2))
              obtain ⟨W12, hW12⟩ : ∃ W, W = W9 := ⟨_, rfl⟩
              have H12 := bx (And.intro (show W12.heap[g9]? = some (.cells (sdC (viewOne T D q.1)).toArray 40 (0, 0)) by rw [hW12, hcf, ← H9.out.2.2.1]; exact H9.out.2.2.2.1) (And.intro (show BC w1 W12 by rw [hW12]; exact H9.out.2.2.2.2.1) (show OwnG shSd w1.heap.size W12 u5 (sdR (viewK es T D i)) by rw [hW12]; exact HR.out.1.below H9.out.2.2.2.2.2.2)))
              have HW12 := bx hW12
              clear hW12 hcf
              go_upto_region 10 with fail
              rw [← HW12.out]
              clear HW12 hl1 hl2 k0 k1 k4 hx0 he1 hb1 he2 hb2
        all_goals
          focus
            obtain ⟨SE, hSE⟩ : ∃ S, S = (sdC (viewOne T D q.1)).toArray := ⟨_, rfl⟩
            have n12 := H12.out.1
            rw [← hSE] at n12
            obtain ⟨W13, hW13⟩ : ∃ W, W = W12.alloc (.cells SE 40) := ⟨_, rfl⟩
            have n13 := heap_alloc_new W12 (.cells SE 40)
            have b13 := below1 W12 (.cells SE 40)
            rw [← hW13] at n13 b13
            have hr13 : W13.rangeAt W12.heap.size 0 (sdC (viewOne T D q.1)) := fun j u hj => by
              rw [Nat.zero_add]
              refine cell_row n13 j ?_
              rw [hSE, List.getElem?_toArray]
              exact hj
            have hSEz : SE.size = 36 := by rw [hSE]; simpa using sdC_len _
            have hll : (sdR (viewK es T D i)).length ≤ 1000000 := by have h1 := viewK_len es T D i; have h2 := HR.out.2.2; have h3 := HV.out.2.2.2.2.1; simp [sdR]; omega
            have HT := bx (And.intro n12 (And.intro hW13 (And.intro hr13 (And.intro (H12.out.2.2.below b13) (And.intro (BC_trans H12.out.2.1 b13).size (And.intro (BC_trans H12.out.2.1 b13) (And.intro hSEz hll)))))))
            have HTs := bx (And.intro (show (Value.agg SE).cells.size = shSd.n from hSEz) (And.intro (show (sdC (viewOne T D q.1)).length = shSd.n from sdC_len _) (sdC_one (viewOne T D q.1))))
            clear hSE n12 hW13 n13 b13 hr13 hSEz hll
            go_wp2_with (first
              | ((with_reducible refine wlw_load_row (o := ⟨some 53, _, _, _, _, _⟩) ?_ 40 (.tmp 8) ?_ _ ?_ _ SE _ _ HT.out.1 Tryd.underlying40 ?_ ?_ ?_); (focus rfl); (focus rfl); (focus rfl); (focus rfl); (focus (rw [HT.out.2.2.2.2.2.2.1]; kernel_rfl)))
              | ((with_reducible refine wl_build1G shSd shSd_ok (o := ⟨some 54, _, _, _, _, _⟩) ?_ (.tmp 53) ?_ (.agg SE) ?_ HTs.out.1 ?_); (focus rfl); (focus rfl); (focus rfl); show wpList _ _ _ _ _ (W12.alloc (.cells SE 40)); rw [← HT.out.2.1])
              | ((with_reducible refine wl_append1G shSd shSd_ok (o := ⟨some 55, _, _, _, _, _⟩) ?_ (.tmp 52) (.tmp 54) ?_ w1.heap.size _ (sdR (viewK es T D i)) ?_ HT.out.2.2.2.1 W12.heap.size 0 1 ?_ (sdC (viewOne T D q.1)) HT.out.2.2.1 HTs.out.2.1 HTs.out.2.2 HT.out.2.2.2.2.2.2.2 HT.out.2.2.2.2.1 ?_); (focus rfl); (focus rfl); (focus rfl); (focus rfl); intro v5 w5 own5 b5))
            have own6 : OwnG shSd w1.heap.size w5 v5 (sdR (viewK es T D I1)) := by rw [HVK.out, sdR_append]; exact own5
            have b6 : BC w1 w5 := (show Below w1.heap.size w1 _ from HT.out.2.2.2.2.2.1).trans b5
            have HO := bx (And.intro own6 b6)
            clear own5 own6 b5 b6
            go_wp2_with fail
            go_roundw
            case rel => exact ⟨I1, by have := HI.out; omega, rfl, HO.out.1, HO.out.2⟩
            case measure => have := HI.out; simp [intOf]; omega
      · have hkb : (kd == 1) = false := beq_eq_false_iff_ne.2 hk1
        have hvk : viewK es T D I1 = viewK es T D i := by
          rw [HI.out.1, viewK, HI.out.2.2.1]
          simp only
          rw [if_neg (by rw [← HI.out.2.2.2.2.1]; exact hk1)]
        have HX := bx (And.intro (HR.out.1.below H8.out.2.2.1) (And.intro H8.out.2.2.2.2.2.2.2.2.1 hvk))
        clear hvk
        go_wp2_with fail
        go_roundw
        case rel => exact ⟨I1, by have := HI.out; omega, rfl, by rw [HX.out.2.2]; exact HX.out.1, HX.out.2.1⟩
        case measure => have := HI.out; simp [intOf]; omega
    · have hin : i = n := by have := HR.out.2.2; omega
      have hge : ¬ (i : Int) < (n : Int) := by omega
      have HF := bx hin
      have hlen : (viewK es T D i).length < 20 := by have h1 := viewK_len es T D i; have h3 := HV.out.2.2.2.2.1; omega
      have HSO := bx (sort_own w1.heap.size wr u5 (viewK es T D i) HR.out.1 hlen (show Below w1.heap.size w1 wr from HR.out.2.1).size)
      clear hin hlt hlen
      go_wp2_with fail
      refine HSO.out.mono ?_
      rintro e w9 ⟨rfl, hrd, hb9⟩
      have HE := bx (And.intro hrd (show BC w w9 from (show Below w.heap.size w wr from BC_trans HM.out.2.2 HR.out.2.1).trans (hb9.mono (show Below w.heap.size w w1 from HM.out.2.2).size)))
      clear hrd hb9
      go_wp2_with fail
      go_ret
      refine ⟨_, rfl, ?_, HE.out.2⟩
      rw [HV.out.2.2.2.2.2.2.2.2.2, ← HF.out]
      exact HE.out.1
end Go.Proofs.YtagdlbadkmgdmaaDoor
