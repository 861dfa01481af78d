/- The walks of slices.DeleteFunc at parts and of gather.Clear. -/
import Derived.Test.YtjnimbhecfpnmaaFind
import Derived.Test.YtjnimbhecfpnmaaIns
import Derived.Test.YtjnimbhecfpnmaaSplit
import Derived.Deep.Cut
namespace Go.Proofs.Ytjnimbhecfpnmaa
set_option maxRecDepth 100000
open Go.ChangeShapes Go.WideShapes Go.ChangeAt Go.RowKit

theorem zeroCells_35 (k : Nat) : (Builtin.zeroCells (Value.agg zpart).cells k).size = k * 35 := by simp only [Builtin.zeroCells, Array.size_map, Array.size_range, zpart_35P]
theorem zeroCells_one (k : Nat) : ∀ v ∈ (Builtin.zeroCells (Value.agg zpart).cells k).toList, v.oneCell' = true := by
  intro v hv
  simp only [Builtin.zeroCells, Array.toList_map, List.mem_map] at hv
  obtain ⟨i, _, rfl⟩ := hv
  have h := Array.all_eq_true_iff_forall_mem.1 zpart_one
  have hs : (Value.agg zpart).cells.size = 35 := zpart_35P
  have hi : i % (Value.agg zpart).cells.size < zpart.size := by show i % _ < (Value.agg zpart).cells.size; rw [hs]; exact Nat.mod_lt _ (by decide)
  show ((Value.agg zpart).cells[i % (Value.agg zpart).cells.size]!).oneCell' = true
  rw [getElem!_pos (Value.agg zpart).cells _ hi]
  exact h _ (Array.getElem_mem hi)
/-- clear of a part of a row -/
theorem run_clear_P (w : World) (ty : TypeId) (g o n c : Nat) (cur : List Value) (hg : w.heap[g]? = some (.cells cur.toArray 26 (0, 0))) (hfit : o + n * 35 ≤ cur.length) :
    ∃ (w' : World) (cur' : List Value), (Builtin.clear_ #[56] ty #[.slice (some ⟨g, o, none⟩) n c]).run Try.prog w = .ok (.tuple #[]) w' ∧ w'.heap[g]? = some (.cells cur'.toArray 26 (0, 0)) ∧ cur'.length = cur.length ∧ cur'.take o = cur.take o ∧ But g w w' := by
  cases n with
  | zero => exact ⟨w, cur, by simp [Builtin.clear_, run_underlying Try.underlying56], hg, rfl, rfl, But.refl _ _⟩
  | succ n =>
    have hst := run_storeCells_at Try.prog g o 26 (Builtin.zeroCells (Value.agg zpart).cells (n + 1)).toList 0 cur.toArray w hg (by rw [Array.length_toList, zeroCells_35]; simpa using hfit) (zeroCells_one _)
    refine ⟨_, splice cur o (Builtin.zeroCells (Value.agg zpart).cells (n + 1)).toList, ?_, setRow_heap w g _ _ _ _ hg, length_splice _ _ _ (by rw [Array.length_toList, zeroCells_35]; omega), ?_, ⟨by rw [setRow_size]; exact Nat.le_refl _, fun k _ hn => setRow_other _ _ _ _ hn, fun B w0 hB _ hb => below_row hb hB _⟩⟩
    · simp only [Nat.add_zero] at hst
      simp only [Builtin.clear_, Sem.run_bind, run_underlying Try.underlying56, Result.andThen_ok, zero_part w, hst, Sem.run_pure, splice, List.append_assoc, List.getElem?_toArray, List.getElem?_cons_zero]
    · unfold splice
      rw [List.take_append_of_le_length (by rw [List.length_take]; omega), List.take_take, Nat.min_self]
theorem wl_run {P : Program} {w : World} {ops : Array Oper} {rest : List Oper} {o : Oper} {a : Act} {Q : Exit → Act → World → Prop} (hgd : o.guard = none) (d : Operand) (dT : TypeId)
    (ho : o.op = .call { callee := .builtin .clear, args := #[d], argTypes := #[dT] }) (vd : Value) (hd : a.eval d = vd) (v' : Value) (w' : World)
    (hr : (Builtin.clear_ #[dT] o.type #[vd]).run P w = .ok v' w') (h : wpList P ops Q rest (a.put o.dst v') w') : wpList P ops Q (o :: rest) a w := by
  refine wpList_plain hgd fun _ hK => ?_
  unfold Oper.wp execOp
  simp only [ho, resolve, invoke, builtin, Sem.run_bind, Sem.run_pure, Result.andThen_ok, List.map_toArray, List.map_cons, List.map_nil, hd, hr]
  exact hK _ _ h
attribute [local irreducible] SlV Lies
attribute [local go_sem] takes takesE comesTo
set_option maxHeartbeats 8000000 in
theorem delete_any (f B : Nat) (hf : ∀ args w, (callFunc f args).run Try.prog w = .ok (.enter f args) w) (pr : Pt → Bool) (base : Nat) (s : Value) (qs : List (Pt × Value)) (w : World) (hs0 : OwnP base w s qs) (hbase : base ≤ w.heap.size) (hg : GoodQ w.heap.size w qs) (hn : qs.length ≤ 10000)
    (hp : ∀ W, Below base w W → ∀ q ∈ qs, Calls Try.prog f #[.agg (qC q).toArray, .pointer (some ⟨B, 0, none⟩)] W fun e w' => e = .returned (.bool (pr q.1)) ∧ Below W.heap.size W w') :
    Calls Try.prog 64 #[s, .func (.func f) #[] #[.pointer (some ⟨B, 0, none⟩)]] w fun e w' => ∃ v', e = .returned v' ∧ OwnP base w' v' (qs.filter (fun q => !pr q.1)) ∧ Below base w w' := by
  have hz := zero_part
  have hgood := hg
  obtain ⟨h1, ⟨rfl, h0⟩ | ⟨g, cap, cur, rfl, hb, hg1, hnc, hmax, hsz, ht⟩⟩ := hs0
  · have hq : qs = [] := List.eq_nil_of_length_eq_zero h0
    subst hq
    have HIX := Lib.hid (index_any f B hf pr (.slice none 0 0) [] w (RdP.nil _ _) (by simp) (fun W _ q hq => by simp at hq))
    rw [show posF pr (([] : List (Pt × Value)).map (·.1)) = -1 from rfl] at HIX
    go_enter Try.func64, Try.ntmps64
    go_wp2_with fail
    refine HIX.out.mono ?_
    rintro e w1 ⟨rfl, b1⟩
    have H1 := Lib.hid (b1.mono hbase)
    clear b1
    go_wp2_with fail
    go_ret
    exact ⟨_, rfl, OwnP.nil _ _, H1.out⟩
  have hrd : RdP w.heap.size w (.slice (some ⟨g, 0, none⟩) qs.length cap) qs := OwnP.rd ⟨h1, .inr ⟨g, cap, cur, rfl, hb, hg1, hnc, hmax, hsz, ht⟩⟩ hgood
  have HIX := Lib.hid (index_any f B hf pr _ qs w hrd (by omega) (fun W hW q hq => hp W (hW.mono hbase) q hq))
  obtain ⟨r, hr⟩ : ∃ r, r = posF pr (qs.map (·.1)) := ⟨_, rfl⟩
  rw [← hr] at HIX
  obtain ⟨n, hN⟩ : ∃ n, n = qs.length := ⟨_, rfl⟩
  rw [← hN] at HIX ⊢
  have HH := Lib.hid (And.intro hgood (And.intro hbase (And.intro hn (And.intro hp (And.intro hN (And.intro hb (And.intro hg1 (And.intro hnc (And.intro hmax (And.intro hsz ht))))))))))
  by_cases hany : (qs.map (·.1)).any pr = true
  · have hr2 : r = ((qs.map (·.1)).findIdx pr : Int) := by rw [hr]; unfold posF; rw [if_pos hany]
    obtain ⟨k, hk⟩ : ∃ k, k = (qs.map (·.1)).findIdx pr := ⟨_, rfl⟩
    rw [← hk] at hr2
    subst hr2
    have hkl : k < (qs.map (·.1)).length := by rw [hk, List.findIdx_lt_length]; exact List.any_eq_true.1 hany
    have hkp : pr ((qs.map (·.1))[k]) = true := by have := List.findIdx_getElem (w := by rw [← hk]; exact hkl) (p := pr) (xs := qs.map (·.1)); simpa [← hk] using this
    have hkn : ∀ j (hj : j < k), pr ((qs.map (·.1))[j]'(by omega)) = false := fun j hj => by
      have := List.not_of_lt_findIdx (p := pr) (xs := qs.map (·.1)) (i := j) (by rw [← hk]; exact hj)
      simpa using this
    have hft : (qs.take (k + 1)).filter (fun q => !pr q.1) = qs.take k := by
      rw [List.length_map] at hkl
      rw [List.take_succ_eq_append_getElem hkl, List.filter_append]
      have h2 : [qs[k]].filter (fun q => !pr q.1) = [] := by rw [List.getElem_map] at hkp; simp [hkp]
      rw [h2, List.append_nil, List.filter_eq_self]
      intro q hq
      obtain ⟨j, hj, rfl⟩ := List.getElem_of_mem hq
      rw [List.length_take] at hj
      have := hkn j (by omega)
      rw [List.getElem_map] at this
      rw [List.getElem_take, this]; rfl
    rw [List.length_map] at hkl
    obtain ⟨K1, hK1⟩ : ∃ m, m = k + 1 := ⟨_, rfl⟩
    have s1 : IntKind.i64.wrap ((k : Int) + 1) = (K1 : Int) := by rw [IntKind.wrap_i64]; omega
    have e1 : ((k : Int) == -1) = false := beq_eq_false_iff_ne.2 (by omega)
    have htk : cur.toList.take (k * 35) = flatQ (qs.take k) := by
      rw [← flatQ_take hgood.wh k (by omega), ← ht, List.take_take, Nat.min_eq_left (by omega)]
    have HK := Lib.hid (And.intro hK1 (And.intro hkl (And.intro hft htk)))
    clear hr hk hkl hkp hkn hft hK1 htk hany hgood hbase hn hp hN hb hg1 hnc hmax hsz ht h1 hrd hg
    go_enter Try.func64, Try.ntmps64
    go_wp2_with fail
    refine HIX.out.mono ?_
    rintro e w1 ⟨rfl, b1⟩
    have H1 := Lib.hid (And.intro (BC_blk1 b1 HH.out.2.2.2.2.2.2.1) (b1.mono HH.out.2.1))
    clear b1
    go_wp2_with fail
    go_loopw [5, 6] (fun v5 v6 wr => ∃ (i j : Nat) (cu : List Value), i < j ∧ j ≤ n ∧ v5 = .int .i64 (i : Int) ∧ v6 = .int .i64 (j : Int) ∧ wr.heap[g]? = some (.cells cu.toArray 26 (0, 0)) ∧ cu.length = cap * 35 ∧ i = ((qs.take j).filter (fun q => !pr q.1)).length ∧ cu.take (i * 35) = flatQ ((qs.take j).filter (fun q => !pr q.1)) ∧ (∀ x, j * 35 ≤ x → x < n * 35 → cu[x]? = (flatQ qs)[x]?) ∧ Below base w wr) (fun _ j _ => n - (intOf j).toNat)
    case atStart =>
      refine ⟨k, K1, cur.toList, by have := HK.out; omega, by have := HK.out; have := HH.out; omega, rfl, rfl, by simpa using H1.out.1, by rw [Array.length_toList]; exact HH.out.2.2.2.2.2.2.2.2.2.1, by rw [HK.out.1, HK.out.2.2.1, List.length_take]; have := HK.out; omega, by rw [HK.out.1, HK.out.2.2.1]; exact HK.out.2.2.2, fun x _ hx => ?_, H1.out.2⟩
      rw [← HH.out.2.2.2.2.2.2.2.2.2.2, List.getElem?_take_of_lt (by have := HH.out.2.2.2.2.1; omega)]
    case round =>
      obtain ⟨i, j, cu, hij, hj, rfl, rfl, hrg, hcl, hil, htk, hrest, hbr⟩ := hrel
      have HR := Lib.hid (And.intro hij (And.intro hj (And.intro hrg (And.intro hcl (And.intro hil (And.intro htk (And.intro hrest hbr)))))))
      clear hcl hil htk hrest hbr hrg
      by_cases hlt : j < n
      · have hjq : j < qs.length := by have := HH.out.2.2.2.2.1; omega
        have j0 : (0 : Int) ≤ (j : Int) := by omega
        have j1 : (j : Int) < (n : Int) := by omega
        have i0 : (0 : Int) ≤ (i : Int) := by omega
        have i1 : (i : Int) < (n : Int) := by omega
        obtain ⟨J1, hJ1⟩ : ∃ m, m = j + 1 := ⟨_, rfl⟩
        obtain ⟨I1, hI1⟩ : ∃ m, m = i + 1 := ⟨_, rfl⟩
        have hn2 := HH.out.2.2.1
        have hn3 := HH.out.2.2.2.2.1
        have s2 : IntKind.i64.wrap ((j : Int) + 1) = (J1 : Int) := by rw [IntKind.wrap_i64]; omega
        have s3 : IntKind.i64.wrap ((i : Int) + 1) = (I1 : Int) := by rw [IntKind.wrap_i64]; omega
        obtain ⟨q, hq⟩ : ∃ q, q = qs[j] := ⟨_, rfl⟩
        have hqm : q ∈ qs := by rw [hq]; exact List.getElem_mem hjq
        have hrgq : wr.rangeAt g (j * 35) (qC q).toArray.toList := fun x u hx => by
          have hx2 : (qC q)[x]? = some u := hx
          have hxl : x < 35 := by have := (List.getElem?_eq_some_iff.1 hx2).1; rwa [qC_len (HH.out.1.wh q hqm)] at this
          refine cell_row HR.out.2.2.1 _ ?_
          rw [List.getElem?_toArray, HR.out.2.2.2.2.2.2.1 _ (by omega) (by omega), flatQ_get HH.out.1.wh hjq hxl, ← hq]
          exact hx2
        have hsz35 := qC_size (HH.out.1.wh q hqm)
        have hone : (qC q).toArray.all (·.oneCell') = true := by rw [Array.all_eq_true_iff_forall_mem]; intro v hv; exact qC_one (HH.out.1 q hqm).2.one v (by simpa using hv)
        have hft : (qs.take J1).filter (fun q => !pr q.1) = (qs.take j).filter (fun q => !pr q.1) ++ (if pr q.1 then [] else [q]) := by
          rw [hJ1, List.take_succ_eq_append_getElem hjq, List.filter_append, ← hq]
          cases hpq : pr q.1 <;> simp [hpq]
        have hcq := hqm
        obtain ⟨C, hC⟩ : ∃ C, C = (qC q).toArray := ⟨_, rfl⟩
        have HCALL : Hid (∀ W, Below base w W → Calls Try.prog f #[.agg C, .pointer (some ⟨B, 0, none⟩)] W fun e w' => e = .returned (.bool (pr q.1)) ∧ Below W.heap.size W w') := Lib.hid fun W hW => by rw [hC]; exact HH.out.2.2.2.1 W hW q hqm
        rw [← hC] at hrgq hsz35 hone
        have HRG := Lib.hid (And.intro hrgq (And.intro hsz35 (And.intro hone hC)))
        obtain ⟨W3, hW3⟩ : ∃ W, W = wr.alloc (.cells C 26) := ⟨_, rfl⟩
        obtain ⟨g3, hg3⟩ : ∃ g, g = wr.heap.size := ⟨_, rfl⟩
        have n3 := heap_alloc_new wr (.cells C 26)
        have b3 := below1 wr (.cells C 26)
        rw [← hW3, ← hg3] at n3
        rw [← hW3] at b3
        have H3 := Lib.hid (And.intro n3 (And.intro (BC_blk1 b3 HR.out.2.2.1) (And.intro (BC_below HR.out.2.2.2.2.2.2.2 (Nat.le_trans HH.out.2.1 HR.out.2.2.2.2.2.2.2.size) b3) (And.intro hW3 hg3))))
        obtain ⟨x, hx⟩ : ∃ x, x = pr q.1 := ⟨_, rfl⟩
        rw [← hx] at HCALL hft
        have HJ := Lib.hid (And.intro hJ1 (And.intro hI1 (And.intro hlt hft)))
        clear hJ1 hI1 hlt hft hrgq hsz35 hone hC hW3 hg3 n3 b3 hx hcq hqm hq hjq hn2 hn3
        go_upto_region 8 with (first | ((with_reducible refine wlw_load_mid (o := ⟨some 25, _, _, _, _, _⟩) ?_ 26 (.tmp 24) ?_ _ _ ?_ C _ HRG.out.1 Try.underlying26 ?_ ?_ ?_); (focus rfl); (focus rfl); (focus rfl); (focus rfl); (focus (rw [HRG.out.2.1]; kernel_rfl))) | (refine wpList_store_rowTo rfl 26 _ _ rfl rfl _ C rfl rfl 26 zpart (heap_alloc_new wr _) (by rw [HRG.out.2.1]; kernel_rfl) (by rw [HRG.out.2.1]; kernel_rfl) HRG.out.2.2.1 ?_; rw [World.setRow_alloc_new]))
        rw [← H3.out.2.2.2.1, ← H3.out.2.2.2.2]
        go_wp2_with ((with_reducible refine wlw_load_row (o := ⟨some 27, _, _, _, _, _⟩) ?_ 26 (.tmp 7) ?_ _ ?_ _ C _ _ H3.out.1 Try.underlying26 ?_ ?_ ?_); (focus rfl); (focus rfl); (focus rfl); (focus rfl); (focus (rw [HRG.out.2.1]; kernel_rfl)))
        refine (HCALL.out W3 H3.out.2.2.1).mono ?_
        rintro e w4 ⟨rfl, b4⟩
        have H4 := Lib.hid (And.intro (BC_blk1 b4 H3.out.1) (And.intro (BC_blk1 b4 H3.out.2.1) (BC_below H3.out.2.2.1 (Nat.le_trans HH.out.2.1 H3.out.2.2.1.size) b4)))
        clear b4
        cases x with
        | true =>
          have hfe : (qs.take J1).filter (fun q => !pr q.1) = (qs.take j).filter (fun q => !pr q.1) := by rw [HJ.out.2.2.2]; simp
          have HFE := Lib.hid hfe
          clear hfe
          go_wp2_with fail
          go_roundw
          case rel => exact ⟨i, J1, cu, by have := HJ.out; omega, by have := HJ.out; omega, rfl, rfl, H4.out.2.1, HR.out.2.2.2.1, by rw [HFE.out]; exact HR.out.2.2.2.2.1, by rw [HFE.out]; exact HR.out.2.2.2.2.2.1, fun x hx hx2 => HR.out.2.2.2.2.2.2.1 x (by have := HJ.out; omega) hx2, H4.out.2.2⟩
          case measure => have := HJ.out; simp [intOf]; omega
        | false =>
          have hfe : (qs.take J1).filter (fun q => !pr q.1) = (qs.take j).filter (fun q => !pr q.1) ++ [q] := by rw [HJ.out.2.2.2]; simp
          have HFE := Lib.hid hfe
          have hfit : i * 35 + C.size ≤ cu.length := by rw [HRG.out.2.1, HR.out.2.2.2.1]; have := HH.out; omega
          have HFIT := Lib.hid hfit
          clear hfe hfit
          go_wp2_with (first
            | ((with_reducible refine wlw_load_row (o := ⟨some 32, _, _, _, _, _⟩) ?_ 26 (.tmp 7) ?_ _ ?_ _ C _ _ H4.out.1 Try.underlying26 ?_ ?_ ?_); (focus rfl); (focus rfl); (focus rfl); (focus rfl); (focus (rw [HRG.out.2.1]; kernel_rfl)))
            | ((with_reducible refine wl_store_part (o := ⟨none, _, _, _, _, _⟩) ?_ 26 (.tmp 33) (.tmp 32) ?_ ?_ g (i * 35) C ?_ ?_ ?_ HRG.out.2.2.1 H4.out.2.1 HFIT.out ?_); (focus rfl); (focus rfl); (focus rfl); (focus rfl); (focus rfl); (focus (rw [HRG.out.2.1]; kernel_rfl)); intro W5 hg5 but5))
          have hC5 : C.toList = qC q := by rw [HRG.out.2.2.2]
          have hcl5 : (splice cu (i * 35) C.toList).length = cap * 35 := by rw [length_splice _ _ _ (by rw [Array.length_toList]; exact HFIT.out)]; exact HR.out.2.2.2.1
          have htk5 : (splice cu (i * 35) C.toList).take (I1 * 35) = flatQ ((qs.take j).filter (fun q => !pr q.1)) ++ qC q := by
            have hl : (cu.take (i * 35)).length = i * 35 := by rw [List.length_take]; have := HFIT.out; omega
            unfold splice
            rw [← List.append_assoc, HR.out.2.2.2.2.2.1, hC5]
            have e : I1 * 35 = (flatQ ((qs.take j).filter (fun q => !pr q.1)) ++ qC q).length := by
              rw [List.length_append, ← HR.out.2.2.2.2.2.1, hl, ← hC5, Array.length_toList, HRG.out.2.1]; have := HJ.out; omega
            rw [e, List.take_left]
          have hrest5 : ∀ x, J1 * 35 ≤ x → x < n * 35 → (splice cu (i * 35) C.toList)[x]? = (flatQ qs)[x]? := fun x hx hx2 => by
            have hl : (cu.take (i * 35)).length = i * 35 := by rw [List.length_take]; have := HFIT.out; omega
            have hcs : C.toList.length = 35 := by rw [Array.length_toList]; exact HRG.out.2.1
            have h1 := HJ.out
            have h2 := HR.out.1
            unfold splice
            rw [List.getElem?_append_right (by omega), List.getElem?_append_right (by omega), List.getElem?_drop, hl, hcs, show i * 35 + 35 + (x - i * 35 - 35) = x by omega]
            exact HR.out.2.2.2.2.2.2.1 x (by omega) hx2
          have hb5 : Below base w W5 := but5.below base w HH.out.2.2.2.2.2.1 (Nat.le_trans HH.out.2.1 H4.out.2.2.size) H4.out.2.2
          have HO := Lib.hid (And.intro hg5 (And.intro hcl5 (And.intro htk5 (And.intro hrest5 hb5))))
          clear hg5 but5 hC5 hcl5 htk5 hrest5 hb5
          go_wp2_with fail
          go_roundw
          case rel => exact ⟨I1, J1, _, by have := HJ.out; have := HR.out.1; omega, by have := HJ.out; omega, rfl, rfl, HO.out.1, HO.out.2.1, by rw [HFE.out, List.length_append, ← HR.out.2.2.2.2.1, HJ.out.2.1]; rfl, by rw [HFE.out, flatQ_append, HO.out.2.2.1]; simp [flatQ], HO.out.2.2.2.1, HO.out.2.2.2.2⟩
          case measure => have := HJ.out; simp [intOf]; omega
      · have hjn : j = n := by omega
        have hge : ¬ (j : Int) < (n : Int) := by omega
        have i2 : (i : Int) ≤ (n : Int) := by omega
        have i3 : (0 : Int) ≤ (i : Int) := by omega
        have i4 : ¬ cap = i := by have := HH.out; have := HR.out; omega
        have i5 : (i : Int) ≤ (cap : Int) := by have := HH.out; omega
        obtain ⟨w5, cu5, hrun, hg5, hcl5, htk5, but5⟩ := run_clear_P wr 0 g (i * 35) (n - i) (cap - i) cu HR.out.2.2.1 (by rw [HR.out.2.2.2.1]; have := HH.out; omega)
        have hall : (qs.take j).filter (fun q => !pr q.1) = qs.filter (fun q => !pr q.1) := by rw [hjn, HH.out.2.2.2.2.1, List.take_length]
        have hb5 : Below base w w5 := but5.below base w HH.out.2.2.2.2.2.1 (Nat.le_trans HH.out.2.1 HR.out.2.2.2.2.2.2.2.size) HR.out.2.2.2.2.2.2.2
        have hown : OwnP base w5 (.slice (some ⟨g, 0, none⟩) i cap) (qs.filter (fun q => !pr q.1)) := by
          have hl : (qs.filter (fun q => !pr q.1)).length = i := by rw [← hall]; exact HR.out.2.2.2.2.1.symm
          unfold OwnP
          rw [hl]
          refine ⟨by rw [← hl]; exact flatQ_len fun q hq => HH.out.1.wh q ((List.mem_filter.1 hq).1), .inr ⟨g, cap, cu5.toArray, rfl, HH.out.2.2.2.2.2.1, hg5, by have := HH.out; have := HR.out; omega, HH.out.2.2.2.2.2.2.2.2.1, by simpa using hcl5.trans HR.out.2.2.2.1, ?_⟩⟩
          show cu5.take (i * 35) = _
          rw [htk5, HR.out.2.2.2.2.2.1, hall]
        have HO := Lib.hid (And.intro hrun (And.intro hown hb5))
        clear hrun hg5 hcl5 htk5 but5 hall hb5 hown hlt hjn
        go_wp2_with ((with_reducible refine wl_run (o := ⟨none, _, _, _, _, _⟩) ?_ (.tmp 38) 56 ?_ _ ?_ _ _ HO.out.1 ?_); (focus rfl); (focus rfl); (focus rfl))
        go_ret
        exact ⟨_, rfl, HO.out.2.1, HO.out.2.2⟩
  · have hr2 : r = -1 := by rw [hr]; unfold posF; rw [if_neg hany]
    subst hr2
    have hfl : qs.filter (fun q => !pr q.1) = qs := by
      rw [List.filter_eq_self]
      intro q hq
      cases hpq : pr q.1
      · rfl
      · exact absurd (List.any_eq_true.2 ⟨q.1, List.mem_map_of_mem hq, hpq⟩) hany
    have hown0 : OwnP base w (.slice (some ⟨g, 0, none⟩) n cap) qs := by rw [hN]; exact ⟨h1, .inr ⟨g, cap, cur, rfl, hb, hg1, hnc, hmax, hsz, ht⟩⟩
    have HF := Lib.hid (And.intro hfl (And.intro hown0 hbase))
    clear hr hany hgood hbase hn hp hN hb hg1 hnc hmax hsz ht h1 hrd hg hfl hown0
    go_enter Try.func64, Try.ntmps64
    go_wp2_with fail
    refine HIX.out.mono ?_
    rintro e w1 ⟨rfl, b1⟩
    have H1 := Lib.hid b1
    clear b1
    go_wp2_with fail
    go_ret
    exact ⟨_, rfl, by rw [HF.out.1]; exact HF.out.2.1.below H1.out, H1.out.mono HF.out.2.2⟩
theorem clr_any (q : Pt × Value) (hq : q.1.wh.length = 32) (wh : List Int) (hw : wh.length = 32) (B : Nat) (w : World) (hB : w.heap[B]? = some (.cells (row .u8 wh) 23 (0, 0))) :
    Calls Try.prog 65 #[.agg (qC q).toArray, .pointer (some ⟨B, 0, none⟩)] w fun e w' => e = .returned (.bool (decide (q.1.wh = wh))) ∧ Below w.heap.size w w' := by
  have heq : ∀ w, (binOp .eql 23 (.agg (row .u8 q.1.wh)) (.agg (row .u8 wh))).run Try.prog w = .ok (.bool (decide (q.1.wh = wh))) w := fun w => run_eql_row w 23 5 32 .u8 Try.underlying23 Try.underlying5 (by kernel_rfl) q.1.wh wh hq hw
  have hs1 : (row .u8 q.1.wh).size = 32 := by rw [row_size, hq]
  have hs2 : (row .u8 wh).size = 32 := by rw [row_size, hw]
  have hmid : ∀ (W : World) (g : Nat), W.heap[g]? = some (.cells (qC q).toArray 26 (0, 0)) → W.rangeAt g 0 (row .u8 q.1.wh).toList := fun W g h => lies_range (lies_whole h)
  have n1 := hmid _ _ (heap_alloc_new w (.cells (qC q).toArray 26))
  have b1 := below1 w (.cells (qC q).toArray 26)
  have HF := Lib.hid (And.intro n1 (And.intro b1 (And.intro ((b1.block _ (blk_lt hB)).trans hB) (And.intro hs1 hs2))))
  clear hmid n1 b1 hs1 hs2 hB hq hw
  generalize (qC q).toArray = C at *
  generalize row .u8 q.1.wh = R1 at *
  generalize row .u8 wh = R2 at *
  generalize decide (q.1.wh = wh) = x at *
  go_enter Try.func65, Try.ntmps65
  go_wp2_with (first | ((with_reducible refine wlw_load_mid (o := ⟨some 5, _, _, _, _, _⟩) ?_ 23 (.tmp 4) ?_ _ _ ?_ R1 _ HF.out.1 Try.underlying23 ?_ ?_ ?_); (focus rfl); (focus rfl); (focus rfl); (focus rfl); (focus (rw [HF.out.2.2.2.1]; kernel_rfl))) | ((with_reducible refine wlw_load_row (o := ⟨some 6, _, _, _, _, _⟩) ?_ 23 (.tmp 1) ?_ _ ?_ _ R2 _ _ HF.out.2.2.1 Try.underlying23 ?_ ?_ ?_); (focus rfl); (focus rfl); (focus rfl); (focus rfl); (focus (rw [HF.out.2.2.2.2]; kernel_rfl))))
  go_ret
  exact ⟨rfl, HF.out.2.1⟩
theorem clear_any (v : Value) (qs : List (Pt × Value)) (wh : List Int) (hw : wh.length = 32) (w : World) (hv : RdP w.heap.size w v qs) (hn : qs.length ≤ 10000) :
    Calls Try.prog 34 #[v, .agg (row .u8 wh)] w fun e w' => ∃ v', e = .returned v' ∧ RdP w'.heap.size w' v' (qs.filter (fun q => !decide (q.1.wh = wh))) ∧ Below w.heap.size w w' := by
  obtain ⟨W0, hW0⟩ : ∃ W, W = w.alloc (.cells (row .u8 wh) 23) := ⟨_, rfl⟩
  obtain ⟨B, hB⟩ : ∃ B, B = w.heap.size := ⟨_, rfl⟩
  have n0 := heap_alloc_new w (.cells (row .u8 wh) 23)
  have b0 := below1 w (.cells (row .u8 wh) 23)
  rw [← hW0, ← hB] at n0
  rw [← hW0] at b0
  have HCL := Lib.hid (pclone_any v qs W0 (hv.to b0) (by omega))
  have H0 := Lib.hid (And.intro b0 (And.intro n0 (And.intro hW0 (And.intro hB (And.intro hv (And.intro hn hw))))))
  obtain ⟨va, vc, rfl⟩ := hv.form
  clear n0 b0 hW0 hB hv hn hw
  obtain ⟨R2, hR2⟩ : ∃ R, R = row .u8 wh := ⟨_, rfl⟩
  rw [← hR2] at H0 ⊢
  have HR2 := Lib.hid hR2
  clear hR2
  go_enter Try.func34, Try.ntmps34
  go_upto_region 1 with fail
  rw [← H0.out.2.2.1, ← H0.out.2.2.2.1]
  go_wp2_with fail
  refine HCL.out.mono ?_
  rintro e w1 ⟨v1, rfl, own1, b1⟩
  have hbw : Below w.heap.size w w1 := BC_below H0.out.1 H0.out.1.size b1
  have hg : GoodQ w1.heap.size w1 qs := H0.out.2.2.2.2.1.1.to hbw
  have hd := delete_any 65 B (enters_of Try.func65 (by kernel_rfl) rfl) (fun p => decide (p.wh = wh)) W0.heap.size v1 qs w1 own1 b1.size hg H0.out.2.2.2.2.2.1 (fun W hW q hq => by
    refine clr_any q (hg.wh q hq) wh H0.out.2.2.2.2.2.2 B W ?_
    have h := BC_blk1 b1 H0.out.2.1
    rw [HR2.out] at h
    exact (hW.block B (blk_lt H0.out.2.1)).trans h)
  have HD := Lib.hid hd
  have H1 := Lib.hid (And.intro hbw (And.intro hg b1))
  clear hbw hg b1 own1 hd
  go_wp2_with fail
  refine HD.out.mono ?_
  rintro e w2 ⟨v2, rfl, own2, b2⟩
  have hb2 : Below w.heap.size w w2 := H1.out.1.trans (b2.mono H0.out.1.size)
  have HF := Lib.hid (And.intro own2 (And.intro hb2 b2))
  clear own2 hb2 b2
  go_wp2_with fail
  go_ret
  refine ⟨_, rfl, HF.out.1.rd ?_, HF.out.2.1⟩
  exact (H0.out.2.2.2.2.1.1.to HF.out.2.1).sub fun q hq => (List.mem_filter.1 hq).1
end Go.Proofs.Ytjnimbhecfpnmaa
