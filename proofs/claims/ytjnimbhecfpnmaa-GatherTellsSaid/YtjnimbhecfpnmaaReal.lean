/- The walks of slices.DeleteFunc at parts and of gather.Clear. -/
import Derived.Test.YtjnimbhecfpnmaaFind
import Derived.Test.YtjnimbhecfpnmaaIns
import Derived.Test.YtjnimbhecfpnmaaSplit
import Derived.Deep.Cut
import Derived.Test.YtjnimbhecfpnmaaOpenP
import Derived.Test.YtjnimbhecfpnmaaSame18
import Derived.ChangeArms
namespace Go.Proofs.Ytjnimbhecfpnmaa
section -- Clear
set_option maxRecDepth 100000
open Go.ChangeShapes Go.WideShapes Go.ChangeAt Go.RowKit

theorem zeroCells_35 (k : Nat) : (Builtin.zeroCells (Value.agg zpart).cells k).size = k * 35 := by simp only [Builtin.zeroCells, Array.size_map, Array.size_range, zpart_35P]
theorem zeroCells_one (k : Nat) : ∀ v ∈ (Builtin.zeroCells (Value.agg zpart).cells k).toList, v.oneCell' = true := by
  intro v hv
  simp only [Builtin.zeroCells, Array.toList_map, List.mem_map] at hv
  obtain ⟨i, _, rfl⟩ := hv
  have h := Array.all_eq_true_iff_forall_mem.1 zpart_one
  have hs : (Value.agg zpart).cells.size = 35 := zpart_35P
  have hi : i % (Value.agg zpart).cells.size < zpart.size := by show i % _ < (Value.agg zpart).cells.size; rw [hs]; exact Nat.mod_lt _ (by decide)
  show ((Value.agg zpart).cells[i % (Value.agg zpart).cells.size]!).oneCell' = true
  rw [getElem!_pos (Value.agg zpart).cells _ hi]
  exact h _ (Array.getElem_mem hi)
/-- clear of a part of a row -/
theorem run_clear_P (w : World) (ty : TypeId) (g o n c : Nat) (cur : List Value) (hg : w.heap[g]? = some (.cells cur.toArray 26 (0, 0))) (hfit : o + n * 35 ≤ cur.length) :
    ∃ (w' : World) (cur' : List Value), (Builtin.clear_ #[56] ty #[.slice (some ⟨g, o, none⟩) n c]).run Try.prog w = .ok (.tuple #[]) w' ∧ w'.heap[g]? = some (.cells cur'.toArray 26 (0, 0)) ∧ cur'.length = cur.length ∧ cur'.take o = cur.take o ∧ But g w w' := by
  cases n with
  | zero => exact ⟨w, cur, by simp [Builtin.clear_, run_underlying Try.underlying56], hg, rfl, rfl, But.refl _ _⟩
  | succ n =>
    have hst := run_storeCells_at Try.prog g o 26 (Builtin.zeroCells (Value.agg zpart).cells (n + 1)).toList 0 cur.toArray w hg (by rw [Array.length_toList, zeroCells_35]; simpa using hfit) (zeroCells_one _)
    refine ⟨_, splice cur o (Builtin.zeroCells (Value.agg zpart).cells (n + 1)).toList, ?_, setRow_heap w g _ _ _ _ hg, length_splice _ _ _ (by rw [Array.length_toList, zeroCells_35]; omega), ?_, ⟨by rw [setRow_size]; exact Nat.le_refl _, fun k _ hn => setRow_other _ _ _ _ hn, fun B w0 hB _ hb => below_row hb hB _⟩⟩
    · simp only [Nat.add_zero] at hst
      simp only [Builtin.clear_, Sem.run_bind, run_underlying Try.underlying56, Result.andThen_ok, zero_part w, hst, Sem.run_pure, splice, List.append_assoc, List.getElem?_toArray, List.getElem?_cons_zero]
    · unfold splice
      rw [List.take_append_of_le_length (by rw [List.length_take]; omega), List.take_take, Nat.min_self]
theorem wl_run {P : Program} {w : World} {ops : Array Oper} {rest : List Oper} {o : Oper} {a : Act} {Q : Exit → Act → World → Prop} (hgd : o.guard = none) (d : Operand) (dT : TypeId)
    (ho : o.op = .call { callee := .builtin .clear, args := #[d], argTypes := #[dT] }) (vd : Value) (hd : a.eval d = vd) (v' : Value) (w' : World)
    (hr : (Builtin.clear_ #[dT] o.type #[vd]).run P w = .ok v' w') (h : wpList P ops Q rest (a.put o.dst v') w') : wpList P ops Q (o :: rest) a w := by
  refine wpList_plain hgd fun _ hK => ?_
  unfold Oper.wp execOp
  simp only [ho, resolve, invoke, builtin, Sem.run_bind, Sem.run_pure, Result.andThen_ok, List.map_toArray, List.map_cons, List.map_nil, hd, hr]
  exact hK _ _ h
attribute [local irreducible] SlV Lies
attribute [local go_sem] takes takesE comesTo
set_option maxHeartbeats 8000000 in
theorem delete_any (f B : Nat) (hf : ∀ args w, (callFunc f args).run Try.prog w = .ok (.enter f args) w) (pr : Pt → Bool) (base : Nat) (s : Value) (qs : List (Pt × Value)) (w : World) (hs0 : OwnP base w s qs) (hbase : base ≤ w.heap.size) (hg : GoodQ w.heap.size w qs) (hn : qs.length ≤ 10000)
    (hp : ∀ W, Below base w W → ∀ q ∈ qs, Calls Try.prog f #[.agg (qC q).toArray, .pointer (some ⟨B, 0, none⟩)] W fun e w' => e = .returned (.bool (pr q.1)) ∧ Below W.heap.size W w') :
    Calls Try.prog 64 #[s, .func (.func f) #[] #[.pointer (some ⟨B, 0, none⟩)]] w fun e w' => ∃ v', e = .returned v' ∧ OwnP base w' v' (qs.filter (fun q => !pr q.1)) ∧ Below base w w' := by
  have hz := zero_part
  have hgood := hg
  obtain ⟨h1, ⟨rfl, h0⟩ | ⟨g, cap, cur, rfl, hb, hg1, hnc, hmax, hsz, ht⟩⟩ := hs0
  · have hq : qs = [] := List.eq_nil_of_length_eq_zero h0
    subst hq
    have HIX := Lib.hid (index_any f B hf pr (.slice none 0 0) [] w (RdP.nil _ _) (by simp) (fun W _ q hq => by simp at hq))
    rw [show posF pr (([] : List (Pt × Value)).map (·.1)) = -1 from rfl] at HIX
    go_enter Try.func64, Try.ntmps64
    go_wp2_with fail
    refine HIX.out.mono ?_
    rintro e w1 ⟨rfl, b1⟩
    have H1 := Lib.hid (b1.mono hbase)
    clear b1
    go_wp2_with fail
    go_ret
    exact ⟨_, rfl, OwnP.nil _ _, H1.out⟩
  have hrd : RdP w.heap.size w (.slice (some ⟨g, 0, none⟩) qs.length cap) qs := OwnP.rd ⟨h1, .inr ⟨g, cap, cur, rfl, hb, hg1, hnc, hmax, hsz, ht⟩⟩ hgood
  have HIX := Lib.hid (index_any f B hf pr _ qs w hrd (by omega) (fun W hW q hq => hp W (hW.mono hbase) q hq))
  obtain ⟨r, hr⟩ : ∃ r, r = posF pr (qs.map (·.1)) := ⟨_, rfl⟩
  rw [← hr] at HIX
  obtain ⟨n, hN⟩ : ∃ n, n = qs.length := ⟨_, rfl⟩
  rw [← hN] at HIX ⊢
  have HH := Lib.hid (And.intro hgood (And.intro hbase (And.intro hn (And.intro hp (And.intro hN (And.intro hb (And.intro hg1 (And.intro hnc (And.intro hmax (And.intro hsz ht))))))))))
  by_cases hany : (qs.map (·.1)).any pr = true
  · have hr2 : r = ((qs.map (·.1)).findIdx pr : Int) := by rw [hr]; unfold posF; rw [if_pos hany]
    obtain ⟨k, hk⟩ : ∃ k, k = (qs.map (·.1)).findIdx pr := ⟨_, rfl⟩
    rw [← hk] at hr2
    subst hr2
    have hkl : k < (qs.map (·.1)).length := by rw [hk, List.findIdx_lt_length]; exact List.any_eq_true.1 hany
    have hkp : pr ((qs.map (·.1))[k]) = true := by have := List.findIdx_getElem (w := by rw [← hk]; exact hkl) (p := pr) (xs := qs.map (·.1)); simpa [← hk] using this
    have hkn : ∀ j (hj : j < k), pr ((qs.map (·.1))[j]'(by omega)) = false := fun j hj => by
      have := List.not_of_lt_findIdx (p := pr) (xs := qs.map (·.1)) (i := j) (by rw [← hk]; exact hj)
      simpa using this
    have hft : (qs.take (k + 1)).filter (fun q => !pr q.1) = qs.take k := by
      rw [List.length_map] at hkl
      rw [List.take_succ_eq_append_getElem hkl, List.filter_append]
      have h2 : [qs[k]].filter (fun q => !pr q.1) = [] := by rw [List.getElem_map] at hkp; simp [hkp]
      rw [h2, List.append_nil, List.filter_eq_self]
      intro q hq
      obtain ⟨j, hj, rfl⟩ := List.getElem_of_mem hq
      rw [List.length_take] at hj
      have := hkn j (by omega)
      rw [List.getElem_map] at this
      rw [List.getElem_take, this]; rfl
    rw [List.length_map] at hkl
    obtain ⟨K1, hK1⟩ : ∃ m, m = k + 1 := ⟨_, rfl⟩
    have s1 : IntKind.i64.wrap ((k : Int) + 1) = (K1 : Int) := by rw [IntKind.wrap_i64]; omega
    have e1 : ((k : Int) == -1) = false := beq_eq_false_iff_ne.2 (by omega)
    have htk : cur.toList.take (k * 35) = flatQ (qs.take k) := by
      rw [← flatQ_take hgood.wh k (by omega), ← ht, List.take_take, Nat.min_eq_left (by omega)]
    have HK := Lib.hid (And.intro hK1 (And.intro hkl (And.intro hft htk)))
    clear hr hk hkl hkp hkn hft hK1 htk hany hgood hbase hn hp hN hb hg1 hnc hmax hsz ht h1 hrd hg
    go_enter Try.func64, Try.ntmps64
    go_wp2_with fail
    refine HIX.out.mono ?_
    rintro e w1 ⟨rfl, b1⟩
    have H1 := Lib.hid (And.intro (BC_blk1 b1 HH.out.2.2.2.2.2.2.1) (b1.mono HH.out.2.1))
    clear b1
    go_wp2_with fail
    go_loopw [5, 6] (fun v5 v6 wr => ∃ (i j : Nat) (cu : List Value), i < j ∧ j ≤ n ∧ v5 = .int .i64 (i : Int) ∧ v6 = .int .i64 (j : Int) ∧ wr.heap[g]? = some (.cells cu.toArray 26 (0, 0)) ∧ cu.length = cap * 35 ∧ i = ((qs.take j).filter (fun q => !pr q.1)).length ∧ cu.take (i * 35) = flatQ ((qs.take j).filter (fun q => !pr q.1)) ∧ (∀ x, j * 35 ≤ x → x < n * 35 → cu[x]? = (flatQ qs)[x]?) ∧ Below base w wr) (fun _ j _ => n - (intOf j).toNat)
    case atStart =>
      refine ⟨k, K1, cur.toList, by have := HK.out; omega, by have := HK.out; have := HH.out; omega, rfl, rfl, by simpa using H1.out.1, by rw [Array.length_toList]; exact HH.out.2.2.2.2.2.2.2.2.2.1, by rw [HK.out.1, HK.out.2.2.1, List.length_take]; have := HK.out; omega, by rw [HK.out.1, HK.out.2.2.1]; exact HK.out.2.2.2, fun x _ hx => ?_, H1.out.2⟩
      rw [← HH.out.2.2.2.2.2.2.2.2.2.2, List.getElem?_take_of_lt (by have := HH.out.2.2.2.2.1; omega)]
    case round =>
      obtain ⟨i, j, cu, hij, hj, rfl, rfl, hrg, hcl, hil, htk, hrest, hbr⟩ := hrel
      have HR := Lib.hid (And.intro hij (And.intro hj (And.intro hrg (And.intro hcl (And.intro hil (And.intro htk (And.intro hrest hbr)))))))
      clear hcl hil htk hrest hbr hrg
      by_cases hlt : j < n
      · have hjq : j < qs.length := by have := HH.out.2.2.2.2.1; omega
        have j0 : (0 : Int) ≤ (j : Int) := by omega
        have j1 : (j : Int) < (n : Int) := by omega
        have i0 : (0 : Int) ≤ (i : Int) := by omega
        have i1 : (i : Int) < (n : Int) := by omega
        obtain ⟨J1, hJ1⟩ : ∃ m, m = j + 1 := ⟨_, rfl⟩
        obtain ⟨I1, hI1⟩ : ∃ m, m = i + 1 := ⟨_, rfl⟩
        have hn2 := HH.out.2.2.1
        have hn3 := HH.out.2.2.2.2.1
        have s2 : IntKind.i64.wrap ((j : Int) + 1) = (J1 : Int) := by rw [IntKind.wrap_i64]; omega
        have s3 : IntKind.i64.wrap ((i : Int) + 1) = (I1 : Int) := by rw [IntKind.wrap_i64]; omega
        obtain ⟨q, hq⟩ : ∃ q, q = qs[j] := ⟨_, rfl⟩
        have hqm : q ∈ qs := by rw [hq]; exact List.getElem_mem hjq
        have hrgq : wr.rangeAt g (j * 35) (qC q).toArray.toList := fun x u hx => by
          have hx2 : (qC q)[x]? = some u := hx
          have hxl : x < 35 := by have := (List.getElem?_eq_some_iff.1 hx2).1; rwa [qC_len (HH.out.1.wh q hqm)] at this
          refine cell_row HR.out.2.2.1 _ ?_
          rw [List.getElem?_toArray, HR.out.2.2.2.2.2.2.1 _ (by omega) (by omega), flatQ_get HH.out.1.wh hjq hxl, ← hq]
          exact hx2
        have hsz35 := qC_size (HH.out.1.wh q hqm)
        have hone : (qC q).toArray.all (·.oneCell') = true := by rw [Array.all_eq_true_iff_forall_mem]; intro v hv; exact qC_one (HH.out.1 q hqm).2.one v (by simpa using hv)
        have hft : (qs.take J1).filter (fun q => !pr q.1) = (qs.take j).filter (fun q => !pr q.1) ++ (if pr q.1 then [] else [q]) := by
          rw [hJ1, List.take_succ_eq_append_getElem hjq, List.filter_append, ← hq]
          cases hpq : pr q.1 <;> simp [hpq]
        have hcq := hqm
        obtain ⟨C, hC⟩ : ∃ C, C = (qC q).toArray := ⟨_, rfl⟩
        have HCALL : Hid (∀ W, Below base w W → Calls Try.prog f #[.agg C, .pointer (some ⟨B, 0, none⟩)] W fun e w' => e = .returned (.bool (pr q.1)) ∧ Below W.heap.size W w') := Lib.hid fun W hW => by rw [hC]; exact HH.out.2.2.2.1 W hW q hqm
        rw [← hC] at hrgq hsz35 hone
        have HRG := Lib.hid (And.intro hrgq (And.intro hsz35 (And.intro hone hC)))
        obtain ⟨W3, hW3⟩ : ∃ W, W = wr.alloc (.cells C 26) := ⟨_, rfl⟩
        obtain ⟨g3, hg3⟩ : ∃ g, g = wr.heap.size := ⟨_, rfl⟩
        have n3 := heap_alloc_new wr (.cells C 26)
        have b3 := below1 wr (.cells C 26)
        rw [← hW3, ← hg3] at n3
        rw [← hW3] at b3
        have H3 := Lib.hid (And.intro n3 (And.intro (BC_blk1 b3 HR.out.2.2.1) (And.intro (BC_below HR.out.2.2.2.2.2.2.2 (Nat.le_trans HH.out.2.1 HR.out.2.2.2.2.2.2.2.size) b3) (And.intro hW3 hg3))))
        obtain ⟨x, hx⟩ : ∃ x, x = pr q.1 := ⟨_, rfl⟩
        rw [← hx] at HCALL hft
        have HJ := Lib.hid (And.intro hJ1 (And.intro hI1 (And.intro hlt hft)))
        clear hJ1 hI1 hlt hft hrgq hsz35 hone hC hW3 hg3 n3 b3 hx hcq hqm hq hjq hn2 hn3
        go_upto_region 8 with (first | ((with_reducible refine wlw_load_mid (o := ⟨some 25, _, _, _, _, _⟩) ?_ 26 (.tmp 24) ?_ _ _ ?_ C _ HRG.out.1 Try.underlying26 ?_ ?_ ?_); (focus rfl); (focus rfl); (focus rfl); (focus rfl); (focus (rw [HRG.out.2.1]; kernel_rfl))) | (refine wpList_store_rowTo rfl 26 _ _ rfl rfl _ C rfl rfl 26 zpart (heap_alloc_new wr _) (by rw [HRG.out.2.1]; kernel_rfl) (by rw [HRG.out.2.1]; kernel_rfl) HRG.out.2.2.1 ?_; rw [World.setRow_alloc_new]))
        rw [← H3.out.2.2.2.1, ← H3.out.2.2.2.2]
        go_wp2_with ((with_reducible refine wlw_load_row (o := ⟨some 27, _, _, _, _, _⟩) ?_ 26 (.tmp 7) ?_ _ ?_ _ C _ _ H3.out.1 Try.underlying26 ?_ ?_ ?_); (focus rfl); (focus rfl); (focus rfl); (focus rfl); (focus (rw [HRG.out.2.1]; kernel_rfl)))
        refine (HCALL.out W3 H3.out.2.2.1).mono ?_
        rintro e w4 ⟨rfl, b4⟩
        have H4 := Lib.hid (And.intro (BC_blk1 b4 H3.out.1) (And.intro (BC_blk1 b4 H3.out.2.1) (BC_below H3.out.2.2.1 (Nat.le_trans HH.out.2.1 H3.out.2.2.1.size) b4)))
        clear b4
        cases x with
        | true =>
          have hfe : (qs.take J1).filter (fun q => !pr q.1) = (qs.take j).filter (fun q => !pr q.1) := by rw [HJ.out.2.2.2]; simp
          have HFE := Lib.hid hfe
          clear hfe
          go_wp2_with fail
          go_roundw
          case rel => exact ⟨i, J1, cu, by have := HJ.out; omega, by have := HJ.out; omega, rfl, rfl, H4.out.2.1, HR.out.2.2.2.1, by rw [HFE.out]; exact HR.out.2.2.2.2.1, by rw [HFE.out]; exact HR.out.2.2.2.2.2.1, fun x hx hx2 => HR.out.2.2.2.2.2.2.1 x (by have := HJ.out; omega) hx2, H4.out.2.2⟩
          case measure => have := HJ.out; simp [intOf]; omega
        | false =>
          have hfe : (qs.take J1).filter (fun q => !pr q.1) = (qs.take j).filter (fun q => !pr q.1) ++ [q] := by rw [HJ.out.2.2.2]; simp
          have HFE := Lib.hid hfe
          have hfit : i * 35 + C.size ≤ cu.length := by rw [HRG.out.2.1, HR.out.2.2.2.1]; have := HH.out; omega
          have HFIT := Lib.hid hfit
          clear hfe hfit
          go_wp2_with (first
            | ((with_reducible refine wlw_load_row (o := ⟨some 32, _, _, _, _, _⟩) ?_ 26 (.tmp 7) ?_ _ ?_ _ C _ _ H4.out.1 Try.underlying26 ?_ ?_ ?_); (focus rfl); (focus rfl); (focus rfl); (focus rfl); (focus (rw [HRG.out.2.1]; kernel_rfl)))
            | ((with_reducible refine wl_store_part (o := ⟨none, _, _, _, _, _⟩) ?_ 26 (.tmp 33) (.tmp 32) ?_ ?_ g (i * 35) C ?_ ?_ ?_ HRG.out.2.2.1 H4.out.2.1 HFIT.out ?_); (focus rfl); (focus rfl); (focus rfl); (focus rfl); (focus rfl); (focus (rw [HRG.out.2.1]; kernel_rfl)); intro W5 hg5 but5))
          have hC5 : C.toList = qC q := by rw [HRG.out.2.2.2]
          have hcl5 : (splice cu (i * 35) C.toList).length = cap * 35 := by rw [length_splice _ _ _ (by rw [Array.length_toList]; exact HFIT.out)]; exact HR.out.2.2.2.1
          have htk5 : (splice cu (i * 35) C.toList).take (I1 * 35) = flatQ ((qs.take j).filter (fun q => !pr q.1)) ++ qC q := by
            have hl : (cu.take (i * 35)).length = i * 35 := by rw [List.length_take]; have := HFIT.out; omega
            unfold splice
            rw [← List.append_assoc, HR.out.2.2.2.2.2.1, hC5]
            have e : I1 * 35 = (flatQ ((qs.take j).filter (fun q => !pr q.1)) ++ qC q).length := by
              rw [List.length_append, ← HR.out.2.2.2.2.2.1, hl, ← hC5, Array.length_toList, HRG.out.2.1]; have := HJ.out; omega
            rw [e, List.take_left]
          have hrest5 : ∀ x, J1 * 35 ≤ x → x < n * 35 → (splice cu (i * 35) C.toList)[x]? = (flatQ qs)[x]? := fun x hx hx2 => by
            have hl : (cu.take (i * 35)).length = i * 35 := by rw [List.length_take]; have := HFIT.out; omega
            have hcs : C.toList.length = 35 := by rw [Array.length_toList]; exact HRG.out.2.1
            have h1 := HJ.out
            have h2 := HR.out.1
            unfold splice
            rw [List.getElem?_append_right (by omega), List.getElem?_append_right (by omega), List.getElem?_drop, hl, hcs, show i * 35 + 35 + (x - i * 35 - 35) = x by omega]
            exact HR.out.2.2.2.2.2.2.1 x (by omega) hx2
          have hb5 : Below base w W5 := but5.below base w HH.out.2.2.2.2.2.1 (Nat.le_trans HH.out.2.1 H4.out.2.2.size) H4.out.2.2
          have HO := Lib.hid (And.intro hg5 (And.intro hcl5 (And.intro htk5 (And.intro hrest5 hb5))))
          clear hg5 but5 hC5 hcl5 htk5 hrest5 hb5
          go_wp2_with fail
          go_roundw
          case rel => exact ⟨I1, J1, _, by have := HJ.out; have := HR.out.1; omega, by have := HJ.out; omega, rfl, rfl, HO.out.1, HO.out.2.1, by rw [HFE.out, List.length_append, ← HR.out.2.2.2.2.1, HJ.out.2.1]; rfl, by rw [HFE.out, flatQ_append, HO.out.2.2.1]; simp [flatQ], HO.out.2.2.2.1, HO.out.2.2.2.2⟩
          case measure => have := HJ.out; simp [intOf]; omega
      · have hjn : j = n := by omega
        have hge : ¬ (j : Int) < (n : Int) := by omega
        have i2 : (i : Int) ≤ (n : Int) := by omega
        have i3 : (0 : Int) ≤ (i : Int) := by omega
        have i4 : ¬ cap = i := by have := HH.out; have := HR.out; omega
        have i5 : (i : Int) ≤ (cap : Int) := by have := HH.out; omega
        obtain ⟨w5, cu5, hrun, hg5, hcl5, htk5, but5⟩ := run_clear_P wr 0 g (i * 35) (n - i) (cap - i) cu HR.out.2.2.1 (by rw [HR.out.2.2.2.1]; have := HH.out; omega)
        have hall : (qs.take j).filter (fun q => !pr q.1) = qs.filter (fun q => !pr q.1) := by rw [hjn, HH.out.2.2.2.2.1, List.take_length]
        have hb5 : Below base w w5 := but5.below base w HH.out.2.2.2.2.2.1 (Nat.le_trans HH.out.2.1 HR.out.2.2.2.2.2.2.2.size) HR.out.2.2.2.2.2.2.2
        have hown : OwnP base w5 (.slice (some ⟨g, 0, none⟩) i cap) (qs.filter (fun q => !pr q.1)) := by
          have hl : (qs.filter (fun q => !pr q.1)).length = i := by rw [← hall]; exact HR.out.2.2.2.2.1.symm
          unfold OwnP
          rw [hl]
          refine ⟨by rw [← hl]; exact flatQ_len fun q hq => HH.out.1.wh q ((List.mem_filter.1 hq).1), .inr ⟨g, cap, cu5.toArray, rfl, HH.out.2.2.2.2.2.1, hg5, by have := HH.out; have := HR.out; omega, HH.out.2.2.2.2.2.2.2.2.1, by simpa using hcl5.trans HR.out.2.2.2.1, ?_⟩⟩
          show cu5.take (i * 35) = _
          rw [htk5, HR.out.2.2.2.2.2.1, hall]
        have HO := Lib.hid (And.intro hrun (And.intro hown hb5))
        clear hrun hg5 hcl5 htk5 but5 hall hb5 hown hlt hjn
        go_wp2_with ((with_reducible refine wl_run (o := ⟨none, _, _, _, _, _⟩) ?_ (.tmp 38) 56 ?_ _ ?_ _ _ HO.out.1 ?_); (focus rfl); (focus rfl); (focus rfl))
        go_ret
        exact ⟨_, rfl, HO.out.2.1, HO.out.2.2⟩
  · have hr2 : r = -1 := by rw [hr]; unfold posF; rw [if_neg hany]
    subst hr2
    have hfl : qs.filter (fun q => !pr q.1) = qs := by
      rw [List.filter_eq_self]
      intro q hq
      cases hpq : pr q.1
      · rfl
      · exact absurd (List.any_eq_true.2 ⟨q.1, List.mem_map_of_mem hq, hpq⟩) hany
    have hown0 : OwnP base w (.slice (some ⟨g, 0, none⟩) n cap) qs := by rw [hN]; exact ⟨h1, .inr ⟨g, cap, cur, rfl, hb, hg1, hnc, hmax, hsz, ht⟩⟩
    have HF := Lib.hid (And.intro hfl (And.intro hown0 hbase))
    clear hr hany hgood hbase hn hp hN hb hg1 hnc hmax hsz ht h1 hrd hg hfl hown0
    go_enter Try.func64, Try.ntmps64
    go_wp2_with fail
    refine HIX.out.mono ?_
    rintro e w1 ⟨rfl, b1⟩
    have H1 := Lib.hid b1
    clear b1
    go_wp2_with fail
    go_ret
    exact ⟨_, rfl, by rw [HF.out.1]; exact HF.out.2.1.below H1.out, H1.out.mono HF.out.2.2⟩
theorem clr_any (q : Pt × Value) (hq : q.1.wh.length = 32) (wh : List Int) (hw : wh.length = 32) (B : Nat) (w : World) (hB : w.heap[B]? = some (.cells (row .u8 wh) 23 (0, 0))) :
    Calls Try.prog 65 #[.agg (qC q).toArray, .pointer (some ⟨B, 0, none⟩)] w fun e w' => e = .returned (.bool (decide (q.1.wh = wh))) ∧ Below w.heap.size w w' := by
  have heq : ∀ w, (binOp .eql 23 (.agg (row .u8 q.1.wh)) (.agg (row .u8 wh))).run Try.prog w = .ok (.bool (decide (q.1.wh = wh))) w := fun w => run_eql_row w 23 5 32 .u8 Try.underlying23 Try.underlying5 (by kernel_rfl) q.1.wh wh hq hw
  have hs1 : (row .u8 q.1.wh).size = 32 := by rw [row_size, hq]
  have hs2 : (row .u8 wh).size = 32 := by rw [row_size, hw]
  have hmid : ∀ (W : World) (g : Nat), W.heap[g]? = some (.cells (qC q).toArray 26 (0, 0)) → W.rangeAt g 0 (row .u8 q.1.wh).toList := fun W g h => lies_range (lies_whole h)
  have n1 := hmid _ _ (heap_alloc_new w (.cells (qC q).toArray 26))
  have b1 := below1 w (.cells (qC q).toArray 26)
  have HF := Lib.hid (And.intro n1 (And.intro b1 (And.intro ((b1.block _ (blk_lt hB)).trans hB) (And.intro hs1 hs2))))
  clear hmid n1 b1 hs1 hs2 hB hq hw
  generalize (qC q).toArray = C at *
  generalize row .u8 q.1.wh = R1 at *
  generalize row .u8 wh = R2 at *
  generalize decide (q.1.wh = wh) = x at *
  go_enter Try.func65, Try.ntmps65
  go_wp2_with (first | ((with_reducible refine wlw_load_mid (o := ⟨some 5, _, _, _, _, _⟩) ?_ 23 (.tmp 4) ?_ _ _ ?_ R1 _ HF.out.1 Try.underlying23 ?_ ?_ ?_); (focus rfl); (focus rfl); (focus rfl); (focus rfl); (focus (rw [HF.out.2.2.2.1]; kernel_rfl))) | ((with_reducible refine wlw_load_row (o := ⟨some 6, _, _, _, _, _⟩) ?_ 23 (.tmp 1) ?_ _ ?_ _ R2 _ _ HF.out.2.2.1 Try.underlying23 ?_ ?_ ?_); (focus rfl); (focus rfl); (focus rfl); (focus rfl); (focus (rw [HF.out.2.2.2.2]; kernel_rfl))))
  go_ret
  exact ⟨rfl, HF.out.2.1⟩
theorem clear_any (v : Value) (qs : List (Pt × Value)) (wh : List Int) (hw : wh.length = 32) (w : World) (hv : RdP w.heap.size w v qs) (hn : qs.length ≤ 10000) :
    Calls Try.prog 34 #[v, .agg (row .u8 wh)] w fun e w' => ∃ v', e = .returned v' ∧ RdP w'.heap.size w' v' (qs.filter (fun q => !decide (q.1.wh = wh))) ∧ Below w.heap.size w w' := by
  obtain ⟨W0, hW0⟩ : ∃ W, W = w.alloc (.cells (row .u8 wh) 23) := ⟨_, rfl⟩
  obtain ⟨B, hB⟩ : ∃ B, B = w.heap.size := ⟨_, rfl⟩
  have n0 := heap_alloc_new w (.cells (row .u8 wh) 23)
  have b0 := below1 w (.cells (row .u8 wh) 23)
  rw [← hW0, ← hB] at n0
  rw [← hW0] at b0
  have HCL := Lib.hid (pclone_any v qs W0 (hv.to b0) (by omega))
  have H0 := Lib.hid (And.intro b0 (And.intro n0 (And.intro hW0 (And.intro hB (And.intro hv (And.intro hn hw))))))
  obtain ⟨va, vc, rfl⟩ := hv.form
  clear n0 b0 hW0 hB hv hn hw
  obtain ⟨R2, hR2⟩ : ∃ R, R = row .u8 wh := ⟨_, rfl⟩
  rw [← hR2] at H0 ⊢
  have HR2 := Lib.hid hR2
  clear hR2
  go_enter Try.func34, Try.ntmps34
  go_upto_region 1 with fail
  rw [← H0.out.2.2.1, ← H0.out.2.2.2.1]
  go_wp2_with fail
  refine HCL.out.mono ?_
  rintro e w1 ⟨v1, rfl, own1, b1⟩
  have hbw : Below w.heap.size w w1 := BC_below H0.out.1 H0.out.1.size b1
  have hg : GoodQ w1.heap.size w1 qs := H0.out.2.2.2.2.1.1.to hbw
  have hd := delete_any 65 B (enters_of Try.func65 (by kernel_rfl) rfl) (fun p => decide (p.wh = wh)) W0.heap.size v1 qs w1 own1 b1.size hg H0.out.2.2.2.2.2.1 (fun W hW q hq => by
    refine clr_any q (hg.wh q hq) wh H0.out.2.2.2.2.2.2 B W ?_
    have h := BC_blk1 b1 H0.out.2.1
    rw [HR2.out] at h
    exact (hW.block B (blk_lt H0.out.2.1)).trans h)
  have HD := Lib.hid hd
  have H1 := Lib.hid (And.intro hbw (And.intro hg b1))
  clear hbw hg b1 own1 hd
  go_wp2_with fail
  refine HD.out.mono ?_
  rintro e w2 ⟨v2, rfl, own2, b2⟩
  have hb2 : Below w.heap.size w w2 := H1.out.1.trans (b2.mono H0.out.1.size)
  have HF := Lib.hid (And.intro own2 (And.intro hb2 b2))
  clear own2 hb2 b2
  go_wp2_with fail
  go_ret
  refine ⟨_, rfl, HF.out.1.rd ?_, HF.out.2.1⟩
  exact (H0.out.2.2.2.2.1.1.to HF.out.2.1).sub fun q hq => (List.mem_filter.1 hq).1
end
set_option maxRecDepth 100000
open Go.ChangeShapes Go.WideShapes Go.ChangeAt Go.RowKit

theorem choose_list {α : Type} {p : Nat → α → Prop} : ∀ n, (∀ i, i < n → ∃ x, p i x) → ∃ l : List α, l.length = n ∧ ∀ i (h : i < l.length), p i l[i]
  | 0, _ => ⟨[], rfl, fun i h => by simp at h⟩
  | n + 1, h => by
    obtain ⟨l, hl, hp⟩ := choose_list n (fun i hi => h i (by omega))
    obtain ⟨x, hx⟩ := h n (by omega)
    refine ⟨l ++ [x], by simp [hl], fun i hi => ?_⟩
    by_cases e : i < l.length
    · rw [List.getElem_append_left e]; exact hp i e
    · have e2 : i = n := by simp at hi; omega
      subst e2
      rw [List.getElem_append_right (by omega)]
      simpa [hl] using hx
theorem open_parts {H : Type} {enc : TypeId × Value → H} {w : World} {b0 : Nat} {r : Reach} {v : Value} {d : DataW H} {p : List MemPlace}
    (hv : Value.okWide Try.prog w r b0 56 v) (h : DataW.Trod enc Try.prog w 0 (fun _ => true) true 56 v d p) : ∃ qs, RdP w.heap.size w v qs := by
  obtain ⟨a0, len0, cap0, rfl⟩ := okWide_slice Try.underlying56 hv
  obtain ⟨fuel, hf⟩ := h
  rcases DataW.trod_slice Try.underlying56 hf with ⟨hcs, _⟩ | ⟨a, len, cap, elems, rest, n, rfl, hcs, hx, _, hl, hm, hlen, hel, _, _⟩
  · simp [Value.cells] at hcs
    obtain ⟨rfl, rfl, rfl⟩ := hcs
    exact ⟨[], RdP.nil _ _⟩
  · simp [Value.cells] at hcs
    obtain ⟨rfl, rfl, rfl⟩ := hcs
    have hce : Try.prog.cellsOf 26 = 35 := by kernel_rfl
    have each : ∀ i, i < len0 → ∃ q : Pt × Value, (q.1.ok ∧ Held w.heap.size w q.2 q.1.da) ∧ ∀ j, j < 35 → w.cell? ((a.add (i * 35)).add j) = (qC q)[j]? := by
      intro i hi
      have hE := hel i hi
      obtain ⟨y, hy⟩ : ∃ y, elems[i]? = some y := ⟨_, List.getElem?_eq_getElem (by omega)⟩
      rw [hy, hce] at hE
      simp only [Option.bind_eq_some_iff] at hE
      obtain ⟨cs, hc, hy1⟩ := hE
      obtain ⟨wh, s, at', u, l, rfl, h32, hwb, hs, ha, b, o, h1, h2, h3⟩ := trod_part hy1
      refine ⟨(⟨wh, s, at', l⟩, u), ⟨⟨h32, hwb, h3, hs, ha⟩, Held.of_lies h1 h2⟩, fun j hj => ?_⟩
      unfold World.cells? at hc
      rw [if_pos (Nat.zero_le _)] at hc
      exact mapM_some_get hc j j (by simp [hj])
    obtain ⟨qs, hql, hq⟩ := choose_list len0 each
    obtain ⟨b, off, spot⟩ := a
    refine ⟨qs, fun q hqm => ?_, b, off, ?_⟩
    · obtain ⟨i, hi, rfl⟩ := List.getElem_of_mem hqm
      exact (hq i hi).1
    · by_cases h0 : 0 < qs.length
      · have hc0 := (hq 0 h0).2 0 (by decide)
        have h35 : (qC qs[0]).length = 35 := qC_len (hq 0 h0).1.1.1
        rw [List.getElem?_eq_getElem (by omega)] at hc0
        have hs : spot = none := by simpa [Addr.add] using World.cell?_spot hc0
        subst hs
        have h32 : ∀ q ∈ qs, q.1.wh.length = 32 := fun q hqm => by
          obtain ⟨i, hi, rfl⟩ := List.getElem_of_mem hqm
          exact (hq i hi).1.1.1
        refine ⟨⟨_, cap0, by rw [hql], by omega, hm, fun _ => rfl, fun h => by cases h⟩, fun x u hx => ?_, fun _ => ?_⟩
        · have hxl : x < qs.length * 35 := by have := (List.getElem?_eq_some_iff.1 hx).1; rwa [flatQ_len h32] at this
          have hi : x / 35 < qs.length := by omega
          have hj : x % 35 < 35 := Nat.mod_lt _ (by decide)
          have h := (hq (x / 35) hi).2 (x % 35) hj
          rw [Addr.add_mid, Addr.add_mid, Nat.add_assoc, show x / 35 * 35 + x % 35 = x by omega, ← flatQ_get h32 hi hj, show x / 35 * 35 + x % 35 = x by omega, hx] at h
          exact h
        · have h := hc0
          rw [Addr.add_mid, Addr.add_mid] at h
          exact block_lt_of_cell h
      · have hn : qs = [] := List.eq_nil_of_length_eq_zero (by omega)
        subst hn
        have : len0 = 0 := by simpa using hql.symm
        subst this
        exact ⟨⟨_, cap0, rfl, Nat.zero_le _, hm, fun h => by simp at h, fun h => by cases h⟩, fun j u hj => by simp [flatQ] at hj, fun h => by simp at h⟩
/-- at most 20 parts, of at most 300 bytes, of wholes of at most 3000 -/
def okP (p : Pt) : Bool := decide (p.da.length ≤ 300) && decide (p.sz ≤ 3000)
def smallB (ps : List Pt) : Bool := (ps.take 21).all okP && decide (ps.length ≤ 20)
theorem smallB_in {ps : List Pt} (h : smallB ps = true) : ps.length ≤ 20 ∧ ∀ p ∈ ps, p.da.length ≤ 300 ∧ p.sz ≤ 3000 := by
  unfold smallB at h
  rw [Bool.and_eq_true, decide_eq_true_eq] at h
  refine ⟨h.2, fun p hp => ?_⟩
  have := List.all_eq_true.1 h.1 p (by rw [List.take_of_length_le (by omega)]; exact hp)
  simpa [okP] using this
attribute [local irreducible] SlV Lies
attribute [local go_sem] takes takesE comesTo
set_option maxHeartbeats 4000000 in
theorem small_any (v : Value) (qs : List (Pt × Value)) (w : World) (hv : RdP w.heap.size w v qs) :
    Calls Try.prog 33 #[v] w fun e w' => e = .returned (.bool (smallB (qs.map (·.1)))) ∧ w' = w := by
  obtain ⟨hg, g, o, sv, rg, _⟩ := hv
  have hsv := sv
  obtain ⟨a, c, rfl, hc, hm, ha, _⟩ := by unfold SlV at hsv; exact hsv
  obtain ⟨n, hN⟩ : ∃ n, n = qs.length := ⟨_, rfl⟩
  rw [← hN] at hc ha ⊢
  have hnm : n ≤ maxLen := by omega
  have HV := Lib.hid (And.intro hg (And.intro rg (And.intro hN (And.intro ha hnm))))
  clear hg sv rg hN ha hc hm hsv hnm
  go_enter Try.func33, Try.ntmps33
  go_wp2_with fail
  go_loopw [3] (fun v3 wr => ∃ i : Nat, i ≤ 21 ∧ i ≤ n ∧ v3 = .int .i64 (i : Int) ∧ wr = w ∧ ∀ j (h : j < qs.length), j < i → okP (qs[j]).1 = true) (fun i _ => 22 - (intOf i).toNat)
  case atStart => exact ⟨0, by omega, Nat.zero_le _, rfl, rfl, fun j _ h => by omega⟩
  case round =>
    obtain ⟨i, hi, hin, rfl, hwr, hok⟩ := hrel
    subst hwr
    have HR := Lib.hid (And.intro hi (And.intro hin hok))
    clear hok hin
    by_cases hlt : i < n ∧ i < 21
    · obtain ⟨h1, h2⟩ := hlt
      have i0 : (0 : Int) ≤ (i : Int) := by omega
      have i1 : (i : Int) < (n : Int) := by omega
      have i2 : (i : Int) < 21 := by omega
      obtain ⟨I1, hI1⟩ : ∃ m, m = i + 1 := ⟨_, rfl⟩
      have s1 : IntKind.i64.wrap ((i : Int) + 1) = (I1 : Int) := by rw [IntKind.wrap_i64]; omega
      have hiq : i < qs.length := by rw [← HV.out.2.2.1]; exact h1
      obtain rfl := HV.out.2.2.2.1 (by omega)
      have hrg := range_get HV.out.2.1 HV.out.1.wh hiq
      have hgq := HV.out.1 _ (List.getElem_mem hiq)
      obtain ⟨q, hq⟩ : ∃ q, q = qs[i] := ⟨_, rfl⟩
      rw [← hq] at hrg hgq
      obtain ⟨p, u⟩ := q
      dsimp only at hgq
      obtain ⟨hpk, b, o2, su, _, _⟩ := hgq
      obtain ⟨pu, cu, rfl, _⟩ := by unfold SlV at su; exact su
      have k32 := pcells_size hpk.1 p.sz p.at' (.slice pu p.da.length cu)
      have k34 := pcells_data hpk.1 p.sz p.at' (.slice pu p.da.length cu)
      rw [List.getElem?_toArray] at k32 k34
      have c32 : wr.cell? ⟨g, o + i * 35 + 32, none⟩ = some (.int .i64 p.sz) := hrg 32 _ k32
      have c34 : wr.cell? ⟨g, o + i * 35 + 34, none⟩ = some (.slice pu p.da.length cu) := hrg 34 _ k34
      have HI := Lib.hid (And.intro hI1 (And.intro h1 (And.intro h2 (And.intro hq hiq))))
      obtain ⟨dl, hdl⟩ : ∃ d, d = p.da.length := ⟨_, rfl⟩
      obtain ⟨sz, hsz⟩ : ∃ d, d = p.sz := ⟨_, rfl⟩
      rw [← hsz] at c32
      rw [← hdl] at c34
      have HD := Lib.hid (And.intro hdl hsz)
      have hbad : ¬ (dl ≤ 300 ∧ sz ≤ 3000) → smallB (qs.map (·.1)) = false := fun h => by
        unfold smallB
        rw [Bool.and_eq_false_iff]
        left
        rw [List.all_eq_false]
        refine ⟨p, ?_, ?_⟩
        · refine List.mem_iff_getElem.2 ⟨i, by rw [List.length_take, List.length_map]; have := HI.out; omega, ?_⟩
          rw [List.getElem_take, List.getElem_map, ← HI.out.2.2.2.1]
        · intro h2
          unfold okP at h2
          rw [Bool.and_eq_true, decide_eq_true_eq, decide_eq_true_eq] at h2
          exact h (by rw [HD.out.1, HD.out.2]; exact h2)
      have HBD := Lib.hid hbad
      clear hI1 h1 h2 hq hrg hpk su k32 k34 hdl hsz hbad
      rcases Nat.lt_or_ge 300 dl with d1 | d1
      · have d1' : (300 : Int) < (dl : Int) := by omega
        have hF := HBD.out (by omega)
        have HF := Lib.hid hF
        clear hF d1
        go_wp2_with fail
        go_ret
        exact ⟨by rw [HF.out]; rfl, rfl⟩
      · have d1' : ¬ (300 : Int) < (dl : Int) := by omega
        rcases Int.lt_or_le 3000 sz with d2 | d2
        · have hF := HBD.out (by omega)
          have HF := Lib.hid hF
          clear hF d1
          go_wp2_with fail
          go_ret
          exact ⟨by rw [HF.out]; rfl, rfl⟩
        · have d2' : ¬ (3000 : Int) < sz := by omega
          have HX := Lib.hid (And.intro d1 d2)
          clear d1 d2
          go_wp2_with fail
          go_roundw
          case rel => exact ⟨I1, by have := HI.out; omega, by have := HI.out; omega, rfl, by simp, fun j h hj => by
            by_cases e : j = i
            · subst e
              rw [← HI.out.2.2.2.1]
              unfold okP
              rw [Bool.and_eq_true, decide_eq_true_eq, decide_eq_true_eq, ← HD.out.1, ← HD.out.2]
              exact HX.out
            · exact HR.out.2.2 j h (by have := HI.out; omega)⟩
          case measure => have := HI.out; simp [intOf]; omega
    · have hall : smallB (qs.map (·.1)) = decide (n ≤ 20) := by
        unfold smallB
        rw [List.length_map, ← HV.out.2.2.1]
        rcases Nat.lt_or_ge 20 n with h | h
        · rw [decide_eq_false (by omega), Bool.and_false]
        · rw [decide_eq_true h, Bool.and_true, List.all_eq_true]
          intro p hp
          obtain ⟨j, hj, rfl⟩ := List.getElem_of_mem (List.mem_of_mem_take hp)
          rw [List.length_map] at hj
          rw [List.getElem_map]
          exact HR.out.2.2 j hj (by have := HV.out.2.2.1; have := HR.out; omega)
      have HALL := Lib.hid hall
      clear hall
      rcases Nat.lt_or_ge 20 n with h | h
      · have h20 : ¬ (n : Int) ≤ 20 := by omega
        have hi21 : i = 21 := by have := HR.out; omega
        subst hi21
        have hx : ((21 : Nat) : Int) < (n : Int) ∨ ¬ ((21 : Nat) : Int) < (n : Int) := Classical.em _
        have HF := Lib.hid (show smallB (qs.map (·.1)) = false by rw [HALL.out]; exact decide_eq_false (by omega))
        clear hlt h
        rcases hx with hx | hx
        · have hx' : (21 : Int) < (n : Int) := by omega
          go_wp2_with fail
          go_ret
          exact ⟨by rw [HF.out]; rfl, rfl⟩
        · have hx' : ¬ (21 : Int) < (n : Int) := by omega
          go_wp2_with fail
          go_ret
          exact ⟨by rw [HF.out]; rfl, rfl⟩
      · have h20 : (n : Int) ≤ 20 := by omega
        have hge : ¬ (i : Int) < (n : Int) := by omega
        have HF := Lib.hid (show smallB (qs.map (·.1)) = true by rw [HALL.out]; exact decide_eq_true h)
        clear hlt h
        go_wp2_with fail
        go_ret
        exact ⟨by rw [HF.out]; rfl, rfl⟩
set_option maxHeartbeats 4000000 in
theorem real_any2 (v : Value) (qs : List (Pt × Value)) (w : World) (hv : RdP w.heap.size w v qs) (hn : qs.length ≤ 100000) :
    Calls Try.prog 36 #[v] w fun e w' => ∃ v', e = .returned v' ∧ RdP w'.heap.size w' v' qs ∧ (qs = [] → v' = .slice none 0 0) ∧ Below w.heap.size w w' := by
  have hv0 := hv
  obtain ⟨hg, g, o, sv, rg, _⟩ := hv
  obtain ⟨a, c, rfl, hc, hm, ha, _⟩ := by unfold SlV at sv; exact sv
  obtain ⟨n, hN⟩ : ∃ n, n = qs.length := ⟨_, rfl⟩
  rw [← hN] at ha ⊢
  have HV := Lib.hid (And.intro hg (And.intro rg (And.intro hN (And.intro ha hn))))
  clear hg sv rg hN ha hc hm hn hv0
  go_enter Try.func36, Try.ntmps36
  go_wp2_with fail
  go_loopw [3, 4] (fun v3 v4 wr => ∃ i : Nat, i ≤ n ∧ v4 = .int .i64 (i : Int) ∧ OwnR w.heap.size wr v3 (qs.take i) ∧ (i = 0 → v3 = .slice none 0 0) ∧ Below w.heap.size w wr) (fun _ i _ => n - (intOf i).toNat)
  case atStart => exact ⟨0, Nat.zero_le _, rfl, OwnR.nil _ _, fun _ => rfl, Below.refl _ _⟩
  case round =>
    obtain ⟨i, hi, rfl, hown, hz0, hbr⟩ := hrel
    have HR := Lib.hid (And.intro hown hbr)
    have HZ0 := Lib.hid hz0
    clear hown hbr hz0
    by_cases hlt : i < n
    · have i0 : (0 : Int) ≤ (i : Int) := by omega
      have i1 : (i : Int) < (n : Int) := by omega
      obtain ⟨I1, hI1⟩ : ∃ m, m = i + 1 := ⟨_, rfl⟩
      have hn2 := HV.out.2.2
      have s1 : IntKind.i64.wrap ((i : Int) + 1) = (I1 : Int) := by rw [IntKind.wrap_i64]; omega
      have hiq : i < qs.length := by rw [← HV.out.2.2.1]; exact hlt
      obtain rfl := HV.out.2.2.2.1 (by omega)
      have hrg := range_get HV.out.2.1 HV.out.1.wh hiq
      have hqm := List.getElem_mem hiq
      have htk : qs.take (i + 1) = qs.take i ++ [qs[i]] := List.take_succ_eq_append_getElem hiq
      obtain ⟨q, hq⟩ : ∃ q, q = qs[i] := ⟨_, rfl⟩
      rw [← hq] at hrg hqm htk
      obtain ⟨C, hC⟩ : ∃ C, C = (qC q).toArray := ⟨_, rfl⟩
      have hsz : C.size = 35 := by rw [hC]; exact qC_size (HV.out.1.wh q hqm)
      have hrg2 : wr.rangeAt g (o + i * 35) C.toList := fun j u hj => (HR.out.2.cell (block_lt_of_cell (hrg j u (by rw [hC] at hj; exact hj)))).trans (hrg j u (by rw [hC] at hj; exact hj))
      have HI := Lib.hid (And.intro hI1 (And.intro hlt (And.intro hqm (And.intro htk (And.intro hC (And.intro hsz hrg2))))))
      obtain ⟨W3, hW3⟩ : ∃ W, W = wr.alloc (.cells C 33) := ⟨_, rfl⟩
      have n3 := heap_alloc_new wr (.cells C 33)
      have b3 := below1 wr (.cells C 33)
      rw [← hW3] at n3 b3
      have H3 := Lib.hid (And.intro n3 (And.intro b3 hW3))
      have hr3 : W3.rangeAt wr.heap.size 0 (qC q) := fun j u hj => by
        rw [Nat.zero_add]
        refine cell_row H3.out.1 j ?_
        rw [HI.out.2.2.2.2.1, List.getElem?_toArray]
        exact hj
      have HO3 := Lib.hid (And.intro (HR.out.1.below H3.out.2.1) (And.intro hr3 (And.intro (HV.out.1.wh q HI.out.2.2.1) (HV.out.1 q HI.out.2.2.1).2.one)))
      clear hI1 hlt hqm htk hC hsz hrg hrg2 n3 b3 hW3 hn2 hq hiq hr3
      go_wp2_with (first
        | ((with_reducible refine wlw_load_mid (o := ⟨some 15, _, _, _, _, _⟩) ?_ 26 (.tmp 14) ?_ _ _ ?_ C _ HI.out.2.2.2.2.2.2 Try.underlying26 ?_ ?_ ?_); (focus rfl); (focus rfl); (focus rfl); (focus rfl); (focus (rw [HI.out.2.2.2.2.2.1]; kernel_rfl)))
        | ((with_reducible refine wl_build1R (o := ⟨some 16, _, _, _, _, _⟩) ?_ (.tmp 15) ?_ C ?_ HI.out.2.2.2.2.2.1 ?_); (focus rfl); (focus rfl); (focus rfl); rw [← H3.out.2.2])
        | ((with_reducible refine wl_append1R (o := ⟨some 17, _, _, _, _, _⟩) ?_ (.tmp 11) (.tmp 16) ?_ w.heap.size _ (qs.take i) ?_ HO3.out.1 wr.heap.size 0 1 ?_ q HO3.out.2.1 HO3.out.2.2.1 HO3.out.2.2.2 ?_ ?_ ?_); (focus rfl); (focus rfl); (focus rfl); (focus rfl); (focus (rw [List.length_take]; have := HV.out.2.2; omega)); (focus (exact Nat.le_trans HR.out.2.size H3.out.2.1.size)); intro v5 w5 own5 b5))
      have own6 : OwnR w.heap.size w5 v5 (qs.take (i + 1)) := by rw [HI.out.2.2.2.1]; exact own5
      have b6 : Below w.heap.size w w5 := (BC_below HR.out.2 HR.out.2.size H3.out.2.1).trans b5
      have HO := Lib.hid (And.intro own6 b6)
      clear own5 own6 b5 b6
      go_wp2_with fail
      go_roundw
      case rel => exact ⟨I1, by have := HI.out; omega, rfl, by rw [HI.out.1]; exact HO.out.1, fun h => by have := HI.out.1; omega, HO.out.2⟩
      case measure => have := HI.out; simp [intOf]; omega
    · have hin : i = n := by omega
      have hge : ¬ (i : Int) < (n : Int) := by omega
      have HF := Lib.hid hin
      clear hin hlt
      go_wp2_with fail
      go_ret
      have h := HR.out.1
      rw [HF.out, HV.out.2.2.1, List.take_length] at h
      exact ⟨_, rfl, h.rd (HV.out.1.to HR.out.2), fun hq => HZ0.out (by rw [HF.out, HV.out.2.2.1, hq]; rfl), HR.out.2⟩
theorem real_any (v : Value) (qs : List (Pt × Value)) (w : World) (hv : RdP w.heap.size w v qs) (hn : qs.length ≤ 100000) :
    Calls Try.prog 36 #[v] w fun e w' => ∃ v', e = .returned v' ∧ RdP w'.heap.size w' v' qs ∧ Below w.heap.size w w' :=
  (real_any2 v qs w hv hn).mono fun _ _ ⟨v', h1, h2, _, h4⟩ => ⟨v', h1, h2, h4⟩
attribute [local irreducible] headG
set_option maxHeartbeats 4000000 in
theorem list_any (v1 v2 : Value) (qs rs : List (Pt × Value)) (w : World) (h1 : RdP w.heap.size w v1 qs) (h2 : RdP w.heap.size w v2 rs) (hn : qs.length ≤ 100000) (he : qs.map (·.1) = rs.map (·.1)) :
    Calls Try.prog 35 #[v1, v2] w fun e w' => e = .returned (.bool true) ∧ Below w.heap.size w w' := by
  obtain ⟨hg, g, o, sv, rg, _⟩ := h1
  obtain ⟨hg2, g2, o2, sv2, rg2, _⟩ := h2
  obtain ⟨a, c, rfl, _, _, ha, _⟩ := by unfold SlV at sv; exact sv
  obtain ⟨a2, c2, rfl, _, _, ha2, _⟩ := by unfold SlV at sv2; exact sv2
  obtain ⟨n, hN⟩ : ∃ n, n = qs.length := ⟨_, rfl⟩
  have hN2 : n = rs.length := by have := congrArg List.length he; simp at this; omega
  rw [← hN] at ha ⊢
  rw [← hN2] at ha2 ⊢
  have HV := Lib.hid (And.intro hg (And.intro rg (And.intro hN (And.intro ha hn))))
  have HU := Lib.hid (And.intro hg2 (And.intro rg2 (And.intro hN2 (And.intro ha2 he))))
  clear hg sv rg hN ha hn hg2 sv2 rg2 hN2 ha2 he
  go_enter Try.func35, Try.ntmps35
  go_wp2_with fail
  go_loopw [5] (fun v5 wr => ∃ i : Nat, i ≤ n ∧ v5 = .int .i64 (i : Int) ∧ Below w.heap.size w wr) (fun i _ => n - (intOf i).toNat)
  case atStart => exact ⟨0, Nat.zero_le _, rfl, Below.refl _ _⟩
  case round =>
    obtain ⟨i, hi, rfl, hbr⟩ := hrel
    have HR := Lib.hid hbr
    clear hbr
    by_cases hlt : i < n
    · have i0 : (0 : Int) ≤ (i : Int) := by omega
      have i1 : (i : Int) < (n : Int) := by omega
      have i2 : i < n := hlt
      obtain ⟨I1, hI1⟩ : ∃ m, m = i + 1 := ⟨_, rfl⟩
      have hn2 := HV.out.2.2
      have s1 : IntKind.i64.wrap ((i : Int) + 1) = (I1 : Int) := by rw [IntKind.wrap_i64]; omega
      have hiq : i < qs.length := by rw [← HV.out.2.2.1]; exact hlt
      have hir : i < rs.length := by rw [← HU.out.2.2.1]; exact hlt
      obtain rfl := HV.out.2.2.2.1 (by omega)
      obtain rfl := HU.out.2.2.2.1 (by omega)
      have hrg := range_get HV.out.2.1 HV.out.1.wh hiq
      have hrg2 := range_get HU.out.2.1 HU.out.1.wh hir
      have gq := HV.out.1 _ (List.getElem_mem hiq)
      have gr := HU.out.1 _ (List.getElem_mem hir)
      have hpe : (qs[i]).1 = (rs[i]).1 := by
        have h := congrArg (fun l => l[i]?) HU.out.2.2.2.2
        simp only [List.getElem?_map, List.getElem?_eq_getElem hiq, List.getElem?_eq_getElem hir, Option.map_some] at h
        injection h
      obtain ⟨q, hq⟩ : ∃ q, q = qs[i] := ⟨_, rfl⟩
      obtain ⟨r, hr⟩ : ∃ q, q = rs[i] := ⟨_, rfl⟩
      rw [← hq] at hrg gq hpe
      rw [← hr] at hrg2 gr hpe
      obtain ⟨p, u⟩ := q
      obtain ⟨p', u'⟩ := r
      dsimp only at hpe gq gr
      subst hpe
      obtain ⟨hok, b, ob, su, lu, _⟩ := gq
      obtain ⟨_, b', ob', su', lu', _⟩ := gr
      obtain ⟨C, hC⟩ : ∃ C, C = (qC (p, u)).toArray := ⟨_, rfl⟩
      obtain ⟨C2, hC2⟩ : ∃ C, C = (qC (p, u')).toArray := ⟨_, rfl⟩
      have hz1 : C.size = 35 := by rw [hC]; exact qC_size hok.1
      have hz2 : C2.size = 35 := by rw [hC2]; exact qC_size hok.1
      have HRA : Hid (∀ x : HW (BC wr), x.w.rangeAt g (o + i * 35) C.toList) := Lib.hid fun x j y hj => ((BC_below HR.out HR.out.size x.h).cell (block_lt_of_cell (hrg j y (by rw [hC] at hj; exact hj)))).trans (hrg j y (by rw [hC] at hj; exact hj))
      have HRB : Hid (∀ x : HW (BC wr), x.w.rangeAt g2 (o2 + i * 35) C2.toList) := Lib.hid fun x j y hj => ((BC_below HR.out HR.out.size x.h).cell (block_lt_of_cell (hrg2 j y (by rw [hC2] at hj; exact hj)))).trans (hrg2 j y (by rw [hC2] at hj; exact hj))
      have HSM : Hid (∀ x : HW (BC wr), Calls Try.prog 21 #[.agg C, .agg C2] x.w fun e w' => e = .returned (.bool true) ∧ Below x.w.heap.size x.w w') := Lib.hid fun x => by
        have hbx := BC_below HR.out HR.out.size x.h
        have h := rsame_any p.wh p.wh hok.1 hok.1 p.sz p.at' p.sz p.at' u u' b ob b' ob' p.da p.da hok.2.2.1 hok.2.2.1 su su' x.w (lu.below' hbx) (lu'.below' hbx)
        rw [show samePB p.wh p.wh p.sz p.sz p.at' p.at' p.da p.da = true from decide_eq_true ⟨rfl, rfl, rfl, rfl⟩] at h
        rw [hC, hC2]
        exact h
      have HSZ := Lib.hid (And.intro hz1 hz2)
      have HI := Lib.hid (And.intro hI1 hlt)
      clear hI1 hlt hrg hrg2 hok su lu su' lu' hC hC2 hz1 hz2 hq hr hn2
      go_upto_region 6 with fail
      have hS := BC_all (w := wr)
      haveI := BC_inst wr
      refine wp_region_head (BC wr) 10 (by kernel_rfl) (by kernel_rfl) (BC_start _) ?_
      simp only [List.take_succ_cons, List.take_zero, List.drop_succ_cons, List.drop_zero]
      repeat (first
        | ((with_reducible refine headG_load_mid (o := ⟨some 20, _, _, _, _, _⟩) 33 (.tmp 19) ?_ ?_ _ _ ?_ C _ HRA.out Try.underlying33 ?_ ?_ ?_); (focus rfl); (focus rfl); (focus rfl); (focus rfl); (focus (rw [HSZ.out.1]; kernel_rfl)))
        | ((with_reducible refine headG_load_mid (o := ⟨some 24, _, _, _, _, _⟩) 33 (.tmp 23) ?_ ?_ _ _ ?_ C2 _ HRB.out Try.underlying33 ?_ ?_ ?_); (focus rfl); (focus rfl); (focus rfl); (focus rfl); (focus (rw [HSZ.out.2]; kernel_rfl)))
        | (refine headG_step (fun K hK => ?_)
           go_simp
           first
             | (refine hK _ ?_; clear hK K)
             | (apply Exists.intro
                refine ⟨fun x => ?_, hK _ ?_⟩
                (go_at_call 21; exact BC_call x (HSM.out x))
                clear hK K)))
      refine headG_nil ?_
      intro w4 b4
      have H4 := Lib.hid (BC_below HR.out HR.out.size b4)
      clear hS b4
      go_wp2_with fail
      go_roundw
      case rel => exact ⟨I1, by have := HI.out; omega, rfl, H4.out⟩
      case measure => have := HI.out; simp [intOf]; omega
    · have hge : ¬ (i : Int) < (n : Int) := by omega
      clear hlt
      go_wp2_with fail
      go_ret
      exact ⟨rfl, HR.out⟩
end Go.Proofs.Ytjnimbhecfpnmaa
