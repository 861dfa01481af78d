/- The statement ShaStays: what is told twice is the same; bytes more are written as if nothing was told. No condition. -/
import Derived.Test.YtcijdceomgdakaaShaAwake
import Derived.Test.YtcijdceomgdakaaOpenB
import Derived.Test.YtcijdceomgdakaaRef03Sum
import Derived.Test.YtcijdceomgdakaaOpenS
import Derived.Test.YtcijdceomgdakaaHeld
import Derived.OpenShut
import Derived.ShutString
import Derived.ChangeOld
namespace Go.Proofs.Ytcijdceomgdakaa.shaStaysDone
open Go.ChangeShapes Go.WideShapes Go.ChangeAt Go.RowKit
set_option linter.unusedVariables false
set_option linter.unusedSimpArgs false

theorem eqd (l : List Int) (hl : l.length = 32) (w : World) : (binOp .eql 25 (.agg (row .u8 l)) (.agg (row .u8 l))).run Try.prog w = .ok (.bool true) w := by
  have h := run_eql_row w 25 5 32 .u8 Try.underlying25 Try.underlying5 (by kernel_rfl) l l hl hl
  rw [decide_eq_true (rfl : l = l)] at h
  exact h

theorem hash_grown {w w' : World} {g : Nat} {l : List Int} {r : Option Nat} (h : HashAt w g l) (hg : w.grownBy w' r) (hn : some g ≠ r) : HashAt w' g l := by
  obtain ⟨x, p, hs, hb⟩ := h
  exact ⟨x, p, hs, grown_blk hg hb hn⟩
theorem run_append_b (w : World) (base : Nat) (v : Value) (xs : List Int) (hown : Own base w v xs) (y : Value) (b off : Nat) (ms : List Int) (hy : SlV y b off ms.length) (hl : Lies w b off ms)
    (h63 : xs.length + ms.length ≤ 140737488355328) (hbase : base ≤ w.heap.size) (ty : TypeId) :
    ∃ v' w', (Builtin.append_ #[22, 22] ty #[v, y]).run Try.prog w = .ok v' w' ∧ Own base w' v' (xs ++ ms) ∧ w.grownBy w' v.ownBlock := by
  obtain ⟨i, hi, hz0, hz1, hz2⟩ := info_parts info_byte
  obtain ⟨p, cap, rfl, hcap, hmax, hp, hnone⟩ := hy
  have grow0 : w.grownBy w v.ownBlock := ⟨rfl, rfl, rfl, Nat.le_refl _, fun _ _ _ => rfl⟩
  by_cases hm : 0 < ms.length
  · obtain rfl := hp hm
    obtain ⟨v', w', h0, h1, h2, _, _⟩ := run_append_own_at (P := Try.prog) w base 22 ty 5 i (.int .u8 0) 1 1 Try.underlying22 hi hz0 hz1 hz2 rfl (by omega) v xs.length (xs.map (Value.int .u8)) hown ⟨b, off, none⟩ ms.length cap (ms.map (Value.int .u8)) (by simp)
      (fun j u hu => by
        have hj : j < ms.length := by have := (List.getElem?_eq_some_iff.1 hu).1; simpa using this
        rw [Addr.add_mid, hl j hj, ← hu, List.getElem?_map, List.getElem?_eq_getElem hj]
        simp [List.getD, hj]) (fun u hu => by obtain ⟨q, _, rfl⟩ := List.mem_map.1 hu; rfl) (by unfold maxLen; omega) (by omega) hbase
    refine ⟨v', w', h0, ?_, h2⟩
    unfold Own
    rw [List.length_append, List.map_append]
    exact h1
  · have h0 : ms = [] := List.eq_nil_of_length_eq_zero (by omega)
    subst h0
    have hown2 : Own base w v (xs ++ []) := by rw [List.append_nil]; exact hown
    cases p with
    | none =>
      obtain rfl := hnone rfl
      exact ⟨v, w, run_append_owned_none (P := Try.prog) (w := w) base 22 ty 5 i 1 Try.underlying22 hi v xs.length (xs.map (Value.int .u8)) hown, hown2, grow0⟩
    | some ad =>
      obtain ⟨v', w', h0, h1, h2, _, _⟩ := run_append_own_at (P := Try.prog) w base 22 ty 5 i (.int .u8 0) 1 1 Try.underlying22 hi hz0 hz1 hz2 rfl (by omega) v xs.length (xs.map (Value.int .u8)) hown ad 0 cap [] (by simp)
        (fun j u hu => by simp at hu) (fun u hu => by simp at hu) (by simp at h63; unfold maxLen; omega) (by simp at h63; omega) hbase
      refine ⟨v', w', h0, ?_, h2⟩
      unfold Own
      rw [List.append_nil]
      simpa using h1
/-- append(own.., bytes...) as a step of a region that draws its order -/
theorem step_append_b {ops : Array Oper} {o : Oper} {a : Act} {w : World} {K : Act → World → Prop} {Q : Exit → Act → World → Prop} {E : Prop} (hw : Region.wanted o (yielded ops a.tmps) = true) (s x : Operand)
    (ho : o.op = .call { callee := .builtin .append, args := #[s, x], argTypes := #[22, 22] }) (base : Nat) (v : Value) (xs : List Int) (hs : a.eval s = v) (hown : Own base w v xs)
    (y : Value) (hx : a.eval x = y) (b off : Nat) (ms : List Int) (hy : SlV y b off ms.length) (hl : Lies w b off ms) (h63 : xs.length + ms.length ≤ 140737488355328) (hbase : base ≤ w.heap.size)
    (h : ∀ v' w', Own base w' v' (xs ++ ms) → (∀ B w0, B ≤ base → Below B w0 w → Below B w0 w') → K (a.put o.dst v') w') : if Region.wanted o (yielded ops a.tmps) = true then Oper.wp Try.prog o a w K Q else E := by
  obtain ⟨v', w', hr, h1, h2⟩ := run_append_b w base v xs hown y b off ms hy hl h63 hbase o.type
  rw [if_pos hw]
  unfold Oper.wp execOp
  simp only [ho, resolve, invoke, builtin, Sem.run_bind, Sem.run_pure, Result.andThen_ok, List.map_toArray, List.map_cons, List.map_nil, hs, hx, hr]
  exact h v' w' h1 (fun B w0 hB hb => hb.grown h2 (Nat.le_trans hB hbase) (fun k hk => Nat.le_trans hB (own_block hown k hk)))
theorem range_row {w : World} {g : Nat} {C : List Value} {t : TypeId} {fr : Nat × Nat} (h : w.heap[g]? = some (.cells C.toArray t fr)) : w.rangeAt g 0 C := fun j v hv => by
  rw [cell_of_row w g (0 + j) _ t _ h, Nat.zero_add, List.getElem?_toArray]
  exact hv
theorem zero_rest (L0 L1 : List Int) : [] ++ L0 ++ L1 = L0 ++ L1 := rfl
theorem own_set {base : Nat} {w W : World} {g cap i : Nat} {l : List Int} {cur : Array Value} {y : Int} (h : Own base w (.slice (some ⟨g, 0, none⟩) l.length cap) l) (hg : w.heap[g]? = some (.cells cur 5 (0, 0)))
    (hW : W.heap[g]? = some (.cells (cur.setIfInBounds i (.int .u8 y)) 5 (0, 0))) : Own base W (.slice (some ⟨g, 0, none⟩) (l.set i y).length cap) (l.set i y) := by
  obtain ⟨h1, h2 | ⟨g', cap', cur', hv, hb, hg', hn, hc, hs, ht⟩⟩ := h
  · cases h2.1
  · injection hv with hv1 hv2 hv3
    injection hv1 with hv1
    injection hv1 with hv1
    subst hv1; subst hv3
    have e : cur' = cur := by
      have := hg'.symm.trans hg
      injection this with this
      injection this
    subst e
    refine Own.of_row hb hW hc (by simp; omega) (by rw [List.length_set]; exact hn) ?_
    rw [List.length_set, Array.toList_setIfInBounds, List.take_set, Nat.mul_one] at *
    rw [ht]
    simp [List.map_set]
attribute [local go_sem] takes comesTo
set_option maxHeartbeats 2000000 in
theorem walk (v0 : Value) (b0 o0 : Nat) (l0 : List Int) (v1 : Value) (b1 o1 : Nat) (l1 : List Int) (hv0 : SlV v0 b0 o0 l0.length) (hb0 : Bytes l0) (hr0 : l0.length ≤ 140737488351232) (hv1 : SlV v1 b1 o1 l1.length) (hb1 : Bytes l1) (hr1 : l1.length ≤ 140737488351232) (w : World) (hl0 : Lies w b0 o0 l0) (hl1 : Lies w b1 o1 l1) :
    Calls Try.prog 7 #[v0, v1] w fun e w' => e = .returned (.bool true) ∧ Below w.heap.size w w' := by
  have HV0 := Lib.hid hv0
  have HV1 := Lib.hid hv1
  obtain ⟨a0, c0, rfl, _⟩ := hv0
  obtain ⟨a1, c1, rfl, _⟩ := hv1
  have HL := Lib.hid (And.intro hb0 (And.intro hl0 (And.intro hb1 hl1)))
  have hz1 := zero_dig
  clear hb0 hl0 hb1 hl1
  generalize hN0 : l0.length = n0 at *
  generalize hN1 : l1.length = n1 at *
  have HN := Lib.hid (And.intro hN0 hN1)
  have s1 : IntKind.i64.wrap ((n0 : Int) + (n1 : Int)) = ((n0 + n1 : Nat) : Int) := by rw [IntKind.wrap_i64]; omega
  clear hN0 hN1 hr0 hr1
  go_enter Try.func7, Try.ntmps7
  go_wp2_with fail
  refine (awake3_any _).mono ?_
  rintro e w1 ⟨rfl, b1⟩
  have hlt : n0 + n1 ≤ 4000 ∨ (4000 : Int) < ((n0 + n1 : Nat) : Int) := by omega
  rcases hlt with hlt | hlt
  rotate_left
  · have HH := Lib.hid b1
    clear b1
    go_wp2_with fail
    go_ret
    exact ⟨rfl, HH.out⟩
  have hc : ¬ (4000 : Int) < ((n0 + n1 : Nat) : Int) := by omega
  have HLT := Lib.hid (show l0.length + l1.length ≤ 4000 by have := HN.out; omega)
  clear hlt
  go_wp2_with fail
  refine (new_h _).mono ?_
  rintro e w2 ⟨g, rfl, hg1, hg2, b2⟩
  have H2 := Lib.hid (And.intro (Nat.le_trans b1.size hg1) (And.intro hg2 (b1.trans (b2.mono b1.size))))
  clear hg1 hg2 b1 b2
  go_wp2_with ((at_builtin; refine wl_append_b rfl _ _ rfl w.heap.size _ _ rfl (own_zero _ _ H2.out.2.2.size) _ rfl b0 o0 l0 (by rw [HN.out.1]; exact HV0.out) (fun j hj => (((H2.out.2.2.alloc H2.out.2.2.size _).cell (block_lt_of_cell (HL.out.2.1 j hj))).trans (HL.out.2.1 j hj))) (by have := HLT.out; simp; omega) (by rw [size_new]; have := H2.out.2.2.size; omega) ?_; intro v3 w3 hown3 hgrow3 hat3))
  rw [List.nil_append] at hown3
  have hsz2 := H2.out.2.1.lt
  have hob : ∀ k, v3.ownBlock = some k → g < k := fun k hk => by
    rcases hat3 with h | h
    · have := h.symm.trans hk
      simp [Value.ownBlock, Act.eval] at this
      omega
    · have := h.symm.trans hk
      simp at this
      omega
  have H3 := Lib.hid (And.intro (hash_grown (H2.out.2.1.alloc _) hgrow3 (fun h => by simp [Value.ownBlock, Act.eval] at h; omega)) (And.intro ((H2.out.2.2.alloc H2.out.2.2.size _).grown hgrow3 (by rw [size_new]; have := H2.out.2.2.size; omega) (fun k hk => own_block (own_zero w2 w.heap.size H2.out.2.2.size) k hk)) (And.intro hown3 hob)))
  have HG := Lib.hid H2.out.1
  clear hgrow3 hat3 hown3 hsz2 hob H2
  obtain ⟨gv, sv, lv, hgv⟩ := H3.out.2.2.1.slv
  refine (write_h [] l0 HL.out.1 (by have := HLT.out; simp; omega) g gv 0 (fun h => by have := H3.out.2.2.2 gv (hgv h).1; omega) v3 sv w3 H3.out.1 lv).mono ?_
  rintro e w4 ⟨rfl, hbut, hash4⟩
  rw [List.nil_append] at hash4
  have H4 := Lib.hid (And.intro hash4 (And.intro (hbut.below w.heap.size w HG.out H3.out.2.1.size H3.out.2.1) (And.intro (H3.out.2.2.1.but hbut (fun h => by have := H3.out.2.2.2 g h; omega)) H3.out.2.2.2)))
  clear hbut hash4 lv hgv
  obtain ⟨a3, cap3, rfl, _⟩ := sv
  have HOB := Lib.hid H4.out.2.2.2
  have H5 := Lib.hid (And.intro H4.out.1 (And.intro H4.out.2.1 H4.out.2.2.1))
  clear H3 H4
  rw [HN.out.1] at HOB H5 ⊢
  go_wp2_with fail
  go_loopw [8] (fun i wr => ∃ k : Nat, k ≤ n0 ∧ i = .int .i64 (k : Int) ∧ HashAt wr g l0 ∧ Below w.heap.size w wr ∧ ∃ L : List Int, L.length = n0 ∧ Own w.heap.size wr (.slice a3 n0 cap3) L) (fun i _ => n0 - (intOf i).toNat)
  case atStart => exact ⟨0, Nat.zero_le _, rfl, H5.out.1, H5.out.2.1, l0, HN.out.1, H5.out.2.2⟩
  case round =>
    clear H5
    obtain ⟨k, hk, rfl, hash, hbe, L, hLl, hown⟩ := hrel
    by_cases hlt : k < n0
    · obtain ⟨g', cap', cur, hv, hb', hg', _, _, hcell⟩ := hown.cells (by omega)
      injection hv with hv1 hv2 hv3
      subst hv1
      subst hv3
      have hk1 : (k : Int) < (n0 : Int) := by omega
      have hk2 : (0 : Int) ≤ (k : Int) := by omega
      have cc := cell_row hg' k (hcell k (by omega))
      have cf := free_row hg' k
      have HH := Lib.hid (And.intro hash (And.intro hbe (And.intro hown (And.intro hg' (And.intro hb' (HOB.out g' rfl))))))
      have HK := Lib.hid (And.intro hlt hLl)
      clear hash hbe hown hg' hcell hb' hlt hLl hk hv2
      generalize L.getD k 0 = y at *
      go_wp2_with fail
      obtain ⟨x, p, hs, hg⟩ := HH.out.1
      have hkk := HK.out
      have hgg := HH.out.2.2.2.2.2
      refine ⟨⟨k + 1, by omega, rfl, ⟨x, p, hs, (heap_setCell_other _ _ _ _ (by simp; omega)).trans hg⟩, HH.out.2.1.setCell HH.out.2.2.2.2.1 _, L.set k ((y + 1) % 256), by rw [List.length_set]; exact hkk.2, ?_⟩, ?_⟩
      · have ho := HH.out.2.2.1
        rw [← hkk.2] at ho ⊢
        have h9 := own_set (i := k) (y := (y + 1) % 256) (W := wr.setCell ⟨g', k, none⟩ (.int .u8 ((y + 1) % 256))) ho HH.out.2.2.2.1 (heap_setCell_same _ _ _ _ _ _ HH.out.2.2.2.1)
        rw [List.length_set] at h9
        exact h9
      · simp [intOf]; omega
    · obtain rfl : k = n0 := by omega
      have HP := Lib.hid (And.intro hash (And.intro hbe True.intro))
      have hC := row_list .u8 (sumF l0)
      have hCl : (sumF l0).length = 32 := sumF_len l0
      have he0 := eqd (sumF l0) (sumF_len l0)
      have he1 := eqd (sumF (l0 ++ l1)) (sumF_len (l0 ++ l1))
      obtain ⟨C0, hC0⟩ : ∃ C0, C0 = (sumF l0).map (Value.int .u8) := ⟨_, rfl⟩
      have hrow : row .u8 (sumF l0) = C0.toArray := by rw [hC0]; rfl
      have HC0 : Hid (C0.length = 32) := Lib.hid (by rw [hC0, List.length_map, hCl])
      have HSZ : Hid (C0.toArray.size = 32) := Lib.hid (by rw [List.size_toArray]; exact HC0.out)
      have HONE : Hid (C0.toArray.all (·.oneCell') = true) := Lib.hid (by rw [← hrow]; exact row_one _ _)
      have HONE2 : Hid (∀ v ∈ C0, v.oneCell' = true) := Lib.hid (fun v hv => by rw [hC0] at hv; obtain ⟨q, _, rfl⟩ := List.mem_map.1 hv; rfl)
      rw [hrow] at he0
      have HS := Lib.hid hrow
      generalize hS1 : row .u8 (sumF (l0 ++ l1)) = S1 at *
      have HS1 := Lib.hid hS1
      clear hash hbe hown hLl hlt hC hCl hC0 hrow hS1 hk
      go_wp2_with fail
      refine (told_h l0 (by have := HLT.out; omega) g _ HP.out.1).mono ?_
      rintro e t1 ⟨rfl, c1⟩
      rw [HS.out]
      have HT1 := Lib.hid (And.intro (HP.out.1.below c1) (And.intro (BC_below HP.out.2.1 HP.out.2.1.size c1) (fun (k : Nat) (o : Obj) (h : wr.heap[k]? = some o) => BC_blk1 c1 h)))
      clear c1
      go_wp2_with (refine wpList_store_rowTo (o := ⟨none, .store 25 _ _, _, _, _, _⟩) rfl 25 _ _ rfl rfl _ C0.toArray rfl rfl 25 zb32 (heap_alloc_new _ _) (by rw [HSZ.out]; kernel_rfl) (by rw [HSZ.out]; kernel_rfl) HONE.out ?_; rw [World.setRow_alloc_new])
      have HX1 := Lib.hid (And.intro (HT1.out.1.alloc (.cells C0.toArray 25)) (And.intro (HT1.out.2.1.alloc HT1.out.2.1.size (.cells C0.toArray 25)) (And.intro (heap_alloc_new t1 (.cells C0.toArray 25)) (fun (k : Nat) (o : Obj) (h : wr.heap[k]? = some o) => blk_old (HT1.out.2.2 k o h) (.cells C0.toArray 25)))))
      have GL1 := Lib.hid HT1.out.1.lt
      clear HT1
      generalize t1.alloc (.cells C0.toArray 25) = u1 at *
      generalize t1.heap.size = g1 at *
      have G1 := Lib.hid HP.out.1.lt
      go_wp2_with fail
      refine (told_h l0 (by have := HLT.out; omega) g _ HX1.out.1).mono ?_
      rintro e t2 ⟨rfl, c2⟩
      rw [HS.out]
      have HT2 := Lib.hid (And.intro (HX1.out.1.below c2) (And.intro (BC_below HX1.out.2.1 HX1.out.2.1.size c2) (fun (k : Nat) (o : Obj) (h : u1.heap[k]? = some o) => BC_blk1 c2 h)))
      clear c2
      go_wp2_with (refine wpList_store_rowTo (o := ⟨none, .store 25 _ _, _, _, _, _⟩) rfl 25 _ _ rfl rfl _ C0.toArray rfl rfl 25 zb32 (heap_alloc_new _ _) (by rw [HSZ.out]; kernel_rfl) (by rw [HSZ.out]; kernel_rfl) HONE.out ?_; rw [World.setRow_alloc_new])
      have HX2 := Lib.hid (And.intro (HT2.out.1.alloc (.cells C0.toArray 25)) (And.intro (HT2.out.2.1.alloc HT2.out.2.1.size (.cells C0.toArray 25)) (And.intro (heap_alloc_new t2 (.cells C0.toArray 25)) (fun (k : Nat) (o : Obj) (h : u1.heap[k]? = some o) => blk_old (HT2.out.2.2 k o h) (.cells C0.toArray 25)))))
      have GL2 := Lib.hid HT2.out.1.lt
      clear HT2
      generalize t2.alloc (.cells C0.toArray 25) = u2 at *
      generalize t2.heap.size = g2 at *
      have G2 := Lib.hid HX1.out.1.lt
      go_wp2_with fail
      refine (write_h l0 [] bytes_nil (by have := HLT.out; simp; omega) g 0 0 (fun h => by simp at h) _ ⟨none, 0, rfl, Nat.le_refl _, Nat.zero_le _, fun h => by simp at h, fun _ => rfl⟩ u2 HX2.out.1 (Lies.nil _ _ _)).mono ?_
      rintro e w5 ⟨rfl, hbut, hash5⟩
      rw [List.append_nil] at hash5
      have H5 := Lib.hid (And.intro hash5 (And.intro (hbut.below w.heap.size w HG.out HX2.out.2.1.size HX2.out.2.1) (fun (k : Nat) (o : Obj) (h : u2.heap[k]? = some o) (hn : k ≠ g) => hbut.blk h hn)))
      clear hbut hash5
      go_wp2_with fail
      refine (told_h l0 (by have := HLT.out; omega) g _ H5.out.1).mono ?_
      rintro e t3 ⟨rfl, c3⟩
      rw [HS.out]
      have HT3 := Lib.hid (And.intro (H5.out.1.below c3) (And.intro (BC_below H5.out.2.1 H5.out.2.1.size c3) (fun (k : Nat) (o : Obj) (h : w5.heap[k]? = some o) => BC_blk1 c3 h)))
      clear c3
      go_wp2_with (refine wpList_store_rowTo (o := ⟨none, .store 25 _ _, _, _, _, _⟩) rfl 25 _ _ rfl rfl _ C0.toArray rfl rfl 25 zb32 (heap_alloc_new _ _) (by rw [HSZ.out]; kernel_rfl) (by rw [HSZ.out]; kernel_rfl) HONE.out ?_; rw [World.setRow_alloc_new])
      have HX3 := Lib.hid (And.intro (HT3.out.1.alloc (.cells C0.toArray 25)) (And.intro (HT3.out.2.1.alloc HT3.out.2.1.size (.cells C0.toArray 25)) (And.intro (heap_alloc_new t3 (.cells C0.toArray 25)) (fun (k : Nat) (o : Obj) (h : w5.heap[k]? = some o) => blk_old (HT3.out.2.2 k o h) (.cells C0.toArray 25)))))
      have GL3 := Lib.hid HT3.out.1.lt
      clear HT3
      generalize t3.alloc (.cells C0.toArray 25) = u3 at *
      generalize t3.heap.size = g3 at *
      go_wp2_with fail
      refine (write_h l0 l1 HL.out.2.2.1 (by have := HLT.out; omega) g b1 o1 (fun h => by have := HL.out.2.2.2.lt h; have := HG.out; omega) _ (by rw [HN.out.2]; exact HV1.out) u3 HX3.out.1 (fun j hj => (HX3.out.2.1.cell (block_lt_of_cell (HL.out.2.2.2 j hj))).trans (HL.out.2.2.2 j hj))).mono ?_
      rintro e w7 ⟨rfl, hbut, hash7⟩
      have l1g := GL1.out
      have l2g := GL2.out
      have l3g := GL3.out
      have r1 := hbut.blk (HX3.out.2.2.2 _ _ (H5.out.2.2 _ _ (HX2.out.2.2.2 _ _ HX1.out.2.2.1) (by omega))) (by omega)
      have r2 := hbut.blk (HX3.out.2.2.2 _ _ (H5.out.2.2 _ _ HX2.out.2.2.1 (by omega))) (by omega)
      have r3 := hbut.blk HX3.out.2.2.1 (by omega)
      have hb7 := hbut.below w.heap.size w HG.out HX3.out.2.1.size HX3.out.2.1
      have H7 := Lib.hid (And.intro hash7 (And.intro hb7 (And.intro r1 (And.intro r2 r3))))
      have q1 : ∀ x : HW (BC w7), x.w.heap[g1]? = some (.cells C0.toArray 25 (0, 0)) := BC_blk H7.out.2.2.1
      have q2 : ∀ x : HW (BC w7), x.w.heap[g2]? = some (.cells C0.toArray 25 (0, 0)) := BC_blk H7.out.2.2.2.1
      have q3 : ∀ x : HW (BC w7), x.w.heap[g3]? = some (.cells C0.toArray 25 (0, 0)) := BC_blk H7.out.2.2.2.2
      have Q1 := Lib.hid (And.intro q1 (And.intro q2 q3))
      have HL0 : Hid (∀ W, BC w7 W → Lies W b0 o0 l0) := Lib.hid (fun W h => (HL.out.2.1.below H7.out.2.1).below h)
      have HL1 : Hid (∀ W, BC w7 W → Lies W b1 o1 l1) := Lib.hid (fun W h => (HL.out.2.2.2.below H7.out.2.1).below h)
      have HH7 : Hid (∀ W, BC w7 W → HashAt W g (l0 ++ l1)) := Lib.hid (fun W h => H7.out.1.below h)
      clear l1g l2g l3g r1 r2 r3 hb7 hbut hash7 HX1 HX2 HX3 H5 HP q1 q2 q3
      haveI := BC_inst w7
      go_wp2_with fail
      refine wp_region_held_drew (S := BC w7) (by kernel_rfl) (BC_start _) (fun s0 => ?_)
      have S0 := Lib.hid s0
      clear s0
      refine takeV (i := 0) rfl (by kernel_rfl) (by kernel_rfl) (by kernel_rfl) (fun _ _ _ _ h => h) S0.out (fun K hK => ?_)
      go_simp
      refine hK.out _ ?_
      clear hK K
      refine takeV (i := 1) rfl (by kernel_rfl) (by kernel_rfl) (by kernel_rfl) (fun _ _ _ _ h => h) S0.out (fun K hK => ?_)
      go_simp
      refine hK.out _ ?_
      clear hK K
      refine takeR (i := 2) rfl (by kernel_rfl) (by kernel_rfl) (by kernel_rfl) (fun _ _ _ _ h => h) S0.out 25 _ rfl (by rfl) _ rfl _ C0.toArray _ _ Q1.out.1 Try.underlying25 rfl (by rw [HSZ.out]; kernel_rfl) ?_
      simp only [Act.put, List.setIfInBounds_toArray, List.set_cons_zero, List.set_cons_succ]
      refine takeR (i := 3) rfl (by kernel_rfl) (by kernel_rfl) (by kernel_rfl) (fun _ _ _ _ h => h) S0.out 25 _ rfl (by rfl) _ rfl _ C0.toArray _ _ Q1.out.2.1 Try.underlying25 rfl (by rw [HSZ.out]; kernel_rfl) ?_
      simp only [Act.put, List.setIfInBounds_toArray, List.set_cons_zero, List.set_cons_succ]
      refine takeV (i := 4) rfl (by kernel_rfl) (by kernel_rfl) (by kernel_rfl) (fun _ _ _ _ h => h) S0.out (fun K hK => ?_)
      go_simp
      refine hK.out _ ?_
      clear hK K
      refine takeV (i := 5) rfl (by kernel_rfl) (by kernel_rfl) (by kernel_rfl) (fun _ _ _ _ h => h) S0.out (fun K hK => ?_)
      go_simp
      refine hK.out _ ?_
      clear hK K
      refine takeV (i := 6) rfl (by kernel_rfl) (by kernel_rfl) (by kernel_rfl) (fun _ _ _ _ h => h) S0.out (fun K hK => ?_)
      go_simp
      refine hK.out _ ?_
      clear hK K
      refine takeR (i := 7) rfl (by kernel_rfl) (by kernel_rfl) (by kernel_rfl) (fun _ _ _ _ h => h) S0.out 25 _ rfl (by rfl) _ rfl _ C0.toArray _ _ Q1.out.2.1 Try.underlying25 rfl (by rw [HSZ.out]; kernel_rfl) ?_
      simp only [Act.put, List.setIfInBounds_toArray, List.set_cons_zero, List.set_cons_succ]
      refine takeR (i := 8) rfl (by kernel_rfl) (by kernel_rfl) (by kernel_rfl) (fun _ _ _ _ h => h) S0.out 25 _ rfl (by rfl) _ rfl _ C0.toArray _ _ Q1.out.2.2 Try.underlying25 rfl (by rw [HSZ.out]; kernel_rfl) ?_
      simp only [Act.put, List.setIfInBounds_toArray, List.set_cons_zero, List.set_cons_succ]
      refine takeV (i := 9) rfl (by kernel_rfl) (by kernel_rfl) (by kernel_rfl) (fun _ _ _ _ h => h) S0.out (fun K hK => ?_)
      go_simp
      refine hK.out _ ?_
      clear hK K
      refine takeV (i := 10) rfl (by kernel_rfl) (by kernel_rfl) (by kernel_rfl) (fun _ _ _ _ h => h) S0.out (fun K hK => ?_)
      go_simp
      refine hK.out _ ?_
      clear hK K
      refine takeV (i := 11) rfl (by kernel_rfl) (by kernel_rfl) (by kernel_rfl) (fun _ _ _ _ h => h) S0.out (fun K hK => ?_)
      go_simp
      refine hK.out _ ?_
      clear hK K
      refine takeR (i := 12) rfl (by kernel_rfl) (by kernel_rfl) (by kernel_rfl) (fun _ _ _ _ h => h) S0.out 25 _ rfl (by rfl) _ rfl _ C0.toArray _ _ Q1.out.1 Try.underlying25 rfl (by rw [HSZ.out]; kernel_rfl) ?_
      simp only [Act.put, List.setIfInBounds_toArray, List.set_cons_zero, List.set_cons_succ]
      refine takeV (i := 13) rfl (by kernel_rfl) (by kernel_rfl) (by kernel_rfl) (fun _ _ _ _ h => h) S0.out (fun K hK => ?_)
      go_simp
      refine hK.out _ ?_
      clear hK K
      refine stepX (i := 14) rfl (by kernel_rfl) (fun K hK => ?_)
      go_simp
      refine (sum_any l0 HL.out.1 (by have := HLT.out; omega) b0 o0 (.slice a0 k c0) (by rw [HN.out.1]; exact HV0.out) _ (HL0.out _ S0.out)).mono ?_
      rintro e w8 ⟨rfl, b8⟩
      rw [HS.out]
      have S8 : Hid (BC w7 w8) := Lib.hid (BC_below S0.out S0.out.size b8)
      clear b8
      refine hK.out _ _ S8.out ?_
      clear hK K
      refine takeV (i := 15) rfl (by kernel_rfl) (by kernel_rfl) (by kernel_rfl) (fun _ _ _ _ h => h) S8.out (fun K hK => ?_)
      go_simp
      refine hK.out _ ?_
      clear hK K
      refine takeV (i := 16) rfl (by kernel_rfl) (by kernel_rfl) (by kernel_rfl) (fun _ _ _ _ h => h) S8.out (fun K hK => ?_)
      go_simp
      refine hK.out _ ?_
      clear hK K
      refine takeV (i := 17) rfl (by kernel_rfl) (by kernel_rfl) (by kernel_rfl) (fun _ _ _ _ h => h) S8.out (fun K hK => ?_)
      go_simp
      refine hK.out _ ?_
      clear hK K
      refine takeV (i := 18) rfl (by kernel_rfl) (by kernel_rfl) (by kernel_rfl) (fun _ _ _ _ h => h) S8.out (fun K hK => ?_)
      go_simp
      refine hK.out _ ?_
      clear hK K
      refine takeV (i := 21) rfl (by kernel_rfl) (by kernel_rfl) (by kernel_rfl) (fun _ _ _ _ h => h) S8.out (fun K hK => ?_)
      go_simp
      refine hK.out _ ?_
      clear hK K
      refine takeV (i := 23) rfl (by kernel_rfl) (by kernel_rfl) (by kernel_rfl) (fun _ _ _ _ h => h) S8.out (fun K hK => ?_)
      go_simp
      refine hK.out _ ?_
      clear hK K
      refine stepXX (i := 19) (j := 20) rfl rfl (by kernel_rfl) (fun K hK => ?_) (fun K hK => ?_)
      · go_simp
        refine (told_h (l0 ++ l1) (by rw [List.length_append]; have := HLT.out; omega) g _ (HH7.out _ S8.out)).mono ?_
        rintro e w9 ⟨rfl, b9⟩
        rw [HS1.out]
        have S9 : Hid (BC w7 w9) := Lib.hid (BC_below S8.out (Below.size S8.out) b9)
        clear b9
        refine hK.out _ _ S9.out ?_
        clear hK K
        refine stepX (i := 20) rfl (by kernel_rfl) (fun K hK => ?_)
        go_simp
        have SA : Hid (BC w7 (w9.alloc (.cells #[] 5))) := Lib.hid (Below.alloc S9.out (Below.size S9.out) _)
        refine hK.out _ _ SA.out ?_
        clear hK K
        refine stepX (i := 22) rfl (by kernel_rfl) (fun K hK => ?_)
        refine step_append_b (by rfl) (.tmp 74) (.tmp 75) (by rfl) w7.heap.size _ [] (by rfl) (own_zero w9 _ (Below.size S9.out)) _ (by rfl) b0 o0 l0 (by rw [HN.out.1]; exact HV0.out) (HL0.out _ SA.out) (by have := HLT.out; simp; omega) (Below.size SA.out) ?_
        intro v76 w76 hown76 hcl76
        have S76 : Hid (BC w7 w76) := Lib.hid (hcl76 w7.heap.size w7 (Nat.le_refl _) SA.out)
        have HO76 := Lib.hid hown76
        clear hcl76 hown76
        refine hK.out _ _ S76.out ?_
        clear hK K
        simp only [Act.put, List.setIfInBounds_toArray, List.set_cons_zero, List.set_cons_succ]
        refine stepX (i := 24) rfl (by kernel_rfl) (fun K hK => ?_)
        refine step_append_b (by rfl) (.tmp 76) (.tmp 77) (by rfl) w7.heap.size _ _ (by rfl) HO76.out _ (by rfl) b1 o1 l1 (by rw [HN.out.2]; exact HV1.out) (HL1.out _ S76.out) (by have := HLT.out; simp; omega) (Below.size S76.out) ?_
        intro v78 w78 hown78 hcl78
        have S78 : Hid (BC w7 w78) := Lib.hid (hcl78 w7.heap.size w7 (Nat.le_refl _) S76.out)
        have HO78 := Lib.hid hown78
        clear hcl78 hown78
        refine hK.out _ _ S78.out ?_
        clear hK K
        simp only [Act.put, List.setIfInBounds_toArray, List.set_cons_zero, List.set_cons_succ]
        refine stepX (i := 25) rfl (by kernel_rfl) (fun K hK => ?_)
        go_simp
        obtain ⟨gA, sA, lA, _⟩ := HO78.out.slv
        refine (sum_any ([] ++ l0 ++ l1) (bytes_app HL.out.1 HL.out.2.2.1) (by have := HLT.out; simp; omega) gA 0 v78 sA _ lA).mono ?_
        rintro e w10 ⟨rfl, b10⟩
        rw [zero_rest, HS1.out]
        have S10 : Hid (BC w7 w10) := Lib.hid (BC_below S78.out (Below.size S78.out) b10)
        clear b10 sA lA
        refine hK.out _ _ S10.out ?_
        clear hK K
        refine takeV (i := 26) rfl (by kernel_rfl) (by kernel_rfl) (by kernel_rfl) (fun _ _ _ _ h => h) S10.out (fun K hK => ?_)
        go_simp
        refine hK.out _ ?_
        clear hK K
        refine takeV (i := 27) rfl (by kernel_rfl) (by kernel_rfl) (by kernel_rfl) (fun _ _ _ _ h => h) S10.out (fun K hK => ?_)
        go_simp
        refine hK.out _ ?_
        clear hK K
        refine takeV (i := 28) rfl (by kernel_rfl) (by kernel_rfl) (by kernel_rfl) (fun _ _ _ _ h => h) S10.out (fun K hK => ?_)
        go_simp
        refine hK.out _ ?_
        clear hK K
        refine wpAnyH_done (by kernel_rfl) ?_ _
        go_wp2_with fail
        go_ret
        exact ⟨rfl, BC_below H7.out.2.1 H7.out.2.1.size S10.out⟩
      · go_simp
        have SB : Hid (BC w7 (w8.alloc (.cells #[] 5))) := Lib.hid (Below.alloc S8.out (Below.size S8.out) _)
        refine hK.out _ _ SB.out ?_
        clear hK K
        refine stepX (i := 19) rfl (by kernel_rfl) (fun K hK => ?_)
        go_simp
        refine (told_h (l0 ++ l1) (by rw [List.length_append]; have := HLT.out; omega) g _ (HH7.out _ SB.out)).mono ?_
        rintro e w9 ⟨rfl, b9⟩
        rw [HS1.out]
        have S9 : Hid (BC w7 w9) := Lib.hid (BC_below SB.out (Below.size SB.out) b9)
        have HZ := Lib.hid ((own_zero w8 w7.heap.size (Below.size S8.out)).below b9)
        clear b9
        refine hK.out _ _ S9.out ?_
        clear hK K
        refine stepX (i := 22) rfl (by kernel_rfl) (fun K hK => ?_)
        refine step_append_b (by rfl) (.tmp 74) (.tmp 75) (by rfl) w7.heap.size _ [] (by rfl) HZ.out _ (by rfl) b0 o0 l0 (by rw [HN.out.1]; exact HV0.out) (HL0.out _ S9.out) (by have := HLT.out; simp; omega) (Below.size S9.out) ?_
        intro v76 w76 hown76 hcl76
        have S76 : Hid (BC w7 w76) := Lib.hid (hcl76 w7.heap.size w7 (Nat.le_refl _) S9.out)
        have HO76 := Lib.hid hown76
        clear hcl76 hown76
        refine hK.out _ _ S76.out ?_
        clear hK K
        simp only [Act.put, List.setIfInBounds_toArray, List.set_cons_zero, List.set_cons_succ]
        refine stepX (i := 24) rfl (by kernel_rfl) (fun K hK => ?_)
        refine step_append_b (by rfl) (.tmp 76) (.tmp 77) (by rfl) w7.heap.size _ _ (by rfl) HO76.out _ (by rfl) b1 o1 l1 (by rw [HN.out.2]; exact HV1.out) (HL1.out _ S76.out) (by have := HLT.out; simp; omega) (Below.size S76.out) ?_
        intro v78 w78 hown78 hcl78
        have S78 : Hid (BC w7 w78) := Lib.hid (hcl78 w7.heap.size w7 (Nat.le_refl _) S76.out)
        have HO78 := Lib.hid hown78
        clear hcl78 hown78
        refine hK.out _ _ S78.out ?_
        clear hK K
        simp only [Act.put, List.setIfInBounds_toArray, List.set_cons_zero, List.set_cons_succ]
        refine stepX (i := 25) rfl (by kernel_rfl) (fun K hK => ?_)
        go_simp
        obtain ⟨gA, sA, lA, _⟩ := HO78.out.slv
        refine (sum_any ([] ++ l0 ++ l1) (bytes_app HL.out.1 HL.out.2.2.1) (by have := HLT.out; simp; omega) gA 0 v78 sA _ lA).mono ?_
        rintro e w10 ⟨rfl, b10⟩
        rw [zero_rest, HS1.out]
        have S10 : Hid (BC w7 w10) := Lib.hid (BC_below S78.out (Below.size S78.out) b10)
        clear b10 sA lA
        refine hK.out _ _ S10.out ?_
        clear hK K
        refine takeV (i := 26) rfl (by kernel_rfl) (by kernel_rfl) (by kernel_rfl) (fun _ _ _ _ h => h) S10.out (fun K hK => ?_)
        go_simp
        refine hK.out _ ?_
        clear hK K
        refine takeV (i := 27) rfl (by kernel_rfl) (by kernel_rfl) (by kernel_rfl) (fun _ _ _ _ h => h) S10.out (fun K hK => ?_)
        go_simp
        refine hK.out _ ?_
        clear hK K
        refine takeV (i := 28) rfl (by kernel_rfl) (by kernel_rfl) (by kernel_rfl) (fun _ _ _ _ h => h) S10.out (fun K hK => ?_)
        go_simp
        refine hK.out _ ?_
        clear hK K
        refine wpAnyH_done (by kernel_rfl) ?_ _
        go_wp2_with fail
        go_ret
        exact ⟨rfl, BC_below H7.out.2.1 H7.out.2.1.size S10.out⟩

theorem own : ownKnob Try.prog.godebug = none := by kernel_rfl
theorem laidOut : laidOutB Try.prog = true := by kernel_rfl
set_option maxRecDepth 100000 in
theorem lifted (os : Os) (started : os.Started) (H : Type) (enc : TypeId × Value → H) :
    ReturnsInHanded {} Try.checked os 7 .any (Rows.shaStaysSpec.pre6 enc Try.prog Try.f7 Rows.shaStaysRow.domain false) (Rows.shaStaysSpec.post enc Try.prog Try.f7 false true false false) := by
  refine returnsInHanded_of_change_sized (C := Try.checked) own started (by kernel_rfl) Try.func7
    (ChangeSpec.witness6 (enc := enc) (C := Try.checked) false ⟨#[], #[.slice none 0 0, .slice none 0 0], []⟩ 8 (by kernel_rfl) (by kernel_rfl) (by kernel_rfl) (by kernel_rfl)) ?_
  intro W base args ds gs before hval0 hW hcnd hsz0 _
  have hsz : (DataW.weightsEach Try.prog (Try.f7.params.toList ++ Rows.shaStaysSpec.plain.varTypes Try.prog) (ds ++ gs)).all (· ≤ reachBytes) = true := hsz0
  have hval : ∀ (j : Nat) t v, Try.f7.params[j]? = some t → args[j]? = some v → Value.okWide Try.prog W .any base t v := hval0
  have hW' := hW
  obtain ⟨p, q, hA0, hV, rfl, hfz, hnd⟩ := hW
  have hA : DataW.TrodAll enc Try.prog W 0 (fun _ => true) true Try.f7.params.toList args.toList ds p := hA0
  rw [Try.params7] at hA hval hsz
  obtain ⟨v0, vs0, d0, ds0, p0, q0, hargs, rfl, rfl, h0, r0⟩ := trodAll_cons hA
  obtain ⟨v1, vs1, d1, ds1, p1, q1, rfl, rfl, rfl, h1, r1⟩ := trodAll_cons r0
  obtain ⟨rfl, rfl, rfl⟩ := trodAll_nil r1
  obtain rfl : args = #[v0, v1] := by cases args; simp_all
  obtain ⟨rfl, rfl⟩ := trodVars_none hV
  obtain ⟨a0, len0, cap0, rfl⟩ := okWide_slice Try.underlying22 (hval 0 22 v0 rfl rfl)
  have k0 := h0
  have lt0 : ∀ x ∈ p0, x.block < W.heap.size := by obtain ⟨m, hm⟩ := k0; exact DataW.trod_lt m _ _ _ hm
  obtain ⟨b0, o0, l0, hv0, hl0, hb0, hr0⟩ : ∃ b o l, SlV (.slice a0 len0 cap0) b o l.length ∧ Lies W b o l ∧ Bytes l ∧ l.length ≤ 140737488351232 := by
    obtain ⟨fuel, hf⟩ := h0
    exact open_bytes Try.underlying22 Try.underlying5 (by kernel_rfl) (by kernel_rfl) hf (fun n hn => by
      have := List.all_eq_true.1 hsz n (DataW.weights_mem_each (j := 0) rfl rfl n hn)
      simpa using this)
  obtain ⟨a1, len1, cap1, rfl⟩ := okWide_slice Try.underlying22 (hval 1 22 v1 rfl rfl)
  have k1 := h1
  have lt1 : ∀ x ∈ p1, x.block < W.heap.size := by obtain ⟨m, hm⟩ := k1; exact DataW.trod_lt m _ _ _ hm
  obtain ⟨b1, o1, l1, hv1, hl1, hb1, hr1⟩ : ∃ b o l, SlV (.slice a1 len1 cap1) b o l.length ∧ Lies W b o l ∧ Bytes l ∧ l.length ≤ 140737488351232 := by
    obtain ⟨fuel, hf⟩ := h1
    exact open_bytes Try.underlying22 Try.underlying5 (by kernel_rfl) (by kernel_rfl) hf (fun n hn => by
      have := List.all_eq_true.1 hsz n (DataW.weights_mem_each (j := 1) rfl rfl n hn)
      simpa using this)
  clear hA0 hval0
  refine (walk (.slice a0 len0 cap0) b0 o0 l0 (.slice a1 len1 cap1) b1 o1 l1 hv0 hb0 hr0 hv1 hb1 hr1 W hl0 hl1).mono fun e W' ⟨he, bel⟩ => ?_
  subst he
  exact ⟨_, rfl, _, _, _, [], _, [], hW', trodAll_mk1 (shut_bool Try.underlying4 _), (trodAll_cons_mk (Below.trod laidOut (by kernel_rfl) (of_decide_eq_true (by kernel_rfl)) k0 bel lt0) (trodAll_cons_mk (Below.trod laidOut (by kernel_rfl) (of_decide_eq_true (by kernel_rfl)) k1 bel lt1) trodAll_mk0)), rfl, bel.frame _, fun h => by cases h⟩
theorem over : Rows.shaStaysRow.holds Try.pinned (OpenSpec.ofChange Rows.shaStaysSpec) :=
  OpenClaim.holds_of_wide 7 Try.f7 rfl rfl rfl rfl rfl rfl rfl ⟨rfl, rfl, rfl, rfl, rfl⟩ rfl rfl rfl rfl rfl (by kernel_rfl) Try.func7 (by kernel_rfl)
    (of_decide_eq_true (by kernel_rfl)) (by unfold Func.isWrapper; first | (rw [if_pos (by decide +kernel)]; kernel_rfl) | (rw [if_neg (by decide +kernel)]; exact ⟨rfl, rfl⟩))
    (fun os started H enc _ => lifted os started H enc)
theorem proved : Rows.ShaStaysSaid := over
#print axioms proved
end Go.Proofs.Ytcijdceomgdakaa.shaStaysDone
