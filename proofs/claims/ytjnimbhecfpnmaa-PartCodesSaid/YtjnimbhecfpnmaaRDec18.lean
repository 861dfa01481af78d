/- The walk of the reference's Decode (layer 18). -/
import Derived.Test.YtjnimbhecfpnmaaREnc18
import Derived.Test.YtjnimbhecfpnmaaAwake18
import Derived.Test.YtjnimbhecfpnmaaGuard
import Derived.Deep.Cut
import Derived.Deep.DeepCutAuto
namespace Go.Proofs.Ytjnimbhecfpnmaa
set_option maxRecDepth 100000
open Go.ChangeShapes Go.WideShapes Go.ChangeAt Go.RowKit

theorem run_append_b (w : World) (base : Nat) (v : Value) (xs : List Int) (hown : Own base w v xs) (y : Value) (b off : Nat) (ms : List Int) (hy : SlV y b off ms.length) (hl : Lies w b off ms)
    (h63 : xs.length + ms.length ≤ 140737488355328) (hbase : base ≤ w.heap.size) (ty : TypeId) :
    ∃ v' w', (Builtin.append_ #[24, 24] ty #[v, y]).run Try.prog w = .ok v' w' ∧ Own base w' v' (xs ++ ms) ∧ w.grownBy w' v.ownBlock := by
  obtain ⟨i, hi, hz0, hz1, hz2⟩ := info_parts info_byte
  obtain ⟨p, cap, rfl, hcap, hmax, hp, hnone⟩ := hy
  have grow0 : w.grownBy w v.ownBlock := ⟨rfl, rfl, rfl, Nat.le_refl _, fun _ _ _ => rfl⟩
  by_cases hm : 0 < ms.length
  · obtain rfl := hp hm
    obtain ⟨v', w', h0, h1, h2, _, _⟩ := run_append_own_at (P := Try.prog) w base 24 ty 5 i (.int .u8 0) 1 1 Try.underlying24 hi hz0 hz1 hz2 rfl (by omega) v xs.length (xs.map (Value.int .u8)) hown ⟨b, off, none⟩ ms.length cap (ms.map (Value.int .u8)) (by simp)
      (fun j u hu => by
        have hj : j < ms.length := by have := (List.getElem?_eq_some_iff.1 hu).1; simpa using this
        rw [Addr.add_mid, hl j hj, ← hu, List.getElem?_map, List.getElem?_eq_getElem hj]
        simp [List.getD, hj]) (fun u hu => by obtain ⟨q, _, rfl⟩ := List.mem_map.1 hu; rfl) (by unfold maxLen; omega) (by omega) hbase
    refine ⟨v', w', h0, ?_, h2⟩
    unfold Own
    rw [List.length_append, List.map_append]
    exact h1
  · have h0 : ms = [] := List.eq_nil_of_length_eq_zero (by omega)
    subst h0
    have hown2 : Own base w v (xs ++ []) := by rw [List.append_nil]; exact hown
    cases p with
    | none =>
      obtain rfl := hnone rfl
      exact ⟨v, w, run_append_owned_none (P := Try.prog) (w := w) base 24 ty 5 i 1 Try.underlying24 hi v xs.length (xs.map (Value.int .u8)) hown, hown2, grow0⟩
    | some ad =>
      obtain ⟨v', w', h0, h1, h2, _, _⟩ := run_append_own_at (P := Try.prog) w base 24 ty 5 i (.int .u8 0) 1 1 Try.underlying24 hi hz0 hz1 hz2 rfl (by omega) v xs.length (xs.map (Value.int .u8)) hown ad 0 cap [] (by simp)
        (fun j u hu => by simp at hu) (fun u hu => by simp at hu) (by simp at h63; unfold maxLen; omega) (by simp at h63; omega) hbase
      refine ⟨v', w', h0, ?_, h2⟩
      unfold Own
      rw [List.append_nil]
      simpa using h1
/-- append(own.., bytes...) as a step of a region that draws its order -/
theorem step_append_g {ops : Array Oper} {o : Oper} {a : Act} {w : World} {K : Act → World → Prop} {Q : Exit → Act → World → Prop} {E : Prop} (hw : Region.wanted o (yielded ops a.tmps) = true) (s x : Operand)
    (ho : o.op = .call { callee := .builtin .append, args := #[s, x], argTypes := #[24, 24] }) (base : Nat) (v : Value) (xs : List Int) (hs : a.eval s = v) (hown : Own base w v xs)
    (y : Value) (hx : a.eval x = y) (b off : Nat) (ms : List Int) (hy : SlV y b off ms.length) (hl : Lies w b off ms) (h63 : xs.length + ms.length ≤ 140737488355328) (hbase : base ≤ w.heap.size)
    (h : ∀ v' w', Own base w' v' (xs ++ ms) → w.grownBy w' v.ownBlock → K (a.put o.dst v') w') : if Region.wanted o (yielded ops a.tmps) = true then Oper.wp Try.prog o a w K Q else E := by
  obtain ⟨v', w', hr, h1, h2⟩ := run_append_b w base v xs hown y b off ms hy hl h63 hbase o.type
  rw [if_pos hw]
  unfold Oper.wp execOp
  simp only [ho, resolve, invoke, builtin, Sem.run_bind, Sem.run_pure, Result.andThen_ok, List.map_toArray, List.map_cons, List.map_nil, hs, hx, hr]
  exact h v' w' h1 h2
theorem own_ne {base : Nat} {w : World} {v : Value} {l : List Int} (h : Own base w v l) {g : Nat} {cs : Array Value} {fr : Nat × Nat} (hg : w.heap[g]? = some (.cells cs 33 fr)) : v.ownBlock ≠ some g := by
  obtain ⟨_, ⟨rfl, _⟩ | ⟨g', cap, cur, rfl, _, hg', _⟩⟩ := h
  · simp [Value.ownBlock]
  · intro e
    simp [Value.ownBlock] at e
    subst e
    rw [hg] at hg'
    injection hg' with hg'
    injection hg' with _ e2
    cases e2
theorem zero_rpart (w : World) : (zeroValue 33).run Try.prog w = .ok (.agg zpart) w := by kernel_rfl
def z32 : List Int := List.replicate 32 0
theorem build_zpart (s a : Int) (p : Option Addr) (n c : Nat) : Try.prog.built 33 [(1, .int .i64 s), (2, .int .i64 a), (3, .slice p n c)] = some (pcells z32 s a (.slice p n c)).toArray := by kernel_rfl
theorem ptold_take (l : List Int) : ptoldF (l.take 4) = ptoldF l := by
  unfold ptoldF
  simp [List.getD]
/-- the digest so far -/
def whk (wh : List Int) (k : Nat) : List Int := wh.take k ++ List.replicate (32 - k) 0
theorem whk_len {wh : List Int} (h : wh.length = 32) {k : Nat} (hk : k ≤ 32) : (whk wh k).length = 32 := by unfold whk; simp [h]; omega
theorem whk_zero (wh : List Int) : whk wh 0 = z32 := by unfold whk z32; simp
theorem whk_all {wh : List Int} (h : wh.length = 32) : whk wh 32 = wh := by unfold whk; rw [List.take_of_length_le (by omega)]; simp
theorem whk_set {wh : List Int} (h : wh.length = 32) {k : Nat} (hk : k < 32) : (whk wh k).set k (wh.getD k 0) = whk wh (k + 1) := by
  unfold whk
  apply List.ext_getElem?
  intro i
  have hl : (wh.take k).length = k := by rw [List.length_take]; omega
  rw [List.getElem?_set]
  by_cases h1 : k = i
  · subst h1
    rw [if_pos rfl, if_pos (by simp [h]; omega), List.getElem?_append_left (by rw [List.length_take]; omega), List.getElem?_take_of_lt (by omega), List.getElem?_eq_getElem (by omega)]
    simp [List.getD, h, hk]
  · rw [if_neg h1]
    rcases Nat.lt_or_ge i k with h2 | h2
    · rw [List.getElem?_append_left (by omega), List.getElem?_append_left (by rw [List.length_take]; omega), List.getElem?_take_of_lt h2, List.getElem?_take_of_lt (by omega)]
    · rw [List.getElem?_append_right (by omega), List.getElem?_append_right (by rw [List.length_take]; omega), hl, List.length_take, List.getElem?_replicate, List.getElem?_replicate]
      have e1 : (i - k < 32 - k) = (i - min (k + 1) wh.length < 32 - (k + 1)) := by rw [h]; exact propext ⟨fun _ => by omega, fun _ => by omega⟩
      simp only [e1]
theorem pcells_setk (wh : List Int) (s a : Int) (v : Value) {k : Nat} (hk : k < wh.length) (y : Int) : (pcells wh s a v).toArray.setIfInBounds k (.int .u8 y) = (pcells (wh.set k y) s a v).toArray := by
  unfold pcells
  rw [List.setIfInBounds_toArray, List.set_append_left _ _ (by simpa using hk), List.map_set]
theorem pcells_getk (wh : List Int) (s a : Int) (v : Value) {k : Nat} (hk : k < wh.length) : (pcells wh s a v).toArray[k]? = some (.int .u8 (wh.getD k 0)) := by
  rw [List.getElem?_toArray]
  unfold pcells
  rw [List.getElem?_append_left (by simpa using hk), List.getElem?_map, List.getElem?_eq_getElem hk]
  simp [List.getD, hk]
attribute [local go_sem] takes takesE comesTo
attribute [local irreducible] SlV Lies
theorem rdecode_short (b o : Nat) (v : Value) (l : List Int) (hn : l.length ≤ 80) (hv : SlV v b o l.length) (w : World) :
    Calls Try.prog 18 #[v] w fun e w' => ∃ v', e = .returned (.tuple #[.agg (pcells (dWh l) (dSz l) (dAt l) v').toArray, .int .i64 (errF l)]) ∧ Own w.heap.size w' v' (dDa l) ∧ Below w.heap.size w w' := by
  have he : errF l = 3 := by unfold errF; rw [if_pos hn]
  obtain ⟨e1, e2⟩ := dec_bad (l := l) (by rw [he]; decide) (.slice none 0 0)
  have HE := Lib.hid (And.intro e1 e2)
  rw [he]
  clear e1 e2 he
  obtain ⟨a, cap, rfl, _⟩ := by unfold SlV at hv; exact hv
  have hz := zero_rpart
  have hle : (l.length : Int) < 81 := by omega
  generalize l.length = n at *
  clear hn hv
  go_enter Try.func18, Try.ntmps18
  go_wp2_with (refine wpList_store_rowTo rfl 33 _ _ rfl rfl _ zpart rfl rfl 33 zpart (heap_alloc_new w _) (by kernel_rfl) (by kernel_rfl) zpart_one ?_; rw [World.setRow_alloc_new])
  exact bodyPost_ret (results_row_tmp (p := 2) (u := 3) (by kernel_rfl) _ _ _ _ _ _ _ rfl (heap_alloc_new w _) Try.underlying33 rfl (by kernel_rfl)) rfl ⟨.slice none 0 0, by rw [HE.out.1]; rfl, by rw [HE.out.2]; exact Own.nil _ _, below1 w _⟩
set_option linter.unusedSimpArgs false in
set_option maxHeartbeats 4000000 in
theorem rdecode_long (b o : Nat) (v : Value) (l : List Int) (hlb : Bytes l) (hn : 80 < l.length) (hN : l.length ≤ 400000) (hv : SlV v b o l.length) (w : World) (hl : Lies w b o l) :
    Calls Try.prog 18 #[v] w fun e w' => ∃ v', e = .returned (.tuple #[.agg (pcells (dWh l) (dSz l) (dAt l) v').toArray, .int .i64 (errF l)]) ∧ Own w.heap.size w' v' (dDa l) ∧ Below w.heap.size w w' := by
  obtain ⟨m, hm⟩ : ∃ m, l.length = m + 32 := ⟨l.length - 32, by omega⟩
  have HV := Lib.hid hv
  obtain ⟨a, cap, rfl, hcap, hmax, hp, _⟩ := by unfold SlV at hv; exact hv
  obtain rfl := hp (by omega)
  have hz := zero_rpart
  have hz2 := zero_dig
  obtain ⟨n, hnn⟩ : ∃ n, n = m + 32 := ⟨_, rfl⟩
  rw [hm, ← hnn] at hn hN hcap hv HV ⊢
  obtain ⟨I, hI⟩ : ∃ I, I = inL l := ⟨_, rfl⟩
  obtain ⟨E, hE⟩ : ∃ E, E = endL l := ⟨_, rfl⟩
  have hIlen : I.length = m := by rw [hI]; unfold inL; rw [List.length_take, hm]; omega
  have hElen : E.length = 32 := by rw [hE]; unfold endL; rw [List.length_drop, hm]; omega
  have hIb : Bytes I := by rw [hI]; exact bytes_take hlb _
  have hEb : Bytes E := by rw [hE]; exact bytes_drop hlb _
  have hIl : ∀ W, BC w W → Lies W b o I := fun W hW => by rw [hI]; exact lies_take (hl.below' hW) _
  have hEl : ∀ W, BC w W → Lies W b (o + m) E := fun W hW => by
    have h := lies_drop (hl.below' hW) (l.length - 32)
    rw [hE]
    unfold endL
    have e : l.length - 32 = m := by rw [hm]; omega
    rw [e] at h ⊢
    exact h
  have s0 : IntKind.i64.wrap ((n : Int) - 32) = (m : Int) := by rw [IntKind.wrap_i64]; omega
  have s2 : IntKind.i64.wrap (m : Int) = (m : Int) := by rw [IntKind.wrap_i64]; omega
  have s3 : wrap64 (m : Int) = (m : Int) := by unfold wrap64; omega
  have s1 : (n : Int) - 32 = (m : Int) := by omega
  have k0 : ¬ (n : Int) < 81 := by omega
  have k2 : (m : Int) ≤ (cap : Int) := by omega
  have k3 : (m : Int) ≤ (n : Int) := by omega
  have k4 : (n : Int) ≤ (cap : Int) := by omega
  have k5 : (0 : Int) ≤ (m : Int) := by omega
  have k6 : ¬ cap = m := by omega
  have k7 : n - m = 32 := by omega
  have HL := Lib.hid (And.intro hlb (And.intro hl (And.intro hm (And.intro hn (And.intro hN (And.intro hcap (And.intro hmax (And.intro hnn (And.intro hI hE)))))))))
  have HI := Lib.hid (And.intro hIlen (And.intro hElen (And.intro hIb (And.intro hEb (And.intro hIl hEl)))))
  clear hlb hl hm hn hN hcap hmax hv hp hnn hI hE hIlen hElen hIb hEb hIl hEl
  have HB0 := Lib.hid (And.intro (heap_alloc_new w (.cells zpart 33)) (below1 w (.cells zpart 33)))
  go_enter Try.func18, Try.ntmps18
  go_wp2_with fail
  refine (r3sum_any I HI.out.2.2.1 (by rw [HI.out.1]; have := HL.out; omega) b o _ (by rw [HI.out.1]; exact slv_at b o m cap (by have := HL.out; omega) HL.out.2.2.2.2.2.2.1) _ (HI.out.2.2.2.2.1 _ HB0.out.2)).mono ?_
  rintro e w1 ⟨rfl, b1⟩
  obtain ⟨S, hS⟩ : ∃ S, S = sumF I := ⟨_, rfl⟩
  have hS32 : S.length = 32 := by rw [hS]; exact sumF_len I
  have hSb : Bytes S := by rw [hS]; exact sumF_bytes I
  rw [← hS]
  have hRs : (row .u8 S).size = 32 := by rw [row_size, hS32]
  have HRS := Lib.hid (And.intro hRs (row_one .u8 S))
  obtain ⟨w2, hw2⟩ : ∃ W, W = w1.alloc (.cells (row .u8 S) 23) := ⟨_, rfl⟩
  obtain ⟨B5, hB5⟩ : ∃ B, B = w1.heap.size := ⟨_, rfl⟩
  have n5 := heap_alloc_new w1 (.cells (row .u8 S) 23)
  have bb := below1 w1 (.cells (row .u8 S) 23)
  rw [← hw2, ← hB5] at n5
  rw [← hw2] at bb
  have bw : BC w w2 := BC_trans (HB0.out.2.trans (b1.mono HB0.out.2.size)) bb
  have H2 := Lib.hid (And.intro (BC_blk1 bb (BC_blk1 b1 HB0.out.1)) (And.intro bw (And.intro n5 (And.intro hw2 (And.intro hB5 (And.intro hS32 (And.intro hSb hS)))))))
  clear b1 n5 bb bw hw2 hB5 hS32 hSb hS hRs
  go_upto_region 5 with (refine wpList_store_rowTo rfl 23 _ _ rfl rfl _ (row .u8 S) rfl rfl 23 zb32 (heap_alloc_new w1 _) (by rw [HRS.out.1]; kernel_rfl) (by rw [HRS.out.1]; kernel_rfl) HRS.out.2 ?_; rw [World.setRow_alloc_new])
  rw [← H2.out.2.2.2.1, ← H2.out.2.2.2.2.1]
  have hc1 : ∀ x : HW (QC w2), (convert 24 9 (.slice (some ⟨B5, 0, none⟩) 32 32)).run Try.prog x.w = .ok (.string (strOfNums S)) x.w := fun x => conv_slv B5 0 _ S (by rw [H2.out.2.2.2.2.2.1]; exact slv_all _ 32 (by decide)) x.w (Lies.of_row (QC_blk H2.out.2.2.1 x))
  have hc2 : ∀ x : HW (QC w2), (convert 24 9 (.slice (some ⟨b, o + m, none⟩) 32 (cap - m))).run Try.prog x.w = .ok (.string (strOfNums E)) x.w := fun x => conv_slv b (o + m) _ E (by rw [HI.out.2.1]; exact slv_at _ _ _ _ (by have := HL.out; omega) (by have := HL.out; omega)) x.w (HI.out.2.2.2.2.2 x.w (QC_below H2.out.2.1 x.h))
  have HNE := Lib.hid (nums_eql H2.out.2.2.2.2.2.2.1 HI.out.2.2.2.1)
  generalize strOfNums S = S1 at *
  generalize strOfNums E = S2 at *
  have hS := QC_all (w := w2)
  haveI := QC_inst w2
  by_cases hq : (S1.toList == S2.toList) = true
  · have hq2 : (S1.toList == S2.toList) = true := hq
    have hs : sumF I = E := by
      have h1 := HNE.out.symm.trans hq
      unfold sameB at h1
      rw [← H2.out.2.2.2.2.2.2.2]
      exact of_decide_eq_true h1
    have HSE := Lib.hid hs
    clear hs hq
    refine wp_region_head (QC w2) 8 (by kernel_rfl) (by kernel_rfl) (QC_start _) ?_
    simp only [List.take_succ_cons, List.take_zero, List.drop_succ_cons, List.drop_zero]
    repeat (first
      | (refine headG_step (fun K hK => ?_)
         go_simp
         first
           | (refine hK _ ?_; clear hK K)))
    refine headG_nil ?_
    intro w4 q4
    have z2 : w4.heap[w.heap.size]? = some (.cells zpart 33 (0, 0)) := QC_blk1 q4 H2.out.1
    have HB4 := Lib.hid (And.intro z2 (QC_below H2.out.2.1 q4))
    clear z2 q4 hc1 hc2 hS
    go_upto_region 7 with fail
    have j1 : (40 : Int) ≤ (n : Int) := by omega
    have j2 : (44 : Int) ≤ (n : Int) := by omega
    have j3 : (48 : Int) ≤ (m : Int) := by omega
    have j4 : ¬ cap = 36 := by omega
    have j5 : ¬ cap = 40 := by omega
    have j6 : ¬ cap = 48 := by omega
    have j7 : (40 : Int) ≤ (cap : Int) := by omega
    have j8 : (44 : Int) ≤ (cap : Int) := by omega
    have hIw : ∀ W, BC w4 W → Lies W b o I := fun W hW => HI.out.2.2.2.2.1 W (BC_below HB4.out.2 HB4.out.2.size hW)
    have HT1 : Hid (∀ x : HW (BC w4), Calls Try.prog 50 #[.slice (some ⟨b, o + 36, none⟩) 4 (cap - 36)] x.w fun e w' => e = .returned (.int .i64 (szF I)) ∧ Below x.w.heap.size x.w w') := Lib.hid (fun x => by
      have h := HL.out
      have h1 := HI.out.1
      have h4 : ((I.drop 36).take 4).length = 4 := by rw [List.length_take, List.length_drop, h1]; omega
      have hh := rnumber_any b (o + 36) (.slice (some ⟨b, o + 36, none⟩) 4 (cap - 36)) ((I.drop 36).take 4) (bytes_take (bytes_drop HI.out.2.2.1 _) _) (Nat.le_of_eq h4.symm) (by rw [h4]; exact slv_at _ _ _ _ (by omega) (by omega)) x.w (lies_take (lies_drop (hIw x.w x.h) 36) 4)
      rw [ptold_take] at hh
      exact hh)
    have HT2 : Hid (∀ x : HW (BC w4), Calls Try.prog 50 #[.slice (some ⟨b, o + 40, none⟩) 4 (cap - 40)] x.w fun e w' => e = .returned (.int .i64 (atF I)) ∧ Below x.w.heap.size x.w w') := Lib.hid (fun x => by
      have h := HL.out
      have h1 := HI.out.1
      have h4 : ((I.drop 40).take 4).length = 4 := by rw [List.length_take, List.length_drop, h1]; omega
      have hh := rnumber_any b (o + 40) (.slice (some ⟨b, o + 40, none⟩) 4 (cap - 40)) ((I.drop 40).take 4) (bytes_take (bytes_drop HI.out.2.2.1 _) _) (Nat.le_of_eq h4.symm) (by rw [h4]; exact slv_at _ _ _ _ (by omega) (by omega)) x.w (lies_take (lies_drop (hIw x.w x.h) 40) 4)
      rw [ptold_take] at hh
      exact hh)
    have HDV : Hid (SlV (.slice (some ⟨b, o + 48, none⟩) (m - 48) (cap - 48)) b (o + 48) (daF I).length ∧ ∀ W, BC w4 W → Lies W b (o + 48) (daF I)) := Lib.hid ⟨by unfold daF; rw [List.length_drop, HI.out.1]; exact slv_at _ _ _ _ (by have := HL.out; omega) (by have := HL.out; omega), fun W hW => lies_drop (hIw W hW) 48⟩
    have HBZ : Hid (∀ p n c, Try.prog.built 33 [(1, .int .i64 (szF I)), (2, .int .i64 (atF I)), (3, .slice p n c)] = some (pcells z32 (szF I) (atF I) (.slice p n c)).toArray) := Lib.hid (fun p n c => build_zpart _ _ p n c)
    have hdl : (daF I).length ≤ 400000 := by unfold daF; rw [List.length_drop, HI.out.1]; have := HL.out; omega
    have HDL := Lib.hid hdl
    have hS := BC_refl
    haveI := BC_inst w4
    clear hIw hdl
    obtain ⟨sz, hsz⟩ : ∃ x, x = szF I := ⟨_, rfl⟩
    obtain ⟨at', hat'⟩ : ∃ x, x = atF I := ⟨_, rfl⟩
    rw [← hsz] at HT1 HBZ
    rw [← hat'] at HT2 HBZ
    have HF := Lib.hid (And.intro hsz hat')
    clear hsz hat'
    go_cut [6] (fun s6 wx => ∃ (g : Nat) (p4 : Option Addr) (c4 : Nat), s6 = .pointer (some ⟨g, 0, none⟩) ∧ w4.heap.size ≤ g ∧ wx.heap[g]? = some (.cells (pcells z32 sz at' (.slice p4 (daF I).length c4)).toArray 33 (0, 0)) ∧ Own w4.heap.size wx (.slice p4 (daF I).length c4) (daF I) ∧ (Value.slice p4 (daF I).length c4).ownBlock ≠ some g ∧ BC w4 wx)
    case first =>
      refine wp_region_E (by kernel_rfl) ?_
      have SB := Lib.hid (BC_refl w4)
      refine takeE (i := 0) rfl (by kernel_rfl) (by kernel_rfl) (by kernel_rfl) (fun _ _ _ _ h => h) SB.out (fun K hK => ?_)
      go_simp
      refine hK.out _ ?_
      clear hK K
      refine takeE (i := 1) rfl (by kernel_rfl) (by kernel_rfl) (by kernel_rfl) (fun _ _ _ _ h => h) SB.out (fun K hK => ?_)
      go_simp
      refine hK.out _ ?_
      clear hK K
      refine takeE (i := 2) rfl (by kernel_rfl) (by kernel_rfl) (by kernel_rfl) (fun _ _ _ _ h => h) SB.out (fun K hK => ?_)
      go_simp
      apply Exists.intro
      refine ⟨fun x => ?_, hK.out _ ?_⟩
      · go_at_call 50
        exact HT1.out x
      clear hK K
      refine takeE (i := 3) rfl (by kernel_rfl) (by kernel_rfl) (by kernel_rfl) (fun _ _ _ _ h => h) SB.out (fun K hK => ?_)
      go_simp
      refine hK.out _ ?_
      clear hK K
      refine takeE (i := 4) rfl (by kernel_rfl) (by kernel_rfl) (by kernel_rfl) (fun _ _ _ _ h => h) SB.out (fun K hK => ?_)
      go_simp
      refine hK.out _ ?_
      clear hK K
      refine takeE (i := 5) rfl (by kernel_rfl) (by kernel_rfl) (by kernel_rfl) (fun _ _ _ _ h => h) SB.out (fun K hK => ?_)
      go_simp
      apply Exists.intro
      refine ⟨fun x => ?_, hK.out _ ?_⟩
      · go_at_call 50
        exact HT2.out x
      clear hK K
      refine takeE (i := 7) rfl (by kernel_rfl) (by kernel_rfl) (by kernel_rfl) (fun _ _ _ _ h => h) SB.out (fun K hK => ?_)
      go_simp
      refine hK.out _ ?_
      clear hK K
      refine takeE (i := 8) rfl (by kernel_rfl) (by kernel_rfl) (by kernel_rfl) (fun _ _ _ _ h => h) SB.out (fun K hK => ?_)
      go_simp
      refine hK.out _ ?_
      clear hK K
      refine takeE (i := 9) rfl (by kernel_rfl) (by kernel_rfl) (by kernel_rfl) (fun _ _ _ _ h => h) SB.out (fun K hK => ?_)
      go_simp
      refine hK.out _ ?_
      clear hK K
      refine takeE (i := 10) rfl (by kernel_rfl) (by kernel_rfl) (by kernel_rfl) (fun _ _ _ _ h => h) SB.out (fun K hK => ?_)
      go_simp
      refine hK.out _ ?_
      clear hK K
      refine stepEE (i := 6) (j := 13) rfl rfl (by kernel_rfl) ?ga ?gb
      case ga =>
        intro w5 r5 K hK
        go_simp
        have S6 : Hid (BC w4 (w5.alloc (.cells #[] 5))) := Lib.hid (Below.alloc r5 (Below.size r5) _)
        have HR6 := Lib.hid (below1 w5 (.cells #[] 5))
        refine hK.out _ _ S6.out ?_
        clear hK K
        have O6 : Hid (Own w4.heap.size (w5.alloc (.cells #[] 5)) (.slice (some ⟨w5.heap.size, 0, none⟩) 0 0) []) := Lib.hid (own_zero w5 _ (Below.size r5))
        generalize w5.heap.size = g35 at *
        generalize w5.alloc (.cells #[] 5) = w6 at *
        clear HR6
        clear r5
        refine stepEE (i := 11) (j := 13) rfl rfl (by kernel_rfl) ?gaa ?gab
        case gaa =>
          intro w7 r7 K hK
          refine step_append_g (by rfl) (.tmp 35) (.tmp 39) (by rfl) w4.heap.size _ [] (by rfl) (O6.out.below r7) _ (by rfl) b (o + 48) (daF I) HDV.out.1 (HDV.out.2 _ (BC_trans S6.out r7)) (by have := HDL.out; simp; omega) (Below.size (BC_trans S6.out r7)) ?_
          intro v40 w40 own40 grown40
          have S40 : Hid (BC w4 w40) := Lib.hid ((BC_trans S6.out r7).grown grown40 (Below.size (BC_trans S6.out r7)) (own_block (O6.out.below r7)))
          refine hK.out _ _ S40.out ?_
          clear hK K
          simp only [Act.put, List.setIfInBounds_toArray, List.set_cons_zero, List.set_cons_succ, List.getElem_toArray, List.getElem_cons_succ, List.getElem_cons_zero]
          replace own40 : Own w4.heap.size w40 v40 (daF I) := own40
          obtain ⟨p4, c4, rfl⟩ := own40.form
          have O40 := Lib.hid own40
          clear own40 grown40 r7
          have HPS : Hid ((pcells z32 sz at' (.slice p4 (daF I).length c4)).toArray.size = 35) := Lib.hid (pcells_sz (by decide) _ _ _)
          have HPO : Hid ((pcells z32 sz at' (.slice p4 (daF I).length c4)).toArray.all (·.oneCell') = true) := Lib.hid (pcells_one _ _ _ _ rfl)
          obtain ⟨PC, hPC⟩ : ∃ PC, PC = (pcells z32 sz at' (.slice p4 (daF I).length c4)).toArray := ⟨_, rfl⟩
          have hBD := HBZ.out p4 (daF I).length c4
          rw [← hPC] at hBD HPS HPO
          have HPC := Lib.hid (And.intro hPC hBD)
          clear hPC hBD
          refine takeEB (i := 12) rfl (by kernel_rfl) (by kernel_rfl) (by kernel_rfl) (fun _ _ _ _ h => h) S40.out 33 _ rfl (by rfl) PC (Eq.trans (congrArg (Try.prog.built 33) (by kernel_rfl)) HPC.out.2) ?_
          simp only [Act.put, List.setIfInBounds_toArray, List.set_cons_zero, List.set_cons_succ, List.getElem_toArray, List.getElem_cons_succ, List.getElem_cons_zero]
          refine stepE (i := 13) rfl (by kernel_rfl) (fun w8 r8 K hK => ?_)
          go_simp
          have S9 : Hid (BC w4 (w8.alloc (.cells zpart 33))) := Lib.hid (Below.alloc (BC_trans S40.out r8) (Below.size (BC_trans S40.out r8)) _)
          refine hK.out _ _ S9.out ?_
          clear hK K
          have Z9 : Hid ((w8.alloc (.cells zpart 33)).heap[w8.heap.size]? = some (.cells zpart 33 (0, 0)) ∧ w4.heap.size ≤ w8.heap.size) := Lib.hid ⟨heap_alloc_new _ _, Below.size (BC_trans S40.out r8)⟩
          have O9 : Hid (Own w4.heap.size (w8.alloc (.cells zpart 33)) (.slice p4 (daF I).length c4) (daF I)) := Lib.hid ((O40.out.below r8).below (below1 _ _))
          clear O40
          generalize w8.heap.size = g9 at *
          generalize w8.alloc (.cells zpart 33) = w9 at *
          clear r8
          refine stepE (i := 14) rfl (by kernel_rfl) (fun wS rS K hK => ?_)
          rw [if_pos (by rfl)]
          have ZS := BC_blk1 rS Z9.out.1
          refine wp_store_row 33 (.tmp 6) (.tmp 41) rfl g9 PC rfl rfl 33 zpart ZS (by rw [HPS.out]; kernel_rfl) (by rw [HPS.out]; kernel_rfl) HPO.out ?_
          have SS : Hid (BC w4 (wS.setRow g9 PC)) := Lib.hid (below_row (BC_trans S9.out rS) Z9.out.2 PC)
          refine hK.out _ _ SS.out ?_
          clear hK K
          refine doneE (by kernel_rfl) (fun wT rT => ?_) _
          have hne := own_ne (O9.out.below rS) ZS
          have ot := ((O9.out.below rS).but (But.of_store (g := g9) (fun k hk => setRow_other wS g9 k PC hk) (fun B w0 hB hb => below_row hb hB PC)) hne).below rT
          have zt := BC_blk1 rT (setRow_heap _ _ _ PC _ _ ZS)
          rw [HPC.out.1] at zt
          have HT := Lib.hid (And.intro zt (And.intro ot (And.intro hne (BC_trans SS.out rT))))
          clear zt ot hne
          go_wp2_with fail
          go_meet
          exact ⟨g9, p4, c4, rfl, Z9.out.2, HT.out.1, HT.out.2.1, HT.out.2.2.1, HT.out.2.2.2⟩
        case gab =>
          intro w8 r8 K hK
          go_simp
          have S9 : Hid (BC w4 (w8.alloc (.cells zpart 33))) := Lib.hid (Below.alloc (BC_trans S6.out r8) (Below.size (BC_trans S6.out r8)) _)
          refine hK.out _ _ S9.out ?_
          clear hK K
          have Z9 : Hid ((w8.alloc (.cells zpart 33)).heap[w8.heap.size]? = some (.cells zpart 33 (0, 0)) ∧ w4.heap.size ≤ w8.heap.size) := Lib.hid ⟨heap_alloc_new _ _, Below.size (BC_trans S6.out r8)⟩
          have O9 := Lib.hid ((O6.out.below r8).below (below1 w8 (.cells zpart 33)))
          clear O6
          generalize w8.heap.size = g9 at *
          generalize w8.alloc (.cells zpart 33) = w9 at *
          clear r8
          have O6 := O9
          replace S6 := S9
          refine stepE (i := 11) rfl (by kernel_rfl) (fun w7 r7 K hK => ?_)
          refine step_append_g (by rfl) (.tmp 35) (.tmp 39) (by rfl) w4.heap.size _ [] (by rfl) (O6.out.below r7) _ (by rfl) b (o + 48) (daF I) HDV.out.1 (HDV.out.2 _ (BC_trans S6.out r7)) (by have := HDL.out; simp; omega) (Below.size (BC_trans S6.out r7)) ?_
          intro v40 w40 own40 grown40
          have S40 : Hid (BC w4 w40) := Lib.hid ((BC_trans S6.out r7).grown grown40 (Below.size (BC_trans S6.out r7)) (own_block (O6.out.below r7)))
          have Z40 : Hid (w40.heap[g9]? = some (.cells zpart 33 (0, 0))) := Lib.hid ((grown40.block g9 (blk_lt (BC_blk1 r7 Z9.out.1)) (fun e => own_ne (O6.out.below r7) (BC_blk1 r7 Z9.out.1) e.symm)).trans (BC_blk1 r7 Z9.out.1))
          refine hK.out _ _ S40.out ?_
          clear hK K
          simp only [Act.put, List.setIfInBounds_toArray, List.set_cons_zero, List.set_cons_succ, List.getElem_toArray, List.getElem_cons_succ, List.getElem_cons_zero]
          replace own40 : Own w4.heap.size w40 v40 (daF I) := own40
          obtain ⟨p4, c4, rfl⟩ := own40.form
          have O40 := Lib.hid own40
          clear own40 grown40 r7
          have HPS : Hid ((pcells z32 sz at' (.slice p4 (daF I).length c4)).toArray.size = 35) := Lib.hid (pcells_sz (by decide) _ _ _)
          have HPO : Hid ((pcells z32 sz at' (.slice p4 (daF I).length c4)).toArray.all (·.oneCell') = true) := Lib.hid (pcells_one _ _ _ _ rfl)
          obtain ⟨PC, hPC⟩ : ∃ PC, PC = (pcells z32 sz at' (.slice p4 (daF I).length c4)).toArray := ⟨_, rfl⟩
          have hBD := HBZ.out p4 (daF I).length c4
          rw [← hPC] at hBD HPS HPO
          have HPC := Lib.hid (And.intro hPC hBD)
          clear hPC hBD
          refine takeEB (i := 12) rfl (by kernel_rfl) (by kernel_rfl) (by kernel_rfl) (fun _ _ _ _ h => h) S40.out 33 _ rfl (by rfl) PC (Eq.trans (congrArg (Try.prog.built 33) (by kernel_rfl)) HPC.out.2) ?_
          simp only [Act.put, List.setIfInBounds_toArray, List.set_cons_zero, List.set_cons_succ, List.getElem_toArray, List.getElem_cons_succ, List.getElem_cons_zero]
          refine stepE (i := 14) rfl (by kernel_rfl) (fun wS rS K hK => ?_)
          rw [if_pos (by rfl)]
          have ZS := BC_blk1 rS Z40.out
          refine wp_store_row 33 (.tmp 6) (.tmp 41) rfl g9 PC rfl rfl 33 zpart ZS (by rw [HPS.out]; kernel_rfl) (by rw [HPS.out]; kernel_rfl) HPO.out ?_
          have SS : Hid (BC w4 (wS.setRow g9 PC)) := Lib.hid (below_row (BC_trans S40.out rS) Z9.out.2 PC)
          refine hK.out _ _ SS.out ?_
          clear hK K
          refine doneE (by kernel_rfl) (fun wT rT => ?_) _
          have hne := own_ne (O40.out.below rS) ZS
          have ot := ((O40.out.below rS).but (But.of_store (g := g9) (fun k hk => setRow_other wS g9 k PC hk) (fun B w0 hB hb => below_row hb hB PC)) hne).below rT
          have zt := BC_blk1 rT (setRow_heap _ _ _ PC _ _ ZS)
          rw [HPC.out.1] at zt
          have HT := Lib.hid (And.intro zt (And.intro ot (And.intro hne (BC_trans SS.out rT))))
          clear zt ot hne
          go_wp2_with fail
          go_meet
          exact ⟨g9, p4, c4, rfl, Z9.out.2, HT.out.1, HT.out.2.1, HT.out.2.2.1, HT.out.2.2.2⟩
      case gb =>
        intro w8 r8 K hK
        go_simp
        have S9 : Hid (BC w4 (w8.alloc (.cells zpart 33))) := Lib.hid (Below.alloc r8 (Below.size r8) _)
        refine hK.out _ _ S9.out ?_
        clear hK K
        have Z9 : Hid ((w8.alloc (.cells zpart 33)).heap[w8.heap.size]? = some (.cells zpart 33 (0, 0)) ∧ w4.heap.size ≤ w8.heap.size) := Lib.hid ⟨heap_alloc_new _ _, Below.size r8⟩
        generalize w8.heap.size = g9 at *
        generalize w8.alloc (.cells zpart 33) = w9 at *
        clear r8
        refine stepE (i := 6) rfl (by kernel_rfl) (fun w5 r5 K hK => ?_)
        go_simp
        have S6 : Hid (BC w4 (w5.alloc (.cells #[] 5))) := Lib.hid (Below.alloc (BC_trans S9.out r5) (Below.size (BC_trans S9.out r5)) _)
        have HR6 := Lib.hid (below1 w5 (.cells #[] 5))
        refine hK.out _ _ S6.out ?_
        clear hK K
        have O6 : Hid (Own w4.heap.size (w5.alloc (.cells #[] 5)) (.slice (some ⟨w5.heap.size, 0, none⟩) 0 0) []) := Lib.hid (own_zero w5 _ (Below.size (BC_trans S9.out r5)))
        have Z6 : Hid ((w5.alloc (.cells #[] 5)).heap[g9]? = some (.cells zpart 33 (0, 0))) := Lib.hid (BC_blk1 HR6.out (BC_blk1 r5 Z9.out.1))
        generalize w5.heap.size = g35 at *
        generalize w5.alloc (.cells #[] 5) = w6 at *
        clear HR6
        clear r5
        refine stepE (i := 11) rfl (by kernel_rfl) (fun w7 r7 K hK => ?_)
        refine step_append_g (by rfl) (.tmp 35) (.tmp 39) (by rfl) w4.heap.size _ [] (by rfl) (O6.out.below r7) _ (by rfl) b (o + 48) (daF I) HDV.out.1 (HDV.out.2 _ (BC_trans S6.out r7)) (by have := HDL.out; simp; omega) (Below.size (BC_trans S6.out r7)) ?_
        intro v40 w40 own40 grown40
        have S40 : Hid (BC w4 w40) := Lib.hid ((BC_trans S6.out r7).grown grown40 (Below.size (BC_trans S6.out r7)) (own_block (O6.out.below r7)))
        have Z40 : Hid (w40.heap[g9]? = some (.cells zpart 33 (0, 0))) := Lib.hid ((grown40.block g9 (blk_lt (BC_blk1 r7 Z6.out)) (fun e => own_ne (O6.out.below r7) (BC_blk1 r7 Z6.out) e.symm)).trans (BC_blk1 r7 Z6.out))
        refine hK.out _ _ S40.out ?_
        clear hK K
        simp only [Act.put, List.setIfInBounds_toArray, List.set_cons_zero, List.set_cons_succ, List.getElem_toArray, List.getElem_cons_succ, List.getElem_cons_zero]
        replace own40 : Own w4.heap.size w40 v40 (daF I) := own40
        obtain ⟨p4, c4, rfl⟩ := own40.form
        have O40 := Lib.hid own40
        clear own40 grown40 r7
        have HPS : Hid ((pcells z32 sz at' (.slice p4 (daF I).length c4)).toArray.size = 35) := Lib.hid (pcells_sz (by decide) _ _ _)
        have HPO : Hid ((pcells z32 sz at' (.slice p4 (daF I).length c4)).toArray.all (·.oneCell') = true) := Lib.hid (pcells_one _ _ _ _ rfl)
        obtain ⟨PC, hPC⟩ : ∃ PC, PC = (pcells z32 sz at' (.slice p4 (daF I).length c4)).toArray := ⟨_, rfl⟩
        have hBD := HBZ.out p4 (daF I).length c4
        rw [← hPC] at hBD HPS HPO
        have HPC := Lib.hid (And.intro hPC hBD)
        clear hPC hBD
        refine takeEB (i := 12) rfl (by kernel_rfl) (by kernel_rfl) (by kernel_rfl) (fun _ _ _ _ h => h) S40.out 33 _ rfl (by rfl) PC (Eq.trans (congrArg (Try.prog.built 33) (by kernel_rfl)) HPC.out.2) ?_
        simp only [Act.put, List.setIfInBounds_toArray, List.set_cons_zero, List.set_cons_succ, List.getElem_toArray, List.getElem_cons_succ, List.getElem_cons_zero]
        refine stepE (i := 14) rfl (by kernel_rfl) (fun wS rS K hK => ?_)
        rw [if_pos (by rfl)]
        have ZS := BC_blk1 rS Z40.out
        refine wp_store_row 33 (.tmp 6) (.tmp 41) rfl g9 PC rfl rfl 33 zpart ZS (by rw [HPS.out]; kernel_rfl) (by rw [HPS.out]; kernel_rfl) HPO.out ?_
        have SS : Hid (BC w4 (wS.setRow g9 PC)) := Lib.hid (below_row (BC_trans S40.out rS) Z9.out.2 PC)
        refine hK.out _ _ SS.out ?_
        clear hK K
        refine doneE (by kernel_rfl) (fun wT rT => ?_) _
        have hne := own_ne (O40.out.below rS) ZS
        have ot := ((O40.out.below rS).but (But.of_store (g := g9) (fun k hk => setRow_other wS g9 k PC hk) (fun B w0 hB hb => below_row hb hB PC)) hne).below rT
        have zt := BC_blk1 rT (setRow_heap _ _ _ PC _ _ ZS)
        rw [HPC.out.1] at zt
        have HT := Lib.hid (And.intro zt (And.intro ot (And.intro hne (BC_trans SS.out rT))))
        clear zt ot hne
        go_wp2_with fail
        go_meet
        exact ⟨g9, p4, c4, rfl, Z9.out.2, HT.out.1, HT.out.2.1, HT.out.2.2.1, HT.out.2.2.2⟩
    case rest =>
      obtain ⟨g, p4, c4, rfl, hg, hblk, hown, hne, hbc⟩ := hcut
      obtain ⟨wA, rfl⟩ : ∃ W, W = wc := ⟨_, rfl⟩
      have HR := Lib.hid (And.intro hg (And.intro hblk (And.intro hown hbc)))
      clear hg hblk hown hne hbc hS HT1 HT2 HBZ s0 s1 s2 s3 k0 k2 k3 k5 k6 k7 j1 j2 j3 j4 j5 j6 j7 j8
      have hwl : (whF I).length = 32 := by unfold whF; rw [List.length_take, List.length_drop, HI.out.1]; have := HL.out; omega
      have HWL := Lib.hid hwl
      clear hwl
      go_wp2_with fail
      go_loopw [7] (fun i wr => ∃ k : Nat, k ≤ 32 ∧ i = .int .i64 (k : Int) ∧ wr.heap[g]? = some (.cells (pcells (whk (whF I) k) sz at' (.slice p4 (daF I).length c4)).toArray 33 (0, 0)) ∧ Own w4.heap.size wr (.slice p4 (daF I).length c4) (daF I) ∧ BC w4 wr) (fun i _ => 32 - (intOf i).toNat)
      case atStart => exact ⟨0, Nat.zero_le _, rfl, by rw [whk_zero]; exact HR.out.2.1, HR.out.2.2.1, HR.out.2.2.2⟩
      case round =>
        obtain ⟨k, hk, rfl, hblk, hown, hbc⟩ := hrel
        have HX := Lib.hid (And.intro hblk (And.intro hown hbc))
        clear hblk hown hbc
        by_cases hlt : k < 32
        · obtain ⟨K4, hK4⟩ : ∃ K, K = 4 + k := ⟨_, rfl⟩
          obtain ⟨y, hy⟩ : ∃ y, y = (whF I).getD k 0 := ⟨_, rfl⟩
          have cB : wr.cell? ⟨b, o + K4, none⟩ = some (.int .u8 y) := by
            have h : Lies wr b (o + 4) (whF I) := lies_take (lies_drop (HI.out.2.2.2.2.1 wr (BC_below HB4.out.2 HB4.out.2.size HX.out.2.2)) 4) 32
            unfold Lies at h
            have h2 := h k (by rw [HWL.out]; exact hlt)
            rw [Nat.add_assoc, ← hK4, ← hy] at h2
            exact h2
          have hkl : k < (whk (whF I) k).length := by rw [whk_len HWL.out hk]; exact hlt
          have cG := cell_row HX.out.1 k (pcells_getk _ _ _ _ hkl)
          have fG := free_row HX.out.1 k
          have t1 : IntKind.i64.wrap (4 + (k : Int)) = (K4 : Int) := by rw [IntKind.wrap_i64]; omega
          have t2 : (4 : Int) + (k : Int) = (K4 : Int) := by omega
          have t3 : (0 : Int) ≤ (K4 : Int) := by omega
          have t4 : (K4 : Int) < (n : Int) := by have := HL.out; omega
          have t5 : K4 < n := by have := HL.out; omega
          have t6 : (0 : Int) ≤ (k : Int) := by omega
          have t7 : (k : Int) < 32 := by omega
          have t8 : IntKind.i64.wrap ((k : Int) + 1) = ((k + 1 : Nat) : Int) := by rw [IntKind.wrap_i64]; omega
          have hset := blk_set HX.out.1 k (.int .u8 y)
          rw [pcells_setk _ _ _ _ hkl, hy, whk_set HWL.out hlt, ← hy] at hset
          have hown2 : Own w4.heap.size (wr.setCell ⟨g, k, none⟩ (.int .u8 y)) (.slice p4 (daF I).length c4) (daF I) := HX.out.2.1.keep fun j cs _ hj => blk_far hj (fun e => (blk_ne hj HX.out.1 (by decide)) e) _
          have hbc2 : BC w4 (wr.setCell ⟨g, k, none⟩ (.int .u8 y)) := Below.setCell (p := ⟨g, k, none⟩) HX.out.2.2 HR.out.1 _
          have HY := Lib.hid (And.intro hset (And.intro hown2 hbc2))
          generalize (whk (whF I) k).getD k 0 = y0 at *
          clear hK4 hy hkl hset hown2 hbc2
          go_wp2_with fail
          go_roundw
          case rel => exact ⟨k + 1, by omega, rfl, HY.out.1, HY.out.2.1, HY.out.2.2⟩
          case measure => simp [intOf]; omega
        · have hk32 : k = 32 := by omega
          have hge : ¬ (k : Int) < 32 := by omega
          have hb32 := HX.out.1
          rw [hk32, whk_all HWL.out] at hb32
          have hPsz := pcells_sz HWL.out sz at' (.slice p4 (daF I).length c4)
          have hPon := pcells_one (whF I) sz at' (.slice p4 (daF I).length c4) rfl
          obtain ⟨PC, hPC⟩ : ∃ PC, PC = (pcells (whF I) sz at' (.slice p4 (daF I).length c4)).toArray := ⟨_, rfl⟩
          rw [← hPC] at hb32 hPsz hPon
          have HP := Lib.hid (And.intro hPC (And.intro hPsz (And.intro hPon hb32)))
          clear hk32 hb32 hPC hPsz hPon hlt hk
          have z2 := BC_blk1 HX.out.2.2 HB4.out.1
          have HZ := Lib.hid z2
          clear z2
          go_wp2_with ((with_reducible refine wlw_load_row (o := ⟨some 55, _, _, _, _, _⟩) ?_ 33 (.tmp 6) ?_ _ ?_ _ PC _ _ HP.out.2.2.2 Try.underlying33 ?_ ?_ ?_); (focus rfl); (focus rfl); (focus rfl); (focus rfl); (focus (rw [HP.out.2.1]; kernel_rfl)))
          obtain ⟨gd, sd, ld, _⟩ := HX.out.2.1.slv
          have XD := Lib.hid (And.intro sd ld)
          clear sd ld
          have hIv := HL.out.2.2.2.2.2.2.2.2
          by_cases hmay : mayB sz at' (daF I).length = true
          · have HEN := rencode_yes (whF I) HWL.out (bytes_take (bytes_drop HI.out.2.2.1 _) _) sz at' (.slice p4 (daF I).length c4) gd 0 (daF I) (bytes_drop HI.out.2.2.1 _) (by have := HDL.out; omega) XD.out.1 hmay wr XD.out.2
            rw [← HP.out.1] at HEN
            refine HEN.mono ?_
            rintro e w10 ⟨v10, rfl, own10, b10⟩
            obtain ⟨ge, se, le, _⟩ := own10.slv
            have cX := conv_slv ge 0 v10 _ se w10 le
            have cY := conv_slv b o _ l (by rw [HL.out.2.2.1, ← HL.out.2.2.2.2.2.2.2.1]; exact HV.out) w10 (HL.out.2.1.below' (BC_below HB4.out.2 HB4.out.2.size (BC_trans HX.out.2.2 b10)))
            have HEQ := Lib.hid (nums_eql (l := encF (whF I) sz at' (daF I)) (m := l) (encF_bytes (bytes_take (bytes_drop HI.out.2.2.1 _) _) (bytes_drop HI.out.2.2.1 _) _ _) HL.out.1)
            have HMY := Lib.hid hmay
            have Y10 := Lib.hid (And.intro (BC_blk1 b10 HP.out.2.2.2) (And.intro (HX.out.2.1.below b10) (And.intro (BC_trans HX.out.2.2 b10) (BC_blk1 b10 HZ.out))))
            obtain ⟨p10, c10, rfl⟩ := own10.form
            clear HEN own10 b10 se le hmay hIv
            generalize strOfNums (encF (whF I) sz at' (daF I)) = S5 at *
            generalize strOfNums l = S6 at *
            generalize (encF (whF I) sz at' (daF I)).length = nE at *
            by_cases hq5 : (S5.toList == S6.toList) = true
            · have he : errF l = 0 := by
                have h1 := HEQ.out.symm.trans hq5
                unfold sameB at h1
                have h9 := of_decide_eq_true h1
                have h3 := HF.out
                have h4 := HL.out.2.2.2.2.2.2.2.2
                unfold errF
                rw [if_neg (by have := HL.out; omega), if_neg ?_, if_pos ?_]
                · rw [← h4.1, ← h3.1, ← h3.2]
                  exact ⟨HMY.out, h9⟩
                · rw [← h4.1, ← h4.2]
                  exact fun h => h HSE.out
              have HE : Hid ((pcells (dWh l) (dSz l) (dAt l) (.slice p4 (daF I).length c4)).toArray = PC ∧ errF l = 0 ∧ dDa l = daF I) := Lib.hid (by
                obtain ⟨e1, e2⟩ := dec_good he (.slice p4 (daF I).length c4)
                rw [e1, e2, ← HL.out.2.2.2.2.2.2.2.2.1, ← HF.out.1, ← HF.out.2]
                exact ⟨HP.out.1.symm, he, rfl⟩)
              clear he
              have hq6 : (S5.toList == S6.toList) = true := hq5
              clear hq5
              go_wp2_with (first
                | ((with_reducible refine wlw_load_row (o := ⟨some 69, _, _, _, _, _⟩) ?_ 33 (.tmp 6) ?_ _ ?_ _ PC _ _ Y10.out.1 Try.underlying33 ?_ ?_ ?_); (focus rfl); (focus rfl); (focus rfl); (focus rfl); (focus (rw [HP.out.2.1]; kernel_rfl)))
                | (refine wpList_store_rowTo rfl 33 _ _ rfl rfl _ PC rfl rfl 33 zpart Y10.out.2.2.2 (by rw [HP.out.2.1]; kernel_rfl) (by rw [HP.out.2.1]; kernel_rfl) HP.out.2.2.1 ?_))
              refine bodyPost_ret (results_row_tmp (p := 2) (u := 3) (by kernel_rfl) _ _ _ _ _ _ _ rfl (setRow_heap _ _ _ _ _ _ Y10.out.2.2.2) Try.underlying33 rfl (by rw [HP.out.2.1]; kernel_rfl)) rfl ⟨.slice p4 (daF I).length c4, by rw [HE.out.1, HE.out.2.1]; rfl, ?_, below_row (BC_below HB4.out.2 HB4.out.2.size Y10.out.2.2.1) (Nat.le_refl _) _⟩
              rw [HE.out.2.2]
              exact (Y10.out.2.1.but (But.of_store (g := w.heap.size) (fun k hk => setRow_other _ _ k PC hk) (fun B w0 hB hb => below_row hb hB PC)) (fun h => by have := own_block Y10.out.2.1 _ h; have := blk_lt HB4.out.1; omega)).mono HB4.out.2.size
            · have hq6 : (S5.toList == S6.toList) = false := by simpa using hq5
              have he : errF l = 2 := by
                have h1 := HEQ.out.symm.trans hq6
                unfold sameB at h1
                have h9 := of_decide_eq_false h1
                have h3 := HF.out
                have h4 := HL.out.2.2.2.2.2.2.2.2
                unfold errF
                rw [if_neg (by have := HL.out; omega), if_neg ?_, if_neg ?_]
                · rw [← h4.1, ← h3.1, ← h3.2]
                  exact fun h => h9 h.2
                · rw [← h4.1, ← h4.2]
                  exact fun h => h HSE.out
              obtain ⟨e1, e2⟩ := dec_bad (l := l) (by rw [he]; decide) (.slice none 0 0)
              have HE := Lib.hid (And.intro he (And.intro e1 e2))
              clear hq5 e1 e2 he
              go_wp2_with (refine wpList_store_rowTo rfl 33 _ _ rfl rfl _ zpart rfl rfl 33 zpart Y10.out.2.2.2 (by kernel_rfl) (by kernel_rfl) zpart_one ?_)
              exact bodyPost_ret (results_row_tmp (p := 2) (u := 3) (by kernel_rfl) _ _ _ _ _ _ _ rfl (setRow_heap _ _ _ _ _ _ Y10.out.2.2.2) Try.underlying33 rfl (by kernel_rfl)) rfl ⟨.slice none 0 0, by rw [HE.out.2.1, HE.out.1]; rfl, by rw [HE.out.2.2]; exact Own.nil _ _, below_row (BC_below HB4.out.2 HB4.out.2.size Y10.out.2.2.1) (Nat.le_refl _) _⟩
          · have HEN := rencode_no (whF I) HWL.out sz at' (.slice p4 (daF I).length c4) gd 0 (daF I).length XD.out.1 (by simpa using hmay) wr
            rw [← HP.out.1] at HEN
            refine HEN.mono ?_
            rintro e w10 ⟨rfl, b10⟩
            have Y10 := Lib.hid (And.intro (BC_trans HX.out.2.2 b10) (BC_blk1 b10 HZ.out))
            have he : errF l = 2 := by
              have h3 := HF.out
              have h4 := HL.out.2.2.2.2.2.2.2.2
              unfold errF
              rw [if_neg (by have := HL.out; omega), if_neg ?_, if_neg ?_]
              · rw [← h4.1, ← h3.1, ← h3.2]
                exact fun h => hmay h.1
              · rw [← h4.1, ← h4.2]
                exact fun h => h HSE.out
            obtain ⟨e1, e2⟩ := dec_bad (l := l) (by rw [he]; decide) (.slice none 0 0)
            have HE := Lib.hid (And.intro he (And.intro e1 e2))
            clear he e1 e2 HEN b10 hmay hIv
            go_wp2_with (refine wpList_store_rowTo rfl 33 _ _ rfl rfl _ zpart rfl rfl 33 zpart Y10.out.2 (by kernel_rfl) (by kernel_rfl) zpart_one ?_)
            exact bodyPost_ret (results_row_tmp (p := 2) (u := 3) (by kernel_rfl) _ _ _ _ _ _ _ rfl (setRow_heap _ _ _ _ _ _ Y10.out.2) Try.underlying33 rfl (by kernel_rfl)) rfl ⟨.slice none 0 0, by rw [HE.out.2.1, HE.out.1]; rfl, by rw [HE.out.2.2]; exact Own.nil _ _, below_row (BC_below HB4.out.2 HB4.out.2.size Y10.out.1) (Nat.le_refl _) _⟩
  · have hq2 : (S1.toList == S2.toList) = false := by simpa using hq
    have he : errF l = 4 := by
      have h1 := HNE.out.symm.trans hq2
      unfold sameB at h1
      have h2 := of_decide_eq_false h1
      unfold errF
      rw [if_neg (by have := HL.out; omega), if_pos ?_]
      rw [← HL.out.2.2.2.2.2.2.2.2.1, ← HL.out.2.2.2.2.2.2.2.2.2, ← H2.out.2.2.2.2.2.2.2]
      exact h2
    obtain ⟨e1, e2⟩ := dec_bad (l := l) (by rw [he]; decide) (.slice none 0 0)
    have HE := Lib.hid (And.intro he (And.intro e1 e2))
    clear hq e1 e2 he
    refine wp_region_head (QC w2) 8 (by kernel_rfl) (by kernel_rfl) (QC_start _) ?_
    simp only [List.take_succ_cons, List.take_zero, List.drop_succ_cons, List.drop_zero]
    repeat (first
      | (refine headG_step (fun K hK => ?_)
         go_simp
         first
           | (refine hK _ ?_; clear hK K)))
    refine headG_nil ?_
    intro w4 q4
    have z2 : w4.heap[w.heap.size]? = some (.cells zpart 33 (0, 0)) := QC_blk1 q4 H2.out.1
    have HB4 := Lib.hid (And.intro z2 (QC_below H2.out.2.1 q4))
    clear z2 q4 hc1 hc2 hS
    go_wp2_with (refine wpList_store_rowTo rfl 33 _ _ rfl rfl _ zpart rfl rfl 33 zpart HB4.out.1 (by kernel_rfl) (by kernel_rfl) zpart_one ?_)
    exact bodyPost_ret (results_row_tmp (p := 2) (u := 3) (by kernel_rfl) _ _ _ _ _ _ _ rfl (setRow_heap _ _ _ _ _ _ HB4.out.1) Try.underlying33 rfl (by kernel_rfl)) rfl ⟨.slice none 0 0, by rw [HE.out.2.1, HE.out.1]; rfl, by rw [HE.out.2.2]; exact Own.nil _ _, below_row HB4.out.2 (Nat.le_refl _) _⟩
theorem rdecode_any (b o : Nat) (v : Value) (l : List Int) (hlb : Bytes l) (hN : l.length ≤ 400000) (hv : SlV v b o l.length) (w : World) (hl : Lies w b o l) :
    Calls Try.prog 18 #[v] w fun e w' => ∃ v', e = .returned (.tuple #[.agg (pcells (dWh l) (dSz l) (dAt l) v').toArray, .int .i64 (errF l)]) ∧ Own w.heap.size w' v' (dDa l) ∧ Below w.heap.size w w' := by
  by_cases h : l.length ≤ 80
  · exact rdecode_short b o v l h hv w
  · exact rdecode_long b o v l hlb (by omega) hN hv w hl
end Go.Proofs.Ytjnimbhecfpnmaa
