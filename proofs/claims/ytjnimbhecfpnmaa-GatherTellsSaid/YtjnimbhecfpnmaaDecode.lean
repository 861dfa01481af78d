/- The walk of part.Decode. -/
import Derived.Test.YtjnimbhecfpnmaaEncode
import Derived.Test.YtjnimbhecfpnmaaEq
import Derived.Laws.Cover3
import Derived.Laws.ResultCell
import Derived.Test.YtjnimbhecfpnmaaFirst
namespace Go.Proofs.Ytjnimbhecfpnmaa
set_option maxRecDepth 100000
open Go.ChangeShapes Go.WideShapes Go.ChangeAt Go.RowKit

/-- a part's bytes but its digest, and that -/
def inL (l : List Int) : List Int := l.take (l.length - 32)
def endL (l : List Int) : List Int := l.drop (l.length - 32)
/-- what these bytes tell -/
def whF (i : List Int) : List Int := (i.drop 4).take 32
def szF (i : List Int) : Int := ptoldF (i.drop 36)
def atF (i : List Int) : Int := ptoldF (i.drop 40)
def daF (i : List Int) : List Int := i.drop 48
/-- the error of bytes as a part's -/
def errF (l : List Int) : Int :=
  if l.length ≤ 80 then 3 else if sumF (inL l) ≠ endL l then 4
  else if mayB (szF (inL l)) (atF (inL l)) (daF (inL l)).length = true ∧ encF (whF (inL l)) (szF (inL l)) (atF (inL l)) (daF (inL l)) = l then 0 else 2
def dWh (l : List Int) : List Int := if errF l = 0 then whF (inL l) else List.replicate 32 0
def dSz (l : List Int) : Int := if errF l = 0 then szF (inL l) else 0
def dAt (l : List Int) : Int := if errF l = 0 then atF (inL l) else 0
def dDa (l : List Int) : List Int := if errF l = 0 then daF (inL l) else []
def zpart : Array Value := (pcells (List.replicate 32 0) 0 0 (.slice none 0 0)).toArray
theorem zero_part (w : World) : (zeroValue 26).run Try.prog w = .ok (.agg zpart) w := by kernel_rfl
theorem results_row_tmp {P : Program} {fn : Func} {p u : Tmp} {ty : TypeId} (h : fn.results = #[.cell p ty, .tmp u]) (tmps : Array Value) (w : World) (g : Nat) (t : TypeId) (cs : Array Value) (fr : Nat × Nat) (d : TypeDesc)
    (hp : tmps.getD p undef = .pointer (some ⟨g, 0, none⟩)) (hg : w.heap[g]? = some (.cells cs t fr))
    (hu : P.underlying ty = some d) (hd : (match d with | .struct _ | .array _ _ => true | _ => false) = true) (hi : (P.info? ty).map (·.size) = some cs.size) :
    (results fn tmps).run P w = .ok (.tuple #[.agg cs, tmps.getD u undef]) w := by
  rw [results_cell_tmp h, hp]
  simp [asAddr, run_loadVar_row w g t ty cs fr d hg hu hd hi, Result.andThen]
theorem zpart_size : zpart.size = 35 := by kernel_rfl
theorem zpart_one : zpart.all (·.oneCell') = true := by kernel_rfl
theorem dec_bad {l : List Int} (h : errF l ≠ 0) (v : Value) : (pcells (dWh l) (dSz l) (dAt l) v) = pcells (List.replicate 32 0) 0 0 v ∧ dDa l = [] := by
  unfold dWh dSz dAt dDa
  rw [if_neg h, if_neg h, if_neg h, if_neg h]
  exact ⟨rfl, rfl⟩
theorem dec_good {l : List Int} (h : errF l = 0) (v : Value) : (pcells (dWh l) (dSz l) (dAt l) v) = pcells (whF (inL l)) (szF (inL l)) (atF (inL l)) v ∧ dDa l = daF (inL l) := by
  unfold dWh dSz dAt dDa
  rw [if_pos h, if_pos h, if_pos h, if_pos h]
  exact ⟨rfl, rfl⟩
theorem lies_take {w : World} {b o : Nat} {l : List Int} (h : Lies w b o l) (n : Nat) : Lies w b o (l.take n) := fun j hj => by
  rw [List.length_take] at hj
  rw [h j (by omega)]
  simp [List.getD, List.getElem?_take_of_lt (show j < n by omega)]
theorem lies_drop {w : World} {b o : Nat} {l : List Int} (h : Lies w b o l) (n : Nat) : Lies w b (o + n) (l.drop n) := fun j hj => by
  rw [List.length_drop] at hj
  have h2 := h (n + j) (by omega)
  rw [Nat.add_assoc, h2]
  simp [List.getD]
theorem lies_range {w : World} {b o : Nat} {l : List Int} (h : Lies w b o l) : w.rangeAt b o (row .u8 l).toList := fun j v hj => by
  rw [row_list, List.getElem?_map] at hj
  rcases Nat.lt_or_ge j l.length with h1 | h1
  · rw [List.getElem?_eq_getElem h1] at hj
    rw [h j h1]
    simpa [List.getD, h1] using hj
  · rw [List.getElem?_eq_none h1] at hj
    cases hj
theorem slv_at (b o n cap : Nat) (h : n ≤ cap) (h2 : cap ≤ maxLen) : SlV (.slice (some ⟨b, o, none⟩) n cap) b o n := ⟨_, cap, rfl, h, h2, fun _ => rfl, fun h => by cases h⟩
theorem build_part (W : List Int) (hW : W.length = 32) (s a : Int) (p : Option Addr) (n c : Nat) :
    Try.prog.built 26 [(0, .agg (row .u8 W)), (1, .int .i64 s), (2, .int .i64 a), (3, .slice p n c)] = some (pcells W s a (.slice p n c)).toArray := by
  iterate 32 (rcases W with _ | ⟨_, W⟩; · simp at hW)
  rcases W with _ | ⟨_, W⟩
  · kernel_rfl
  · simp at hW
theorem pcells_one (W : List Int) (s a : Int) (v : Value) (hv : v.oneCell' = true) : (pcells W s a v).toArray.all (·.oneCell') = true := by
  refine all_oneCell_toArray fun x hx => ?_
  unfold pcells at hx
  rcases List.mem_append.1 hx with h | h
  · obtain ⟨n, _, rfl⟩ := List.mem_map.1 h
    rfl
  · simp at h
    rcases h with rfl | rfl | rfl
    · rfl
    · rfl
    · exact hv
attribute [local go_sem] takes takesE comesTo
attribute [local irreducible] SlV Lies
theorem decode_short (b o : Nat) (v : Value) (l : List Int) (hn : l.length ≤ 80) (hv : SlV v b o l.length) (w : World) :
    Calls Try.prog 17 #[v] w fun e w' => ∃ v', e = .returned (.tuple #[.agg (pcells (dWh l) (dSz l) (dAt l) v').toArray, .int .i64 (errF l)]) ∧ Own w.heap.size w' v' (dDa l) ∧ Below w.heap.size w w' := by
  have he : errF l = 3 := by unfold errF; rw [if_pos hn]
  obtain ⟨e1, e2⟩ := dec_bad (l := l) (by rw [he]; decide) (.slice none 0 0)
  have HE := Lib.hid (And.intro e1 e2)
  rw [he]
  clear e1 e2 he
  obtain ⟨a, cap, rfl, _⟩ := by unfold SlV at hv; exact hv
  have hz := zero_part
  have hle : (l.length : Int) ≤ 80 := by omega
  generalize l.length = n at *
  clear hn hv
  go_enter Try.func17, Try.ntmps17
  go_wp2_with (refine wpList_store_rowTo rfl 26 _ _ rfl rfl _ zpart rfl rfl 26 zpart (heap_alloc_new w _) (by kernel_rfl) (by kernel_rfl) zpart_one ?_; rw [World.setRow_alloc_new])
  exact bodyPost_ret (results_row_tmp (p := 2) (u := 3) (by kernel_rfl) _ _ _ _ _ _ _ rfl (heap_alloc_new w _) Try.underlying26 rfl (by kernel_rfl)) rfl ⟨.slice none 0 0, by rw [HE.out.1]; rfl, by rw [HE.out.2]; exact Own.nil _ _, below1 w _⟩
set_option linter.unusedSimpArgs false in
set_option maxHeartbeats 400000 in
theorem decode_long (b o : Nat) (v : Value) (l : List Int) (hlb : Bytes l) (hn : 80 < l.length) (hN : l.length ≤ 400000) (hv : SlV v b o l.length) (w : World) (hl : Lies w b o l) :
    Calls Try.prog 17 #[v] w fun e w' => ∃ v', e = .returned (.tuple #[.agg (pcells (dWh l) (dSz l) (dAt l) v').toArray, .int .i64 (errF l)]) ∧ Own w.heap.size w' v' (dDa l) ∧ Below w.heap.size w w' := by
  obtain ⟨m, hm⟩ : ∃ m, l.length = m + 32 := ⟨l.length - 32, by omega⟩
  have HV := Lib.hid hv
  obtain ⟨a, cap, rfl, hcap, hmax, hp, _⟩ := by unfold SlV at hv; exact hv
  obtain rfl := hp (by omega)
  have hz := zero_part
  rw [hm] at hn hN hcap hv ⊢
  have hle : ¬ ((m : Int) + 32) ≤ 80 := by omega
  have k1 : IntKind.i64.wrap (m : Int) = (m : Int) := by rw [IntKind.wrap_i64]; omega
  have k2 : (m : Int) ≤ (cap : Int) := by omega
  have k3 : (m : Int) ≤ (m : Int) + 32 := by omega
  have k4 : (m : Int) + 32 ≤ (cap : Int) := by omega
  have k5 : (0 : Int) ≤ (m : Int) := by omega
  have HL := Lib.hid (And.intro hlb (And.intro hl (And.intro hm (And.intro hn (And.intro hN (And.intro hcap hmax))))))
  clear hlb hl hm hn hN hcap hmax hv hp
  go_enter Try.func17, Try.ntmps17
  go_wp2_with fail
  go_quiet (fail)
  have hz1 : ((w.alloc (.cells zpart 26)).drewN nq).heap[w.heap.size]? = some (.cells zpart 26) := QC_blk1 ⟨nq, rfl⟩ (heap_alloc_new w _)
  have hb1 : Below w.heap.size w ((w.alloc (.cells zpart 26)).drewN nq) := QC_below (below1 w _) ⟨nq, rfl⟩
  generalize (w.alloc (.cells zpart 26)).drewN nq = w1 at *
  obtain ⟨I, hI⟩ : ∃ I, I = inL l := ⟨_, rfl⟩
  obtain ⟨E, hE⟩ : ∃ E, E = endL l := ⟨_, rfl⟩
  have hIlen : I.length = m := by rw [hI]; unfold inL; rw [List.length_take, HL.out.2.2.1]; omega
  have hElen : E.length = 32 := by rw [hE]; unfold endL; rw [List.length_drop, HL.out.2.2.1]; omega
  have hIb : Bytes I := by rw [hI]; exact bytes_take HL.out.1 _
  have hIl : ∀ W, BC w1 W → Lies W b o I := fun W hW => by rw [hI]; exact lies_take ((HL.out.2.1.below' hb1).below' hW) _
  have hEl : ∀ W, BC w1 W → Lies W b (o + m) E := fun W hW => by
    have h := lies_drop ((HL.out.2.1.below' hb1).below' hW) (l.length - 32)
    rw [hE]
    unfold endL
    have e : l.length - 32 = m := by rw [HL.out.2.2.1]; omega
    rw [e] at h ⊢
    exact h
  have hIv : SlV (.slice (some ⟨b, o, none⟩) m cap) b o I.length := by rw [hIlen]; exact slv_at b o m cap (by have := HL.out; omega) HL.out.2.2.2.2.2.2
  have H1 := Lib.hid (And.intro hz1 (And.intro hb1 (And.intro hIlen (And.intro hElen (And.intro hIb (And.intro hIl (And.intro hEl (And.intro hIv (And.intro hI hE)))))))))
  have hat := fun w => run_arrayAt (P := Try.prog) w 23 5 32 (some ⟨b, o + m, none⟩) 32 (cap - m) Try.underlying23 (Nat.le_refl _)
  have hrg : ∀ x : HW (BC w1), x.w.rangeAt b (o + m) (row .u8 E).toList := fun x => lies_range (hEl x.w x.h)
  have HRG := Lib.hid hrg
  obtain ⟨q, hq⟩ : ∃ q, q = !decide (sumF I = E) := ⟨_, rfl⟩
  have hneq : ∀ w, (binOp .neq 23 (.agg (row .u8 (sumF I))) (.agg (row .u8 E))).run Try.prog w = .ok (.bool q) w := fun w => by
    rw [hq]; exact run_neq_row w _ _ 32 .u8 Try.underlying23 Try.underlying5 (by kernel_rfl) _ _ (sumF_len _) hElen
  have HQ := Lib.hid hq
  have hsz : (row .u8 E).size = 32 := by rw [row_size, hElen]
  have HSZ := Lib.hid hsz
  have HSUM : Hid (∀ x : HW (BC w1), Calls Try.prog 45 #[.slice (some ⟨b, o, none⟩) m cap] x.w fun e w' => e = .returned (.agg (row .u8 (sumF I))) ∧ Below x.w.heap.size x.w w') := Lib.hid (fun x =>
    sum_any I hIb (by rw [hIlen]; have := HL.out; omega) b o _ hIv x.w (hIl x.w x.h))
  clear hz1 hb1 hIlen hElen hIb hIl hEl hIv hrg hq hsz hI hE
  generalize row .u8 (sumF I) = D at *
  generalize row .u8 E = ER at *
  have hS := BC_refl
  haveI := BC_inst w1
  go_wp2_with fail
  refine wp_region_E (by kernel_rfl) ?_
  have SB := Lib.hid (BC_refl w1)
  refine takeE (i := 0) rfl (by kernel_rfl) (by kernel_rfl) (by kernel_rfl) (fun _ _ _ _ h => h) SB.out (fun K hK => ?_)
  go_simp
  refine hK.out _ ?_
  clear hK K
  refine takeE (i := 1) rfl (by kernel_rfl) (by kernel_rfl) (by kernel_rfl) (fun _ _ _ _ h => h) SB.out (fun K hK => ?_)
  go_simp
  apply Exists.intro
  refine ⟨fun x => ?_, hK.out _ ?_⟩
  · go_at_call 45
    exact HSUM.out x
  clear hK K
  refine takeE (i := 2) rfl (by kernel_rfl) (by kernel_rfl) (by kernel_rfl) (fun _ _ _ _ h => h) SB.out (fun K hK => ?_)
  go_simp
  refine hK.out _ ?_
  clear hK K
  refine takeE (i := 3) rfl (by kernel_rfl) (by kernel_rfl) (by kernel_rfl) (fun _ _ _ _ h => h) SB.out (fun K hK => ?_)
  go_simp
  refine hK.out _ ?_
  clear hK K
  refine takeEM (i := 4) rfl (by kernel_rfl) (by kernel_rfl) (by kernel_rfl) (fun _ _ _ _ h => h) SB.out 23 _ rfl (by rfl) _ _ rfl ER _ HRG.out Try.underlying23 rfl (by rw [HSZ.out]; kernel_rfl) ?_
  simp only [Act.put, List.setIfInBounds_toArray, List.set_cons_zero, List.set_cons_succ]
  refine takeE (i := 5) rfl (by kernel_rfl) (by kernel_rfl) (by kernel_rfl) (fun _ _ _ _ h => h) SB.out (fun K hK => ?_)
  go_simp
  refine hK.out _ ?_
  clear hK K
  refine doneE (by kernel_rfl) (fun w2 b2 => ?_) _
  clear hneq hS HSUM HRG HSZ SB hat
  have z2 : w2.heap[w.heap.size]? = some (.cells zpart 26) := BC_blk1 b2 H1.out.1
  have H2 := Lib.hid (And.intro z2 (And.intro (BC_below H1.out.2.1 H1.out.2.1.size b2) b2))
  clear z2 b2
  cases q with
  | true =>
    have he : errF l = 4 := by
      have h1 := HQ.out
      have h2 := H1.out.2.2.2.2.2.2.2.2
      unfold errF
      rw [if_neg (by have := HL.out; omega), if_pos ?_]
      rw [← h2.1, ← h2.2]
      simpa using h1
    obtain ⟨e1, e2⟩ := dec_bad (l := l) (by rw [he]; decide) (.slice none 0 0)
    have HE := Lib.hid (And.intro he (And.intro e1 e2))
    clear e1 e2 he
    go_wp2_with (refine wpList_store_rowTo rfl 26 _ _ rfl rfl _ zpart rfl rfl 26 zpart H2.out.1 (by kernel_rfl) (by kernel_rfl) zpart_one ?_)
    exact bodyPost_ret (results_row_tmp (p := 2) (u := 3) (by kernel_rfl) _ _ _ _ _ _ _ rfl (setRow_heap _ _ _ _ _ _ H2.out.1) Try.underlying26 rfl (by kernel_rfl)) rfl ⟨.slice none 0 0, by rw [HE.out.2.1, HE.out.1]; rfl, by rw [HE.out.2.2]; exact Own.nil _ _, below_row H2.out.2.1 (Nat.le_refl _) _⟩
  | false =>
    have hs : sumF I = E := by
      have h1 := HQ.out
      simpa using h1
    have k6 : (36 : Int) ≤ (m : Int) := by omega
    have k7 : (40 : Int) ≤ (m : Int) := by omega
    have k8 : (48 : Int) ≤ (m : Int) := by omega
    have k9 : (36 : Int) ≤ (cap : Int) := by omega
    have k10 : ¬ cap = 36 := by omega
    have k11 : ¬ cap = 40 := by omega
    have k12 : ¬ cap = 48 := by omega
    have k13 : ¬ cap = 4 := by omega
    have k14 : IntKind.i64.wrap 40 = 40 := by rw [IntKind.wrap_i64]; omega
    have hat := fun w => run_arrayAt (P := Try.prog) w 23 5 32 (some ⟨b, o + 4, none⟩) 32 (cap - 4) Try.underlying23 (Nat.le_refl _)
    have hS := BC_refl
    haveI := BC_inst w2
    go_wp2_with fail
    have hIw : ∀ W, BC w2 W → Lies W b o I := fun W hW => H1.out.2.2.2.2.2.1 W (BC_trans H2.out.2.2 hW)
    have hWh : ∀ x : HW (BC w2), x.w.rangeAt b (o + 4) (row .u8 (whF I)).toList := fun x => lies_range (lies_take (lies_drop (hIw x.w x.h) 4) 32)
    have hwl : (whF I).length = 32 := by unfold whF; rw [List.length_take, List.length_drop, H1.out.2.2.1]; have := HL.out; omega
    have HWH := Lib.hid (And.intro hWh hwl)
    have HT1 : Hid (∀ x : HW (BC w2), Calls Try.prog 47 #[.slice (some ⟨b, o + 36, none⟩) (m - 36) (cap - 36)] x.w fun e w' => e = .returned (.int .i64 (szF I)) ∧ Below x.w.heap.size x.w w') := Lib.hid (fun x => by
      have h := HL.out
      have h1 := H1.out.2.2.1
      exact ptold_any b (o + 36) _ (I.drop 36) (bytes_drop H1.out.2.2.2.2.1 _) (by rw [List.length_drop]; omega) (by rw [List.length_drop, h1]; exact slv_at _ _ _ _ (by omega) (by omega)) x.w (lies_drop (hIw x.w x.h) 36))
    have HT2 : Hid (∀ x : HW (BC w2), Calls Try.prog 47 #[.slice (some ⟨b, o + 40, none⟩) (m - 40) (cap - 40)] x.w fun e w' => e = .returned (.int .i64 (atF I)) ∧ Below x.w.heap.size x.w w') := Lib.hid (fun x => by
      have h := HL.out
      have h1 := H1.out.2.2.1
      exact ptold_any b (o + 40) _ (I.drop 40) (bytes_drop H1.out.2.2.2.2.1 _) (by rw [List.length_drop]; omega) (by rw [List.length_drop, h1]; exact slv_at _ _ _ _ (by omega) (by omega)) x.w (lies_drop (hIw x.w x.h) 40))
    have HCL : Hid (∀ W, BC w2 W → Calls Try.prog 48 #[.slice (some ⟨b, o + 48, none⟩) (m - 48) (cap - 48)] W fun e w' => ∃ v', e = .returned v' ∧ Own W.heap.size w' v' (daF I) ∧ Below W.heap.size W w') := Lib.hid (fun W hW => by
      have h := HL.out
      have h1 := H1.out.2.2.1
      exact clone_any b (o + 48) _ (I.drop 48) (by rw [List.length_drop]; omega) (by rw [List.length_drop, h1]; exact slv_at _ _ _ _ (by omega) (by omega)) W (lies_drop (hIw W hW) 48))
    have HSZ : Hid ((row .u8 (whF I)).size = 32) := Lib.hid (by rw [row_size, hwl])
    have HBD : Hid (∀ p n c, Try.prog.built 26 [(0, .agg (row .u8 (whF I))), (1, .int .i64 (szF I)), (2, .int .i64 (atF I)), (3, .slice p n c)] = some (pcells (whF I) (szF I) (atF I) (.slice p n c)).toArray) := Lib.hid (fun p n c => build_part _ hwl _ _ p n c)
    clear hWh hwl hIw
    generalize hWR : row .u8 (whF I) = WR at *
    obtain ⟨sz, hsz⟩ : ∃ x, x = szF I := ⟨_, rfl⟩
    obtain ⟨at', hat'⟩ : ∃ x, x = atF I := ⟨_, rfl⟩
    rw [← hsz] at HT1 HBD
    rw [← hat'] at HT2 HBD
    have HF := Lib.hid (And.intro hsz (And.intro hat' (And.intro hWR hs)))
    clear hsz hat' hWR hs
    refine wp_region_E (by kernel_rfl) ?_
    have SB := Lib.hid (BC_refl w2)
    refine takeE (i := 0) rfl (by kernel_rfl) (by kernel_rfl) (by kernel_rfl) (fun _ _ _ _ h => h) SB.out (fun K hK => ?_)
    go_simp
    refine hK.out _ ?_
    clear hK K
    refine takeE (i := 1) rfl (by kernel_rfl) (by kernel_rfl) (by kernel_rfl) (fun _ _ _ _ h => h) SB.out (fun K hK => ?_)
    go_simp
    refine hK.out _ ?_
    clear hK K
    refine takeE (i := 2) rfl (by kernel_rfl) (by kernel_rfl) (by kernel_rfl) (fun _ _ _ _ h => h) SB.out (fun K hK => ?_)
    go_simp
    refine hK.out _ ?_
    clear hK K
    refine takeE (i := 3) rfl (by kernel_rfl) (by kernel_rfl) (by kernel_rfl) (fun _ _ _ _ h => h) SB.out (fun K hK => ?_)
    go_simp
    refine hK.out _ ?_
    clear hK K
    refine takeEM (i := 4) rfl (by kernel_rfl) (by kernel_rfl) (by kernel_rfl) (fun _ _ _ _ h => h) SB.out 23 _ rfl (by rfl) _ _ rfl WR _ HWH.out.1 Try.underlying23 rfl (by rw [HSZ.out]; kernel_rfl) ?_
    simp only [Act.put, List.setIfInBounds_toArray, List.set_cons_zero, List.set_cons_succ]
    refine takeE (i := 5) rfl (by kernel_rfl) (by kernel_rfl) (by kernel_rfl) (fun _ _ _ _ h => h) SB.out (fun K hK => ?_)
    go_simp
    refine hK.out _ ?_
    clear hK K
    refine takeE (i := 6) rfl (by kernel_rfl) (by kernel_rfl) (by kernel_rfl) (fun _ _ _ _ h => h) SB.out (fun K hK => ?_)
    go_simp
    refine hK.out _ ?_
    clear hK K
    refine takeE (i := 7) rfl (by kernel_rfl) (by kernel_rfl) (by kernel_rfl) (fun _ _ _ _ h => h) SB.out (fun K hK => ?_)
    go_simp
    refine hK.out _ ?_
    clear hK K
    refine takeE (i := 8) rfl (by kernel_rfl) (by kernel_rfl) (by kernel_rfl) (fun _ _ _ _ h => h) SB.out (fun K hK => ?_)
    go_simp
    apply Exists.intro
    refine ⟨fun x => ?_, hK.out _ ?_⟩
    · go_at_call 47
      exact HT1.out x
    clear hK K
    refine takeE (i := 9) rfl (by kernel_rfl) (by kernel_rfl) (by kernel_rfl) (fun _ _ _ _ h => h) SB.out (fun K hK => ?_)
    go_simp
    refine hK.out _ ?_
    clear hK K
    refine takeE (i := 10) rfl (by kernel_rfl) (by kernel_rfl) (by kernel_rfl) (fun _ _ _ _ h => h) SB.out (fun K hK => ?_)
    go_simp
    refine hK.out _ ?_
    clear hK K
    refine takeE (i := 11) rfl (by kernel_rfl) (by kernel_rfl) (by kernel_rfl) (fun _ _ _ _ h => h) SB.out (fun K hK => ?_)
    go_simp
    refine hK.out _ ?_
    clear hK K
    refine takeE (i := 12) rfl (by kernel_rfl) (by kernel_rfl) (by kernel_rfl) (fun _ _ _ _ h => h) SB.out (fun K hK => ?_)
    go_simp
    refine hK.out _ ?_
    clear hK K
    refine takeE (i := 13) rfl (by kernel_rfl) (by kernel_rfl) (by kernel_rfl) (fun _ _ _ _ h => h) SB.out (fun K hK => ?_)
    go_simp
    apply Exists.intro
    refine ⟨fun x => ?_, hK.out _ ?_⟩
    · go_at_call 47
      exact HT2.out x
    clear hK K
    refine takeE (i := 14) rfl (by kernel_rfl) (by kernel_rfl) (by kernel_rfl) (fun _ _ _ _ h => h) SB.out (fun K hK => ?_)
    go_simp
    refine hK.out _ ?_
    clear hK K
    refine takeE (i := 15) rfl (by kernel_rfl) (by kernel_rfl) (by kernel_rfl) (fun _ _ _ _ h => h) SB.out (fun K hK => ?_)
    go_simp
    refine hK.out _ ?_
    clear hK K
    refine stepEE (i := 16) (j := 18) rfl rfl (by kernel_rfl) ?ga ?gb
    case' ga =>
      intro w3 r3 K hK
      go_simp
      refine (HCL.out w3 r3).mono ?_
      rintro e w4 ⟨v4, rfl, own4, b4⟩
      have S4 := Lib.hid (BC_trans r3 b4)
      refine hK.out _ _ S4.out ?_
      clear hK K b4
      replace own4 : Own w2.heap.size w4 v4 (daF I) := own4.mono r3.size
      obtain ⟨gc, sl4, _, _⟩ := own4.slv
      obtain ⟨p4, c4, rfl, hm4, hx4, _⟩ := by unfold SlV at sl4; exact sl4
      have HPS : Hid ((pcells (whF I) sz at' (.slice p4 (daF I).length c4)).toArray.size = 35) := Lib.hid (pcells_sz HWH.out.2 _ _ _)
      have HPO : Hid ((pcells (whF I) sz at' (.slice p4 (daF I).length c4)).toArray.all (·.oneCell') = true) := Lib.hid (pcells_one _ _ _ _ rfl)
      have HOWN := Lib.hid own4
      clear own4 hm4 hx4
      generalize hPC : (pcells (whF I) sz at' (.slice p4 (daF I).length c4)).toArray = PC at HPS HPO
      have hBD := HBD.out p4 (daF I).length c4
      rw [hPC] at hBD
      have HPC := Lib.hid (And.intro hPC hBD)
      clear hPC hBD
      refine takeEB (i := 17) rfl (by kernel_rfl) (by kernel_rfl) (by kernel_rfl) (fun _ _ _ _ h => h) S4.out 26 _ rfl (by rfl) PC (Eq.trans (congrArg (Try.prog.built 26) (by kernel_rfl)) HPC.out.2) ?_
      simp only [Act.put, List.setIfInBounds_toArray, List.set_cons_zero, List.set_cons_succ]
      refine stepE (i := 18) rfl (by kernel_rfl) (fun w5 r5 K hK => ?_)
      go_simp
      have S7 : Hid (BC w2 (w5.alloc (.cells zpart 26))) := Lib.hid (Below.alloc (BC_trans S4.out r5) (Below.size (BC_trans S4.out r5)) _)
      refine hK.out _ _ S7.out ?_
      clear hK K
      have O7 : Hid (Own w2.heap.size (w5.alloc (.cells zpart 26)) (.slice p4 (daF I).length c4) (daF I)) := Lib.hid ((HOWN.out.below r5).below (below1 _ _))
      have Z7 : Hid ((w5.alloc (.cells zpart 26)).heap[w5.heap.size]? = some (.cells zpart 26)) := Lib.hid (heap_alloc_new _ _)
      have G7 : Hid (w2.heap.size < w5.heap.size + 1 ∧ (Value.slice p4 (daF I).length c4).ownBlock ≠ some w5.heap.size) := Lib.hid ⟨by have := (BC_trans S4.out r5).size; omega, fun h => by have := (World.ownsRow.lt (HOWN.out.below r5) _ h).2; omega⟩
      generalize w5.heap.size = g7 at *
      refine stepE (i := 19) rfl (by kernel_rfl) (fun w7 r7 K hK => ?_)
      rw [if_pos (by rfl)]
      refine wp_store_row 26 (.tmp 7) (.tmp 48) rfl g7 PC rfl rfl 26 zpart (BC_blk1 r7 Z7.out) (by rw [HPS.out]; kernel_rfl) (by rw [HPS.out]; kernel_rfl) HPO.out ?_
      have S8 : Hid (BC w2 (w7.setRow g7 PC)) := Lib.hid (below_row (BC_trans S7.out r7) (Nat.le_of_lt_succ G7.out.1) PC)
      refine hK.out _ _ S8.out ?_
      clear hK K
      refine doneE (by kernel_rfl) (fun w9 r9 => ?_) _
      have bx := O7.out.below r7
      have by' := bx.but (But.of_store (g := g7) (fun k hk => setRow_other w7 g7 k PC hk) (fun B w0 hB hb => below_row hb hB PC)) G7.out.2
      have X9 := Lib.hid (And.intro (BC_blk1 r9 (setRow_heap _ _ _ PC _ _ (BC_blk1 r7 Z7.out))) (And.intro (by'.below r9) (And.intro (BC_trans S8.out r9) (And.intro HPC.out.1 HPS.out))))
      clear bx by' r9 r7 S8 O7 Z7 G7 S7 hS HPO HPS HOWN HPC HSZ HT1 HT2 HCL HBD hat r3
    case' gb =>
      intro w3 r3 K hK
      go_simp
      have S4 : Hid (BC w2 (w3.alloc (.cells zpart 26))) := Lib.hid (Below.alloc r3 (Below.size r3) _)
      refine hK.out _ _ S4.out ?_
      clear hK K
      have ZA : Hid ((w3.alloc (.cells zpart 26)).heap[w3.heap.size]? = some (.cells zpart 26)) := Lib.hid (heap_alloc_new _ _)
      have GA : Hid (w2.heap.size < w3.heap.size + 1 ∧ w3.heap.size < (w3.alloc (.cells zpart 26)).heap.size) := Lib.hid ⟨by have := r3.size; omega, by rw [size_new]; omega⟩
      generalize w3.heap.size = g7 at ZA GA ⊢
      generalize w3.alloc (.cells zpart 26) = w5 at *
      refine stepE (i := 16) rfl (by kernel_rfl) (fun w6 r6 K hK => ?_)
      go_simp
      refine (HCL.out w6 (BC_trans S4.out r6)).mono ?_
      rintro e w4 ⟨v4, rfl, own4, b4⟩
      have S7 := Lib.hid (BC_trans (BC_trans S4.out r6) b4)
      refine hK.out _ _ S7.out ?_
      clear hK K
      have Z7 : Hid (w4.heap[g7]? = some (.cells zpart 26)) := Lib.hid (BC_blk1 (BC_trans r6 b4) ZA.out)
      have G7 : Hid (w2.heap.size < g7 + 1 ∧ v4.ownBlock ≠ some g7) := Lib.hid ⟨GA.out.1, fun h => by have := own_block own4 _ h; have := GA.out.2; have := r6.size; omega⟩
      replace own4 : Own w2.heap.size w4 v4 (daF I) := own4.mono (BC_trans S4.out r6).size
      clear b4 r6 ZA GA S4
      obtain ⟨gc, sl4, _, _⟩ := own4.slv
      obtain ⟨p4, c4, rfl, hm4, hx4, _⟩ := by unfold SlV at sl4; exact sl4
      have HPS : Hid ((pcells (whF I) sz at' (.slice p4 (daF I).length c4)).toArray.size = 35) := Lib.hid (pcells_sz HWH.out.2 _ _ _)
      have HPO : Hid ((pcells (whF I) sz at' (.slice p4 (daF I).length c4)).toArray.all (·.oneCell') = true) := Lib.hid (pcells_one _ _ _ _ rfl)
      have HOWN := Lib.hid own4
      clear own4 hm4 hx4
      generalize hPC : (pcells (whF I) sz at' (.slice p4 (daF I).length c4)).toArray = PC at HPS HPO
      have hBD := HBD.out p4 (daF I).length c4
      rw [hPC] at hBD
      have HPC := Lib.hid (And.intro hPC hBD)
      clear hPC hBD
      refine takeEB (i := 17) rfl (by kernel_rfl) (by kernel_rfl) (by kernel_rfl) (fun _ _ _ _ h => h) S7.out 26 _ rfl (by rfl) PC (Eq.trans (congrArg (Try.prog.built 26) (by kernel_rfl)) HPC.out.2) ?_
      simp only [Act.put, List.setIfInBounds_toArray, List.set_cons_zero, List.set_cons_succ]
      have O7 := HOWN
      refine stepE (i := 19) rfl (by kernel_rfl) (fun w7 r7 K hK => ?_)
      rw [if_pos (by rfl)]
      refine wp_store_row 26 (.tmp 7) (.tmp 48) rfl g7 PC rfl rfl 26 zpart (BC_blk1 r7 Z7.out) (by rw [HPS.out]; kernel_rfl) (by rw [HPS.out]; kernel_rfl) HPO.out ?_
      have S8 : Hid (BC w2 (w7.setRow g7 PC)) := Lib.hid (below_row (BC_trans S7.out r7) (Nat.le_of_lt_succ G7.out.1) PC)
      refine hK.out _ _ S8.out ?_
      clear hK K
      refine doneE (by kernel_rfl) (fun w9 r9 => ?_) _
      have bx := O7.out.below r7
      have by' := bx.but (But.of_store (g := g7) (fun k hk => setRow_other w7 g7 k PC hk) (fun B w0 hB hb => below_row hb hB PC)) G7.out.2
      have X9 := Lib.hid (And.intro (BC_blk1 r9 (setRow_heap _ _ _ PC _ _ (BC_blk1 r7 Z7.out))) (And.intro (by'.below r9) (And.intro (BC_trans S8.out r9) (And.intro HPC.out.1 HPS.out))))
      clear bx by' r9 r7 S8 O7 Z7 G7 S7 hS HPO HPS HOWN HPC HSZ HT1 HT2 HCL HBD hat r3
    all_goals (
      have Z9 := Lib.hid (BC_blk1 X9.out.2.2.1 H2.out.1)
      go_wp2_with (refine wpList_load_row rfl 26 _ rfl _ rfl _ PC _ _ X9.out.1 Try.underlying26 rfl (by rw [X9.out.2.2.2.2]; kernel_rfl) ?_)
      obtain ⟨gd, sd, ld, _⟩ := X9.out.2.1.slv
      have XD := Lib.hid (And.intro sd ld)
      clear sd ld
      by_cases hmay : mayB sz at' (daF I).length = true
      · have HEN := encode_yes (whF I) HWH.out.2 (bytes_take (bytes_drop H1.out.2.2.2.2.1 _) _) sz at' (.slice p4 (daF I).length c4) gd 0 (daF I) (bytes_drop H1.out.2.2.2.2.1 _) (by unfold daF; rw [List.length_drop, H1.out.2.2.1]; have := HL.out; omega) XD.out.1 hmay w9 XD.out.2
        rw [X9.out.2.2.2.1] at HEN
        refine HEN.mono ?_
        rintro e w10 ⟨v10, rfl, own10, b10⟩
        obtain ⟨ge, se, le, _⟩ := own10.slv
        have HX := Lib.hid (equal_any ge 0 b o v10 (.slice (some ⟨b, o, none⟩) (m + 32) cap) (encF (whF I) sz at' (daF I)) l (encF_bytes (bytes_take (bytes_drop H1.out.2.2.2.2.1 _) _) (bytes_drop H1.out.2.2.2.2.1 _) _ _) HL.out.1 se (by have := HV.out; rw [HL.out.2.2.1] at this ⊢; exact this) w10 le ((HL.out.2.1.below (BC_below H2.out.2.1 H2.out.2.1.size (BC_trans X9.out.2.2.1 b10)))))
        obtain ⟨q2, hq2⟩ : ∃ q2, q2 = sameB (encF (whF I) sz at' (daF I)) l := ⟨_, rfl⟩
        rw [← hq2] at HX
        have HQ2 := Lib.hid (And.intro hq2 hmay)
        have Y10 := Lib.hid (And.intro (BC_blk1 b10 X9.out.1) (And.intro (X9.out.2.1.below b10) (And.intro (BC_trans X9.out.2.2.1 b10) (BC_blk1 b10 Z9.out))))
        clear HEN own10 b10 se le hq2 hmay
        go_wp2_with fail
        refine HX.out.mono ?_
        rintro e w11 ⟨rfl, rfl⟩
        cases q2 with
        | true =>
          have he : errF l = 0 := by
            have h1 := HQ2.out
            have h2 := H1.out.2.2.2.2.2.2.2.2
            have h3 := HF.out
            unfold sameB at h1
            unfold errF
            rw [if_neg (by have := HL.out; omega), if_neg ?_, if_pos ?_]
            · rw [← h2.1, ← h3.1, ← h3.2.1]
              exact ⟨h1.2, of_decide_eq_true h1.1.symm⟩
            · rw [← h2.1, ← h2.2]
              exact fun h => h h3.2.2.2
          have HE : Hid ((pcells (dWh l) (dSz l) (dAt l) (.slice p4 (daF I).length c4)).toArray = PC ∧ errF l = 0 ∧ dDa l = daF I) := Lib.hid (by
            obtain ⟨e1, e2⟩ := dec_good he (.slice p4 (daF I).length c4)
            rw [e1, e2, ← H1.out.2.2.2.2.2.2.2.2.1, ← HF.out.1, ← HF.out.2.1]
            exact ⟨X9.out.2.2.2.1, he, rfl⟩)
          have HONE : Hid (PC.all (·.oneCell') = true) := Lib.hid (by rw [← X9.out.2.2.2.1]; exact pcells_one _ _ _ _ rfl)
          clear he
          go_wp2_with (first
            | (refine wpList_load_row rfl 26 _ rfl _ rfl _ PC _ _ Y10.out.1 Try.underlying26 rfl (by rw [X9.out.2.2.2.2]; kernel_rfl) ?_)
            | (refine wpList_store_rowTo rfl 26 _ _ rfl rfl _ PC rfl rfl 26 zpart Y10.out.2.2.2 (by rw [X9.out.2.2.2.2]; kernel_rfl) (by rw [X9.out.2.2.2.2]; kernel_rfl) HONE.out ?_))
          refine bodyPost_ret (results_row_tmp (p := 2) (u := 3) (by kernel_rfl) _ _ _ _ _ _ _ rfl (setRow_heap _ _ _ _ _ _ Y10.out.2.2.2) Try.underlying26 rfl (by rw [X9.out.2.2.2.2]; kernel_rfl)) rfl ⟨.slice p4 (daF I).length c4, by rw [HE.out.1, HE.out.2.1]; rfl, ?_, below_row (BC_below H2.out.2.1 H2.out.2.1.size Y10.out.2.2.1) (Nat.le_refl _) _⟩
          rw [HE.out.2.2]
          exact (Y10.out.2.1.but (But.of_store (g := w.heap.size) (fun k hk => setRow_other _ _ k PC hk) (fun B w0 hB hb => below_row hb hB PC)) (fun h => by have := own_block Y10.out.2.1 _ h; have := blk_lt H2.out.1; omega)).mono H2.out.2.1.size
        | false =>
          have he : errF l = 2 := by
            have h1 := HQ2.out
            have h2 := H1.out.2.2.2.2.2.2.2.2
            have h3 := HF.out
            unfold sameB at h1
            unfold errF
            rw [if_neg (by have := HL.out; omega), if_neg ?_, if_neg ?_]
            · rw [← h2.1, ← h3.1, ← h3.2.1]
              exact fun h => of_decide_eq_false h1.1.symm h.2
            · rw [← h2.1, ← h2.2]
              exact fun h => h h3.2.2.2
          obtain ⟨e1, e2⟩ := dec_bad (l := l) (by rw [he]; decide) (.slice none 0 0)
          have HE := Lib.hid (And.intro he (And.intro e1 e2))
          clear e1 e2 he
          go_wp2_with (refine wpList_store_rowTo rfl 26 _ _ rfl rfl _ zpart rfl rfl 26 zpart Y10.out.2.2.2 (by kernel_rfl) (by kernel_rfl) zpart_one ?_)
          exact bodyPost_ret (results_row_tmp (p := 2) (u := 3) (by kernel_rfl) _ _ _ _ _ _ _ rfl (setRow_heap _ _ _ _ _ _ Y10.out.2.2.2) Try.underlying26 rfl (by kernel_rfl)) rfl ⟨.slice none 0 0, by rw [HE.out.2.1, HE.out.1]; rfl, by rw [HE.out.2.2]; exact Own.nil _ _, below_row (BC_below H2.out.2.1 H2.out.2.1.size Y10.out.2.2.1) (Nat.le_refl _) _⟩
      · have HEN := encode_no (whF I) HWH.out.2 sz at' (.slice p4 (daF I).length c4) gd 0 (daF I).length XD.out.1 (by simpa using hmay) w9
        rw [X9.out.2.2.2.1] at HEN
        refine HEN.mono ?_
        rintro e w10 ⟨rfl, b10⟩
        have Y10 := Lib.hid (And.intro (BC_trans X9.out.2.2.1 b10) (BC_blk1 b10 Z9.out))
        have he : errF l = 2 := by
          have h2 := H1.out.2.2.2.2.2.2.2.2
          have h3 := HF.out
          unfold errF
          rw [if_neg (by have := HL.out; omega), if_neg ?_, if_neg ?_]
          · rw [← h2.1, ← h3.1, ← h3.2.1]
            exact fun h => hmay h.1
          · rw [← h2.1, ← h2.2]
            exact fun h => h h3.2.2.2
        obtain ⟨e1, e2⟩ := dec_bad (l := l) (by rw [he]; decide) (.slice none 0 0)
        have HE := Lib.hid (And.intro he (And.intro e1 e2))
        clear e1 e2 he HEN b10 hmay
        go_wp2_with (refine wpList_store_rowTo rfl 26 _ _ rfl rfl _ zpart rfl rfl 26 zpart Y10.out.2 (by kernel_rfl) (by kernel_rfl) zpart_one ?_)
        exact bodyPost_ret (results_row_tmp (p := 2) (u := 3) (by kernel_rfl) _ _ _ _ _ _ _ rfl (setRow_heap _ _ _ _ _ _ Y10.out.2) Try.underlying26 rfl (by kernel_rfl)) rfl ⟨.slice none 0 0, by rw [HE.out.2.1, HE.out.1]; rfl, by rw [HE.out.2.2]; exact Own.nil _ _, below_row (BC_below H2.out.2.1 H2.out.2.1.size Y10.out.1) (Nat.le_refl _) _⟩)
theorem decode_any (b o : Nat) (v : Value) (l : List Int) (hlb : Bytes l) (hN : l.length ≤ 400000) (hv : SlV v b o l.length) (w : World) (hl : Lies w b o l) :
    Calls Try.prog 17 #[v] w fun e w' => ∃ v', e = .returned (.tuple #[.agg (pcells (dWh l) (dSz l) (dAt l) v').toArray, .int .i64 (errF l)]) ∧ Own w.heap.size w' v' (dDa l) ∧ Below w.heap.size w w' := by
  by_cases h : l.length ≤ 80
  · exact decode_short b o v l h hv w
  · exact decode_long b o v l hlb (by omega) hN hv w hl
end Go.Proofs.Ytjnimbhecfpnmaa
