/- The walk of slices.Insert of one part into a slice of the call's own. -/
import Derived.Test.YtjnimbhecfpnmaaRowP
import Derived.Test.YtjnimbhecfpnmaaGuard
import Derived.Deep.RegionLaw
import Derived.Deep.Cut
import Derived.Lib.AppendZerosOnto
import Derived.Lib.Overlaps
namespace Go.Proofs.Ytjnimbhecfpnmaa
set_option maxRecDepth 100000
open Go.ChangeShapes Go.WideShapes Go.ChangeAt Go.RowKit

/-- copy of n elements of k cells each -/
theorem run_copy_wide {P : Program} (w : World) (dT sT ty elem : TypeId) (g o dLen dCap : Nat) (a : Addr) (sLen sCap : Nat) (cur : List Value) (t : TypeId) (cs : List Value) (k n : Nat)
    (hu : P.underlying dT = some (.slice elem)) (hs : (P.info? elem).map (·.size) = some k)
    (hg : w.heap[g]? = some (.cells cur.toArray t (0, 0))) (hn : n = Nat.min sLen dLen) (hcs : cs.length = n * k)
    (hsrc : ∀ j v, cs[j]? = some v → w.cell? (a.add j) = some v) (hfit : o + cs.length ≤ cur.length) (h1 : ∀ v ∈ cs, v.oneCell' = true) :
    (Builtin.copy_ #[dT, sT] ty #[.slice (some ⟨g, o, none⟩) dLen dCap, .slice (some a) sLen sCap]).run P w =
      .ok (goInt n) (w.setRow g (splice cur o cs).toArray) := by
  have hl := run_loadCells_list (P := P) w a cs hsrc
  have hst := run_storeCells_at P g o t cs 0 cur.toArray w hg (by simpa using hfit) h1
  rw [hcs] at hl
  cases hq : P.info? elem with
  | none => simp [hq] at hs
  | some i =>
    have hi : i.size = k := by simpa [hq] using hs
    simp [Builtin.copy_, run_underlying hu, Builtin.lenOf, Builtin.firstCells, sizeOf, typeInfo, hq, hi, ← hn, hl, hst, splice]
theorem wl_copy_wide {P : Program} {w : World} {ops : Array Oper} {rest : List Oper} {o : Oper} {a : Act} {Q : Exit → Act → World → Prop} (hgd : o.guard = none) (d s : Operand) (dT sT : TypeId)
    (ho : o.op = .call { callee := .builtin .copy, args := #[d, s], argTypes := #[dT, sT] }) (vd vs : Value) (hd : a.eval d = vd) (hs : a.eval s = vs) (v' : Value) (w' : World)
    (hr : (Builtin.copy_ #[dT, sT] o.type #[vd, vs]).run P w = .ok v' w') (h : wpList P ops Q rest (a.put o.dst v') w') : wpList P ops Q (o :: rest) a w := by
  refine wpList_plain hgd fun _ hK => ?_
  unfold Oper.wp execOp
  simp only [ho, resolve, invoke, builtin, Sem.run_bind, Sem.run_pure, Result.andThen_ok, List.map_toArray, List.map_cons, List.map_nil, hd, hs, hr]
  exact hK _ _ h
theorem step_copy_wide {P : Program} {ops : Array Oper} {o : Oper} {a : Act} {w : World} {K : Act → World → Prop} {Q : Exit → Act → World → Prop} {E : Prop}
    (hg : o.guard = none) (d x : Operand) (dT sT : TypeId) (hop : o.op = Op.call { callee := Callee.builtin Builtin.copy, args := #[d, x], argTypes := #[dT, sT] })
    (v u : Value) (hd : a.eval d = v) (hx : a.eval x = u) {v' : Value} {w' : World} (hr : (Builtin.copy_ #[dT, sT] o.type #[v, u]).run P w = .ok v' w') (hK : K (a.put o.dst v') w') :
    if Region.wanted o (yielded ops a.tmps) = true then Oper.wp P o a w K Q else E := by
  have hw : Region.wanted o (yielded ops a.tmps) = true := by simp [Region.wanted, hg]
  rw [if_pos hw]
  unfold Oper.wp
  simp [execOp, hop, resolve, invoke, builtin, hd, hx, hr, Result.andThen]
  exact hK
theorem wl_append_gz {w : World} {ops : Array Oper} {rest : List Oper} {o : Oper} {a : Act} {Q : Exit → Act → World → Prop} (hgd : o.guard = none) (s x : Operand)
    (ho : o.op = .call { callee := .builtin .append, args := #[s, x], argTypes := #[56, 3] }) (g i cap : Nat) (hs : a.eval s = .slice (some ⟨g, 0, none⟩) i cap) (k : IntKind) (n : Nat) (hx : a.eval x = .int k (n : Int)) (h0 : 0 < n) (hgr : cap < i + n) (hn : i + n ≤ 1000000)
    (olds : List Value) (hl : olds.length = i * 35) (hr : w.rangeAt g 0 olds)
    (h : ∀ cap2 Z w', i + n ≤ cap2 → cap2 ≤ maxLen → (olds ++ Z).length = cap2 * 35 → w'.heap[w.heap.size]? = some (.cells (olds ++ Z).toArray 26 (0, 0)) → Below w.heap.size w w' →
      wpList Try.prog ops Q rest (a.put o.dst (.slice (some ⟨w.heap.size, 0, none⟩) (i + n) cap2)) w') : wpList Try.prog ops Q (o :: rest) a w := by
  obtain ⟨ti, hi, hz0, hz1, hz2⟩ := info_parts info_P
  have hold : (Builtin.firstCells ti.size i (.slice (some ⟨g, 0, none⟩) i cap)).run Try.prog w.drew = .ok olds.toArray w.drew := by
    have hl2 := run_loadCells_list (P := Try.prog) w.drew ⟨g, 0, none⟩ olds (fun j v hj => by rw [Addr.add_mid]; exact hr j v hj)
    rw [hl] at hl2
    rw [hz1]
    exact hl2
  have hrun := Lib.run_append_grow_zeros (P := Try.prog) w 56 3 o.type 26 ti (.agg zpart) k .i64 Try.underlying56 Try.underlying3 hi hz0 (some ⟨g, 0, none⟩) i cap olds hold n h0 (by omega) hgr (by omega) (by rw [hz2]; omega)
    (growslice_fits hgr (by rw [hz2]; omega))
  have hg := grownCap_ge w (i + n) cap 26
  have hm := grownCap_le_maxLen w (i + n) cap 26 (by unfold maxLen; omega)
  generalize grownCap w (i + n) cap 26 = cap2 at *
  have e : olds.toArray ++ Builtin.zeroCells (Value.agg zpart).cells n ++ Builtin.zeroCells (Value.agg zpart).cells (cap2 - (i + n)) = (olds ++ (Builtin.zeroCells (Value.agg zpart).cells n ++ Builtin.zeroCells (Value.agg zpart).cells (cap2 - (i + n))).toList).toArray := by
    apply Array.toList_inj.1
    simp
  rw [e] at hrun
  refine wpList_plain hgd fun K hK => ?_
  unfold Oper.wp execOp
  simp only [ho, resolve, invoke, builtin, Sem.run_bind, Sem.run_pure, Result.andThen_ok, List.map_toArray, List.map_cons, List.map_nil, hs, hx, hrun]
  refine hK _ _ (h cap2 _ _ hg hm ?_ (heap_alloc_new w.drew _) ((Below.refl w.heap.size w).drew.alloc (Nat.le_refl _) _))
  have hz : ∀ k, (Builtin.zeroCells (Value.agg zpart).cells k).size = k * 35 := fun k => by simp only [Builtin.zeroCells, Array.size_map, Array.size_range, zpart_35P]
  simp only [List.length_append, Array.toList_append, Array.length_toList, hz, hl]
  omega
/-- what two copies make: in place -/
theorem splice_shift {α : Type} (cur F P D : List α) (a d : Nat) (hF : F.length = a) (hD : D.length = d) (hc : cur.take (a + d) = F ++ D) (hl : a + P.length + d ≤ cur.length) :
    (splice (splice cur (a + P.length) D) a P).take (a + P.length + d) = F ++ (P ++ D) := by
  have h1 : cur.take a = F := by
    have h := congrArg (List.take a) hc
    rw [List.take_take, Nat.min_eq_left (by omega), ← hF, List.take_left] at h
    rwa [hF] at h
  have h2 : (splice cur (a + P.length) D).take a = F := by
    unfold splice
    rw [List.take_append_of_le_length (by rw [List.length_take]; omega), List.take_take, Nat.min_eq_left (by omega), h1]
  have h3 : (splice cur (a + P.length) D).drop (a + P.length) = D ++ cur.drop (a + P.length + D.length) := by
    unfold splice
    rw [List.drop_append_of_le_length (by rw [List.length_take]; omega), List.drop_of_length_le (by rw [List.length_take]; omega), List.nil_append]
  show (List.take a (splice cur (a + P.length) D) ++ (P ++ List.drop (a + P.length) (splice cur (a + P.length) D))).take _ = _
  rw [h2, h3, ← List.append_assoc, ← List.append_assoc]
  have e : a + P.length + d = ((F ++ P) ++ D).length := by simp only [List.length_append, hF, hD]
  rw [e, List.take_left, List.append_assoc]
/-- .. in a new row -/
theorem splice_fill {α : Type} (F Z P D : List α) (a d : Nat) (hF : F.length = a) (hD : D.length = d) :
    (splice (splice (F ++ Z) a P) (a + P.length) D).take (a + P.length + d) = F ++ (P ++ D) := by
  have h2 : (splice (F ++ Z) a P).take (a + P.length) = F ++ P := by
    unfold splice
    rw [← hF, List.take_left, ← List.append_assoc, show F.length + P.length = (F ++ P).length by simp, List.take_left]
  show (List.take (a + P.length) (splice (F ++ Z) a P) ++ (D ++ List.drop _ _)).take _ = _
  rw [h2, ← List.append_assoc]
  have e : a + P.length + d = ((F ++ P) ++ D).length := by simp only [List.length_append, hF, hD]
  rw [e, List.take_left, List.append_assoc]
/-- a part put in at place i -/
def insQ {α : Type} (qs : List α) (i : Nat) (p : α) : List α := qs.take i ++ p :: qs.drop i
theorem insQ_len {α : Type} (qs : List α) (i : Nat) (p : α) (h : i ≤ qs.length) : (insQ qs i p).length = qs.length + 1 := by simp [insQ]; omega
attribute [local go_sem] takes comesTo
set_option maxHeartbeats 4000000 in
theorem insert_end (base : Nat) (s : Value) (qs : List (Pt × Value)) (p : Pt × Value) (vb vc : Nat) (w : World) (hs : OwnP base w s qs) (hbase : base ≤ w.heap.size) (hn : qs.length ≤ 10000)
    (hv : w.heap[vb]? = some (.cells (qC p).toArray 26 (0, 0))) (hp : p.1.wh.length = 32) (hp1 : p.2.oneCell' = true) (hc : 1 ≤ vc) (hc2 : vc ≤ maxLen) :
    Calls Try.prog 61 #[s, .int .i64 (qs.length : Int), .slice (some ⟨vb, 0, none⟩) 1 vc] w fun e w' => ∃ v', e = .returned v' ∧ OwnP base w' v' (qs ++ [p]) ∧ Below base w w' := by
  obtain ⟨a, c, rfl⟩ := hs.form
  have HS := Lib.hid (And.intro hs (And.intro hbase (And.intro hn (And.intro hp hp1))))
  have HL : Hid (SlV (.slice (some ⟨vb, 0, none⟩) 1 vc) vb 0 [p].length ∧ w.rangeAt vb 0 (flatQ [p])) := Lib.hid ⟨⟨_, vc, rfl, hc, hc2, fun _ => rfl, fun h => by cases h⟩, fun j u hj => by
    rw [Nat.zero_add]
    exact cell_row hv j (by simpa [flatQ] using hj)⟩
  obtain ⟨n, hN⟩ : ∃ n, n = qs.length := ⟨_, rfl⟩
  rw [← hN]
  have hnc : n ≤ c := by
    obtain ⟨_, ⟨h1, h2⟩ | ⟨g, cap, cur, h1, _, _, h2, _⟩⟩ := hs
    · injection h1 with _ h3 h4; omega
    · injection h1 with _ h3 h4; omega
  have ha : a = none → c = 0 := by
    obtain ⟨_, ⟨h1, h2⟩ | ⟨g, cap, cur, h1, _, _, h2, _⟩⟩ := hs
    · injection h1 with _ h3 h4; intro _; omega
    · injection h1 with h3 _ _; intro h5; rw [h5] at h3; cases h3
  have HO : Hid (OwnP base w (.slice a n c) qs) := Lib.hid (by rw [hN]; exact hs)
  clear hs hbase hn hv hp hp1 hc hc2 hN
  go_enter Try.func61, Try.ntmps61
  cases a with
  | none =>
    obtain rfl := ha rfl
    obtain rfl : n = 0 := by omega
    go_wp2_with (at_builtin; refine wl_append_P rfl _ _ rfl base _ _ rfl HO.out _ rfl vb 0 [p] HL.out.1 HL.out.2 (by simpa using HS.out.2.2.2.1) (fun u hu => qC_one HS.out.2.2.2.2 u (by simpa [flatQ] using hu)) (by have := HS.out.2.2.1; simp; omega) HS.out.2.1 ?_; intro v3 w3 own3 b3)
    have HB := Lib.hid (And.intro own3 b3)
    clear own3 b3
    go_ret
    exact ⟨_, rfl, HB.out.1, HB.out.2⟩
  | some ad =>
    rcases Nat.eq_or_lt_of_le hnc with hcn | hcn
    · subst hcn
      go_wp2_with (at_builtin; refine wl_append_P rfl _ _ rfl base _ _ rfl HO.out _ rfl vb 0 [p] HL.out.1 HL.out.2 (by simpa using HS.out.2.2.2.1) (fun u hu => qC_one HS.out.2.2.2.2 u (by simpa [flatQ] using hu)) (by have := HS.out.2.2.1; simp; omega) HS.out.2.1 ?_; intro v3 w3 own3 b3)
      have HB := Lib.hid (And.intro own3 b3)
      clear own3 b3
      go_ret
      exact ⟨_, rfl, HB.out.1, HB.out.2⟩
    · have hcn' : ¬ c = n := by omega
      have hcn2 : ¬ c - n = 0 := by omega
      go_wp2_with (at_builtin; refine wl_append_P rfl _ _ rfl base _ _ rfl HO.out _ rfl vb 0 [p] HL.out.1 HL.out.2 (by simpa using HS.out.2.2.2.1) (fun u hu => qC_one HS.out.2.2.2.2 u (by simpa [flatQ] using hu)) (by have := HS.out.2.2.1; simp; omega) HS.out.2.1 ?_; intro v3 w3 own3 b3)
      have HB := Lib.hid (And.intro own3 b3)
      clear own3 b3
      go_ret
      exact ⟨_, rfl, HB.out.1, HB.out.2⟩
set_option maxHeartbeats 4000000 in
/-- one in the middle, where there is room -/
theorem insert_room (base g cap : Nat) (cur : Array Value) (qs : List (Pt × Value)) (p : Pt × Value) (i vb vc : Nat) (w : World) (hi : i < qs.length) (hn : qs.length ≤ 10000)
    (hb : base ≤ g) (hg : w.heap[g]? = some (.cells cur 26 (0, 0))) (hroom : qs.length + 1 ≤ cap) (hmax : cap ≤ maxLen) (hsz : cur.size = cap * 35) (ht : cur.toList.take (qs.length * 35) = flatQ qs)
    (h32 : ∀ q ∈ qs, q.1.wh.length = 32) (h1 : ∀ u ∈ flatQ qs, u.oneCell' = true)
    (hv : w.heap[vb]? = some (.cells (qC p).toArray 26 (0, 0))) (hne : vb ≠ g) (hp : p.1.wh.length = 32) (hp1 : p.2.oneCell' = true) :
    Calls Try.prog 61 #[.slice (some ⟨g, 0, none⟩) qs.length cap, .int .i64 (i : Int), .slice (some ⟨vb, 0, none⟩) 1 vc] w fun e w' => ∃ v', e = .returned v' ∧ OwnP base w' v' (insQ qs i p) ∧ Below base w w' := by
  obtain ⟨n, hN⟩ : ∃ n, n = qs.length := ⟨_, rfl⟩
  obtain ⟨I1, hI1⟩ : ∃ m, m = i + 1 := ⟨_, rfl⟩
  obtain ⟨N1, hN1⟩ : ∃ m, m = n + 1 := ⟨_, rfl⟩
  have hov : ∀ lb cb o, (callFunc 80 #[.slice (some ⟨vb, 0, none⟩) 1 vc, .slice (some ⟨g, o, none⟩) lb cb]).run Try.prog w = .ok (.value (.bool false)) w := fun lb cb o => by
    rw [run_callFunc_extern Try.func80 (by kernel_rfl) (by kernel_rfl) (by kernel_rfl) (e := Extern.SlicesOverlaps.overlaps #[56, 56] #[4]) (by kernel_rfl),
      Lib.run_overlaps_apart w 56 4 26 Try.underlying56 35 Try.sizeOf26 ⟨vb, 0, none⟩ ⟨g, o, none⟩ 1 vc lb cb hne 26 26 (qC p).length cur.size (by simp [World.shape?, hv]) (by simp [World.shape?, hg]) (by omega) (by simp [World.frozen?, hv]) (by simp [World.frozen?, hv])]
    rfl
  rw [← hN]
  have e1 : ¬ (i : Int) = (n : Int) := by omega
  have e2 : IntKind.i64.wrap ((n : Int) + 1) = (N1 : Int) := by rw [IntKind.wrap_i64]; omega
  have e3 : ¬ (cap : Int) < (N1 : Int) := by omega
  have e4 : IntKind.i64.wrap ((i : Int) + 1) = (I1 : Int) := by rw [IntKind.wrap_i64]; omega
  have e5 : (I1 : Int) ≤ (N1 : Int) := by omega
  have e6 : (i : Int) ≤ (N1 : Int) := by omega
  have e7 : ¬ cap = I1 := by omega
  have e8 : ¬ cap = i := by omega
  have e9 : (i : Int) ≤ (n : Int) := by omega
  have e10 : (N1 : Int) ≤ (cap : Int) := by omega
  have hfl : flatQ qs = flatQ (qs.take i) ++ flatQ (qs.drop i) := by rw [← flatQ_append, List.take_append_drop]
  have hF : (flatQ (qs.take i)).length = i * 35 := by rw [flatQ_len (fun q hq => h32 q (List.mem_of_mem_take hq)), List.length_take, Nat.min_eq_left (by omega)]
  have hD : (flatQ (qs.drop i)).length = (n - i) * 35 := by rw [flatQ_len (fun q hq => h32 q (List.mem_of_mem_drop hq)), List.length_drop, hN]
  have hP : (qC p).length = 35 := qC_len hp
  have hsp : (splice (splice cur.toList (I1 * 35) (flatQ (qs.drop i))) (i * 35) (qC p)).take (N1 * 35) = flatQ (insQ qs i p) := by
    have h := splice_shift cur.toList (flatQ (qs.take i)) (qC p) (flatQ (qs.drop i)) (i * 35) ((n - i) * 35) hF hD (by rw [← hfl, ← ht]; congr 1; omega) (by rw [hP, Array.length_toList, hsz]; omega)
    rw [hP, show i * 35 + 35 = I1 * 35 by omega, show I1 * 35 + (n - i) * 35 = N1 * 35 by omega] at h
    rw [h]
    simp [insQ, flatQ, qC]
  have hls : ∀ (a : List Value) o (c : List Value), o + c.length ≤ a.length → (splice a o c).length = a.length := fun a o c h => length_splice a o c h
  have hg' : w.heap[g]? = some (.cells cur.toList.toArray 26 (0, 0)) := by simpa using hg
  have hcp1 : ∀ ty dc sc, (Builtin.copy_ #[56, 56] ty #[.slice (some ⟨g, I1 * 35, none⟩) (N1 - I1) dc, .slice (some ⟨g, i * 35, none⟩) (N1 - i) sc]).run Try.prog w.drew = .ok (goInt (n - i : Nat)) (w.drew.setRow g (splice cur.toList (I1 * 35) (flatQ (qs.drop i))).toArray) := fun ty dc sc =>
    run_copy_wide w.drew _ _ ty 26 g (I1 * 35) (N1 - I1) dc ⟨g, i * 35, none⟩ (N1 - i) sc cur.toList 26 (flatQ (qs.drop i)) 35 (n - i) Try.underlying56 (by kernel_rfl) hg' (by simp only [Nat.min_def]; split <;> omega) hD
      (fun j v hj => by
        rw [Addr.add_mid]
        show w.cell? _ = _
        refine cell_row hg _ ?_
        rw [← Array.getElem?_toList]
        have hjl : j < (n - i) * 35 := by rw [← hD]; exact (List.getElem?_eq_some_iff.1 hj).1
        have h2 : (cur.toList.take (qs.length * 35))[i * 35 + j]? = some v := by
          rw [ht, hfl, List.getElem?_append_right (by omega), hF, show i * 35 + j - i * 35 = j by omega]
          exact hj
        rwa [List.getElem?_take_of_lt (by omega)] at h2)
      (by rw [hD, Array.length_toList, hsz]; omega) (fun v hv => h1 v (by rw [hfl]; exact List.mem_append_right _ hv))
  obtain ⟨W1, hW1⟩ : ∃ W, W = w.drew.setRow g (splice cur.toList (I1 * 35) (flatQ (qs.drop i))).toArray := ⟨_, rfl⟩
  have hg1 : W1.heap[g]? = some (.cells (splice cur.toList (I1 * 35) (flatQ (qs.drop i))).toArray 26 (0, 0)) := by rw [hW1]; exact setRow_heap w.drew g cur _ _ _ hg
  have hv1 : W1.heap[vb]? = some (.cells (qC p).toArray 26 (0, 0)) := by rw [hW1, setRow_other _ _ _ _ hne]; exact hv
  have hb1 : Below base w W1 := by rw [hW1]; exact below_row ((Below.refl _ _).drew) hb _
  have hcp2 : ∀ ty dc, (Builtin.copy_ #[56, 56] ty #[.slice (some ⟨g, i * 35, none⟩) (N1 - i) dc, .slice (some ⟨vb, 0, none⟩) 1 vc]).run Try.prog W1 = .ok (goInt (1 : Nat)) (W1.setRow g (splice (splice cur.toList (I1 * 35) (flatQ (qs.drop i))) (i * 35) (qC p)).toArray) := fun ty dc =>
    run_copy_wide W1 _ _ ty 26 g (i * 35) (N1 - i) dc ⟨vb, 0, none⟩ 1 vc _ 26 (qC p) 35 1 Try.underlying56 (by kernel_rfl) hg1 (by simp only [Nat.min_def]; split <;> omega) hP
      (fun j v hj => by
        rw [Addr.add_mid, Nat.zero_add]
        exact cell_row hv1 _ (by simpa using hj))
      (by rw [hP, hls _ _ _ (by rw [hD, Array.length_toList, hsz]; omega), Array.length_toList, hsz]; omega) (qC_one hp1)
  rw [← hW1] at hcp1
  have hg2 := setRow_heap W1 g _ (splice (splice cur.toList (I1 * 35) (flatQ (qs.drop i))) (i * 35) (qC p)).toArray _ _ hg1
  have hb2 : Below base w (W1.setRow g (splice (splice cur.toList (I1 * 35) (flatQ (qs.drop i))) (i * 35) (qC p)).toArray) := below_row hb1 hb _
  have hown : OwnP base (W1.setRow g (splice (splice cur.toList (I1 * 35) (flatQ (qs.drop i))) (i * 35) (qC p)).toArray) (.slice (some ⟨g, 0, none⟩) N1 cap) (insQ qs i p) := by
    have hl : (insQ qs i p).length = N1 := by rw [insQ_len qs i p (by omega)]; omega
    unfold OwnP
    rw [hl]
    refine ⟨?_, .inr ⟨g, cap, _, rfl, hb, hg2, by omega, hmax, ?_, hsp⟩⟩
    · rw [← hl]
      refine flatQ_len fun q hq => ?_
      unfold insQ at hq
      rcases List.mem_append.1 hq with h | h
      · exact h32 q (List.mem_of_mem_take h)
      · rcases List.mem_cons.1 h with rfl | h
        · exact hp
        · exact h32 q (List.mem_of_mem_drop h)
    · show (splice _ _ _).length = _
      rw [hls _ _ _ (by rw [hP, hls _ _ _ (by rw [hD, Array.length_toList, hsz]; omega), Array.length_toList, hsz]; omega), hls _ _ _ (by rw [hD, Array.length_toList, hsz]; omega), Array.length_toList, hsz]
  have H1 := Lib.hid hcp1
  have H2 := Lib.hid hcp2
  have HO := Lib.hid (And.intro hown hb2)
  generalize (splice (splice cur.toList (I1 * 35) (flatQ (qs.drop i))) (i * 35) (qC p)).toArray = R2 at *
  clear hN hI1 hN1 hfl hF hD hP hsp hls hg' hcp1 hcp2 hW1 hg1 hv1 hb1 hg2 hb2 hown h32 h1 hp hp1 hg hv ht hsz hroom hmax hn hb hne hi
  go_enter Try.func61, Try.ntmps61
  go_wp2_with (simp only [hov])
  go_region_law (refine step_copy_wide rfl _ _ 56 56 rfl (.slice (some ⟨g, I1 * 35, none⟩) (N1 - I1) (cap - I1)) (.slice (some ⟨g, i * 35, none⟩) (N1 - i) (cap - i)) (by go_simp) (by go_simp) (H1.out _ _ _) ?_)
  go_wp2_with ((with_reducible refine wl_copy_wide (o := ⟨some 82, _, _, _, _, _⟩) ?_ (.tmp 80) (.tmp 81) 56 56 ?_ _ _ ?_ ?_ _ _ (H2.out _ (cap - i)) ?_); (focus rfl); (focus rfl); (focus rfl); (focus rfl))
  go_ret
  exact ⟨_, rfl, HO.out.1, HO.out.2⟩
set_option maxHeartbeats 4000000 in
/-- one in the middle, where there is no room -/
theorem insert_grow (base g cap : Nat) (cur : Array Value) (qs : List (Pt × Value)) (p : Pt × Value) (i vb vc : Nat) (w : World) (hi : i < qs.length) (hn : qs.length ≤ 10000)
    (hbase : base ≤ w.heap.size) (hg : w.heap[g]? = some (.cells cur 26 (0, 0))) (hnc : qs.length ≤ cap) (hroom : cap < qs.length + 1) (ht : cur.toList.take (qs.length * 35) = flatQ qs)
    (h32 : ∀ q ∈ qs, q.1.wh.length = 32) (h1 : ∀ u ∈ flatQ qs, u.oneCell' = true)
    (hv : w.heap[vb]? = some (.cells (qC p).toArray 26 (0, 0))) (hp : p.1.wh.length = 32) (hp1 : p.2.oneCell' = true) :
    Calls Try.prog 61 #[.slice (some ⟨g, 0, none⟩) qs.length cap, .int .i64 (i : Int), .slice (some ⟨vb, 0, none⟩) 1 vc] w fun e w' => ∃ v', e = .returned v' ∧ OwnP base w' v' (insQ qs i p) ∧ Below base w w' := by
  obtain ⟨n, hN⟩ : ∃ n, n = qs.length := ⟨_, rfl⟩
  obtain ⟨I1, hI1⟩ : ∃ m, m = i + 1 := ⟨_, rfl⟩
  obtain ⟨N1, hN1⟩ : ∃ m, m = n + 1 := ⟨_, rfl⟩
  obtain ⟨R, hR⟩ : ∃ m, m = N1 - i := ⟨_, rfl⟩
  obtain ⟨g2, hg2⟩ : ∃ m, m = w.heap.size := ⟨_, rfl⟩
  obtain rfl : cap = n := by omega
  rw [← hN]
  have e1 : ¬ (i : Int) = (cap : Int) := by omega
  have e2 : IntKind.i64.wrap ((cap : Int) + 1) = (N1 : Int) := by rw [IntKind.wrap_i64]; omega
  have e3 : (cap : Int) < (N1 : Int) := by omega
  have e4 : IntKind.i64.wrap ((i : Int) + 1) = (I1 : Int) := by rw [IntKind.wrap_i64]; omega
  have e5 : (I1 : Int) ≤ (N1 : Int) := by omega
  have e6 : (i : Int) ≤ (N1 : Int) := by omega
  have e8 : ¬ cap = i := by omega
  have e9 : (i : Int) ≤ (cap : Int) := by omega
  have e11 : IntKind.i64.wrap ((N1 : Int) - (i : Int)) = (R : Int) := by rw [IntKind.wrap_i64]; omega
  have hfl : flatQ qs = flatQ (qs.take i) ++ flatQ (qs.drop i) := by rw [← flatQ_append, List.take_append_drop]
  have hF : (flatQ (qs.take i)).length = i * 35 := by rw [flatQ_len (fun q hq => h32 q (List.mem_of_mem_take hq)), List.length_take, Nat.min_eq_left (by omega)]
  have hD : (flatQ (qs.drop i)).length = (cap - i) * 35 := by rw [flatQ_len (fun q hq => h32 q (List.mem_of_mem_drop hq)), List.length_drop, hN]
  have hP : (qC p).length = 35 := qC_len hp
  have hr : w.rangeAt g 0 (flatQ qs) := fun j u hj => by
    rw [Nat.zero_add]
    refine cell_row hg _ ?_
    rw [← Array.getElem?_toList]
    rw [← ht] at hj
    have hjl := (List.getElem?_eq_some_iff.1 hj).1
    rw [List.length_take] at hjl
    rwa [List.getElem?_take_of_lt (by omega)] at hj
  have hro : w.rangeAt g 0 (flatQ (qs.take i)) := range_take hr h32 (by omega)
  have hls : ∀ (a : List Value) o (c : List Value), o + c.length ≤ a.length → (splice a o c).length = a.length := fun a o c h => length_splice a o c h
  have hgl : g < w.heap.size := blk_lt hg
  have hvl : vb < w.heap.size := blk_lt hv
  have key : Hid (∀ (cap2 : Nat) (Z : List Value) (w1 : World), N1 ≤ cap2 → cap2 ≤ maxLen → (flatQ (qs.take i) ++ Z).length = cap2 * 35 → w1.heap[g2]? = some (.cells (flatQ (qs.take i) ++ Z).toArray 26 (0, 0)) → Below w.heap.size w w1 →
      ∃ W2 W3, (∀ ty dc, (Builtin.copy_ #[56, 56] ty #[.slice (some ⟨g2, i * 35, none⟩) (N1 - i) dc, .slice (some ⟨vb, 0, none⟩) 1 vc]).run Try.prog w1 = .ok (goInt (1 : Nat)) W2) ∧
        (∀ ty dc sc, (Builtin.copy_ #[56, 56] ty #[.slice (some ⟨g2, I1 * 35, none⟩) (N1 - I1) dc, .slice (some ⟨g, i * 35, none⟩) (cap - i) sc]).run Try.prog W2.drew = .ok (goInt (cap - i : Nat)) W3) ∧
        OwnP base W3 (.slice (some ⟨g2, 0, none⟩) N1 cap2) (insQ qs i p) ∧ Below base w W3) := Lib.hid (fun cap2 Z w1 c1 c2 c3 c4 c5 => by
    have hg1' : w1.heap[g]? = some (.cells cur 26 (0, 0)) := (c5.block _ hgl).trans hg
    have hv1 : w1.heap[vb]? = some (.cells (qC p).toArray 26 (0, 0)) := (c5.block _ hvl).trans hv
    have b1 : Below base w w1 := c5.mono hbase
    have hlz : i * 35 + 35 ≤ (flatQ (qs.take i) ++ Z).length := by omega
    have hsp := splice_fill (flatQ (qs.take i)) Z (qC p) (flatQ (qs.drop i)) (i * 35) ((cap - i) * 35) hF hD
    rw [hP, show i * 35 + 35 = I1 * 35 by omega, show I1 * 35 + (cap - i) * 35 = N1 * 35 by omega] at hsp
    generalize flatQ (qs.take i) ++ Z = L0 at *
    have hg4 := setRow_heap w1 g2 _ (splice L0 (i * 35) (qC p)).toArray _ _ c4
    have hgn : g ≠ g2 := by omega
    have hg5 : (w1.setRow g2 (splice L0 (i * 35) (qC p)).toArray).heap[g]? = some (.cells cur 26 (0, 0)) := by rw [setRow_other _ _ _ _ hgn]; exact hg1'
    have b2 : Below base w (w1.setRow g2 (splice L0 (i * 35) (qC p)).toArray) := below_row b1 (by omega) _
    have hl4 : (splice L0 (i * 35) (qC p)).length = cap2 * 35 := by rw [hls _ _ _ (by rw [hP]; omega), c3]
    obtain ⟨W2, hW2⟩ : ∃ W, W = w1.setRow g2 (splice L0 (i * 35) (qC p)).toArray := ⟨_, rfl⟩
    have hcp1 : ∀ ty dc, (Builtin.copy_ #[56, 56] ty #[.slice (some ⟨g2, i * 35, none⟩) (N1 - i) dc, .slice (some ⟨vb, 0, none⟩) 1 vc]).run Try.prog w1 = .ok (goInt (1 : Nat)) W2 := fun ty dc => by
      rw [hW2]
      exact run_copy_wide w1 _ _ ty 26 g2 (i * 35) (N1 - i) dc ⟨vb, 0, none⟩ 1 vc _ 26 (qC p) 35 1 Try.underlying56 (by kernel_rfl) c4 (by simp only [Nat.min_def]; split <;> omega) hP
        (fun j v hj => by
          rw [Addr.add_mid, Nat.zero_add]
          exact cell_row hv1 _ (by simpa using hj))
        (by rw [hP]; omega) (qC_one hp1)
    rw [← hW2] at hg4 hg5 b2
    refine ⟨W2, W2.drew.setRow g2 (splice (splice L0 (i * 35) (qC p)) (I1 * 35) (flatQ (qs.drop i))).toArray, hcp1, fun ty dc sc => ?_, ?_, below_row b2.drew (by omega) _⟩
    · exact run_copy_wide W2.drew _ _ ty 26 g2 (I1 * 35) (N1 - I1) dc ⟨g, i * 35, none⟩ (cap - i) sc _ 26 (flatQ (qs.drop i)) 35 (cap - i) Try.underlying56 (by kernel_rfl) hg4 (by simp only [Nat.min_def]; split <;> omega) hD
        (fun j v hj => by
          rw [Addr.add_mid]
          show W2.cell? _ = _
          refine cell_row hg5 _ ?_
          rw [← Array.getElem?_toList]
          have hjl : j < (cap - i) * 35 := by rw [← hD]; exact (List.getElem?_eq_some_iff.1 hj).1
          have h2 : (cur.toList.take (qs.length * 35))[i * 35 + j]? = some v := by
            rw [ht, hfl, List.getElem?_append_right (by omega), hF, show i * 35 + j - i * 35 = j by omega]
            exact hj
          rwa [List.getElem?_take_of_lt (by omega)] at h2)
        (by rw [hD, hl4]; omega) (fun v hv => h1 v (by rw [hfl]; exact List.mem_append_right _ hv))
    · have hl : (insQ qs i p).length = N1 := by rw [insQ_len qs i p (by omega)]; omega
      unfold OwnP
      rw [hl]
      refine ⟨?_, .inr ⟨g2, cap2, _, rfl, by omega, setRow_heap W2.drew g2 _ _ _ _ hg4, by omega, c2, ?_, ?_⟩⟩
      · rw [← hl]
        refine flatQ_len fun q hq => ?_
        unfold insQ at hq
        rcases List.mem_append.1 hq with h | h
        · exact h32 q (List.mem_of_mem_take h)
        · rcases List.mem_cons.1 h with rfl | h
          · exact hp
          · exact h32 q (List.mem_of_mem_drop h)
      · show (splice _ _ _).length = _
        rw [hls _ _ _ (by rw [hD, hl4]; omega), hl4]
      · show (splice _ _ _).take _ = _
        rw [hsp]
        simp [insQ, flatQ, qC])
  have HB := Lib.hid (And.intro hro (And.intro hF (And.intro hR (And.intro hN1 (And.intro hg2 (And.intro hn (And.intro hN hI1)))))))
  have hiR : i + R = N1 := by omega
  have hR0 : 0 < R := by omega
  have HR := Lib.hid (And.intro hiR (And.intro hR0 hi))
  clear hN hI1 hN1 hfl hF hD hP hls h32 h1 hp hp1 hg hv ht hroom hn hi hR hg2 hr hro hgl hvl hbase hnc hiR hR0
  generalize flatQ (qs.take i) = F at *
  go_enter Try.func61, Try.ntmps61
  have hx1 : cap < i + R := by have := HR.out; have := HB.out.2.2.2.1; omega
  have hx2 : i + R ≤ 1000000 := by have := HR.out; have := HB.out.2.2.2.1; have := HB.out.2.2.2.2.2.1; have := HB.out.2.2.2.2.2.2.1; omega
  have HX := Lib.hid (And.intro hx1 hx2)
  clear hx1 hx2
  go_upto_region 9 with fail
  go_upto_region 10 with (at_builtin; refine wl_append_gz rfl _ _ rfl g i cap rfl .i64 R rfl HR.out.2.1 HX.out.1 HX.out.2 F HB.out.2.1 HB.out.1 ?_; intro cap2 Z w1 c1 c2 c3 c4 c5)
  rw [← HB.out.2.2.2.2.1] at c4 ⊢
  rw [HR.out.1] at c1 ⊢
  obtain ⟨W2, W3, k1, k2, k3, k4⟩ := key.out cap2 Z w1 c1 c2 c3 c4 c5
  have H1 := Lib.hid k1
  have H2 := Lib.hid k2
  have HF := Lib.hid (And.intro k3 k4)
  have e12 : ¬ cap2 = i := by have := HR.out; have := HB.out.2.2.2.2.2.2.1; omega
  have e13 : ¬ cap2 = I1 := by have := HR.out; have := HB.out.2.2.2.1; have := HB.out.2.2.2.2.2.2; omega
  clear k1 k2 k3 k4 c1 c2 c3 c4 c5 key
  go_wp2_with ((with_reducible refine wl_copy_wide (o := ⟨some 45, _, _, _, _, _⟩) ?_ (.tmp 43) (.tmp 44) 56 56 ?_ _ _ ?_ ?_ _ _ (H1.out _ (cap2 - i)) ?_); (focus rfl); (focus rfl); (focus rfl); (focus rfl))
  go_region_law (refine step_copy_wide rfl _ _ 56 56 rfl (.slice (some ⟨g2, I1 * 35, none⟩) (N1 - I1) (cap2 - I1)) (.slice (some ⟨g, i * 35, none⟩) (cap - i) (cap - i)) (by go_simp) (by go_simp) (H2.out _ _ _) ?_)
  go_wp2_with fail
  go_ret
  exact ⟨_, rfl, HF.out.1, HF.out.2⟩
theorem insert_any (base : Nat) (s : Value) (qs : List (Pt × Value)) (p : Pt × Value) (i vb : Nat) (w : World) (hi : i ≤ qs.length) (hs : OwnP base w s qs) (hbase : base ≤ w.heap.size) (hn : qs.length ≤ 10000)
    (h32 : ∀ q ∈ qs, q.1.wh.length = 32) (h1 : ∀ u ∈ flatQ qs, u.oneCell' = true)
    (hv : w.heap[vb]? = some (.cells (qC p).toArray 26 (0, 0))) (hne : s.ownBlock ≠ some vb) (hp : p.1.wh.length = 32) (hp1 : p.2.oneCell' = true) :
    Calls Try.prog 61 #[s, .int .i64 (i : Int), .slice (some ⟨vb, 0, none⟩) 1 1] w fun e w' => ∃ v', e = .returned v' ∧ OwnP base w' v' (insQ qs i p) ∧ Below base w w' := by
  rcases Nat.eq_or_lt_of_le hi with rfl | hi
  · have h := insert_end base s qs p vb 1 w hs hbase hn hv hp hp1 (Nat.le_refl _) (by unfold maxLen; omega)
    have e : insQ qs qs.length p = qs ++ [p] := by simp [insQ]
    rw [e]
    exact h
  · obtain ⟨_, ⟨_, h2⟩ | ⟨g, cap, cur, rfl, hb, hg, hnc, hmax, hsz, ht⟩⟩ := hs
    · omega
    · rcases Nat.lt_or_ge cap (qs.length + 1) with hr | hr
      · exact insert_grow base g cap cur qs p i vb 1 w hi hn hbase hg hnc hr ht h32 h1 hv hp hp1
      · exact insert_room base g cap cur qs p i vb 1 w hi hn hb hg hr hmax hsz ht h32 h1 hv (fun e => hne (by rw [← e]; rfl)) hp hp1
end Go.Proofs.Ytjnimbhecfpnmaa
