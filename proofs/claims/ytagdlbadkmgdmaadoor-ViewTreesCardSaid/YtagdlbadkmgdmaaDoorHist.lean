/- bindleref12.History: plain, and the walk. -/
import Derived.Test.YtagdlbadkmgdmaaDoorJoin
import Derived.Test.YtagdlbadkmgdmaaDoorEv
import Derived.Test.YtagdlbadkmgdmaaDoorGuard
import Derived.Test.YtagdlbadkmgdmaaDoorApp
import Derived.ChangeArms
import Derived.Deep.Cut
namespace Go.Proofs.YtagdlbadkmgdmaaDoor
set_option maxRecDepth 100000
open Go.ChangeShapes Go.WideShapes Go.ChangeAt Go.RowKit

/-- what somebody does in a history -/
structure De where
  who : Nat
  other : Nat
  path : Nat
  learns : Bool
  gone : Bool
  size : Nat
def deC (d : De) : List Value := [.int .u8 d.who, .int .u8 d.other, .int .u8 d.path, .bool d.learns, .bool d.gone, .int .u8 d.size]
def okDe (d : De) : Prop := d.who < 256 ∧ d.other < 256 ∧ d.path < 256 ∧ d.size < 256
def deR (ds : List De) : Rows' := ds.map deC
theorem deR_n (ds : List De) : ∀ r ∈ deR ds, r.length = 6 := fun r hr => by
  obtain ⟨d, _, rfl⟩ := List.mem_map.1 hr
  rfl
/-- the four paths -/
def pathB : Nat → ByteArray
  | 0 => ⟨#[97]⟩
  | 1 => ⟨#[97, 47, 98]⟩
  | 2 => ⟨#[99]⟩
  | _ => ⟨#[100]⟩
abbrev HSt := List (List Dt) × List Ev
def evH (k : List Dt) (d : De) : Ev :=
  { dot := (((d.who % 3 : Nat) : Int), getF k ((d.who % 3 : Nat) : Int) + 1), deps := k, kind := if d.gone then 2 else 1, path := pathB (d.path % 4),
    sum := if d.gone then List.replicate 32 0 else (d.size : Int) :: List.replicate 31 0, size := if d.gone then 0 else d.size }
def stepH (s : HSt) (d : De) : HSt :=
  if d.learns then (s.1.set (d.who % 3) (joinF (s.1.getD (d.who % 3) []) (s.1.getD (d.other % 3) [])), s.2)
  else (s.1.set (d.who % 3) (withF (s.1.getD (d.who % 3) []) (evH (s.1.getD (d.who % 3) []) d).dot), s.2 ++ [evH (s.1.getD (d.who % 3) []) d])
def histK (ds : List De) : Nat → HSt
  | 0 => ([[], [], []], [])
  | i + 1 => match ds[i]? with
    | some d => stepH (histK ds i) d
    | none => histK ds i
/-- the events of deeds -/
def histF (ds : List De) : List Ev := (histK ds (if ds.length < 40 then ds.length else 40)).2
theorem ofF_len (n : List Int) : (ofF n).length ≤ 32 := ofK_len n 32
/-- what three know, in a block -/
def KnowOk (w : World) (kn : List Value) (know : List (List Dt)) : Prop :=
  kn.length = 3 ∧ know.length = 3 ∧ ∀ r, r < 3 → ((know.getD r []).length ≤ 32 ∧ RdG 2 w.heap.size w (kn.getD r undef) (vecR (know.getD r [])) ∧ TyB 34 w (kn.getD r undef))
theorem KnowOk.to {w w' : World} {kn : List Value} {know : List (List Dt)} (h : KnowOk w kn know) (hb : BC w w') : KnowOk w' kn know :=
  ⟨h.1, h.2.1, fun r hr => ⟨(h.2.2 r hr).1, (h.2.2 r hr).2.1.to hb, (h.2.2 r hr).2.2.to hb⟩⟩
theorem KnowOk.set {w : World} {kn : List Value} {know : List (List Dt)} (h : KnowOk w kn know) {r : Nat} (hr : r < 3) {v : Value} {l : List Dt} (hl : l.length ≤ 32) (hv : RdG 2 w.heap.size w v (vecR l)) (ht : TyB 34 w v) : KnowOk w (kn.set r v) (know.set r l) := by
  refine ⟨by rw [List.length_set]; exact h.1, by rw [List.length_set]; exact h.2.1, fun j hj => ?_⟩
  have h1 : r < kn.length := by rw [h.1]; exact hr
  have h2 : r < know.length := by rw [h.2.1]; exact hr
  by_cases hjr : j = r
  · subst hjr
    have e1 : (kn.set j v).getD j undef = v := by simp [List.getD, h1]
    have e2 : (know.set j l).getD j [] = l := by simp [List.getD, h2]
    rw [e1, e2]
    exact ⟨hl, hv, ht⟩
  · have e1 : (kn.set r v).getD j undef = kn.getD j undef := by simp [List.getD, List.getElem?_set_ne (Ne.symm hjr)]
    have e2 : (know.set r l).getD j [] = know.getD j [] := by simp [List.getD, List.getElem?_set_ne (Ne.symm hjr)]
    rw [e1, e2]
    exact h.2.2 j hj
/-- a pointer to a block of these cells, not below base -/
def NewAt (C : Array Value) (t : TypeId) (base : Nat) (v : Value) (w : World) : Prop := ∃ b, v = .pointer (some ⟨b, 0, none⟩) ∧ w.heap[b]? = some (.cells C t (0, 0)) ∧ base ≤ b
theorem NewAt.to {C : Array Value} {t : TypeId} {base : Nat} {v : Value} {w w' : World} (hb : BC w w') (h : NewAt C t base v w) : NewAt C t base v w' := by
  obtain ⟨b, h1, h2, h3⟩ := h
  exact ⟨b, h1, BC_blk1 hb h2, h3⟩
theorem TyB.but {T T' : TypeId} {g : Nat} {w w' : World} {v : Value} (h : TyB T w v) (hb : But g w w') {cs : Array Value} {fr : Nat × Nat} (ht : w.heap[g]? = some (.cells cs T' fr)) (hT : T ≠ T') : TyB T w' v := fun k hk => by
  obtain ⟨c1, f1, h1⟩ := h k hk
  refine ⟨c1, f1, hb.blk h1 fun e => ?_⟩
  subst e
  rw [h1] at ht
  injection ht with e
  injection e with _ e _
  exact hT e
theorem grownT_blk {w w' : World} {row : Option Nat} (hg : w.grownBy w' row) {k : Nat} {o : Obj} (hk : w.heap[k]? = some o) (hn : some k ≠ row) : w'.heap[k]? = some o := (hg.block k (blk_lt hk) hn).trans hk
/-- a slice in a block of another type than the one that grows -/
theorem TyB.grown {T T' : TypeId} {w w' : World} {v u : Value} (h : TyB T w v) (hu : TyB T' w u) (hg : w.grownBy w' u.ownBlock) (hT : T ≠ T') : TyB T w' v := fun k hk => by
  obtain ⟨c1, f1, h1⟩ := h k hk
  refine ⟨c1, f1, grownT_blk hg h1 fun e => ?_⟩
  obtain ⟨c2, f2, h2⟩ := hu k e.symm
  rw [h1] at h2
  injection h2 with e
  injection e with _ e _
  exact hT e
theorem RdG.grown {n : Nat} {T T' : TypeId} {w w' : World} {v u : Value} {rs : Rows'} (hr : RdG n w.heap.size w v rs) (h : TyB T w v) (hu : TyB T' w u) (hg : w.grownBy w' u.ownBlock) (hT : T ≠ T') : RdG n w'.heap.size w' v rs := by
  obtain ⟨h0, b, o, h1, h2, h3⟩ := hr
  refine ⟨h0, b, o, h1, fun j x hj => ?_, fun h => Nat.lt_of_lt_of_le (h3 h) hg.size⟩
  have hl : 0 < rs.length := by
    rcases Nat.eq_zero_or_pos rs.length with hz | hz
    · have : rs = [] := List.eq_nil_of_length_eq_zero hz
      subst this
      simp at hj
    · exact hz
  obtain ⟨a, c, rfl, _, _, ha, _⟩ := h1
  obtain rfl := ha hl
  obtain ⟨c1, f1, k1⟩ := h b rfl
  refine hg.cell (h2 j x hj) fun e => ?_
  obtain ⟨c2, f2, k2⟩ := hu b e.symm
  rw [k1] at k2
  injection k2 with e
  injection e with _ e _
  exact hT e
def GoodT (w : World) (qs : List (Ev × Value)) : Prop := ∀ q ∈ qs, TyB 34 w q.2
theorem results_tmp_row {P : Program} {fn : Func} {p u : Tmp} {ty : TypeId} (h : fn.results = #[.tmp u, .cell p ty]) (tmps : Array Value) (w : World) (g : Nat) (t : TypeId) (cs : Array Value) (fr : Nat × Nat) (d : TypeDesc)
    (hp : tmps.getD p undef = .pointer (some ⟨g, 0, none⟩)) (hg : w.heap[g]? = some (.cells cs t fr))
    (hu : P.underlying ty = some d) (hd : (match d with | .struct _ | .array _ _ => true | _ => false) = true) (hi : (P.info? ty).map (·.size) = some cs.size) :
    (results fn tmps).run P w = .ok (.tuple #[tmps.getD u undef, .agg cs]) w := by
  have hp' : tmps[p]?.getD undef = .pointer (some ⟨g, 0, none⟩) := by simpa using hp
  simp [results, h, hp', asAddr, run_loadVar_row w g t ty cs fr d hg hu hd hi]
def slB : Value → Bool
  | .slice _ _ _ => true
  | _ => false
/-- a block of slices' values is none of numbers: what is stored there turns no row of numbers -/
theorem RdG.but {n g : Nat} {w w' : World} {v : Value} {rs : Rows'} (h : RdG n w.heap.size w v rs) (hb : But g w w') (hg : ∀ j u, w.cell? ⟨g, j, none⟩ = some u → slB u = true) (hr : ∀ r ∈ rs, ∀ u ∈ r, slB u = false) : RdG n w'.heap.size w' v rs := by
  obtain ⟨h0, b, o, h1, h2, h3⟩ := h
  refine ⟨h0, b, o, h1, fun j u hj => ?_, fun h => Nat.lt_of_lt_of_le (h3 h) hb.size⟩
  have hc := h2 j u hj
  refine hb.cell hc fun e => ?_
  have e' : b = g := e
  subst e'
  have t := hg _ _ hc
  obtain ⟨r, hr1, hr2⟩ := List.mem_flatten.1 (List.mem_of_getElem? hj)
  rw [hr r hr1 u hr2] at t
  cases t
theorem vecR_sl (ds : List Dt) : ∀ r ∈ vecR ds, ∀ u ∈ r, slB u = false := fun r hr u hu => by
  obtain ⟨d, _, rfl⟩ := List.mem_map.1 hr
  unfold dotC at hu
  rcases List.mem_cons.1 hu with rfl | hu
  · rfl
  · rw [List.mem_singleton.1 hu]
    rfl
theorem KnowOk.but {g : Nat} {w w' : World} {kn : List Value} {know : List (List Dt)} (h : KnowOk w kn know) (hb : But g w w') (hg : ∀ j u, w.cell? ⟨g, j, none⟩ = some u → slB u = true) {cs : Array Value} {T : TypeId} {fr : Nat × Nat} (ht : w.heap[g]? = some (.cells cs T fr)) (hT : 34 ≠ T) : KnowOk w' kn know :=
  ⟨h.1, h.2.1, fun r hr => ⟨(h.2.2 r hr).1, (h.2.2 r hr).2.1.but hb hg (vecR_sl _), (h.2.2 r hr).2.2.but hb ht hT⟩⟩
theorem GoodE.but {g : Nat} {w w' : World} {qs : List (Ev × Value)} (h : GoodE w.heap.size w qs) (hb : But g w w') (hg : ∀ j u, w.cell? ⟨g, j, none⟩ = some u → slB u = true) : GoodE w'.heap.size w' qs :=
  fun q hq => ⟨(h q hq).1, (h q hq).2.1, (h q hq).2.2.but hb hg (vecR_sl _)⟩
theorem KnowOk.sl {w wx : World} {kn : List Value} {know : List (List Dt)} (h : KnowOk w kn know) {g : Nat} {t : TypeId} {fr : Nat × Nat} (hg : wx.heap[g]? = some (.cells kn.toArray t fr)) : ∀ j u, wx.cell? ⟨g, j, none⟩ = some u → slB u = true := fun j u hj => by
  have e := cell_of_row wx g j kn.toArray t fr hg
  rw [e, List.getElem?_toArray] at hj
  have hj3 : j < 3 := by rw [← h.1]; exact (List.getElem?_eq_some_iff.1 hj).1
  obtain ⟨a, c, hf⟩ := (h.2.2 j hj3).2.1.form
  rw [List.getD, hj, Option.getD_some] at hf
  rw [hf]
  rfl
theorem KnowOk.cell {w wx : World} {kn : List Value} {know : List (List Dt)} (h : KnowOk w kn know) {g : Nat} {t : TypeId} {fr : Nat × Nat} (hg : wx.heap[g]? = some (.cells kn.toArray t fr)) {r : Nat} (hr : r < 3) : wx.cell? ⟨g, r, none⟩ = some (kn.getD r undef) := by
  rw [cell_of_row wx g r kn.toArray t fr hg, List.getElem?_toArray]
  have : r < kn.length := by rw [h.1]; exact hr
  simp [List.getD, this]
theorem know_stored {w : World} {g r : Nat} {kn : List Value} {t : TypeId} (v : Value) (hg : w.heap[g]? = some (.cells kn.toArray t (0, 0))) : (w.setCell ⟨g, r, none⟩ v).heap[g]? = some (.cells (kn.set r v).toArray t (0, 0)) := by
  rw [Go.heap_setCell_same w g r _ _ v hg]
  congr 2
  apply Array.toList_inj.1
  simp
theorem but_store (w : World) (g r : Nat) (v : Value) : But g w (w.setCell ⟨g, r, none⟩ v) := But.of_store (fun _ hj => heap_setCell_other _ _ _ _ hj) (fun _ _ hB' hb => hb.setCell hB' _)
theorem rem3 (x : Nat) (hx : x < 256) : (wrap64 (x : Int)).tmod 3 = ((x % 3 : Nat) : Int) := by
  rw [show wrap64 (x : Int) = (x : Int) by unfold wrap64; omega, Int.tmod_eq_emod_of_nonneg (by omega)]
  omega
theorem rem3w (x : Nat) (hx : x < 256) : (IntKind.i64.wrap (x : Int)).tmod 3 = ((x % 3 : Nat) : Int) := by
  rw [show IntKind.i64.wrap (x : Int) = (x : Int) by rw [IntKind.wrap_i64]; omega, Int.tmod_eq_emod_of_nonneg (by omega)]
  omega
theorem rem4w (x : Nat) (hx : x < 256) : (IntKind.i64.wrap (x : Int)).tmod 4 = ((x % 4 : Nat) : Int) := by
  rw [show IntKind.i64.wrap (x : Int) = (x : Int) by rw [IntKind.wrap_i64]; omega, Int.tmod_eq_emod_of_nonneg (by omega)]
  omega
theorem wrap8 (x : Nat) (hx : x < 256) : IntKind.i64.wrap (x : Int) = (x : Int) := by rw [IntKind.wrap_i64]; omega
theorem stepA_le {n : List Int} {d : Dt} (h : ∀ i, n.getD i 0 ≤ 1099511627776) : ∀ i, (stepA n d).getD i 0 ≤ 1099511627776 := by
  intro i
  unfold stepA
  split
  · rename_i hc
    rw [Bool.and_eq_true] at hc
    have hm := hc.1
    simp [mayD] at hm
    by_cases hi : i < n.length
    · by_cases he : d.1.toNat = i
      · subst he
        simp [List.getD, hi]
        omega
      · have := h i
        simpa [List.getD, List.getElem?_set_ne he] using this
    · simp [List.getD, hi]
  · exact h i
theorem zeros_get (m i : Nat) : (List.replicate m (0 : Int)).getD i 0 = 0 := by
  rw [List.getD, List.getElem?_replicate]
  split <;> rfl
theorem allF_le (ds : List Dt) : ∀ i, (allF ds).getD i 0 ≤ 1099511627776 := by
  unfold allF
  have : ∀ (ds : List Dt) (n : List Int), (∀ i, n.getD i 0 ≤ 1099511627776) → ∀ i, (ds.foldl stepA n).getD i 0 ≤ 1099511627776 := by
    intro ds
    induction ds with
    | nil => intro n h; exact h
    | cons d ds ih => intro n h; exact ih _ (stepA_le h)
  refine this ds _ fun i => ?_
  rw [zeros_get]
  decide
theorem stepA_ge {n : List Int} {d : Dt} (h : ∀ i, 0 ≤ n.getD i 0) : ∀ i, 0 ≤ (stepA n d).getD i 0 := by
  intro i
  unfold stepA
  split
  · rename_i hc
    rw [Bool.and_eq_true] at hc
    have hm := hc.1
    simp [mayD] at hm
    by_cases hi : i < n.length
    · by_cases he : d.1.toNat = i
      · subst he
        simp [List.getD, hi]
        omega
      · have := h i
        simpa [List.getD, List.getElem?_set_ne he] using this
    · simp [List.getD, hi]
  · exact h i
theorem allF_ge (ds : List Dt) : ∀ i, 0 ≤ (allF ds).getD i 0 := by
  unfold allF
  have : ∀ (ds : List Dt) (n : List Int), (∀ i, 0 ≤ n.getD i 0) → ∀ i, 0 ≤ (ds.foldl stepA n).getD i 0 := by
    intro ds
    induction ds with
    | nil => intro n h; exact h
    | cons d ds ih => intro n h; exact ih _ (stepA_ge h)
  refine this ds _ fun i => ?_
  rw [zeros_get]
  decide
theorem getF_bounds (ds : List Dt) (r : Int) : 0 ≤ getF ds r ∧ getF ds r ≤ 1099511627776 := by
  unfold getF
  split
  · exact ⟨allF_ge ds _, allF_le ds _⟩
  · exact ⟨by omega, by omega⟩
theorem GoodT.to {w w' : World} {qs : List (Ev × Value)} (h : GoodT w qs) (hb : BC w w') : GoodT w' qs := fun q hq => (h q hq).to hb
theorem GoodT.but {g : Nat} {w w' : World} {qs : List (Ev × Value)} (h : GoodT w qs) (hb : But g w w') {cs : Array Value} {T : TypeId} {fr : Nat × Nat} (ht : w.heap[g]? = some (.cells cs T fr)) (hT : 34 ≠ T) : GoodT w' qs := fun q hq => (h q hq).but hb ht hT
theorem GoodT.grown {T' : TypeId} {w w' : World} {u : Value} {qs : List (Ev × Value)} (h : GoodT w qs) (hu : TyB T' w u) (hg : w.grownBy w' u.ownBlock) (hT : 34 ≠ T') : GoodT w' qs := fun q hq => (h q hq).grown hu hg hT
theorem GoodE.grown {T' : TypeId} {w w' : World} {u : Value} {qs : List (Ev × Value)} (h : GoodE w.heap.size w qs) (ht : GoodT w qs) (hu : TyB T' w u) (hg : w.grownBy w' u.ownBlock) (hT : 34 ≠ T') : GoodE w'.heap.size w' qs :=
  fun q hq => ⟨(h q hq).1, (h q hq).2.1, (h q hq).2.2.grown (ht q hq) hu hg hT⟩
theorem KnowOk.grown {T' : TypeId} {w w' : World} {u : Value} {kn : List Value} {know : List (List Dt)} (h : KnowOk w kn know) (hu : TyB T' w u) (hg : w.grownBy w' u.ownBlock) (hT : 34 ≠ T') : KnowOk w' kn know :=
  ⟨h.1, h.2.1, fun r hr => ⟨(h.2.2 r hr).1, (h.2.2 r hr).2.1.grown (h.2.2 r hr).2.2 hu hg hT, (h.2.2 r hr).2.2.grown hu hg hT⟩⟩
attribute [local irreducible] SlV Lies headG slotG
attribute [local go_sem] takes takesE comesTo comesToP
def zKn : Array Value := #[.slice none 0 0, .slice none 0 0, .slice none 0 0]
theorem zero_kn (w : World) : (zeroValue 27).run Tryd.prog w = .ok (.agg zKn) w := by kernel_rfl
theorem zero_ev (w : World) : (zeroValue 38).run Tryd.prog w = .ok zEv w := by kernel_rfl
def pathC : Array Value := #[.string ⟨#[97]⟩, .string ⟨#[97, 47, 98]⟩, .string ⟨#[99]⟩, .string ⟨#[100]⟩]
theorem pathC_get (r : Nat) (hr : r < 4) : pathC[r]? = some (.string (pathB r)) := by
  match r, hr with
  | 0, _ => rfl
  | 1, _ => rfl
  | 2, _ => rfl
  | 3, _ => rfl
def HistOut (w : World) (ds : List De) (e : Ending) (w' : World) : Prop := ∃ v' CK qs, e = .returned (.tuple #[v', .agg CK]) ∧ (CK.size = 3 ∧ CK.all (·.oneCell') = true) ∧ RdE w'.heap.size w' v' qs ∧ qs.map (·.1) = histF ds ∧ Below w.heap.size w w'
set_option maxHeartbeats 16000000 in
theorem rhistory_any (v : Value) (ds : List De) (w : World) (hv : RdG 6 w.heap.size w v (deR ds)) (hok : ∀ d ∈ ds, okDe d) (hn : ds.length ≤ 100000000000) :
    Calls Tryd.prog 9 #[v] w fun e w' => HistOut w ds e w' := by
  have hz := zero_kn
  have hvv := hv
  obtain ⟨_, g, o, sv, rg, _⟩ := hvv
  have hlen : (deR ds).length = ds.length := by simp [deR]
  rw [hlen] at sv
  obtain ⟨a, c, rfl, hc, hm, ha, _⟩ := by unfold SlV at sv; exact sv
  obtain ⟨n, hN⟩ : ∃ n, n = ds.length := ⟨_, rfl⟩
  rw [← hN] at ha hn ⊢
  have HV := bx (And.intro rg (And.intro hN (And.intro ha (And.intro hn hok))))
  obtain ⟨W1, hW1⟩ : ∃ W, W = w.alloc (.cells zKn 27) := ⟨_, rfl⟩
  obtain ⟨W2, hW2⟩ : ∃ W, W = W1.alloc (.cells zKn 27) := ⟨_, rfl⟩
  obtain ⟨g1, hg1⟩ : ∃ g, g = w.heap.size := ⟨_, rfl⟩
  obtain ⟨g2, hg2⟩ : ∃ g, g = W1.heap.size := ⟨_, rfl⟩
  have a1 := heap_alloc_new w (.cells zKn 27)
  have a2 := heap_alloc_new W1 (.cells zKn 27)
  have e1 := below1 w (.cells zKn 27)
  have e2 := below1 W1 (.cells zKn 27)
  rw [← hW1, ← hg1] at a1
  rw [← hW2, ← hg2] at a2
  rw [← hW1] at e1
  rw [← hW2] at e2
  have e3 : g1 < g2 := by rw [hg2]; exact blk_lt a1
  have hne : ¬ g1 = g2 := by omega
  have HM := bx (And.intro hW1 (And.intro hW2 (And.intro hg1 hg2)))
  have HA := bx (And.intro (BC_blk1 e2 a1) (And.intro a2 (And.intro (BC_trans e1 e2) (And.intro e3 (show w.heap.size ≤ g2 by omega)))))
  clear hv sv rg hN ha hc hm hn hlen hok hW1 hW2 hg1 hg2 a1 a2 e1 e2 e3
  go_enter Tryd.func9, Tryd.ntmps9
  go_upto_region 1 with fail
  rw [← HM.out.1, ← HM.out.2.2.1]
  go_upto_region 2 with fail
  rw [← HM.out.2.1, ← HM.out.2.2.2]
  clear hz
  obtain ⟨W3, hW3⟩ : ∃ W, W = W2.alloc (.cells pathC 9) := ⟨_, rfl⟩
  obtain ⟨g3, hg3⟩ : ∃ g, g = W2.heap.size := ⟨_, rfl⟩
  have n3 := heap_alloc_new W2 (.cells pathC 9)
  have b3 := below1 W2 (.cells pathC 9)
  rw [← hW3, ← hg3] at n3
  rw [← hW3] at b3
  have hne3 : ¬ g3 = g2 := by have := blk_lt HA.out.2.1; omega
  have H3 := bx (And.intro hW3 (And.intro hg3 (And.intro n3 (And.intro (BC_blk1 b3 HA.out.2.1) (And.intro (BC_trans HA.out.2.2.1 b3) (BC_blk1 b3 HA.out.1))))))
  clear hW3 hg3 n3 b3
  go_upto_region 4 with fail
  show Code.wp _ _ _ _ (W2.alloc (.cells pathC 9))
  rw [← H3.out.1, ← H3.out.2.1]
  go_wp2_with fail
  go_loopw [5, 7] (fun v5 v7 wr => ∃ (i : Nat) (kn : List Value) (qs : List (Ev × Value)), i ≤ n ∧ i ≤ 40 ∧ v7 = .int .i64 (i : Int) ∧ wr.heap[g2]? = some (.cells kn.toArray 27 (0, 0)) ∧ KnowOk wr kn (histK ds i).1 ∧ OwnG shEv W3.heap.size wr v5 (evR qs) ∧ (GoodE wr.heap.size wr qs ∧ GoodT wr qs) ∧ qs.map (·.1) = (histK ds i).2 ∧ qs.length ≤ i ∧ wr.heap[g3]? = some (.cells pathC 9 (0, 0)) ∧ wr.heap[g1]? = some (.cells zKn 27 (0, 0)) ∧ BC w wr) (fun _ i _ => n - (intOf i).toNat)
  case atStart =>
    refine ⟨0, [.slice none 0 0, .slice none 0 0, .slice none 0 0], [], Nat.zero_le _, Nat.zero_le _, rfl, H3.out.2.2.2.1, ⟨rfl, rfl, fun r hr => ?_⟩, OwnG.nil _ _ _, ⟨fun q hq => absurd hq List.not_mem_nil, fun q hq => absurd hq List.not_mem_nil⟩, rfl, Nat.le_refl _, H3.out.2.2.1, H3.out.2.2.2.2.2, H3.out.2.2.2.2.1⟩
    match r, hr with
    | 0, _ => exact ⟨Nat.zero_le _, RdG.nil _ _ _, TyB.nil _ _⟩
    | 1, _ => exact ⟨Nat.zero_le _, RdG.nil _ _ _, TyB.nil _ _⟩
    | 2, _ => exact ⟨Nat.zero_le _, RdG.nil _ _ _, TyB.nil _ _⟩
  case round =>
    obtain ⟨i, kn, qs, hi, hi40, rfl, hr2, hkn, hown, hgd, hqs, hql, hr3, hr1, hbr⟩ := hrel
    have HR := bx (And.intro hr2 (And.intro hkn (And.intro hown (And.intro hgd (And.intro hqs (And.intro hql (And.intro hr3 (And.intro hr1 (And.intro hbr (And.intro hi hi40))))))))))
    clear hr2 hkn hown hgd hqs hql hr3 hr1 hbr hi hi40
    by_cases hlt : i < n
    · by_cases hlt40 : i < 40
      · have i0 : (0 : Int) ≤ (i : Int) := by omega
        have i1 : (i : Int) < (n : Int) := by omega
        have i2 : (i : Int) < 40 := by omega
        obtain ⟨I1, hI1⟩ : ∃ m, m = i + 1 := ⟨_, rfl⟩
        have s1 : IntKind.i64.wrap ((i : Int) + 1) = (I1 : Int) := by rw [IntKind.wrap_i64]; omega
        have hid : i < ds.length := by rw [← HV.out.2.1]; exact hlt
        obtain rfl := HV.out.2.2.1 (by omega)
        have hrg := rangeG_get HV.out.1 (deR_n ds) (show i < (deR ds).length by simp [deR]; exact hid)
        have hvi : (deR ds)[i]'(by simp [deR]; exact hid) = deC (ds[i]'hid) := by simp [deR]
        rw [hvi] at hrg
        have hdm := HV.out.2.2.2.2 _ (List.getElem_mem hid)
        have hdi : ds[i]? = some (ds[i]'hid) := List.getElem?_eq_getElem hid
        obtain ⟨d, hd⟩ : ∃ d, d = ds[i]'hid := ⟨_, rfl⟩
        rw [← hd] at hrg hdm hdi
        have hst : histK ds I1 = stepH (histK ds i) d := by rw [hI1, histK, hdi]
        obtain ⟨C, hC⟩ : ∃ C, C = (deC d).toArray := ⟨_, rfl⟩
        have hCz : C.size = 6 := by rw [hC]; rfl
        have hC1 : C.all (·.oneCell') = true := by rw [hC]; simp [deC, Value.oneCell']
        have hrg2 : wr.rangeAt g (o + i * 6) C.toList := fun j u hj => later HR.out.2.2.2.2.2.2.2.2.1 (hrg j u (by rw [hC] at hj; exact hj))
        obtain ⟨W8, hW8⟩ : ∃ W, W = wr.alloc (.cells C 69) := ⟨_, rfl⟩
        obtain ⟨g8, hg8⟩ : ∃ g, g = wr.heap.size := ⟨_, rfl⟩
        have n8 := heap_alloc_new wr (.cells C 69)
        have b8 := below1 wr (.cells C 69)
        rw [← hW8, ← hg8] at n8
        rw [← hW8] at b8
        have c0 : ∀ x : HW (BC W8), x.w.cell? ⟨g8, 0, none⟩ = some (.int .u8 (d.who : Int)) := fun x => cell_row (BC_blk1 x.h n8) 0 (by rw [hC]; rfl)
        have c1 : ∀ x : HW (BC W8), x.w.cell? ⟨g8, 1, none⟩ = some (.int .u8 (d.other : Int)) := fun x => cell_row (BC_blk1 x.h n8) 1 (by rw [hC]; rfl)
        have c2 : ∀ x : HW (BC W8), x.w.cell? ⟨g8, 2, none⟩ = some (.int .u8 (d.path : Int)) := fun x => cell_row (BC_blk1 x.h n8) 2 (by rw [hC]; rfl)
        have c3 : ∀ x : HW (BC W8), x.w.cell? ⟨g8, 3, none⟩ = some (.bool d.learns) := fun x => cell_row (BC_blk1 x.h n8) 3 (by rw [hC]; rfl)
        have c4 : ∀ x : HW (BC W8), x.w.cell? ⟨g8, 4, none⟩ = some (.bool d.gone) := fun x => cell_row (BC_blk1 x.h n8) 4 (by rw [hC]; rfl)
        have c5 : ∀ x : HW (BC W8), x.w.cell? ⟨g8, 5, none⟩ = some (.int .u8 (d.size : Int)) := fun x => cell_row (BC_blk1 x.h n8) 5 (by rw [hC]; rfl)
        have hne8 : ¬ g8 = g2 := by have := blk_lt HR.out.1; omega
        have HI := bx (And.intro hI1 (And.intro hst (And.intro hdm (And.intro hlt hlt40))))
        have H8 := bx (And.intro hW8 (And.intro hg8 (And.intro b8 (And.intro hrg2 (And.intro hCz (And.intro hC1 n8))))))
        clear hI1 hst hdm hlt hlt40 hid hrg hvi hdi hd hC hCz hC1 hrg2 hW8 hg8 n8 b8
        go_upto_region 7 with fail
        go_upto_region 8 with (first
          | ((with_reducible refine wl_load_mid (o := ⟨some 25, _, _, _, _, _⟩) ?_ 69 (.tmp 24) ?_ _ _ ?_ C _ H8.out.2.2.2.1 Tryd.underlying69 ?_ ?_ ?_); (focus rfl); (focus rfl); (focus rfl); (focus rfl); (focus (rw [H8.out.2.2.2.2.1]; kernel_rfl)))
          | (refine wpList_store_rowTo rfl 69 _ _ rfl rfl _ C rfl rfl 69 _ (heap_alloc_new wr _) (by rw [H8.out.2.2.2.2.1]; kernel_rfl) (by rw [H8.out.2.2.2.2.1]; kernel_rfl) H8.out.2.2.2.2.2.1 ?_; rw [World.setRow_alloc_new]))
        rw [← H8.out.1, ← H8.out.2.1]
        have c0' := c0 ⟨W8, BC_refl _⟩
        have c3' := c3 ⟨W8, BC_refl _⟩
        go_upto_region 9 with fail
        obtain ⟨r, hr⟩ : ∃ r, r = d.who % 3 := ⟨_, rfl⟩
        obtain ⟨s, hs⟩ : ∃ s, s = d.other % 3 := ⟨_, rfl⟩
        have hr3 : r < 3 := by omega
        have hs3 : s < 3 := by omega
        have r0 : (0 : Int) ≤ (r : Int) := by omega
        have r1 : (r : Int) < 3 := by omega
        have e1 : (wrap64 (d.who : Int)).tmod 3 = (r : Int) := by rw [hr]; exact rem3 d.who HI.out.2.2.1.1
        rw [e1]
        clear e1
        obtain ⟨kr, hkr⟩ : ∃ l, l = (histK ds i).1.getD r [] := ⟨_, rfl⟩
        obtain ⟨vr, hvr⟩ : ∃ v, v = kn.getD r undef := ⟨_, rfl⟩
        have hkr1 := HR.out.2.1.2.2 r hr3
        rw [← hkr, ← hvr] at hkr1
        have d0 : ∀ x : HW (BC W8), x.w.cell? ⟨g2, r, none⟩ = some vr := fun x => by rw [hvr]; exact HR.out.2.1.cell (BC_blk1 (BC_trans H8.out.2.2.1 x.h) HR.out.1) hr3
        have HQ := bx (And.intro hr (And.intro hs (And.intro hr3 (And.intro hs3 (And.intro hkr (And.intro hkr1.1 (And.intro (hkr1.2.1.to (show BC wr W8 from H8.out.2.2.1)) (hkr1.2.2.to (show BC wr W8 from H8.out.2.2.1)))))))))
        clear hr hs hr3 hs3 hkr hkr1 hvr
        obtain ⟨lr, hlr⟩ : ∃ b, b = d.learns := ⟨_, rfl⟩
        rw [← hlr] at c3'
        cases lr with
        | true =>
          obtain ⟨vs, hvs⟩ : ∃ v, v = kn.getD s undef := ⟨_, rfl⟩
          obtain ⟨ks, hks⟩ : ∃ l, l = (histK ds i).1.getD s [] := ⟨_, rfl⟩
          have hks1 := HR.out.2.1.2.2 s HQ.out.2.2.2.1
          rw [← hks, ← hvs] at hks1
          have s0 : (0 : Int) ≤ (s : Int) := by omega
          have s2 : (s : Int) < 3 := by have := HQ.out.2.2.2.1; omega
          have d2 : ∀ x : HW (BC W8), x.w.cell? ⟨g2, s, none⟩ = some vs := fun x => by rw [hvs]; exact HR.out.2.1.cell (BC_blk1 (BC_trans H8.out.2.2.1 x.h) HR.out.1) HQ.out.2.2.2.1
          obtain ⟨jn, hjn⟩ : ∃ l, l = joinF kr ks := ⟨_, rfl⟩
          have HJ : Bx (∀ x : HW (BC W8), Calls Tryd.prog 25 #[vr, vs] x.w fun e w' => ∃ v', e = .returned v' ∧ RdG 2 w'.heap.size w' v' (vecR jn) ∧ Below x.w.heap.size x.w w' ∧ TyB 34 w' v') := bx fun x => by
            rw [hjn]
            exact rjoin_any vr vs kr ks x.w (HQ.out.2.2.2.2.2.2.1.to x.h) (by have := HQ.out.2.2.2.2.2.1; omega) (hks1.2.1.to (BC_trans H8.out.2.2.1 x.h)) (by have := hks1.1; omega)
          have hst2 : histK ds I1 = ((histK ds i).1.set r jn, (histK ds i).2) := by
            rw [HI.out.2.1, stepH, if_pos hlr.symm, ← HQ.out.1, ← HQ.out.2.1, ← HQ.out.2.2.2.2.1, ← hks, ← hjn]
          have HS := bx (And.intro hst2 (show jn.length ≤ 32 by rw [hjn]; exact ofF_len _))
          clear hvs hks hks1 hjn hst2 hlr
          have e2 : (IntKind.i64.wrap (d.other : Int)).tmod 3 = (s : Int) := by rw [HQ.out.2.1]; exact rem3w d.other HI.out.2.2.1.2.1
          go_upto_region 10 with fail
          refine wp_region_slotsT 12 (by kernel_rfl) (by kernel_rfl) (by kernel_rfl) (by kernel_rfl) (by kernel_rfl) (by kernel_rfl) [none, none, none, none, none, none, none, none, none, none, some (fun v w => RdG 2 w.heap.size w v (vecR jn) ∧ TyB 34 w v), none] ?_
          simp only [List.take_succ_cons, List.take_zero, List.drop_succ_cons, List.drop_zero]
          repeat (first
            | (refine slotG_oneN (fun K hK => ?_)
               apply Exists.intro
               refine ⟨fun x u hF => ?_, ?_⟩
               (focus (go_simp
                       first
                         | (exact rfl)
                         | (exact ⟨rfl, BC_refl _⟩)))
               apply Exists.intro
               refine ⟨fun u => ?_, ?_⟩
               (focus (go_simp; try exact rfl))
               refine hK _ ?_
               clear hK K))
          refine slotG_someN (i := 10) (fun v w w' hb h2 => ⟨h2.1.to hb, h2.2.to hb⟩) (fun K hK => ?_)
          refine ⟨fun x u hF => ?_, ?_⟩
          focus
            go_simp
            go_at_call 25
            refine (HJ.out x).mono ?_
            rintro e w' ⟨v', rfl, h1, h2, h3⟩
            exact ⟨_, rfl, ⟨h1, h3⟩, h2⟩
          apply Exists.intro
          refine ⟨fun u => ?_, ?_⟩
          (focus (go_simp; try exact rfl))
          refine hK _ ?_
          clear hK K
          repeat (first
            | (refine slotG_oneN (fun K hK => ?_)
               apply Exists.intro
               refine ⟨fun x u hF => ?_, ?_⟩
               (focus (go_simp
                       first
                         | (exact rfl)
                         | (exact ⟨rfl, BC_refl _⟩)))
               apply Exists.intro
               refine ⟨fun u => ?_, ?_⟩
               (focus (go_simp; try exact rfl))
               refine hK _ ?_
               clear hK K))
          refine slotG_end ?_
          intro wy u hby hall
          have hrd := hall.1.1
          have hty := hall.1.2
          obtain ⟨vj, hvj⟩ : ∃ v, v = u 10 := ⟨_, rfl⟩
          rw [← hvj] at hrd hty ⊢
          obtain ⟨ja, jc, hjf⟩ := hrd.form
          have bwy := BC_trans H8.out.2.2.1 hby
          have q2 := BC_blk1 bwy HR.out.1
          have f2 := free_row q2 r
          have dd := d0 ⟨wy, hby⟩
          dsimp only at dd
          have t2 := know_stored (r := r) vj q2
          have hsl := HR.out.2.1.sl q2
          have hbt := but_store wy g2 r vj
          have tb : BC w (wy.setCell ⟨g2, r, none⟩ vj) := Below.setCell (BC_trans HR.out.2.2.2.2.2.2.2.2.1 bwy) HA.out.2.2.2.2 _
          have tk : KnowOk (wy.setCell ⟨g2, r, none⟩ vj) (kn.set r vj) ((histK ds i).1.set r jn) := ((HR.out.2.1.to bwy).but hbt hsl q2 (by decide)).set HQ.out.2.2.1 HS.out.2 (hrd.but hbt hsl (vecR_sl _)) (hty.but hbt q2 (by decide))
          have hlow : g2 < W3.heap.size := blk_lt H3.out.2.2.2.1
          have to : OwnG shEv W3.heap.size (wy.setCell ⟨g2, r, none⟩ vj) u5 (evR qs) := ownsRow_setCell_below (HR.out.2.2.1.below bwy) hlow vj
          have tg : GoodE (wy.setCell ⟨g2, r, none⟩ vj).heap.size (wy.setCell ⟨g2, r, none⟩ vj) qs ∧ GoodT (wy.setCell ⟨g2, r, none⟩ vj) qs := ⟨(HR.out.2.2.2.1.1.to bwy).but hbt hsl, (HR.out.2.2.2.1.2.to bwy).but hbt q2 (by decide)⟩
          have t3 := hbt.blk (BC_blk1 bwy HR.out.2.2.2.2.2.2.1) hne3
          have t1 := hbt.blk (BC_blk1 bwy HR.out.2.2.2.2.2.2.2.1) hne
          have HT := bx (And.intro t2 (And.intro tk (And.intro to (And.intro tg (And.intro t3 (And.intro t1 tb))))))
          clear t2 tk to tg t3 t1 tb hbt hsl hlow bwy q2 hrd hty hall hby hvj d0 d2 c0 c1 c2 c3 c4 c5 c0' c3' e2
          subst hjf
          go_wp2_with fail
          go_roundw
          case rel => exact ⟨I1, _, qs, by have := HI.out; omega, by have := HI.out; omega, rfl, HT.out.1, by rw [HS.out.1]; exact HT.out.2.1, HT.out.2.2.1, HT.out.2.2.2.1, by rw [HS.out.1]; exact HR.out.2.2.2.2.1, by have := HR.out.2.2.2.2.2.1; have := HI.out.1; omega, HT.out.2.2.2.2.1, HT.out.2.2.2.2.2.1, HT.out.2.2.2.2.2.2⟩
          case measure => have := HI.out; simp [intOf]; omega
        | false =>
          obtain ⟨p, hp⟩ : ∃ p, p = d.path % 4 := ⟨_, rfl⟩
          have hp4 : p < 4 := by omega
          have p0 : (0 : Int) ≤ (p : Int) := by omega
          have p1 : (p : Int) < 4 := by omega
          obtain ⟨q, hq⟩ : ∃ q, q = getF kr (r : Int) := ⟨_, rfl⟩
          have hqb := getF_bounds kr (r : Int)
          rw [← hq] at hqb
          obtain ⟨q1, hq1⟩ : ∃ x, x = q + 1 := ⟨_, rfl⟩
          have s2 : IntKind.i64.wrap (q + 1) = q1 := by rw [IntKind.wrap_i64]; omega
          obtain ⟨z, hz⟩ : ∃ z : Int, z = (d.size : Int) := ⟨_, rfl⟩
          have s3 : IntKind.i64.wrap z = z := by rw [hz]; exact wrap8 d.size HI.out.2.2.1.2.2.2
          obtain ⟨ph, hph⟩ : ∃ x, x = pathB p := ⟨_, rfl⟩
          have d3 : ∀ x : HW (BC W8), x.w.cell? ⟨g3, p, none⟩ = some (.string ph) := fun x => by rw [hph]; exact cell_row (BC_blk1 (BC_trans H8.out.2.2.1 x.h) HR.out.2.2.2.2.2.2.1) p (pathC_get p hp4)
          rw [← hz] at c5
          have HG : Bx (∀ x : HW (BC W8), Calls Tryd.prog 26 #[vr, .int .i64 (r : Int)] x.w fun e w' => e = .returned (.int .i64 q) ∧ Below x.w.heap.size x.w w') := bx fun x => by
            rw [hq]
            exact rget_any vr kr (r : Int) x.w (HQ.out.2.2.2.2.2.2.1.to x.h) (by have := HQ.out.2.2.2.2.2.1; omega)
          have hle : d.learns = false := hlr.symm
          obtain ⟨ZE, hZE⟩ : ∃ C, C = zEv.cells := ⟨_, rfl⟩
          have HZE := bx hZE
          clear hZE
          obtain ⟨va, vc, hvf⟩ := HQ.out.2.2.2.2.2.2.1.form
          obtain ⟨vl, hvl⟩ : ∃ l, l = (vecR kr).length := ⟨_, rfl⟩
          rw [← hvl] at hvf
          subst hvf
          clear hvl
          have HP := bx (And.intro hp (And.intro hq (And.intro hq1 (And.intro hz (And.intro hph hle)))))
          have e3 : (IntKind.i64.wrap (d.path : Int)).tmod 4 = (p : Int) := by rw [hp]; exact rem4w d.path HI.out.2.2.1.2.2.1
          clear hp hp4 hq hqb hq1 hz hph hle hlr
          go_upto_region 11 with fail
          refine wp_region_slotsT 26 (by kernel_rfl) (by kernel_rfl) (by kernel_rfl) (by kernel_rfl) (by kernel_rfl) (by kernel_rfl) [none, none, none, none, none, none, none, none, none, none, none, none, none, none, none, none, none, none, none, none, none, none, none, none, none, some (NewAt ZE 38 W8.heap.size)] ?_
          simp only [List.take_succ_cons, List.take_zero, List.drop_succ_cons, List.drop_zero]
          repeat (first
            | (refine slotG_oneN (fun K hK => ?_)
               apply Exists.intro
               refine ⟨fun x u hF => ?_, ?_⟩
               (focus (go_simp
                       first
                         | (exact rfl)
                         | (exact ⟨rfl, BC_refl _⟩)
                         | (go_at_call 26; exact HG.out x)))
               apply Exists.intro
               refine ⟨fun u => ?_, ?_⟩
               (focus (go_simp; try exact rfl))
               refine hK _ ?_
               clear hK K))
          refine slotG_someN (i := 25) (fun v w w' hb h => NewAt.to hb h) (fun K hK => ?_)
          refine ⟨fun x u hF => ?_, ?_⟩
          focus
            go_simp
            refine ⟨⟨_, rfl, ?_, x.h.size⟩, below1 _ _⟩
            rw [HZE.out]
            exact heap_alloc_new _ _
          apply Exists.intro
          refine ⟨fun u => ?_, ?_⟩
          (focus (go_simp; try exact rfl))
          refine hK _ ?_
          clear hK K
          refine slotG_end ?_
          intro wy u hby hall
          obtain ⟨b, hb1, hb2, hb3⟩ := hall.1
          rw [hb1]
          obtain ⟨E1, hE1⟩ : ∃ E : Ev, E = { dot := ((r : Int), q1), deps := kr, kind := 1, path := ph, sum := z :: List.replicate 31 0, size := z } := ⟨_, rfl⟩
          obtain ⟨EC, hEC⟩ : ∃ C, C = (evC (E1, .slice va vl vc)).toArray := ⟨_, rfl⟩
          have hECz : EC.size = 38 := by rw [hEC, hE1]; rfl
          have hEC1 : EC.all (·.oneCell') = true := by rw [hEC]; exact Array.all_eq_true_iff_forall_mem.2 (fun v hv => evC_one rfl v (by simpa using hv))
          obtain ⟨W11, hW11⟩ : ∃ W, W = wy.setRow b EC := ⟨_, rfl⟩
          have n11 := setRow_heap wy b ZE EC _ _ hb2
          have b11 : BC W8 W11 := by rw [hW11]; exact below_row hby hb3 EC
          rw [← hW11] at n11
          have c4' : W11.cell? ⟨g8, 4, none⟩ = some (.bool d.gone) := c4 ⟨W11, b11⟩
          have HE := bx (And.intro hE1 (And.intro hEC (And.intro hECz (And.intro hEC1 (And.intro hW11 (And.intro hb2 (And.intro n11 (And.intro b11 hb3))))))))
          have hECl : (Value.agg #[.int .i64 (r : Int), .int .i64 q1, .slice va vl vc, .int .i64 1, .string ph, .int .u8 z, .int .u8 0, .int .u8 0, .int .u8 0, .int .u8 0, .int .u8 0, .int .u8 0, .int .u8 0, .int .u8 0, .int .u8 0, .int .u8 0, .int .u8 0, .int .u8 0, .int .u8 0, .int .u8 0, .int .u8 0, .int .u8 0, .int .u8 0, .int .u8 0, .int .u8 0, .int .u8 0, .int .u8 0, .int .u8 0, .int .u8 0, .int .u8 0, .int .u8 0, .int .u8 0, .int .u8 0, .int .u8 0, .int .u8 0, .int .u8 0, .int .u8 0, .int .i64 z]) = .agg EC := by rw [hEC, hE1]; rfl
          have HEL := bx hECl
          clear hE1 hEC hECz hEC1 hW11 n11 b11 hECl hall hb1 hb2 hb3 hby c0 c1 c2 c3 c4 c5 c0' c3' d3 e3
          go_upto_region 12 with (refine wpList_store_rowTo rfl 38 _ _ rfl rfl _ EC rfl HEL.out 38 ZE HE.out.2.2.2.2.2.1 (by rw [HE.out.2.2.1]; kernel_rfl) (by rw [HE.out.2.2.1, HZE.out]; kernel_rfl) HE.out.2.2.2.1 ?_)
          rw [← HE.out.2.2.2.2.1]
          obtain ⟨gn, hgn⟩ : ∃ x, x = d.gone := ⟨_, rfl⟩
          rw [← hgn] at c4'
          have HGN := bx hgn
          clear hgn
          cases gn
          case' false =>
            go_upto_region 16 with fail
            obtain ⟨ev, hev⟩ : ∃ e, e = E1 := ⟨_, rfl⟩
            obtain ⟨W15, hW15⟩ : ∃ W, W = W11 := ⟨_, rfl⟩
            have hevE : ev = evH kr d := by
              rw [hev, HE.out.1]
              unfold evH
              rw [← HGN.out, ← HQ.out.1, ← HP.out.2.1, ← HP.out.2.2.1, ← HP.out.1, ← HP.out.2.2.2.2.1, ← HP.out.2.2.2.1]
              rfl
            have hev0 : ev.dot = ((r : Int), q1) ∧ ev.deps = kr ∧ ev.sum.length = 32 := by rw [hev, HE.out.1]; exact ⟨rfl, rfl, rfl⟩
            have n15 : W15.heap[b]? = some (.cells (evC (ev, .slice va vl vc)).toArray 38 (0, 0)) := by rw [hW15, hev, ← HE.out.2.1]; exact HE.out.2.2.2.2.2.2.1
            have b15 : BC W8 W15 := by rw [hW15]; exact HE.out.2.2.2.2.2.2.2.1
            have H15 := bx (And.intro hevE (And.intro hev0.1 (And.intro hev0.2.1 (And.intro hev0.2.2 (And.intro n15 (And.intro b15 HE.out.2.2.2.2.2.2.2.2))))))
            rw [← hW15]
            clear hev hW15 hevE hev0 n15 b15 c4' HEL HE HGN HZE
          case' true =>
            obtain ⟨E2, hE2⟩ : ∃ E : Ev, E = { dot := ((r : Int), q1), deps := kr, kind := 2, path := ph, sum := z :: List.replicate 31 0, size := z } := ⟨_, rfl⟩
            obtain ⟨ev, hev⟩ : ∃ E : Ev, E = { dot := ((r : Int), q1), deps := kr, kind := 2, path := ph, sum := List.replicate 32 0, size := 0 } := ⟨_, rfl⟩
            have n11 := HE.out.2.2.2.2.2.2.1
            have f11 := free_row n11 3
            have k11 := cell_row n11 3 (v := .int .i64 1) (by rw [HE.out.2.1, HE.out.1]; rfl)
            have hb13 := but_store W11 b 3 (.int .i64 2)
            have n13 : (W11.setCell ⟨b, 3, none⟩ (.int .i64 2)).heap[b]? = some (.cells (evC (E2, .slice va vl vc)).toArray 38 (0, 0)) := by
              rw [Go.heap_setCell_same W11 b 3 _ _ _ n11, HE.out.2.1, HE.out.1, hE2]
              rfl
            obtain ⟨W13, hW13⟩ : ∃ W, W = W11.setCell ⟨b, 3, none⟩ (.int .i64 2) := ⟨_, rfl⟩
            rw [← hW13] at n13 hb13
            have b13 : BC W8 W13 := hb13.below _ _ HE.out.2.2.2.2.2.2.2.2 (show Below W8.heap.size W8 W11 from HE.out.2.2.2.2.2.2.2.1).size HE.out.2.2.2.2.2.2.2.1
            have H13 := bx (And.intro hW13 (And.intro n13 (And.intro b13 (show 5 + 32 ≤ (evC (E2, .slice va vl vc)).length by rw [hE2, evC_len (by simp)]; decide))))
            clear hW13 n13 b13 hb13 n11
            go_upto_region 14 with fail
            rw [← H13.out.1]
            go_upto_region 15 with ((with_reducible refine wl_store_part (o := ⟨none, _, _, _, _, _⟩) ?_ 36 (.tmp 73) (.tmp 72) ?_ ?_ b 5 (List.replicate 32 (Value.int .u8 0)).toArray ?_ ?_ ?_ ?_ H13.out.2.1 ?_ ?_); (focus rfl); (focus rfl); (focus rfl); (focus rfl); (focus rfl); (focus kernel_rfl); (focus kernel_rfl); (focus exact H13.out.2.2.2); intro W14 n14 hb14)
            obtain ⟨E3, hE3⟩ : ∃ E : Ev, E = { dot := ((r : Int), q1), deps := kr, kind := 2, path := ph, sum := List.replicate 32 0, size := z } := ⟨_, rfl⟩
            have n14' : W14.heap[b]? = some (.cells (evC (E3, .slice va vl vc)).toArray 38 (0, 0)) := by
              rw [n14, hE2, hE3]
              rfl
            have f14 := free_row n14' 37
            have k14 := cell_row n14' 37 (v := .int .i64 z) (by rw [hE3]; rfl)
            have hb15 := but_store W14 b 37 (.int .i64 0)
            have n15 : (W14.setCell ⟨b, 37, none⟩ (.int .i64 0)).heap[b]? = some (.cells (evC (ev, .slice va vl vc)).toArray 38 (0, 0)) := by
              rw [Go.heap_setCell_same W14 b 37 _ _ _ n14', hE3, hev]
              rfl
            obtain ⟨W15, hW15⟩ : ∃ W, W = W14.setCell ⟨b, 37, none⟩ (.int .i64 0) := ⟨_, rfl⟩
            rw [← hW15] at n15 hb15
            have b14 : BC W8 W14 := hb14.below _ _ HE.out.2.2.2.2.2.2.2.2 (show Below W8.heap.size W8 W13 from H13.out.2.2.1).size H13.out.2.2.1
            have b15 : BC W8 W15 := hb15.below _ _ HE.out.2.2.2.2.2.2.2.2 (show Below W8.heap.size W8 W14 from b14).size b14
            have hevE : ev = evH kr d := by
              rw [hev]
              unfold evH
              rw [← HGN.out, ← HQ.out.1, ← HP.out.2.1, ← HP.out.2.2.1, ← HP.out.1, ← HP.out.2.2.2.2.1]
              rfl
            have hev0 : ev.dot = ((r : Int), q1) ∧ ev.deps = kr ∧ ev.sum.length = 32 := by rw [hev]; exact ⟨rfl, rfl, by simp⟩
            have H15 := bx (And.intro hevE (And.intro hev0.1 (And.intro hev0.2.1 (And.intro hev0.2.2 (And.intro n15 (And.intro b15 HE.out.2.2.2.2.2.2.2.2))))))
            have HW15 := bx hW15
            clear hev hW15 hevE hev0 n15 b15 c4' HEL HE HGN HZE H13 hE2 hE3 hb15 b14 n14 n14' hb14 f11 k11
            go_upto_region 16 with fail
            rw [← HW15.out]
            clear HW15 f14 k14
          all_goals
            focus
              have HFD : Bx (∀ x : HW (BC W15), x.w.rangeAt b 0 (#[Value.int .i64 (r : Int), Value.int .i64 q1] : Array Value).toList) := bx fun x j u hj => by
                have hx := BC_blk1 x.h H15.out.2.2.2.2.1
                match j, hj with
                | 0, hj => exact cell_row hx _ (by rw [← hj]; unfold evC; rw [H15.out.2.1]; rfl)
                | 1, hj => exact cell_row hx _ (by rw [← hj]; unfold evC; rw [H15.out.2.1]; rfl)
              obtain ⟨CD, hCD⟩ : ∃ C, C = (#[Value.int .i64 (r : Int), Value.int .i64 q1] : Array Value) := ⟨_, rfl⟩
              have HCD := bx (And.intro hCD (show CD.size = 2 by rw [hCD]; rfl))
              rw [← hCD] at HFD
              have d1 : ∀ x : HW (BC W15), x.w.cell? ⟨g2, r, none⟩ = some (.slice va vl vc) := fun x => d0 ⟨x.w, BC_trans H15.out.2.2.2.2.2.1 x.h⟩
              obtain ⟨wn, hwn⟩ : ∃ l, l = withF kr ((r : Int), q1) := ⟨_, rfl⟩
              have HW' : Bx (∀ x : HW (BC W15), Calls Tryd.prog 27 #[.slice va vl vc, .agg CD] x.w fun e w' => ∃ v', e = .returned v' ∧ RdG 2 w'.heap.size w' v' (vecR wn) ∧ Below x.w.heap.size x.w w' ∧ TyB 34 w' v') := bx fun x => by
                rw [hwn, hCD]
                exact rwith_any _ kr ((r : Int), q1) x.w (HQ.out.2.2.2.2.2.2.1.to (BC_trans H15.out.2.2.2.2.2.1 x.h)) (by have := HQ.out.2.2.2.2.2.1; omega)
              have hst2 : histK ds I1 = ((histK ds i).1.set r wn, (histK ds i).2 ++ [ev]) := by
                rw [HI.out.2.1, stepH, if_neg (by rw [HP.out.2.2.2.2.2]; exact Bool.false_ne_true), ← HQ.out.1, ← HQ.out.2.2.2.2.1, ← H15.out.1, H15.out.2.1, ← hwn]
              have HS := bx (And.intro hst2 (show wn.length ≤ 32 by rw [hwn]; exact ofF_len _))
              clear hCD hwn hst2 d0
              refine wp_region_slotsT 8 (by kernel_rfl) (by kernel_rfl) (by kernel_rfl) (by kernel_rfl) (by kernel_rfl) (by kernel_rfl) [none, none, none, none, none, none, some (fun v w => RdG 2 w.heap.size w v (vecR wn) ∧ TyB 34 w v), none] ?_
              simp only [List.take_succ_cons, List.take_zero, List.drop_succ_cons, List.drop_zero]
              repeat (first
              | ((with_reducible refine slotG_mid (o := ⟨some 80, _, _, _, _, _⟩) 34 (.tmp 79) ?_ ?_ _ _ ?_ CD _ HFD.out Tryd.underlying34 ?_ ?_ ?_); (focus rfl); (focus (exact fun _ => rfl)); (focus (exact fun _ => rfl)); (focus rfl); (focus (rw [HCD.out.2]; kernel_rfl)); apply Exists.intro; refine ⟨fun u => ?_, ?_⟩; (focus (go_simp; try exact rfl)))
              | (refine slotG_oneN (fun K hK => ?_)
                 apply Exists.intro
                 refine ⟨fun x u hF => ?_, ?_⟩
                 (focus (go_simp
                         first
                           | (exact rfl)
                           | (exact ⟨rfl, BC_refl _⟩)))
                 apply Exists.intro
                 refine ⟨fun u => ?_, ?_⟩
                 (focus (go_simp; try exact rfl))
                 refine hK _ ?_
                 clear hK K))
              refine slotG_someN (i := 6) (fun v w w' hb h2 => ⟨h2.1.to hb, h2.2.to hb⟩) (fun K hK => ?_)
              refine ⟨fun x u hF => ?_, ?_⟩
              focus
                go_simp
                go_at_call 27
                refine (HW'.out x).mono ?_
                rintro e w' ⟨v', rfl, h1, h2, h3⟩
                exact ⟨_, rfl, ⟨h1, h3⟩, h2⟩
              apply Exists.intro
              refine ⟨fun u => ?_, ?_⟩
              (focus (go_simp; try exact rfl))
              refine hK _ ?_
              clear hK K
              repeat (first
              | ((with_reducible refine slotG_mid (o := ⟨some 80, _, _, _, _, _⟩) 34 (.tmp 79) ?_ ?_ _ _ ?_ CD _ HFD.out Tryd.underlying34 ?_ ?_ ?_); (focus rfl); (focus (exact fun _ => rfl)); (focus (exact fun _ => rfl)); (focus rfl); (focus (rw [HCD.out.2]; kernel_rfl)); apply Exists.intro; refine ⟨fun u => ?_, ?_⟩; (focus (go_simp; try exact rfl)))
              | (refine slotG_oneN (fun K hK => ?_)
                 apply Exists.intro
                 refine ⟨fun x u hF => ?_, ?_⟩
                 (focus (go_simp
                         first
                           | (exact rfl)
                           | (exact ⟨rfl, BC_refl _⟩)))
                 apply Exists.intro
                 refine ⟨fun u => ?_, ?_⟩
                 (focus (go_simp; try exact rfl))
                 refine hK _ ?_
                 clear hK K))
              refine slotG_end ?_
              intro wz uz hbz hallz
              have hrd := hallz.1.1
              have hty := hallz.1.2
              obtain ⟨vj, hvj⟩ : ∃ v, v = uz 6 := ⟨_, rfl⟩
              rw [← hvj] at hrd hty ⊢
              obtain ⟨ja, jc, hjf⟩ := hrd.form
              have b8z := BC_trans H15.out.2.2.2.2.2.1 hbz
              have brz : BC wr wz := BC_trans (show BC wr W8 from H8.out.2.2.1) b8z
              have q2 := BC_blk1 brz HR.out.1
              have f2 := free_row q2 r
              have dd := d1 ⟨wz, hbz⟩
              dsimp only at dd
              have t2 := know_stored (r := r) vj q2
              have hsl := HR.out.2.1.sl q2
              have hbt := but_store wz g2 r vj
              have tb : BC w (wz.setCell ⟨g2, r, none⟩ vj) := Below.setCell (BC_trans HR.out.2.2.2.2.2.2.2.2.1 brz) HA.out.2.2.2.2 _
              have tk : KnowOk (wz.setCell ⟨g2, r, none⟩ vj) (kn.set r vj) ((histK ds i).1.set r wn) := ((HR.out.2.1.to brz).but hbt hsl q2 (by decide)).set HQ.out.2.2.1 HS.out.2 (hrd.but hbt hsl (vecR_sl _)) (hty.but hbt q2 (by decide))
              have hlow : g2 < W3.heap.size := blk_lt H3.out.2.2.2.1
              have to : OwnG shEv W3.heap.size (wz.setCell ⟨g2, r, none⟩ vj) u5 (evR qs) := ownsRow_setCell_below (HR.out.2.2.1.below brz) hlow vj
              have tg : GoodE (wz.setCell ⟨g2, r, none⟩ vj).heap.size (wz.setCell ⟨g2, r, none⟩ vj) (qs ++ [(ev, .slice va vl vc)]) := fun q hq => by
                rcases List.mem_append.1 hq with h | h
                · exact ((HR.out.2.2.2.1.1.to brz).but hbt hsl) q h
                · rw [List.mem_singleton.1 h]
                  refine ⟨H15.out.2.2.2.1, by show ev.deps.length ≤ 1000; rw [H15.out.2.2.1]; have := HQ.out.2.2.2.2.2.1; omega, ?_⟩
                  show RdG 2 _ _ _ (vecR ev.deps)
                  rw [H15.out.2.2.1]
                  exact (HQ.out.2.2.2.2.2.2.1.to b8z).but hbt hsl (vecR_sl _)
              have tt : GoodT (wz.setCell ⟨g2, r, none⟩ vj) (qs ++ [(ev, .slice va vl vc)]) := fun q hq => by
                rcases List.mem_append.1 hq with h | h
                · exact ((HR.out.2.2.2.1.2.to brz).but hbt q2 (by decide)) q h
                · rw [List.mem_singleton.1 h]
                  exact (HQ.out.2.2.2.2.2.2.2.to b8z).but hbt q2 (by decide)
              have t3 := hbt.blk (BC_blk1 brz HR.out.2.2.2.2.2.2.1) hne3
              have t1 := hbt.blk (BC_blk1 brz HR.out.2.2.2.2.2.2.2.1) hne
              have hneb : b ≠ g2 := by have := blk_lt HR.out.1; have := (show Below wr.heap.size wr W8 from H8.out.2.2.1).size; have := H15.out.2.2.2.2.2.2; omega
              have te := hbt.blk (BC_blk1 hbz H15.out.2.2.2.2.1) hneb
              obtain ⟨WT, hWT⟩ : ∃ W, W = wz.setCell ⟨g2, r, none⟩ vj := ⟨_, rfl⟩
              rw [← hWT] at t2 tb tk to tg tt t3 t1 te
              obtain ⟨CE, hCE⟩ : ∃ C, C = (evC (ev, .slice va vl vc)).toArray := ⟨_, rfl⟩
              have hCEz : CE.size = 38 := by rw [hCE]; simpa using evC_len H15.out.2.2.2.1
              rw [← hCE] at te
              have hqm : (evR qs).length ≤ 4000000 := by have := HR.out.2.2.2.2.2.1; have := HR.out.2.2.2.2.2.2.2.2.2.2; simp [evR]; omega
              have hbs : W3.heap.size ≤ WT.heap.size := by have h1 := blk_lt t3; have h2 := H3.out.2.1; rw [H3.out.1]; simp only [World.alloc, Array.size_push]; omega
              obtain ⟨WU, hWU⟩ : ∃ W, W = WT.alloc (.cells CE 38) := ⟨_, rfl⟩
              have nU := heap_alloc_new WT (.cells CE 38)
              have bU := below1 WT (.cells CE 38)
              rw [← hWU] at nU bU
              have hrU : WU.rangeAt WT.heap.size 0 (evC (ev, .slice va vl vc)) := fun j u hj => by
                rw [Nat.zero_add]
                refine cell_row nU j ?_
                rw [hCE, List.getElem?_toArray]
                exact hj
              have hone : ∀ u ∈ evC (ev, .slice va vl vc), u.oneCell' = true := evC_one rfl
              have HT := bx (And.intro hWT (And.intro hCE (And.intro hCEz (And.intro te (And.intro hqm (And.intro hWU (And.intro hrU (And.intro bU (And.intro (to.below bU) (And.intro (Nat.le_trans hbs bU.size) (And.intro hone (show (evC (ev, .slice va vl vc)).length = shEv.n from evC_len H15.out.2.2.2.1))))))))))))
              have HTT := bx (And.intro (BC_blk1 bU t2) (And.intro (tk.to bU) (And.intro (And.intro (tg.to bU) (tt.to bU)) (And.intro (BC_blk1 bU t3) (And.intro (BC_blk1 bU t1) (BC_trans tb bU))))))
              have HCs := bx (show (Value.agg CE).cells.size = shEv.n from hCEz)
              subst hjf
              clear hvj t2 tk to tg tt hty t3 t1 tb te hbt hsl hlow brz b8z q2 hrd hallz hbz d1 hneb hWT hCE hCEz hqm hbs hWU nU bU hrU hone
              go_upto_region 17 with fail
              rw [← HT.out.1]
              go_wp2_with (first
                | ((with_reducible refine wlw_load_row (o := ⟨some 84, _, _, _, _, _⟩) ?_ 38 (.tmp 10) ?_ _ ?_ _ CE _ _ HT.out.2.2.2.1 Tryd.underlying38 ?_ ?_ ?_); (focus rfl); (focus rfl); (focus rfl); (focus rfl); (focus (rw [HT.out.2.2.1]; kernel_rfl)))
                | ((with_reducible refine wl_build1G shEv shEv_ok (o := ⟨some 85, _, _, _, _, _⟩) ?_ (.tmp 84) ?_ (.agg CE) ?_ HCs.out ?_); (focus rfl); (focus rfl); (focus rfl); show wpList _ _ _ _ _ (WT.alloc (.cells CE 38)); rw [← HT.out.2.2.2.2.2.1])
                | ((with_reducible refine wl_append1T shEv shEv_ok (o := ⟨some 86, _, _, _, _, _⟩) ?_ (.tmp 83) (.tmp 85) ?_ W3.heap.size _ (evR qs) ?_ HT.out.2.2.2.2.2.2.2.2.1 WT.heap.size 0 1 ?_ (evC (ev, .slice va vl vc)) HT.out.2.2.2.2.2.2.1 HT.out.2.2.2.2.2.2.2.2.2.2.2 HT.out.2.2.2.2.2.2.2.2.2.2.1 HT.out.2.2.2.2.1 HT.out.2.2.2.2.2.2.2.2.2.1 ?_); (focus rfl); (focus rfl); (focus rfl); (focus rfl); intro v5 w5 own5 gb5 b5))
              have hu5 : TyB 38 WU u5 := HT.out.2.2.2.2.2.2.2.2.1.ty
              have x1 : w5.heap[g2]? = some (.cells (kn.set r (.slice ja (vecR wn).length jc)).toArray 27 (0, 0)) := (b5.block g2 (blk_lt H3.out.2.2.2.1)).trans HTT.out.1
              have x2 := (HTT.out.2.1).grown hu5 gb5 (by decide)
              have x3 := (HTT.out.2.2.1.1).grown HTT.out.2.2.1.2 hu5 gb5 (by decide)
              have x4 := (HTT.out.2.2.1.2).grown hu5 gb5 (by decide)
              have x5 := (b5.block g3 (blk_lt H3.out.2.2.1)).trans HTT.out.2.2.2.1
              have x6 := (b5.block g1 (blk_lt H3.out.2.2.2.2.2)).trans HTT.out.2.2.2.2.1
              have x7 : BC w w5 := (show Below w.heap.size w WU from HTT.out.2.2.2.2.2).trans (b5.mono (show Below w.heap.size w W3 from H3.out.2.2.2.2.1).size)
              have x8 : OwnG shEv W3.heap.size w5 v5 (evR (qs ++ [(ev, .slice va vl vc)])) := by rw [evR_append]; exact own5
              have x9 : (qs ++ [(ev, Value.slice va vl vc)] : List (Ev × Value)).map (·.1) = (histK ds I1).2 := by rw [HS.out.1, List.map_append, HR.out.2.2.2.2.1]; rfl
              have HX := bx (And.intro x1 (And.intro x2 (And.intro x8 (And.intro (And.intro x3 x4) (And.intro x9 (And.intro x5 (And.intro x6 x7)))))))
              clear x1 x2 x3 x4 x5 x6 x7 x8 x9 hu5 gb5 b5 own5
              go_roundw
              case rel => exact ⟨I1, _, _, by have := HI.out; omega, by have := HI.out; omega, rfl, HX.out.1, by rw [HS.out.1]; exact HX.out.2.1, HX.out.2.2.1, HX.out.2.2.2.1, HX.out.2.2.2.2.1, by have := HR.out.2.2.2.2.2.1; have := HI.out.1; rw [List.length_append, List.length_singleton]; omega, HX.out.2.2.2.2.2.1, HX.out.2.2.2.2.2.2.1, HX.out.2.2.2.2.2.2.2⟩
              case measure => have := HI.out; simp [intOf]; omega
      · have i1 : (i : Int) < (n : Int) := by omega
        have i2 : ¬ (i : Int) < 40 := by omega
        obtain ⟨CK, hCK⟩ : ∃ C, C = kn.toArray := ⟨_, rfl⟩
        have hCz : CK.size = 3 := by rw [hCK]; simpa using HR.out.2.1.1
        have hC1 : CK.all (·.oneCell') = true := by
          rw [hCK]
          refine Array.all_eq_true_iff_forall_mem.2 fun v hv => ?_
          obtain ⟨j, hj, rfl⟩ := List.mem_iff_getElem.1 (show v ∈ kn by simpa using hv)
          obtain ⟨a', c', hf⟩ := (HR.out.2.1.2.2 j (by rw [← HR.out.2.1.1]; exact hj)).2.1.form
          rw [List.getD, List.getElem?_eq_getElem hj, Option.getD_some] at hf
          rw [hf]
          rfl
        have HCK := bx (And.intro hCK (And.intro hCz hC1))
        have HFK : Bx (∀ x : HW (BC wr), x.w.heap[g2]? = some (.cells CK 27 (0, 0))) := bx fun x => by
          rw [hCK]
          exact BC_blk1 x.h HR.out.1
        clear hCK hCz hC1
        go_upto_region 18 with fail
        refine wp_region_slotsT 3 (by kernel_rfl) (by kernel_rfl) (by kernel_rfl) (by kernel_rfl) (by kernel_rfl) (by kernel_rfl) [none, none, none] ?_
        simp only [List.take_succ_cons, List.take_zero, List.drop_succ_cons, List.drop_zero]
        repeat (first
          | ((with_reducible refine slotG_row (o := ⟨some 88, _, _, _, _, _⟩) 27 (.tmp 4) ?_ ?_ _ ?_ _ CK _ _ HFK.out Tryd.underlying27 ?_ ?_ ?_); (focus rfl); (focus (exact fun _ => rfl)); (focus (exact fun _ => rfl)); (focus rfl); (focus (rw [HCK.out.2.1]; kernel_rfl)); apply Exists.intro; refine ⟨fun u => ?_, ?_⟩; (focus (go_simp; try exact rfl)))
          | (refine slotG_oneN (fun K hK => ?_)
             apply Exists.intro
             refine ⟨fun x u hF => ?_, ?_⟩
             (focus (go_simp
                     first
                       | (exact rfl)
                       | (exact ⟨rfl, BC_refl _⟩)))
             apply Exists.intro
             refine ⟨fun u => ?_, ?_⟩
             (focus (go_simp; try exact rfl))
             refine hK _ ?_
             clear hK K))
        refine slotG_end ?_
        intro wy u hby hall
        have q1 := BC_blk1 hby HR.out.2.2.2.2.2.2.2.1
        have hbt : But g1 wy (wy.setRow g1 CK) := But.of_store (fun k hk => setRow_other wy g1 k CK hk) (fun B w0 hB hb => below_row hb hB CK)
        have n1 := setRow_heap wy g1 zKn CK _ _ q1
        have hsl : ∀ j u, wy.cell? ⟨g1, j, none⟩ = some u → slB u = true := fun j u hj => by
          rw [cell_of_row wy g1 j _ _ _ q1] at hj
          unfold zKn at hj
          match j, hj with
          | 0, hj => cases hj; rfl
          | 1, hj => cases hj; rfl
          | 2, hj => cases hj; rfl
        have x3 : GoodE (wy.setRow g1 CK).heap.size (wy.setRow g1 CK) qs := (HR.out.2.2.2.1.1.to hby).but hbt hsl
        have hlow : g1 < W3.heap.size := blk_lt H3.out.2.2.2.2.2
        have x4 : RdG 38 (wy.setRow g1 CK).heap.size (wy.setRow g1 CK) u5 (evR qs) := by
          have hob : OwnG shEv W3.heap.size wy u5 (evR qs) := HR.out.2.2.1.below hby
          have ho : OwnG shEv W3.heap.size (wy.setRow g1 CK) u5 (evR qs) := by
            obtain ⟨y1, y2 | ⟨gb, cap, cur, rfl, hb', hgb, rest⟩⟩ := hob
            · exact ⟨y1, .inl y2⟩
            · exact ⟨y1, .inr ⟨gb, cap, cur, rfl, hb', hbt.blk hgb (fun e => by rw [e] at hb'; omega), rest⟩⟩
          exact ho.rd (evR_n x3)
        have x5 : Below w.heap.size w (wy.setRow g1 CK) := below_row (BC_trans HR.out.2.2.2.2.2.2.2.2.1 hby) (by rw [HM.out.2.2.1]; exact Nat.le_refl _) CK
        have x6 : qs.map (·.1) = histF ds := by
          rw [HR.out.2.2.2.2.1, histF]
          congr 2
          have h1 := HV.out.2.1
          have h2 := HR.out.2.2.2.2.2.2.2.2.2.1
          have h3 := HR.out.2.2.2.2.2.2.2.2.2.2
          split <;> omega
        have HX := bx (And.intro (And.intro x3 x4) (And.intro x6 (And.intro x5 (And.intro q1 n1))))
        clear x3 x4 x5 x6 q1 n1 hsl hbt hlow hall hby
        go_wp2_with (refine wpList_store_rowTo rfl 27 _ _ rfl rfl _ CK rfl rfl 27 zKn HX.out.2.2.2.1 (by rw [HCK.out.2.1]; kernel_rfl) (by rw [HCK.out.2.1]; kernel_rfl) HCK.out.2.2 ?_)
        exact bodyPost_ret (results_tmp_row (p := 3) (u := 2) (by kernel_rfl) _ _ _ _ _ _ _ rfl HX.out.2.2.2.2 Tryd.underlying27 rfl (by rw [HCK.out.2.1]; kernel_rfl)) rfl ⟨_, CK, qs, rfl, HCK.out.2, HX.out.1, HX.out.2.1, HX.out.2.2.1⟩
    · have i1 : ¬ (i : Int) < (n : Int) := by omega
      obtain ⟨CK, hCK⟩ : ∃ C, C = kn.toArray := ⟨_, rfl⟩
      have hCz : CK.size = 3 := by rw [hCK]; simpa using HR.out.2.1.1
      have hC1 : CK.all (·.oneCell') = true := by
        rw [hCK]
        refine Array.all_eq_true_iff_forall_mem.2 fun v hv => ?_
        obtain ⟨j, hj, rfl⟩ := List.mem_iff_getElem.1 (show v ∈ kn by simpa using hv)
        obtain ⟨a', c', hf⟩ := (HR.out.2.1.2.2 j (by rw [← HR.out.2.1.1]; exact hj)).2.1.form
        rw [List.getD, List.getElem?_eq_getElem hj, Option.getD_some] at hf
        rw [hf]
        rfl
      have HCK := bx (And.intro hCK (And.intro hCz hC1))
      have HFK : Bx (∀ x : HW (BC wr), x.w.heap[g2]? = some (.cells CK 27 (0, 0))) := bx fun x => by
        rw [hCK]
        exact BC_blk1 x.h HR.out.1
      clear hCK hCz hC1
      go_upto_region 18 with fail
      refine wp_region_slotsT 3 (by kernel_rfl) (by kernel_rfl) (by kernel_rfl) (by kernel_rfl) (by kernel_rfl) (by kernel_rfl) [none, none, none] ?_
      simp only [List.take_succ_cons, List.take_zero, List.drop_succ_cons, List.drop_zero]
      repeat (first
        | ((with_reducible refine slotG_row (o := ⟨some 88, _, _, _, _, _⟩) 27 (.tmp 4) ?_ ?_ _ ?_ _ CK _ _ HFK.out Tryd.underlying27 ?_ ?_ ?_); (focus rfl); (focus (exact fun _ => rfl)); (focus (exact fun _ => rfl)); (focus rfl); (focus (rw [HCK.out.2.1]; kernel_rfl)); apply Exists.intro; refine ⟨fun u => ?_, ?_⟩; (focus (go_simp; try exact rfl)))
        | (refine slotG_oneN (fun K hK => ?_)
           apply Exists.intro
           refine ⟨fun x u hF => ?_, ?_⟩
           (focus (go_simp
                   first
                     | (exact rfl)
                     | (exact ⟨rfl, BC_refl _⟩)))
           apply Exists.intro
           refine ⟨fun u => ?_, ?_⟩
           (focus (go_simp; try exact rfl))
           refine hK _ ?_
           clear hK K))
      refine slotG_end ?_
      intro wy u hby hall
      have q1 := BC_blk1 hby HR.out.2.2.2.2.2.2.2.1
      have hbt : But g1 wy (wy.setRow g1 CK) := But.of_store (fun k hk => setRow_other wy g1 k CK hk) (fun B w0 hB hb => below_row hb hB CK)
      have n1 := setRow_heap wy g1 zKn CK _ _ q1
      have hsl : ∀ j u, wy.cell? ⟨g1, j, none⟩ = some u → slB u = true := fun j u hj => by
        rw [cell_of_row wy g1 j _ _ _ q1] at hj
        unfold zKn at hj
        match j, hj with
        | 0, hj => cases hj; rfl
        | 1, hj => cases hj; rfl
        | 2, hj => cases hj; rfl
      have x3 : GoodE (wy.setRow g1 CK).heap.size (wy.setRow g1 CK) qs := (HR.out.2.2.2.1.1.to hby).but hbt hsl
      have hlow : g1 < W3.heap.size := blk_lt H3.out.2.2.2.2.2
      have x4 : RdG 38 (wy.setRow g1 CK).heap.size (wy.setRow g1 CK) u5 (evR qs) := by
        have hob : OwnG shEv W3.heap.size wy u5 (evR qs) := HR.out.2.2.1.below hby
        have ho : OwnG shEv W3.heap.size (wy.setRow g1 CK) u5 (evR qs) := by
          obtain ⟨y1, y2 | ⟨gb, cap, cur, rfl, hb', hgb, rest⟩⟩ := hob
          · exact ⟨y1, .inl y2⟩
          · exact ⟨y1, .inr ⟨gb, cap, cur, rfl, hb', hbt.blk hgb (fun e => by rw [e] at hb'; omega), rest⟩⟩
        exact ho.rd (evR_n x3)
      have x5 : Below w.heap.size w (wy.setRow g1 CK) := below_row (BC_trans HR.out.2.2.2.2.2.2.2.2.1 hby) (by rw [HM.out.2.2.1]; exact Nat.le_refl _) CK
      have x6 : qs.map (·.1) = histF ds := by
        rw [HR.out.2.2.2.2.1, histF]
        congr 2
        have h1 := HV.out.2.1
        have h2 := HR.out.2.2.2.2.2.2.2.2.2.1
        have h3 := HR.out.2.2.2.2.2.2.2.2.2.2
        split <;> omega
      have HX := bx (And.intro (And.intro x3 x4) (And.intro x6 (And.intro x5 (And.intro q1 n1))))
      clear x3 x4 x5 x6 q1 n1 hsl hbt hlow hall hby
      go_wp2_with (refine wpList_store_rowTo rfl 27 _ _ rfl rfl _ CK rfl rfl 27 zKn HX.out.2.2.2.1 (by rw [HCK.out.2.1]; kernel_rfl) (by rw [HCK.out.2.1]; kernel_rfl) HCK.out.2.2 ?_)
      exact bodyPost_ret (results_tmp_row (p := 3) (u := 2) (by kernel_rfl) _ _ _ _ _ _ _ rfl HX.out.2.2.2.2 Tryd.underlying27 rfl (by rw [HCK.out.2.1]; kernel_rfl)) rfl ⟨_, CK, qs, rfl, HCK.out.2, HX.out.1, HX.out.2.1, HX.out.2.2.1⟩
end Go.Proofs.YtagdlbadkmgdmaaDoor
