/- Slices of digests: slices that are read, slices of the call's own and 'append' to them; slices.Index and slices.Contains of digests; gather.Wholes. -/
import Derived.Test.YtjnimbhecfpnmaaRowP
import Derived.Test.YtjnimbhecfpnmaaAwake19
import Derived.ChangeArms
import Derived.Deep.Cut
namespace Go.Proofs.Ytjnimbhecfpnmaa
section -- Dig
set_option maxRecDepth 100000
open Go.ChangeShapes Go.WideShapes Go.ChangeAt Go.RowKit

def dC (d : List Int) : List Value := d.map (Value.int .u8)
def flatD (ds : List (List Int)) : List Value := ds.flatMap dC
theorem flatD_cons (d : List Int) (ds : List (List Int)) : flatD (d :: ds) = dC d ++ flatD ds := rfl
theorem flatD_append (a b : List (List Int)) : flatD (a ++ b) = flatD a ++ flatD b := by simp [flatD]
theorem dC_len {d : List Int} (h : d.length = 32) : (dC d).length = 32 := by simp [dC, h]
theorem flatD_len : ∀ {ds : List (List Int)}, (∀ d ∈ ds, d.length = 32) → (flatD ds).length = ds.length * 32
  | [], _ => rfl
  | d :: ds, h => by
    rw [flatD_cons, List.length_append, dC_len (h d List.mem_cons_self), flatD_len (fun x hx => h x (List.mem_cons_of_mem _ hx)), List.length_cons]
    omega
theorem flatD_get {ds : List (List Int)} (h : ∀ d ∈ ds, d.length = 32) {i : Nat} (hi : i < ds.length) {j : Nat} (hj : j < 32) : (flatD ds)[i * 32 + j]? = (dC ds[i])[j]? := by
  induction ds generalizing i with
  | nil => simp at hi
  | cons d ds ih =>
    have h32 := dC_len (h d List.mem_cons_self)
    rw [flatD_cons]
    cases i with
    | zero =>
      rw [Nat.zero_mul, Nat.zero_add, List.getElem?_append_left (by omega)]
      rfl
    | succ i =>
      rw [List.getElem?_append_right (by omega), h32, show (i + 1) * 32 + j - 32 = i * 32 + j by omega, ih (fun x hx => h x (List.mem_cons_of_mem _ hx)) (by simpa using hi)]
      rfl
theorem dC_one (d : List Int) : ∀ v ∈ dC d, v.oneCell' = true := fun v hv => by
  obtain ⟨x, _, rfl⟩ := List.mem_map.1 hv
  rfl
/-- v is a slice of digests that can be read -/
def RdD (base : Nat) (w : World) (v : Value) (ds : List (List Int)) : Prop :=
  (∀ d ∈ ds, d.length = 32) ∧ ∃ g o, SlV v g o ds.length ∧ w.rangeAt g o (flatD ds) ∧ (0 < ds.length → g < base)
theorem RdD.mono {base base' : Nat} {w : World} {v : Value} {ds : List (List Int)} (h : RdD base w v ds) (hb : base ≤ base') : RdD base' w v ds := by
  obtain ⟨h0, g, o, h1, h2, h3⟩ := h
  exact ⟨h0, g, o, h1, h2, fun h => Nat.lt_of_lt_of_le (h3 h) hb⟩
theorem RdD.below {base : Nat} {w w' : World} {v : Value} {ds : List (List Int)} (h : RdD base w v ds) (hb : Below base w w') : RdD base w' v ds := by
  obtain ⟨h0, g, o, h1, h2, h3⟩ := h
  refine ⟨h0, g, o, h1, fun j u hj => (hb.cell (h3 ?_)).trans (h2 j u hj), h3⟩
  rcases Nat.eq_zero_or_pos ds.length with h | h
  · have : ds = [] := List.eq_nil_of_length_eq_zero h
    subst this
    simp [flatD] at hj
  · exact h
theorem RdD.to {w w' : World} {v : Value} {ds : List (List Int)} (h : RdD w.heap.size w v ds) (hb : Below w.heap.size w w') : RdD w'.heap.size w' v ds := (h.below hb).mono hb.size
theorem RdD.nil (base : Nat) (w : World) : RdD base w (.slice none 0 0) [] := ⟨fun d hd => by simp at hd, 0, 0, ⟨none, 0, rfl, Nat.le_refl _, Nat.zero_le _, fun h => by simp at h, fun _ => rfl⟩, fun j u hj => by simp [flatD] at hj, fun h => by simp at h⟩
theorem RdD.form {base : Nat} {w : World} {v : Value} {ds : List (List Int)} (h : RdD base w v ds) : ∃ a c, v = .slice a ds.length c := by
  obtain ⟨_, _, _, ⟨a, c, rfl, _⟩, _⟩ := h
  exact ⟨a, c, rfl⟩
/-- the i-th digest, as a load meets it -/
theorem rangeD_get {w : World} {g o : Nat} {ds : List (List Int)} (h : w.rangeAt g o (flatD ds)) (h32 : ∀ d ∈ ds, d.length = 32) {i : Nat} (hi : i < ds.length) : w.rangeAt g (o + i * 32) (row .u8 ds[i]).toList := fun j u hj => by
  rw [row_list] at hj
  have hjl : j < 32 := by
    have := (List.getElem?_eq_some_iff.1 hj).1
    rwa [List.length_map, h32 _ (List.getElem_mem hi)] at this
  have := h (i * 32 + j) u (by rw [flatD_get h32 hi hjl]; exact hj)
  rw [show o + i * 32 + j = o + (i * 32 + j) by omega]
  exact this
def zdig : Array Value := row .u8 (List.replicate 32 0)
theorem info_D : (Try.prog.info? 23).map (fun i => (i.zero, i.size, i.bytes)) = some (some (.agg zdig), 32, 32) := by kernel_rfl
theorem zdig_32 : (Value.agg zdig).cells.size = 32 := by kernel_rfl
/-- v is a slice of the call's own, of the digests ds -/
def OwnD (base : Nat) (w : World) (v : Value) (ds : List (List Int)) : Prop := w.ownsRow base 23 32 v ds.length (flatD ds)
theorem OwnD.nil (base : Nat) (w : World) : OwnD base w (.slice none 0 0) [] := World.ownsRow_nil _ _ _ _
theorem OwnD.below {base : Nat} {w w' : World} {v : Value} {ds : List (List Int)} (h : OwnD base w v ds) (hb : Below w.heap.size w w') : OwnD base w' v ds := by
  obtain ⟨h1, h2 | ⟨g, cap, cur, rfl, hb', hg, rest⟩⟩ := h
  · exact ⟨h1, .inl h2⟩
  · exact ⟨h1, .inr ⟨g, cap, cur, rfl, hb', (hb.block g (blk_lt hg)).trans hg, rest⟩⟩
theorem OwnD.block {base : Nat} {w : World} {v : Value} {ds : List (List Int)} (h : OwnD base w v ds) (k : Nat) (hk : v.ownBlock = some k) : base ≤ k := (World.ownsRow.lt h k hk).1
theorem OwnD.rd {base : Nat} {w : World} {v : Value} {ds : List (List Int)} (h : OwnD base w v ds) (hq : ∀ d ∈ ds, d.length = 32) : RdD w.heap.size w v ds := by
  refine ⟨hq, ?_⟩
  obtain ⟨h1, ⟨rfl, h0⟩ | ⟨g, cap, cur, rfl, hb, hg, hn, hc, hs, ht⟩⟩ := h
  · have : ds = [] := List.eq_nil_of_length_eq_zero h0
    subst this
    exact (RdD.nil w.heap.size w).2
  · refine ⟨g, 0, ⟨_, cap, rfl, hn, hc, fun _ => rfl, fun h => by cases h⟩, fun j u hj => ?_, fun _ => blk_lt hg⟩
    rw [cell_of_row w g _ cur _ _ hg, Nat.zero_add]
    rw [← ht, List.getElem?_take] at hj
    split at hj
    · rw [← Array.getElem?_toList]; exact hj
    · cases hj
/-- a slice literal of one digest -/
theorem wp_build1D {o : Oper} {a : Act} {w : World} {K : Act → World → Prop} {Q : Exit → Act → World → Prop} (x : Operand) (ho : o.op = .buildSlice 74 1 #[(0, x)]) (C : Array Value) (hx : a.eval x = .agg C) (hC : C.size = 32)
    (h : K (a.put o.dst (.slice (some ⟨w.heap.size, 0, none⟩) 1 1)) (w.alloc (.cells C 23))) : o.wp Try.prog a w K Q := by
  obtain ⟨i, hi, hz0, hz1, hz2⟩ := info_parts info_D
  refine wp_buildSlice 74 23 1 #[(0, x)] ho C i (.agg zdig) Try.underlying74 hi hz0 (by rw [hz1]; decide) (by rw [hz1]; decide) ?_ h
  have h1 := Great.fill_whole (s := 32) (by decide) [.agg C] ((Array.range (1 * 32)).map ((Value.agg zdig).cells[· % (Value.agg zdig).cells.size]!)) (fun v hv => by rw [List.mem_singleton.1 hv]; exact hC) (by simp)
  rw [hz1]
  simpa [hx, Value.cells] using h1
theorem wl_build1D {ops : Array Oper} {rest : List Oper} {o : Oper} {a : Act} {w : World} {Q : Exit → Act → World → Prop} (hg : o.guard = none) (x : Operand) (ho : o.op = .buildSlice 74 1 #[(0, x)]) (C : Array Value) (hx : a.eval x = .agg C) (hC : C.size = 32)
    (h : wpList Try.prog ops Q rest (a.put o.dst (.slice (some ⟨w.heap.size, 0, none⟩) 1 1)) (w.alloc (.cells C 23))) : wpList Try.prog ops Q (o :: rest) a w :=
  wpList_plain hg fun _ hK => wp_build1D x ho C hx hC (hK _ _ h)
/-- append(own.., digest) -/
theorem wp_append1D {o : Oper} {a : Act} {w : World} {K : Act → World → Prop} {Q : Exit → Act → World → Prop} (s x : Operand)
    (ho : o.op = .call { callee := .builtin .append, args := #[s, x], argTypes := #[74, 74] }) (base : Nat) (v : Value) (ds : List (List Int)) (hs : a.eval s = v) (hown : OwnD base w v ds)
    (b off c : Nat) (hx : a.eval x = .slice (some ⟨b, off, none⟩) 1 c) (d : List Int) (hl : w.rangeAt b off (dC d)) (h32 : d.length = 32) (h63 : ds.length ≤ 1000000) (hbase : base ≤ w.heap.size)
    (h : ∀ v' w', OwnD base w' v' (ds ++ [d]) → Below base w w' → K (a.put o.dst v') w') : o.wp Try.prog a w K Q := by
  obtain ⟨i, hi, hz0, hz1, hz2⟩ := info_parts info_D
  obtain ⟨v', w', hr, h2, h3, _, _⟩ := run_append_own_at (P := Try.prog) w base 74 o.type 23 i (.agg zdig) 32 32 Try.underlying74 hi hz0 hz1 hz2 zdig_32 (by omega) v ds.length (flatD ds) hown ⟨b, off, none⟩ 1 c (dC d) (by rw [dC_len h32])
    (fun j u hu => by rw [Addr.add_mid]; exact hl j u hu) (dC_one d) (by unfold maxLen; omega) (by omega) hbase
  unfold Oper.wp execOp
  simp only [ho, resolve, invoke, builtin, Sem.run_bind, Sem.run_pure, Result.andThen_ok, List.map_toArray, List.map_cons, List.map_nil, hs, hx, hr]
  refine h v' w' ?_ ((Below.refl _ _).grown h3 hbase hown.block)
  unfold OwnD
  rw [List.length_append, flatD_append]
  simpa [flatD] using h2
theorem wl_append1D {ops : Array Oper} {rest : List Oper} {o : Oper} {a : Act} {w : World} {Q : Exit → Act → World → Prop} (hgd : o.guard = none) (s x : Operand)
    (ho : o.op = .call { callee := .builtin .append, args := #[s, x], argTypes := #[74, 74] }) (base : Nat) (v : Value) (ds : List (List Int)) (hs : a.eval s = v) (hown : OwnD base w v ds)
    (b off c : Nat) (hx : a.eval x = .slice (some ⟨b, off, none⟩) 1 c) (d : List Int) (hl : w.rangeAt b off (dC d)) (h32 : d.length = 32) (h63 : ds.length ≤ 1000000) (hbase : base ≤ w.heap.size)
    (h : ∀ v' w', OwnD base w' v' (ds ++ [d]) → Below base w w' → wpList Try.prog ops Q rest (a.put o.dst v') w') : wpList Try.prog ops Q (o :: rest) a w :=
  wpList_plain hgd fun _ hK => wp_append1D s x ho base v ds hs hown b off c hx d hl h32 h63 hbase fun v' w' h2 h3 => hK _ _ (h v' w' h2 h3)
/-- the wholes of parts, each once, as they come -/
def wholesF (ps : List Pt) : List (List Int) := ps.foldl (fun ds p => if p.wh ∈ ds then ds else ds ++ [p.wh]) []
theorem wholesF_snoc (ps : List Pt) (p : Pt) : wholesF (ps ++ [p]) = if p.wh ∈ wholesF ps then wholesF ps else wholesF ps ++ [p.wh] := by unfold wholesF; rw [List.foldl_append]; rfl
theorem wholesF_inv : ∀ (n : Nat) (ps : List Pt), ps.length = n → (wholesF ps).length ≤ n ∧ (wholesF ps).Nodup ∧ ∀ d, d ∈ wholesF ps ↔ ∃ p ∈ ps, p.wh = d
  | 0, ps, h => by
    have : ps = [] := List.eq_nil_of_length_eq_zero h
    subst this
    exact ⟨Nat.le_refl _, List.nodup_nil, fun x => by simp [wholesF]⟩
  | n + 1, ps, h => by
    obtain ⟨qs, p, rfl⟩ : ∃ qs p, ps = qs ++ [p] := ⟨ps.dropLast, ps.getLast (fun e => by rw [e] at h; simp at h), (List.dropLast_concat_getLast _).symm⟩
    obtain ⟨i1, i2, i3⟩ := wholesF_inv n qs (by simpa using h)
    rw [wholesF_snoc]
    by_cases hp : p.wh ∈ wholesF qs
    · rw [if_pos hp]
      refine ⟨by omega, i2, fun d => ?_⟩
      rw [i3]
      constructor
      · rintro ⟨q, hq, e⟩; exact ⟨q, List.mem_append_left _ hq, e⟩
      · rintro ⟨q, hq, e⟩
        rcases List.mem_append.1 hq with h | h
        · exact ⟨q, h, e⟩
        · rw [List.mem_singleton.1 h] at e
          rw [← i3, ← e]; exact hp
    · rw [if_neg hp]
      refine ⟨by rw [List.length_append]; simp; omega, ?_, fun d => ?_⟩
      · rw [List.nodup_append]
        exact ⟨i2, by simp, fun a ha b hb e => hp (by rw [List.mem_singleton.1 hb] at e; rw [← e]; exact ha)⟩
      · rw [List.mem_append, i3, List.mem_singleton]
        constructor
        · rintro (⟨q, hq, e⟩ | rfl)
          · exact ⟨q, List.mem_append_left _ hq, e⟩
          · exact ⟨p, by simp, rfl⟩
        · rintro ⟨q, hq, e⟩
          rcases List.mem_append.1 hq with h | h
          · exact .inl ⟨q, h, e⟩
          · rw [List.mem_singleton.1 h] at e; exact .inr e.symm
theorem wholesF_take {ps : List Pt} {i : Nat} (h : i < ps.length) : wholesF (ps.take (i + 1)) = if ps[i].wh ∈ wholesF (ps.take i) then wholesF (ps.take i) else wholesF (ps.take i) ++ [ps[i].wh] := by
  rw [List.take_succ_eq_append_getElem h, wholesF_snoc]
attribute [local irreducible] SlV Lies headG
attribute [local go_sem] takes takesE comesTo
set_option maxHeartbeats 4000000 in
theorem dindex_any (v : Value) (ds : List (List Int)) (wh : List Int) (hw : wh.length = 32) (w : World) (hv : RdD w.heap.size w v ds) (hn : ds.length ≤ 1000000) :
    Calls Try.prog 82 #[v, .agg (row .u8 wh)] w fun e w' => ∃ r : Int, e = .returned (.int .i64 r) ∧ (0 ≤ r ↔ wh ∈ ds) ∧ Below w.heap.size w w' := by
  obtain ⟨h32, g, o, hs, hr, hlt⟩ := hv
  obtain ⟨a, c, rfl, hcap, hmax, ha, _⟩ := by unfold SlV at hs; exact hs
  obtain ⟨n, hN⟩ : ∃ n, n = ds.length := ⟨_, rfl⟩
  rw [← hN]
  have hsz : (row .u8 wh).size = 32 := by rw [row_size, hw]
  obtain ⟨RD, hRD⟩ : ∃ R, R = row .u8 wh := ⟨_, rfl⟩
  rw [← hRD] at hsz ⊢
  obtain ⟨W9, hW9⟩ : ∃ W, W = w.alloc (.cells RD 23) := ⟨_, rfl⟩
  obtain ⟨g9, hg9⟩ : ∃ g, g = w.heap.size := ⟨_, rfl⟩
  have n9 := heap_alloc_new w (.cells RD 23)
  have b9 := below1 w (.cells RD 23)
  rw [← hW9, ← hg9] at n9
  rw [← hW9] at b9
  have H9 := Lib.hid (And.intro n9 (And.intro b9 (And.intro hW9 (And.intro hg9 (And.intro hsz (And.intro hRD hw))))))
  have HC := Lib.hid (And.intro h32 (And.intro hr (And.intro hN (And.intro hn ha))))
  clear hr hN hn hcap hmax hlt h32 n9 b9 hW9 hg9 hsz hRD hw ha hs
  go_enter Try.func82, Try.ntmps82
  go_upto_region 1 with fail
  rw [← H9.out.2.2.1, ← H9.out.2.2.2.1]
  go_wp2_with fail
  go_loopw [5, 8] (fun v5 i wr => ∃ k : Nat, k ≤ n ∧ i = .int .i64 (k : Int) ∧ BC W9 wr ∧ (∀ j (hj : j < ds.length), j < k → ds[j] ≠ wh)) (fun _ i _ => n - (intOf i).toNat)
  case atStart => exact ⟨0, Nat.zero_le _, rfl, BC_refl _, fun j hj h => by omega⟩
  case round =>
    obtain ⟨k, hk, rfl, hb, hz⟩ := hrel
    have HZ := Lib.hid (And.intro hb (And.intro hz hk))
    clear hz hb hk
    by_cases hlt : k < n
    · have hkl : k < ds.length := by have := HC.out.2.2.1; omega
      have i0 : (0 : Int) ≤ (k : Int) := by omega
      have i1 : (k : Int) < (n : Int) := by omega
      obtain ⟨K1, hK1⟩ : ∃ m, m = k + 1 := ⟨_, rfl⟩
      have s1 : IntKind.i64.wrap ((k : Int) + 1) = (K1 : Int) := by rw [IntKind.wrap_i64]; have := HC.out.2.2; omega
      obtain rfl := HC.out.2.2.2.2 (by omega)
      have hrk := rangeD_get HC.out.2.1 HC.out.1 hkl
      have hgw := HC.out.1 _ (List.getElem_mem hkl)
      obtain ⟨wk, hwk⟩ : ∃ x, x = ds[k]'hkl := ⟨_, rfl⟩
      rw [← hwk] at hrk hgw
      obtain ⟨RE, hRE⟩ : ∃ R, R = row .u8 wk := ⟨_, rfl⟩
      have hEz : RE.size = 32 := by rw [hRE, row_size, hgw]
      obtain ⟨z, hz⟩ : ∃ z, z = decide (wh = wk) := ⟨_, rfl⟩
      have heq : ∀ w, (binOp .eql 23 (.agg RD) (.agg RE)).run Try.prog w = .ok (.bool z) w := fun w => by
        have h := run_eql_row w 23 5 32 .u8 Try.underlying23 Try.underlying5 (by kernel_rfl) wh wk H9.out.2.2.2.2.2.2 hgw
        rw [← hRE, ← H9.out.2.2.2.2.2.1, ← hz] at h
        exact h
      have bwr : BC w wr := BC_trans H9.out.2.1 HZ.out.1
      have HF9 : Hid (∀ x : HW (BC wr), x.w.heap[g9]? = some (.cells RD 23 (0, 0))) := Lib.hid (BC_blk (BC_blk1 HZ.out.1 H9.out.1))
      have HF8 : Hid (∀ x : HW (BC wr), x.w.rangeAt g (o + k * 32) RE.toList) := Lib.hid fun x j u hj => later (BC_trans bwr x.h) (hrk j u (by rw [hRE] at hj; exact hj))
      have HRS := Lib.hid (And.intro H9.out.2.2.2.2.1 hEz)
      have HI := Lib.hid (And.intro hK1 (And.intro hz (And.intro hwk (And.intro hlt bwr))))
      have HKL := Lib.hid hkl
      clear hK1 hz hlt hgw hrk hwk hRE hEz bwr
      go_upto_region 4 with fail
      have hS := BC_all (w := wr)
      haveI := BC_inst wr
      refine wp_region_head (BC wr) 6 (by kernel_rfl) (by kernel_rfl) (BC_start _) ?_
      simp only [List.take_succ_cons, List.take_zero, List.drop_succ_cons, List.drop_zero]
      repeat (first
        | ((with_reducible refine headG_load_row (o := ⟨some 11, _, _, _, _, _⟩) 23 (.tmp 3) ?_ ?_ _ ?_ _ RD _ _ HF9.out Try.underlying23 ?_ ?_ ?_); (focus rfl); (focus rfl); (focus rfl); (focus rfl); (focus (rw [HRS.out.1]; kernel_rfl)))
        | ((with_reducible refine headG_load_mid (o := ⟨some 15, _, _, _, _, _⟩) 23 (.tmp 14) ?_ ?_ _ _ ?_ RE _ HF8.out Try.underlying23 ?_ ?_ ?_); (focus rfl); (focus rfl); (focus rfl); (focus rfl); (focus (rw [HRS.out.2]; kernel_rfl)))
        | (refine headG_step (fun K hK => ?_)
           go_simp
           (refine hK _ ?_; clear hK K)))
      refine headG_nil ?_
      intro wy hby
      have HY := Lib.hid (And.intro (BC_trans HZ.out.1 hby) (BC_trans HI.out.2.2.2.2 hby))
      clear hS hby heq
      cases z with
      | true =>
        go_wp2_with fail
        go_ret
        exact ⟨_, rfl, by
          have h : wh ∈ ds := by rw [of_decide_eq_true HI.out.2.1.symm, HI.out.2.2.1]; exact List.getElem_mem _
          exact ⟨fun _ => h, fun _ => by omega⟩, HY.out.2⟩
      | false =>
        go_wp2_with fail
        go_roundw
        case rel => exact ⟨K1, by have := HI.out; omega, rfl, HY.out.1, fun j hj hjk => by
          have := HI.out.1
          by_cases h : j = k
          · subst h
            rw [← HI.out.2.2.1]; exact fun e => of_decide_eq_false HI.out.2.1.symm e.symm
          · exact HZ.out.2.1 j hj (by omega)⟩
        case measure => have := HI.out; simp [intOf]; omega
    · have hge : ¬ (k : Int) < (n : Int) := by omega
      have hno : ¬ wh ∈ ds := fun hm => by
        obtain ⟨j, hj, e⟩ := List.getElem_of_mem hm
        exact HZ.out.2.1 j hj (by have := HC.out.2.2.1; omega) e
      have HNO := Lib.hid hno
      clear hno
      go_wp2_with fail
      go_ret
      exact ⟨_, rfl, ⟨fun h => by omega, fun h => absurd h HNO.out⟩, BC_trans H9.out.2.1 HZ.out.1⟩
theorem dcontains_any (v : Value) (ds : List (List Int)) (wh : List Int) (hw : wh.length = 32) (w : World) (hv : RdD w.heap.size w v ds) (hn : ds.length ≤ 1000000) :
    Calls Try.prog 68 #[v, .agg (row .u8 wh)] w fun e w' => e = .returned (.bool (decide (wh ∈ ds))) ∧ Below w.heap.size w w' := by
  have hsz : (row .u8 wh).size = 32 := by rw [row_size, hw]
  have hI : ∀ W, BC w W → Calls Try.prog 82 #[v, .agg (row .u8 wh)] W fun e w' => ∃ r : Int, e = .returned (.int .i64 r) ∧ (0 ≤ r ↔ wh ∈ ds) ∧ Below W.heap.size W w' := fun W hW => dindex_any v ds wh hw W (hv.to hW) hn
  obtain ⟨a, c, rfl⟩ := hv.form
  obtain ⟨RD, hRD⟩ : ∃ R, R = row .u8 wh := ⟨_, rfl⟩
  rw [← hRD] at hsz hI ⊢
  obtain ⟨W9, hW9⟩ : ∃ W, W = w.alloc (.cells RD 23) := ⟨_, rfl⟩
  obtain ⟨g9, hg9⟩ : ∃ g, g = w.heap.size := ⟨_, rfl⟩
  have n9 := heap_alloc_new w (.cells RD 23)
  have b9 := below1 w (.cells RD 23)
  rw [← hW9, ← hg9] at n9
  rw [← hW9] at b9
  have HI := Lib.hid (hI W9 b9)
  have H9 := Lib.hid (And.intro n9 (And.intro b9 (And.intro hW9 (And.intro hg9 hsz))))
  clear n9 b9 hW9 hg9 hsz hRD hw hv hn hI
  go_enter Try.func68, Try.ntmps68
  go_upto_region 1 with fail
  rw [← H9.out.2.2.1, ← H9.out.2.2.2.1]
  go_wp2_with ((with_reducible refine wlw_load_row (o := ⟨some 6, _, _, _, _, _⟩) ?_ 23 (.tmp 3) ?_ _ ?_ _ RD _ _ H9.out.1 Try.underlying23 ?_ ?_ ?_); (focus rfl); (focus rfl); (focus rfl); (focus rfl); (focus (rw [H9.out.2.2.2.2]; kernel_rfl)))
  refine HI.out.mono ?_
  rintro e w3 ⟨r, rfl, hr, b3⟩
  have HB := Lib.hid (And.intro (BC_trans (show BC w W9 from H9.out.2.1) b3) hr)
  clear b3 hr
  go_wp2_with fail
  go_ret
  exact ⟨by show Ending.returned (.bool (decide (0 ≤ r))) = _; rw [decide_eq_decide.2 HB.out.2], HB.out.1⟩
end
set_option maxRecDepth 100000
open Go.ChangeShapes Go.WideShapes Go.ChangeAt Go.RowKit
attribute [local irreducible] SlV Lies headG
attribute [local go_sem] takes takesE comesTo
set_option maxHeartbeats 4000000 in
theorem wholes_any (v : Value) (qs : List (Pt × Value)) (w : World) (hv : RdP w.heap.size w v qs) (hn : qs.length ≤ 10000) :
    Calls Try.prog 39 #[v] w fun e w' => ∃ v', e = .returned v' ∧ RdD w'.heap.size w' v' (wholesF (qs.map (·.1))) ∧ Below w.heap.size w w' := by
  have hz := zero_part
  obtain ⟨hg, g, o, sv, rg, _⟩ := hv
  obtain ⟨a, c, rfl, _, _, ha, _⟩ := by unfold SlV at sv; exact sv
  obtain ⟨n, hN⟩ : ∃ n, n = qs.length := ⟨_, rfl⟩
  obtain ⟨ps, hps⟩ : ∃ ps, ps = qs.map (·.1) := ⟨_, rfl⟩
  rw [← hN] at ha ⊢
  rw [← hps]
  have HV := Lib.hid (And.intro hg (And.intro rg (And.intro hN (And.intro ha (And.intro hn hps)))))
  clear hg sv rg hN ha hn hps
  go_enter Try.func39, Try.ntmps39
  go_wp2_with fail
  go_loopw [3, 8] (fun v3 v8 wr => ∃ i : Nat, i ≤ n ∧ v8 = .int .i64 (i : Int) ∧ OwnD w.heap.size wr v3 (wholesF (ps.take i)) ∧ BC w wr) (fun _ i _ => n - (intOf i).toNat)
  case atStart => exact ⟨0, Nat.zero_le _, rfl, OwnD.nil _ _, BC_refl _⟩
  case round =>
    obtain ⟨i, hi, rfl, hown, hbr⟩ := hrel
    have hlps : ps.length = n := by rw [HV.out.2.2.2.2.2, List.length_map]; exact HV.out.2.2.1.symm
    by_cases hlt : i < n
    · have i0 : (0 : Int) ≤ (i : Int) := by omega
      have i1 : (i : Int) < (n : Int) := by omega
      obtain ⟨I1, hI1⟩ : ∃ m, m = i + 1 := ⟨_, rfl⟩
      have hn4 := HV.out.2.2.2.2.1
      have s1 : IntKind.i64.wrap ((i : Int) + 1) = (I1 : Int) := by rw [IntKind.wrap_i64]; have := HV.out.2.2.1; omega
      have hiq : i < qs.length := by rw [← HV.out.2.2.1]; exact hlt
      have hip : i < ps.length := by rw [hlps]; exact hlt
      obtain rfl := HV.out.2.2.2.1 (by omega)
      have hrg := range_get HV.out.2.1 HV.out.1.wh hiq
      have hgd := HV.out.1 _ (List.getElem_mem hiq)
      have htk := wholesF_take hip
      have hpi : ps[i]'hip = (qs[i]'hiq).1 := by simp [HV.out.2.2.2.2.2]
      rw [hpi] at htk
      obtain ⟨q, hq⟩ : ∃ q, q = qs[i]'hiq := ⟨_, rfl⟩
      rw [← hq] at hrg hgd htk
      have h32 := hgd.1.1
      obtain ⟨wk, hwk⟩ : ∃ x, x = q.1.wh := ⟨_, rfl⟩
      rw [← hwk] at h32 htk
      have hmid : ∀ (W : World) (g : Nat), W.heap[g]? = some (.cells (qC q).toArray 26 (0, 0)) → W.rangeAt g 0 (row .u8 wk).toList := fun W g h => by rw [hwk]; exact lies_range (lies_whole h)
      obtain ⟨C, hC⟩ : ∃ C, C = (qC q).toArray := ⟨_, rfl⟩
      have hCz : C.size = 35 := by rw [hC]; exact qC_size hgd.1.1
      have hC1 : C.all (·.oneCell') = true := by
        rw [hC]
        exact pcells_one _ _ _ _ hgd.2.one
      have rga : wr.rangeAt g (o + i * 35) C.toList := fun j u hj => later hbr (hrg j u (by rw [hC] at hj; exact hj))
      rw [← hC] at hmid
      obtain ⟨RE, hRE⟩ : ∃ R, R = row .u8 wk := ⟨_, rfl⟩
      have hEz : RE.size = 32 := by rw [hRE, row_size, h32]
      obtain ⟨W5, hW5⟩ : ∃ W, W = wr.alloc (.cells C 26) := ⟨_, rfl⟩
      obtain ⟨g5, hg5⟩ : ∃ g, g = wr.heap.size := ⟨_, rfl⟩
      have n5 := heap_alloc_new wr (.cells C 26)
      have b5 := below1 wr (.cells C 26)
      rw [← hW5, ← hg5] at n5
      rw [← hW5] at b5
      have hmd := hmid W5 g5 n5
      rw [← hRE] at hmd
      have own5 := hown.below b5
      have hbw5 : BC w W5 := BC_trans hbr b5
      have h32s : ∀ d ∈ wholesF (ps.take i), d.length = 32 := fun d hd => by
        obtain ⟨p, hp, e⟩ := ((wholesF_inv _ (ps.take i) rfl).2.2 d).1 hd
        have hp2 := List.mem_of_mem_take hp
        rw [HV.out.2.2.2.2.2] at hp2
        obtain ⟨q', hq', rfl⟩ := List.mem_map.1 hp2
        rw [← e]; exact HV.out.1.wh q' hq'
      have hlen : (wholesF (ps.take i)).length ≤ 10000 := by
        have := (wholesF_inv _ (ps.take i) rfl).1
        rw [List.length_take] at this; omega
      have hcn := dcontains_any _ (wholesF (ps.take i)) wk h32 W5 (own5.rd h32s) (by omega)
      rw [← hRE] at hcn
      obtain ⟨z, hz'⟩ : ∃ z, z = decide (wk ∈ wholesF (ps.take i)) := ⟨_, rfl⟩
      rw [← hz'] at hcn
      have HCN := Lib.hid hcn
      have H5 := Lib.hid (And.intro n5 (And.intro hbw5 (And.intro hW5 (And.intro hg5 (And.intro own5 hmd)))))
      have HI := Lib.hid (And.intro rga (And.intro hCz (And.intro hC1 (And.intro hRE (And.intro hEz (And.intro hI1 (And.intro hlt (And.intro htk (And.intro h32 (And.intro hlen hz'))))))))))
      clear n5 hbw5 hW5 hg5 own5 hmd hcn rga hCz hC1 hRE hEz hI1 hlt htk h32 hlen hz' b5 hmid hC hwk hq hgd hrg hpi hiq hip hlps hown hbr h32s hn4 hi
      go_upto_region 5 with (first | ((with_reducible refine wlw_load_mid (o := ⟨some 11, _, _, _, _, _⟩) ?_ 26 (.tmp 10) ?_ _ _ ?_ C _ HI.out.1 Try.underlying26 ?_ ?_ ?_); (focus rfl); (focus rfl); (focus rfl); (focus rfl); (focus (rw [HI.out.2.1]; kernel_rfl))) | (refine wpList_store_rowTo rfl 26 _ _ rfl rfl _ C rfl rfl 26 zpart (heap_alloc_new wr _) (by rw [HI.out.2.1]; kernel_rfl) (by rw [HI.out.2.1]; kernel_rfl) HI.out.2.2.1 ?_; rw [World.setRow_alloc_new]))
      rw [← H5.out.2.2.1, ← H5.out.2.2.2.1]
      cases z with
      | true =>
        go_wp2_with ((with_reducible refine wlw_load_mid (o := ⟨some 14, _, _, _, _, _⟩) ?_ 23 (.tmp 13) ?_ _ _ ?_ RE _ H5.out.2.2.2.2.2 Try.underlying23 ?_ ?_ ?_); (focus rfl); (focus rfl); (focus rfl); (focus rfl); (focus (rw [HI.out.2.2.2.2.1]; kernel_rfl)))
        refine HCN.out.mono ?_
        rintro e w6 ⟨rfl, b6⟩
        have hw2 : wholesF (ps.take I1) = wholesF (ps.take i) := by
          rw [HI.out.2.2.2.2.2.1, HI.out.2.2.2.2.2.2.2.1, if_pos (of_decide_eq_true HI.out.2.2.2.2.2.2.2.2.2.2.symm)]
        have h2 := H5.out.2.2.2.2.1.below b6
        rw [← hw2] at h2
        have H6 := Lib.hid (And.intro h2 (BC_trans H5.out.2.1 b6))
        clear h2 b6 hw2
        go_wp2_with fail
        go_roundw
        case rel => exact ⟨I1, by have := HI.out; omega, rfl, H6.out.1, H6.out.2⟩
        case measure => have := HI.out; simp [intOf]; omega
      | false =>
        go_wp2_with ((with_reducible refine wlw_load_mid (o := ⟨some 14, _, _, _, _, _⟩) ?_ 23 (.tmp 13) ?_ _ _ ?_ RE _ H5.out.2.2.2.2.2 Try.underlying23 ?_ ?_ ?_); (focus rfl); (focus rfl); (focus rfl); (focus rfl); (focus (rw [HI.out.2.2.2.2.1]; kernel_rfl)))
        refine HCN.out.mono ?_
        rintro e w6 ⟨rfl, b6⟩
        have h3 := H5.out.2.2.2.2.1.below b6
        have hm6 : w6.rangeAt g5 0 RE.toList := fun j u hj => later b6 (H5.out.2.2.2.2.2 j u hj)
        obtain ⟨W7, hW7⟩ : ∃ W, W = w6.alloc (.cells RE 23) := ⟨_, rfl⟩
        have n7 := heap_alloc_new w6 (.cells RE 23)
        have b7 := below1 w6 (.cells RE 23)
        rw [← hW7] at n7 b7
        have hr7 : W7.rangeAt w6.heap.size 0 (dC wk) := fun j u hj => by
          rw [Nat.zero_add]
          refine cell_row n7 j ?_
          rw [HI.out.2.2.2.1, ← Array.getElem?_toList, row_list]
          exact hj
        have hb7 : BC w W7 := BC_trans (BC_trans H5.out.2.1 b6) b7
        have H7 := Lib.hid (And.intro (h3.below b7) (And.intro hr7 (And.intro hW7 (And.intro hb7 hm6))))
        have HSZ7 := Lib.hid hb7.size
        clear h3 hm6 hW7 n7 b7 hr7 hb7 b6
        go_wp2_with (first
          | ((with_reducible refine wlw_load_mid (o := ⟨some 19, _, _, _, _, _⟩) ?_ 23 (.tmp 18) ?_ _ _ ?_ RE _ H7.out.2.2.2.2 Try.underlying23 ?_ ?_ ?_); (focus rfl); (focus rfl); (focus rfl); (focus rfl); (focus (rw [HI.out.2.2.2.2.1]; kernel_rfl)))
          | ((with_reducible refine wl_build1D (o := ⟨some 20, _, _, _, _, _⟩) ?_ (.tmp 19) ?_ RE ?_ HI.out.2.2.2.2.1 ?_); (focus rfl); (focus rfl); (focus rfl); rw [← H7.out.2.2.1])
          | ((with_reducible refine wl_append1D (o := ⟨some 21, _, _, _, _, _⟩) ?_ (.tmp 17) (.tmp 20) ?_ w.heap.size _ (wholesF (ps.take i)) ?_ H7.out.1 w6.heap.size 0 1 ?_ wk H7.out.2.1 HI.out.2.2.2.2.2.2.2.2.1 ?_ HSZ7.out ?_); (focus rfl); (focus rfl); (focus rfl); (focus rfl); (focus (have := HI.out.2.2.2.2.2.2.2.2.2.1; omega)); intro v8 w8 own8 b8))
        have h2 : OwnD w.heap.size w8 v8 (wholesF (ps.take I1)) := by
          rw [HI.out.2.2.2.2.2.1, HI.out.2.2.2.2.2.2.2.1, if_neg (of_decide_eq_false HI.out.2.2.2.2.2.2.2.2.2.2.symm)]
          exact own8
        have H8 := Lib.hid (And.intro h2 (show BC w w8 from (show Below w.heap.size w W7 from H7.out.2.2.2.1).trans b8))
        clear h2 own8 b8
        go_wp2_with fail
        go_roundw
        case rel => exact ⟨I1, by have := HI.out; omega, rfl, H8.out.1, H8.out.2⟩
        case measure => have := HI.out; simp [intOf]; omega
    · have hin : i = n := by omega
      have hge : ¬ (i : Int) < (n : Int) := by omega
      rw [List.take_of_length_le (by omega)] at hown
      have h32s : ∀ d ∈ wholesF ps, d.length = 32 := fun d hd => by
        obtain ⟨p, hp, e⟩ := ((wholesF_inv _ ps rfl).2.2 d).1 hd
        rw [HV.out.2.2.2.2.2] at hp
        obtain ⟨q', hq', rfl⟩ := List.mem_map.1 hp
        rw [← e]; exact HV.out.1.wh q' hq'
      have HF := Lib.hid (And.intro (hown.rd h32s) hbr)
      clear hlt hown hbr hin hi h32s hlps
      go_wp2_with fail
      go_ret
      exact ⟨_, rfl, HF.out.1, HF.out.2⟩
end Go.Proofs.Ytjnimbhecfpnmaa
