/- Slices of parts: plain parts, their cells, slices that are read, slices of the call's own and 'append' to them. -/
import Derived.Test.YtjnimbhecfpnmaaOwnS
import Derived.Test.YtjnimbhecfpnmaaDecode
import Derived.Test.YtjnimbhecfpnmaaFirst
import Derived.Test.YtjnimbhecfpnmaaRef18
import Derived.Great.BuildSlice
namespace Go.Proofs.Ytjnimbhecfpnmaa
set_option maxRecDepth 100000
open Go.ChangeShapes Go.WideShapes Go.ChangeAt Go.RowKit

/-- a region that draws, its values taken in every world with more blocks than an elder world's -/
theorem wp_region_E0 {P : Program} {ops : Array Oper} {Q : Exit → Act → World → Prop} (w0 : World) {id : Nat} {a : Act} {w : World} (hm : P.follows .mixedOrders = true) (h : wpE P .any ops Q w0 ops.size (Array.replicate ops.size false) a w) : (Code.region id ops true).wp P Q a w :=
  wp_region_any hm (wpAny_E _ _ _ _ (wpE_more h (BC_start w)))
/-- a part, plain -/
structure Pt where
  wh : List Int
  sz : Int
  at' : Int
  da : List Int
def Pt.ok (p : Pt) : Prop := p.wh.length = 32 ∧ Bytes p.wh ∧ Bytes p.da ∧ (Lit.int .i64 p.sz).wf = true ∧ (Lit.int .i64 p.at').wf = true
/-- a part's cells, its bytes' slice being u -/
def qC (q : Pt × Value) : List Value := pcells q.1.wh q.1.sz q.1.at' q.2
def flatQ (qs : List (Pt × Value)) : List Value := qs.flatMap qC
theorem flatQ_nil : flatQ [] = [] := rfl
theorem flatQ_cons (q : Pt × Value) (qs : List (Pt × Value)) : flatQ (q :: qs) = qC q ++ flatQ qs := rfl
theorem flatQ_append (a b : List (Pt × Value)) : flatQ (a ++ b) = flatQ a ++ flatQ b := by simp [flatQ]
theorem qC_len {q : Pt × Value} (h : q.1.wh.length = 32) : (qC q).length = 35 := pcells_len h _ _ _
theorem flatQ_len : ∀ {qs : List (Pt × Value)}, (∀ q ∈ qs, q.1.wh.length = 32) → (flatQ qs).length = qs.length * 35
  | [], _ => rfl
  | q :: qs, h => by
    rw [flatQ_cons, List.length_append, qC_len (h q List.mem_cons_self), flatQ_len (fun x hx => h x (List.mem_cons_of_mem _ hx)), List.length_cons]
    omega
theorem flatQ_get {qs : List (Pt × Value)} (h : ∀ q ∈ qs, q.1.wh.length = 32) {i : Nat} (hi : i < qs.length) {j : Nat} (hj : j < 35) : (flatQ qs)[i * 35 + j]? = (qC qs[i])[j]? := by
  induction qs generalizing i with
  | nil => simp at hi
  | cons q qs ih =>
    have h32 := qC_len (h q List.mem_cons_self)
    rw [flatQ_cons]
    cases i with
    | zero =>
      rw [Nat.zero_mul, Nat.zero_add, List.getElem?_append_left (by omega)]
      rfl
    | succ i =>
      rw [List.getElem?_append_right (by omega), h32, show (i + 1) * 35 + j - 35 = i * 35 + j by omega, ih (fun x hx => h x (List.mem_cons_of_mem _ hx)) (by simpa using hi)]
      rfl
theorem flatQ_take {qs : List (Pt × Value)} (h : ∀ q ∈ qs, q.1.wh.length = 32) (k : Nat) (hk : k ≤ qs.length) : (flatQ qs).take (k * 35) = flatQ (qs.take k) := by
  have e : flatQ qs = flatQ (qs.take k) ++ flatQ (qs.drop k) := by rw [← flatQ_append, List.take_append_drop]
  have hl : (flatQ (qs.take k)).length = k * 35 := by rw [flatQ_len (fun q hq => h q (List.mem_of_mem_take hq)), List.length_take, Nat.min_eq_left hk]
  rw [e, ← hl, List.take_left]
theorem flatQ_drop {qs : List (Pt × Value)} (h : ∀ q ∈ qs, q.1.wh.length = 32) (k : Nat) (hk : k ≤ qs.length) : (flatQ qs).drop (k * 35) = flatQ (qs.drop k) := by
  have e : flatQ qs = flatQ (qs.take k) ++ flatQ (qs.drop k) := by rw [← flatQ_append, List.take_append_drop]
  have hl : (flatQ (qs.take k)).length = k * 35 := by rw [flatQ_len (fun q hq => h q (List.mem_of_mem_take hq)), List.length_take, Nat.min_eq_left hk]
  rw [e, ← hl, List.drop_left]
theorem qC_one {q : Pt × Value} (h : q.2.oneCell' = true) : ∀ v ∈ qC q, v.oneCell' = true := by
  intro v hv
  unfold qC pcells at hv
  rcases List.mem_append.1 hv with h1 | h1
  · obtain ⟨x, _, rfl⟩ := List.mem_map.1 h1
    rfl
  · simp at h1
    rcases h1 with rfl | rfl | rfl
    · rfl
    · rfl
    · exact h
/-- u is a slice of the bytes l, in a block below base -/
def Held (base : Nat) (w : World) (u : Value) (l : List Int) : Prop := ∃ b o, SlV u b o l.length ∧ Lies w b o l ∧ (0 < l.length → b < base)
theorem Held.mono {base base' : Nat} {w : World} {u : Value} {l : List Int} (h : Held base w u l) (hb : base ≤ base') : Held base' w u l := by
  obtain ⟨b, o, h1, h2, h3⟩ := h
  exact ⟨b, o, h1, h2, fun h => Nat.lt_of_lt_of_le (h3 h) hb⟩
theorem Held.below {base : Nat} {w w' : World} {u : Value} {l : List Int} (h : Held base w u l) (hb : Below base w w') : Held base w' u l := by
  obtain ⟨b, o, h1, h2, h3⟩ := h
  exact ⟨b, o, h1, fun j hj => (hb.cell (h3 (by omega))).trans (h2 j hj), h3⟩
theorem Held.of_lies {w : World} {u : Value} {b o : Nat} {l : List Int} (h1 : SlV u b o l.length) (h2 : Lies w b o l) : Held w.heap.size w u l := ⟨b, o, h1, h2, fun h => h2.lt h⟩
theorem Held.one {base : Nat} {w : World} {u : Value} {l : List Int} (h : Held base w u l) : u.oneCell' = true := by
  obtain ⟨b, o, ⟨_, _, rfl, _⟩, _⟩ := h
  rfl
theorem Own.held {base : Nat} {w : World} {u : Value} {l : List Int} (h : Own base w u l) : Held w.heap.size w u l := by
  obtain ⟨g, h1, h2, _⟩ := h.slv
  exact Held.of_lies h1 h2
/-- parts whose bytes are there -/
def GoodQ (base : Nat) (w : World) (qs : List (Pt × Value)) : Prop := ∀ q ∈ qs, q.1.ok ∧ Held base w q.2 q.1.da
theorem GoodQ.mono {base base' : Nat} {w : World} {qs : List (Pt × Value)} (h : GoodQ base w qs) (hb : base ≤ base') : GoodQ base' w qs := fun q hq => ⟨(h q hq).1, (h q hq).2.mono hb⟩
theorem GoodQ.below {base : Nat} {w w' : World} {qs : List (Pt × Value)} (h : GoodQ base w qs) (hb : Below base w w') : GoodQ base w' qs := fun q hq => ⟨(h q hq).1, (h q hq).2.below hb⟩
theorem GoodQ.to {w w' : World} {qs : List (Pt × Value)} (h : GoodQ w.heap.size w qs) (hb : Below w.heap.size w w') : GoodQ w'.heap.size w' qs := (h.below hb).mono hb.size
theorem GoodQ.wh {base : Nat} {w : World} {qs : List (Pt × Value)} (h : GoodQ base w qs) : ∀ q ∈ qs, q.1.wh.length = 32 := fun q hq => (h q hq).1.1
theorem GoodQ.one {base : Nat} {w : World} {qs : List (Pt × Value)} (h : GoodQ base w qs) : ∀ v ∈ flatQ qs, v.oneCell' = true := fun v hv => by
  obtain ⟨q, hq, h1⟩ := List.mem_flatMap.1 hv
  exact qC_one (h q hq).2.one v h1
theorem GoodQ.nil (base : Nat) (w : World) : GoodQ base w [] := fun q hq => by simp at hq
theorem GoodQ.append {base : Nat} {w : World} {a b : List (Pt × Value)} (ha : GoodQ base w a) (hb : GoodQ base w b) : GoodQ base w (a ++ b) := fun q hq => by
  rcases List.mem_append.1 hq with h | h
  · exact ha q h
  · exact hb q h
theorem GoodQ.sub {base : Nat} {w : World} {a b : List (Pt × Value)} (ha : GoodQ base w a) (hb : ∀ q ∈ b, q ∈ a) : GoodQ base w b := fun q hq => ha q (hb q hq)
/-- v is a slice of the parts qs, which can be read -/
def RdP (base : Nat) (w : World) (v : Value) (qs : List (Pt × Value)) : Prop :=
  GoodQ base w qs ∧ ∃ g o, SlV v g o qs.length ∧ w.rangeAt g o (flatQ qs) ∧ (0 < qs.length → g < base)
theorem RdP.mono {base base' : Nat} {w : World} {v : Value} {qs : List (Pt × Value)} (h : RdP base w v qs) (hb : base ≤ base') : RdP base' w v qs := by
  obtain ⟨h0, g, o, h1, h2, h3⟩ := h
  exact ⟨h0.mono hb, g, o, h1, h2, fun h => Nat.lt_of_lt_of_le (h3 h) hb⟩
theorem RdP.below {base : Nat} {w w' : World} {v : Value} {qs : List (Pt × Value)} (h : RdP base w v qs) (hb : Below base w w') : RdP base w' v qs := by
  obtain ⟨h0, g, o, h1, h2, h3⟩ := h
  refine ⟨h0.below hb, g, o, h1, fun j u hj => (hb.cell (h3 ?_)).trans (h2 j u hj), h3⟩
  rcases Nat.eq_zero_or_pos qs.length with h | h
  · have : qs = [] := List.eq_nil_of_length_eq_zero h
    subst this
    simp [flatQ] at hj
  · exact h
theorem RdP.to {w w' : World} {v : Value} {qs : List (Pt × Value)} (h : RdP w.heap.size w v qs) (hb : Below w.heap.size w w') : RdP w'.heap.size w' v qs := (h.below hb).mono hb.size
theorem RdP.nil (base : Nat) (w : World) : RdP base w (.slice none 0 0) [] := ⟨GoodQ.nil _ _, 0, 0, ⟨none, 0, rfl, Nat.le_refl _, Nat.zero_le _, fun h => by simp at h, fun _ => rfl⟩, fun j u hj => by simp [flatQ] at hj, fun h => by simp at h⟩
theorem RdP.form {base : Nat} {w : World} {v : Value} {qs : List (Pt × Value)} (h : RdP base w v qs) : ∃ a c, v = .slice a qs.length c := by
  obtain ⟨_, _, _, ⟨a, c, rfl, _⟩, _⟩ := h
  exact ⟨a, c, rfl⟩
/-- the i-th part, as a load meets it -/
theorem range_get {w : World} {g o : Nat} {qs : List (Pt × Value)} (h : w.rangeAt g o (flatQ qs)) (h32 : ∀ q ∈ qs, q.1.wh.length = 32) {i : Nat} (hi : i < qs.length) : w.rangeAt g (o + i * 35) (qC qs[i]) := fun j u hj => by
  have hjl : j < 35 := by
    have := (List.getElem?_eq_some_iff.1 hj).1
    rwa [qC_len (h32 _ (List.getElem_mem hi))] at this
  have := h (i * 35 + j) u (by rw [flatQ_get h32 hi hjl]; exact hj)
  rw [show o + i * 35 + j = o + (i * 35 + j) by omega]
  exact this
/-- a slice of a slice -/
theorem range_drop {w : World} {g o : Nat} {qs : List (Pt × Value)} (h : w.rangeAt g o (flatQ qs)) (h32 : ∀ q ∈ qs, q.1.wh.length = 32) {k : Nat} (hk : k ≤ qs.length) : w.rangeAt g (o + k * 35) (flatQ (qs.drop k)) := fun j u hj => by
  rw [← flatQ_drop h32 k hk, List.getElem?_drop] at hj
  rw [show o + k * 35 + j = o + (k * 35 + j) by omega]
  exact h _ u hj
theorem range_take {w : World} {g o : Nat} {qs : List (Pt × Value)} (h : w.rangeAt g o (flatQ qs)) (h32 : ∀ q ∈ qs, q.1.wh.length = 32) {k : Nat} (hk : k ≤ qs.length) : w.rangeAt g o (flatQ (qs.take k)) := fun j u hj => by
  rw [← flatQ_take h32 k hk, List.getElem?_take] at hj
  split at hj
  · exact h _ u hj
  · cases hj
-- per type: part.Part
theorem info_P : (Try.prog.info? 26).map (fun i => (i.zero, i.size, i.bytes)) = some (some (.agg zpart), 35, 72) := by kernel_rfl
theorem zpart_35P : (Value.agg zpart).cells.size = 35 := by kernel_rfl
/-- v is a slice of the call's own, of the parts qs -/
def OwnP (base : Nat) (w : World) (v : Value) (qs : List (Pt × Value)) : Prop := w.ownsRow base 26 35 v qs.length (flatQ qs)
theorem OwnP.nil (base : Nat) (w : World) : OwnP base w (.slice none 0 0) [] := World.ownsRow_nil _ _ _ _
theorem OwnP.below {base : Nat} {w w' : World} {v : Value} {qs : List (Pt × Value)} (h : OwnP base w v qs) (hb : Below w.heap.size w w') : OwnP base w' v qs := by
  obtain ⟨h1, h2 | ⟨g, cap, cur, rfl, hb', hg, rest⟩⟩ := h
  · exact ⟨h1, .inl h2⟩
  · exact ⟨h1, .inr ⟨g, cap, cur, rfl, hb', (hb.block g (blk_lt hg)).trans hg, rest⟩⟩
theorem OwnP.block {base : Nat} {w : World} {v : Value} {qs : List (Pt × Value)} (h : OwnP base w v qs) (k : Nat) (hk : v.ownBlock = some k) : base ≤ k := (World.ownsRow.lt h k hk).1
theorem OwnP.rd {base : Nat} {w : World} {v : Value} {qs : List (Pt × Value)} (h : OwnP base w v qs) (hq : GoodQ w.heap.size w qs) : RdP w.heap.size w v qs := by
  refine ⟨hq, ?_⟩
  obtain ⟨h1, ⟨rfl, h0⟩ | ⟨g, cap, cur, rfl, hb, hg, hn, hc, hs, ht⟩⟩ := h
  · have : qs = [] := List.eq_nil_of_length_eq_zero h0
    subst this
    exact (RdP.nil w.heap.size w).2
  · refine ⟨g, 0, ⟨_, cap, rfl, hn, hc, fun _ => rfl, fun h => by cases h⟩, fun j u hj => ?_, fun _ => blk_lt hg⟩
    rw [cell_of_row w g _ cur _ _ hg, Nat.zero_add]
    rw [← ht, List.getElem?_take] at hj
    split at hj
    · rw [← Array.getElem?_toList]; exact hj
    · cases hj
theorem OwnP.zero (w : World) (base : Nat) (hb : base ≤ w.heap.size) : OwnP base (w.alloc (.cells #[] 26)) (.slice (some ⟨w.heap.size, 0, none⟩) 0 0) [] :=
  ⟨rfl, .inr ⟨w.heap.size, 0, #[], rfl, hb, heap_alloc_new w _, Nat.le_refl _, Nat.zero_le _, rfl, rfl⟩⟩
theorem OwnP.mono {base base' : Nat} {w : World} {v : Value} {qs : List (Pt × Value)} (h : OwnP base w v qs) (hb : base' ≤ base) : OwnP base' w v qs := by
  obtain ⟨h1, h2 | ⟨g, cap, cur, rfl, hb', rest⟩⟩ := h
  · exact ⟨h1, .inl h2⟩
  · exact ⟨h1, .inr ⟨g, cap, cur, rfl, Nat.le_trans hb hb', rest⟩⟩
theorem OwnP.form {base : Nat} {w : World} {v : Value} {qs : List (Pt × Value)} (h : OwnP base w v qs) : ∃ a c, v = .slice a qs.length c := by
  obtain ⟨_, ⟨rfl, h0⟩ | ⟨g, cap, cur, rfl, _⟩⟩ := h
  · exact ⟨none, 0, by rw [h0]⟩
  · exact ⟨_, _, rfl⟩
/-- a slice literal of one part -/
theorem wp_build1P {o : Oper} {a : Act} {w : World} {K : Act → World → Prop} {Q : Exit → Act → World → Prop} (x : Operand) (ho : o.op = .buildSlice 56 1 #[(0, x)]) (C : Array Value) (hx : a.eval x = .agg C) (hC : C.size = 35)
    (h : K (a.put o.dst (.slice (some ⟨w.heap.size, 0, none⟩) 1 1)) (w.alloc (.cells C 26))) : o.wp Try.prog a w K Q := by
  obtain ⟨i, hi, hz0, hz1, hz2⟩ := info_parts info_P
  refine wp_buildSlice 56 26 1 #[(0, x)] ho C i (.agg zpart) Try.underlying56 hi hz0 (by rw [hz1]; decide) (by rw [hz1]; decide) ?_ h
  have h1 := Great.fill_whole (s := 35) (by decide) [.agg C] ((Array.range (1 * 35)).map ((Value.agg zpart).cells[· % (Value.agg zpart).cells.size]!)) (fun v hv => by rw [List.mem_singleton.1 hv]; exact hC) (by simp)
  rw [hz1]
  simpa [hx, Value.cells] using h1
theorem wl_build1P {ops : Array Oper} {rest : List Oper} {o : Oper} {a : Act} {w : World} {Q : Exit → Act → World → Prop} (hg : o.guard = none) (x : Operand) (ho : o.op = .buildSlice 56 1 #[(0, x)]) (C : Array Value) (hx : a.eval x = .agg C) (hC : C.size = 35)
    (h : wpList Try.prog ops Q rest (a.put o.dst (.slice (some ⟨w.heap.size, 0, none⟩) 1 1)) (w.alloc (.cells C 26))) : wpList Try.prog ops Q (o :: rest) a w :=
  wpList_plain hg fun _ hK => wp_build1P x ho C hx hC (hK _ _ h)
/-- append(own.., parts...) -/
theorem wl_append_P {w : World} {ops : Array Oper} {rest : List Oper} {o : Oper} {a : Act} {Q : Exit → Act → World → Prop} (hgd : o.guard = none) (s x : Operand)
    (ho : o.op = .call { callee := .builtin .append, args := #[s, x], argTypes := #[56, 56] }) (base : Nat) (v : Value) (qs : List (Pt × Value)) (hs : a.eval s = v) (hown : OwnP base w v qs)
    (y : Value) (hx : a.eval x = y) (b off : Nat) (ms : List (Pt × Value)) (hy : SlV y b off ms.length) (hl : w.rangeAt b off (flatQ ms)) (h32 : ∀ q ∈ ms, q.1.wh.length = 32) (h1 : ∀ u ∈ flatQ ms, u.oneCell' = true) (h63 : qs.length + ms.length ≤ 1000000) (hbase : base ≤ w.heap.size)
    (h : ∀ v' w', OwnP base w' v' (qs ++ ms) → Below base w w' → wpList Try.prog ops Q rest (a.put o.dst v') w') : wpList Try.prog ops Q (o :: rest) a w := by
  obtain ⟨i, hi, hz0, hz1, hz2⟩ := info_parts info_P
  obtain ⟨p, cap, rfl, hcap, hmax, hp, hnone⟩ := hy
  by_cases hm : 0 < ms.length
  · obtain rfl := hp hm
    refine wpList_append_own_at w hgd s x 56 ho base 26 i (.agg zpart) 35 72 Try.underlying56 hi hz0 hz1 hz2 zpart_35P (by omega) v qs.length (flatQ qs) hs hown ⟨b, off, none⟩ ms.length cap (flatQ ms) hx (flatQ_len h32)
      (fun j u hu => by rw [Addr.add_mid]; exact hl j u hu) h1 (by unfold maxLen; omega) (by omega) hbase ?_
    intro v' w' h1 h2 _ h4
    refine h v' w' ?_ ((Below.refl _ _).grown h2 hbase hown.block)
    unfold OwnP
    rw [List.length_append, flatQ_append]
    exact h1
  · have h0 : ms = [] := List.eq_nil_of_length_eq_zero (by omega)
    subst h0
    have hown2 : OwnP base w v (qs ++ []) := by rw [List.append_nil]; exact hown
    cases p with
    | none =>
      obtain rfl := hnone rfl
      exact wpList_append_own_none hgd s x 56 ho base 26 i 35 Try.underlying56 hi v qs.length (flatQ qs) hs hown hx (h v w hown2 (Below.refl _ _))
    | some ad =>
      refine wpList_append_own_at w hgd s x 56 ho base 26 i (.agg zpart) 35 72 Try.underlying56 hi hz0 hz1 hz2 zpart_35P (by omega) v qs.length (flatQ qs) hs hown ad 0 cap [] hx (by simp)
        (fun j u hu => by simp at hu) (fun u hu => by simp at hu) (by simp at h63; unfold maxLen; omega) (by simp at h63; omega) hbase ?_
      intro v' w' h1 h2 _ h4
      refine h v' w' ?_ ((Below.refl _ _).grown h2 hbase hown.block)
      unfold OwnP
      rw [List.append_nil]
      simpa using h1
/-- append(own.., part), at the operation -/
theorem wp_append1P {o : Oper} {a : Act} {w : World} {K : Act → World → Prop} {Q : Exit → Act → World → Prop} (s x : Operand)
    (ho : o.op = .call { callee := .builtin .append, args := #[s, x], argTypes := #[56, 56] }) (base : Nat) (v : Value) (qs : List (Pt × Value)) (hs : a.eval s = v) (hown : OwnP base w v qs)
    (b off c : Nat) (hx : a.eval x = .slice (some ⟨b, off, none⟩) 1 c) (q : Pt × Value) (hl : w.rangeAt b off (qC q)) (h32 : q.1.wh.length = 32) (h1 : q.2.oneCell' = true) (h63 : qs.length ≤ 1000000) (hbase : base ≤ w.heap.size)
    (h : ∀ v' w', OwnP base w' v' (qs ++ [q]) → Below base w w' → K (a.put o.dst v') w') : o.wp Try.prog a w K Q := by
  obtain ⟨i, hi, hz0, hz1, hz2⟩ := info_parts info_P
  obtain ⟨v', w', hr, h2, h3, _, _⟩ := run_append_own_at (P := Try.prog) w base 56 o.type 26 i (.agg zpart) 35 72 Try.underlying56 hi hz0 hz1 hz2 zpart_35P (by omega) v qs.length (flatQ qs) hown ⟨b, off, none⟩ 1 c (qC q) (by rw [qC_len h32])
    (fun j u hu => by rw [Addr.add_mid]; exact hl j u hu) (qC_one h1) (by unfold maxLen; omega) (by omega) hbase
  unfold Oper.wp execOp
  simp only [ho, resolve, invoke, builtin, Sem.run_bind, Sem.run_pure, Result.andThen_ok, List.map_toArray, List.map_cons, List.map_nil, hs, hx, hr]
  refine h v' w' ?_ ((Below.refl _ _).grown h3 hbase hown.block)
  unfold OwnP
  rw [List.length_append, flatQ_append]
  simpa [flatQ] using h2
theorem wl_append1P {ops : Array Oper} {rest : List Oper} {o : Oper} {a : Act} {w : World} {Q : Exit → Act → World → Prop} (hgd : o.guard = none) (s x : Operand)
    (ho : o.op = .call { callee := .builtin .append, args := #[s, x], argTypes := #[56, 56] }) (base : Nat) (v : Value) (qs : List (Pt × Value)) (hs : a.eval s = v) (hown : OwnP base w v qs)
    (b off c : Nat) (hx : a.eval x = .slice (some ⟨b, off, none⟩) 1 c) (q : Pt × Value) (hl : w.rangeAt b off (qC q)) (h32 : q.1.wh.length = 32) (h1 : q.2.oneCell' = true) (h63 : qs.length ≤ 1000000) (hbase : base ≤ w.heap.size)
    (h : ∀ v' w', OwnP base w' v' (qs ++ [q]) → Below base w w' → wpList Try.prog ops Q rest (a.put o.dst v') w') : wpList Try.prog ops Q (o :: rest) a w :=
  wpList_plain hgd fun _ hK => wp_append1P s x ho base v qs hs hown b off c hx q hl h32 h1 h63 hbase fun v' w' h2 h3 => hK _ _ (h v' w' h2 h3)
/-- append(own.., parts..), at the operation, the other slice at an address -/
theorem wp_appendP {o : Oper} {a : Act} {w : World} {K : Act → World → Prop} {Q : Exit → Act → World → Prop} (s x : Operand)
    (ho : o.op = .call { callee := .builtin .append, args := #[s, x], argTypes := #[56, 56] }) (base : Nat) (v : Value) (qs : List (Pt × Value)) (hs : a.eval s = v) (hown : OwnP base w v qs)
    (b off m c : Nat) (hx : a.eval x = .slice (some ⟨b, off, none⟩) m c) (ms : List (Pt × Value)) (hm : ms.length = m) (hl : w.rangeAt b off (flatQ ms)) (h32 : ∀ q ∈ ms, q.1.wh.length = 32) (h1 : ∀ u ∈ flatQ ms, u.oneCell' = true) (h63 : qs.length + m ≤ 1000000) (hbase : base ≤ w.heap.size)
    (h : ∀ v' w', OwnP base w' v' (qs ++ ms) → Below base w w' → K (a.put o.dst v') w') : o.wp Try.prog a w K Q := by
  subst hm
  obtain ⟨i, hi, hz0, hz1, hz2⟩ := info_parts info_P
  obtain ⟨v', w', hr, h2, h3, _, _⟩ := run_append_own_at (P := Try.prog) w base 56 o.type 26 i (.agg zpart) 35 72 Try.underlying56 hi hz0 hz1 hz2 zpart_35P (by omega) v qs.length (flatQ qs) hown ⟨b, off, none⟩ ms.length c (flatQ ms) (flatQ_len h32)
    (fun j u hu => by rw [Addr.add_mid]; exact hl j u hu) h1 (by unfold maxLen; omega) (by omega) hbase
  unfold Oper.wp execOp
  simp only [ho, resolve, invoke, builtin, Sem.run_bind, Sem.run_pure, Result.andThen_ok, List.map_toArray, List.map_cons, List.map_nil, hs, hx, hr]
  refine h v' w' ?_ ((Below.refl _ _).grown h3 hbase hown.block)
  unfold OwnP
  rw [List.length_append, flatQ_append]
  exact h2
theorem info_R : (Try.prog.info? 33).map (fun i => (i.zero, i.size, i.bytes)) = some (some (.agg zpart), 35, 72) := by kernel_rfl
theorem zpart_35R : (Value.agg zpart).cells.size = 35 := by kernel_rfl
/-- v is a slice of the call's own, of the parts qs -/
def OwnR (base : Nat) (w : World) (v : Value) (qs : List (Pt × Value)) : Prop := w.ownsRow base 33 35 v qs.length (flatQ qs)
theorem OwnR.nil (base : Nat) (w : World) : OwnR base w (.slice none 0 0) [] := World.ownsRow_nil _ _ _ _
theorem OwnR.below {base : Nat} {w w' : World} {v : Value} {qs : List (Pt × Value)} (h : OwnR base w v qs) (hb : Below w.heap.size w w') : OwnR base w' v qs := by
  obtain ⟨h1, h2 | ⟨g, cap, cur, rfl, hb', hg, rest⟩⟩ := h
  · exact ⟨h1, .inl h2⟩
  · exact ⟨h1, .inr ⟨g, cap, cur, rfl, hb', (hb.block g (blk_lt hg)).trans hg, rest⟩⟩
theorem OwnR.block {base : Nat} {w : World} {v : Value} {qs : List (Pt × Value)} (h : OwnR base w v qs) (k : Nat) (hk : v.ownBlock = some k) : base ≤ k := (World.ownsRow.lt h k hk).1
theorem OwnR.rd {base : Nat} {w : World} {v : Value} {qs : List (Pt × Value)} (h : OwnR base w v qs) (hq : GoodQ w.heap.size w qs) : RdP w.heap.size w v qs := by
  refine ⟨hq, ?_⟩
  obtain ⟨h1, ⟨rfl, h0⟩ | ⟨g, cap, cur, rfl, hb, hg, hn, hc, hs, ht⟩⟩ := h
  · have : qs = [] := List.eq_nil_of_length_eq_zero h0
    subst this
    exact (RdP.nil w.heap.size w).2
  · refine ⟨g, 0, ⟨_, cap, rfl, hn, hc, fun _ => rfl, fun h => by cases h⟩, fun j u hj => ?_, fun _ => blk_lt hg⟩
    rw [cell_of_row w g _ cur _ _ hg, Nat.zero_add]
    rw [← ht, List.getElem?_take] at hj
    split at hj
    · rw [← Array.getElem?_toList]; exact hj
    · cases hj
theorem OwnR.zero (w : World) (base : Nat) (hb : base ≤ w.heap.size) : OwnR base (w.alloc (.cells #[] 33)) (.slice (some ⟨w.heap.size, 0, none⟩) 0 0) [] :=
  ⟨rfl, .inr ⟨w.heap.size, 0, #[], rfl, hb, heap_alloc_new w _, Nat.le_refl _, Nat.zero_le _, rfl, rfl⟩⟩
theorem OwnR.mono {base base' : Nat} {w : World} {v : Value} {qs : List (Pt × Value)} (h : OwnR base w v qs) (hb : base' ≤ base) : OwnR base' w v qs := by
  obtain ⟨h1, h2 | ⟨g, cap, cur, rfl, hb', rest⟩⟩ := h
  · exact ⟨h1, .inl h2⟩
  · exact ⟨h1, .inr ⟨g, cap, cur, rfl, Nat.le_trans hb hb', rest⟩⟩
theorem OwnR.form {base : Nat} {w : World} {v : Value} {qs : List (Pt × Value)} (h : OwnR base w v qs) : ∃ a c, v = .slice a qs.length c := by
  obtain ⟨_, ⟨rfl, h0⟩ | ⟨g, cap, cur, rfl, _⟩⟩ := h
  · exact ⟨none, 0, by rw [h0]⟩
  · exact ⟨_, _, rfl⟩
/-- a slice literal of one part -/
theorem wp_build1R {o : Oper} {a : Act} {w : World} {K : Act → World → Prop} {Q : Exit → Act → World → Prop} (x : Operand) (ho : o.op = .buildSlice 69 1 #[(0, x)]) (C : Array Value) (hx : a.eval x = .agg C) (hC : C.size = 35)
    (h : K (a.put o.dst (.slice (some ⟨w.heap.size, 0, none⟩) 1 1)) (w.alloc (.cells C 33))) : o.wp Try.prog a w K Q := by
  obtain ⟨i, hi, hz0, hz1, hz2⟩ := info_parts info_R
  refine wp_buildSlice 69 33 1 #[(0, x)] ho C i (.agg zpart) Try.underlying69 hi hz0 (by rw [hz1]; decide) (by rw [hz1]; decide) ?_ h
  have h1 := Great.fill_whole (s := 35) (by decide) [.agg C] ((Array.range (1 * 35)).map ((Value.agg zpart).cells[· % (Value.agg zpart).cells.size]!)) (fun v hv => by rw [List.mem_singleton.1 hv]; exact hC) (by simp)
  rw [hz1]
  simpa [hx, Value.cells] using h1
theorem wl_build1R {ops : Array Oper} {rest : List Oper} {o : Oper} {a : Act} {w : World} {Q : Exit → Act → World → Prop} (hg : o.guard = none) (x : Operand) (ho : o.op = .buildSlice 69 1 #[(0, x)]) (C : Array Value) (hx : a.eval x = .agg C) (hC : C.size = 35)
    (h : wpList Try.prog ops Q rest (a.put o.dst (.slice (some ⟨w.heap.size, 0, none⟩) 1 1)) (w.alloc (.cells C 33))) : wpList Try.prog ops Q (o :: rest) a w :=
  wpList_plain hg fun _ hK => wp_build1R x ho C hx hC (hK _ _ h)
/-- append(own.., parts...) -/
theorem wl_append_R {w : World} {ops : Array Oper} {rest : List Oper} {o : Oper} {a : Act} {Q : Exit → Act → World → Prop} (hgd : o.guard = none) (s x : Operand)
    (ho : o.op = .call { callee := .builtin .append, args := #[s, x], argTypes := #[69, 69] }) (base : Nat) (v : Value) (qs : List (Pt × Value)) (hs : a.eval s = v) (hown : OwnR base w v qs)
    (y : Value) (hx : a.eval x = y) (b off : Nat) (ms : List (Pt × Value)) (hy : SlV y b off ms.length) (hl : w.rangeAt b off (flatQ ms)) (h32 : ∀ q ∈ ms, q.1.wh.length = 32) (h1 : ∀ u ∈ flatQ ms, u.oneCell' = true) (h63 : qs.length + ms.length ≤ 1000000) (hbase : base ≤ w.heap.size)
    (h : ∀ v' w', OwnR base w' v' (qs ++ ms) → Below base w w' → wpList Try.prog ops Q rest (a.put o.dst v') w') : wpList Try.prog ops Q (o :: rest) a w := by
  obtain ⟨i, hi, hz0, hz1, hz2⟩ := info_parts info_R
  obtain ⟨p, cap, rfl, hcap, hmax, hp, hnone⟩ := hy
  by_cases hm : 0 < ms.length
  · obtain rfl := hp hm
    refine wpList_append_own_at w hgd s x 69 ho base 33 i (.agg zpart) 35 72 Try.underlying69 hi hz0 hz1 hz2 zpart_35R (by omega) v qs.length (flatQ qs) hs hown ⟨b, off, none⟩ ms.length cap (flatQ ms) hx (flatQ_len h32)
      (fun j u hu => by rw [Addr.add_mid]; exact hl j u hu) h1 (by unfold maxLen; omega) (by omega) hbase ?_
    intro v' w' h1 h2 _ h4
    refine h v' w' ?_ ((Below.refl _ _).grown h2 hbase hown.block)
    unfold OwnR
    rw [List.length_append, flatQ_append]
    exact h1
  · have h0 : ms = [] := List.eq_nil_of_length_eq_zero (by omega)
    subst h0
    have hown2 : OwnR base w v (qs ++ []) := by rw [List.append_nil]; exact hown
    cases p with
    | none =>
      obtain rfl := hnone rfl
      exact wpList_append_own_none hgd s x 69 ho base 33 i 35 Try.underlying69 hi v qs.length (flatQ qs) hs hown hx (h v w hown2 (Below.refl _ _))
    | some ad =>
      refine wpList_append_own_at w hgd s x 69 ho base 33 i (.agg zpart) 35 72 Try.underlying69 hi hz0 hz1 hz2 zpart_35R (by omega) v qs.length (flatQ qs) hs hown ad 0 cap [] hx (by simp)
        (fun j u hu => by simp at hu) (fun u hu => by simp at hu) (by simp at h63; unfold maxLen; omega) (by simp at h63; omega) hbase ?_
      intro v' w' h1 h2 _ h4
      refine h v' w' ?_ ((Below.refl _ _).grown h2 hbase hown.block)
      unfold OwnR
      rw [List.append_nil]
      simpa using h1
/-- append(own.., part), at the operation -/
theorem wp_append1R {o : Oper} {a : Act} {w : World} {K : Act → World → Prop} {Q : Exit → Act → World → Prop} (s x : Operand)
    (ho : o.op = .call { callee := .builtin .append, args := #[s, x], argTypes := #[69, 69] }) (base : Nat) (v : Value) (qs : List (Pt × Value)) (hs : a.eval s = v) (hown : OwnR base w v qs)
    (b off c : Nat) (hx : a.eval x = .slice (some ⟨b, off, none⟩) 1 c) (q : Pt × Value) (hl : w.rangeAt b off (qC q)) (h32 : q.1.wh.length = 32) (h1 : q.2.oneCell' = true) (h63 : qs.length ≤ 1000000) (hbase : base ≤ w.heap.size)
    (h : ∀ v' w', OwnR base w' v' (qs ++ [q]) → Below base w w' → K (a.put o.dst v') w') : o.wp Try.prog a w K Q := by
  obtain ⟨i, hi, hz0, hz1, hz2⟩ := info_parts info_R
  obtain ⟨v', w', hr, h2, h3, _, _⟩ := run_append_own_at (P := Try.prog) w base 69 o.type 33 i (.agg zpart) 35 72 Try.underlying69 hi hz0 hz1 hz2 zpart_35R (by omega) v qs.length (flatQ qs) hown ⟨b, off, none⟩ 1 c (qC q) (by rw [qC_len h32])
    (fun j u hu => by rw [Addr.add_mid]; exact hl j u hu) (qC_one h1) (by unfold maxLen; omega) (by omega) hbase
  unfold Oper.wp execOp
  simp only [ho, resolve, invoke, builtin, Sem.run_bind, Sem.run_pure, Result.andThen_ok, List.map_toArray, List.map_cons, List.map_nil, hs, hx, hr]
  refine h v' w' ?_ ((Below.refl _ _).grown h3 hbase hown.block)
  unfold OwnR
  rw [List.length_append, flatQ_append]
  simpa [flatQ] using h2
theorem wl_append1R {ops : Array Oper} {rest : List Oper} {o : Oper} {a : Act} {w : World} {Q : Exit → Act → World → Prop} (hgd : o.guard = none) (s x : Operand)
    (ho : o.op = .call { callee := .builtin .append, args := #[s, x], argTypes := #[69, 69] }) (base : Nat) (v : Value) (qs : List (Pt × Value)) (hs : a.eval s = v) (hown : OwnR base w v qs)
    (b off c : Nat) (hx : a.eval x = .slice (some ⟨b, off, none⟩) 1 c) (q : Pt × Value) (hl : w.rangeAt b off (qC q)) (h32 : q.1.wh.length = 32) (h1 : q.2.oneCell' = true) (h63 : qs.length ≤ 1000000) (hbase : base ≤ w.heap.size)
    (h : ∀ v' w', OwnR base w' v' (qs ++ [q]) → Below base w w' → wpList Try.prog ops Q rest (a.put o.dst v') w') : wpList Try.prog ops Q (o :: rest) a w :=
  wpList_plain hgd fun _ hK => wp_append1R s x ho base v qs hs hown b off c hx q hl h32 h1 h63 hbase fun v' w' h2 h3 => hK _ _ (h v' w' h2 h3)
/-- append(own.., parts..), at the operation, the other slice at an address -/
theorem wp_appendR {o : Oper} {a : Act} {w : World} {K : Act → World → Prop} {Q : Exit → Act → World → Prop} (s x : Operand)
    (ho : o.op = .call { callee := .builtin .append, args := #[s, x], argTypes := #[69, 69] }) (base : Nat) (v : Value) (qs : List (Pt × Value)) (hs : a.eval s = v) (hown : OwnR base w v qs)
    (b off m c : Nat) (hx : a.eval x = .slice (some ⟨b, off, none⟩) m c) (ms : List (Pt × Value)) (hm : ms.length = m) (hl : w.rangeAt b off (flatQ ms)) (h32 : ∀ q ∈ ms, q.1.wh.length = 32) (h1 : ∀ u ∈ flatQ ms, u.oneCell' = true) (h63 : qs.length + m ≤ 1000000) (hbase : base ≤ w.heap.size)
    (h : ∀ v' w', OwnR base w' v' (qs ++ ms) → Below base w w' → K (a.put o.dst v') w') : o.wp Try.prog a w K Q := by
  subst hm
  obtain ⟨i, hi, hz0, hz1, hz2⟩ := info_parts info_R
  obtain ⟨v', w', hr, h2, h3, _, _⟩ := run_append_own_at (P := Try.prog) w base 69 o.type 33 i (.agg zpart) 35 72 Try.underlying69 hi hz0 hz1 hz2 zpart_35R (by omega) v qs.length (flatQ qs) hown ⟨b, off, none⟩ ms.length c (flatQ ms) (flatQ_len h32)
    (fun j u hu => by rw [Addr.add_mid]; exact hl j u hu) h1 (by unfold maxLen; omega) (by omega) hbase
  unfold Oper.wp execOp
  simp only [ho, resolve, invoke, builtin, Sem.run_bind, Sem.run_pure, Result.andThen_ok, List.map_toArray, List.map_cons, List.map_nil, hs, hx, hr]
  refine h v' w' ?_ ((Below.refl _ _).grown h3 hbase hown.block)
  unfold OwnR
  rw [List.length_append, flatQ_append]
  exact h2
end Go.Proofs.Ytjnimbhecfpnmaa
