/- Slices of structs, or of strings, of whatever type: slices that are read, slices of the call's own and 'append' to them; literals of one. -/
import Derived.Test.YtagdlbadkmgdmaaDoorGrow
import Derived.TacticsIn
import Derived.OwnWalkIn
import Derived.Test.YtagdlbadkmgdmaaDoorFirst
import Derived.Great.BuildSlice
namespace Go.Proofs.YtagdlbadkmgdmaaDoor
set_option maxRecDepth 100000
open Go.ChangeShapes Go.WideShapes Go.ChangeAt Go.RowKit

/-- a fact kept out of the walk's sight: no proposition, so that no tactic gathers it -/
structure Bx (P : Prop) : Type where
  out : P
def bx {P : Prop} (h : P) : Bx P := ⟨h⟩
theorem later {w wx : World} {a : Addr} {v : Value} (hb : Below w.heap.size w wx) (h : w.cell? a = some v) : wx.cell? a = some v := (hb.cell (block_lt_of_cell h)).trans h
/-- a type of elements: itself, its slices' type, its cells, its bytes, its zero -/
structure Sh where
  t : TypeId
  st : TypeId
  n : Nat
  by' : Nat
  z : Value
structure Sh.Ok (S : Sh) : Prop where
  info : ∃ i, Tryd.prog.info? S.t = some i ∧ i.zero = some S.z ∧ i.size = S.n ∧ i.bytes = S.by'
  und : Tryd.prog.underlying S.st = some (.slice S.t)
  zc : S.z.cells.size = S.n
  n0 : 0 < S.n
  n1 : S.n ≤ 1000
  b1 : S.by' ≤ 1000
abbrev Rows' := List (List Value)
theorem flat_len {n : Nat} : ∀ {rs : Rows'}, (∀ r ∈ rs, r.length = n) → rs.flatten.length = rs.length * n
  | [], _ => by simp
  | r :: rs, h => by
    rw [List.flatten_cons, List.length_append, h r List.mem_cons_self, flat_len (fun x hx => h x (List.mem_cons_of_mem _ hx)), List.length_cons, Nat.succ_mul]
    omega
theorem flat_get {n : Nat} {rs : Rows'} (h : ∀ r ∈ rs, r.length = n) {i : Nat} (hi : i < rs.length) {j : Nat} (hj : j < n) : rs.flatten[i * n + j]? = rs[i][j]? := by
  induction rs generalizing i with
  | nil => simp at hi
  | cons r rs ih =>
    have hr := h r List.mem_cons_self
    rw [List.flatten_cons]
    cases i with
    | zero =>
      rw [Nat.zero_mul, Nat.zero_add, List.getElem?_append_left (by omega)]
      rfl
    | succ i =>
      rw [Nat.succ_mul, List.getElem?_append_right (by omega), hr, show i * n + n + j - n = i * n + j by omega, ih (fun x hx => h x (List.mem_cons_of_mem _ hx)) (by simpa using hi)]
      rfl
theorem flat_take {n : Nat} {rs : Rows'} (h : ∀ r ∈ rs, r.length = n) (k : Nat) (hk : k ≤ rs.length) : rs.flatten.take (k * n) = (rs.take k).flatten := by
  have e : rs.flatten = (rs.take k).flatten ++ (rs.drop k).flatten := by rw [← List.flatten_append, List.take_append_drop]
  have hl : (rs.take k).flatten.length = k * n := by rw [flat_len (fun q hq => h q (List.mem_of_mem_take hq)), List.length_take, Nat.min_eq_left hk]
  rw [e, ← hl, List.take_left]
theorem flat_drop {n : Nat} {rs : Rows'} (h : ∀ r ∈ rs, r.length = n) (k : Nat) (hk : k ≤ rs.length) : rs.flatten.drop (k * n) = (rs.drop k).flatten := by
  have e : rs.flatten = (rs.take k).flatten ++ (rs.drop k).flatten := by rw [← List.flatten_append, List.take_append_drop]
  have hl : (rs.take k).flatten.length = k * n := by rw [flat_len (fun q hq => h q (List.mem_of_mem_take hq)), List.length_take, Nat.min_eq_left hk]
  rw [e, ← hl, List.drop_left]
/-- v is a slice of these rows, which can be read -/
def RdG (n base : Nat) (w : World) (v : Value) (rs : Rows') : Prop :=
  (∀ r ∈ rs, r.length = n) ∧ ∃ g o, SlV v g o rs.length ∧ w.rangeAt g o rs.flatten ∧ (0 < rs.length → g < base)
theorem RdG.mono {n base base' : Nat} {w : World} {v : Value} {rs : Rows'} (h : RdG n base w v rs) (hb : base ≤ base') : RdG n base' w v rs := by
  obtain ⟨h0, g, o, h1, h2, h3⟩ := h
  exact ⟨h0, g, o, h1, h2, fun h => Nat.lt_of_lt_of_le (h3 h) hb⟩
theorem RdG.below {n base : Nat} {w w' : World} {v : Value} {rs : Rows'} (h : RdG n base w v rs) (hb : Below base w w') : RdG n base w' v rs := by
  obtain ⟨h0, g, o, h1, h2, h3⟩ := h
  refine ⟨h0, g, o, h1, fun j u hj => (hb.cell (h3 ?_)).trans (h2 j u hj), h3⟩
  rcases Nat.eq_zero_or_pos rs.length with h | h
  · have : rs = [] := List.eq_nil_of_length_eq_zero h
    subst this
    simp at hj
  · exact h
theorem RdG.to {n : Nat} {w w' : World} {v : Value} {rs : Rows'} (h : RdG n w.heap.size w v rs) (hb : Below w.heap.size w w') : RdG n w'.heap.size w' v rs := (h.below hb).mono hb.size
theorem RdG.nil (n base : Nat) (w : World) : RdG n base w (.slice none 0 0) [] := ⟨fun q hq => by simp at hq, 0, 0, ⟨none, 0, rfl, Nat.le_refl _, Nat.zero_le _, fun h => by simp at h, fun _ => rfl⟩, fun j u hj => by simp at hj, fun h => by simp at h⟩
theorem RdG.form {n base : Nat} {w : World} {v : Value} {rs : Rows'} (h : RdG n base w v rs) : ∃ a c, v = .slice a rs.length c := by
  obtain ⟨_, _, _, ⟨a, c, rfl, _⟩, _⟩ := h
  exact ⟨a, c, rfl⟩
/-- the i-th row, as a load meets it -/
theorem rangeG_get {n : Nat} {w : World} {g o : Nat} {rs : Rows'} (h : w.rangeAt g o rs.flatten) (hn : ∀ r ∈ rs, r.length = n) {i : Nat} (hi : i < rs.length) : w.rangeAt g (o + i * n) rs[i] := fun j u hj => by
  have hjl : j < n := by
    have := (List.getElem?_eq_some_iff.1 hj).1
    rwa [hn _ (List.getElem_mem hi)] at this
  have := h (i * n + j) u (by rw [flat_get hn hi hjl]; exact hj)
  rw [show o + i * n + j = o + (i * n + j) by omega]
  exact this
theorem rangeG_drop {n : Nat} {w : World} {g o : Nat} {rs : Rows'} (h : w.rangeAt g o rs.flatten) (hn : ∀ r ∈ rs, r.length = n) {k : Nat} (hk : k ≤ rs.length) : w.rangeAt g (o + k * n) (rs.drop k).flatten := fun j u hj => by
  rw [← flat_drop hn k hk, List.getElem?_drop] at hj
  rw [show o + k * n + j = o + (k * n + j) by omega]
  exact h _ u hj
theorem rangeG_take {n : Nat} {w : World} {g o : Nat} {rs : Rows'} (h : w.rangeAt g o rs.flatten) (hn : ∀ r ∈ rs, r.length = n) {k : Nat} (hk : k ≤ rs.length) : w.rangeAt g o (rs.take k).flatten := fun j u hj => by
  rw [← flat_take hn k hk, List.getElem?_take] at hj
  split at hj
  · exact h _ u hj
  · cases hj
def oneR (rs : Rows') : Prop := ∀ r ∈ rs, ∀ u ∈ r, u.oneCell' = true
theorem oneR.flat {rs : Rows'} (h : oneR rs) : ∀ u ∈ rs.flatten, u.oneCell' = true := fun u hu => by
  obtain ⟨r, hr, hu⟩ := List.mem_flatten.1 hu
  exact h r hr u hu
/-- v is a slice of the call's own, of these rows -/
def OwnG (S : Sh) (base : Nat) (w : World) (v : Value) (rs : Rows') : Prop := w.ownsRow base S.t S.n v rs.length rs.flatten
theorem OwnG.nil (S : Sh) (base : Nat) (w : World) : OwnG S base w (.slice none 0 0) [] := World.ownsRow_nil _ _ _ _
theorem OwnG.below {S : Sh} {base : Nat} {w w' : World} {v : Value} {rs : Rows'} (h : OwnG S base w v rs) (hb : Below w.heap.size w w') : OwnG S base w' v rs := by
  obtain ⟨h1, h2 | ⟨g, cap, cur, rfl, hb', hg, rest⟩⟩ := h
  · exact ⟨h1, .inl h2⟩
  · exact ⟨h1, .inr ⟨g, cap, cur, rfl, hb', (hb.block g (blk_lt hg)).trans hg, rest⟩⟩
theorem OwnG.block {S : Sh} {base : Nat} {w : World} {v : Value} {rs : Rows'} (h : OwnG S base w v rs) (k : Nat) (hk : v.ownBlock = some k) : base ≤ k := (World.ownsRow.lt h k hk).1
theorem OwnG.rd {S : Sh} {base : Nat} {w : World} {v : Value} {rs : Rows'} (h : OwnG S base w v rs) (hq : ∀ r ∈ rs, r.length = S.n) : RdG S.n w.heap.size w v rs := by
  refine ⟨hq, ?_⟩
  obtain ⟨h1, ⟨rfl, h0⟩ | ⟨g, cap, cur, rfl, hb, hg, hn, hc, hs, ht⟩⟩ := h
  · have : rs = [] := List.eq_nil_of_length_eq_zero h0
    subst this
    exact (RdG.nil S.n w.heap.size w).2
  · refine ⟨g, 0, ⟨_, cap, rfl, hn, hc, fun _ => rfl, fun h => by cases h⟩, fun j u hj => ?_, fun _ => blk_lt hg⟩
    rw [cell_of_row w g _ cur _ _ hg, Nat.zero_add]
    rw [← ht, List.getElem?_take] at hj
    split at hj
    · rw [← Array.getElem?_toList]; exact hj
    · cases hj
theorem OwnG.zero (S : Sh) (w : World) (base : Nat) (hb : base ≤ w.heap.size) : OwnG S base (w.alloc (.cells #[] S.t)) (.slice (some ⟨w.heap.size, 0, none⟩) 0 0) [] :=
  ⟨by simp, .inr ⟨w.heap.size, 0, #[], rfl, hb, heap_alloc_new w _, Nat.le_refl _, Nat.zero_le _, by simp, by simp⟩⟩
theorem OwnG.mono {S : Sh} {base base' : Nat} {w : World} {v : Value} {rs : Rows'} (h : OwnG S base w v rs) (hb : base' ≤ base) : OwnG S base' w v rs := by
  obtain ⟨h1, h2 | ⟨g, cap, cur, rfl, hb', rest⟩⟩ := h
  · exact ⟨h1, .inl h2⟩
  · exact ⟨h1, .inr ⟨g, cap, cur, rfl, Nat.le_trans hb hb', rest⟩⟩
theorem OwnG.form {S : Sh} {base : Nat} {w : World} {v : Value} {rs : Rows'} (h : OwnG S base w v rs) : ∃ a c, v = .slice a rs.length c := by
  obtain ⟨_, ⟨rfl, h0⟩ | ⟨g, cap, cur, rfl, _⟩⟩ := h
  · exact ⟨none, 0, by rw [h0]⟩
  · exact ⟨_, _, rfl⟩
/-- a slice literal of one -/
theorem wp_build1G (S : Sh) (hS : S.Ok) {o : Oper} {a : Act} {w : World} {K : Act → World → Prop} {Q : Exit → Act → World → Prop} (x : Operand) (ho : o.op = .buildSlice S.st 1 #[(0, x)]) (C : Value) (hx : a.eval x = C) (hC : C.cells.size = S.n)
    (h : K (a.put o.dst (.slice (some ⟨w.heap.size, 0, none⟩) 1 1)) (w.alloc (.cells C.cells S.t))) : o.wp Tryd.prog a w K Q := by
  obtain ⟨i, hi, hz0, hz1, hz2⟩ := hS.info
  have hn0 := hS.n0
  have hn1 := hS.n1
  refine wp_buildSlice S.st S.t 1 #[(0, x)] ho C.cells i S.z hS.und hi hz0 (by rw [hz1]; omega) (by rw [hz1]; omega) ?_ h
  have h1 := Great.fill_whole (s := S.n) hn0 [C] ((Array.range (1 * S.n)).map (S.z.cells[· % S.z.cells.size]!)) (fun v hv => by rw [List.mem_singleton.1 hv]; exact hC) (by simp)
  rw [hz1]
  simpa [hx] using h1
theorem wl_build1G (S : Sh) (hS : S.Ok) {ops : Array Oper} {rest : List Oper} {o : Oper} {a : Act} {w : World} {Q : Exit → Act → World → Prop} (hg : o.guard = none) (x : Operand) (ho : o.op = .buildSlice S.st 1 #[(0, x)]) (C : Value) (hx : a.eval x = C) (hC : C.cells.size = S.n)
    (h : wpList Tryd.prog ops Q rest (a.put o.dst (.slice (some ⟨w.heap.size, 0, none⟩) 1 1)) (w.alloc (.cells C.cells S.t))) : wpList Tryd.prog ops Q (o :: rest) a w :=
  wpList_plain hg fun _ hK => wp_build1G S hS x ho C hx hC (hK _ _ h)
/-- append(own.., rows...) -/
theorem wl_append_G (S : Sh) (hS : S.Ok) {w : World} {ops : Array Oper} {rest : List Oper} {o : Oper} {a : Act} {Q : Exit → Act → World → Prop} (hgd : o.guard = none) (s x : Operand)
    (ho : o.op = .call { callee := .builtin .append, args := #[s, x], argTypes := #[S.st, S.st] }) (base : Nat) (v : Value) (rs : Rows') (hs : a.eval s = v) (hown : OwnG S base w v rs)
    (y : Value) (hx : a.eval x = y) (b off : Nat) (ms : Rows') (hy : SlV y b off ms.length) (hl : w.rangeAt b off ms.flatten) (h32 : ∀ r ∈ ms, r.length = S.n) (h1 : oneR ms) (h63 : rs.length + ms.length ≤ 1000000) (hbase : base ≤ w.heap.size)
    (h : ∀ v' w', OwnG S base w' v' (rs ++ ms) → Below base w w' → wpList Tryd.prog ops Q rest (a.put o.dst v') w') : wpList Tryd.prog ops Q (o :: rest) a w := by
  obtain ⟨i, hi, hz0, hz1, hz2⟩ := hS.info
  have hn0 := hS.n0
  have hn1 := hS.n1
  have hb1 := hS.b1
  obtain ⟨p, cap, rfl, hcap, hmax, hp, hnone⟩ := hy
  have hprod : (rs.length + ms.length) * S.by' ≤ 1000000 * 1000 := Nat.mul_le_mul h63 hb1
  by_cases hm : 0 < ms.length
  · obtain rfl := hp hm
    refine wpList_append_own_at w hgd s x S.st ho base S.t i S.z S.n S.by' hS.und hi hz0 hz1 hz2 hS.zc (by omega) v rs.length rs.flatten hs hown ⟨b, off, none⟩ ms.length cap ms.flatten hx (flat_len h32)
      (fun j u hu => by rw [Addr.add_mid]; exact hl j u hu) h1.flat (by unfold maxLen; omega) (by omega) hbase ?_
    intro v' w' h1 h2 _ h4
    refine h v' w' ?_ ((Below.refl _ _).grown h2 hbase hown.block)
    unfold OwnG
    rw [List.length_append, List.flatten_append]
    exact h1
  · have h0 : ms = [] := List.eq_nil_of_length_eq_zero (by omega)
    subst h0
    have hown2 : OwnG S base w v (rs ++ []) := by rw [List.append_nil]; exact hown
    cases p with
    | none =>
      obtain rfl := hnone rfl
      exact wpList_append_own_none hgd s x S.st ho base S.t i S.n hS.und hi v rs.length rs.flatten hs hown hx (h v w hown2 (Below.refl _ _))
    | some ad =>
      refine wpList_append_own_at w hgd s x S.st ho base S.t i S.z S.n S.by' hS.und hi hz0 hz1 hz2 hS.zc (by omega) v rs.length rs.flatten hs hown ad 0 cap [] hx (by simp)
        (fun j u hu => by simp at hu) (fun u hu => by simp at hu) (by simp at h63; unfold maxLen; omega) (by have h := hprod; rw [List.length_nil] at h; omega) hbase ?_
      intro v' w' h1 h2 _ h4
      refine h v' w' ?_ ((Below.refl _ _).grown h2 hbase hown.block)
      unfold OwnG
      rw [List.append_nil]
      simpa using h1
/-- append(own.., one), at the operation -/
theorem wp_append1G (S : Sh) (hS : S.Ok) {o : Oper} {a : Act} {w : World} {K : Act → World → Prop} {Q : Exit → Act → World → Prop} (s x : Operand)
    (ho : o.op = .call { callee := .builtin .append, args := #[s, x], argTypes := #[S.st, S.st] }) (base : Nat) (v : Value) (rs : Rows') (hs : a.eval s = v) (hown : OwnG S base w v rs)
    (b off c : Nat) (hx : a.eval x = .slice (some ⟨b, off, none⟩) 1 c) (r : List Value) (hl : w.rangeAt b off r) (h32 : r.length = S.n) (h1 : ∀ u ∈ r, u.oneCell' = true) (h63 : rs.length ≤ 1000000) (hbase : base ≤ w.heap.size)
    (h : ∀ v' w', OwnG S base w' v' (rs ++ [r]) → Below base w w' → K (a.put o.dst v') w') : o.wp Tryd.prog a w K Q := by
  obtain ⟨i, hi, hz0, hz1, hz2⟩ := hS.info
  have hn0 := hS.n0
  have hn1 := hS.n1
  have hb1 := hS.b1
  have hprod : (rs.length + 1) * S.by' ≤ 1000001 * 1000 := Nat.mul_le_mul (by omega) hb1
  obtain ⟨v', w', hr, h2, h3, _, _⟩ := run_append_own_at (P := Tryd.prog) w base S.st o.type S.t i S.z S.n S.by' hS.und hi hz0 hz1 hz2 hS.zc (by omega) v rs.length rs.flatten hown ⟨b, off, none⟩ 1 c r (by rw [h32]; omega)
    (fun j u hu => by rw [Addr.add_mid]; exact hl j u hu) h1 (by unfold maxLen; omega) (by omega) hbase
  unfold Oper.wp execOp
  simp only [ho, resolve, invoke, builtin, Sem.run_bind, Sem.run_pure, Result.andThen_ok, List.map_toArray, List.map_cons, List.map_nil, hs, hx, hr]
  refine h v' w' ?_ ((Below.refl _ _).grown h3 hbase hown.block)
  unfold OwnG
  rw [List.length_append, List.flatten_append]
  simpa using h2
theorem wl_append1G (S : Sh) (hS : S.Ok) {ops : Array Oper} {rest : List Oper} {o : Oper} {a : Act} {w : World} {Q : Exit → Act → World → Prop} (hgd : o.guard = none) (s x : Operand)
    (ho : o.op = .call { callee := .builtin .append, args := #[s, x], argTypes := #[S.st, S.st] }) (base : Nat) (v : Value) (rs : Rows') (hs : a.eval s = v) (hown : OwnG S base w v rs)
    (b off c : Nat) (hx : a.eval x = .slice (some ⟨b, off, none⟩) 1 c) (r : List Value) (hl : w.rangeAt b off r) (h32 : r.length = S.n) (h1 : ∀ u ∈ r, u.oneCell' = true) (h63 : rs.length ≤ 1000000) (hbase : base ≤ w.heap.size)
    (h : ∀ v' w', OwnG S base w' v' (rs ++ [r]) → Below base w w' → wpList Tryd.prog ops Q rest (a.put o.dst v') w') : wpList Tryd.prog ops Q (o :: rest) a w :=
  wpList_plain hgd fun _ hK => wp_append1G S hS s x ho base v rs hs hown b off c hx r hl h32 h1 h63 hbase fun v' w' h2 h3 => hK _ _ (h v' w' h2 h3)
end Go.Proofs.YtagdlbadkmgdmaaDoor
