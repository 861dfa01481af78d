/- Slices of slices of bytes that a call made itself, and 'append' of one slice to them. -/
import Derived.Test.YtjnimbhecfpnmaaEncode
import Derived.TacticsIn
import Derived.OwnWalkIn
namespace Go.Proofs.Ytjnimbhecfpnmaa
set_option maxRecDepth 100000
open Go.ChangeShapes Go.WideShapes Go.ChangeAt Go.RowKit

theorem info_sl : (Try.prog.info? 24).map (fun i => (i.zero, i.size, i.bytes)) = some (some (.slice none 0 0), 1, 24) := by kernel_rfl
theorem Own.keep {base : Nat} {w w' : World} {v : Value} {l : List Int} (h : Own base w v l) (H : ∀ k cs, base ≤ k → w.heap[k]? = some (.cells cs 5 (0, 0)) → w'.heap[k]? = some (.cells cs 5 (0, 0))) : Own base w' v l := by
  obtain ⟨h1, h2 | ⟨g, cap, cur, rfl, hb, hg, rest⟩⟩ := h
  · exact ⟨h1, .inl h2⟩
  · exact ⟨h1, .inr ⟨g, cap, cur, rfl, hb, H g cur hb hg, rest⟩⟩
theorem Own.one {base : Nat} {w : World} {v : Value} {l : List Int} (h : Own base w v l) : v.oneCell' = true := by
  obtain ⟨_, ⟨rfl, _⟩ | ⟨_, _, _, rfl, _⟩⟩ := h <;> rfl
/-- v is a slice of the call's own, of slices of its own, of the bytes ls -/
def OwnS (base : Nat) (w : World) (v : Value) (ls : List (List Int)) : Prop :=
  ∃ vs : List Value, w.ownsRow base 24 1 v ls.length vs ∧ vs.length = ls.length ∧ ∀ i, i < ls.length → ∃ x, vs[i]? = some x ∧ Own base w x (ls.getD i [])
theorem OwnS.nil (base : Nat) (w : World) : OwnS base w (.slice none 0 0) [] := ⟨[], World.ownsRow_nil _ _ _ _, rfl, fun i h => by simp at h⟩
theorem OwnS.keep {base : Nat} {w w' : World} {v : Value} {ls : List (List Int)} (h : OwnS base w v ls) (H : ∀ k cs t, base ≤ k → w.heap[k]? = some (.cells cs t (0, 0)) → w'.heap[k]? = some (.cells cs t (0, 0))) : OwnS base w' v ls := by
  obtain ⟨vs, ⟨h1, h2⟩, h3, h4⟩ := h
  refine ⟨vs, ?_, h3, fun i hi => ?_⟩
  · rcases h2 with h2 | ⟨g, cap, cur, rfl, hb, hg, rest⟩
    · exact ⟨h1, .inl h2⟩
    · exact ⟨h1, .inr ⟨g, cap, cur, rfl, hb, H g cur _ hb hg, rest⟩⟩
  · obtain ⟨x, hx, ho⟩ := h4 i hi
    exact ⟨x, hx, ho.keep fun k cs hk hg => H k cs _ hk hg⟩
theorem OwnS.below {base : Nat} {w w' : World} {v : Value} {ls : List (List Int)} (h : OwnS base w v ls) (hb : Below w.heap.size w w') : OwnS base w' v ls :=
  h.keep fun k _ _ _ hk => (hb.block k (blk_lt hk)).trans hk
theorem OwnS.own_block {base : Nat} {w : World} {v : Value} {ls : List (List Int)} (h : OwnS base w v ls) (k : Nat) (hk : v.ownBlock = some k) : base ≤ k := by
  obtain ⟨vs, h1, _⟩ := h
  exact (World.ownsRow.lt h1 k hk).1
theorem OwnS.mono {base base' : Nat} {w : World} {v : Value} {ls : List (List Int)} (h : OwnS base w v ls) (hb : base' ≤ base) : OwnS base' w v ls := by
  obtain ⟨vs, ⟨h1, h2⟩, h3, h4⟩ := h
  refine ⟨vs, ?_, h3, fun i hi => ?_⟩
  · rcases h2 with h2 | ⟨g, cap, cur, rfl, hb', hg, rest⟩
    · exact ⟨h1, .inl h2⟩
    · exact ⟨h1, .inr ⟨g, cap, cur, rfl, Nat.le_trans hb hb', hg, rest⟩⟩
  · obtain ⟨x, hx, ho⟩ := h4 i hi
    exact ⟨x, hx, ho.mono hb⟩
/-- the value's form -/
theorem OwnS.form {base : Nat} {w : World} {v : Value} {ls : List (List Int)} (h : OwnS base w v ls) : ∃ a cap, v = .slice a ls.length cap ∧ (a = none → ls.length = 0) ∧ ∀ i, i < ls.length → ∃ g x, a = some ⟨g, 0, none⟩ ∧ base ≤ g ∧ w.cell? ⟨g, i, none⟩ = some x ∧ Own base w x (ls.getD i []) := by
  obtain ⟨vs, ⟨h1, h2⟩, h3, h4⟩ := h
  rcases h2 with ⟨rfl, h0⟩ | ⟨g, cap, cur, rfl, hb, hg, hn, hc, hs, ht⟩
  · exact ⟨none, 0, by rw [h0], fun _ => h0, fun i hi => by omega⟩
  · refine ⟨_, cap, rfl, fun h => (by cases h), fun i hi => ?_⟩
    obtain ⟨x, hx, ho⟩ := h4 i hi
    refine ⟨g, x, rfl, hb, ?_, ho⟩
    rw [cell_of_row w g _ cur _ _ hg, ← Array.getElem?_toList, ← hx, ← ht, List.getElem?_take_of_lt (by omega)]
theorem run_append_s (w : World) (base : Nat) (v : Value) (ls : List (List Int)) (hown : OwnS base w v ls) (hlen : ls.length ≤ 10000000) (g : Nat) (x : Value) (l : List Int) (hx : w.cell? ⟨g, 0, none⟩ = some x) (ho : Own base w x l) (c : Nat) (hbase : base ≤ w.heap.size) (ty : TypeId) :
    ∃ v' w', (Builtin.append_ #[42, 42] ty #[v, .slice (some ⟨g, 0, none⟩) 1 c]).run Try.prog w = .ok v' w' ∧ OwnS base w' v' (ls ++ [l]) ∧ w.grownBy w' v.ownBlock ∧ (v'.ownBlock = v.ownBlock ∨ v'.ownBlock = some w.heap.size) := by
  obtain ⟨i, hi, hz0, hz1, hz2⟩ := info_parts info_sl
  obtain ⟨vs, h1, h3, h4⟩ := hown
  obtain ⟨v', w', hrun, r1, r2, _, r4⟩ := run_append_own_at (P := Try.prog) w base 42 ty 24 i (.slice none 0 0) 1 24 Try.underlying42 hi hz0 hz1 hz2 rfl (by omega) v ls.length vs h1 ⟨g, 0, none⟩ 1 c [x] rfl
    (fun j u hu => by
      have hj : j = 0 := by
        have := (List.getElem?_eq_some_iff.1 hu).1
        simpa using this
      subst hj
      simp at hu
      subst hu
      simpa [Addr.add] using hx) (fun u hu => by rw [List.mem_singleton.1 hu]; exact ho.one) (by unfold maxLen; omega) (by omega) hbase
  refine ⟨v', w', hrun, ⟨vs ++ [x], by rw [List.length_append]; exact r1, by simp [h3], fun j hj => ?_⟩, r2, r4⟩
  have H : ∀ k cs, base ≤ k → w.heap[k]? = some (.cells cs 5 (0, 0)) → w'.heap[k]? = some (.cells cs 5 (0, 0)) := fun k cs _ hk => by
    refine (r2.block k (blk_lt hk) (fun e => ?_)).trans hk
    obtain ⟨_, ⟨rfl, _⟩ | ⟨g', cap, cur, rfl, _, hg', _⟩⟩ := h1
    · cases e
    · simp [Value.ownBlock] at e
      subst e
      rw [hk] at hg'
      injection hg' with hg'
      injection hg' with _ e2
      cases e2
  rw [List.length_append] at hj
  simp only [List.length_cons, List.length_nil] at hj
  by_cases hlt : j < ls.length
  · obtain ⟨y, hy, hoy⟩ := h4 j hlt
    refine ⟨y, by rw [List.getElem?_append_left (by omega)]; exact hy, ?_⟩
    have e : (ls ++ [l]).getD j [] = ls.getD j [] := by simp [List.getD, List.getElem?_append_left hlt]
    rw [e]
    exact hoy.keep H
  · obtain rfl : j = ls.length := by omega
    refine ⟨x, by rw [← h3]; simp, ?_⟩
    have e : (ls ++ [l]).getD ls.length [] = l := by simp [List.getD]
    rw [e]
    exact ho.keep H
theorem wl_append_s {w : World} {ops : Array Oper} {rest : List Oper} {o : Oper} {a : Act} {Q : Exit → Act → World → Prop} (hgd : o.guard = none) (s y : Operand)
    (hop : o.op = .call { callee := .builtin .append, args := #[s, y], argTypes := #[42, 42] }) (base : Nat) (v : Value) (ls : List (List Int)) (hs : a.eval s = v) (hown : OwnS base w v ls) (hlen : ls.length ≤ 10000000)
    (g c : Nat) (hy : a.eval y = .slice (some ⟨g, 0, none⟩) 1 c) (x : Value) (l : List Int) (hx : w.cell? ⟨g, 0, none⟩ = some x) (ho : Own base w x l) (hbase : base ≤ w.heap.size)
    (h : ∀ v' w', OwnS base w' v' (ls ++ [l]) → w.grownBy w' v.ownBlock → (v'.ownBlock = v.ownBlock ∨ v'.ownBlock = some w.heap.size) → wpList Try.prog ops Q rest (a.put o.dst v') w') : wpList Try.prog ops Q (o :: rest) a w := by
  obtain ⟨v', w', hrun, r1, r2, r3⟩ := run_append_s w base v ls hown hlen g x l hx ho c hbase o.type
  refine wpList_plain hgd fun K hK => ?_
  unfold Oper.wp execOp
  simp only [hop, resolve, invoke, builtin, Sem.run_bind, Sem.run_pure, Result.andThen_ok, List.map_toArray, List.map_cons, List.map_nil, hs, hy, hrun]
  exact hK _ _ (h v' w' r1 r2 r3)
section
variable {F : Fence} {n : Nat} {P : Program} {ops : Array Oper} {rest : List Oper} {o : Oper} {a : Act} {w : World} {Q : Exit → Act → World → Prop}
/-- in a fence: an operation that comes to a value -/
theorem wlI_run (hgd : o.guard = none) (hnd : ∀ c, o.op ≠ .defer c) (hab : o.about P w a.eval = none) (v : Value) (w' : World) (hrun : (execOp a.eval o).run P w = .ok (.value v) w') (h : wpListIn F n P ops Q rest (a.put o.dst v) w') : wpListIn F n P ops Q (o :: rest) a w := by
  refine wpListIn_plain hgd fun K hK => ?_
  unfold Oper.wpIn
  refine ⟨fun f hf => (by rw [hab] at hf; cases hf), ?_⟩
  rw [Oper.semAt_plain F _ _ hnd, hrun]
  exact hK _ _ h
theorem wlI_load_row (hgd : o.guard = none) (ty : TypeId) (x : Operand) (ho : o.op = .load ty x) (g : Nat) (hx : a.eval x = .pointer (some ⟨g, 0, none⟩)) (t : TypeId) (cs : Array Value) (fr : Nat × Nat) (d : TypeDesc)
    (hg : w.heap[g]? = some (.cells cs t fr)) (hu : P.underlying ty = some d) (hd : (match d with | .struct _ | .array _ _ => true | _ => false) = true) (hi : (P.info? ty).map (·.size) = some cs.size)
    (h : wpListIn F n P ops Q rest (a.put o.dst (.agg cs)) w) : wpListIn F n P ops Q (o :: rest) a w :=
  wlI_run hgd (fun c => by rw [ho]; intro h; cases h) (by simp [Oper.about, ho]) _ w (by
    unfold execOp
    simp only [ho, hx, Instr.loadAt, Instr.sureAddr, Sem.run_bind, Sem.run_pure, Result.andThen_ok, run_loadVar_row w g t ty cs fr d hg hu hd hi]) h
theorem wlI_build (hgd : o.guard = none) (t : TypeId) (parts : Array (Nat × Operand)) (ho : o.op = .build t parts) (cs : Array Value) (hf : P.built t (parts.map fun (i, x) => (i, a.eval x)).toList = some cs)
    (h : wpListIn F n P ops Q rest (a.put o.dst (.agg cs)) w) : wpListIn F n P ops Q (o :: rest) a w :=
  wlI_run hgd (fun c => by rw [ho]; intro h; cases h) (by simp [Oper.about, ho]) _ w (by
    unfold execOp
    simp only [ho, Sem.run_bind, run_build w t _ _ hf, Result.andThen_ok, Sem.run_pure]) h
end
theorem wlI_append_s {F : Fence} {n : Nat} {w : World} {ops : Array Oper} {rest : List Oper} {o : Oper} {a : Act} {Q : Exit → Act → World → Prop} (hgd : o.guard = none) (s y : Operand)
    (hop : o.op = .call { callee := .builtin .append, args := #[s, y], argTypes := #[42, 42] }) (base : Nat) (v : Value) (ls : List (List Int)) (hs : a.eval s = v) (hown : OwnS base w v ls) (hlen : ls.length ≤ 10000000)
    (g c : Nat) (hy : a.eval y = .slice (some ⟨g, 0, none⟩) 1 c) (x : Value) (l : List Int) (hx : w.cell? ⟨g, 0, none⟩ = some x) (ho : Own base w x l) (hbase : base ≤ w.heap.size)
    (h : ∀ v' w', OwnS base w' v' (ls ++ [l]) → w.grownBy w' v.ownBlock → (v'.ownBlock = v.ownBlock ∨ v'.ownBlock = some w.heap.size) → wpListIn F n Try.prog ops Q rest (a.put o.dst v') w') : wpListIn F n Try.prog ops Q (o :: rest) a w := by
  obtain ⟨v', w', hrun, r1, r2, r3⟩ := run_append_s w base v ls hown hlen g x l hx ho c hbase o.type
  refine wlI_run hgd (fun c => by rw [hop]; intro h; cases h) (by simp [Oper.about, hop, resolve, Target.leads, Sem.run_pure]) v' w' ?_ (h v' w' r1 r2 r3)
  unfold execOp
  simp only [hop, resolve, invoke, builtin, Sem.run_bind, Sem.run_pure, Result.andThen_ok, List.map_toArray, List.map_cons, List.map_nil, hs, hy, hrun]
end Go.Proofs.Ytjnimbhecfpnmaa
