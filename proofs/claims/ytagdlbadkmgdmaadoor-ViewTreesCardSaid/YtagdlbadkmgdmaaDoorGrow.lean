/- Slices of bytes that a call made itself, and 'append' of bytes to them. -/
import Derived.Test.YtagdlbadkmgdmaaDoorHash
import Derived.Maps.AppendAt
import Derived.Laws.AppendOwnNone
import Derived.OwnWalk
import Derived.Deep.OwnRows
namespace Go.Proofs.YtagdlbadkmgdmaaDoor
set_option maxRecDepth 100000
open Go.ChangeShapes Go.WideShapes Go.ChangeAt Go.RowKit

theorem info_byte : (Tryd.prog.info? 5).map (fun i => (i.zero, i.size, i.bytes)) = some (some (.int .u8 0), 1, 1) := by kernel_rfl
/-- v is a slice of the call's own, of the bytes l -/
def Own (base : Nat) (w : World) (v : Value) (l : List Int) : Prop := w.ownsRow base 5 1 v l.length (l.map (Value.int .u8))
theorem Own.nil (base : Nat) (w : World) : Own base w (.slice none 0 0) [] := World.ownsRow_nil _ _ _ _
theorem Own.slv {base : Nat} {w : World} {v : Value} {l : List Int} (h : Own base w v l) : ∃ g, SlV v g 0 l.length ∧ Lies w g 0 l ∧ (0 < l.length → v.ownBlock = some g ∧ base ≤ g ∧ g < w.heap.size) := by
  obtain ⟨h1, h2 | ⟨g, cap, cur, rfl, hb, hg, hn, hc, hs, ht⟩⟩ := h
  · obtain ⟨rfl, h0⟩ := h2
    have : l = [] := List.eq_nil_of_length_eq_zero h0
    subst this
    exact ⟨0, ⟨none, 0, rfl, Nat.le_refl _, Nat.zero_le _, fun h => by simp at h, fun _ => rfl⟩, Lies.nil _ _ _, fun h => by simp at h⟩
  · refine ⟨g, ⟨_, cap, rfl, hn, hc, fun _ => rfl, fun h => by cases h⟩, fun j hj => ?_, fun _ => ⟨rfl, hb, blk_lt hg⟩⟩
    rw [cell_of_row w g _ cur _ _ hg, Nat.zero_add]
    have h3 : (cur.toList.take (l.length * 1))[j]? = (l.map (Value.int .u8))[j]? := by rw [ht]
    rw [List.getElem?_take_of_lt (by omega)] at h3
    rw [← Array.getElem?_toList, h3, List.getElem?_map, List.getElem?_eq_getElem hj]
    simp [List.getD, hj]
theorem Own.below {base : Nat} {w w' : World} {v : Value} {l : List Int} (h : Own base w v l) (hb : Below w.heap.size w w') : Own base w' v l := by
  obtain ⟨h1, h2 | ⟨g, cap, cur, rfl, hb', hg, rest⟩⟩ := h
  · exact ⟨h1, .inl h2⟩
  · exact ⟨h1, .inr ⟨g, cap, cur, rfl, hb', (hb.block g (blk_lt hg)).trans hg, rest⟩⟩
theorem Own.but {base g : Nat} {w w' : World} {v : Value} {l : List Int} (h : Own base w v l) (hb : But g w w') (hn : v.ownBlock ≠ some g) : Own base w' v l := by
  obtain ⟨h1, h2 | ⟨g', cap, cur, rfl, hb', hg, rest⟩⟩ := h
  · exact ⟨h1, .inl h2⟩
  · exact ⟨h1, .inr ⟨g', cap, cur, rfl, hb', hb.blk hg (fun e => hn (by rw [← e]; rfl)), rest⟩⟩
theorem Own.of_row {base : Nat} {w : World} {g cap : Nat} {l : List Int} {cur : Array Value} (hb : base ≤ g) (hg : w.heap[g]? = some (.cells cur 5 (0, 0))) (hc : cap ≤ maxLen) (hs : cur.size = cap) (hl : l.length ≤ cap)
    (ht : cur.toList.take l.length = l.map (Value.int .u8)) : Own base w (.slice (some ⟨g, 0, none⟩) l.length cap) l :=
  ⟨by simp, .inr ⟨g, cap, cur, rfl, hb, hg, hl, hc, by omega, by rw [Nat.mul_one]; exact ht⟩⟩
/-- append(own.., bytes...) -/
theorem wl_append_b {w : World} {ops : Array Oper} {rest : List Oper} {o : Oper} {a : Act} {Q : Exit → Act → World → Prop} (hgd : o.guard = none) (s x : Operand)
    (ho : o.op = .call { callee := .builtin .append, args := #[s, x], argTypes := #[57, 57] }) (base : Nat) (v : Value) (xs : List Int) (hs : a.eval s = v) (hown : Own base w v xs)
    (y : Value) (hx : a.eval x = y) (b off : Nat) (ms : List Int) (hy : SlV y b off ms.length) (hl : Lies w b off ms) (h63 : xs.length + ms.length ≤ 140737488355328) (hbase : base ≤ w.heap.size)
    (h : ∀ v' w', Own base w' v' (xs ++ ms) → w.grownBy w' v.ownBlock → (v'.ownBlock = v.ownBlock ∨ v'.ownBlock = some w.heap.size) → wpList Tryd.prog ops Q rest (a.put o.dst v') w') : wpList Tryd.prog ops Q (o :: rest) a w := by
  obtain ⟨i, hi, hz0, hz1, hz2⟩ := info_parts info_byte
  obtain ⟨p, cap, rfl, hcap, hmax, hp, hnone⟩ := hy
  have grow0 : w.grownBy w v.ownBlock := ⟨rfl, rfl, rfl, Nat.le_refl _, fun _ _ _ => rfl⟩
  by_cases hm : 0 < ms.length
  · obtain rfl := hp hm
    refine wpList_append_own_at w hgd s x 57 ho base 5 i (.int .u8 0) 1 1 Tryd.underlying57 hi hz0 hz1 hz2 rfl (by omega) v xs.length (xs.map (Value.int .u8)) hs hown ⟨b, off, none⟩ ms.length cap (ms.map (Value.int .u8)) hx (by simp)
      (fun j u hu => ?_) (fun u hu => by obtain ⟨q, _, rfl⟩ := List.mem_map.1 hu; rfl) (by unfold maxLen; omega) (by omega) hbase ?_
    · have hj : j < ms.length := by have := (List.getElem?_eq_some_iff.1 hu).1; simpa using this
      rw [Addr.add_mid, hl j hj, ← hu, List.getElem?_map, List.getElem?_eq_getElem hj]
      simp [List.getD, hj]
    · intro v' w' h1 h2 _ h4
      refine h v' w' ?_ h2 h4
      unfold Own
      rw [List.length_append, List.map_append]
      exact h1
  · have h0 : ms = [] := List.eq_nil_of_length_eq_zero (by omega)
    subst h0
    have hown2 : Own base w v (xs ++ []) := by rw [List.append_nil]; exact hown
    cases p with
    | none =>
      obtain rfl := hnone rfl
      exact wpList_append_own_none hgd s x 57 ho base 5 i 1 Tryd.underlying57 hi v xs.length (xs.map (Value.int .u8)) hs hown hx (h v w hown2 grow0 (.inl rfl))
    | some ad =>
      refine wpList_append_own_at w hgd s x 57 ho base 5 i (.int .u8 0) 1 1 Tryd.underlying57 hi hz0 hz1 hz2 rfl (by omega) v xs.length (xs.map (Value.int .u8)) hs hown ad 0 cap [] hx (by simp)
        (fun j u hu => by simp at hu) (fun u hu => by simp at hu) (by simp at h63; unfold maxLen; omega) (by simp at h63; omega) hbase ?_
      intro v' w' h1 h2 _ h4
      refine h v' w' ?_ h2 h4
      unfold Own
      rw [List.append_nil]
      simpa using h1
end Go.Proofs.YtagdlbadkmgdmaaDoor
