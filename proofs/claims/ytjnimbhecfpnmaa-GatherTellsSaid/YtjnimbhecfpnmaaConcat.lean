/- The walks of slices.Grow (of nil), slices.Concat of two, slices.Clone, bytes.Equal, at bytes. -/
import Derived.Test.YtjnimbhecfpnmaaNumber
import Derived.Lib.AppendZeros
import Derived.Laws.BytesArg
import Derived.LoopN
namespace Go.Proofs.Ytjnimbhecfpnmaa
set_option maxRecDepth 100000
open Go.ChangeShapes Go.WideShapes Go.ChangeAt Go.RowKit

theorem zeroCells_size (z : Value) (n : Nat) (h : z.cells = #[z]) : (Builtin.zeroCells z.cells n).size = n := by rw [h]; simp [Builtin.zeroCells]
/-- append(nil, make([]byte, n)...) -/
theorem wl_append_zeros {w : World} {ops : Array Oper} {rest : List Oper} {o : Oper} {a : Act} {Q : Exit → Act → World → Prop} (hgd : o.guard = none) (s x : Operand)
    (ho : o.op = .call { callee := .builtin .append, args := #[s, x], argTypes := #[24, 3] }) (hs : a.eval s = .slice none 0 0) (k : IntKind) (n : Nat) (hx : a.eval x = .int k (n : Int)) (h0 : 0 < n) (hn : n ≤ 1000000)
    (h : ∀ cap cur w', n ≤ cap → cap ≤ maxLen → cur.size = cap → w'.heap[w.heap.size]? = some (.cells cur 5 (0, 0)) → Below w.heap.size w w' →
      wpList Try.prog ops Q rest (a.put o.dst (.slice (some ⟨w.heap.size, 0, none⟩) n cap)) w') : wpList Try.prog ops Q (o :: rest) a w := by
  obtain ⟨i, hi, hz0, hz1, hz2⟩ := info_parts info_byte
  refine wpList_plain hgd fun K hK => ?_
  have hrun := Lib.run_append_nil_zeros (P := Try.prog) w 24 3 o.type 5 i (.int .u8 0) k .i64 Try.underlying24 Try.underlying3 hi hz0 n h0 (by omega) (by omega) (by rw [hz2]; omega)
  have hg := grownCap_ge w n 0 5
  have hm := grownCap_le_maxLen w n 0 5 (by unfold maxLen; omega)
  generalize grownCap w n 0 5 = cap at *
  unfold Oper.wp execOp
  simp only [ho, resolve, invoke, builtin, Sem.run_bind, Sem.run_pure, Result.andThen_ok, List.map_toArray, List.map_cons, List.map_nil, hs, hx, hrun]
  refine hK _ _ (h cap _ _ hg hm ?_ (heap_alloc_new w.drew _) ((Below.refl w.heap.size w).drew.alloc (Nat.le_refl _) _))
  rw [Array.size_append, zeroCells_size _ _ rfl, zeroCells_size _ _ rfl]
  omega
attribute [local go_sem] takes comesTo
theorem grow_nil (n : Nat) (h0 : 0 < n) (hn : n ≤ 1000000) (w : World) :
    Calls Try.prog 69 #[.slice none 0 0, .int .i64 (n : Int)] w fun e w' => ∃ v, e = .returned v ∧ Own w.heap.size w' v [] ∧ Below w.heap.size w w' := by
  have HN := Lib.hid (And.intro h0 hn)
  have k1 : ¬ (n : Int) < 0 := by omega
  have k2 : (0 : Int) < (n : Int) := by omega
  have k3 : IntKind.i64.wrap (n : Int) = (n : Int) := by rw [IntKind.wrap_i64]; omega
  clear h0 hn
  go_enter Try.func69, Try.ntmps69
  go_wp2_with ((at_builtin; refine wl_append_zeros rfl _ _ rfl rfl .i64 n rfl HN.out.1 HN.out.2 ?_; intro cap cur w1 hc1 hc2 hc3 hg hb))
  go_ret
  exact ⟨_, rfl, Own.of_row (l := []) (Nat.le_refl _) hg hc2 hc3 (Nat.zero_le _) (by simp), hb⟩
theorem later {w wx : World} {a : Addr} {v : Value} (hb : Below w.heap.size w wx) (h : w.cell? a = some v) : wx.cell? a = some v := (hb.cell (block_lt_of_cell h)).trans h
theorem Lies.below' {w w' : World} {b o : Nat} {l : List Int} (h : Lies w b o l) (hb : Below w.heap.size w w') : Lies w' b o l := h.below hb
theorem SlV.out {v : Value} {b o n : Nat} (h : SlV v b o n) : ∃ a cap, v = .slice a n cap ∧ SlV (.slice a n cap) b o n := by
  obtain ⟨a, cap, rfl, r⟩ := h
  exact ⟨a, cap, rfl, a, cap, rfl, r⟩
attribute [local irreducible] SlV
theorem concat_two (B b1 o1 b2 o2 : Nat) (v1 v2 : Value) (l1 l2 : List Int) (hn : 0 < l1.length + l2.length) (hm : l1.length + l2.length ≤ 1000000) (w : World) (h1 : w.cell? ⟨B, 0, none⟩ = some v1) (h2 : w.cell? ⟨B, 1, none⟩ = some v2)
    (s1 : SlV v1 b1 o1 l1.length) (k1 : Lies w b1 o1 l1) (s2 : SlV v2 b2 o2 l2.length) (k2 : Lies w b2 o2 l2) :
    Calls Try.prog 43 #[.slice (some ⟨B, 0, none⟩) 2 2] w fun e w' => ∃ v, e = .returned v ∧ Own w.heap.size w' v (l1 ++ l2) ∧ Below w.heap.size w w' := by
  obtain ⟨a1, c1, rfl, s1⟩ := s1.out
  obtain ⟨a2, c2, rfl, s2⟩ := s2.out
  generalize hn1 : l1.length = n1 at *
  generalize hn2 : l2.length = n2 at *
  have G := Lib.hid (And.intro s1 (And.intro k1 (And.intro s2 (And.intro k2 (And.intro hn1 hn2)))))
  have HN := Lib.hid (And.intro hn hm)
  have HC := Lib.hid (And.intro h1 h2)
  clear s1 k1 s2 k2 hn1 hn2
  obtain ⟨n, hN⟩ : ∃ n : Nat, n = n1 + n2 := ⟨_, rfl⟩
  have e1 : IntKind.i64.wrap (n1 : Int) = (n1 : Int) := by rw [IntKind.wrap_i64]; omega
  have e2 : IntKind.i64.wrap ((n1 : Int) + (n2 : Int)) = (n : Int) := by rw [IntKind.wrap_i64]; omega
  have e3 : ¬ (n1 : Int) < 0 := by omega
  have e4 : ¬ (n : Int) < 0 := by omega
  have hN2 := Lib.hid hN
  clear hn hm hN
  go_enter Try.func43, Try.ntmps43
  go_wp2
  refine wp_loop_rounds 3 ?_
  rw [rounds_succ]
  go_wp2
  rw [rounds_succ]
  go_wp2
  rw [rounds_succ]
  go_wp2_with fail
  refine (grow_nil n (by have := HN.out; have := hN2.out; omega) (by have := HN.out; have := hN2.out; omega) w).mono ?_
  rintro _ w1 ⟨v, rfl, hown, hb⟩
  have HW := Lib.hid (And.intro hown hb)
  have hc1 := later hb HC.out.1
  have hc2 := later hb HC.out.2
  clear hown hb
  go_wp2_with fail
  refine wp_loop_rounds 3 ?_
  rw [rounds_succ]
  go_wp2_with ((at_builtin; refine wl_append_b rfl _ _ rfl w.heap.size _ _ rfl HW.out.1 _ rfl b1 o1 l1 (G.out.2.2.2.2.1 ▸ G.out.1) (G.out.2.1.below' HW.out.2) (by have := HN.out; have := G.out.2.2.2.2.1; simp; omega) HW.out.2.size ?_; intro v2 w2 hown2 hgrow2 hat2))
  have hb2 : Below w.heap.size w w2 := HW.out.2.grown hgrow2 HW.out.2.size (own_block HW.out.1)
  have HW2 := Lib.hid (And.intro hown2 hb2)
  have hd2 := later hb2 HC.out.2
  clear hown2 hb2 hgrow2 hat2 hc1 hc2
  rw [rounds_succ]
  go_wp2_with ((at_builtin; refine wl_append_b rfl _ _ rfl w.heap.size _ _ rfl HW2.out.1 _ rfl b2 o2 l2 (G.out.2.2.2.2.2 ▸ G.out.2.2.1) (G.out.2.2.2.1.below' HW2.out.2) (by have := HN.out; have := G.out.2.2.2.2.1; have := G.out.2.2.2.2.2; simp; omega) HW2.out.2.size ?_; intro v3 w3 hown3 hgrow3 hat3))
  have hb3 : Below w.heap.size w w3 := HW2.out.2.grown hgrow3 HW2.out.2.size (own_block HW2.out.1)
  rw [rounds_succ]
  go_wp2_with fail
  go_ret
  exact ⟨_, rfl, by simpa using hown3, hb3⟩
end Go.Proofs.Ytjnimbhecfpnmaa
