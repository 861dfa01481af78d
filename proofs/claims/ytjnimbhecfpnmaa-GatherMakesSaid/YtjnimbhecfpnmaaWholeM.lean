/- The walk of gather.Whole. -/
import Derived.Test.YtjnimbhecfpnmaaMiss
import Derived.Test.YtjnimbhecfpnmaaTold
namespace Go.Proofs.Ytjnimbhecfpnmaa
set_option maxRecDepth 100000
open Go.ChangeShapes Go.WideShapes Go.ChangeAt Go.RowKit Go.Maps

theorem law_int : Keyed Try.prog 3 := int_keyed Try.underlying3
theorem zero_int (w : World) : (zeroValue 3).run Try.prog w = .ok (.int .i64 0) w := by kernel_rfl
/-- block b is a map of numbers to numbers: at s it has T s (0 where it has none) -/
def MapI (w : World) (b n : Nat) (T : Int → Int) : Prop :=
  ∃ D : DataW Unit, w.ownsMap Try.prog 3 (plainElem Try.prog 3) b n D ∧ IsMap D ∧ ∀ s, D.atKey (.int .i64 s) (.lit (.int .i64 0)) = .lit (.int .i64 (T s))
theorem MapI.made (w : World) : MapI (w.alloc (.map #[] 0)) w.heap.size 0 (fun _ => 0) := ⟨.map [], World.ownsMap_made _ _ _ _, ⟨[], rfl⟩, fun _ => rfl⟩
theorem MapI.below {w w' : World} {b n : Nat} {T : Int → Int} (h : MapI w b n T) (hb : Below w.heap.size w w') : MapI w' b n T := by
  obtain ⟨D, ⟨es, clock, h1, h2⟩, h3⟩ := h
  exact ⟨D, ⟨es, clock, (hb.block b (blk_lt h1)).trans h1, h2⟩, h3⟩
theorem MapI.look {w : World} {b n : Nat} {T : Int → Int} (h : MapI w b n T) (s : Int) (hs : (Lit.int .i64 s).wf = true) :
    (Instr.lookup 102 (.map (some b)) (.int .i64 s) false).run Try.prog w = .ok (.int .i64 (T s)) w := by
  obtain ⟨D, h1, _, h3⟩ := h
  obtain ⟨c, hrun, hat, _⟩ := h1.lookup_int law_int Try.underlying102 Try.underlying3 (zero_int w) (keyOf_int_mk Try.underlying3 hs)
  rw [h3 s] at hat
  injection hat with hat
  injection hat with _ hat
  rw [hrun, hat]
theorem wl_mapput {w : World} {ops : Array Oper} {rest : List Oper} {o : Oper} {a : Act} {Q : Exit → Act → World → Prop} (hg : o.guard = none) (m x v : Operand) (hop : o.op = Op.mapUpdate 102 m x v) (b n : Nat) (T : Int → Int)
    (hm : a.eval m = .map (some b)) (h : MapI w b n T) (hn : n ≤ 1000000) (s c : Int) (hx : a.eval x = .int .i64 s) (hv : a.eval v = .int .i64 c) (hs : (Lit.int .i64 s).wf = true) (hc : (Lit.int .i64 c).wf = true)
    (hK : ∀ w', MapI w' b (n + 1) (fun y => if y = s then c else T y) → w.grownBy w' (some b) → wpList Try.prog ops Q rest (a.put o.dst undef) w') : wpList Try.prog ops Q (o :: rest) a w := by
  obtain ⟨D, h1, h2, h3⟩ := h
  refine wpList_mapUpdate_own w hg m x v 102 hop 3 3 law_int Try.underlying102 _ b n D hm h1 (by unfold maxLen; omega) _ _ _ hx hv (keyOf_int_mk Try.underlying3 hs) _ [] (plainElem_int Try.underlying3 hc) ?_
  intro w' h4 h5
  refine hK w' ⟨_, h4, h2.put _ _, fun y => ?_⟩ h5
  by_cases hy : y = s
  · subst hy
    rw [atKey_put_same h2 (by exact trivial) _ _]
    simp
  · rw [atKey_put_other (by simpa using hy) _ _, h3 y]
    simp [hy]
end Go.Proofs.Ytjnimbhecfpnmaa
