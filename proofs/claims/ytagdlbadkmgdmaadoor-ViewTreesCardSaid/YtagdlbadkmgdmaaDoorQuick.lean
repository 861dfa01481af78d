/- Steps through a drawn region's head that do not look through the whole region each time. -/
import Derived.Test.YtagdlbadkmgdmaaDoorReg
namespace Go.Proofs.YtagdlbadkmgdmaaDoor
open Go Go.RowKit
theorem headG_yes {P : Program} {ops : Array Oper} {S : World → Prop} {Q : Act → Prop} {a : Act} {o : Oper} {rest : List Oper} (hw : Region.wanted o (yielded ops a.tmps) = true)
    (h : ∀ K : Act → Prop, (∀ a, headG P ops S Q rest a → K a) → ∃ v, takes P S o v a ∧ K (a.put o.dst v)) : headG P ops S Q (o :: rest) a :=
  headG_step fun K hK => by rw [if_pos hw]; exact h K hK
theorem headG_no {P : Program} {ops : Array Oper} {S : World → Prop} {Q : Act → Prop} {a : Act} {o : Oper} {rest : List Oper} (hw : Region.wanted o (yielded ops a.tmps) = false)
    (h : ∀ K : Act → Prop, (∀ a, headG P ops S Q rest a → K a) → K (a.put o.dst undef)) : headG P ops S Q (o :: rest) a :=
  headG_step fun K hK => by rw [if_neg (by rw [hw]; exact Bool.false_ne_true)]; exact h K hK
end Go.Proofs.YtagdlbadkmgdmaaDoor
