/- append(own.., one): what does not turn. -/
import Derived.Test.YtagdlbadkmgdmaaDoorGen
namespace Go.Proofs.YtagdlbadkmgdmaaDoor
open Go.ChangeShapes Go.WideShapes Go.ChangeAt Go.RowKit

/-- append(own.., one), and what does not turn -/
theorem wl_append1T (S : Sh) (hS : S.Ok) {ops : Array Oper} {rest : List Oper} {o : Oper} {a : Act} {w : World} {Q : Exit → Act → World → Prop} (hgd : o.guard = none) (s x : Operand)
    (ho : o.op = .call { callee := .builtin .append, args := #[s, x], argTypes := #[S.st, S.st] }) (base : Nat) (v : Value) (rs : Rows') (hs : a.eval s = v) (hown : OwnG S base w v rs)
    (b off c : Nat) (hx : a.eval x = .slice (some ⟨b, off, none⟩) 1 c) (r : List Value) (hl : w.rangeAt b off r) (h32 : r.length = S.n) (h1 : ∀ u ∈ r, u.oneCell' = true) (h63 : rs.length ≤ 4000000) (hbase : base ≤ w.heap.size)
    (h : ∀ v' w', OwnG S base w' v' (rs ++ [r]) → w.grownBy w' v.ownBlock → Below base w w' → wpList Tryd.prog ops Q rest (a.put o.dst v') w') : wpList Tryd.prog ops Q (o :: rest) a w :=
  wpList_plain hgd fun K hK => by
    obtain ⟨i, hi, hz0, hz1, hz2⟩ := hS.info
    have hn0 := hS.n0
    have hn1 := hS.n1
    have hb1 := hS.b1
    have hprod : (rs.length + 1) * S.by' ≤ 4000001 * 1000 := Nat.mul_le_mul (by omega) hb1
    obtain ⟨v', w', hr, h2, h3, _, _⟩ := run_append_own_at (P := Tryd.prog) w base S.st o.type S.t i S.z S.n S.by' hS.und hi hz0 hz1 hz2 hS.zc (by omega) v rs.length rs.flatten hown ⟨b, off, none⟩ 1 c r (by rw [h32]; omega)
      (fun j u hu => by rw [Addr.add_mid]; exact hl j u hu) h1 (by unfold maxLen; omega) (by omega) hbase
    unfold Oper.wp execOp
    simp only [ho, resolve, invoke, builtin, Sem.run_bind, Sem.run_pure, Result.andThen_ok, List.map_toArray, List.map_cons, List.map_nil, hs, hx, hr]
    refine hK _ _ (h v' w' ?_ h3 ((Below.refl _ _).grown h3 hbase hown.block))
    unfold OwnG
    rw [List.length_append, List.flatten_append]
    simpa using h2
end Go.Proofs.YtagdlbadkmgdmaaDoor
