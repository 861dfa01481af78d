/- Arrays of numbers held against each other by == and !=. -/
import Derived.Test.YtagdlbadkmgdmaaDoorArr
import Derived.Laws.StructEq
namespace Go.Proofs.YtagdlbadkmgdmaaDoor
open Go Go.RowKit

theorem run_part_row {P : Program} (w : World) (e : TypeId) (k : IntKind) (he : P.underlying e = some (.int k)) (xs : List Int) (i : Nat) (hi : i < xs.length) :
    (part e (row k xs) i).run P w = .ok (.int k (xs.getD i 0)) w := by
  have ha : (isAgg e).run P w = .ok false w := by
    unfold isAgg
    rw [Sem.run_bind, run_underlying he w]
    rfl
  unfold part
  rw [Sem.run_bind, ha]
  simp [row, hi]
theorem run_forIn_row {P : Program} (w : World) (d : Nat) (e : TypeId) (k : IntKind) (he : P.underlying e = some (.int k)) (xs ys : List Int) (hl : xs.length = ys.length) :
    ∀ (m i : Nat), i + m = xs.length →
    (forIn (m := Sem) (List.range' i m 1) (none, PUnit.unit) (fun j (_ : Option Bool × PUnit) => do
      let a ← part e (row k xs) (j * 1)
      let b ← part e (row k ys) (j * 1)
      let r ← Op.equalIn (d + 1) e a b
      if (!r) = true then pure (ForInStep.done (some false, PUnit.unit)) else pure (ForInStep.yield (none, PUnit.unit)))).run P w =
      .ok (if xs.drop i = ys.drop i then none else some false, PUnit.unit) w := by
  intro m
  induction m with
  | zero =>
    intro i hi
    have h1 : xs.drop i = [] := List.drop_eq_nil_of_le (by omega)
    have h2 : ys.drop i = [] := List.drop_eq_nil_of_le (by omega)
    simp [h1, h2]
  | succ m ih =>
    intro i hi
    have hx : i < xs.length := by omega
    have hy : i < ys.length := by omega
    rw [List.range'_succ, List.forIn_cons]
    rw [List.drop_eq_getElem_cons hx, List.drop_eq_getElem_cons hy]
    have ex : xs.getD i 0 = xs[i] := by simp [hx]
    have ey : ys.getD i 0 = ys[i] := by simp [hy]
    simp only [Sem.run_bind, Nat.mul_one, run_part_row w e k he xs i hx, run_part_row w e k he ys i hy, Result.andThen_ok, run_equalIn_int w d e k k _ _ he, ex, ey]
    by_cases h : xs[i] = ys[i]
    · simp only [h, beq_self_eq_true, Bool.not_true, Bool.false_eq_true, if_false, Sem.run_pure, Result.andThen_ok, List.cons.injEq, true_and]
      simpa only [Nat.mul_one] using ih (i + 1) (by omega)
    · have hb : (xs[i] == ys[i]) = false := beq_eq_false_iff_ne.2 h
      have hn : ¬ (xs[i] :: xs.drop (i + 1) = ys[i] :: ys.drop (i + 1)) := fun e => h (List.cons.inj e).1
      rw [if_neg hn]
      simp only [hb, Bool.not_false, if_true, Sem.run_pure, Result.andThen_ok]
theorem run_equalIn_row {P : Program} (w : World) (d : Nat) (t e : TypeId) (n : Nat) (k : IntKind) (ht : P.underlying t = some (.array n e)) (he : P.underlying e = some (.int k)) (hs : P.cellsOf e = 1)
    (xs ys : List Int) (hx : xs.length = n) (hy : ys.length = n) : (Op.equalIn (d + 2) t (.agg (row k xs)) (.agg (row k ys))).run P w = .ok (decide (xs = ys)) w := by
  have hsz : (sizeOf e).run P w = .ok 1 w := by
    unfold Program.cellsOf at hs
    cases hi : P.info? e with
    | none => simp [hi] at hs
    | some i =>
      have : i.size = 1 := by simpa [hi] using hs
      simp [sizeOf, typeInfo, hi, this]
  have hf := run_forIn_row w d e k he xs ys (hx.trans hy.symm) n 0 (by omega)
  rw [Op.equalIn]
  simp only [Sem.run_bind, run_underlying ht, Result.andThen_ok, hsz]
  rw [Std.Legacy.Range.forIn_eq_forIn_range']
  have hz : (Std.Legacy.Range.size [:n]) = n := by simp [Std.Legacy.Range.size]
  rw [hz]
  rw [hf]
  simp only [List.drop_zero, Result.andThen_ok]
  by_cases h : xs = ys <;> simp [h]
/-- == on two arrays of numbers -/
theorem run_eql_row {P : Program} (w : World) (t e : TypeId) (n : Nat) (k : IntKind) (ht : P.underlying t = some (.array n e)) (he : P.underlying e = some (.int k)) (hs : P.cellsOf e = 1)
    (xs ys : List Int) (hx : xs.length = n) (hy : ys.length = n) : (binOp .eql t (.agg (row k xs)) (.agg (row k ys))).run P w = .ok (.bool (decide (xs = ys))) w := by
  rw [run_eql_struct, run_equalIn_row w 9998 t e n k ht he hs xs ys hx hy]
  rfl
theorem run_neq_row {P : Program} (w : World) (t e : TypeId) (n : Nat) (k : IntKind) (ht : P.underlying t = some (.array n e)) (he : P.underlying e = some (.int k)) (hs : P.cellsOf e = 1)
    (xs ys : List Int) (hx : xs.length = n) (hy : ys.length = n) : (binOp .neq t (.agg (row k xs)) (.agg (row k ys))).run P w = .ok (.bool (!decide (xs = ys))) w := by
  rw [run_neq_struct, run_equalIn_row w 9998 t e n k ht he hs xs ys hx hy]
  rfl
end Go.Proofs.YtagdlbadkmgdmaaDoor
