/- Maps by strings that the call made: what they have, as a function. -/
import Derived.Test.YtagdlbadkmgdmaaDoorGen
import Derived.Test.YtagdlbadkmgdmaaDoorHash
import Derived.MapKept
import Derived.Maps.Own
namespace Go.Proofs.YtagdlbadkmgdmaaDoor
set_option maxRecDepth 100000
open Go.ChangeShapes Go.WideShapes Go.ChangeAt Go.RowKit

def lookP : List (ByteArray × Value) → ByteArray → Option Value
  | [], _ => none
  | p :: es, k => if k == p.1 then some p.2 else lookP es k
def findP (k : ByteArray) : List (ByteArray × Value) → Nat → Option (Nat × Value)
  | [], _ => none
  | p :: es, i => if k == p.1 then some (i, p.2) else findP k es (i + 1)
def putP (k : ByteArray) (v : Value) : List (ByteArray × Value) → List (ByteArray × Value)
  | [] => [(k, v)]
  | p :: es => if k == p.1 then (k, v) :: es else p :: putP k v es
theorem findP_look (k : ByteArray) : ∀ (es : List (ByteArray × Value)) (i : Nat), (findP k es i).map (·.2) = lookP es k
  | [], _ => rfl
  | p :: es, i => by
    rw [findP, lookP]
    split
    · rfl
    · exact findP_look k es (i + 1)
theorem beqB_iff {a b : ByteArray} : (a == b) = true ↔ a = b := by
  cases a with | mk a => cases b with | mk b =>
  have : ((⟨a⟩ : ByteArray) == ⟨b⟩) = (a == b) := rfl
  rw [this, beq_iff_eq, ByteArray.mk.injEq]
theorem beqB_self (k : ByteArray) : (k == k) = true := beqB_iff.2 rfl
theorem beqB_ne {a b : ByteArray} (h : ¬ a = b) : (a == b) = false := by
  cases h2 : (a == b) with
  | false => rfl
  | true => exact (h (beqB_iff.1 h2)).elim
theorem look_put (k : ByteArray) (v : Value) (k' : ByteArray) : ∀ es : List (ByteArray × Value), lookP (putP k v es) k' = if k' = k then some v else lookP es k'
  | [] => by
    show (if k' == k then some v else none) = if k' = k then some v else none
    by_cases h : k' = k
    · subst h
      rw [if_pos (beqB_self _), if_pos rfl]
    · rw [beqB_ne h, if_neg Bool.false_ne_true, if_neg h]
  | p :: es => by
    rw [putP]
    by_cases h1 : (k == p.1) = true
    · rw [if_pos h1, lookP, lookP]
      have h2 := beqB_iff.1 h1
      by_cases h : k' = k
      · subst h
        rw [if_pos (beqB_self _), if_pos rfl]
      · rw [beqB_ne h, if_neg Bool.false_ne_true, if_neg h, ← h2, beqB_ne h, if_neg Bool.false_ne_true]
    · rw [if_neg h1, lookP, lookP, look_put k v k' es]
      by_cases h : k' = k
      · subst h
        rw [if_neg h1]
        simp
      · rw [if_neg h, if_neg h]
def entsOf (bs : List MapEntry) : List (Value × Value) := bs.map fun e => (e.key, e.val)
def strsOf (es : List (ByteArray × Value)) : List (Value × Value) := es.map fun p => (.string p.1, p.2)
theorem findNow_eq (k : ByteArray) : ∀ (bs : List MapEntry) (es : List (ByteArray × Value)) (i : Nat), entsOf bs = strsOf es → Instr.findNow .string (.string k) bs i = some (findP k es i)
  | [], [], _, _ => rfl
  | [], p :: es, _, h => by simp [entsOf, strsOf] at h
  | e :: bs, [], _, h => by simp [entsOf, strsOf] at h
  | e :: bs, p :: es, i, h => by
    simp only [entsOf, strsOf, List.map_cons, List.cons.injEq, Prod.mk.injEq] at h
    have ih := findNow_eq k bs es (i + 1) h.2
    unfold Instr.findNow
    rw [h.1.1]
    simp only [Instr.sameNow]
    rw [findP]
    cases hb : (k == p.1) with
    | true => simp [h.1.2]
    | false => simp [ih]
theorem put_none (k : ByteArray) (v : Value) : ∀ (es : List (ByteArray × Value)) (i : Nat), findP k es i = none → putP k v es = es ++ [(k, v)]
  | [], _, _ => rfl
  | p :: es, i, h => by
    rw [findP] at h
    rw [putP]
    by_cases h1 : (k == p.1) = true
    · rw [if_pos h1] at h
      cases h
    · rw [if_neg h1] at h
      rw [if_neg h1, put_none k v es (i + 1) h]
      rfl
theorem put_some (k : ByteArray) (v x : Value) : ∀ (bs : List MapEntry) (es : List (ByteArray × Value)) (i j : Nat), entsOf bs = strsOf es → findP k es i = some (j, x) → i ≤ j ∧ (∃ e, bs[j - i]? = some e ∧ e.key = .string k) ∧ entsOf (bs.modify (j - i) fun e => { e with key := .string k, val := v }) = strsOf (putP k v es)
  | [], [], _, _, _, h => by cases h
  | [], p :: es, _, _, h, _ => by simp [entsOf, strsOf] at h
  | e :: bs, [], _, _, h, _ => by simp [entsOf, strsOf] at h
  | e :: bs, p :: es, i, j, h, hf => by
    simp only [entsOf, strsOf, List.map_cons, List.cons.injEq, Prod.mk.injEq] at h
    rw [findP] at hf
    rw [putP]
    by_cases h1 : (k == p.1) = true
    · rw [if_pos h1] at hf
      rw [if_pos h1]
      injection hf with hf
      injection hf with hf _
      subst hf
      rw [Nat.sub_self]
      refine ⟨Nat.le_refl _, ⟨e, rfl, by rw [h.1.1, beqB_iff.1 h1]⟩, ?_⟩
      simp only [List.modify_zero_cons, entsOf, strsOf, List.map_cons]
      rw [h.2]
    · rw [if_neg h1] at hf
      rw [if_neg h1]
      obtain ⟨g1, ⟨e', g2, g3⟩, g4⟩ := put_some k v x bs es (i + 1) j h.2 hf
      have e1 : j - i = (j - (i + 1)) + 1 := by omega
      refine ⟨by omega, ⟨e', by rw [e1, List.getElem?_cons_succ]; exact g2, g3⟩, ?_⟩
      rw [e1, List.modify_succ_cons]
      show (e.key, e.val) :: entsOf _ = (Value.string p.1, p.2) :: strsOf _
      rw [g4, h.1.1, h.1.2]
/-- block b is a map by strings: at k it has T k -/
def MapS (w : World) (b : Nat) (T : ByteArray → Option Value) : Prop :=
  ∃ (bs : Array MapEntry) (clock : Nat) (es : List (ByteArray × Value)), w.heap[b]? = some (.map bs clock) ∧ entsOf bs.toList = strsOf es ∧ ∀ k, lookP es k = T k
theorem MapS.made (w : World) : MapS (w.alloc (.map #[] 0)) w.heap.size (fun _ => none) := ⟨#[], 0, [], heap_alloc_new _ _, rfl, fun _ => rfl⟩
theorem MapS.to {w w' : World} {b : Nat} {T : ByteArray → Option Value} (h : MapS w b T) (hb : BC w w') : MapS w' b T := by
  obtain ⟨bs, clock, es, h1, h2⟩ := h
  exact ⟨bs, clock, es, BC_blk1 hb h1, h2⟩
theorem MapS.but {g : Nat} {w w' : World} {b : Nat} {T : ByteArray → Option Value} (h : MapS w b T) (hb : But g w w') (hn : b ≠ g) : MapS w' b T := by
  obtain ⟨bs, clock, es, h1, h2⟩ := h
  exact ⟨bs, clock, es, hb.blk h1 hn, h2⟩
theorem MapS.look {w : World} {b : Nat} {T : ByteArray → Option Value} (h : MapS w b T) {t kt et : TypeId} (ht : Tryd.prog.underlying t = some (.map kt et)) (hk : Tryd.prog.underlying kt = some .string) {z : Value} (hz : (zeroValue et).run Tryd.prog w = .ok z w) (k : ByteArray) (c : Bool) :
    (Instr.lookup t (.map (some b)) (.string k) c).run Tryd.prog w = .ok (if c then .tuple #[(T k).getD z, .bool (T k).isSome] else (T k).getD z) w := by
  obtain ⟨bs, clock, es, h1, h2, h3⟩ := h
  have hf := findNow_eq k bs.toList es 0 h2
  have hl := findP_look k es 0
  rw [h3 k] at hl
  unfold Instr.lookup
  simp only [Sem.run_bind, run_underlying ht, Result.andThen_ok, MapKept.run_getObj_map h1, Sem.run_pure, MapKept.run_checkKey hk (show MapKept.IsKey .string (.string k) from trivial), MapKept.run_findKey hk hf]
  cases hfp : findP k es 0 with
  | none =>
    rw [hfp] at hl
    rw [← hl]
    cases c <;> simp [hz]
  | some r =>
    rw [hfp] at hl
    rw [← hl]
    obtain ⟨i, x⟩ := r
    cases c <;> simp
theorem MapS.put {w : World} {b : Nat} {T : ByteArray → Option Value} (h : MapS w b T) {t kt et : TypeId} (ht : Tryd.prog.underlying t = some (.map kt et)) (hk : Tryd.prog.underlying kt = some .string) (k : ByteArray) (v : Value) :
    ∃ w', (Instr.mapUpdate t (.map (some b)) (.string k) v).run Tryd.prog w = .ok () w' ∧ MapS w' b (fun k' => if k' = k then some v else T k') ∧ But b w w' := by
  obtain ⟨bs, clock, es, h1, h2, h3⟩ := h
  have hf := findNow_eq k bs.toList es 0 h2
  have hbut : ∀ o : Obj, But b w { w with heap := w.heap.setIfInBounds b o } := fun o =>
    But.of_store (fun j hj => (MapKept.heap_set h1).2 j hj) (fun B w0 hB hb => hb.trans ⟨rfl, rfl, rfl, by simp, fun j hj => (MapKept.heap_set h1).2 j (by omega)⟩)
  have hlk : ∀ k', lookP (putP k v es) k' = if k' = k then some v else T k' := fun k' => by rw [look_put, h3 k']
  unfold Instr.mapUpdate
  simp only [Sem.run_bind, run_underlying ht, Result.andThen_ok, MapKept.run_getObj_map h1, MapKept.run_checkKey hk (show MapKept.IsKey .string (.string k) from trivial), MapKept.run_findKey hk hf]
  cases hfp : findP k es 0 with
  | none =>
    simp only [MapKept.run_setObj_map _ h1]
    refine ⟨_, rfl, ⟨_, _, putP k v es, (MapKept.heap_set h1).1, ?_, hlk⟩, hbut _⟩
    rw [put_none k v es 0 hfp, Array.toList_push]
    show (bs.toList ++ [_]).map _ = (es ++ [_]).map _
    rw [List.map_append, List.map_append]
    show entsOf bs.toList ++ _ = strsOf es ++ _
    rw [h2]
    rfl
  | some r =>
    obtain ⟨j, x⟩ := r
    obtain ⟨_, ⟨e, g2, g3⟩, g4⟩ := put_some k v x bs.toList es 0 j h2 hfp
    rw [Nat.sub_zero] at g2 g4
    have hst : (Instr.keyThatStays (((bs[j]?).map (·.key)).getD (.string k)) (.string k)).run Tryd.prog w = .ok (.string k) w := by
      rw [← Array.getElem?_toList, g2]
      simp only [Option.map_some, Option.getD_some, g3]
      unfold Instr.keyThatStays
      have : Instr.sameBits 10000 (.string k) (.string k) = true := by
        unfold Instr.sameBits
        exact beqB_self k
      rw [this]
      rfl
    simp only [Sem.run_bind, hst, Result.andThen_ok, MapKept.run_setObj_map _ h1]
    refine ⟨_, rfl, ⟨_, _, putP k v es, (MapKept.heap_set h1).1, ?_, hlk⟩, hbut _⟩
    rw [Array.toList_modify]
    exact g4
theorem wl_mapputS {w : World} {ops : Array Oper} {rest : List Oper} {o : Oper} {a : Act} {Q : Exit → Act → World → Prop} (hg : o.guard = none) (m x v : Operand) (t : TypeId) (hop : o.op = Op.mapUpdate t m x v) {kt et : TypeId} (ht : Tryd.prog.underlying t = some (.map kt et)) (hk : Tryd.prog.underlying kt = some .string)
    (b : Nat) (T : ByteArray → Option Value) (hm : a.eval m = .map (some b)) (h : MapS w b T) (k : ByteArray) (c : Value) (hx : a.eval x = .string k) (hv : a.eval v = c)
    (hK : ∀ w', MapS w' b (fun k' => if k' = k then some c else T k') → But b w w' → wpList Tryd.prog ops Q rest (a.put o.dst undef) w') : wpList Tryd.prog ops Q (o :: rest) a w := by
  refine wpList_plain hg fun K' hK' => ?_
  obtain ⟨w', hrun, r1, r2⟩ := h.put ht hk k c
  unfold Oper.wp
  simp [execOp, hop, hm, hx, hv, hrun, Result.andThen]
  exact hK' _ _ (hK w' r1 r2)
end Go.Proofs.YtagdlbadkmgdmaaDoor
