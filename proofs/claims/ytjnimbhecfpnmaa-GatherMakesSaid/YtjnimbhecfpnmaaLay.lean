/- What parts of a whole lay, plain. -/
import Derived.Test.YtjnimbhecfpnmaaRowP
namespace Go.Proofs.Ytjnimbhecfpnmaa
set_option maxRecDepth 100000
open Go.ChangeShapes Go.WideShapes Go.ChangeAt Go.RowKit

/-- one byte put at place i, where none is -/
def stPut (st : List (Option Int)) (i c : Int) : List (Option Int) :=
  if 0 ≤ i ∧ i < (st.length : Int) ∧ (st.getD i.toNat none).isNone = true then st.set i.toNat (some c) else st
/-- the first k bytes of a part put -/
def putN (a : Int) (l : List Int) (st : List (Option Int)) : Nat → List (Option Int)
  | 0 => st
  | k + 1 => stPut (putN a l st k) (IntKind.i64.wrap (a + (k : Int))) (l.getD k 0)
/-- the first i parts laid -/
def laidN (ps : List Pt) (wh : List Int) (n : Nat) : Nat → List (Option Int)
  | 0 => List.replicate n none
  | i + 1 => match ps[i]? with
    | some p => if p.wh = wh ∧ p.sz = (n : Int) then putN p.at' p.da (laidN ps wh n i) p.da.length else laidN ps wh n i
    | none => laidN ps wh n i
def laidF (ps : List Pt) (wh : List Int) (n : Nat) : List (Option Int) := laidN ps wh n ps.length
/-- how many bytes lack -/
def lackF (st : List (Option Int)) : Nat := st.countP (·.isNone)
def outL (st : List (Option Int)) : List Int := st.map (·.getD 0)
def outC (st : List (Option Int)) : Array Value := row .u8 (outL st)
def hasC (st : List (Option Int)) : Array Value := (st.map fun x => Value.bool x.isSome).toArray
theorem stPut_len (st : List (Option Int)) (i c : Int) : (stPut st i c).length = st.length := by unfold stPut; split <;> simp
theorem putN_len (a : Int) (l : List Int) (st : List (Option Int)) : ∀ k, (putN a l st k).length = st.length
  | 0 => rfl
  | k + 1 => by rw [putN, stPut_len, putN_len a l st k]
theorem laidN_len (ps : List Pt) (wh : List Int) (n : Nat) : ∀ i, (laidN ps wh n i).length = n
  | 0 => by rw [laidN, List.length_replicate]
  | i + 1 => by
    rw [laidN]
    split
    · split
      · rw [putN_len, laidN_len ps wh n i]
      · exact laidN_len ps wh n i
    · exact laidN_len ps wh n i
theorem lack_zero {st : List (Option Int)} (h : lackF st = 0) (i : Nat) : (st.getD i none).isNone = false ∨ st.length ≤ i := by
  rcases Nat.lt_or_ge i st.length with hi | hi
  · left
    have := (List.countP_eq_zero.1 h) st[i] (List.getElem_mem hi)
    simp [List.getD, hi]
    cases hx : st[i] with
    | none => rw [hx] at this; simp at this
    | some x => simp
  · exact .inr hi
theorem stPut_full {st : List (Option Int)} (h : lackF st = 0) (i c : Int) : stPut st i c = st := by
  unfold stPut
  rw [if_neg]
  rintro ⟨h1, h2, h3⟩
  rcases lack_zero h i.toNat with h4 | h4
  · rw [h4] at h3; cases h3
  · omega
theorem putN_full {a : Int} {l : List Int} {st : List (Option Int)} {k : Nat} (h : lackF (putN a l st k) = 0) : ∀ d, putN a l st (k + d) = putN a l st k
  | 0 => rfl
  | d + 1 => by
    show stPut (putN a l st (k + d)) _ _ = _
    rw [putN_full h d, stPut_full h]
theorem putN_full0 {a : Int} {l : List Int} {st : List (Option Int)} (h : lackF st = 0) (k : Nat) : putN a l st k = st := by
  have := putN_full (a := a) (l := l) (st := st) (k := 0) h k
  rwa [Nat.zero_add] at this
theorem laidN_full {ps : List Pt} {wh : List Int} {n i : Nat} (h : lackF (laidN ps wh n i) = 0) : ∀ d, laidN ps wh n (i + d) = laidN ps wh n i
  | 0 => rfl
  | d + 1 => by
    show laidN ps wh n (i + d + 1) = _
    rw [laidN, laidN_full h d]
    split
    · split
      · exact putN_full0 h _
      · rfl
    · rfl
theorem lack_set {st : List (Option Int)} {i : Nat} (hi : i < st.length) (hn : st[i] = none) (c : Int) : lackF (st.set i (some c)) + 1 = lackF st := by
  unfold lackF
  have hpos : 0 < st.countP (·.isNone) := List.countP_pos_iff.2 ⟨st[i], List.getElem_mem hi, by rw [hn]; rfl⟩
  rw [List.countP_set hi, hn]
  show st.countP (·.isNone) - 1 + 0 + 1 = st.countP (·.isNone)
  omega
theorem lack_le (st : List (Option Int)) : lackF st ≤ st.length := List.countP_le_length
theorem lack_new (n : Nat) : lackF (List.replicate n none) = n := by unfold lackF; rw [List.countP_replicate]; simp
theorem outC_set (st : List (Option Int)) (i : Nat) (c : Int) : outC (st.set i (some c)) = (outC st).setIfInBounds i (.int .u8 c) := by
  unfold outC outL row
  apply Array.toList_inj.1
  simp [List.map_set]
theorem hasC_set (st : List (Option Int)) (i : Nat) (c : Int) : hasC (st.set i (some c)) = (hasC st).setIfInBounds i (.bool true) := by
  unfold hasC
  apply Array.toList_inj.1
  simp [List.map_set]
theorem outC_size (st : List (Option Int)) : (outC st).size = st.length := by unfold outC outL; rw [row_size, List.length_map]
theorem hasC_size (st : List (Option Int)) : (hasC st).size = st.length := by simp [hasC]
theorem hasC_get (st : List (Option Int)) (i : Nat) (h : i < st.length) : (hasC st)[i]? = some (.bool (st.getD i none).isSome) := by simp [hasC, h, List.getD]
theorem outC_get (st : List (Option Int)) (i : Nat) (h : i < st.length) : (outC st)[i]? = some (.int .u8 ((st.getD i none).getD 0)) := by simp [outC, outL, row, h, List.getD]
theorem outL_len (st : List (Option Int)) : (outL st).length = st.length := by simp [outL]
end Go.Proofs.Ytjnimbhecfpnmaa
