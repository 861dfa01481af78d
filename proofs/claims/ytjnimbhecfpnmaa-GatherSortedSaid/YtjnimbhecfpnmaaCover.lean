/- What parts of one whole lay, plain: which bytes are there. -/
import Derived.Test.YtjnimbhecfpnmaaParts
import Derived.Test.YtjnimbhecfpnmaaLaid
import Derived.Test.YtjnimbhecfpnmaaMiss
namespace Go.Proofs.Ytjnimbhecfpnmaa
set_option maxRecDepth 100000
open Go.ChangeShapes Go.WideShapes Go.ChangeAt Go.RowKit

/-- the bytes of those pieces that J tells of -/
def covF (l : List Int) (f : Nat → Bool) : List (Option Int) := (List.range l.length).map fun i => if f i then some (l.getD i 0) else none
def covSt (l : List Int) (size : Nat) (J : Nat → Bool) : List (Option Int) := covF l fun i => J (i / size)
theorem covF_len (l : List Int) (f : Nat → Bool) : (covF l f).length = l.length := by simp [covF]
theorem covF_get (l : List Int) (f : Nat → Bool) (i : Nat) (hi : i < l.length) : (covF l f)[i]'(by rw [covF_len]; exact hi) = if f i then some (l.getD i 0) else none := by simp [covF]
theorem covF_getD (l : List Int) (f : Nat → Bool) (i : Nat) (hi : i < l.length) : (covF l f).getD i none = if f i then some (l.getD i 0) else none := by
  rw [List.getD, List.getElem?_eq_getElem (by rw [covF_len]; exact hi), Option.getD_some, covF_get l f i hi]
theorem covF_ext {l : List Int} {f g : Nat → Bool} (h : ∀ i, i < l.length → f i = g i) : covF l f = covF l g := by
  unfold covF
  refine List.map_congr_left fun i hi => ?_
  rw [h i (List.mem_range.1 hi)]
theorem covF_set (l : List Int) (f : Nat → Bool) (q : Nat) : (covF l f).set q (some (l.getD q 0)) = covF l (fun i => f i || decide (i = q)) := by
  refine List.ext_getElem (by simp [covF]) fun i h1 h2 => ?_
  have hi : i < l.length := by rw [covF_len] at h2; exact h2
  refine Eq.trans ?_ (covF_get l (fun i => f i || decide (i = q)) i hi).symm
  rw [List.getElem_set]
  by_cases h : q = i
  · subst h
    simp
  · rw [if_neg h, covF_get l f i hi]
    simp [show ¬ i = q from fun e => h e.symm]
theorem put_cov (l : List Int) (f : Nat → Bool) (q : Nat) (hq : q < l.length) : stPut (covF l f) (q : Int) (l.getD q 0) = covF l (fun i => f i || decide (i = q)) := by
  unfold stPut
  rw [Int.toNat_natCast, covF_getD l f q hq, covF_len]
  by_cases h : f q = true
  · rw [if_neg (by rw [if_pos h]; simp)]
    refine covF_ext fun i hi => ?_
    by_cases e : i = q
    · rw [e, h]; rfl
    · simp [e]
  · rw [if_pos ⟨by omega, by omega, by rw [if_neg h]; rfl⟩]
    exact covF_set l f q
/-- the first m bytes of piece k put -/
theorem putN_cov (l : List Int) (size k : Nat) (hn : l.length ≤ 1000000) (f : Nat → Bool) : ∀ m, m ≤ (pieceF l size k).length → putN ((k * size : Nat) : Int) (pieceF l size k) (covF l f) m = covF l (fun i => f i || decide (k * size ≤ i ∧ i < k * size + m))
  | 0, _ => by
    rw [putN]
    refine covF_ext fun i _ => ?_
    have : ¬ (k * size ≤ i ∧ i < k * size + 0) := by omega
    rw [decide_eq_false this, Bool.or_false]
  | m + 1, hm => by
    have hl := pieceF_len l size k
    have hq : k * size + m < l.length := by omega
    rw [putN, putN_cov l size k hn f m (by omega)]
    have e1 : IntKind.i64.wrap (((k * size : Nat) : Int) + (m : Int)) = ((k * size + m : Nat) : Int) := by rw [IntKind.wrap_i64]; omega
    have e2 : (pieceF l size k).getD m 0 = l.getD (k * size + m) 0 := by
      unfold pieceF
      rw [List.getD, List.getElem?_take_of_lt (by omega), List.getElem?_drop, List.getD]
    rw [e1, e2, put_cov _ _ _ hq]
    refine covF_ext fun i _ => ?_
    rw [Bool.or_assoc]
    congr 1
    by_cases h : i = k * size + m
    · subst h
      simp
    · rw [decide_eq_false h, Bool.or_false]
      congr 1
      exact propext ⟨fun h2 => by omega, fun h2 => by omega⟩
theorem div_piece {size i k : Nat} (hs : 0 < size) : i / size = k ↔ k * size ≤ i ∧ i < k * size + size := by
  have h := Nat.div_add_mod i size
  have h2 := Nat.mod_lt i hs
  rw [Nat.mul_comm] at h
  constructor
  · rintro rfl
    omega
  · rintro ⟨h3, h4⟩
    exact Nat.div_eq_of_lt_le h3 (by rw [Nat.add_mul, Nat.one_mul]; exact h4)
theorem put_piece (l : List Int) (size k : Nat) (hs : 0 < size) (hn : l.length ≤ 1000000) (J : Nat → Bool) :
    putN ((k * size : Nat) : Int) (pieceF l size k) (covSt l size J) (pieceF l size k).length = covSt l size (fun j => J j || decide (j = k)) := by
  unfold covSt
  rw [putN_cov l size k hn _ _ (Nat.le_refl _)]
  refine covF_ext fun i hi => ?_
  congr 1
  have h := div_piece (i := i) (k := k) hs
  have hl := pieceF_len l size k
  by_cases e : i / size = k
  · rw [decide_eq_true e, decide_eq_true]
    have := h.1 e
    omega
  · rw [decide_eq_false e, decide_eq_false]
    intro h2
    exact e (h.2 (by omega))
theorem lack_cov (l : List Int) (f : Nat → Bool) : lackF (covF l f) = (List.range l.length).countP (fun i => !f i) := by
  unfold lackF covF
  rw [List.countP_map]
  congr 1
  funext i
  cases h : f i <;> simp [h]
theorem lack_all {l : List Int} {size : Nat} {J : Nat → Bool} (h : ∀ j, j * size < l.length → J j = true) : lackF (covSt l size J) = 0 := by
  unfold covSt
  rw [lack_cov, List.countP_eq_zero]
  intro i hi
  have hi' := List.mem_range.1 hi
  rw [h (i / size) (Nat.lt_of_le_of_lt (Nat.div_mul_le_self i size) hi')]
  simp
theorem lack_some {l : List Int} {size : Nat} (hs : 0 < size) {J : Nat → Bool} {j : Nat} (hj : j * size < l.length) (h : J j = false) : 0 < lackF (covSt l size J) := by
  unfold covSt
  rw [lack_cov, List.countP_pos_iff]
  exact ⟨j * size, List.mem_range.2 hj, by rw [Nat.mul_div_cancel _ hs, h]; rfl⟩
theorem out_all {l : List Int} {size : Nat} {J : Nat → Bool} (h : ∀ j, j * size < l.length → J j = true) : outL (covSt l size J) = l := by
  unfold outL covSt covF
  refine List.ext_getElem (by simp) fun i h1 h2 => ?_
  simp only [List.getElem_map, List.getElem_range]
  rw [h (i / size) (Nat.lt_of_le_of_lt (Nat.div_mul_le_self i size) h2)]
  simp [List.getD, h2]
/-- one piece more: so many bytes less lack -/
theorem lack_piece {l : List Int} {size k : Nat} (hs : 0 < size) (hn : l.length ≤ 1000000) {J : Nat → Bool} (h : J k = false) :
    lackF (covSt l size (fun j => J j || decide (j = k))) + (pieceF l size k).length = lackF (covSt l size J) := by
  have key : ∀ m, m ≤ (pieceF l size k).length → lackF (covF l (fun i => J (i / size) || decide (k * size ≤ i ∧ i < k * size + m))) + m = lackF (covSt l size J) := by
    intro m
    induction m with
    | zero =>
      intro _
      rw [Nat.add_zero]
      unfold covSt
      congr 1
      refine covF_ext fun i _ => ?_
      have : ¬ (k * size ≤ i ∧ i < k * size + 0) := by omega
      rw [decide_eq_false this, Bool.or_false]
    | succ m ih =>
      intro hm
      have hl := pieceF_len l size k
      have hq : k * size + m < l.length := by omega
      rw [← ih (by omega)]
      have e : covF l (fun i => J (i / size) || decide (k * size ≤ i ∧ i < k * size + (m + 1))) = (covF l (fun i => J (i / size) || decide (k * size ≤ i ∧ i < k * size + m))).set (k * size + m) (some (l.getD (k * size + m) 0)) := by
        rw [covF_set]
        refine covF_ext fun i _ => ?_
        rw [Bool.or_assoc]
        congr 1
        by_cases h : i = k * size + m
        · subst h
          simp
        · rw [decide_eq_false h, Bool.or_false]
          congr 1
          exact propext ⟨fun h2 => by omega, fun h2 => by omega⟩
      rw [e]
      have h3 := lack_set (st := covF l (fun i => J (i / size) || decide (k * size ≤ i ∧ i < k * size + m))) (i := k * size + m) (by rw [covF_len]; exact hq) (by
        rw [covF_get _ _ _ hq, (div_piece hs).2 ⟨Nat.le_add_right _ _, by omega⟩, h, if_neg]
        simp) (l.getD (k * size + m) 0)
      omega
  rw [← put_piece l size k hs hn J]
  have h2 := key _ (Nat.le_refl _)
  unfold covSt at h2 ⊢
  rw [putN_cov l size k hn _ _ (Nat.le_refl _)]
  exact h2
/-- is piece j among the parts? -/
def hasPt (ps : List Pt) (D : List Int) (n size j : Nat) : Bool := ps.any fun p => decide (p.wh = D ∧ p.sz = (n : Int) ∧ p.at' = ((j * size : Nat) : Int))
theorem cover {l : List Int} {size : Nat} (hs : 0 < size) (hn : l.length ≤ 1000000) (ps : List Pt) (D : List Int) (H : ∀ p ∈ ps, p.wh = D → p.sz = (l.length : Int) → ∃ k, p = ptF l size k) :
    ∀ i, i ≤ ps.length → laidN ps D l.length i = covSt l size (hasPt (ps.take i) D l.length size) := by
  intro i
  induction i with
  | zero =>
    intro _
    rw [laidN]
    refine List.ext_getElem (by simp [covSt, covF]) fun i h1 h2 => ?_
    have hi : i < l.length := by simpa using h1
    rw [List.getElem_replicate]
    refine Eq.trans ?_ (covF_get l (fun i => hasPt (List.take 0 ps) D l.length size (i / size)) i hi).symm
    simp [hasPt]
  | succ i ih =>
    intro hi
    have hil : i < ps.length := by omega
    rw [laidN, List.getElem?_eq_getElem hil, ih (by omega)]
    have ht : ∀ j, hasPt (ps.take (i + 1)) D l.length size j = (hasPt (ps.take i) D l.length size j || decide (ps[i].wh = D ∧ ps[i].sz = (l.length : Int) ∧ ps[i].at' = ((j * size : Nat) : Int))) := fun j => by
      unfold hasPt
      rw [List.take_succ_eq_append_getElem hil, List.any_append]
      simp
    dsimp only
    by_cases hc : ps[i].wh = D ∧ ps[i].sz = (l.length : Int)
    · rw [if_pos hc]
      obtain ⟨k, hk⟩ := H ps[i] (List.getElem_mem hil) hc.1 hc.2
      rw [hk]
      show putN ((k * size : Nat) : Int) (pieceF l size k) _ (pieceF l size k).length = _
      rw [put_piece l size k hs hn]
      congr 1
      funext j
      rw [ht j, hk]
      congr 1
      rw [hk] at hc
      refine decide_eq_decide.2 ⟨fun h => ⟨hc.1, hc.2, by rw [h]; rfl⟩, fun h => ?_⟩
      have h3 : ((k * size : Nat) : Int) = ((j * size : Nat) : Int) := h.2.2
      exact (Nat.eq_of_mul_eq_mul_right hs (by omega)).symm
    · rw [if_neg hc]
      congr 1
      funext j
      rw [ht j, decide_eq_false (fun h => hc ⟨h.1, h.2.1⟩), Bool.or_false]
theorem coverF {l : List Int} {size : Nat} (hs : 0 < size) (hn : l.length ≤ 1000000) (ps : List Pt) (D : List Int) (H : ∀ p ∈ ps, p.wh = D → p.sz = (l.length : Int) → ∃ k, p = ptF l size k) :
    laidF ps D l.length = covSt l size (hasPt ps D l.length size) := by
  unfold laidF
  rw [cover hs hn ps D H _ (Nat.le_refl _), List.take_length]
theorem has_part {l : List Int} {size : Nat} {ps : List Pt} {j : Nat} (h : ptF l size j ∈ ps) : hasPt ps (sumF l) l.length size j = true :=
  List.any_eq_true.2 ⟨_, h, decide_eq_true ⟨rfl, rfl, rfl⟩⟩
/-- no part of such a size -/
theorem laid_none {ps : List Pt} {D : List Int} {n : Nat} (H : ∀ p ∈ ps, ¬ (p.wh = D ∧ p.sz = (n : Int))) : laidF ps D n = List.replicate n none := by
  have key : ∀ i, laidN ps D n i = List.replicate n none := by
    intro i
    induction i with
    | zero => rfl
    | succ i ih =>
      rw [laidN, ih]
      split
      · rename_i p hp
        rw [if_neg (H p (List.mem_of_getElem? hp))]
      · rfl
  exact key _
end Go.Proofs.Ytjnimbhecfpnmaa
