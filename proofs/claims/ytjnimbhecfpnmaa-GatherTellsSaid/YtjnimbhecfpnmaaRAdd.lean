/- What parts of one whole lay, plain: which bytes are there. -/
import Derived.Test.YtjnimbhecfpnmaaParts
import Derived.Test.YtjnimbhecfpnmaaLaid
import Derived.Test.YtjnimbhecfpnmaaMiss
import Derived.Test.YtjnimbhecfpnmaaAdd
import Derived.Test.YtjnimbhecfpnmaaWhole
import Derived.Test.YtjnimbhecfpnmaaFind
import Derived.Test.YtjnimbhecfpnmaaSame18
import Derived.Test.YtjnimbhecfpnmaaAwake19
import Derived.ChangeArms
import Derived.Deep.Cut
namespace Go.Proofs.Ytjnimbhecfpnmaa
section -- Sort
section -- Cover
set_option maxRecDepth 100000
open Go.ChangeShapes Go.WideShapes Go.ChangeAt Go.RowKit

/-- the bytes of those pieces that J tells of -/
def covF (l : List Int) (f : Nat → Bool) : List (Option Int) := (List.range l.length).map fun i => if f i then some (l.getD i 0) else none
def covSt (l : List Int) (size : Nat) (J : Nat → Bool) : List (Option Int) := covF l fun i => J (i / size)
theorem covF_len (l : List Int) (f : Nat → Bool) : (covF l f).length = l.length := by simp [covF]
theorem covF_get (l : List Int) (f : Nat → Bool) (i : Nat) (hi : i < l.length) : (covF l f)[i]'(by rw [covF_len]; exact hi) = if f i then some (l.getD i 0) else none := by simp [covF]
theorem covF_getD (l : List Int) (f : Nat → Bool) (i : Nat) (hi : i < l.length) : (covF l f).getD i none = if f i then some (l.getD i 0) else none := by
  rw [List.getD, List.getElem?_eq_getElem (by rw [covF_len]; exact hi), Option.getD_some, covF_get l f i hi]
theorem covF_ext {l : List Int} {f g : Nat → Bool} (h : ∀ i, i < l.length → f i = g i) : covF l f = covF l g := by
  unfold covF
  refine List.map_congr_left fun i hi => ?_
  rw [h i (List.mem_range.1 hi)]
theorem covF_set (l : List Int) (f : Nat → Bool) (q : Nat) : (covF l f).set q (some (l.getD q 0)) = covF l (fun i => f i || decide (i = q)) := by
  refine List.ext_getElem (by simp [covF]) fun i h1 h2 => ?_
  have hi : i < l.length := by rw [covF_len] at h2; exact h2
  refine Eq.trans ?_ (covF_get l (fun i => f i || decide (i = q)) i hi).symm
  rw [List.getElem_set]
  by_cases h : q = i
  · subst h
    simp
  · rw [if_neg h, covF_get l f i hi]
    simp [show ¬ i = q from fun e => h e.symm]
theorem put_cov (l : List Int) (f : Nat → Bool) (q : Nat) (hq : q < l.length) : stPut (covF l f) (q : Int) (l.getD q 0) = covF l (fun i => f i || decide (i = q)) := by
  unfold stPut
  rw [Int.toNat_natCast, covF_getD l f q hq, covF_len]
  by_cases h : f q = true
  · rw [if_neg (by rw [if_pos h]; simp)]
    refine covF_ext fun i hi => ?_
    by_cases e : i = q
    · rw [e, h]; rfl
    · simp [e]
  · rw [if_pos ⟨by omega, by omega, by rw [if_neg h]; rfl⟩]
    exact covF_set l f q
/-- the first m bytes of piece k put -/
theorem putN_cov (l : List Int) (size k : Nat) (hn : l.length ≤ 1000000) (f : Nat → Bool) : ∀ m, m ≤ (pieceF l size k).length → putN ((k * size : Nat) : Int) (pieceF l size k) (covF l f) m = covF l (fun i => f i || decide (k * size ≤ i ∧ i < k * size + m))
  | 0, _ => by
    rw [putN]
    refine covF_ext fun i _ => ?_
    have : ¬ (k * size ≤ i ∧ i < k * size + 0) := by omega
    rw [decide_eq_false this, Bool.or_false]
  | m + 1, hm => by
    have hl := pieceF_len l size k
    have hq : k * size + m < l.length := by omega
    rw [putN, putN_cov l size k hn f m (by omega)]
    have e1 : IntKind.i64.wrap (((k * size : Nat) : Int) + (m : Int)) = ((k * size + m : Nat) : Int) := by rw [IntKind.wrap_i64]; omega
    have e2 : (pieceF l size k).getD m 0 = l.getD (k * size + m) 0 := by
      unfold pieceF
      rw [List.getD, List.getElem?_take_of_lt (by omega), List.getElem?_drop, List.getD]
    rw [e1, e2, put_cov _ _ _ hq]
    refine covF_ext fun i _ => ?_
    rw [Bool.or_assoc]
    congr 1
    by_cases h : i = k * size + m
    · subst h
      simp
    · rw [decide_eq_false h, Bool.or_false]
      congr 1
      exact propext ⟨fun h2 => by omega, fun h2 => by omega⟩
theorem div_piece {size i k : Nat} (hs : 0 < size) : i / size = k ↔ k * size ≤ i ∧ i < k * size + size := by
  have h := Nat.div_add_mod i size
  have h2 := Nat.mod_lt i hs
  rw [Nat.mul_comm] at h
  constructor
  · rintro rfl
    omega
  · rintro ⟨h3, h4⟩
    exact Nat.div_eq_of_lt_le h3 (by rw [Nat.add_mul, Nat.one_mul]; exact h4)
theorem put_piece (l : List Int) (size k : Nat) (hs : 0 < size) (hn : l.length ≤ 1000000) (J : Nat → Bool) :
    putN ((k * size : Nat) : Int) (pieceF l size k) (covSt l size J) (pieceF l size k).length = covSt l size (fun j => J j || decide (j = k)) := by
  unfold covSt
  rw [putN_cov l size k hn _ _ (Nat.le_refl _)]
  refine covF_ext fun i hi => ?_
  congr 1
  have h := div_piece (i := i) (k := k) hs
  have hl := pieceF_len l size k
  by_cases e : i / size = k
  · rw [decide_eq_true e, decide_eq_true]
    have := h.1 e
    omega
  · rw [decide_eq_false e, decide_eq_false]
    intro h2
    exact e (h.2 (by omega))
theorem lack_cov (l : List Int) (f : Nat → Bool) : lackF (covF l f) = (List.range l.length).countP (fun i => !f i) := by
  unfold lackF covF
  rw [List.countP_map]
  congr 1
  funext i
  cases h : f i <;> simp [h]
theorem lack_all {l : List Int} {size : Nat} {J : Nat → Bool} (h : ∀ j, j * size < l.length → J j = true) : lackF (covSt l size J) = 0 := by
  unfold covSt
  rw [lack_cov, List.countP_eq_zero]
  intro i hi
  have hi' := List.mem_range.1 hi
  rw [h (i / size) (Nat.lt_of_le_of_lt (Nat.div_mul_le_self i size) hi')]
  simp
theorem lack_some {l : List Int} {size : Nat} (hs : 0 < size) {J : Nat → Bool} {j : Nat} (hj : j * size < l.length) (h : J j = false) : 0 < lackF (covSt l size J) := by
  unfold covSt
  rw [lack_cov, List.countP_pos_iff]
  exact ⟨j * size, List.mem_range.2 hj, by rw [Nat.mul_div_cancel _ hs, h]; rfl⟩
theorem out_all {l : List Int} {size : Nat} {J : Nat → Bool} (h : ∀ j, j * size < l.length → J j = true) : outL (covSt l size J) = l := by
  unfold outL covSt covF
  refine List.ext_getElem (by simp) fun i h1 h2 => ?_
  simp only [List.getElem_map, List.getElem_range]
  rw [h (i / size) (Nat.lt_of_le_of_lt (Nat.div_mul_le_self i size) h2)]
  simp [List.getD, h2]
/-- one piece more: so many bytes less lack -/
theorem lack_piece {l : List Int} {size k : Nat} (hs : 0 < size) (hn : l.length ≤ 1000000) {J : Nat → Bool} (h : J k = false) :
    lackF (covSt l size (fun j => J j || decide (j = k))) + (pieceF l size k).length = lackF (covSt l size J) := by
  have key : ∀ m, m ≤ (pieceF l size k).length → lackF (covF l (fun i => J (i / size) || decide (k * size ≤ i ∧ i < k * size + m))) + m = lackF (covSt l size J) := by
    intro m
    induction m with
    | zero =>
      intro _
      rw [Nat.add_zero]
      unfold covSt
      congr 1
      refine covF_ext fun i _ => ?_
      have : ¬ (k * size ≤ i ∧ i < k * size + 0) := by omega
      rw [decide_eq_false this, Bool.or_false]
    | succ m ih =>
      intro hm
      have hl := pieceF_len l size k
      have hq : k * size + m < l.length := by omega
      rw [← ih (by omega)]
      have e : covF l (fun i => J (i / size) || decide (k * size ≤ i ∧ i < k * size + (m + 1))) = (covF l (fun i => J (i / size) || decide (k * size ≤ i ∧ i < k * size + m))).set (k * size + m) (some (l.getD (k * size + m) 0)) := by
        rw [covF_set]
        refine covF_ext fun i _ => ?_
        rw [Bool.or_assoc]
        congr 1
        by_cases h : i = k * size + m
        · subst h
          simp
        · rw [decide_eq_false h, Bool.or_false]
          congr 1
          exact propext ⟨fun h2 => by omega, fun h2 => by omega⟩
      rw [e]
      have h3 := lack_set (st := covF l (fun i => J (i / size) || decide (k * size ≤ i ∧ i < k * size + m))) (i := k * size + m) (by rw [covF_len]; exact hq) (by
        rw [covF_get _ _ _ hq, (div_piece hs).2 ⟨Nat.le_add_right _ _, by omega⟩, h, if_neg]
        simp) (l.getD (k * size + m) 0)
      omega
  rw [← put_piece l size k hs hn J]
  have h2 := key _ (Nat.le_refl _)
  unfold covSt at h2 ⊢
  rw [putN_cov l size k hn _ _ (Nat.le_refl _)]
  exact h2
/-- is piece j among the parts? -/
def hasPt (ps : List Pt) (D : List Int) (n size j : Nat) : Bool := ps.any fun p => decide (p.wh = D ∧ p.sz = (n : Int) ∧ p.at' = ((j * size : Nat) : Int))
theorem cover {l : List Int} {size : Nat} (hs : 0 < size) (hn : l.length ≤ 1000000) (ps : List Pt) (D : List Int) (H : ∀ p ∈ ps, p.wh = D → p.sz = (l.length : Int) → ∃ k, p = ptF l size k) :
    ∀ i, i ≤ ps.length → laidN ps D l.length i = covSt l size (hasPt (ps.take i) D l.length size) := by
  intro i
  induction i with
  | zero =>
    intro _
    rw [laidN]
    refine List.ext_getElem (by simp [covSt, covF]) fun i h1 h2 => ?_
    have hi : i < l.length := by simpa using h1
    rw [List.getElem_replicate]
    refine Eq.trans ?_ (covF_get l (fun i => hasPt (List.take 0 ps) D l.length size (i / size)) i hi).symm
    simp [hasPt]
  | succ i ih =>
    intro hi
    have hil : i < ps.length := by omega
    rw [laidN, List.getElem?_eq_getElem hil, ih (by omega)]
    have ht : ∀ j, hasPt (ps.take (i + 1)) D l.length size j = (hasPt (ps.take i) D l.length size j || decide (ps[i].wh = D ∧ ps[i].sz = (l.length : Int) ∧ ps[i].at' = ((j * size : Nat) : Int))) := fun j => by
      unfold hasPt
      rw [List.take_succ_eq_append_getElem hil, List.any_append]
      simp
    dsimp only
    by_cases hc : ps[i].wh = D ∧ ps[i].sz = (l.length : Int)
    · rw [if_pos hc]
      obtain ⟨k, hk⟩ := H ps[i] (List.getElem_mem hil) hc.1 hc.2
      rw [hk]
      show putN ((k * size : Nat) : Int) (pieceF l size k) _ (pieceF l size k).length = _
      rw [put_piece l size k hs hn]
      congr 1
      funext j
      rw [ht j, hk]
      congr 1
      rw [hk] at hc
      refine decide_eq_decide.2 ⟨fun h => ⟨hc.1, hc.2, by rw [h]; rfl⟩, fun h => ?_⟩
      have h3 : ((k * size : Nat) : Int) = ((j * size : Nat) : Int) := h.2.2
      exact (Nat.eq_of_mul_eq_mul_right hs (by omega)).symm
    · rw [if_neg hc]
      congr 1
      funext j
      rw [ht j, decide_eq_false (fun h => hc ⟨h.1, h.2.1⟩), Bool.or_false]
theorem coverF {l : List Int} {size : Nat} (hs : 0 < size) (hn : l.length ≤ 1000000) (ps : List Pt) (D : List Int) (H : ∀ p ∈ ps, p.wh = D → p.sz = (l.length : Int) → ∃ k, p = ptF l size k) :
    laidF ps D l.length = covSt l size (hasPt ps D l.length size) := by
  unfold laidF
  rw [cover hs hn ps D H _ (Nat.le_refl _), List.take_length]
theorem has_part {l : List Int} {size : Nat} {ps : List Pt} {j : Nat} (h : ptF l size j ∈ ps) : hasPt ps (sumF l) l.length size j = true :=
  List.any_eq_true.2 ⟨_, h, decide_eq_true ⟨rfl, rfl, rfl⟩⟩
/-- no part of such a size -/
theorem laid_none {ps : List Pt} {D : List Int} {n : Nat} (H : ∀ p ∈ ps, ¬ (p.wh = D ∧ p.sz = (n : Int))) : laidF ps D n = List.replicate n none := by
  have key : ∀ i, laidN ps D n i = List.replicate n none := by
    intro i
    induction i with
    | zero => rfl
    | succ i ih =>
      rw [laidN, ih]
      split
      · rename_i p hp
        rw [if_neg (H p (List.mem_of_getElem? hp))]
      · rfl
  exact key _
end
section -- Makes
set_option maxRecDepth 100000
open Go.ChangeShapes Go.WideShapes Go.ChangeAt Go.RowKit

theorem orF_zero : ∀ {l : List Int}, orF l = 0 ↔ ∀ x ∈ l, x = 0
  | [] => by simp [orF]
  | a :: l => by
    rw [orF]
    by_cases h : a = 0
    · rw [if_pos h, orF_zero]
      simp [h]
    · rw [if_neg h]
      simp [h]
theorem cmpI_zero {a b : Int} : cmpI a b = 0 ↔ a = b := by
  unfold cmpI
  split
  · exact ⟨fun h => by omega, fun h => by omega⟩
  · split
    · exact ⟨fun h => by omega, fun h => by omega⟩
    · exact ⟨fun _ => by omega, fun _ => rfl⟩
theorem cmpB_zero : ∀ {l m : List Int}, cmpB l m = 0 ↔ l = m
  | [], [] => by simp [cmpB]
  | [], _ :: _ => by simp [cmpB]
  | _ :: _, [] => by simp [cmpB]
  | a :: l, b :: m => by
    rw [cmpB]
    split
    · exact ⟨fun h => by omega, fun h => by injection h with h1 _; omega⟩
    · split
      · exact ⟨fun h => by omega, fun h => by injection h with h1 _; omega⟩
      · rw [cmpB_zero]
        exact ⟨fun h => by rw [h, show a = b by omega], fun h => by injection h⟩
theorem cmpPt_zero {p q : Pt} : cmpPt p q = 0 ↔ p = q := by
  unfold cmpPt cmpP
  rw [orF_zero]
  constructor
  · intro h
    have h1 := cmpB_zero.1 (h (cmpB p.wh q.wh) (by simp))
    have h2 := cmpI_zero.1 (h (cmpI p.sz q.sz) (by simp))
    have h3 := cmpI_zero.1 (h (cmpI p.at' q.at') (by simp))
    have h4 := cmpB_zero.1 (h (cmpB p.da q.da) (by simp))
    cases p; cases q
    simp_all
  · rintro rfl x hx
    simp only [List.mem_cons, List.not_mem_nil, or_false] at hx
    rcases hx with rfl | rfl | rfl | rfl
    · exact cmpB_zero.2 rfl
    · exact cmpI_zero.2 rfl
    · exact cmpI_zero.2 rfl
    · exact cmpB_zero.2 rfl
theorem any_same {ls : List Pt} {p : Pt} : ls.any (fun q => cmpPt p q == 0) = true ↔ p ∈ ls := by
  rw [List.any_eq_true]
  constructor
  · rintro ⟨q, hq, h⟩
    rw [cmpPt_zero.1 (beq_iff_eq.1 h)]
    exact hq
  · intro h
    exact ⟨p, h, beq_iff_eq.2 (cmpPt_zero.2 rfl)⟩
theorem add_new {ls : List Pt} {p : Pt} (hm : mayB p.sz p.at' p.da.length = true) (hn : p ∉ ls) (hl : ls.length < 512) : addL ls p = (insQ ls (placeF ls p) p, 0) := by
  unfold addL
  rw [if_neg (by rw [hm]; simp), if_neg (fun h => hn (any_same.1 h)), if_neg (by omega)]
theorem add_old {ls : List Pt} {p : Pt} (hm : mayB p.sz p.at' p.da.length = true) (hn : p ∈ ls) : addL ls p = (ls, 7) := by
  unfold addL
  rw [if_neg (by rw [hm]; simp), if_pos (any_same.2 hn)]
theorem mem_insQ {α : Type} {l : List α} {i : Nat} {p x : α} : x ∈ insQ l i p ↔ x = p ∨ x ∈ l := by
  unfold insQ
  rw [List.mem_append, List.mem_cons]
  have h : x ∈ l ↔ x ∈ l.take i ∨ x ∈ l.drop i := by rw [← List.mem_append, List.take_append_drop]
  rw [h]
  constructor
  · rintro (h | h | h)
    · exact .inr (.inl h)
    · exact .inl h
    · exact .inr (.inr h)
  · rintro (h | h | h)
    · exact .inr (.inl h)
    · exact .inl h
    · exact .inr (.inr h)
theorem mem_addL {l : List Pt} {p x : Pt} (h : x ∈ (addL l p).1) : x = p ∨ x ∈ l := by
  unfold addL at h
  split at h
  · exact .inr h
  · split at h
    · exact .inr h
    · split at h
      · exact .inr h
      · exact mem_insQ.1 h
theorem addL_keep {l : List Pt} {p x : Pt} (h : x ∈ l) : x ∈ (addL l p).1 := by
  unfold addL
  split
  · exact h
  · split
    · exact h
    · split
      · exact h
      · exact mem_insQ.2 (.inr h)
theorem addL_len (l : List Pt) (p : Pt) : (addL l p).1.length ≤ l.length + 1 := by
  unfold addL
  split
  · show l.length ≤ _; omega
  · split
    · show l.length ≤ _; omega
    · split
      · show l.length ≤ _; omega
      · show (insQ _ _ _).length ≤ _
        rw [insQ_len _ _ _ (placeF_le l p)]; exact Nat.le_refl _
/-- what has been gathered: S tells which parts of b were seen -/
structure Makes (b o : List Int) (N M : Nat) (S : List Bool) (ls : List Pt) : Prop where
  own : ∀ p ∈ ls, (∃ k, k < N ∧ S.getD k false = true ∧ p = ptF b 7 k) ∨ ∃ j, j < M ∧ p = ptF o 9 j
  has : ∀ k, k < N → S.getD k false = true → ptF b 7 k ∈ ls
def leftF (N : Nat) (S : List Bool) : Nat := (List.range N).countP fun k => !S.getD k false
theorem ptF_inj {l : List Int} {size i j : Nat} (hs : 0 < size) (h : ptF l size i = ptF l size j) : i = j := by
  have h2 : ((i * size : Nat) : Int) = ((j * size : Nat) : Int) := congrArg Pt.at' h
  exact Nat.eq_of_mul_eq_mul_right hs (by omega)
section
variable {b o : List Int} {N M : Nat} {S : List Bool} {ls : List Pt}
theorem Makes.mem (hne : sumF b ≠ sumF o) (H : Makes b o N M S ls) {k : Nat} (h : ptF b 7 k ∈ ls) : S.getD k false = true := by
  rcases H.own _ h with ⟨k', _, h2, h3⟩ | ⟨j, _, h3⟩
  · rw [ptF_inj (by decide) h3]; exact h2
  · exact absurd (congrArg Pt.wh h3) hne
theorem may_pt {l : List Int} {size k : Nat} (hs : 0 < size) (hl : l.length ≤ 1000) (hk : k < chunksN l.length size) : mayB (ptF l size k).sz (ptF l size k).at' (ptF l size k).da.length = true := may_piece hs (by omega) hk
theorem Makes.old (H : Makes b o N M S ls) (hN : N = chunksN b.length 7) (hb : b.length ≤ 1000) {k : Nat} (hk : k < N) (hs : S.getD k false = true) : addL ls (ptF b 7 k) = (ls, 7) :=
  add_old (may_pt (by decide) hb (by rw [← hN]; exact hk)) (H.has k hk hs)
theorem getD_set_self {S : List Bool} {k : Nat} (h : k < S.length) : (S.set k true).getD k false = true := by simp [List.getD, h]
theorem getD_set_keep {S : List Bool} {k j : Nat} (h : S.getD j false = true) : (S.set k true).getD j false = true := by
  rw [List.getD, List.getElem?_set]
  by_cases e : k = j
  · subst e
    rw [if_pos rfl]
    by_cases hl : k < S.length
    · simp [hl]
    · simp [List.getD, hl] at h
  · rw [if_neg e]; exact h
theorem getD_set_other {S : List Bool} {k j : Nat} (e : k ≠ j) : (S.set k true).getD j false = S.getD j false := by
  rw [List.getD, List.getElem?_set, if_neg e]; rfl
theorem Makes.new (hne : sumF b ≠ sumF o) (H : Makes b o N M S ls) (hN : N = chunksN b.length 7) (hb : b.length ≤ 1000) {k : Nat} (hk : k < N) (hkS : k < S.length) (hl : ls.length < 512) (hs : S.getD k false = false) :
    ∃ ls', addL ls (ptF b 7 k) = (ls', 0) ∧ Makes b o N M (S.set k true) ls' ∧ ls'.length = ls.length + 1 := by
  refine ⟨_, add_new (may_pt (by decide) hb (by rw [← hN]; exact hk)) (fun h => by rw [H.mem hne h] at hs; cases hs) hl, ⟨?_, ?_⟩, insQ_len _ _ _ (placeF_le _ _)⟩
  · intro p hp
    rcases mem_insQ.1 hp with rfl | h
    · exact .inl ⟨k, hk, getD_set_self hkS, rfl⟩
    · rcases H.own p h with ⟨k', h1, h2, h3⟩ | h3
      · exact .inl ⟨k', h1, getD_set_keep h2, h3⟩
      · exact .inr h3
  · intro k' h1 h2
    rw [mem_insQ]
    by_cases e : k = k'
    · exact .inl (by rw [e])
    · rw [getD_set_other e] at h2
      exact .inr (H.has k' h1 h2)
theorem Makes.other (H : Makes b o N M S ls) {j : Nat} (hj : j < M) : Makes b o N M S (addL ls (ptF o 9 j)).1 := by
  refine ⟨fun p hp => ?_, fun k h1 h2 => addL_keep (H.has k h1 h2)⟩
  rcases mem_addL hp with rfl | h
  · exact .inr ⟨j, hj, rfl⟩
  · exact H.own p h
theorem leftF_set {k : Nat} (hk : k < N) (hkS : k < S.length) (hs : S.getD k false = false) : leftF N (S.set k true) + 1 = leftF N S := by
  induction N with
  | zero => omega
  | succ n ih =>
    unfold leftF at ih ⊢
    rw [List.range_succ, List.countP_append, List.countP_append]
    by_cases e : k = n
    · subst e
      have h1 : (List.range k).countP (fun j => !(S.set k true).getD j false) = (List.range k).countP (fun j => !S.getD j false) := by
        refine List.countP_congr fun j hj => ?_
        have hj2 := List.mem_range.1 hj
        rw [getD_set_other (by omega)]
      rw [h1]
      simp only [List.countP_cons, List.countP_nil, getD_set_self hkS, hs]
      simp
    · have h2 := ih (by omega)
      simp only [List.countP_cons, List.countP_nil, getD_set_other e]
      omega
theorem leftF_zero : leftF N S = 0 ↔ ∀ k, k < N → S.getD k false = true := by
  unfold leftF
  rw [List.countP_eq_zero]
  constructor
  · intro h k hk
    have := h k (List.mem_range.2 hk)
    cases hd : S.getD k false
    · rw [hd] at this; simp at this
    · rfl
  · intro h k hk
    rw [h k (List.mem_range.1 hk)]
    simp
theorem Makes.whole (hne : sumF b ≠ sumF o) (H : Makes b o N M S ls) (hN : N = chunksN b.length 7) (h1 : 1 ≤ b.length) (hb : b.length ≤ 1000) :
    wholeF ls (sumF b) = if leftF N S = 0 then some b else none := by
  have hown : ∀ p ∈ ls, p.wh = sumF b → ∃ k, k < N ∧ S.getD k false = true ∧ p = ptF b 7 k := fun p hp hw => by
    rcases H.own p hp with h | ⟨j, _, h⟩
    · exact h
    · rw [h] at hw
      exact absurd hw.symm hne
  have hcov := coverF (l := b) (size := 7) (by decide) (by omega) ls (sumF b) (fun p hp hw _ => by obtain ⟨k, _, _, h⟩ := hown p hp hw; exact ⟨k, h⟩)
  have hall : ∀ j, j * 7 < b.length → (hasPt ls (sumF b) b.length 7 j = true ↔ S.getD j false = true) := fun j hj => by
    constructor
    · intro h
      obtain ⟨p, hp, hd⟩ := List.any_eq_true.1 h
      have hd2 := of_decide_eq_true hd
      obtain ⟨k, _, hk, rfl⟩ := hown p hp hd2.1
      have e : ((k * 7 : Nat) : Int) = ((j * 7 : Nat) : Int) := hd2.2.2
      have : k = j := by omega
      rw [← this]; exact hk
    · intro h
      exact has_part (H.has j (by rw [hN]; exact (chunk_lt' (by decide)).2 hj) h)
  by_cases h0 : leftF N S = 0
  · rw [if_pos h0]
    have hse := leftF_zero.1 h0
    have hJ : ∀ j, j * 7 < b.length → hasPt ls (sumF b) b.length 7 j = true := fun j hj => (hall j hj).2 (hse j (by rw [hN]; exact (chunk_lt' (by decide)).2 hj))
    have hlack : lackF (laidF ls (sumF b) b.length) = 0 := by rw [hcov]; exact lack_all hJ
    have hout : outL (laidF ls (sumF b) b.length) = b := by rw [hcov]; exact out_all hJ
    have hgood : goodW ls (sumF b) b.length = true := by rw [good_zero hlack, hout]; exact decide_eq_true rfl
    have hm : mayS (b.length : Int) = true := decide_eq_true (by omega)
    have hN0 : 0 < N := by rw [hN]; exact (chunk_lt' (by decide)).2 (by omega)
    have hmem := H.has 0 hN0 (hse 0 hN0)
    have hf : ∃ p, ls.find? (fun p => decide (p.wh = sumF b) && (mayS p.sz && goodW ls (sumF b) p.sz.toNat)) = some p := by
      cases hfd : ls.find? (fun p => decide (p.wh = sumF b) && (mayS p.sz && goodW ls (sumF b) p.sz.toNat)) with
      | some p => exact ⟨p, rfl⟩
      | none =>
        have := List.find?_eq_none.1 hfd _ hmem
        have e1 : (ptF b 7 0).sz = (b.length : Int) := rfl
        have e2 : (ptF b 7 0).wh = sumF b := rfl
        rw [e1, e2, hm, Int.toNat_natCast, hgood] at this
        simp at this
    obtain ⟨p, hp⟩ := hf
    have hpm := List.mem_of_find?_eq_some hp
    have hpf := List.find?_some hp
    have hpw : p.wh = sumF b := by
      simp only [Bool.and_eq_true, decide_eq_true_eq] at hpf
      exact hpf.1
    obtain ⟨k, _, _, rfl⟩ := hown p hpm hpw
    unfold wholeF
    rw [hp]
    show some (outL (laidF ls (sumF b) ((b.length : Int)).toNat)) = some b
    rw [Int.toNat_natCast, hout]
  · rw [if_neg h0]
    have hex : ∃ k, k < N ∧ S.getD k false = false := by
      apply Classical.byContradiction
      intro hn
      refine h0 (leftF_zero.2 fun k hk => ?_)
      cases hd : S.getD k false
      · exact absurd ⟨k, hk, hd⟩ hn
      · rfl
    obtain ⟨k, hk, hks⟩ := hex
    have hkb : k * 7 < b.length := (chunk_lt' (by decide)).1 (by rw [← hN]; exact hk)
    have hpos : 0 < lackF (laidF ls (sumF b) b.length) := by
      rw [hcov]
      refine lack_some (by decide) hkb ?_
      cases hd : hasPt ls (sumF b) b.length 7 k
      · rfl
      · rw [(hall k hkb).1 hd] at hks; cases hks
    unfold wholeF
    rw [Option.map_eq_none_iff, List.find?_eq_none]
    intro p hp hf
    simp only [Bool.and_eq_true, decide_eq_true_eq] at hf
    obtain ⟨k', _, _, rfl⟩ := hown p hp hf.1
    have h3 : goodW ls (sumF b) ((b.length : Int)).toNat = true := hf.2.2
    rw [Int.toNat_natCast, good_false hpos] at h3
    cases h3
end
end
set_option maxRecDepth 100000
open Go.ChangeShapes Go.WideShapes Go.ChangeAt Go.RowKit

/-- how three stand to one another -/
def Tri (x y z : Int) : Prop := (x < 0 → y ≤ 0 → z < 0) ∧ (x ≤ 0 → y < 0 → z < 0) ∧ (x = 0 → y = 0 → z = 0)
theorem Tri.or {x y z X Y Z : Int} (h : Tri x y z) (H : Tri X Y Z) : Tri (if x = 0 then X else x) (if y = 0 then Y else y) (if z = 0 then Z else z) := by
  unfold Tri at *
  obtain ⟨h1, h2, h3⟩ := h
  obtain ⟨H1, H2, H3⟩ := H
  refine ⟨fun a b => ?_, fun a b => ?_, fun a b => ?_⟩ <;> split at a <;> split at b <;> split <;> omega
theorem cmpI_tri (a b c : Int) : Tri (cmpI a b) (cmpI b c) (cmpI a c) := by
  unfold Tri cmpI
  refine ⟨fun x y => ?_, fun x y => ?_, fun x y => ?_⟩ <;> split at x <;> split at y <;> split <;> (try split at x) <;> (try split at y) <;> (try split) <;> omega
theorem cmpB_tri : ∀ (l m n : List Int), Tri (cmpB l m) (cmpB m n) (cmpB l n)
  | [], [], [] => by simp [cmpB, Tri]
  | [], [], _ :: _ => by simp [cmpB, Tri]
  | [], _ :: _, [] => by simp [cmpB, Tri]
  | [], _ :: _, _ :: _ => by simp [cmpB, Tri]
  | _ :: _, [], [] => by simp [cmpB, Tri]
  | _ :: _, [], _ :: _ => by simp [cmpB, Tri]
  | _ :: _, _ :: _, [] => by simp [cmpB, Tri]
  | a :: l, b :: m, c :: n => by
    obtain ⟨h1, h2, h3⟩ := cmpB_tri l m n
    unfold Tri
    rw [cmpB, cmpB, cmpB]
    refine ⟨fun x y => ?_, fun x y => ?_, fun x y => ?_⟩ <;> split at x <;> split at y <;> split <;> (try split at x) <;> (try split at y) <;> (try split) <;> omega
theorem cmpPt_tri (p q r : Pt) : Tri (cmpPt p q) (cmpPt q r) (cmpPt p r) := by
  unfold cmpPt cmpP
  simp only [orF]
  exact (cmpB_tri _ _ _).or ((cmpI_tri _ _ _).or ((cmpI_tri _ _ _).or ((cmpB_tri _ _ _).or (by simp [Tri]))))
theorem cmpI_neg (a b : Int) : cmpI b a = - cmpI a b := by
  unfold cmpI
  split <;> split <;> (try split) <;> omega
theorem cmpB_neg : ∀ (l m : List Int), cmpB m l = - cmpB l m
  | [], [] => by simp [cmpB]
  | [], _ :: _ => by simp [cmpB]
  | _ :: _, [] => by simp [cmpB]
  | a :: l, b :: m => by
    rw [cmpB, cmpB, cmpB_neg l m]
    split <;> split <;> (try split) <;> omega
theorem cmpPt_neg (p q : Pt) : cmpPt q p = - cmpPt p q := by
  unfold cmpPt cmpP
  simp only [orF]
  rw [cmpB_neg p.wh q.wh, cmpI_neg p.sz q.sz, cmpI_neg p.at' q.at', cmpB_neg p.da q.da]
  simp only [Int.neg_eq_zero]
  repeat' split
  all_goals rfl
/-- each stands ahead of all that come behind -/
def Inc (l : List Pt) : Prop := l.Pairwise fun p q => cmpPt p q < 0
theorem cmp_self (p : Pt) : cmpPt p p = 0 := cmpPt_zero.2 rfl
theorem Inc.ext : ∀ {l m : List Pt}, Inc l → Inc m → (∀ x, x ∈ l ↔ x ∈ m) → l = m
  | [], [], _, _, _ => rfl
  | [], b :: m, _, _, h => by have := (h b).2 (by simp); simp at this
  | a :: l, [], _, _, h => by have := (h a).1 (by simp); simp at this
  | a :: l, b :: m, h1, h2, h => by
    obtain ⟨ha, hl⟩ := List.pairwise_cons.1 h1
    obtain ⟨hb, hm⟩ := List.pairwise_cons.1 h2
    have e : a = b := by
      rcases List.mem_cons.1 ((h a).1 (by simp)) with e | e
      · exact e
      · rcases List.mem_cons.1 ((h b).2 (by simp)) with e2 | e2
        · exact e2.symm
        · have x := hb a e
          have y := ha b e2
          have := cmpPt_neg a b
          omega
    subst e
    rw [Inc.ext hl hm fun x => ?_]
    constructor
    · intro hx
      rcases List.mem_cons.1 ((h x).1 (List.mem_cons_of_mem _ hx)) with e | e
      · subst e; have := ha x hx; have := cmp_self x; omega
      · exact e
    · intro hx
      rcases List.mem_cons.1 ((h x).2 (List.mem_cons_of_mem _ hx)) with e | e
      · subst e; have := hb x hx; have := cmp_self x; omega
      · exact e
theorem Inc.ins {l : List Pt} {p : Pt} (h : Inc l) (hn : p ∉ l) : Inc (insQ l (placeF l p) p) := by
  unfold Inc insQ
  have h0 : (l.take (placeF l p) ++ l.drop (placeF l p)).Pairwise fun p q => cmpPt p q < 0 := by rw [List.take_append_drop]; exact h
  obtain ⟨h1, h2, h3⟩ := List.pairwise_append.1 h0
  have hlt : ∀ a ∈ l.take (placeF l p), cmpPt a p < 0 := fun a ha => by
    obtain ⟨i, hi, rfl⟩ := List.getElem_of_mem ha
    rw [List.length_take] at hi
    rw [List.getElem_take]
    have := List.not_of_lt_findIdx (p := fun q => decide (0 < cmpPt q p)) (xs := l) (i := i) (by unfold placeF at hi; omega)
    have hne : cmpPt l[i] p ≠ 0 := fun e => hn (by rw [← cmpPt_zero.1 e]; exact List.getElem_mem _)
    simp at this
    omega
  have hgt : ∀ a ∈ l.drop (placeF l p), cmpPt p a < 0 := fun a ha => by
    have hlen : placeF l p < l.length := by
      rcases Nat.lt_or_ge (placeF l p) l.length with h | h
      · exact h
      · rw [List.drop_eq_nil_of_le h] at ha; simp at ha
    have hhd : cmpPt p l[placeF l p] < 0 := by
      have := List.findIdx_getElem (p := fun q => decide (0 < cmpPt q p)) (xs := l) (w := hlen)
      have h5 : 0 < cmpPt (l[placeF l p]'hlen) p := of_decide_eq_true this
      have := cmpPt_neg (l[placeF l p]'hlen) p
      omega
    rw [List.drop_eq_getElem_cons hlen] at ha h2
    rcases List.mem_cons.1 ha with rfl | ha
    · exact hhd
    · have := (List.pairwise_cons.1 h2).1 a ha
      exact (cmpPt_tri p _ a).1 hhd (by omega)
  exact List.pairwise_append.2 ⟨h1, List.pairwise_cons.2 ⟨hgt, h2⟩, fun a ha b hb => by
    rcases List.mem_cons.1 hb with rfl | hb
    · exact hlt a ha
    · exact h3 a ha b hb⟩
theorem Inc.add {l : List Pt} (p : Pt) (h : Inc l) : Inc (addL l p).1 := by
  unfold addL
  split
  · exact h
  · split
    · exact h
    · rename_i h2
      split
      · exact h
      · exact h.ins fun hm => h2 (any_same.2 hm)
/-- the parts added one by one -/
def addAll (ps : List Pt) : List Pt := ps.foldl (fun l p => (addL l p).1) []
theorem addAll_snoc (ps : List Pt) (p : Pt) : addAll (ps ++ [p]) = (addL (addAll ps) p).1 := by unfold addAll; rw [List.foldl_append]; rfl
theorem addAll_inv : ∀ (n : Nat) (ps : List Pt), ps.length = n → n ≤ 400 → (addAll ps).length ≤ n ∧ Inc (addAll ps) ∧ ∀ x, x ∈ addAll ps ↔ x ∈ ps ∧ mayB x.sz x.at' x.da.length = true
  | 0, ps, h, _ => by
    have : ps = [] := List.eq_nil_of_length_eq_zero h
    subst this
    exact ⟨Nat.le_refl _, List.Pairwise.nil, fun x => by simp [addAll]⟩
  | n + 1, ps, h, h4 => by
    obtain ⟨qs, p, rfl⟩ : ∃ qs p, ps = qs ++ [p] := ⟨ps.dropLast, ps.getLast (fun e => by rw [e] at h; simp at h), (List.dropLast_concat_getLast _).symm⟩
    obtain ⟨i1, i2, i3⟩ := addAll_inv n qs (by simpa using h) (by omega)
    rw [addAll_snoc]
    refine ⟨Nat.le_trans (addL_len _ _) (by omega), i2.add p, fun x => ?_⟩
    have key : x ∈ (addL (addAll qs) p).1 ↔ x ∈ addAll qs ∨ (x = p ∧ mayB p.sz p.at' p.da.length = true) := by
      by_cases hm : mayB p.sz p.at' p.da.length = true
      · by_cases hp : p ∈ addAll qs
        · rw [add_old hm hp]
          exact ⟨.inl, fun h => h.elim id fun h => h.1 ▸ hp⟩
        · rw [add_new hm hp (by omega), mem_insQ]
          exact ⟨fun h => h.elim (fun e => .inr ⟨e, hm⟩) .inl, fun h => h.elim .inr fun h => .inl h.1⟩
      · have : addL (addAll qs) p = (addAll qs, 1) := by unfold addL; rw [if_pos (by simpa using hm)]
        rw [this]
        exact ⟨.inl, fun h => h.elim id fun h => absurd h.2 hm⟩
    rw [key, i3, List.mem_append, List.mem_singleton]
    constructor
    · rintro (⟨h1, h2⟩ | ⟨rfl, h2⟩)
      · exact ⟨.inl h1, h2⟩
      · exact ⟨.inr rfl, h2⟩
    · rintro ⟨h1 | rfl, h2⟩
      · exact .inl ⟨h1, h2⟩
      · exact .inr ⟨rfl, h2⟩
theorem addAll_rev (ps : List Pt) (h : ps.length ≤ 400) : addAll ps.reverse = addAll ps := by
  obtain ⟨_, i2, i3⟩ := addAll_inv _ ps rfl h
  obtain ⟨_, j2, j3⟩ := addAll_inv _ ps.reverse rfl (by simpa using h)
  exact j2.ext i2 fun x => by rw [i3, j3, List.mem_reverse]
theorem addAll_take {ps : List Pt} {i : Nat} (h : i < ps.length) : addAll (ps.take (i + 1)) = (addL (addAll (ps.take i)) ps[i]).1 := by
  rw [List.take_succ_eq_append_getElem h, addAll_snoc]
end
section -- Before
set_option maxRecDepth 100000
open Go.ChangeShapes Go.WideShapes Go.ChangeAt Go.RowKit

theorem less_list : ∀ (a b : List UInt8), Op.bytesLess a b = decide (Lib.compareBytes a b < 0)
  | [], [] => by simp [Op.bytesLess, Lib.compareBytes]
  | _ :: _, [] => by simp [Op.bytesLess, Lib.compareBytes]
  | [], _ :: _ => by simp [Op.bytesLess, Lib.compareBytes]
  | a :: x, b :: y => by
    rw [Op.bytesLess, Lib.compareBytes, less_list x y]
    by_cases h : a < b
    · simp [h]
    · by_cases h2 : b < a
      · have hne : ¬ a = b := fun e => by subst e; exact h h2
        simp [h, h2, hne]
      · have he : a = b := UInt8.le_antisymm (UInt8.not_lt.1 h2) (UInt8.not_lt.1 h)
        simp [he]
theorem less_nums {l m : List Int} (hl : Bytes l) (hm : Bytes m) : Op.bytesLess (strOfNums l).toList (strOfNums m).toList = decide (cmpB l m < 0) := by
  rw [Lib.strOfNums_toList, Lib.strOfNums_toList, less_list, cmpB_bytes l m hl hm]
attribute [local irreducible] SlV Lies
attribute [local go_sem] takes takesE comesTo
set_option maxHeartbeats 4000000 in
theorem before_any (wh wh2 : List Int) (hw : wh.length = 32) (hw2 : wh2.length = 32) (bw : Bytes wh) (bw2 : Bytes wh2) (s a s2 a2 : Int) (v v2 : Value) (b o b2 o2 : Nat) (l m : List Int) (bl : Bytes l) (bm : Bytes m) (hv : SlV v b o l.length) (hv2 : SlV v2 b2 o2 m.length) (w : World) (hl : Lies w b o l) (hm : Lies w b2 o2 m) :
    Calls Try.prog 66 #[.agg (pcells wh s a v).toArray, .agg (pcells wh2 s2 a2 v2).toArray] w fun e w' => e = .returned (.bool (decide (cmpP wh wh2 s s2 a a2 l m < 0))) ∧ Below w.heap.size w w' := by
  have HV := Lib.hid (And.intro hv hv2)
  obtain ⟨pv, cv, rfl, _⟩ := by unfold SlV at hv; exact hv
  obtain ⟨pv2, cv2, rfl, _⟩ := by unfold SlV at hv2; exact hv2
  have k0 := pcells_size hw s a (.slice pv l.length cv)
  have k1 := pcells_at hw s a (.slice pv l.length cv)
  have k2 := pcells_data hw s a (.slice pv l.length cv)
  have j0 := pcells_size hw2 s2 a2 (.slice pv2 m.length cv2)
  have j1 := pcells_at hw2 s2 a2 (.slice pv2 m.length cv2)
  have j2 := pcells_data hw2 s2 a2 (.slice pv2 m.length cv2)
  have e1 : ∀ (W : World) g, W.heap[g]? = some (.cells (pcells wh s a (.slice pv l.length cv)).toArray 33 (0, 0)) → Lies W g 0 wh := fun W g h => lies_whole h
  have e2 : ∀ (W : World) g, W.heap[g]? = some (.cells (pcells wh2 s2 a2 (.slice pv2 m.length cv2)).toArray 33 (0, 0)) → Lies W g 0 wh2 := fun W g h => lies_whole h
  generalize (pcells wh s a (.slice pv l.length cv)).toArray = C at *
  generalize (pcells wh2 s2 a2 (.slice pv2 m.length cv2)).toArray = C2 at *
  have hq := blk2 w (.cells C 33) (.cells C2 33)
  have hb := below2 w (.cells C 33) (.cells C2 33)
  obtain ⟨W, hW⟩ : ∃ W, W = (w.alloc (.cells C 33)).alloc (.cells C2 33) := ⟨_, rfl⟩
  rw [← hW] at hq hb
  have HWQ := Lib.hid hW
  have c0 := cell_row hq.1 32 k0
  have c1 := cell_row hq.1 33 k1
  have c2 := cell_row hq.1 34 k2
  have d0 := cell_row hq.2 32 j0
  have d1 := cell_row hq.2 33 j1
  have d2 := cell_row hq.2 34 j2
  have L1 := e1 _ _ hq.1
  have L2 := e2 _ _ hq.2
  have cv1 := conv_slv w.heap.size 0 (.slice (some ⟨w.heap.size, 0, none⟩) 32 32) wh (by rw [hw]; exact slv_all _ 32 (by decide)) W L1
  have cv2' := conv_slv (w.heap.size + 1) 0 (.slice (some ⟨w.heap.size + 1, 0, none⟩) 32 32) wh2 (by rw [hw2]; exact slv_all _ 32 (by decide)) W L2
  have cv3 := conv_slv b o _ l HV.out.1 W (hl.below' hb)
  have cv4 := conv_slv b2 o2 _ m HV.out.2 W (hm.below' hb)
  have HE := nums_eql bw bw2
  have HL1 := less_nums bw bw2
  have HL2 := less_nums bl bm
  have HZ := Lib.hid (@cmpB_zero wh wh2)
  have HB := Lib.hid hb
  have hfin : cmpP wh wh2 s s2 a a2 l m = orF [cmpB wh wh2, cmpI s s2, cmpI a a2, cmpB l m] := rfl
  rw [hfin]
  obtain ⟨O, hO⟩ : ∃ O, O = orF [cmpB wh wh2, cmpI s s2, cmpI a a2, cmpB l m] := ⟨_, rfl⟩
  rw [← hO]
  simp only [orF] at hO
  obtain ⟨R, hR⟩ : ∃ R, R = decide (O < 0) := ⟨_, rfl⟩
  rw [← hR]
  obtain ⟨S1, hS1⟩ : ∃ S, S = strOfNums wh := ⟨_, rfl⟩
  obtain ⟨S2, hS2⟩ : ∃ S, S = strOfNums wh2 := ⟨_, rfl⟩
  obtain ⟨S3, hS3⟩ : ∃ S, S = strOfNums l := ⟨_, rfl⟩
  obtain ⟨S4, hS4⟩ : ∃ S, S = strOfNums m := ⟨_, rfl⟩
  rw [← hS1] at cv1 HE HL1
  rw [← hS2] at cv2' HE HL1
  rw [← hS3] at cv3 HL2
  rw [← hS4] at cv4 HL2
  unfold sameB at HE
  obtain ⟨q, hq'⟩ : ∃ q, q = decide (wh = wh2) := ⟨_, rfl⟩
  rw [← hq'] at HE
  have hqz : (q = true → cmpB wh wh2 = 0) ∧ (q = false → cmpB wh wh2 ≠ 0) := by
    rw [hq']
    exact ⟨fun h => HZ.out.2 (of_decide_eq_true h), fun h e => of_decide_eq_false h (HZ.out.1 e)⟩
  generalize cmpB wh wh2 = r1 at *
  generalize cmpB l m = r4 at *
  generalize l.length = n1 at *
  generalize m.length = n2 at *
  have HRES := Lib.hid (And.intro hR hO)
  have HLL := Lib.hid (And.intro HL1 HL2)
  have HQZ := Lib.hid hqz
  clear hfin k0 k1 k2 j0 j1 j2 e1 e2 hq hb hv hv2 hl hm bl bm hw hw2 L1 L2 hW hS1 hS2 hS3 hS4 hq' HL1 HL2 hqz HZ bw bw2 hR hO
  cases q with
  | false =>
    have hr := HQZ.out.2 rfl
    have HR := Lib.hid hr
    clear hr
    go_enter Try.func66, Try.ntmps66
    go_upto_region 1 with fail
    rw [← HWQ.out]
    go_wp2_with fail
    go_ret
    refine ⟨?_, HB.out⟩
    have h : R = Op.bytesLess S1.toList S2.toList := by rw [HRES.out.1, HRES.out.2, if_neg HR.out]; exact HLL.out.1.symm
    rw [h]
    rfl
  | true =>
    have hr := HQZ.out.1 rfl
    subst hr
    clear HQZ
    by_cases h1 : s = s2
    · subst h1
      by_cases h2 : a = a2
      · subst h2
        have hi : cmpI s s = 0 := cmpI_zero.2 rfl
        have hj : cmpI a a = 0 := cmpI_zero.2 rfl
        have h : R = Op.bytesLess S3.toList S4.toList := by
          rw [HRES.out.1, HRES.out.2, if_pos rfl, hi, if_pos rfl, hj, if_pos rfl]
          have hz : (if r4 = 0 then (0 : Int) else r4) = r4 := by split <;> simp_all
          rw [hz]
          exact HLL.out.2.symm
        have HF := Lib.hid h
        clear hi hj h
        go_enter Try.func66, Try.ntmps66
        go_upto_region 1 with fail
        rw [← HWQ.out]
        go_wp2_with fail
        go_ret
        refine ⟨?_, HB.out⟩
        rw [HF.out]
        rfl
      · have hi : cmpI s s = 0 := cmpI_zero.2 rfl
        have hj : cmpI a a2 ≠ 0 := fun e => h2 (cmpI_zero.1 e)
        have hk : decide (cmpI a a2 < 0) = decide (a < a2) := decide_eq_decide.2 (by unfold cmpI; split <;> (try split) <;> omega)
        have h : R = decide (a < a2) := by rw [HRES.out.1, HRES.out.2, if_pos rfl, hi, if_pos rfl, if_neg hj, hk]
        have HK := Lib.hid h
        clear hi hj hk h
        have h2' : (a == a2) = false := beq_eq_false_iff_ne.2 h2
        have H2 := Lib.hid h2
        clear h2
        go_enter Try.func66, Try.ntmps66
        go_upto_region 1 with fail
        rw [← HWQ.out]
        go_wp2_with fail
        go_ret
        refine ⟨?_, HB.out⟩
        rw [HK.out]
        rfl
    · have hj : cmpI s s2 ≠ 0 := fun e => h1 (cmpI_zero.1 e)
      have hk : decide (cmpI s s2 < 0) = decide (s < s2) := decide_eq_decide.2 (by unfold cmpI; split <;> (try split) <;> omega)
      have h : R = decide (s < s2) := by rw [HRES.out.1, HRES.out.2, if_pos rfl, if_neg hj, hk]
      have HK := Lib.hid h
      clear hj hk h
      have h1' : (s == s2) = false := beq_eq_false_iff_ne.2 h1
      have H1 := Lib.hid h1
      clear h1
      go_enter Try.func66, Try.ntmps66
      go_upto_region 1 with fail
      rw [← HWQ.out]
      go_wp2_with fail
      go_ret
      refine ⟨?_, HB.out⟩
      rw [HK.out]
      rfl
end
set_option maxRecDepth 100000
open Go.ChangeShapes Go.WideShapes Go.ChangeAt Go.RowKit

theorem same_pt {p q : Pt} : samePB p.wh q.wh p.sz q.sz p.at' q.at' p.da q.da = true ↔ p = q := by
  unfold samePB
  rw [decide_eq_true_eq]
  constructor
  · rintro ⟨h1, h2, h3, h4⟩
    cases p; cases q
    simp_all
  · rintro rfl
    exact ⟨rfl, rfl, rfl, rfl⟩
theorem before_q (p q : Pt × Value) (hp : p.1.ok) (hq : q.1.ok) {base base2 : Nat} (w : World) (kp : Held base w p.2 p.1.da) (kq : Held base2 w q.2 q.1.da) :
    Calls Try.prog 66 #[.agg (qC p).toArray, .agg (qC q).toArray] w fun e w' => e = .returned (.bool (decide (0 < cmpPt q.1 p.1))) ∧ Below w.heap.size w w' := by
  obtain ⟨p, u⟩ := p
  obtain ⟨q, u'⟩ := q
  obtain ⟨b, o, h1, h2, _⟩ := kp
  obtain ⟨b2, o2, k1, k2, _⟩ := kq
  have h := before_any p.wh q.wh hp.1 hq.1 hp.2.1 hq.2.1 p.sz p.at' q.sz q.at' u u' b o b2 o2 p.da q.da hp.2.2.1 hq.2.2.1 h1 k1 w h2 k2
  rw [show decide (0 < cmpPt q p) = decide (cmpP p.wh q.wh p.sz q.sz p.at' q.at' p.da q.da < 0) from decide_eq_decide.2 (by rw [cmpPt_neg p q]; unfold cmpPt; omega)]
  exact h
theorem same_q (p q : Pt × Value) (hp : p.1.ok) (hq : q.1.ok) {base base2 : Nat} (w : World) (kp : Held base w p.2 p.1.da) (kq : Held base2 w q.2 q.1.da) :
    Calls Try.prog 21 #[.agg (qC p).toArray, .agg (qC q).toArray] w fun e w' => e = .returned (.bool (samePB p.1.wh q.1.wh p.1.sz q.1.sz p.1.at' q.1.at' p.1.da q.1.da)) ∧ Below w.heap.size w w' := by
  obtain ⟨p, u⟩ := p
  obtain ⟨q, u'⟩ := q
  obtain ⟨b, o, h1, h2, _⟩ := kp
  obtain ⟨b2, o2, k1, k2, _⟩ := kq
  exact rsame_any p.wh q.wh hp.1 hq.1 p.sz p.at' q.sz q.at' u u' b o b2 o2 p.da q.da hp.2.2.1 hq.2.2.1 h1 k1 w h2 k2
theorem placeF_first {ps : List Pt} {p : Pt} {k : Nat} (hk : k < ps.length) (h1 : 0 < cmpPt ps[k] p) (h2 : ∀ j (h : j < ps.length), j < k → ¬ 0 < cmpPt ps[j] p) : placeF ps p = k := by
  unfold placeF
  rw [List.findIdx_eq hk]
  exact ⟨decide_eq_true h1, fun j hj => decide_eq_false (h2 j (by omega) hj)⟩
theorem placeF_last {ps : List Pt} {p : Pt} (h2 : ∀ j (h : j < ps.length), ¬ 0 < cmpPt ps[j] p) : placeF ps p = ps.length := by
  unfold placeF
  rw [List.findIdx_eq_length]
  intro x hx
  obtain ⟨j, hj, rfl⟩ := List.getElem_of_mem hx
  exact decide_eq_false (h2 j hj)
attribute [local irreducible] SlV Lies headG
attribute [local go_sem] takes takesE comesTo
set_option maxHeartbeats 8000000 in
theorem radd_any (v : Value) (qs : List (Pt × Value)) (pu : Pt × Value) (w : World) (hv : RdP w.heap.size w v qs) (hn : qs.length ≤ 400) (hp : pu.1.ok) (hk : Held w.heap.size w pu.2 pu.1.da) (hda : pu.1.da.length ≤ 1000000) (hnone : qs = [] → v = .slice none 0 0) :
    Calls Try.prog 37 #[v, .agg (qC pu).toArray] w fun e w' => ∃ v' qs', e = .returned (.tuple #[v', .int .i64 (addL (qs.map (·.1)) pu.1).2]) ∧ RdP w'.heap.size w' v' qs' ∧ qs'.map (·.1) = (addL (qs.map (·.1)) pu.1).1 ∧ Below w.heap.size w w' := by
  obtain ⟨C, hC⟩ : ∃ C, C = (qC pu).toArray := ⟨_, rfl⟩
  have hCz : C.size = 35 := by rw [hC]; exact qC_size hp.1
  have HMAY : Hid (∀ W, Calls Try.prog 20 #[.agg C] W fun e w' => e = .returned (.bool (mayB pu.1.sz pu.1.at' pu.1.da.length)) ∧ Below W.heap.size W w') := Lib.hid fun W => by
    rw [hC]
    obtain ⟨p, u⟩ := pu
    obtain ⟨b, o, h1, _, _⟩ := hk
    dsimp only at hp hda h1 ⊢
    obtain ⟨a, c, rfl, _⟩ := by unfold SlV at h1; exact h1
    exact rmay_any p.wh hp.1 p.sz p.at' a p.da.length c (by have : p.da.length ≤ 1000000 := hda; unfold maxLen; omega) W
  have HSAME : Hid (∀ W, BC w W → ∀ q ∈ qs, Calls Try.prog 21 #[.agg (qC q).toArray, .agg C] W fun e w' => e = .returned (.bool (samePB q.1.wh pu.1.wh q.1.sz pu.1.sz q.1.at' pu.1.at' q.1.da pu.1.da)) ∧ Below W.heap.size W w') := Lib.hid fun W hW q hq => by
    rw [hC]
    exact same_q q pu (hv.1 q hq).1 hp W ((hv.1 q hq).2.below hW) (hk.below hW)
  have HBEF : Hid (∀ W, BC w W → ∀ q ∈ qs, Calls Try.prog 66 #[.agg C, .agg (qC q).toArray] W fun e w' => e = .returned (.bool (decide (0 < cmpPt q.1 pu.1))) ∧ Below W.heap.size W w') := Lib.hid fun W hW q hq => by
    rw [hC]
    exact before_q pu q hp (hv.1 q hq).1 W (hk.below hW) ((hv.1 q hq).2.below hW)
  rw [← hC]
  obtain ⟨p, hpp⟩ : ∃ p, p = pu.1 := ⟨_, rfl⟩
  rw [← hpp] at HMAY HSAME HBEF ⊢
  obtain ⟨ps, hps⟩ : ∃ ps, ps = qs.map (·.1) := ⟨_, rfl⟩
  rw [← hps]
  obtain ⟨mb, hmb⟩ : ∃ m, m = mayB p.sz p.at' p.da.length := ⟨_, rfl⟩
  rw [← hmb] at HMAY
  obtain ⟨W9, hW9⟩ : ∃ W, W = w.alloc (.cells C 33) := ⟨_, rfl⟩
  obtain ⟨g9, hg9⟩ : ∃ g, g = w.heap.size := ⟨_, rfl⟩
  have n9 := heap_alloc_new w (.cells C 33)
  have b9 := below1 w (.cells C 33)
  rw [← hW9, ← hg9] at n9
  rw [← hW9] at b9
  have H9 := Lib.hid (And.intro n9 (And.intro b9 (And.intro hW9 (And.intro hg9 (And.intro hCz hC)))))
  have HPU := Lib.hid (And.intro hp (And.intro hk (And.intro hpp (And.intro hmb hps))))
  have hvv := hv
  obtain ⟨hg, g, o, sv, rg, _⟩ := hvv
  obtain ⟨a, c, rfl, hc, hm, ha, _⟩ := by unfold SlV at sv; exact sv
  obtain ⟨n, hN⟩ : ∃ n, n = qs.length := ⟨_, rfl⟩
  rw [← hN] at ha hc hnone hv ⊢
  have hpl : ps.length = n := by rw [hps, List.length_map]; exact hN.symm
  have HV := Lib.hid (And.intro hv (And.intro rg (And.intro hN (And.intro ha (And.intro hn (And.intro hc (And.intro hm (And.intro hpl hnone))))))))
  clear hv sv rg hN ha hc hm hn hp hk hda hpp hmb hps n9 b9 hW9 hg9 hCz hC hg hpl hnone
  go_enter Try.func37, Try.ntmps37
  go_upto_region 1 with fail
  rw [← H9.out.2.2.1, ← H9.out.2.2.2.1]
  go_wp2_with ((with_reducible refine wlw_load_row (o := ⟨some 9, _, _, _, _, _⟩) ?_ 33 (.tmp 3) ?_ _ ?_ _ C _ _ H9.out.1 Try.underlying33 ?_ ?_ ?_); (focus rfl); (focus rfl); (focus rfl); (focus rfl); (focus (rw [H9.out.2.2.2.2.1]; kernel_rfl)))
  refine (HMAY.out _).mono ?_
  rintro e w1 ⟨rfl, b1⟩
  have H1 := Lib.hid (And.intro (BC_trans (show BC w W9 from H9.out.2.1) b1) (BC_blk1 b1 H9.out.1))
  clear b1
  cases mb with
  | false =>
    have had : addL ps p = (ps, 1) := by unfold addL; rw [if_pos HPU.out.2.2.2.1.symm]
    have HAD := Lib.hid had
    clear had
    go_wp2_with fail
    go_ret2
    rw [HAD.out]
    exact ⟨_, qs, rfl, HV.out.1.to H1.out.1, HPU.out.2.2.2.2.symm, H1.out.1⟩
  | true =>
    have hn5 : ¬ (512 : Int) ≤ (n : Int) := by have := HV.out.2.2.1; have := HV.out.2.2.2.2.1; omega
    go_wp2_with fail
    go_loopw [6] (fun v6 wr => ∃ i : Nat, i ≤ n ∧ v6 = .int .i64 (i : Int) ∧ (∀ j (h : j < qs.length), j < i → (qs[j]).1 ≠ p) ∧ BC w1 wr) (fun i _ => n - (intOf i).toNat)
    case atStart => exact ⟨0, Nat.zero_le _, rfl, fun j h hj => by omega, BC_refl _⟩
    case round =>
      obtain ⟨i, hi, rfl, hno, hbr⟩ := hrel
      have HR := Lib.hid (And.intro hi (And.intro hno hbr))
      clear hi hno hbr
      by_cases hlt : i < n
      · have i0 : (0 : Int) ≤ (i : Int) := by omega
        have i1 : (i : Int) < (n : Int) := by omega
        obtain ⟨I1, hI1⟩ : ∃ m, m = i + 1 := ⟨_, rfl⟩
        have s1 : IntKind.i64.wrap ((i : Int) + 1) = (I1 : Int) := by rw [IntKind.wrap_i64]; have := HV.out.2.2.1; have := HV.out.2.2.2.2.1; omega
        have hiq : i < qs.length := by rw [← HV.out.2.2.1]; exact hlt
        obtain rfl := HV.out.2.2.2.1 (by omega)
        have hrg := range_get HV.out.2.1 HV.out.1.1.wh hiq
        have hqm := List.getElem_mem hiq
        have bwr := BC_trans H1.out.1 HR.out.2.2
        obtain ⟨q, hq⟩ : ∃ q, q = qs[i]'hiq := ⟨_, rfl⟩
        rw [← hq] at hrg hqm
        obtain ⟨CI, hCI⟩ : ∃ C, C = (qC q).toArray := ⟨_, rfl⟩
        have hCIz : CI.size = 35 := by rw [hCI]; exact qC_size (HV.out.1.1.wh q hqm)
        obtain ⟨z, hz⟩ : ∃ z, z = samePB q.1.wh p.wh q.1.sz p.sz q.1.at' p.at' q.1.da p.da := ⟨_, rfl⟩
        have HSM : Hid (∀ x : HW (BC wr), Calls Try.prog 21 #[.agg CI, .agg C] x.w fun e w' => e = .returned (.bool z) ∧ Below x.w.heap.size x.w w') := Lib.hid fun x => by
          rw [hz, hCI]
          exact HSAME.out x.w (BC_trans bwr x.h) q hqm
        have HFR : Hid (∀ x : HW (BC wr), x.w.heap[g9]? = some (.cells C 33 (0, 0))) := Lib.hid (BC_blk (BC_blk1 HR.out.2.2 H1.out.2))
        have HFM : Hid (∀ x : HW (BC wr), x.w.rangeAt g (o + i * 35) CI.toList) := Lib.hid fun x j u hj => later (BC_trans bwr x.h) (hrg j u (by rw [hCI] at hj; exact hj))
        have HSZ := Lib.hid (And.intro hCIz H9.out.2.2.2.2.1)
        have HI := Lib.hid (And.intro hI1 (And.intro hlt (And.intro hq (And.intro hz hqm))))
        have HIQ := Lib.hid hiq
        clear hI1 hlt hz hqm bwr hrg hCI hCIz
        go_upto_region 6 with fail
        have hS := BC_all (w := wr)
        haveI := BC_inst wr
        refine wp_region_head (BC wr) 6 (by kernel_rfl) (by kernel_rfl) (BC_start _) ?_
        simp only [List.take_succ_cons, List.take_zero, List.drop_succ_cons, List.drop_zero]
        repeat (first
          | ((with_reducible refine headG_load_mid (o := ⟨some 22, _, _, _, _, _⟩) 33 (.tmp 21) ?_ ?_ _ _ ?_ CI _ HFM.out Try.underlying33 ?_ ?_ ?_); (focus rfl); (focus rfl); (focus rfl); (focus rfl); (focus (rw [HSZ.out.1]; kernel_rfl)))
          | ((with_reducible refine headG_load_row (o := ⟨some 23, _, _, _, _, _⟩) 33 (.tmp 3) ?_ ?_ _ ?_ _ C _ _ HFR.out Try.underlying33 ?_ ?_ ?_); (focus rfl); (focus rfl); (focus rfl); (focus rfl); (focus (rw [HSZ.out.2]; kernel_rfl)))
          | (refine headG_step (fun K hK => ?_)
             go_simp
             first
               | (refine hK _ ?_; clear hK K)
               | (apply Exists.intro
                  refine ⟨fun x => ?_, hK _ ?_⟩
                  (go_at_call 21; exact BC_call x (HSM.out x))
                  clear hK K)))
        refine headG_nil ?_
        intro wy hby
        have HY := Lib.hid (BC_trans HR.out.2.2 hby)
        clear hS hby
        cases z with
        | true =>
          have hpm : p ∈ ps := by
            rw [HPU.out.2.2.2.2]
            exact List.mem_map.2 ⟨q, HI.out.2.2.2.2, same_pt.1 HI.out.2.2.2.1.symm⟩
          have HAD := Lib.hid (add_old HPU.out.2.2.2.1.symm hpm)
          clear hpm
          go_wp2_with fail
          go_ret2
          rw [HAD.out]
          exact ⟨_, rfl, qs, HV.out.1.to (BC_trans H1.out.1 HY.out), HPU.out.2.2.2.2.symm, BC_trans H1.out.1 HY.out⟩
        | false =>
          go_wp2_with fail
          go_roundw
          case rel => exact ⟨I1, by have := HI.out; omega, rfl, fun j h hj => by
            by_cases e : j = i
            · subst e
              rw [← HI.out.2.2.1]
              intro e2
              have := same_pt.2 e2
              rw [← HI.out.2.2.2.1] at this
              cases this
            · exact HR.out.2.1 j h (by have := HI.out; omega), HY.out⟩
          case measure => have := HI.out; simp [intOf]; omega
      · have hge : ¬ (i : Int) < (n : Int) := by omega
        have hpm : ¬ p ∈ ps := fun hm => by
          rw [HPU.out.2.2.2.2] at hm
          obtain ⟨q, hq, e⟩ := List.mem_map.1 hm
          obtain ⟨j, hj, rfl⟩ := List.getElem_of_mem hq
          exact HR.out.2.1 j hj (by have := HV.out.2.2.1; omega) e
        have HAD := Lib.hid (add_new HPU.out.2.2.2.1.symm hpm (by rw [HV.out.2.2.2.2.2.2.2.1]; have := HV.out.2.2.2.2.1; have := HV.out.2.2.1; omega))
        have HBR := Lib.hid HR.out.2.2
        clear hpm hlt
        go_wp2_with fail
        go_loopw [7] (fun v7 wr => ∃ k : Nat, k ≤ n ∧ v7 = .int .i64 (k : Int) ∧ (∀ j (h : j < ps.length), j < k → ¬ 0 < cmpPt ps[j] p) ∧ BC w1 wr) (fun k _ => n - (intOf k).toNat)
        case atStart => exact ⟨0, Nat.zero_le _, rfl, fun j h hj => by omega, HBR.out⟩
        case round =>
          obtain ⟨k, hk, rfl, hno, hbr⟩ := hrel
          have HK := Lib.hid (And.intro hk (And.intro hno hbr))
          clear hk hno hbr
          by_cases hlt : k < n
          · have k0 : (0 : Int) ≤ (k : Int) := by omega
            have k1 : (k : Int) < (n : Int) := by omega
            obtain ⟨K1, hK1⟩ : ∃ m, m = k + 1 := ⟨_, rfl⟩
            have s1 : IntKind.i64.wrap ((k : Int) + 1) = (K1 : Int) := by rw [IntKind.wrap_i64]; have := HV.out.2.2.1; have := HV.out.2.2.2.2.1; omega
            have hkq : k < qs.length := by rw [← HV.out.2.2.1]; exact hlt
            have hkp : k < ps.length := by rw [HV.out.2.2.2.2.2.2.2.1]; exact hlt
            obtain rfl := HV.out.2.2.2.1 (by omega)
            have hrg := range_get HV.out.2.1 HV.out.1.1.wh hkq
            have hqm := List.getElem_mem hkq
            have hpk : ps[k]'hkp = (qs[k]'hkq).1 := by simp [HPU.out.2.2.2.2]
            have bwr := BC_trans H1.out.1 HK.out.2.2
            obtain ⟨q, hq⟩ : ∃ q, q = qs[k]'hkq := ⟨_, rfl⟩
            rw [← hq] at hrg hqm hpk
            obtain ⟨CI, hCI⟩ : ∃ C, C = (qC q).toArray := ⟨_, rfl⟩
            have hCIz : CI.size = 35 := by rw [hCI]; exact qC_size (HV.out.1.1.wh q hqm)
            obtain ⟨z, hz⟩ : ∃ z, z = decide (0 < cmpPt q.1 p) := ⟨_, rfl⟩
            have HSM : Hid (∀ x : HW (BC wr), Calls Try.prog 66 #[.agg C, .agg CI] x.w fun e w' => e = .returned (.bool z) ∧ Below x.w.heap.size x.w w') := Lib.hid fun x => by
              rw [hz, hCI]
              exact HBEF.out x.w (BC_trans bwr x.h) q hqm
            have HFR : Hid (∀ x : HW (BC wr), x.w.heap[g9]? = some (.cells C 33 (0, 0))) := Lib.hid (BC_blk (BC_blk1 HK.out.2.2 H1.out.2))
            have HFM : Hid (∀ x : HW (BC wr), x.w.rangeAt g (o + k * 35) CI.toList) := Lib.hid fun x j u hj => later (BC_trans bwr x.h) (hrg j u (by rw [hCI] at hj; exact hj))
            have HSZ := Lib.hid (And.intro hCIz H9.out.2.2.2.2.1)
            rw [← hpk] at hz
            have HI := Lib.hid (And.intro hK1 (And.intro hlt (And.intro hkp hz)))
            clear hK1 hqm bwr hrg hCI hCIz hz hkq hq hpk
            go_upto_region 11 with fail
            have hS := BC_all (w := wr)
            haveI := BC_inst wr
            refine wp_region_head (BC wr) 13 (by kernel_rfl) (by kernel_rfl) (BC_start _) ?_
            simp only [List.take_succ_cons, List.take_zero, List.drop_succ_cons, List.drop_zero]
            repeat (first
              | ((with_reducible refine headG_load_row (o := ⟨some 35, _, _, _, _, _⟩) 33 (.tmp 3) ?_ ?_ _ ?_ _ C _ _ HFR.out Try.underlying33 ?_ ?_ ?_); (focus rfl); (focus rfl); (focus rfl); (focus rfl); (focus (rw [HSZ.out.2]; kernel_rfl)))
              | ((with_reducible refine headG_load_mid (o := ⟨some 39, _, _, _, _, _⟩) 33 (.tmp 38) ?_ ?_ _ _ ?_ CI _ HFM.out Try.underlying33 ?_ ?_ ?_); (focus rfl); (focus rfl); (focus rfl); (focus rfl); (focus (rw [HSZ.out.1]; kernel_rfl)))
              | (refine headG_step (fun K hK => ?_)
                 go_simp
                 first
                   | (refine hK _ ?_; clear hK K)
                   | (apply Exists.intro
                      refine ⟨fun x => ?_, hK _ ?_⟩
                      (go_at_call 66; exact BC_call x (HSM.out x))
                      clear hK K)))
            refine headG_nil ?_
            intro wy hby
            have HY := Lib.hid (BC_trans HK.out.2.2 hby)
            clear hS hby
            cases z with
            | false =>
              go_wp2_with fail
              go_roundw
              case rel => exact ⟨K1, by have := HI.out; omega, rfl, fun j h hj => by
                by_cases e : j = k
                · subst e
                  exact of_decide_eq_false HI.out.2.2.2.symm
                · exact HK.out.2.1 j h (by have := HI.out; omega), HY.out⟩
              case measure => have := HI.out; simp [intOf]; omega
            | true =>
              have hpl := placeF_first HI.out.2.2.1 (of_decide_eq_true HI.out.2.2.2.symm) HK.out.2.1
              have hkn : k ≤ n := Nat.le_of_lt HI.out.2.1
              have f3 : ¬ c = k := by have := HV.out.2.2.2.2.2.1; have := HI.out.2.1; omega
              clear hlt
              have hkl : k ≤ qs.length := by rw [← HV.out.2.2.1]; exact hkn
              have HT1 : Hid (SlV (.slice (some ⟨g, o, none⟩) k c) g o (qs.take k).length) := Lib.hid (by
                rw [List.length_take, Nat.min_eq_left hkl]
                unfold SlV
                exact ⟨_, _, rfl, by have := HV.out.2.2.2.2.2.1; omega, HV.out.2.2.2.2.2.2.1, fun _ => rfl, fun h => by cases h⟩)
              have f1 : (k : Int) ≤ (c : Int) := by have := HV.out.2.2.2.2.2.1; omega
              have f2 : (k : Int) ≤ (n : Int) := by omega
              have f0 : (0 : Int) ≤ (k : Int) := by omega
              have g9y := BC_blk1 HY.out H1.out.2
              have bwy := BC_trans H1.out.1 HY.out
              have HB0 := Lib.hid (below1 wy (.cells #[] 33))
              have rgt : (wy.alloc (.cells #[] 33)).rangeAt g o (flatQ (qs.take k)) := fun j u hj => later (BC_trans bwy HB0.out) (range_take HV.out.2.1 HV.out.1.1.wh hkl j u hj)
              have ht32 : ∀ q ∈ qs.take k, q.1.wh.length = 32 := fun q hq => HV.out.1.1.wh q (List.mem_of_mem_take hq)
              have ht1 : ∀ u ∈ flatQ (qs.take k), u.oneCell' = true := fun u hu => HV.out.1.1.one u (by rw [← List.take_append_drop k qs, flatQ_append]; exact List.mem_append_left _ hu)
              have hd32 : ∀ q ∈ qs.drop k, q.1.wh.length = 32 := fun q hq => HV.out.1.1.wh q (List.mem_of_mem_drop hq)
              have hd1 : ∀ u ∈ flatQ (qs.drop k), u.oneCell' = true := fun u hu => HV.out.1.1.one u (by rw [← List.take_append_drop k qs, flatQ_append]; exact List.mem_append_right _ hu)
              have HTF := Lib.hid (And.intro (OwnR.zero wy wy.heap.size (Nat.le_refl _)) (And.intro rgt (And.intro ht32 (And.intro ht1 (And.intro hd32 (And.intro hd1 (And.intro HB0.out.size (And.intro g9y (And.intro bwy (And.intro hkl hpl))))))))))
              clear hkl rgt ht32 ht1 hd32 hd1 g9y bwy hpl hkn
              go_upto_region 14 with ((with_reducible refine wl_append_R (o := ⟨some 49, _, _, _, _, _⟩) ?_ (.tmp 45) (.tmp 48) ?_ wy.heap.size _ ([]) ?_ HTF.out.1 _ ?_ g o (qs.take k) HT1.out HTF.out.2.1 HTF.out.2.2.1 HTF.out.2.2.2.1 ?_ HTF.out.2.2.2.2.2.2.1 ?_); (focus rfl); (focus rfl); (focus rfl); (focus rfl); (focus (have := HTF.out.2.2.2.2.2.2.2.2.2.1; have := HV.out.2.2.2.2.1; have := HV.out.2.2.1; simp only [List.length_take, List.length_nil]; omega)); intro v8 w8 own8 b8)
              have by8 : BC wy w8 := (show Below wy.heap.size wy _ from HB0.out).trans b8
              have g98 := BC_blk1 by8 HTF.out.2.2.2.2.2.2.2.1
              obtain ⟨W11, hW11⟩ : ∃ W, W = w8.alloc (.cells C 33) := ⟨_, rfl⟩
              have n11 := heap_alloc_new w8 (.cells C 33)
              have b11 := below1 w8 (.cells C 33)
              rw [← hW11] at n11 b11
              have hr11 : W11.rangeAt w8.heap.size 0 (qC pu) := fun j u hj => by
                rw [Nat.zero_add]
                refine cell_row n11 j ?_
                rw [H9.out.2.2.2.2.2, List.getElem?_toArray]
                exact hj
              have o11 := own8.below b11
              have by11 := BC_trans by8 b11
              have hp32 : pu.1.wh.length = 32 := HPU.out.1.1
              have H11 := Lib.hid (And.intro g98 (And.intro hW11 (And.intro hr11 (And.intro o11 (And.intro by11 (And.intro hp32 (And.intro HPU.out.2.1.one by11.size)))))))
              clear g98 hW11 hr11 o11 by11 hp32 n11 b11 by8 own8 b8
              go_upto_region 15 with (first | ((with_reducible refine wlw_load_row (o := ⟨some 51, _, _, _, _, _⟩) ?_ 33 (.tmp 3) ?_ _ ?_ _ C _ _ H11.out.1 Try.underlying33 ?_ ?_ ?_); (focus rfl); (focus rfl); (focus rfl); (focus rfl); (focus (rw [H9.out.2.2.2.2.1]; kernel_rfl))) | ((with_reducible refine wl_build1R (o := ⟨some 52, _, _, _, _, _⟩) ?_ (.tmp 51) ?_ C ?_ H9.out.2.2.2.2.1 ?_); (focus rfl); (focus rfl); (focus rfl); rw [← H11.out.2.1]) | ((with_reducible refine wl_append1R (o := ⟨some 53, _, _, _, _, _⟩) ?_ (.tmp 50) (.tmp 52) ?_ wy.heap.size _ ([] ++ qs.take k) ?_ H11.out.2.2.2.1 w8.heap.size 0 1 ?_ pu H11.out.2.2.1 H11.out.2.2.2.2.2.1 H11.out.2.2.2.2.2.2.1 ?_ H11.out.2.2.2.2.2.2.2 ?_); (focus rfl); (focus rfl); (focus rfl); (focus rfl); (focus (have := HTF.out.2.2.2.2.2.2.2.2.2.1; have := HV.out.2.2.2.2.1; have := HV.out.2.2.1; simp only [List.nil_append, List.length_take]; omega)); intro v12 w12 own12 b12))
              have by12 : BC wy w12 := (show Below wy.heap.size wy _ from H11.out.2.2.2.2.1).trans b12
              have hT2 : SlV (.slice (some ⟨g, o + k * 35, none⟩) (n - k) (c - k)) g (o + k * 35) (qs.drop k).length := by
                rw [List.length_drop, ← HV.out.2.2.1]
                unfold SlV
                exact ⟨_, _, rfl, by have := HV.out.2.2.2.2.2.1; omega, by have := HV.out.2.2.2.2.2.2.1; omega, fun _ => rfl, fun h => by cases h⟩
              have rgd : w12.rangeAt g (o + k * 35) (flatQ (qs.drop k)) := fun j u hj => later (BC_trans HTF.out.2.2.2.2.2.2.2.2.1 by12) (range_drop HV.out.2.1 HV.out.1.1.wh HTF.out.2.2.2.2.2.2.2.2.2.1 j u hj)
              have H12 := Lib.hid (And.intro own12 (And.intro hT2 (And.intro rgd (And.intro by12.size by12))))
              clear own12 hT2 rgd by12 b12
              go_wp2_with ((with_reducible refine wl_append_R (o := ⟨some 58, _, _, _, _, _⟩) ?_ (.tmp 54) (.tmp 57) ?_ wy.heap.size _ (([] ++ qs.take k ++ [pu])) ?_ H12.out.1 _ ?_ g (o + k * 35) (qs.drop k) H12.out.2.1 H12.out.2.2.1 HTF.out.2.2.2.2.1 HTF.out.2.2.2.2.2.1 ?_ H12.out.2.2.2.1 ?_); (focus rfl); (focus rfl); (focus rfl); (focus rfl); (focus (have := HTF.out.2.2.2.2.2.2.2.2.2.1; have := HV.out.2.2.2.2.1; have := HV.out.2.2.1; simp only [List.length_take, List.length_nil, List.length_append, List.length_drop, List.length_singleton]; omega)); intro v15 w15 own15 b15)
              have hb : BC w w15 := BC_trans HTF.out.2.2.2.2.2.2.2.2.1 ((show Below wy.heap.size wy _ from H12.out.2.2.2.2).trans b15)
              have HF := Lib.hid (And.intro own15 hb)
              clear own15 hb b15
              go_ret2
              rw [HAD.out]
              refine ⟨_, rfl, insQ qs k pu, ?_, ?_, HF.out.2⟩
              · have h := HF.out.1
                rw [List.nil_append, List.append_assoc, List.singleton_append] at h
                refine h.rd fun q hq => ?_
                have h1 := HV.out.1.1.to HF.out.2
                rcases List.mem_append.1 hq with h | h
                · exact h1 q (List.mem_of_mem_take h)
                · rcases List.mem_cons.1 h with rfl | h
                  · exact ⟨HPU.out.1, (HPU.out.2.1.below HF.out.2).mono HF.out.2.size⟩
                  · exact h1 q (List.mem_of_mem_drop h)
              · rw [HTF.out.2.2.2.2.2.2.2.2.2.2, map_insQ, HPU.out.2.2.2.2, HPU.out.2.2.1]
          · have hkn : k = n := by have := HK.out; omega
            have hkn2 : k ≤ n := Nat.le_of_eq hkn
            have HKN := Lib.hid hkn
            have hge2 : ¬ (k : Int) < (n : Int) := by omega
            clear hkn hlt
            go_upto_region 11 with fail
            have hS := BC_all (w := wr)
            haveI := BC_inst wr
            refine wp_region_head (BC wr) 13 (by kernel_rfl) (by kernel_rfl) (BC_start _) ?_
            simp only [List.take_succ_cons, List.take_zero, List.drop_succ_cons, List.drop_zero]
            repeat (refine headG_step (fun K hK => ?_)
                    go_simp
                    (refine hK _ ?_; clear hK K))
            refine headG_nil ?_
            intro wy hby
            have HY := Lib.hid (BC_trans HK.out.2.2 hby)
            clear hS hby
            have hpl : placeF ps p = k := by rw [HKN.out, ← HV.out.2.2.2.2.2.2.2.1]; exact placeF_last fun j h => HK.out.2.1 j h (by rw [HKN.out, ← HV.out.2.2.2.2.2.2.2.1]; exact h)
            cases a with
            | none =>
              have hn0 : n = 0 := by
                rcases Nat.eq_zero_or_pos n with h | h
                · exact h
                · have := HV.out.2.2.2.1 h; cases this
              have hq0 : qs = [] := List.eq_nil_of_length_eq_zero (by rw [← HV.out.2.2.1]; exact hn0)
              have hc0 : c = 0 := by have := HV.out.2.2.2.2.2.2.2.2 hq0; injection this
              have hk0 : k = 0 := by omega
              subst hq0
              subst hn0
              subst hc0
              subst hk0
              clear hge hge2
              have hkn : 0 ≤ 0 := Nat.le_refl _
              have hkl : 0 ≤ ([] : List (Pt × Value)).length := by rw [← HV.out.2.2.1]; exact hkn
              have HT1 : Hid (SlV (.slice none 0 0) g o (([] : List (Pt × Value)).take 0).length) := Lib.hid (by
                rw [List.length_take, Nat.min_eq_left hkl]
                unfold SlV
                exact ⟨_, _, rfl, by have := HV.out.2.2.2.2.2.1; omega, HV.out.2.2.2.2.2.2.1, fun h => by omega, fun _ => rfl⟩)
              have f1 : (0 : Int) ≤ (0 : Int) := by have := HV.out.2.2.2.2.2.1; omega
              have f2 : (0 : Int) ≤ (0 : Int) := by omega
              have f0 : (0 : Int) ≤ (0 : Int) := by omega
              have g9y := BC_blk1 HY.out H1.out.2
              have bwy := BC_trans H1.out.1 HY.out
              have HB0 := Lib.hid (below1 wy (.cells #[] 33))
              have rgt : (wy.alloc (.cells #[] 33)).rangeAt g o (flatQ (([] : List (Pt × Value)).take 0)) := fun j u hj => later (BC_trans bwy HB0.out) (range_take HV.out.2.1 HV.out.1.1.wh hkl j u hj)
              have ht32 : ∀ q ∈ ([] : List (Pt × Value)).take 0, q.1.wh.length = 32 := fun q hq => HV.out.1.1.wh q (List.mem_of_mem_take hq)
              have ht1 : ∀ u ∈ flatQ (([] : List (Pt × Value)).take 0), u.oneCell' = true := fun u hu => HV.out.1.1.one u (by rw [← List.take_append_drop 0 ([] : List (Pt × Value)), flatQ_append]; exact List.mem_append_left _ hu)
              have hd32 : ∀ q ∈ ([] : List (Pt × Value)).drop 0, q.1.wh.length = 32 := fun q hq => HV.out.1.1.wh q (List.mem_of_mem_drop hq)
              have hd1 : ∀ u ∈ flatQ (([] : List (Pt × Value)).drop 0), u.oneCell' = true := fun u hu => HV.out.1.1.one u (by rw [← List.take_append_drop 0 ([] : List (Pt × Value)), flatQ_append]; exact List.mem_append_right _ hu)
              have HTF := Lib.hid (And.intro (OwnR.zero wy wy.heap.size (Nat.le_refl _)) (And.intro rgt (And.intro ht32 (And.intro ht1 (And.intro hd32 (And.intro hd1 (And.intro HB0.out.size (And.intro g9y (And.intro bwy (And.intro hkl hpl))))))))))
              clear hkl rgt ht32 ht1 hd32 hd1 g9y bwy hpl hkn
              go_upto_region 14 with ((with_reducible refine wl_append_R (o := ⟨some 49, _, _, _, _, _⟩) ?_ (.tmp 45) (.tmp 48) ?_ wy.heap.size _ ([]) ?_ HTF.out.1 _ ?_ g o (([] : List (Pt × Value)).take 0) HT1.out HTF.out.2.1 HTF.out.2.2.1 HTF.out.2.2.2.1 ?_ HTF.out.2.2.2.2.2.2.1 ?_); (focus rfl); (focus rfl); (focus rfl); (focus rfl); (focus (have := HTF.out.2.2.2.2.2.2.2.2.2.1; have := HV.out.2.2.2.2.1; have := HV.out.2.2.1; simp only [List.length_take, List.length_nil]; omega)); intro v8 w8 own8 b8)
              have by8 : BC wy w8 := (show Below wy.heap.size wy _ from HB0.out).trans b8
              have g98 := BC_blk1 by8 HTF.out.2.2.2.2.2.2.2.1
              obtain ⟨W11, hW11⟩ : ∃ W, W = w8.alloc (.cells C 33) := ⟨_, rfl⟩
              have n11 := heap_alloc_new w8 (.cells C 33)
              have b11 := below1 w8 (.cells C 33)
              rw [← hW11] at n11 b11
              have hr11 : W11.rangeAt w8.heap.size 0 (qC pu) := fun j u hj => by
                rw [Nat.zero_add]
                refine cell_row n11 j ?_
                rw [H9.out.2.2.2.2.2, List.getElem?_toArray]
                exact hj
              have o11 := own8.below b11
              have by11 := BC_trans by8 b11
              have hp32 : pu.1.wh.length = 32 := HPU.out.1.1
              have H11 := Lib.hid (And.intro g98 (And.intro hW11 (And.intro hr11 (And.intro o11 (And.intro by11 (And.intro hp32 (And.intro HPU.out.2.1.one by11.size)))))))
              clear g98 hW11 hr11 o11 by11 hp32 n11 b11 by8 own8 b8
              go_upto_region 15 with (first | ((with_reducible refine wlw_load_row (o := ⟨some 51, _, _, _, _, _⟩) ?_ 33 (.tmp 3) ?_ _ ?_ _ C _ _ H11.out.1 Try.underlying33 ?_ ?_ ?_); (focus rfl); (focus rfl); (focus rfl); (focus rfl); (focus (rw [H9.out.2.2.2.2.1]; kernel_rfl))) | ((with_reducible refine wl_build1R (o := ⟨some 52, _, _, _, _, _⟩) ?_ (.tmp 51) ?_ C ?_ H9.out.2.2.2.2.1 ?_); (focus rfl); (focus rfl); (focus rfl); rw [← H11.out.2.1]) | ((with_reducible refine wl_append1R (o := ⟨some 53, _, _, _, _, _⟩) ?_ (.tmp 50) (.tmp 52) ?_ wy.heap.size _ ([] ++ ([] : List (Pt × Value)).take 0) ?_ H11.out.2.2.2.1 w8.heap.size 0 1 ?_ pu H11.out.2.2.1 H11.out.2.2.2.2.2.1 H11.out.2.2.2.2.2.2.1 ?_ H11.out.2.2.2.2.2.2.2 ?_); (focus rfl); (focus rfl); (focus rfl); (focus rfl); (focus (have := HTF.out.2.2.2.2.2.2.2.2.2.1; have := HV.out.2.2.2.2.1; have := HV.out.2.2.1; simp only [List.nil_append, List.length_take]; omega)); intro v12 w12 own12 b12))
              have by12 : BC wy w12 := (show Below wy.heap.size wy _ from H11.out.2.2.2.2.1).trans b12
              have hT2 : SlV (.slice none (0 - 0) (0 - 0)) g (o + 0 * 35) (([] : List (Pt × Value)).drop 0).length := by
                rw [List.length_drop, ← HV.out.2.2.1]
                unfold SlV
                exact ⟨_, _, rfl, by have := HV.out.2.2.2.2.2.1; omega, by have := HV.out.2.2.2.2.2.2.1; omega, fun h => by omega, fun _ => rfl⟩
              have rgd : w12.rangeAt g (o + 0 * 35) (flatQ (([] : List (Pt × Value)).drop 0)) := fun j u hj => later (BC_trans HTF.out.2.2.2.2.2.2.2.2.1 by12) (range_drop HV.out.2.1 HV.out.1.1.wh HTF.out.2.2.2.2.2.2.2.2.2.1 j u hj)
              have H12 := Lib.hid (And.intro own12 (And.intro hT2 (And.intro rgd (And.intro by12.size by12))))
              clear own12 hT2 rgd by12 b12
              go_wp2_with ((with_reducible refine wl_append_R (o := ⟨some 58, _, _, _, _, _⟩) ?_ (.tmp 54) (.tmp 57) ?_ wy.heap.size _ (([] ++ ([] : List (Pt × Value)).take 0 ++ [pu])) ?_ H12.out.1 _ ?_ g (o + 0 * 35) (([] : List (Pt × Value)).drop 0) H12.out.2.1 H12.out.2.2.1 HTF.out.2.2.2.2.1 HTF.out.2.2.2.2.2.1 ?_ H12.out.2.2.2.1 ?_); (focus rfl); (focus rfl); (focus rfl); (focus rfl); (focus (have := HTF.out.2.2.2.2.2.2.2.2.2.1; have := HV.out.2.2.2.2.1; have := HV.out.2.2.1; simp only [List.length_take, List.length_nil, List.length_append, List.length_drop, List.length_singleton]; omega)); intro v15 w15 own15 b15)
              have hb : BC w w15 := BC_trans HTF.out.2.2.2.2.2.2.2.2.1 ((show Below wy.heap.size wy _ from H12.out.2.2.2.2).trans b15)
              have HF := Lib.hid (And.intro own15 hb)
              clear own15 hb b15
              go_ret2
              rw [HAD.out]
              refine ⟨_, rfl, insQ ([] : List (Pt × Value)) 0 pu, ?_, ?_, HF.out.2⟩
              · have h := HF.out.1
                rw [List.nil_append, List.append_assoc, List.singleton_append] at h
                refine h.rd fun q hq => ?_
                have h1 := HV.out.1.1.to HF.out.2
                rcases List.mem_append.1 hq with h | h
                · exact h1 q (List.mem_of_mem_take h)
                · rcases List.mem_cons.1 h with rfl | h
                  · exact ⟨HPU.out.1, (HPU.out.2.1.below HF.out.2).mono HF.out.2.size⟩
                  · exact h1 q (List.mem_of_mem_drop h)
              · rw [HTF.out.2.2.2.2.2.2.2.2.2.2, map_insQ, HPU.out.2.2.2.2, HPU.out.2.2.1]
            | some ad =>
              have hkn := hkn2
              clear hkn2
              have hkl : k ≤ qs.length := by rw [← HV.out.2.2.1]; exact hkn
              have HT1 : Hid (SlV (.slice (some ad) k c) g o (qs.take k).length) := Lib.hid (by
                rw [List.length_take, Nat.min_eq_left hkl]
                unfold SlV
                exact ⟨_, _, rfl, by have := HV.out.2.2.2.2.2.1; omega, HV.out.2.2.2.2.2.2.1, fun h => HV.out.2.2.2.1 (by omega), fun h => by cases h⟩)
              have f1 : (k : Int) ≤ (c : Int) := by have := HV.out.2.2.2.2.2.1; omega
              have f2 : (k : Int) ≤ (n : Int) := by omega
              have f0 : (0 : Int) ≤ (k : Int) := by omega
              have g9y := BC_blk1 HY.out H1.out.2
              have bwy := BC_trans H1.out.1 HY.out
              have HB0 := Lib.hid (below1 wy (.cells #[] 33))
              have rgt : (wy.alloc (.cells #[] 33)).rangeAt g o (flatQ (qs.take k)) := fun j u hj => later (BC_trans bwy HB0.out) (range_take HV.out.2.1 HV.out.1.1.wh hkl j u hj)
              have ht32 : ∀ q ∈ qs.take k, q.1.wh.length = 32 := fun q hq => HV.out.1.1.wh q (List.mem_of_mem_take hq)
              have ht1 : ∀ u ∈ flatQ (qs.take k), u.oneCell' = true := fun u hu => HV.out.1.1.one u (by rw [← List.take_append_drop k qs, flatQ_append]; exact List.mem_append_left _ hu)
              have hd32 : ∀ q ∈ qs.drop k, q.1.wh.length = 32 := fun q hq => HV.out.1.1.wh q (List.mem_of_mem_drop hq)
              have hd1 : ∀ u ∈ flatQ (qs.drop k), u.oneCell' = true := fun u hu => HV.out.1.1.one u (by rw [← List.take_append_drop k qs, flatQ_append]; exact List.mem_append_right _ hu)
              have HTF := Lib.hid (And.intro (OwnR.zero wy wy.heap.size (Nat.le_refl _)) (And.intro rgt (And.intro ht32 (And.intro ht1 (And.intro hd32 (And.intro hd1 (And.intro HB0.out.size (And.intro g9y (And.intro bwy (And.intro hkl hpl))))))))))
              clear hkl rgt ht32 ht1 hd32 hd1 g9y bwy hpl hkn
              go_upto_region 14 with ((with_reducible refine wl_append_R (o := ⟨some 49, _, _, _, _, _⟩) ?_ (.tmp 45) (.tmp 48) ?_ wy.heap.size _ ([]) ?_ HTF.out.1 _ ?_ g o (qs.take k) HT1.out HTF.out.2.1 HTF.out.2.2.1 HTF.out.2.2.2.1 ?_ HTF.out.2.2.2.2.2.2.1 ?_); (focus rfl); (focus rfl); (focus rfl); (focus rfl); (focus (have := HTF.out.2.2.2.2.2.2.2.2.2.1; have := HV.out.2.2.2.2.1; have := HV.out.2.2.1; simp only [List.length_take, List.length_nil]; omega)); intro v8 w8 own8 b8)
              have by8 : BC wy w8 := (show Below wy.heap.size wy _ from HB0.out).trans b8
              have g98 := BC_blk1 by8 HTF.out.2.2.2.2.2.2.2.1
              obtain ⟨W11, hW11⟩ : ∃ W, W = w8.alloc (.cells C 33) := ⟨_, rfl⟩
              have n11 := heap_alloc_new w8 (.cells C 33)
              have b11 := below1 w8 (.cells C 33)
              rw [← hW11] at n11 b11
              have hr11 : W11.rangeAt w8.heap.size 0 (qC pu) := fun j u hj => by
                rw [Nat.zero_add]
                refine cell_row n11 j ?_
                rw [H9.out.2.2.2.2.2, List.getElem?_toArray]
                exact hj
              have o11 := own8.below b11
              have by11 := BC_trans by8 b11
              have hp32 : pu.1.wh.length = 32 := HPU.out.1.1
              have H11 := Lib.hid (And.intro g98 (And.intro hW11 (And.intro hr11 (And.intro o11 (And.intro by11 (And.intro hp32 (And.intro HPU.out.2.1.one by11.size)))))))
              clear g98 hW11 hr11 o11 by11 hp32 n11 b11 by8 own8 b8
              go_upto_region 15 with (first | ((with_reducible refine wlw_load_row (o := ⟨some 51, _, _, _, _, _⟩) ?_ 33 (.tmp 3) ?_ _ ?_ _ C _ _ H11.out.1 Try.underlying33 ?_ ?_ ?_); (focus rfl); (focus rfl); (focus rfl); (focus rfl); (focus (rw [H9.out.2.2.2.2.1]; kernel_rfl))) | ((with_reducible refine wl_build1R (o := ⟨some 52, _, _, _, _, _⟩) ?_ (.tmp 51) ?_ C ?_ H9.out.2.2.2.2.1 ?_); (focus rfl); (focus rfl); (focus rfl); rw [← H11.out.2.1]) | ((with_reducible refine wl_append1R (o := ⟨some 53, _, _, _, _, _⟩) ?_ (.tmp 50) (.tmp 52) ?_ wy.heap.size _ ([] ++ qs.take k) ?_ H11.out.2.2.2.1 w8.heap.size 0 1 ?_ pu H11.out.2.2.1 H11.out.2.2.2.2.2.1 H11.out.2.2.2.2.2.2.1 ?_ H11.out.2.2.2.2.2.2.2 ?_); (focus rfl); (focus rfl); (focus rfl); (focus rfl); (focus (have := HTF.out.2.2.2.2.2.2.2.2.2.1; have := HV.out.2.2.2.2.1; have := HV.out.2.2.1; simp only [List.nil_append, List.length_take]; omega)); intro v12 w12 own12 b12))
              have by12 : BC wy w12 := (show Below wy.heap.size wy _ from H11.out.2.2.2.2.1).trans b12
              have hT2 : SlV (.slice (if c = k then some ad else some (ad.add (k * 35))) (n - k) (c - k)) g (o + k * 35) (qs.drop k).length := by
                rw [List.length_drop, ← HV.out.2.2.1]
                unfold SlV
                exact ⟨_, _, rfl, by have := HV.out.2.2.2.2.2.1; omega, by have := HV.out.2.2.2.2.2.2.1; omega, fun h => by have := HKN.out; omega, fun h => by split at h <;> cases h⟩
              have rgd : w12.rangeAt g (o + k * 35) (flatQ (qs.drop k)) := fun j u hj => later (BC_trans HTF.out.2.2.2.2.2.2.2.2.1 by12) (range_drop HV.out.2.1 HV.out.1.1.wh HTF.out.2.2.2.2.2.2.2.2.2.1 j u hj)
              have H12 := Lib.hid (And.intro own12 (And.intro hT2 (And.intro rgd (And.intro by12.size by12))))
              clear own12 hT2 rgd by12 b12
              go_wp2_with ((with_reducible refine wl_append_R (o := ⟨some 58, _, _, _, _, _⟩) ?_ (.tmp 54) (.tmp 57) ?_ wy.heap.size _ (([] ++ qs.take k ++ [pu])) ?_ H12.out.1 _ ?_ g (o + k * 35) (qs.drop k) H12.out.2.1 H12.out.2.2.1 HTF.out.2.2.2.2.1 HTF.out.2.2.2.2.2.1 ?_ H12.out.2.2.2.1 ?_); (focus rfl); (focus rfl); (focus rfl); (focus rfl); (focus (have := HTF.out.2.2.2.2.2.2.2.2.2.1; have := HV.out.2.2.2.2.1; have := HV.out.2.2.1; simp only [List.length_take, List.length_nil, List.length_append, List.length_drop, List.length_singleton]; omega)); intro v15 w15 own15 b15)
              all_goals
                have hb : BC w w15 := BC_trans HTF.out.2.2.2.2.2.2.2.2.1 ((show Below wy.heap.size wy _ from H12.out.2.2.2.2).trans b15)
                have HF := Lib.hid (And.intro own15 hb)
                clear own15 hb b15
                go_ret2
                rw [HAD.out]
                refine ⟨_, rfl, insQ qs k pu, ?_, ?_, HF.out.2⟩
                · have h := HF.out.1
                  rw [List.nil_append, List.append_assoc, List.singleton_append] at h
                  refine h.rd fun q hq => ?_
                  have h1 := HV.out.1.1.to HF.out.2
                  rcases List.mem_append.1 hq with h | h
                  · exact h1 q (List.mem_of_mem_take h)
                  · rcases List.mem_cons.1 h with rfl | h
                    · exact ⟨HPU.out.1, (HPU.out.2.1.below HF.out.2).mono HF.out.2.size⟩
                    · exact h1 q (List.mem_of_mem_drop h)
                · rw [HTF.out.2.2.2.2.2.2.2.2.2.2, map_insQ, HPU.out.2.2.2.2, HPU.out.2.2.1]
end Go.Proofs.Ytjnimbhecfpnmaa
