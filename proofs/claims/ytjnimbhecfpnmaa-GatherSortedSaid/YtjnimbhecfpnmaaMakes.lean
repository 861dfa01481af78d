/- What is gathered of two wholes' parts, plain. -/
import Derived.Test.YtjnimbhecfpnmaaCover
import Derived.Test.YtjnimbhecfpnmaaAdd
import Derived.Test.YtjnimbhecfpnmaaWhole
namespace Go.Proofs.Ytjnimbhecfpnmaa
set_option maxRecDepth 100000
open Go.ChangeShapes Go.WideShapes Go.ChangeAt Go.RowKit

theorem orF_zero : ∀ {l : List Int}, orF l = 0 ↔ ∀ x ∈ l, x = 0
  | [] => by simp [orF]
  | a :: l => by
    rw [orF]
    by_cases h : a = 0
    · rw [if_pos h, orF_zero]
      simp [h]
    · rw [if_neg h]
      simp [h]
theorem cmpI_zero {a b : Int} : cmpI a b = 0 ↔ a = b := by
  unfold cmpI
  split
  · exact ⟨fun h => by omega, fun h => by omega⟩
  · split
    · exact ⟨fun h => by omega, fun h => by omega⟩
    · exact ⟨fun _ => by omega, fun _ => rfl⟩
theorem cmpB_zero : ∀ {l m : List Int}, cmpB l m = 0 ↔ l = m
  | [], [] => by simp [cmpB]
  | [], _ :: _ => by simp [cmpB]
  | _ :: _, [] => by simp [cmpB]
  | a :: l, b :: m => by
    rw [cmpB]
    split
    · exact ⟨fun h => by omega, fun h => by injection h with h1 _; omega⟩
    · split
      · exact ⟨fun h => by omega, fun h => by injection h with h1 _; omega⟩
      · rw [cmpB_zero]
        exact ⟨fun h => by rw [h, show a = b by omega], fun h => by injection h⟩
theorem cmpPt_zero {p q : Pt} : cmpPt p q = 0 ↔ p = q := by
  unfold cmpPt cmpP
  rw [orF_zero]
  constructor
  · intro h
    have h1 := cmpB_zero.1 (h (cmpB p.wh q.wh) (by simp))
    have h2 := cmpI_zero.1 (h (cmpI p.sz q.sz) (by simp))
    have h3 := cmpI_zero.1 (h (cmpI p.at' q.at') (by simp))
    have h4 := cmpB_zero.1 (h (cmpB p.da q.da) (by simp))
    cases p; cases q
    simp_all
  · rintro rfl x hx
    simp only [List.mem_cons, List.not_mem_nil, or_false] at hx
    rcases hx with rfl | rfl | rfl | rfl
    · exact cmpB_zero.2 rfl
    · exact cmpI_zero.2 rfl
    · exact cmpI_zero.2 rfl
    · exact cmpB_zero.2 rfl
theorem any_same {ls : List Pt} {p : Pt} : ls.any (fun q => cmpPt p q == 0) = true ↔ p ∈ ls := by
  rw [List.any_eq_true]
  constructor
  · rintro ⟨q, hq, h⟩
    rw [cmpPt_zero.1 (beq_iff_eq.1 h)]
    exact hq
  · intro h
    exact ⟨p, h, beq_iff_eq.2 (cmpPt_zero.2 rfl)⟩
theorem add_new {ls : List Pt} {p : Pt} (hm : mayB p.sz p.at' p.da.length = true) (hn : p ∉ ls) (hl : ls.length < 512) : addL ls p = (insQ ls (placeF ls p) p, 0) := by
  unfold addL
  rw [if_neg (by rw [hm]; simp), if_neg (fun h => hn (any_same.1 h)), if_neg (by omega)]
theorem add_old {ls : List Pt} {p : Pt} (hm : mayB p.sz p.at' p.da.length = true) (hn : p ∈ ls) : addL ls p = (ls, 7) := by
  unfold addL
  rw [if_neg (by rw [hm]; simp), if_pos (any_same.2 hn)]
theorem mem_insQ {α : Type} {l : List α} {i : Nat} {p x : α} : x ∈ insQ l i p ↔ x = p ∨ x ∈ l := by
  unfold insQ
  rw [List.mem_append, List.mem_cons]
  have h : x ∈ l ↔ x ∈ l.take i ∨ x ∈ l.drop i := by rw [← List.mem_append, List.take_append_drop]
  rw [h]
  constructor
  · rintro (h | h | h)
    · exact .inr (.inl h)
    · exact .inl h
    · exact .inr (.inr h)
  · rintro (h | h | h)
    · exact .inr (.inl h)
    · exact .inl h
    · exact .inr (.inr h)
theorem mem_addL {l : List Pt} {p x : Pt} (h : x ∈ (addL l p).1) : x = p ∨ x ∈ l := by
  unfold addL at h
  split at h
  · exact .inr h
  · split at h
    · exact .inr h
    · split at h
      · exact .inr h
      · exact mem_insQ.1 h
theorem addL_keep {l : List Pt} {p x : Pt} (h : x ∈ l) : x ∈ (addL l p).1 := by
  unfold addL
  split
  · exact h
  · split
    · exact h
    · split
      · exact h
      · exact mem_insQ.2 (.inr h)
theorem addL_len (l : List Pt) (p : Pt) : (addL l p).1.length ≤ l.length + 1 := by
  unfold addL
  split
  · show l.length ≤ _; omega
  · split
    · show l.length ≤ _; omega
    · split
      · show l.length ≤ _; omega
      · show (insQ _ _ _).length ≤ _
        rw [insQ_len _ _ _ (placeF_le l p)]; exact Nat.le_refl _
/-- what has been gathered: S tells which parts of b were seen -/
structure Makes (b o : List Int) (N M : Nat) (S : List Bool) (ls : List Pt) : Prop where
  own : ∀ p ∈ ls, (∃ k, k < N ∧ S.getD k false = true ∧ p = ptF b 7 k) ∨ ∃ j, j < M ∧ p = ptF o 9 j
  has : ∀ k, k < N → S.getD k false = true → ptF b 7 k ∈ ls
def leftF (N : Nat) (S : List Bool) : Nat := (List.range N).countP fun k => !S.getD k false
theorem ptF_inj {l : List Int} {size i j : Nat} (hs : 0 < size) (h : ptF l size i = ptF l size j) : i = j := by
  have h2 : ((i * size : Nat) : Int) = ((j * size : Nat) : Int) := congrArg Pt.at' h
  exact Nat.eq_of_mul_eq_mul_right hs (by omega)
section
variable {b o : List Int} {N M : Nat} {S : List Bool} {ls : List Pt}
theorem Makes.mem (hne : sumF b ≠ sumF o) (H : Makes b o N M S ls) {k : Nat} (h : ptF b 7 k ∈ ls) : S.getD k false = true := by
  rcases H.own _ h with ⟨k', _, h2, h3⟩ | ⟨j, _, h3⟩
  · rw [ptF_inj (by decide) h3]; exact h2
  · exact absurd (congrArg Pt.wh h3) hne
theorem may_pt {l : List Int} {size k : Nat} (hs : 0 < size) (hl : l.length ≤ 1000) (hk : k < chunksN l.length size) : mayB (ptF l size k).sz (ptF l size k).at' (ptF l size k).da.length = true := may_piece hs (by omega) hk
theorem Makes.old (H : Makes b o N M S ls) (hN : N = chunksN b.length 7) (hb : b.length ≤ 1000) {k : Nat} (hk : k < N) (hs : S.getD k false = true) : addL ls (ptF b 7 k) = (ls, 7) :=
  add_old (may_pt (by decide) hb (by rw [← hN]; exact hk)) (H.has k hk hs)
theorem getD_set_self {S : List Bool} {k : Nat} (h : k < S.length) : (S.set k true).getD k false = true := by simp [List.getD, h]
theorem getD_set_keep {S : List Bool} {k j : Nat} (h : S.getD j false = true) : (S.set k true).getD j false = true := by
  rw [List.getD, List.getElem?_set]
  by_cases e : k = j
  · subst e
    rw [if_pos rfl]
    by_cases hl : k < S.length
    · simp [hl]
    · simp [List.getD, hl] at h
  · rw [if_neg e]; exact h
theorem getD_set_other {S : List Bool} {k j : Nat} (e : k ≠ j) : (S.set k true).getD j false = S.getD j false := by
  rw [List.getD, List.getElem?_set, if_neg e]; rfl
theorem Makes.new (hne : sumF b ≠ sumF o) (H : Makes b o N M S ls) (hN : N = chunksN b.length 7) (hb : b.length ≤ 1000) {k : Nat} (hk : k < N) (hkS : k < S.length) (hl : ls.length < 512) (hs : S.getD k false = false) :
    ∃ ls', addL ls (ptF b 7 k) = (ls', 0) ∧ Makes b o N M (S.set k true) ls' ∧ ls'.length = ls.length + 1 := by
  refine ⟨_, add_new (may_pt (by decide) hb (by rw [← hN]; exact hk)) (fun h => by rw [H.mem hne h] at hs; cases hs) hl, ⟨?_, ?_⟩, insQ_len _ _ _ (placeF_le _ _)⟩
  · intro p hp
    rcases mem_insQ.1 hp with rfl | h
    · exact .inl ⟨k, hk, getD_set_self hkS, rfl⟩
    · rcases H.own p h with ⟨k', h1, h2, h3⟩ | h3
      · exact .inl ⟨k', h1, getD_set_keep h2, h3⟩
      · exact .inr h3
  · intro k' h1 h2
    rw [mem_insQ]
    by_cases e : k = k'
    · exact .inl (by rw [e])
    · rw [getD_set_other e] at h2
      exact .inr (H.has k' h1 h2)
theorem Makes.other (H : Makes b o N M S ls) {j : Nat} (hj : j < M) : Makes b o N M S (addL ls (ptF o 9 j)).1 := by
  refine ⟨fun p hp => ?_, fun k h1 h2 => addL_keep (H.has k h1 h2)⟩
  rcases mem_addL hp with rfl | h
  · exact .inr ⟨j, hj, rfl⟩
  · exact H.own p h
theorem leftF_set {k : Nat} (hk : k < N) (hkS : k < S.length) (hs : S.getD k false = false) : leftF N (S.set k true) + 1 = leftF N S := by
  induction N with
  | zero => omega
  | succ n ih =>
    unfold leftF at ih ⊢
    rw [List.range_succ, List.countP_append, List.countP_append]
    by_cases e : k = n
    · subst e
      have h1 : (List.range k).countP (fun j => !(S.set k true).getD j false) = (List.range k).countP (fun j => !S.getD j false) := by
        refine List.countP_congr fun j hj => ?_
        have hj2 := List.mem_range.1 hj
        rw [getD_set_other (by omega)]
      rw [h1]
      simp only [List.countP_cons, List.countP_nil, getD_set_self hkS, hs]
      simp
    · have h2 := ih (by omega)
      simp only [List.countP_cons, List.countP_nil, getD_set_other e]
      omega
theorem leftF_zero : leftF N S = 0 ↔ ∀ k, k < N → S.getD k false = true := by
  unfold leftF
  rw [List.countP_eq_zero]
  constructor
  · intro h k hk
    have := h k (List.mem_range.2 hk)
    cases hd : S.getD k false
    · rw [hd] at this; simp at this
    · rfl
  · intro h k hk
    rw [h k (List.mem_range.1 hk)]
    simp
theorem Makes.whole (hne : sumF b ≠ sumF o) (H : Makes b o N M S ls) (hN : N = chunksN b.length 7) (h1 : 1 ≤ b.length) (hb : b.length ≤ 1000) :
    wholeF ls (sumF b) = if leftF N S = 0 then some b else none := by
  have hown : ∀ p ∈ ls, p.wh = sumF b → ∃ k, k < N ∧ S.getD k false = true ∧ p = ptF b 7 k := fun p hp hw => by
    rcases H.own p hp with h | ⟨j, _, h⟩
    · exact h
    · rw [h] at hw
      exact absurd hw.symm hne
  have hcov := coverF (l := b) (size := 7) (by decide) (by omega) ls (sumF b) (fun p hp hw _ => by obtain ⟨k, _, _, h⟩ := hown p hp hw; exact ⟨k, h⟩)
  have hall : ∀ j, j * 7 < b.length → (hasPt ls (sumF b) b.length 7 j = true ↔ S.getD j false = true) := fun j hj => by
    constructor
    · intro h
      obtain ⟨p, hp, hd⟩ := List.any_eq_true.1 h
      have hd2 := of_decide_eq_true hd
      obtain ⟨k, _, hk, rfl⟩ := hown p hp hd2.1
      have e : ((k * 7 : Nat) : Int) = ((j * 7 : Nat) : Int) := hd2.2.2
      have : k = j := by omega
      rw [← this]; exact hk
    · intro h
      exact has_part (H.has j (by rw [hN]; exact (chunk_lt' (by decide)).2 hj) h)
  by_cases h0 : leftF N S = 0
  · rw [if_pos h0]
    have hse := leftF_zero.1 h0
    have hJ : ∀ j, j * 7 < b.length → hasPt ls (sumF b) b.length 7 j = true := fun j hj => (hall j hj).2 (hse j (by rw [hN]; exact (chunk_lt' (by decide)).2 hj))
    have hlack : lackF (laidF ls (sumF b) b.length) = 0 := by rw [hcov]; exact lack_all hJ
    have hout : outL (laidF ls (sumF b) b.length) = b := by rw [hcov]; exact out_all hJ
    have hgood : goodW ls (sumF b) b.length = true := by rw [good_zero hlack, hout]; exact decide_eq_true rfl
    have hm : mayS (b.length : Int) = true := decide_eq_true (by omega)
    have hN0 : 0 < N := by rw [hN]; exact (chunk_lt' (by decide)).2 (by omega)
    have hmem := H.has 0 hN0 (hse 0 hN0)
    have hf : ∃ p, ls.find? (fun p => decide (p.wh = sumF b) && (mayS p.sz && goodW ls (sumF b) p.sz.toNat)) = some p := by
      cases hfd : ls.find? (fun p => decide (p.wh = sumF b) && (mayS p.sz && goodW ls (sumF b) p.sz.toNat)) with
      | some p => exact ⟨p, rfl⟩
      | none =>
        have := List.find?_eq_none.1 hfd _ hmem
        have e1 : (ptF b 7 0).sz = (b.length : Int) := rfl
        have e2 : (ptF b 7 0).wh = sumF b := rfl
        rw [e1, e2, hm, Int.toNat_natCast, hgood] at this
        simp at this
    obtain ⟨p, hp⟩ := hf
    have hpm := List.mem_of_find?_eq_some hp
    have hpf := List.find?_some hp
    have hpw : p.wh = sumF b := by
      simp only [Bool.and_eq_true, decide_eq_true_eq] at hpf
      exact hpf.1
    obtain ⟨k, _, _, rfl⟩ := hown p hpm hpw
    unfold wholeF
    rw [hp]
    show some (outL (laidF ls (sumF b) ((b.length : Int)).toNat)) = some b
    rw [Int.toNat_natCast, hout]
  · rw [if_neg h0]
    have hex : ∃ k, k < N ∧ S.getD k false = false := by
      apply Classical.byContradiction
      intro hn
      refine h0 (leftF_zero.2 fun k hk => ?_)
      cases hd : S.getD k false
      · exact absurd ⟨k, hk, hd⟩ hn
      · rfl
    obtain ⟨k, hk, hks⟩ := hex
    have hkb : k * 7 < b.length := (chunk_lt' (by decide)).1 (by rw [← hN]; exact hk)
    have hpos : 0 < lackF (laidF ls (sumF b) b.length) := by
      rw [hcov]
      refine lack_some (by decide) hkb ?_
      cases hd : hasPt ls (sumF b) b.length 7 k
      · rfl
      · rw [(hall k hkb).1 hd] at hks; cases hks
    unfold wholeF
    rw [Option.map_eq_none_iff, List.find?_eq_none]
    intro p hp hf
    simp only [Bool.and_eq_true, decide_eq_true_eq] at hf
    obtain ⟨k', _, _, rfl⟩ := hown p hp hf.1
    have h3 : goodW ls (sumF b) ((b.length : Int)).toNat = true := hf.2.2
    rw [Int.toNat_natCast, good_false hpos] at h3
    cases h3
end
end Go.Proofs.Ytjnimbhecfpnmaa
