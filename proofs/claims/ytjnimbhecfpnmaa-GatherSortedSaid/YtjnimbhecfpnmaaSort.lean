/- Parts in order: what is gathered hangs on which parts came, not on their order. Plain. -/
import Derived.Test.YtjnimbhecfpnmaaMakes
namespace Go.Proofs.Ytjnimbhecfpnmaa
set_option maxRecDepth 100000
open Go.ChangeShapes Go.WideShapes Go.ChangeAt Go.RowKit

/-- how three stand to one another -/
def Tri (x y z : Int) : Prop := (x < 0 → y ≤ 0 → z < 0) ∧ (x ≤ 0 → y < 0 → z < 0) ∧ (x = 0 → y = 0 → z = 0)
theorem Tri.or {x y z X Y Z : Int} (h : Tri x y z) (H : Tri X Y Z) : Tri (if x = 0 then X else x) (if y = 0 then Y else y) (if z = 0 then Z else z) := by
  unfold Tri at *
  obtain ⟨h1, h2, h3⟩ := h
  obtain ⟨H1, H2, H3⟩ := H
  refine ⟨fun a b => ?_, fun a b => ?_, fun a b => ?_⟩ <;> split at a <;> split at b <;> split <;> omega
theorem cmpI_tri (a b c : Int) : Tri (cmpI a b) (cmpI b c) (cmpI a c) := by
  unfold Tri cmpI
  refine ⟨fun x y => ?_, fun x y => ?_, fun x y => ?_⟩ <;> split at x <;> split at y <;> split <;> (try split at x) <;> (try split at y) <;> (try split) <;> omega
theorem cmpB_tri : ∀ (l m n : List Int), Tri (cmpB l m) (cmpB m n) (cmpB l n)
  | [], [], [] => by simp [cmpB, Tri]
  | [], [], _ :: _ => by simp [cmpB, Tri]
  | [], _ :: _, [] => by simp [cmpB, Tri]
  | [], _ :: _, _ :: _ => by simp [cmpB, Tri]
  | _ :: _, [], [] => by simp [cmpB, Tri]
  | _ :: _, [], _ :: _ => by simp [cmpB, Tri]
  | _ :: _, _ :: _, [] => by simp [cmpB, Tri]
  | a :: l, b :: m, c :: n => by
    obtain ⟨h1, h2, h3⟩ := cmpB_tri l m n
    unfold Tri
    rw [cmpB, cmpB, cmpB]
    refine ⟨fun x y => ?_, fun x y => ?_, fun x y => ?_⟩ <;> split at x <;> split at y <;> split <;> (try split at x) <;> (try split at y) <;> (try split) <;> omega
theorem cmpPt_tri (p q r : Pt) : Tri (cmpPt p q) (cmpPt q r) (cmpPt p r) := by
  unfold cmpPt cmpP
  simp only [orF]
  exact (cmpB_tri _ _ _).or ((cmpI_tri _ _ _).or ((cmpI_tri _ _ _).or ((cmpB_tri _ _ _).or (by simp [Tri]))))
theorem cmpI_neg (a b : Int) : cmpI b a = - cmpI a b := by
  unfold cmpI
  split <;> split <;> (try split) <;> omega
theorem cmpB_neg : ∀ (l m : List Int), cmpB m l = - cmpB l m
  | [], [] => by simp [cmpB]
  | [], _ :: _ => by simp [cmpB]
  | _ :: _, [] => by simp [cmpB]
  | a :: l, b :: m => by
    rw [cmpB, cmpB, cmpB_neg l m]
    split <;> split <;> (try split) <;> omega
theorem cmpPt_neg (p q : Pt) : cmpPt q p = - cmpPt p q := by
  unfold cmpPt cmpP
  simp only [orF]
  rw [cmpB_neg p.wh q.wh, cmpI_neg p.sz q.sz, cmpI_neg p.at' q.at', cmpB_neg p.da q.da]
  simp only [Int.neg_eq_zero]
  repeat' split
  all_goals rfl
/-- each stands ahead of all that come behind -/
def Inc (l : List Pt) : Prop := l.Pairwise fun p q => cmpPt p q < 0
theorem cmp_self (p : Pt) : cmpPt p p = 0 := cmpPt_zero.2 rfl
theorem Inc.ext : ∀ {l m : List Pt}, Inc l → Inc m → (∀ x, x ∈ l ↔ x ∈ m) → l = m
  | [], [], _, _, _ => rfl
  | [], b :: m, _, _, h => by have := (h b).2 (by simp); simp at this
  | a :: l, [], _, _, h => by have := (h a).1 (by simp); simp at this
  | a :: l, b :: m, h1, h2, h => by
    obtain ⟨ha, hl⟩ := List.pairwise_cons.1 h1
    obtain ⟨hb, hm⟩ := List.pairwise_cons.1 h2
    have e : a = b := by
      rcases List.mem_cons.1 ((h a).1 (by simp)) with e | e
      · exact e
      · rcases List.mem_cons.1 ((h b).2 (by simp)) with e2 | e2
        · exact e2.symm
        · have x := hb a e
          have y := ha b e2
          have := cmpPt_neg a b
          omega
    subst e
    rw [Inc.ext hl hm fun x => ?_]
    constructor
    · intro hx
      rcases List.mem_cons.1 ((h x).1 (List.mem_cons_of_mem _ hx)) with e | e
      · subst e; have := ha x hx; have := cmp_self x; omega
      · exact e
    · intro hx
      rcases List.mem_cons.1 ((h x).2 (List.mem_cons_of_mem _ hx)) with e | e
      · subst e; have := hb x hx; have := cmp_self x; omega
      · exact e
theorem Inc.ins {l : List Pt} {p : Pt} (h : Inc l) (hn : p ∉ l) : Inc (insQ l (placeF l p) p) := by
  unfold Inc insQ
  have h0 : (l.take (placeF l p) ++ l.drop (placeF l p)).Pairwise fun p q => cmpPt p q < 0 := by rw [List.take_append_drop]; exact h
  obtain ⟨h1, h2, h3⟩ := List.pairwise_append.1 h0
  have hlt : ∀ a ∈ l.take (placeF l p), cmpPt a p < 0 := fun a ha => by
    obtain ⟨i, hi, rfl⟩ := List.getElem_of_mem ha
    rw [List.length_take] at hi
    rw [List.getElem_take]
    have := List.not_of_lt_findIdx (p := fun q => decide (0 < cmpPt q p)) (xs := l) (i := i) (by unfold placeF at hi; omega)
    have hne : cmpPt l[i] p ≠ 0 := fun e => hn (by rw [← cmpPt_zero.1 e]; exact List.getElem_mem _)
    simp at this
    omega
  have hgt : ∀ a ∈ l.drop (placeF l p), cmpPt p a < 0 := fun a ha => by
    have hlen : placeF l p < l.length := by
      rcases Nat.lt_or_ge (placeF l p) l.length with h | h
      · exact h
      · rw [List.drop_eq_nil_of_le h] at ha; simp at ha
    have hhd : cmpPt p l[placeF l p] < 0 := by
      have := List.findIdx_getElem (p := fun q => decide (0 < cmpPt q p)) (xs := l) (w := hlen)
      have h5 : 0 < cmpPt (l[placeF l p]'hlen) p := of_decide_eq_true this
      have := cmpPt_neg (l[placeF l p]'hlen) p
      omega
    rw [List.drop_eq_getElem_cons hlen] at ha h2
    rcases List.mem_cons.1 ha with rfl | ha
    · exact hhd
    · have := (List.pairwise_cons.1 h2).1 a ha
      exact (cmpPt_tri p _ a).1 hhd (by omega)
  exact List.pairwise_append.2 ⟨h1, List.pairwise_cons.2 ⟨hgt, h2⟩, fun a ha b hb => by
    rcases List.mem_cons.1 hb with rfl | hb
    · exact hlt a ha
    · exact h3 a ha b hb⟩
theorem Inc.add {l : List Pt} (p : Pt) (h : Inc l) : Inc (addL l p).1 := by
  unfold addL
  split
  · exact h
  · split
    · exact h
    · rename_i h2
      split
      · exact h
      · exact h.ins fun hm => h2 (any_same.2 hm)
/-- the parts added one by one -/
def addAll (ps : List Pt) : List Pt := ps.foldl (fun l p => (addL l p).1) []
theorem addAll_snoc (ps : List Pt) (p : Pt) : addAll (ps ++ [p]) = (addL (addAll ps) p).1 := by unfold addAll; rw [List.foldl_append]; rfl
theorem addAll_inv : ∀ (n : Nat) (ps : List Pt), ps.length = n → n ≤ 400 → (addAll ps).length ≤ n ∧ Inc (addAll ps) ∧ ∀ x, x ∈ addAll ps ↔ x ∈ ps ∧ mayB x.sz x.at' x.da.length = true
  | 0, ps, h, _ => by
    have : ps = [] := List.eq_nil_of_length_eq_zero h
    subst this
    exact ⟨Nat.le_refl _, List.Pairwise.nil, fun x => by simp [addAll]⟩
  | n + 1, ps, h, h4 => by
    obtain ⟨qs, p, rfl⟩ : ∃ qs p, ps = qs ++ [p] := ⟨ps.dropLast, ps.getLast (fun e => by rw [e] at h; simp at h), (List.dropLast_concat_getLast _).symm⟩
    obtain ⟨i1, i2, i3⟩ := addAll_inv n qs (by simpa using h) (by omega)
    rw [addAll_snoc]
    refine ⟨Nat.le_trans (addL_len _ _) (by omega), i2.add p, fun x => ?_⟩
    have key : x ∈ (addL (addAll qs) p).1 ↔ x ∈ addAll qs ∨ (x = p ∧ mayB p.sz p.at' p.da.length = true) := by
      by_cases hm : mayB p.sz p.at' p.da.length = true
      · by_cases hp : p ∈ addAll qs
        · rw [add_old hm hp]
          exact ⟨.inl, fun h => h.elim id fun h => h.1 ▸ hp⟩
        · rw [add_new hm hp (by omega), mem_insQ]
          exact ⟨fun h => h.elim (fun e => .inr ⟨e, hm⟩) .inl, fun h => h.elim .inr fun h => .inl h.1⟩
      · have : addL (addAll qs) p = (addAll qs, 1) := by unfold addL; rw [if_pos (by simpa using hm)]
        rw [this]
        exact ⟨.inl, fun h => h.elim id fun h => absurd h.2 hm⟩
    rw [key, i3, List.mem_append, List.mem_singleton]
    constructor
    · rintro (⟨h1, h2⟩ | ⟨rfl, h2⟩)
      · exact ⟨.inl h1, h2⟩
      · exact ⟨.inr rfl, h2⟩
    · rintro ⟨h1 | rfl, h2⟩
      · exact .inl ⟨h1, h2⟩
      · exact .inr ⟨rfl, h2⟩
theorem addAll_rev (ps : List Pt) (h : ps.length ≤ 400) : addAll ps.reverse = addAll ps := by
  obtain ⟨_, i2, i3⟩ := addAll_inv _ ps rfl h
  obtain ⟨_, j2, j3⟩ := addAll_inv _ ps.reverse rfl (by simpa using h)
  exact j2.ext i2 fun x => by rw [i3, j3, List.mem_reverse]
theorem addAll_take {ps : List Pt} {i : Nat} (h : i < ps.length) : addAll (ps.take (i + 1)) = (addL (addAll (ps.take i)) ps[i]).1 := by
  rw [List.take_succ_eq_append_getElem h, addAll_snoc]
end Go.Proofs.Ytjnimbhecfpnmaa
