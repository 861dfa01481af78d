/- A region that draws its order, its operations told one by one in the order of the text: each comes to one value in every world with more blocks, or to a value of which a property is told that stays when blocks are made. What an operation may lean on is what those have told for which it waits. -/
import Derived.Test.YtagdlbadkmgdmaaDoorFirst
namespace Go.Proofs.YtagdlbadkmgdmaaDoor
open Go Go.RowKit
section
variable {P : Program} {ops : Array Oper} {Q : Exit → Act → World → Prop} {E : Act → World → Prop} {md : Region.Mode} {w0 : World} {a0 : Act}

/-- o waits for number j -/
def waitsOn (md : Region.Mode) (o : Oper) (j : Nat) : Bool := o.after.any fun e => Region.binds md e && e.on == j
/-- among the first n: every operation waits for those ahead of it alone; it waits for all whose slots it looks at; no two write one slot -/
def slotsB (md : Region.Mode) (ops : Array Oper) (n : Nat) : Bool :=
  (List.range n).all fun i => match ops[i]? with
  | none => false
  | some o => o.after.all (fun e => !Region.binds md e || decide (e.on < i)) &&
      (List.range n).all (fun j => match (ops[j]?).bind (·.dst) with
        | none => true
        | some t => (!(o.looksAt ops).contains t || (decide (j < i) && waitsOn md o j)) && (j == i || o.dst != some t)) &&
      (match o.guard with | some (g, _) => decide (g < n) | none => true)
def depsOf (md : Region.Mode) (o : Oper) : List Nat := o.after.toList.filterMap fun e => if Region.binds md e then some e.on else none
/-- all for which these wait, directly or not -/
def depsAll (md : Region.Mode) (ops : Array Oper) (l : List Nat) : List Nat :=
  (List.range ops.size).reverse.foldl (fun M i => if M.contains i then (match ops[i]? with | some o => depsOf md o ++ M | none => M) else M) l
/-- whoever comes behind the first n waits for all of these -/
def tailsB (md : Region.Mode) (ops : Array Oper) (n : Nat) : Bool :=
  (List.range ops.size).all fun j => decide (j < n) || match ops[j]? with
    | none => true
    | some o => (List.range n).all fun i => (depsAll md ops (depsOf md o)).contains i
def headL (ops : Array Oper) (n : Nat) : Array Bool := ((List.range ops.size).map fun j => decide (j < n)).toArray
/-- what an operation comes to: a value with φ, in a world with more blocks -/
def comesToP (P : Program) (φ : Value → World → Prop) (x : World) : Result Next → Prop
  | .ok (.value u) w' => φ u w' ∧ BC x w'
  | .ok .skip w' => φ undef w' ∧ BC x w'
  | .ok (.enter f args) w' => Calls P f args w' (fun e w'' => ∃ u, e = .returned u ∧ φ u w'' ∧ BC x w'')
  | _ => False
def factsG (md : Region.Mode) (o : Oper) (u : Nat → Value) (w : World) : List (Nat × (Value → World → Prop)) → Prop
  | [] => True
  | (j, φ) :: F => (waitsOn md o j = true → φ (u j) w) ∧ factsG md o u w F
def slotG (P : Program) (md : Region.Mode) (ops : Array Oper) (w0 : World) (E : Act → World → Prop) : Nat → List (Option (Value → World → Prop)) → List Oper → ((Nat → Value) → Act) → List (Nat × (Value → World → Prop)) → Prop
  | _, _, [], A, F => ∀ w u, BC w0 w → (∀ p ∈ F, p.2 (u p.1) w) → E (A u) w
  | i, none :: ks, o :: rest, A, F => ∃ c, (∀ (x : HW (BC w0)) u, factsG md o u x.w F → if Region.wanted o (yielded ops (A u).tmps) then comesTo P (BC x.w) c ((execOp (A u).eval o).run P x.w) else undef = c) ∧ slotG P md ops w0 E (i + 1) ks rest (fun u => (A u).put o.dst c) F
  | i, some φ :: ks, o :: rest, A, F => (∀ v w w', BC w w' → φ v w → φ v w') ∧ (∀ (x : HW (BC w0)) u, factsG md o u x.w F → if Region.wanted o (yielded ops (A u).tmps) then comesToP P φ x.w ((execOp (A u).eval o).run P x.w) else φ undef x.w) ∧ slotG P md ops w0 E (i + 1) ks rest (fun u => (A u).put o.dst (u i)) ((i, φ) :: F)
  | _, [], _ :: _, _, _ => False
theorem slotG_nil {i : Nat} {ks} {A : (Nat → Value) → Act} {F} (h : ∀ w u, BC w0 w → (∀ p ∈ F, p.2 (u p.1) w) → E (A u) w) : slotG P md ops w0 E i ks [] A F := by unfold slotG; exact h
theorem slotG_one {i : Nat} {ks} {o : Oper} {rest : List Oper} {A : (Nat → Value) → Act} {F}
    (h : ∀ K : ((Nat → Value) → Act) → Prop, (∀ A', slotG P md ops w0 E (i + 1) ks rest A' F → K A') →
      ∃ c, (∀ (x : HW (BC w0)) u, factsG md o u x.w F → if Region.wanted o (yielded ops (A u).tmps) then comesTo P (BC x.w) c ((execOp (A u).eval o).run P x.w) else undef = c) ∧ K (fun u => (A u).put o.dst c)) : slotG P md ops w0 E i (none :: ks) (o :: rest) A F := by
  unfold slotG
  exact h _ fun _ h => h
theorem slotG_some {i : Nat} {ks} {φ : Value → World → Prop} {o : Oper} {rest : List Oper} {A : (Nat → Value) → Act} {F}
    (hst : ∀ v w w', BC w w' → φ v w → φ v w')
    (h : ∀ K : ((Nat → Value) → Act) → Prop, (∀ A', slotG P md ops w0 E (i + 1) ks rest A' ((i, φ) :: F) → K A') →
      (∀ (x : HW (BC w0)) u, factsG md o u x.w F → if Region.wanted o (yielded ops (A u).tmps) then comesToP P φ x.w ((execOp (A u).eval o).run P x.w) else φ undef x.w) ∧ K (fun u => (A u).put o.dst (u i))) : slotG P md ops w0 E i (some φ :: ks) (o :: rest) A F := by
  unfold slotG
  have h := h _ fun _ h => h
  exact ⟨hst, h.1, h.2⟩
/-- what has been told, at the end -/
def allG (u : Nat → Value) (w : World) : List (Nat × (Value → World → Prop)) → Prop
  | [] => True
  | (j, φ) :: F => φ (u j) w ∧ allG u w F
theorem allG_of {u : Nat → Value} {w : World} : ∀ {F : List (Nat × (Value → World → Prop))}, (∀ p ∈ F, p.2 (u p.1) w) → allG u w F
  | [], _ => trivial
  | (j, φ) :: _, h => ⟨h (j, φ) List.mem_cons_self, allG_of fun p hp => h p (List.mem_cons_of_mem _ hp)⟩
theorem slotG_end {i : Nat} {ks} {A : (Nat → Value) → Act} {F} (h : ∀ w u, BC w0 w → allG u w F → E (A u) w) : slotG P md ops w0 E i ks [] A F :=
  slotG_nil fun w u hb hF => h w u hb (allG_of hF)
/-- one operation with one value; B: how things stand behind it, worked out -/
theorem slotG_oneN {i : Nat} {ks} {o : Oper} {rest : List Oper} {A : (Nat → Value) → Act} {F}
    (h : ∀ K : ((Nat → Value) → Act) → Prop, (∀ A', slotG P md ops w0 E (i + 1) ks rest A' F → K A') →
      ∃ c, (∀ (x : HW (BC w0)) u, factsG md o u x.w F → if Region.wanted o (yielded ops (A u).tmps) then comesTo P (BC x.w) c ((execOp (A u).eval o).run P x.w) else undef = c) ∧ ∃ B : (Nat → Value) → Act, (∀ u, (A u).put o.dst c = B u) ∧ K B) : slotG P md ops w0 E i (none :: ks) (o :: rest) A F :=
  slotG_one fun K hK => by
    obtain ⟨c, h1, B, h2, h3⟩ := h K hK
    obtain rfl : (fun u => (A u).put o.dst c) = B := funext h2
    exact ⟨c, h1, h3⟩
theorem slotG_someN {i : Nat} {ks} {φ : Value → World → Prop} {o : Oper} {rest : List Oper} {A : (Nat → Value) → Act} {F}
    (hst : ∀ v w w', BC w w' → φ v w → φ v w')
    (h : ∀ K : ((Nat → Value) → Act) → Prop, (∀ A', slotG P md ops w0 E (i + 1) ks rest A' ((i, φ) :: F) → K A') →
      (∀ (x : HW (BC w0)) u, factsG md o u x.w F → if Region.wanted o (yielded ops (A u).tmps) then comesToP P φ x.w ((execOp (A u).eval o).run P x.w) else φ undef x.w) ∧ ∃ B : (Nat → Value) → Act, (∀ u, (A u).put o.dst (u i) = B u) ∧ K B) : slotG P md ops w0 E i (some φ :: ks) (o :: rest) A F :=
  slotG_some hst fun K hK => by
    obtain ⟨h1, B, h2, h3⟩ := h K hK
    obtain rfl : (fun u => (A u).put o.dst (u i)) = B := funext h2
    exact ⟨h1, h3⟩
/-- .. a load of a whole array -/
theorem slotG_row {i : Nat} {ks} {o : Oper} {rest : List Oper} {A : (Nat → Value) → Act} {F} (ty : TypeId) (xo : Operand) (ho : o.op = .load ty xo)
    (hw : ∀ u, Region.wanted o (yielded ops (A u).tmps) = true) (g : Nat) (hx : ∀ u, (A u).eval xo = .pointer (some ⟨g, 0, none⟩)) (t : TypeId) (cs : Array Value) (fr : Nat × Nat) (d : TypeDesc)
    (hg : ∀ x : HW (BC w0), x.w.heap[g]? = some (.cells cs t fr)) (hu : P.underlying ty = some d) (hd : (match d with | .struct _ | .array _ _ => true | _ => false) = true) (hz : (P.info? ty).map (·.size) = some cs.size)
    (h : ∃ B : (Nat → Value) → Act, (∀ u, (A u).put o.dst (.agg cs) = B u) ∧ slotG P md ops w0 E (i + 1) ks rest B F) : slotG P md ops w0 E i (none :: ks) (o :: rest) A F :=
  h.elim fun B hh => slotG_oneN fun K hK => ⟨.agg cs, fun x u _ => by
    rw [if_pos (hw u)]
    unfold execOp
    simp only [ho, hx, Instr.loadAt, Instr.sureAddr, Sem.run_bind, Sem.run_pure, Result.andThen_ok, run_loadVar_row x.w g t ty cs fr d (hg x) hu hd hz, comesTo]
    exact ⟨trivial, BC_refl _⟩, B, hh.1, hK _ hh.2⟩
/-- .. of a part of a block -/
theorem slotG_mid {i : Nat} {ks} {o : Oper} {rest : List Oper} {A : (Nat → Value) → Act} {F} (ty : TypeId) (xo : Operand) (ho : o.op = .load ty xo)
    (hw : ∀ u, Region.wanted o (yielded ops (A u).tmps) = true) (g j : Nat) (hx : ∀ u, (A u).eval xo = .pointer (some ⟨g, j, none⟩)) (cs : Array Value) (d : TypeDesc)
    (hg : ∀ x : HW (BC w0), x.w.rangeAt g j cs.toList) (hu : P.underlying ty = some d) (hd : d.isRow = true) (hz : (P.info? ty).map (·.size) = some cs.size)
    (h : ∃ B : (Nat → Value) → Act, (∀ u, (A u).put o.dst (.agg cs) = B u) ∧ slotG P md ops w0 E (i + 1) ks rest B F) : slotG P md ops w0 E i (none :: ks) (o :: rest) A F :=
  h.elim fun B hh => slotG_oneN fun K hK => ⟨.agg cs, fun x u _ => by
    rw [if_pos (hw u)]
    unfold execOp
    simp only [ho, hx, Instr.loadAt, Instr.sureAddr, Sem.run_bind, Sem.run_pure, Result.andThen_ok, run_loadVar_mid x.w g j ty cs.toList d (hg x) hu hd (by simpa using hz), comesTo]
    exact ⟨trivial, BC_refl _⟩, B, hh.1, hK _ hh.2⟩
/-- an operation's slot: its one value, where it has one, and what is told of it -/
abbrev Ent := Option Value × (Value → World → Prop)
def valE (es : Nat → Ent) (u : Nat → Value) (j : Nat) : Value := (es j).1.getD (u j)
def canonN (a0 : Act) (ops : Array Oper) (u : Nat → Value) : Nat → Act
  | 0 => a0
  | i + 1 => (canonN a0 ops u i).put ((ops[i]?).bind (·.dst)) (u i)
theorem canonN_congr {u u' : Nat → Value} : ∀ i, (∀ j, j < i → u j = u' j) → canonN a0 ops u i = canonN a0 ops u' i
  | 0, _ => rfl
  | i + 1, h => by rw [canonN, canonN, canonN_congr i (fun j hj => h j (by omega)), h i (by omega)]
def stepP (P : Program) (ops : Array Oper) (φ : Value → World → Prop) (o : Oper) (a : Act) (w : World) : Prop :=
  if Region.wanted o (yielded ops a.tmps) then comesToP P φ w ((execOp a.eval o).run P w) else φ undef w
def OB (P : Program) (md : Region.Mode) (ops : Array Oper) (w0 : World) (a0 : Act) (es : Nat → Ent) (k : Nat) (o : Oper) : Prop :=
  (∀ v w w', BC w w' → (es k).2 v w → (es k).2 v w') ∧ (∀ c, (es k).1 = some c → ∀ v w, (es k).2 v w → v = c) ∧
    ∀ (x : HW (BC w0)) u, (∀ j, j < k → waitsOn md o j = true → (es j).2 (u j) x.w) → stepP P ops (es k).2 o (canonN a0 ops (valE es u) k) x.w
theorem factsG_of {o : Oper} {u : Nat → Value} {w : World} : ∀ {F : List (Nat × (Value → World → Prop))}, (∀ p ∈ F, waitsOn md o p.1 = true → p.2 (u p.1) w) → factsG md o u w F
  | [], _ => trivial
  | (j, φ) :: _, h => ⟨h (j, φ) List.mem_cons_self, factsG_of fun p hp => h p (List.mem_cons_of_mem _ hp)⟩
theorem comesTo_P {x : World} {c : Value} {r : Result Next} (h : comesTo P (BC x) c r) : comesToP P (fun v _ => v = c) x r := by
  cases r with
  | ok n w' =>
    cases n <;> simp only [comesTo, comesToP] at h ⊢
    case value u => exact h
    case skip => exact h
    case enter f args => exact h.mono fun e w'' ⟨h1, h2⟩ => ⟨c, h1, rfl, h2⟩
  | halt y w' => simp only [comesTo] at h
theorem slotG_ents {n : Nat} (hn : n ≤ ops.size) : ∀ (rest : List Oper) (i : Nat) (ks : List (Option (Value → World → Prop))) (A : (Nat → Value) → Act) (F : List (Nat × (Value → World → Prop))) (es0 : Nat → Ent),
    slotG P md ops w0 E i ks rest A F → i ≤ n → (∀ u, A u = canonN a0 ops (valE es0 u) i) → (∀ p ∈ F, p.1 < i ∧ (es0 p.1).2 = p.2) → (∀ k, rest[k]? = if i + k < n then ops[i + k]? else none) →
    ∃ es : Nat → Ent, (∀ j, j < i → es j = es0 j) ∧ (∀ k, i ≤ k → k < n → ∀ o, ops[k]? = some o → OB P md ops w0 a0 es k o) ∧
      ∀ w u, BC w0 w → (∀ j, j < n → (es j).2 (u j) w) → E (canonN a0 ops (valE es u) n) w
  | [], i, ks, A, F, es0, h, hi, hA, hF, hr => by
    obtain rfl : i = n := by
      rcases Nat.lt_or_ge i n with h1 | h1
      · have := hr 0
        rw [Nat.add_zero, if_pos h1, Array.getElem?_eq_getElem (by omega)] at this
        simp at this
      · omega
    unfold slotG at h
    refine ⟨es0, fun _ _ => rfl, fun k hk hk2 o ho => by omega, fun w u hw hu => ?_⟩
    rw [← hA]
    refine h w u hw fun p hp => ?_
    obtain ⟨h3, h4⟩ := hF p hp
    rw [← h4]
    exact hu p.1 h3
  | o :: rest, i, [], A, _, es0, h, _, _, _, _ => by unfold slotG at h; exact h.elim
  | o :: rest, i, none :: ks, A, F, es0, h, _, hA, hF, hr => by
    unfold slotG at h
    obtain ⟨c, h1, h2⟩ := h
    have hin : i < n := by
      rcases Nat.lt_or_ge i n with h1 | h1
      · exact h1
      · have := hr 0
        rw [Nat.add_zero, if_neg (by omega)] at this
        simp at this
    have ho : ops[i]? = some o := by have := hr 0; rw [Nat.add_zero, if_pos hin] at this; simpa using this.symm
    obtain ⟨es, e1, e2, e3⟩ := slotG_ents hn rest (i + 1) ks _ F (fun j => if j = i then (some c, fun v _ => v = c) else es0 j) h2 hin (fun u => by
      rw [canonN, ho, hA, canonN_congr (u := valE es0 u) (u' := valE (fun j => if j = i then (some c, fun v _ => v = c) else es0 j) u) i (fun j hj => by unfold valE; dsimp only; rw [if_neg (by omega)])]
      simp [valE]) (fun p hp => by obtain ⟨h3, h4⟩ := hF p hp; exact ⟨by omega, by rw [if_neg (by omega)]; exact h4⟩) (fun k => by have := hr (k + 1); rw [show i + (k + 1) = i + 1 + k by omega] at this; simpa using this)
    have hes : ∀ j, j < i → es j = es0 j := fun j hj => by rw [e1 j (by omega), if_neg (by omega)]
    have hei : es i = (some c, fun v _ => v = c) := by rw [e1 i (by omega), if_pos rfl]
    refine ⟨es, hes, fun k hk hkn o' ho' => ?_, e3⟩
    by_cases hki : k = i
    · subst hki
      obtain rfl : o = o' := by rw [ho] at ho'; exact Option.some.inj ho'
      refine ⟨fun v w w' _ h => by rw [hei] at h ⊢; exact h, fun c' hc' v w hv => ?_, fun x u hx => ?_⟩
      · rw [hei] at hc' hv
        injection hc' with hc'
        rw [← hc']; exact hv
      · have h3 := h1 x u (factsG_of fun p hp hw => by
          obtain ⟨h3, h4⟩ := hF p hp
          have := hx p.1 h3 hw
          rw [hes _ h3, h4] at this
          exact this)
        rw [hA, canonN_congr (u := valE es0 u) (u' := valE es u) k (fun j hj => by unfold valE; rw [hes j hj])] at h3
        unfold stepP
        rw [hei]
        split
        · rename_i hw
          rw [if_pos hw] at h3
          exact comesTo_P h3
        · rename_i hw
          rw [if_neg hw] at h3
          exact h3
    · exact e2 k (by omega) hkn o' ho'
  | o :: rest, i, some φ :: ks, A, F, es0, h, _, hA, hF, hr => by
    unfold slotG at h
    obtain ⟨h0, h1, h2⟩ := h
    have hin : i < n := by
      rcases Nat.lt_or_ge i n with h1 | h1
      · exact h1
      · have := hr 0
        rw [Nat.add_zero, if_neg (by omega)] at this
        simp at this
    have ho : ops[i]? = some o := by have := hr 0; rw [Nat.add_zero, if_pos hin] at this; simpa using this.symm
    obtain ⟨es, e1, e2, e3⟩ := slotG_ents hn rest (i + 1) ks _ ((i, φ) :: F) (fun j => if j = i then (none, φ) else es0 j) h2 hin (fun u => by
      rw [canonN, ho, hA, canonN_congr (u := valE es0 u) (u' := valE (fun j => if j = i then (none, φ) else es0 j) u) i (fun j hj => by unfold valE; dsimp only; rw [if_neg (by omega)])]
      simp [valE]) (fun p hp => by
        rcases List.mem_cons.1 hp with rfl | hp
        · exact ⟨by simp, by simp⟩
        · obtain ⟨h3, h4⟩ := hF p hp; exact ⟨by omega, by rw [if_neg (by omega)]; exact h4⟩) (fun k => by have := hr (k + 1); rw [show i + (k + 1) = i + 1 + k by omega] at this; simpa using this)
    have hes : ∀ j, j < i → es j = es0 j := fun j hj => by rw [e1 j (by omega), if_neg (by omega)]
    have hei : es i = (none, φ) := by rw [e1 i (by omega), if_pos rfl]
    refine ⟨es, hes, fun k hk hkn o' ho' => ?_, e3⟩
    by_cases hki : k = i
    · subst hki
      obtain rfl : o = o' := by rw [ho] at ho'; exact Option.some.inj ho'
      refine ⟨fun v w w' hb h => by rw [hei] at h ⊢; exact h0 v w w' hb h, fun c' hc' v w hv => ?_, fun x u hx => ?_⟩
      · rw [hei] at hc'
        cases hc'
      · have h3 := h1 x u (factsG_of fun p hp hw => by
          obtain ⟨h3, h4⟩ := hF p hp
          have := hx p.1 h3 hw
          rw [hes _ h3, h4] at this
          exact this)
        rw [hA, canonN_congr (u := valE es0 u) (u' := valE es u) k (fun j hj => by unfold valE; rw [hes j hj])] at h3
        unfold stepP
        rw [hei]
        exact h3
    · exact e2 k (by omega) hkn o' ho'
theorem slotsB_spec {n : Nat} (h : slotsB md ops n = true) :
    (∀ i, i < n → ∃ o, ops[i]? = some o) ∧
    (∀ (i : Nat) o, i < n → ops[i]? = some o → ∀ e ∈ o.after, Region.binds md e = true → e.on < i) ∧
    (∀ (i j : Nat) o t, i < n → j < n → ops[i]? = some o → (ops[j]?).bind (·.dst) = some t → t ∈ o.looksAt ops → j < i ∧ waitsOn md o j = true) ∧
    (∀ (i j : Nat) t, i < n → j < n → (ops[i]?).bind (·.dst) = some t → (ops[j]?).bind (·.dst) = some t → i = j) := by
  have h0 : ∀ i, i < n → ∃ o, ops[i]? = some o := fun i hi => by
    have h2 := List.all_eq_true.1 h i (List.mem_range.2 hi)
    cases ho : ops[i]? with
    | none => simp [ho] at h2
    | some o => exact ⟨o, rfl⟩
  have h1 : ∀ (i : Nat) o, i < n → ops[i]? = some o → (o.after.all (fun e => !Region.binds md e || decide (e.on < i)) = true) ∧
      ∀ (j : Nat) t, j < n → (ops[j]?).bind (·.dst) = some t → (!(o.looksAt ops).contains t || (decide (j < i) && waitsOn md o j)) = true ∧ (j == i || o.dst != some t) = true := fun i o hi ho => by
    unfold slotsB at h
    have h2 := List.all_eq_true.1 h i (List.mem_range.2 hi)
    simp only [ho] at h2
    rw [Bool.and_eq_true, Bool.and_eq_true] at h2
    refine ⟨h2.1.1, fun j t hjn hj => ?_⟩
    have h3 := List.all_eq_true.1 h2.1.2 j (List.mem_range.2 hjn)
    simp only [hj] at h3
    rwa [Bool.and_eq_true] at h3
  refine ⟨h0, fun i o hin ho e he hb => ?_, fun i j o t hin hjn ho hj ht => ?_, fun i j t hin hjn hi hj => ?_⟩
  · have h2 := Array.all_eq_true_iff_forall_mem.1 (h1 i o hin ho).1 e he
    rw [hb] at h2
    simpa using h2
  · have h2 := ((h1 i o hin ho).2 j t hjn hj).1
    have h3 : (o.looksAt ops).contains t = true := by simpa using ht
    rw [h3] at h2
    simpa using h2
  · cases ho : ops[i]? with
    | none => rw [ho] at hi; cases hi
    | some o =>
      have h2 := ((h1 i o hin ho).2 j t hjn hj).2
      rw [ho] at hi
      have hd : o.dst = some t := hi
      rw [hd] at h2
      simp at h2
      exact h2.symm
theorem act_agree {a a' : Act} {o : Oper} (hs : ∀ cs b, o.op ≠ .select cs b) (h : ∀ t ∈ o.looksAt ops, a.tmps[t]? = a'.tmps[t]?) :
    execOp a.eval o = execOp a'.eval o ∧ Region.wanted o (yielded ops a.tmps) = Region.wanted o (yielded ops a'.tmps) := by
  constructor
  · refine execOp_congr o hs fun x hx => ?_
    cases x with
    | tmp t =>
      have := h t (List.mem_append_left _ (List.mem_filterMap.2 ⟨.tmp t, by simpa using hx, rfl⟩))
      simp only [Act.eval, Array.getD_eq_getD_getElem?, this]
    | _ => rfl
  · unfold Region.wanted
    cases hg : o.guard with
    | none => rfl
    | some gw =>
      obtain ⟨g, want⟩ := gw
      have hy : yielded ops a.tmps g = yielded ops a'.tmps g := by
        unfold yielded
        cases ht : (ops[g]?).bind (·.dst) with
        | none => rfl
        | some t =>
          have := h t (by simp [Oper.looksAt, hg, ht])
          simp [this]
      simp only [hy]
theorem put_at {a : Act} {d : Tmp} {v : Value} (t : Nat) (ht : t < a.tmps.size) : (a.put (some d) v).tmps[t]? = if d = t then some v else a.tmps[t]? := by
  unfold Act.put
  by_cases h : d = t
  · subst h; simp [ht]
  · simp [h, Array.getElem?_setIfInBounds_ne h]
theorem put_size (a : Act) (d : Option Tmp) (v : Value) : (a.put d v).tmps.size = a.tmps.size := by cases d <;> simp [Act.put]
theorem put_defs (a : Act) (d : Option Tmp) (v : Value) : (a.put d v).defers = a.defers := by cases d <;> rfl
theorem put_other {a : Act} {d : Option Tmp} {v : Value} {t : Nat} (h : d ≠ some t) : (a.put d v).tmps[t]? = a.tmps[t]? := by
  cases d with
  | none => rfl
  | some d =>
    have hne : d ≠ t := fun e => h (by rw [e])
    simp [Act.put, Array.getElem?_setIfInBounds_ne hne]
theorem canonN_size (u : Nat → Value) : ∀ i, (canonN a0 ops u i).tmps.size = a0.tmps.size
  | 0 => rfl
  | i + 1 => by rw [canonN, put_size, canonN_size u i]
theorem canonN_defs (u : Nat → Value) : ∀ i, (canonN a0 ops u i).defers = a0.defers
  | 0 => rfl
  | i + 1 => by rw [canonN, put_defs, canonN_defs u i]
theorem canonN_none (u : Nat → Value) (t : Nat) : ∀ i, (∀ j, j < i → (ops[j]?).bind (·.dst) ≠ some t) → (canonN a0 ops u i).tmps[t]? = a0.tmps[t]?
  | 0, _ => rfl
  | i + 1, h => by rw [canonN, put_other (h i (by omega)), canonN_none u t i (fun j hj => h j (by omega))]
theorem canonN_some {n : Nat} (hd : ∀ (i j : Nat) t, i < n → j < n → (ops[i]?).bind (·.dst) = some t → (ops[j]?).bind (·.dst) = some t → i = j) (u : Nat → Value) (t : Nat) (ht : t < a0.tmps.size) (j : Nat) (hj : (ops[j]?).bind (·.dst) = some t) :
    ∀ i, i ≤ n → j < i → (canonN a0 ops u i).tmps[t]? = some (u j)
  | 0, _, h => absurd h (by omega)
  | i + 1, hin, h => by
    rw [canonN]
    by_cases e : j = i
    · subst e
      rw [hj, put_at t (by rw [canonN_size]; exact ht), if_pos rfl]
    · rw [put_other (fun h2 => e (hd j i t (by omega) (by omega) hj h2)), canonN_some hd u t ht j hj i (by omega) (by omega)]
/-- a number of the first n operations have come up -/
structure InvS (md : Region.Mode) (ops : Array Oper) (n : Nat) (w0 : World) (a0 : Act) (es : Nat → Ent) (L : Array Bool) (a : Act) (w : World) (u : Nat → Value) : Prop where
  bc : BC w0 w
  df : a.defers = a0.defers
  sz : a.tmps.size = a0.tmps.size
  ls : L.size = ops.size
  hd : ∀ j, L.getD j false = true → j < n
  dc : ∀ (j : Nat) o, L.getD j false = true → ops[j]? = some o → ∀ e ∈ o.after, Region.binds md e = true → L.getD e.on false = true
  told : ∀ j, L.getD j false = true → (es j).2 (u j) w
  old : ∀ t, (∀ j, L.getD j false = true → (ops[j]?).bind (·.dst) ≠ some t) → a.tmps[t]? = a0.tmps[t]?
  new : ∀ j t, L.getD j false = true → (ops[j]?).bind (·.dst) = some t → t < a0.tmps.size → a.tmps[t]? = some (u j)
theorem done_lt {L : Array Bool} {j : Nat} (h : L.getD j false = true) : j < L.size := by
  rcases Nat.lt_or_ge j L.size with h' | h'
  · exact h'
  · simp [Array.getElem?_eq_none h'] at h
theorem InvS.step {n : Nat} {es : Nat → Ent} {L : Array Bool} {a : Act} {w w' : World} {u : Nat → Value} (h : InvS md ops n w0 a0 es L a w u) (hd : ∀ (i j : Nat) t, i < n → j < n → (ops[i]?).bind (·.dst) = some t → (ops[j]?).bind (·.dst) = some t → i = j)
    (hst : ∀ k o, k < n → ops[k]? = some o → OB P md ops w0 a0 es k o) {i : Nat} {o : Oper} (hin : i < n) (ho : ops[i]? = some o) (hrd : ∀ e ∈ o.after, Region.binds md e = true → L.getD e.on false = true) {v : Value} (hv : (es i).2 v w') (hb : BC w w') :
    InvS md ops n w0 a0 es (L.setIfInBounds i true) (a.put o.dst v) w' (fun j => if j = i then v else u j) := by
  have hil : i < L.size := by rw [h.ls]; exact (Array.getElem?_eq_some_iff.1 ho).1
  have hdi : (ops[i]?).bind (·.dst) = o.dst := by rw [ho]; rfl
  have hi : (L.setIfInBounds i true).getD i false = true := by simp [hil]
  refine ⟨BC_trans h.bc hb, by rw [put_defs, h.df], by rw [put_size, h.sz], by simp [h.ls], fun j hj => ?_, fun j o' hj ho' e he hbd => ?_, fun j hj => ?_, fun t ht => ?_, fun j t hj hjt ht => ?_⟩
  · by_cases e : j = i
    · omega
    · rw [getD_set_ne false (Ne.symm e)] at hj
      exact h.hd j hj
  · by_cases e' : j = i
    · subst e'
      obtain rfl : o = o' := by rw [ho] at ho'; exact Option.some.inj ho'
      exact getD_set_true (hrd e he hbd)
    · rw [getD_set_ne false (Ne.symm e')] at hj
      exact getD_set_true (h.dc j o' hj ho' e he hbd)
  · by_cases e : j = i
    · subst e
      simpa using hv
    · rw [getD_set_ne false (Ne.symm e)] at hj
      have hjs : j < ops.size := by rw [← h.ls]; exact done_lt hj
      have := (hst j _ (h.hd j hj) (Array.getElem?_eq_getElem hjs)).1 _ _ _ hb (h.told j hj)
      simpa [e] using this
  · have h1 := ht i hi
    rw [hdi] at h1
    rw [put_other h1]
    exact h.old t fun j hj => ht j (getD_set_true hj)
  · by_cases e : j = i
    · subst e
      rw [hdi] at hjt
      rw [hjt, put_at t (by rw [h.sz]; exact ht)]
      simp
    · rw [getD_set_ne false (Ne.symm e)] at hj
      rw [put_other (fun h2 => e (hd j i t (h.hd j hj) hin hjt (by rw [hdi]; exact h2)))]
      simpa [e] using h.new j t hj hjt ht
theorem count_set {L : Array Bool} {i : Nat} (hil : i < L.size) (hun : L.getD i false = false) : ∀ n, i < n → ((List.range n).filter fun j => !(L.setIfInBounds i true).getD j false).length + 1 = ((List.range n).filter fun j => !L.getD j false).length
  | 0, h => absurd h (by omega)
  | n + 1, h => by
    have same : ∀ j, j ≠ i → (L.setIfInBounds i true).getD j false = L.getD j false := fun j hj => getD_set_ne false (Ne.symm hj)
    rw [List.range_succ, List.filter_append, List.filter_append, List.length_append, List.length_append]
    by_cases e : i = n
    · subst e
      have h1 : ((List.range i).filter fun j => !(L.setIfInBounds i true).getD j false) = ((List.range i).filter fun j => !L.getD j false) := List.filter_congr fun j hj => by
        rw [same j (by have := List.mem_range.1 hj; omega)]
      have h2 : (L.setIfInBounds i true).getD i false = true := by simp [hil]
      rw [h1, List.filter_cons, List.filter_cons, h2, hun]
      simp
    · have ih := count_set hil hun n (by omega)
      have h2 : (L.setIfInBounds i true).getD n false = L.getD n false := same n (fun h => e h.symm)
      have h3 : ([n].filter fun j => !(L.setIfInBounds i true).getD j false) = ([n].filter fun j => !L.getD j false) := by
        rw [List.filter_cons, List.filter_cons, h2]
        rfl
      rw [h3]
      omega
theorem depsOf_mem {o : Oper} {i : Nat} (h : i ∈ depsOf md o) : ∃ e ∈ o.after, Region.binds md e = true ∧ e.on = i := by
  obtain ⟨e, he, h2⟩ := List.mem_filterMap.1 h
  by_cases hb : Region.binds md e = true
  · rw [if_pos hb] at h2
    exact ⟨e, by simpa using he, hb, by injection h2⟩
  · rw [if_neg hb] at h2
    cases h2
theorem depsAll_done {L : Array Bool} (hdc : ∀ (j : Nat) o, L.getD j false = true → ops[j]? = some o → ∀ e ∈ o.after, Region.binds md e = true → L.getD e.on false = true) {l : List Nat} (hl : ∀ i ∈ l, L.getD i false = true) :
    ∀ i ∈ depsAll md ops l, L.getD i false = true := by
  unfold depsAll
  generalize (List.range ops.size).reverse = r
  induction r generalizing l with
  | nil => exact hl
  | cons k r ih =>
    rw [List.foldl_cons]
    refine ih ?_
    split
    · rename_i hc
      cases ho : ops[k]? with
      | none => exact hl
      | some o =>
        intro i hi
        rcases List.mem_append.1 hi with h | h
        · obtain ⟨e, he, hb, rfl⟩ := depsOf_mem h
          exact hdc k o (hl k (by simpa using hc)) ho e he hb
        · exact hl i h
    · exact hl
theorem wpAny_slots {n : Nat} (hn : n ≤ ops.size) (hsel : ∀ (j : Nat) (o : Oper) cs b, ops[j]? = some o → o.op ≠ .select cs b) (hb : slotsB md ops n = true) (htl : tailsB md ops n = true) (es : Nat → Ent)
    (hob : ∀ k o, k < n → ops[k]? = some o → OB P md ops w0 a0 es k o)
    (hfin : ∀ w u, BC w0 w → (∀ j, j < n → (es j).2 (u j) w) → wpAny P md ops Q (ops.size - n) (headL ops n) (canonN a0 ops (valE es u) n) w) :
    ∀ (c : Nat) (L : Array Bool) (a : Act) (w : World) (u : Nat → Value), InvS md ops n w0 a0 es L a w u → ((List.range n).filter fun j => !L.getD j false).length = c → wpAny P md ops Q (ops.size - n + c) L a w := by
  obtain ⟨s0, s1, s2, s3⟩ := slotsB_spec hb
  have hval : ∀ {L : Array Bool} {a : Act} {w : World} {u : Nat → Value}, InvS md ops n w0 a0 es L a w u → ∀ j, L.getD j false = true → valE es u j = u j := fun {L a w u} h j hj => by
    have hjs : j < ops.size := by rw [← h.ls]; exact done_lt hj
    unfold valE
    cases hc : (es j).1 with
    | none => rfl
    | some c => exact ((hob j _ (h.hd j hj) (Array.getElem?_eq_getElem hjs)).2.1 c hc _ _ (h.told j hj)).symm
  have hend : ∀ (L : Array Bool) (a : Act) (w : World) (u : Nat → Value), InvS md ops n w0 a0 es L a w u → (∀ j, j < n → L.getD j false = true) → wpAny P md ops Q (ops.size - n) L a w := fun L a w u h hall => by
    have h1 := hfin w u h.bc fun j hj => h.told j (hall j hj)
    have h0 : L = headL ops n := by
      apply Array.ext (by simp [headL, h.ls])
      intro j h3 h4
      by_cases hj : j < n
      · have := hall j hj
        simp [h3] at this
        simp [headL, hj, this]
      · have : L.getD j false ≠ true := fun h5 => hj (h.hd j h5)
        simp [h3] at this
        simp [headL, hj, this]
    have h2 : a = canonN a0 ops (valE es u) n := by
      have ht : a.tmps = (canonN a0 ops (valE es u) n).tmps := by
        apply Array.ext_getElem?
        intro t
        rcases Nat.lt_or_ge t a0.tmps.size with hts | hts
        · by_cases hj : ∃ j : Nat, j < n ∧ (ops[j]?).bind (·.dst) = some t
          · obtain ⟨j, hjn, hj⟩ := hj
            rw [h.new j t (hall j hjn) hj hts, canonN_some s3 _ t hts j hj _ (Nat.le_refl _) hjn, hval h j (hall j hjn)]
          · rw [h.old t (fun j hj2 e => hj ⟨j, h.hd j hj2, e⟩), canonN_none _ t _ (fun j hj2 e => hj ⟨j, hj2, e⟩)]
        · rw [Array.getElem?_eq_none (by rw [h.sz]; exact hts), Array.getElem?_eq_none (by rw [canonN_size]; exact hts)]
      have hdd : a.defers = (canonN a0 ops (valE es u) n).defers := by rw [canonN_defs, h.df]
      cases a
      generalize canonN a0 ops (valE es u) n = b at *
      cases b
      simp only at ht hdd
      rw [ht, hdd]
    rw [h2, h0]
    exact h1
  intro c
  induction c with
  | zero =>
    intro L a w u h hc
    refine hend L a w u h fun j hj => ?_
    have h0 := List.eq_nil_of_length_eq_zero hc
    have h1 := List.filter_eq_nil_iff.1 h0 j (List.mem_range.2 hj)
    simpa using h1
  | succ c ih =>
    intro L a w u h hc
    have hne : ∃ j, j < n ∧ L.getD j false = false := by
      obtain ⟨j, hj⟩ := List.exists_mem_of_length_pos (by omega : 0 < ((List.range n).filter fun j => !L.getD j false).length)
      obtain ⟨h1, h2⟩ := List.mem_filter.1 hj
      exact ⟨j, List.mem_range.1 h1, by simpa using h2⟩
    refine ⟨fun hr => ?_, fun i hi => ?_⟩
    · exfalso
      have hall : ∀ j, j < n → L.getD j false = true := fun j => by
        induction j using Nat.strongRecOn with
        | _ j ih2 =>
          intro hj
          cases hx : L.getD j false with
          | true => rfl
          | false =>
            exfalso
            have hjs : j < ops.size := by omega
            have hm : j ∈ Region.ready md ops L := mem_ready.2 ⟨by
              have hjl : j < L.size := by rw [h.ls]; exact hjs
              simp [hjl] at hx ⊢
              exact hx, _, Array.getElem?_eq_getElem hjs, fun e he hbd => ih2 e.on (s1 j _ hj (Array.getElem?_eq_getElem hjs) e he hbd) (by have := s1 j _ hj (Array.getElem?_eq_getElem hjs) e he hbd; omega)⟩
            rw [hr] at hm
            cases hm
      obtain ⟨j, hj, hx⟩ := hne
      rw [hall j hj] at hx
      cases hx
    · obtain ⟨hun, o, ho, hall⟩ := mem_ready.1 hi
      have his : i < ops.size := (Array.getElem?_eq_some_iff.1 ho).1
      have hin : i < n := by
        rcases Nat.lt_or_ge i n with h1 | h1
        · exact h1
        · exfalso
          have h2 := List.all_eq_true.1 htl i (List.mem_range.2 his)
          simp only [ho, Bool.or_eq_true, decide_eq_true_eq] at h2
          have h3 := h2.resolve_left (by omega)
          obtain ⟨j, hj, hx⟩ := hne
          have h4 := List.all_eq_true.1 h3 j (List.mem_range.2 hj)
          have h5 := depsAll_done (md := md) (ops := ops) h.dc (l := depsOf md o) (fun k hk => by
            obtain ⟨e, he, hbd, rfl⟩ := depsOf_mem hk
            exact hall e he hbd) j (by simpa using h4)
          rw [h5] at hx
          cases hx
      have hun' : L.getD i false = false := by
        cases hx : L.getD i false with
        | false => rfl
        | true => exact (getD_both' hx hun).elim
      have hwt : ∀ j, waitsOn md o j = true → L.getD j false = true := fun j hj => by
        obtain ⟨e, he, hb2⟩ := Array.any_eq_true'.1 hj
        simp only [Bool.and_eq_true, beq_iff_eq] at hb2
        rw [← hb2.2]
        exact hall e he hb2.1
      have hstep := (hob i o hin ho).2.2 ⟨w, h.bc⟩ u fun j _ hj => h.told j (hwt j hj)
      have hag : ∀ t ∈ o.looksAt ops, a.tmps[t]? = (canonN a0 ops (valE es u) i).tmps[t]? := fun t ht => by
        rcases Nat.lt_or_ge t a0.tmps.size with hts | hts
        · by_cases hj : ∃ j : Nat, j < n ∧ (ops[j]?).bind (·.dst) = some t
          · obtain ⟨j, hjn, hj⟩ := hj
            obtain ⟨h1, h2⟩ := s2 i j o t hin hjn ho hj ht
            rw [h.new j t (hwt j h2) hj hts, canonN_some s3 _ t hts j hj _ (by omega) h1, hval h j (hwt j h2)]
          · rw [h.old t (fun j hj2 e => hj ⟨j, h.hd j hj2, e⟩), canonN_none _ t _ (fun j hj2 e => hj ⟨j, by omega, e⟩)]
        · rw [Array.getElem?_eq_none (by rw [h.sz]; exact hts), Array.getElem?_eq_none (by rw [canonN_size]; exact hts)]
      obtain ⟨g1, g2⟩ := act_agree (hsel i o · · ho) hag
      have hcnt : ((List.range n).filter fun j => !(L.setIfInBounds i true).getD j false).length = c := by
        have := count_set (by rw [h.ls]; exact his) hun' n hin
        omega
      have hnext : ∀ v w', (es i).2 v w' → BC w w' → wpAny P md ops Q (ops.size - n + c) (L.setIfInBounds i true) (a.put o.dst v) w' := fun v w' hv hbw => ih _ _ _ _ (h.step s3 hob hin ho hall hv hbw) hcnt
      unfold wpOp
      simp only [ho]
      unfold stepP at hstep
      rw [← g2, ← g1] at hstep
      by_cases hw : Region.wanted o (yielded ops a.tmps) = true
      · rw [if_pos hw] at hstep ⊢
        left
        unfold Oper.wp
        change comesToP P (es i).2 w ((execOp a.eval o).run P w) at hstep
        generalize (execOp a.eval o).run P w = r at *
        cases r with
        | ok m w' =>
          cases m <;> simp only [comesToP] at hstep <;> simp only [Oper.upon]
          case value v => exact hnext v w' hstep.1 hstep.2
          case skip => exact hnext _ w' hstep.1 hstep.2
          case enter g args => exact hstep.mono fun e w'' ⟨v, he, h1, h2⟩ => by subst he; exact hnext v w'' h1 h2
        | halt x w' => simp only [comesToP] at hstep
      · rw [if_neg hw] at hstep ⊢
        exact hnext undef w hstep (BC_refl w)
/-- the beginning: the first n operations in whatever order; the others one by one behind them -/
theorem wp_region_slotsT {id : Nat} {a : Act} {w : World} (n : Nat) (hm : P.follows .mixedOrders = true) (hsel : Region.noSelect ops = true) (hn : decide (n ≤ ops.size) = true) (hb : slotsB .any ops n = true) (htl : tailsB .any ops n = true) (hsq : Region.seqB .any ops (ops.size - n) n (headL ops n) = true) (ks : List (Option (Value → World → Prop)))
    (h : slotG P .any ops w (fun a w => wpList P ops Q (ops.toList.drop n) a w) 0 ks (ops.toList.take n) (fun _ => a) []) : (Code.region id ops true).wp P Q a w := by
  have hn := of_decide_eq_true hn
  obtain ⟨es, _, hob, hfin⟩ := slotG_ents (a0 := a) hn (ops.toList.take n) 0 ks _ [] (fun _ => (none, fun _ _ => True)) h (Nat.zero_le _) (fun _ => rfl) (fun p hp => by cases hp) (fun k => by rw [Nat.zero_add, List.getElem?_take, Array.getElem?_toList])
  have hx : ∀ (n j : Nat), (Array.replicate n false).getD j false = false := fun n j => by
    rcases Nat.lt_or_ge j n with h | h <;> simp [h]
  have ha : ∀ j, (Array.replicate ops.size false).getD j false = true → False := fun j hj => by
    rw [hx] at hj
    cases hj
  have hlen : (ops.toList.drop n).length = ops.size - n := by simp
  have hz := wpAny_slots (Q := Q) (w0 := w) (a0 := a) hn (Region.noSelect_spec hsel) hb htl es (fun k o hk ho => hob k (Nat.zero_le _) hk o ho) (fun w' u h1 h2 => by
      have := wpAny_of_seq (P := P) (md := .any) (ops := ops) (Q' := Q) (ops.toList.drop n) n (headL ops n) (canonN a ops (valE es u) n) w' (fun j => by simp) (by rw [hlen]; exact hsq) (hfin w' u h1 h2)
      rwa [hlen] at this) n (Array.replicate ops.size false) a w.drew (fun _ => undef)
    ⟨BC_start w, rfl, rfl, by simp, fun j hj => (ha j hj).elim, fun j o hj => (ha j hj).elim, fun j hj => (ha j hj).elim, fun _ _ => rfl, fun j t hj => (ha j hj).elim⟩
    (by rw [List.filter_eq_self.2 (fun j _ => by rw [hx]; rfl), List.length_range])
  rw [show ops.size - n + n = ops.size by omega] at hz
  exact wp_region_any hm hz
/-- all in whatever order -/
theorem wp_region_slots {id : Nat} {a : Act} {w : World} (hm : P.follows .mixedOrders = true) (hsel : Region.noSelect ops = true) (hb : (slotsB .any ops ops.size && Region.seqB .any ops 0 ops.size (headL ops ops.size)) = true) (ks : List (Option (Value → World → Prop)))
    (h : slotG P .any ops w (Q .normal) 0 ks ops.toList (fun _ => a) []) : (Code.region id ops true).wp P Q a w := by
  rw [Bool.and_eq_true] at hb
  refine wp_region_slotsT ops.size hm hsel (by simp) hb.1 ?_ (by rw [Nat.sub_self]; exact hb.2) ks ?_
  · unfold tailsB
    rw [List.all_eq_true]
    intro j hj
    rw [decide_eq_true (List.mem_range.1 hj)]
    rfl
  · have e1 : ops.toList.take ops.size = ops.toList := List.take_of_length_le (by simp)
    have e2 : ops.toList.drop ops.size = [] := List.drop_of_length_le (by simp)
    rw [e1, e2]
    exact h
end
end Go.Proofs.YtagdlbadkmgdmaaDoor
