/- A region that draws its order, step by step: what comes to one value in every world with more blocks (a call too) is taken first, and the world is not moved by it; the others come up one by one, each in any world with more blocks. -/
import Derived.Test.YtagdlbadkmgdmaaDoorReg
import Derived.Deep.RegionHeld
import Derived.Laws.Tables
namespace Go.Proofs.YtagdlbadkmgdmaaDoor
open Go Go.RowKit

theorem BC_trans {w w1 w2 : World} (h : BC w w1) (k : BC w1 w2) : BC w w2 := Below.trans h (Below.mono k (Below.size h))
theorem BC_refl (w : World) : BC w w := Below.refl _ _
section
variable {P : Program} {ops : Array Oper} {Q : Exit → Act → World → Prop} {md : Region.Mode} {w0 : World}

/-- whatever order is picked, whatever blocks are made between -/
def wpE (P : Program) (md : Region.Mode) (ops : Array Oper) (Q : Exit → Act → World → Prop) (w0 : World) : Nat → Array Bool → Act → World → Prop
  | 0, L, a, w => Region.ready md ops L = [] ∧ ∀ w1, BC w w1 → Q .normal a w1
  | f + 1, L, a, w => ∀ w1, BC w w1 → (Region.ready md ops L = [] → Q .normal a w1) ∧ ∀ i ∈ Region.ready md ops L, wpOp P ops Q i (fun a' w' => BC w0 w' ∧ wpE P md ops Q w0 f (L.setIfInBounds i true) a' w') a w1
theorem wpE_more : ∀ {f : Nat} {L : Array Bool} {a : Act} {w w1 : World}, wpE P md ops Q w0 f L a w → BC w w1 → wpE P md ops Q w0 f L a w1
  | 0, _, _, _, _, h, k => ⟨h.1, fun w2 h2 => h.2 w2 (BC_trans k h2)⟩
  | _ + 1, _, _, _, _, h, k => fun w2 h2 => h w2 (BC_trans k h2)
theorem wpAny_E : ∀ (f : Nat) (L : Array Bool) (a : Act) (w : World), wpE P md ops Q w0 f L a w → wpAny P md ops Q f L a w
  | 0, _, _, w, h => ⟨h.1, h.2 w (BC_refl w)⟩
  | f + 1, _, _, w, h => ⟨(h w (BC_refl w)).1, fun i hi => wpOp_mono (fun a' w' h' => wpAny_E f _ a' w' h'.2) ((h w (BC_refl w)).2 i hi)⟩
/-- the operation comes to v in every world with more blocks than w0, and makes blocks at most -/
def takesE (P : Program) (w0 : World) (o : Oper) (v : Value) (a : Act) : Prop := ∀ x : HW (BC w0), comesTo P (BC x.w) v ((execOp a.eval o).run P x.w)
def givesE (P : Program) (ops : Array Oper) (w0 : World) (o : Oper) (v : Value) (a : Act) : Prop :=
  (Region.wanted o (yielded ops a.tmps) = true ∧ takesE P w0 o v a) ∨ (Region.wanted o (yielded ops a.tmps) = false ∧ v = undef)
theorem givesE_put {o p : Oper} {v : Value} {a : Act} (hs : ∀ cs b, o.op ≠ .select cs b) (hap : ∀ d, p.dst = some d → d ∉ o.looksAt ops) (u : Value) (h : givesE P ops w0 o v a) : givesE P ops w0 o v (a.put p.dst u) := by
  unfold givesE takesE at *
  rw [execOp_put o hs a p.dst u hap, wanted_put o a p.dst u hap]
  exact h
theorem givesE_op {i : Nat} {o : Oper} {v : Value} {a : Act} {K : Act → World → Prop} {w : World} (hi : ops[i]? = some o) (hw : BC w0 w) (hy : givesE P ops w0 o v a) (h : ∀ w', BC w w' → K (a.put o.dst v) w') : wpOp P ops Q i K a w := by
  unfold wpOp
  simp only [hi]
  rcases hy with ⟨h1, h2⟩ | ⟨h1, rfl⟩
  · rw [if_pos h1]
    have h3 := h2 ⟨w, hw⟩
    left
    unfold Oper.wp
    change comesTo P (BC w) v ((execOp a.eval o).run P w) at h3
    generalize (execOp a.eval o).run P w = r at *
    cases r with
    | ok n w' =>
      cases n <;> simp only [comesTo] at h3 <;> simp only [Oper.upon]
      case value u => obtain ⟨rfl, e2⟩ := h3; exact h _ e2
      case skip => obtain ⟨rfl, e2⟩ := h3; exact h _ e2
      case enter f args => exact h3.mono fun e w'' ⟨he, hw''⟩ => by subst he; exact h _ hw''
    | halt x w' => simp only [comesTo] at h3
  · rw [if_neg (by simp [h1])]
    exact h _ (BC_refl w)
/-- another operation, whether or not this one's value is there already -/
theorem apartE {j : Nat} {oi oj : Oper} {v : Value} (hj : ops[j]? = some oj) (hap : oi.apart ops oj = true) (hsi : ∀ cs b, oi.op ≠ .select cs b) (hsj : ∀ cs b, oj.op ≠ .select cs b)
    (hQ : ∀ c a w, Q (.panic c) (a.put oi.dst v) w → Q (.panic c) a w) {K : Act → World → Prop} {a : Act} {w : World} (hy : givesE P ops w0 oi v a) (h : wpOp P ops Q j K (a.put oi.dst v) w) :
    wpOp P ops Q j (fun a' w' => givesE P ops w0 oi v a' ∧ K (a'.put oi.dst v) w') a w := by
  obtain ⟨h1, h2, h3⟩ := Oper.apart_spec hap
  have keep : ∀ (a : Act) u, givesE P ops w0 oi v a → givesE P ops w0 oi v (a.put oj.dst u) := fun a u => givesE_put hsi h3 u
  unfold wpOp at *
  simp only [hj] at *
  rw [wanted_put oj a oi.dst v h1] at h
  by_cases hw : Region.wanted oj (yielded ops a.tmps) = true
  · rw [if_pos hw] at h ⊢
    rcases h with h | h
    · left
      unfold Oper.wp at *
      rw [execOp_put oj hsj a oi.dst v h1] at h
      generalize (execOp a.eval oj).run P w = r at *
      cases r with
      | halt x w' =>
        cases x <;> simp only [Oper.upon] at h ⊢
        case panic u => exact hQ _ _ _ h
      | ok n w' =>
        cases n <;> simp only [Oper.upon] at h ⊢
        case value u => rw [Act.put_comm a v u h2] at h; exact ⟨keep _ _ hy, h⟩
        case skip => rw [Act.put_comm a v undef h2] at h; exact ⟨keep _ _ hy, h⟩
        case defer d =>
          refine ⟨keep { a with defers := d :: a.defers } _ hy, ?_⟩
          rw [← Act.put_comm _ v undef h2, ← Act.put_defers]
          exact h
        case enter f args =>
          refine Calls.mono h fun e w'' he => ?_
          cases e with
          | returned u =>
            have he' := he
            simp only at he'
            rw [Act.put_comm a v u h2] at he'
            exact ⟨keep _ _ hy, he'⟩
          | panicked c => exact hQ _ _ _ he
          | outgrown => exact he
        case row row args =>
          refine Rows.mono h fun u w'' he => ?_
          rw [Act.put_comm a v u h2] at he
          exact ⟨keep _ _ hy, he⟩
    · right
      exact ⟨by have h4 := h.1; unfold Oper.asks at *; rw [execOp_put oj hsj a oi.dst v h1] at h4; exact h4, h.2⟩
  · rw [if_neg hw] at h ⊢
    rw [Act.put_comm a v undef h2] at h
    exact ⟨keep _ _ hy, h⟩
theorem firstE {i : Nat} {oi : Oper} {v : Value} (hi : ops[i]? = some oi) (hsel : ∀ (j : Nat) (o : Oper) cs b, ops[j]? = some o → o.op ≠ .select cs b)
    (hQ : ∀ c a w, Q (.panic c) (a.put oi.dst v) w → Q (.panic c) a w) : ∀ (f : Nat) (L : Array Bool) (a : Act) (w : World),
      (∀ j oj, ops[j]? = some oj → j ≠ i → L.getD j true = false → (∀ e ∈ oj.after, Region.binds md e = true → e.on ≠ i) → oi.apart ops oj = true) →
      i ∈ Region.ready md ops L → givesE P ops w0 oi v a → BC w0 w → wpE P md ops Q w0 f (L.setIfInBounds i true) (a.put oi.dst v) w → wpE P md ops Q w0 (f + 1) L a w := by
  intro f
  induction f with
  | zero =>
    intro L a w _ hr hy hS H w1 r1
    refine ⟨fun h => (by rw [h] at hr; cases hr), fun j hj => ?_⟩
    by_cases hji : j = i
    · subst hji
      exact givesE_op hi (BC_trans hS r1) hy fun w2 r2 => ⟨BC_trans (BC_trans hS r1) r2, wpE_more H (BC_trans r1 r2)⟩
    · have := ready_mono hj hji
      rw [H.1] at this
      cases this
  | succ f ih =>
    intro L a w hfree hr hy hS H w1 r1
    refine ⟨fun h => (by rw [h] at hr; cases hr), fun j hj => ?_⟩
    by_cases hji : j = i
    · subst hji
      exact givesE_op hi (BC_trans hS r1) hy fun w2 r2 => ⟨BC_trans (BC_trans hS r1) r2, wpE_more H (BC_trans r1 r2)⟩
    · have h1 := (H w1 r1).2 j (ready_mono hj hji)
      obtain ⟨hjun, oj, hoj, hall⟩ := mem_ready.1 hj
      have hnot : ∀ e ∈ oj.after, Region.binds md e = true → e.on ≠ i := fun e he hb heq => by
        have := hall e he hb
        rw [heq] at this
        exact getD_both' this (mem_ready.1 hr).1
      have h2 := apartE hoj (hfree j oj hoj hji hjun hnot) (fun cs b => hsel i oi cs b hi) (fun cs b => hsel j oj cs b hoj) hQ hy h1
      refine wpOp_mono (fun a' w' h3 => ⟨h3.2.1, ih (L.setIfInBounds j true) a' w' (fun k ok hk hki hun hno => hfree k ok hk hki ?_ hno) (ready_mono hr (Ne.symm hji)) h3.1 h3.2.1 ?_⟩) h2
      · by_cases hjk : j = k
        · subst hjk; exact hjun
        · rw [getD_set_ne true hjk] at hun; exact hun
      · rw [Array.setIfInBounds_comm _ _ hji]
        exact h3.2.2
/-- take number i first -/
theorem takeE {i : Nat} {oi : Oper} {f : Nat} {L : Array Bool} {a : Act} {w : World} (hi : ops[i]? = some oi)
    (hs : Region.noSelect ops = true) (hf : Region.free md ops L i = true) (hr : (Region.ready md ops L).contains i = true)
    (hQ : ∀ c v a w, Q (.panic c) (Act.put a oi.dst v) w → Q (.panic c) a w) (hS : BC w0 w)
    (h : ∀ K : Act → Prop, Hid (∀ a', wpE P md ops Q w0 f (L.setIfInBounds i true) a' w → K a') →
      if Region.wanted oi (yielded ops a.tmps) = true then ∃ v, takesE P w0 oi v a ∧ K (a.put oi.dst v) else K (a.put oi.dst undef)) :
    wpE P md ops Q w0 (f + 1) L a w := by
  have h1 := h (fun a' => wpE P md ops Q w0 f (L.setIfInBounds i true) a' w) (fun _ h => h)
  by_cases hw : Region.wanted oi (yielded ops a.tmps) = true
  · rw [if_pos hw] at h1
    obtain ⟨v, h2, h3⟩ := h1
    exact firstE hi (Region.noSelect_spec hs) (fun c a w h => hQ c _ a w h) f L a w (Region.free_spec hi hf) (by simpa using hr) (.inl ⟨hw, h2⟩) hS h3
  · rw [if_neg hw] at h1
    exact firstE hi (Region.noSelect_spec hs) (fun c a w h => hQ c _ a w h) f L a w (Region.free_spec hi hf) (by simpa using hr) (.inr ⟨by simpa using hw, rfl⟩) hS h1
/-- .. a load of a whole array -/
theorem takeER {i : Nat} {oi : Oper} {f : Nat} {L : Array Bool} {a : Act} {w : World} (hi : ops[i]? = some oi)
    (hs : Region.noSelect ops = true) (hf : Region.free md ops L i = true) (hr : (Region.ready md ops L).contains i = true)
    (hQ : ∀ c v a w, Q (.panic c) (Act.put a oi.dst v) w → Q (.panic c) a w) (hS : BC w0 w)
    (ty : TypeId) (xo : Operand) (ho : oi.op = .load ty xo) (hw : Region.wanted oi (yielded ops a.tmps) = true) (g : Nat) (hx : a.eval xo = .pointer (some ⟨g, 0, none⟩)) (t : TypeId) (cs : Array Value) (fr : Nat × Nat) (d : TypeDesc)
    (hg : ∀ x : HW (BC w0), x.w.heap[g]? = some (.cells cs t fr)) (hu : P.underlying ty = some d) (hd : (match d with | .struct _ | .array _ _ => true | _ => false) = true) (hz : (P.info? ty).map (·.size) = some cs.size)
    (h : wpE P md ops Q w0 f (L.setIfInBounds i true) (a.put oi.dst (.agg cs)) w) : wpE P md ops Q w0 (f + 1) L a w :=
  firstE hi (Region.noSelect_spec hs) (fun c a w h => hQ c _ a w h) f L a w (Region.free_spec hi hf) (by simpa using hr) (.inl ⟨hw, fun x => by
    unfold execOp
    simp only [ho, hx, Instr.loadAt, Instr.sureAddr, Sem.run_bind, Sem.run_pure, Result.andThen_ok, run_loadVar_row x.w g t ty cs fr d (hg x) hu hd hz, comesTo]
    exact ⟨trivial, BC_refl _⟩⟩) hS h
/-- .. of a part of a block -/
theorem takeEM {i : Nat} {oi : Oper} {f : Nat} {L : Array Bool} {a : Act} {w : World} (hi : ops[i]? = some oi)
    (hs : Region.noSelect ops = true) (hf : Region.free md ops L i = true) (hr : (Region.ready md ops L).contains i = true)
    (hQ : ∀ c v a w, Q (.panic c) (Act.put a oi.dst v) w → Q (.panic c) a w) (hS : BC w0 w)
    (ty : TypeId) (xo : Operand) (ho : oi.op = .load ty xo) (hw : Region.wanted oi (yielded ops a.tmps) = true) (g o : Nat) (hx : a.eval xo = .pointer (some ⟨g, o, none⟩)) (cs : Array Value) (d : TypeDesc)
    (hg : ∀ x : HW (BC w0), x.w.rangeAt g o cs.toList) (hu : P.underlying ty = some d) (hd : d.isRow = true) (hz : (P.info? ty).map (·.size) = some cs.size)
    (h : wpE P md ops Q w0 f (L.setIfInBounds i true) (a.put oi.dst (.agg cs)) w) : wpE P md ops Q w0 (f + 1) L a w :=
  firstE hi (Region.noSelect_spec hs) (fun c a w h => hQ c _ a w h) f L a w (Region.free_spec hi hf) (by simpa using hr) (.inl ⟨hw, fun x => by
    unfold execOp
    simp only [ho, hx, Instr.loadAt, Instr.sureAddr, Sem.run_bind, Sem.run_pure, Result.andThen_ok, run_loadVar_mid x.w g o ty cs.toList d (hg x) hu hd (by simpa using hz), comesTo]
    exact ⟨trivial, BC_refl _⟩⟩) hS h
/-- .. a struct, or an array, built of its parts -/
theorem takeEB {i : Nat} {oi : Oper} {f : Nat} {L : Array Bool} {a : Act} {w : World} (hi : ops[i]? = some oi)
    (hs : Region.noSelect ops = true) (hf : Region.free md ops L i = true) (hr : (Region.ready md ops L).contains i = true)
    (hQ : ∀ c v a w, Q (.panic c) (Act.put a oi.dst v) w → Q (.panic c) a w) (hS : BC w0 w)
    (ty : TypeId) (parts : Array (Nat × Operand)) (ho : oi.op = .build ty parts) (hw : Region.wanted oi (yielded ops a.tmps) = true) (cs : Array Value) (hb : P.built ty (parts.map fun (i, x) => (i, a.eval x)).toList = some cs)
    (h : wpE P md ops Q w0 f (L.setIfInBounds i true) (a.put oi.dst (.agg cs)) w) : wpE P md ops Q w0 (f + 1) L a w :=
  firstE hi (Region.noSelect_spec hs) (fun c a w h => hQ c _ a w h) f L a w (Region.free_spec hi hf) (by simpa using hr) (.inl ⟨hw, fun x => by
    unfold execOp
    simp only [ho, Sem.run_bind, run_build x.w ty _ _ hb, Result.andThen_ok, Sem.run_pure, comesTo]
    exact ⟨trivial, BC_refl _⟩⟩) hS h
/-- the only one that may come up -/
theorem stepE {i : Nat} {oi : Oper} {f : Nat} {L : Array Bool} {a : Act} {w : World} (hi : ops[i]? = some oi) (hr : Region.ready md ops L = [i])
    (h : ∀ w1, BC w w1 → ∀ K : Act → World → Prop, Hid (∀ a w', BC w0 w' → wpE P md ops Q w0 f (L.setIfInBounds i true) a w' → K a w') → if Region.wanted oi (yielded ops a.tmps) = true then Oper.wp P oi a w1 K Q else K (a.put oi.dst undef) w1) :
    wpE P md ops Q w0 (f + 1) L a w := fun w1 r1 => ⟨fun h0 => (by rw [hr] at h0; cases h0), fun j hj => by
  rw [hr] at hj
  obtain rfl := List.mem_singleton.1 hj
  exact wpOp_step hi fun K hK => h w1 r1 K (fun a w' hS hW => hK a w' ⟨hS, hW⟩)⟩
/-- two may come up -/
theorem stepEE {i j : Nat} {oi oj : Oper} {f : Nat} {L : Array Bool} {a : Act} {w : World} (hi : ops[i]? = some oi) (hj : ops[j]? = some oj) (hr : Region.ready md ops L = [i, j])
    (h : ∀ w1, BC w w1 → ∀ K : Act → World → Prop, Hid (∀ a w', BC w0 w' → wpE P md ops Q w0 f (L.setIfInBounds i true) a w' → K a w') → if Region.wanted oi (yielded ops a.tmps) = true then Oper.wp P oi a w1 K Q else K (a.put oi.dst undef) w1)
    (h' : ∀ w1, BC w w1 → ∀ K : Act → World → Prop, Hid (∀ a w', BC w0 w' → wpE P md ops Q w0 f (L.setIfInBounds j true) a w' → K a w') → if Region.wanted oj (yielded ops a.tmps) = true then Oper.wp P oj a w1 K Q else K (a.put oj.dst undef) w1) :
    wpE P md ops Q w0 (f + 1) L a w := fun w1 r1 => ⟨fun h0 => (by rw [hr] at h0; cases h0), fun k hk => by
  rw [hr] at hk
  rcases List.mem_cons.1 hk with rfl | hk
  · exact wpOp_step hi fun K hK => h w1 r1 K (fun a w' hS hW => hK a w' ⟨hS, hW⟩)
  · obtain rfl := List.mem_singleton.1 hk
    exact wpOp_step hj fun K hK => h' w1 r1 K (fun a w' hS hW => hK a w' ⟨hS, hW⟩)⟩
/-- all have come up -/
theorem doneE {L : Array Bool} {a : Act} {w : World} (hr : Region.ready md ops L = []) (h : ∀ w1, BC w w1 → Q .normal a w1) : ∀ f, wpE P md ops Q w0 f L a w
  | 0 => ⟨hr, h⟩
  | _ + 1 => fun w1 r1 => ⟨fun _ => h w1 r1, by rw [hr]; simp⟩
/-- the beginning -/
theorem wp_region_E {id : Nat} {a : Act} {w : World} (hm : P.follows .mixedOrders = true) (h : wpE P .any ops Q w ops.size (Array.replicate ops.size false) a w) : (Code.region id ops true).wp P Q a w :=
  wp_region_any hm (wpAny_E _ _ _ _ (wpE_more h (BC_start w)))
end
end Go.Proofs.YtagdlbadkmgdmaaDoor
