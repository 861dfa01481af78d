/- A region that draws its order, step by step: what yields one value in every world of a class is taken first; the others come up one by one. -/
import Derived.Test.YtcijdceomgdakaaReg
import Derived.Deep.RegionHeld
namespace Go.Proofs.Ytcijdceomgdakaa
open Go Go.RowKit

section
variable {P : Program} {ops : Array Oper} {Q : Exit → Act → World → Prop} {md : Region.Mode} {S : World → Prop}

/-- take number i first: an operation that leaves every world as it is -/
theorem takeV {i : Nat} {oi : Oper} {fuel : Nat} {listed : Array Bool} {a : Act} {w : World} (hi : ops[i]? = some oi)
    (hs : Region.noSelect ops = true) (hf : Region.free md ops listed i = true) (hr : (Region.ready md ops listed).contains i = true)
    (hQ : ∀ c v a w, Q (.panic c) (Act.put a oi.dst v) w → Q (.panic c) a w) (hS : S w)
    (h : ∀ K : Act → Prop, Hid (∀ a', wpAnyH P md ops Q S fuel (listed.setIfInBounds i true) a' w → K a') →
      if Region.wanted oi (yielded ops a.tmps) = true then ∃ v, (∀ x : HW S, (execOp a.eval oi).run P x.w = .ok (.value v) x.w) ∧ K (a.put oi.dst v) else K (a.put oi.dst undef)) :
    wpAnyH P md ops Q S (fuel + 1) listed a w := by
  have h1 := h (fun a' => wpAnyH P md ops Q S fuel (listed.setIfInBounds i true) a' w) (fun _ h => h)
  by_cases hw : Region.wanted oi (yielded ops a.tmps) = true
  · rw [if_pos hw] at h1
    obtain ⟨v, h2, h3⟩ := h1
    exact wpAnyH_take hi hs hf hr (fun c a w h => hQ c _ a w h) (.inl ⟨hw, fun w hw => h2 ⟨w, hw⟩⟩) hS h3
  · rw [if_neg hw] at h1
    exact wpAnyH_take hi hs hf hr (fun c a w h => hQ c _ a w h) (.inr ⟨by simpa using hw, rfl⟩) hS h1
/-- .. a load of a whole array -/
theorem takeR {i : Nat} {oi : Oper} {fuel : Nat} {listed : Array Bool} {a : Act} {w : World} (hi : ops[i]? = some oi)
    (hs : Region.noSelect ops = true) (hf : Region.free md ops listed i = true) (hr : (Region.ready md ops listed).contains i = true)
    (hQ : ∀ c v a w, Q (.panic c) (Act.put a oi.dst v) w → Q (.panic c) a w) (hS : S w)
    (ty : TypeId) (xo : Operand) (ho : oi.op = .load ty xo)
    (hw : Region.wanted oi (yielded ops a.tmps) = true) (g : Nat) (hx : a.eval xo = .pointer (some ⟨g, 0, none⟩)) (t : TypeId) (cs : Array Value) (fr : Nat × Nat) (d : TypeDesc)
    (hg : ∀ x : HW S, x.w.heap[g]? = some (.cells cs t fr)) (hu : P.underlying ty = some d) (hd : (match d with | .struct _ | .array _ _ => true | _ => false) = true) (hz : (P.info? ty).map (·.size) = some cs.size)
    (h : wpAnyH P md ops Q S fuel (listed.setIfInBounds i true) (a.put oi.dst (.agg cs)) w) : wpAnyH P md ops Q S (fuel + 1) listed a w :=
  wpAnyH_take hi hs hf hr (fun c a w h => hQ c _ a w h) (.inl ⟨hw, fun w hw => by
    unfold execOp
    simp only [ho, hx, Instr.loadAt, Instr.sureAddr, Sem.run_bind, Sem.run_pure, Result.andThen_ok, run_loadVar_row w g t ty cs fr d (hg ⟨w, hw⟩) hu hd hz]⟩) hS h
/-- the only one that may come up -/
theorem stepX {i : Nat} {oi : Oper} {fuel : Nat} {listed : Array Bool} {a : Act} {w : World} (hi : ops[i]? = some oi) (hr : Region.ready md ops listed = [i])
    (h : ∀ K : Act → World → Prop, Hid (∀ a w, S w → wpAnyH P md ops Q S fuel (listed.setIfInBounds i true) a w → K a w) → if Region.wanted oi (yielded ops a.tmps) = true then Oper.wp P oi a w K Q else K (a.put oi.dst undef) w) :
    wpAnyH P md ops Q S (fuel + 1) listed a w :=
  wpAnyH_ready hr (by simp) (AllReadyH.cons hi (fun K hK => h K (fun a w hS hW => hK.out a w hS (fun _ => hW))) AllReadyH.nil)
/-- two may come up -/
theorem stepXX {i j : Nat} {oi oj : Oper} {fuel : Nat} {listed : Array Bool} {a : Act} {w : World} (hi : ops[i]? = some oi) (hj : ops[j]? = some oj) (hr : Region.ready md ops listed = [i, j])
    (h : ∀ K : Act → World → Prop, Hid (∀ a w, S w → wpAnyH P md ops Q S fuel (listed.setIfInBounds i true) a w → K a w) → if Region.wanted oi (yielded ops a.tmps) = true then Oper.wp P oi a w K Q else K (a.put oi.dst undef) w)
    (h' : ∀ K : Act → World → Prop, Hid (∀ a w, S w → wpAnyH P md ops Q S fuel (listed.setIfInBounds j true) a w → K a w) → if Region.wanted oj (yielded ops a.tmps) = true then Oper.wp P oj a w K Q else K (a.put oj.dst undef) w) :
    wpAnyH P md ops Q S (fuel + 1) listed a w :=
  wpAnyH_ready hr (by simp) (AllReadyH.cons hi (fun K hK => h K (fun a w hS hW => hK.out a w hS (fun _ => hW))) (AllReadyH.cons hj (fun K hK => h' K (fun a w hS hW => hK.out a w hS (fun _ => hW))) AllReadyH.nil))
end
end Go.Proofs.Ytcijdceomgdakaa
