/- Slices of slices of bytes that come in. -/
import Derived.Test.YtagdlbadkmgdmaaDoorOpenB
import Derived.SizedLaws
import Derived.ChangeSlices
namespace Go.Proofs.YtagdlbadkmgdmaaDoor
open Go.ChangeShapes Go.WideShapes Go.ChangeAt Go.RowKit

/-- v is a slice of n slices of bytes, none of them longer than the form's reach -/
def SlSl (w : World) (v : Value) (n : Nat) : Prop := ∃ a cap, v = .slice a n cap ∧ (0 < n → ∃ B O, a = some ⟨B, O, none⟩ ∧ ∀ i, i < n → ∃ c b o l, w.cell? ⟨B, O + i, none⟩ = some c ∧ SlV c b o l.length ∧ Lies w b o l ∧ Bytes l ∧ l.length ≤ 140737488351232)
theorem cells_one {W : World} {x : Addr} {cs : List Value} (h : W.cells? 0 x 1 = some cs) : ∃ c, cs = [c] ∧ W.cell? x = some c := by
  have e0 : x.add 0 = x := by simp [Addr.add]
  simp [World.cells?, List.range_succ, e0] at h
  cases hc : W.cell? x with
  | none => simp [hc] at h
  | some c =>
    simp [hc] at h
    exact ⟨c, h.symm, rfl⟩
theorem weights_all {H : Type} {P : Program} {e : TypeId} : ∀ {ds : List (DataW H)} {i : Nat} {d : DataW H}, ds[i]? = some d → ∀ n ∈ d.weights P e, n ∈ DataW.weightsAll P e ds
  | d0 :: ds, 0, d, h, n, hn => by
    simp only [List.getElem?_cons_zero, Option.some.injEq] at h
    subst h
    simp only [DataW.weightsAll, List.mem_append]
    exact .inl hn
  | d0 :: ds, i + 1, d, h, n, hn => by
    simp only [List.getElem?_cons_succ] at h
    simp only [DataW.weightsAll, List.mem_append]
    exact .inr (weights_all h n hn)
  | [], _, _, h, _, _ => by simp at h
theorem open_bytes {P : Program} {H : Type} {enc : TypeId × Value → H} {W : World} {fuel : Nat} {e eb : TypeId} {a0 : Option Addr} {len0 cap0 : Nat} {d : DataW H} {p : List MemPlace}
    (he : P.underlying e = some (.slice eb)) (hb : P.underlying eb = some (.int .u8)) (hcb : P.cellsOf eb = 1) (hby : P.bytesOf eb = 1)
    (hf : DataW.trod enc P W 0 (fun _ => true) true fuel e (Value.slice a0 len0 cap0).cells.toList = some (d, p)) (hsz : ∀ n ∈ d.weights P e, n ≤ reachBytes) :
    ∃ b o l, SlV (.slice a0 len0 cap0) b o l.length ∧ Lies W b o l ∧ Bytes l ∧ l.length ≤ 140737488351232 := by
  rcases open_ints he hb hcb hf with ⟨hc, _⟩ | ⟨ia, il, ic, zs, hc, _, hil, him, hiz, hx, hicell, hiw⟩
  · simp [Value.cells] at hc
    obtain ⟨rfl, rfl, rfl⟩ := hc
    exact ⟨0, 0, [], ⟨none, 0, rfl, Nat.le_refl _, Nat.zero_le _, fun h => by simp at h, fun _ => rfl⟩, Lies.nil _ _ _, bytes_nil, by simp⟩
  · simp [Value.cells] at hc
    obtain ⟨rfl, rfl, rfl⟩ := hc
    simp only [if_true] at hiz
    obtain ⟨b, o, l, h1, h2, h3⟩ := isb_of_row (w := W) (a := some ia) (len := len0) (cap := cap0) (zs := zs) (.inr ⟨ia, rfl, hil, him, hiz, hicell, hiw⟩)
    refine ⟨b, o, l, h1, h2, h3, ?_⟩
    have hll : l.length = len0 := by
      obtain ⟨_, _, h4, _⟩ := h1
      injection h4 with _ h5 _
      exact h5.symm
    simp only [Prod.mk.injEq] at hx
    obtain ⟨rfl, _⟩ := hx
    have hwy := hsz ((zs.take len0).length + (zs.drop len0).length) (by simp [DataW.weights, he, hby, lits])
    rw [List.length_take, List.length_drop] at hwy
    unfold reachBytes at hwy
    omega
theorem open_slices {P : Program} {H : Type} {enc : TypeId × Value → H} {W : World} {fuel : Nat} {t e eb : TypeId} {a0 : Option Addr} {len0 cap0 : Nat} {d : DataW H} {p : List MemPlace}
    (ht : P.underlying t = some (.slice e)) (he : P.underlying e = some (.slice eb)) (hb : P.underlying eb = some (.int .u8)) (hce : P.cellsOf e = 1) (hcb : P.cellsOf eb = 1) (hby : P.bytesOf eb = 1)
    (hf : DataW.trod enc P W 0 (fun _ => true) true fuel t (Value.slice a0 len0 cap0).cells.toList = some (d, p)) (hsz : ∀ n ∈ d.weights P t, n ≤ reachBytes) : SlSl W (.slice a0 len0 cap0) len0 := by
  rcases DataW.trod_slice ht hf with ⟨hcs, _⟩ | ⟨a, len, cap, elems, rest, n, rfl, hcs, hx, _, hl, hm, hlen, hel, _, _⟩
  · simp [Value.cells] at hcs
    obtain ⟨rfl, rfl, rfl⟩ := hcs
    exact ⟨none, 0, rfl, fun h => by omega⟩
  · simp [Value.cells] at hcs
    obtain ⟨rfl, rfl, rfl⟩ := hcs
    simp only [Prod.mk.injEq] at hx
    obtain ⟨rfl, rfl⟩ := hx
    have each : ∀ i, i < len0 → ∃ c b o l, W.cell? (a.add i) = some c ∧ SlV c b o l.length ∧ Lies W b o l ∧ Bytes l ∧ l.length ≤ 140737488351232 := by
      intro i hi
      have hE := hel i hi
      obtain ⟨y, hy⟩ : ∃ y, elems[i]? = some y := ⟨_, List.getElem?_eq_getElem (by omega)⟩
      rw [hy, hce, Nat.mul_one] at hE
      simp only [Option.bind_eq_some_iff] at hE
      obtain ⟨cs1, hc1, hy1⟩ := hE
      obtain ⟨c, rfl, hcc⟩ := cells_one hc1
      have hw : ∀ n ∈ y.1.weights P e, n ≤ reachBytes := fun n hn => hsz n (by
        simp only [DataW.weights, ht, List.mem_cons, List.mem_append]
        exact .inr (.inl (weights_all (i := i) (d := y.1) (by rw [List.getElem?_map, hy]; rfl) n hn)))
      rcases open_ints he hb hcb hy1 with ⟨hc, _⟩ | ⟨ia, il, ic, zs, hc, _, hil, him, hiz, hx, hicell, hiw⟩
      · have : c = .slice none 0 0 := by simpa using hc
        subst this
        exact ⟨_, 0, 0, [], hcc, ⟨none, 0, rfl, Nat.le_refl _, Nat.zero_le _, fun h => by simp at h, fun _ => rfl⟩, Lies.nil _ _ _, bytes_nil, by simp⟩
      · have : c = .slice (some ia) il ic := by simpa using hc
        subst this
        simp only [if_true] at hiz
        obtain ⟨b, o, l, h1, h2, h3⟩ := isb_of_row (w := W) (a := some ia) (len := il) (cap := ic) (zs := zs) (.inr ⟨ia, rfl, hil, him, hiz, hicell, hiw⟩)
        refine ⟨_, b, o, l, hcc, h1, h2, h3, ?_⟩
        have hll : l.length = il := by
          obtain ⟨_, _, h4, _⟩ := h1
          injection h4 with _ h5 _
          exact h5.symm
        have hwy := hw ((zs.take il).length + (zs.drop il).length) (by
          rw [hx]
          simp [DataW.weights, he, hby, lits])
        rw [List.length_take, List.length_drop] at hwy
        unfold reachBytes at hwy
        omega
    refine ⟨some a, cap0, rfl, fun h0 => ?_⟩
    obtain ⟨b, off, spot⟩ := a
    obtain ⟨c, _, _, _, hc, _⟩ := each 0 h0
    have hs : spot = none := by simpa [Addr.add] using World.cell?_spot hc
    subst hs
    refine ⟨b, off, rfl, fun i hi => ?_⟩
    have h := each i hi
    rw [Addr.add_mid] at h
    exact h
end Go.Proofs.YtagdlbadkmgdmaaDoor
