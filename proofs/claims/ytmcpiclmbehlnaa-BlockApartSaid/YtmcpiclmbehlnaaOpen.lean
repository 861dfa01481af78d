/- Arguments that are arrays of numbers by value, opened. -/
import Derived.Test.YtmcpiclmbehlnaaArr
import Derived.OpenShut
namespace Go.Proofs.Ytmcpiclmbehlnaa
open Go.RowKit

/-- an array of numbers by value, opened -/
theorem open_row {P : Program} {H : Type} {enc : TypeId × Value → H} {w : World} {base b0 n : Nat} {spare : Nat → Bool} {held : Bool} {r : Reach} {t e : TypeId} {k : IntKind} {v : Value} {d : DataW H} {p : List MemPlace}
    (ht : P.underlying t = some (.array n e)) (he : P.underlying e = some (.int k)) (hC : P.cellsOf t = n) (hCe : P.cellsOf e = 1)
    (hv : Value.okWide P w r b0 t v) (h : DataW.Trod enc P w base spare held t v d p) :
    ∃ l : List Int, v = .agg (row k l) ∧ l.length = n ∧ ∀ x ∈ l, (Lit.int k x).wf = true := by
  unfold Value.okWide at hv
  rw [ht] at hv
  obtain ⟨cs, rfl, hsz, _⟩ := hv
  obtain ⟨fuel, hf⟩ := h
  obtain ⟨xs, m, _, _, _, hl, hg⟩ := DataW.trod_array ht hf
  have hn : cs.size = n := hsz.trans hC
  have hc : ∀ i, i < n → ∃ z, cs[i]? = some (.int k z) ∧ (Lit.int k z).wf = true := by
    intro i hi
    have h1 := hg i hi
    have hx : xs[i]? = some xs[i] := List.getElem?_eq_getElem (by omega)
    rw [hx, hCe, Nat.mul_one] at h1
    have h2 : (((Value.agg cs).cells.toList.drop i).take 1) = [cs[i]] := by
      have : i < cs.toList.length := by simp; omega
      rw [show (Value.agg cs).cells = cs from rfl, List.drop_eq_getElem_cons this]
      simp
    rw [h2] at h1
    obtain ⟨a, h3, _, h4⟩ := DataW.trod_int he h1
    refine ⟨a, ?_, h4⟩
    rw [Array.getElem?_eq_getElem (by omega)]
    simpa using h3
  refine ⟨cs.toList.map intOf, ?_, by simp [hn], ?_⟩
  · congr 1
    apply Array.ext
    · simp [row]
    · intro i h1 h2
      obtain ⟨z, hz, _⟩ := hc i (by omega)
      rw [Array.getElem?_eq_getElem h1] at hz
      have hz' : cs[i] = .int k z := by simpa using hz
      simp [row, hz', intOf]
  · intro x hx
    obtain ⟨v, hv, rfl⟩ := List.mem_map.1 hx
    obtain ⟨i, hi, rfl⟩ := List.getElem_of_mem hv
    have hi' : i < cs.size := by simpa using hi
    obtain ⟨z, hz, hw⟩ := hc i (by omega)
    rw [Array.getElem?_eq_getElem hi'] at hz
    have hz' : cs[i] = .int k z := by simpa using hz
    have : cs.toList[i] = .int k z := by simpa using hz'
    rw [this]
    exact hw
theorem U_list {l : List Int} (h : ∀ x ∈ l, (Lit.int .u32 x).wf = true) : ∃ ws : List (BitVec 32), l = ws.map U := by
  induction l with
  | nil => exact ⟨[], rfl⟩
  | cons a l ih =>
    obtain ⟨ws, hw⟩ := ih (fun x hx => h x (List.mem_cons_of_mem _ hx))
    obtain ⟨x, hx⟩ := U_of (h a List.mem_cons_self)
    exact ⟨x :: ws, by rw [hw, hx]; rfl⟩
end Go.Proofs.Ytmcpiclmbehlnaa
