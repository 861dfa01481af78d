/- Slices of bytes that come in. -/
import Derived.Test.YtagdlbadkmgdmaaDoorHash
import Derived.OpenShut
namespace Go.Proofs.YtagdlbadkmgdmaaDoor
open Go.ChangeShapes Go.WideShapes Go.ChangeAt Go.RowKit

/-- a slice of numbers that came in: nil, or a row of cap cells -/
def IsRow (k : IntKind) (w : World) (a : Option Addr) (len cap : Nat) (zs : List Int) : Prop :=
  (a = none ∧ len = 0 ∧ cap = 0 ∧ zs = []) ∨
  ∃ x, a = some x ∧ len ≤ cap ∧ cap ≤ maxLen ∧ zs.length = cap ∧ (∀ i, i < zs.length → w.cell? (x.add i) = some (.int k (zs.getD i 0))) ∧ ∀ n ∈ zs, (Lit.int k n).wf = true
theorem isb_of_row {w : World} {a : Option Addr} {len cap : Nat} {zs : List Int} (h : IsRow .u8 w a len cap zs) : ∃ b o l, SlV (.slice a len cap) b o l.length ∧ Lies w b o l ∧ Bytes l := by
  rcases h with ⟨rfl, rfl, rfl, rfl⟩ | ⟨x, rfl, hl, hm, hz, hcell, hwz⟩
  · exact ⟨0, 0, [], ⟨none, 0, rfl, Nat.le_refl _, Nat.zero_le _, fun h => by simp at h, fun _ => rfl⟩, Lies.nil _ _ _, fun i => by simp⟩
  · obtain ⟨b, off, spot⟩ := x
    have hlen : (zs.take len).length = len := by rw [List.length_take]; omega
    have hsp : 0 < len → spot = none := fun h0 => by simpa [Addr.add] using World.cell?_spot (hcell 0 (by omega))
    refine ⟨b, off, zs.take len, ⟨_, cap, by rw [hlen], by omega, hm, fun h0 => ?_, fun h0 => by cases h0⟩, fun j hj => ?_, bytes_take (bytes_mem fun x hx => ?_) len⟩
    · rw [hsp (by omega)]
    · rw [hlen] at hj
      have h2 := hcell j (by omega)
      rw [hsp (by omega), Addr.add_mid] at h2
      rw [h2]
      simp [List.getD, List.getElem?_take_of_lt hj]
    · have := hwz x hx
      simp [Lit.wf, IntKind.min, IntKind.max, IntKind.signed, IntKind.bits] at this
      omega
end Go.Proofs.YtagdlbadkmgdmaaDoor
