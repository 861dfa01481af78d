/- What the law's awake comes to, plain. -/
import Derived.Test.YtjnimbhecfpnmaaParts
import Derived.Test.YtjnimbhecfpnmaaAdd
import Derived.Test.YtjnimbhecfpnmaaWhole
namespace Go.Proofs.Ytjnimbhecfpnmaa
set_option maxRecDepth 100000
open Go.ChangeShapes Go.WideShapes Go.ChangeAt Go.RowKit

theorem cmpB_self : ∀ l : List Int, cmpB l l = 0
  | [] => rfl
  | a :: l => by rw [cmpB, if_neg (by omega), if_neg (by omega)]; exact cmpB_self l
theorem cmpI_self (a : Int) : cmpI a a = 0 := by unfold cmpI; rw [if_neg (by omega), if_neg (by omega)]
def abc : List Int := [97, 98, 99]
theorem abc_bytes : Bytes abc := bytes_mem fun x h => by simp [abc] at h; omega
def apt (D : List Int) (a : Int) (l : List Int) : Pt := ⟨D, 3, a, l⟩
theorem parts_abc : partsF abc 2 = [apt (sumF abc) 0 [97, 98], apt (sumF abc) 2 [99]] := by
  have e : chunksN abc.length 2 = 2 := by decide
  unfold partsF
  rw [e]
  rfl
section
variable (D : List Int)
theorem add_one : addL [] (apt D 2 [99]) = ([apt D 2 [99]], 0) := by
  unfold addL
  rw [if_neg (by simp [mayB, apt]), if_neg (by simp), if_neg (by simp)]
  rfl
theorem cmp_ab : cmpPt (apt D 0 [97, 98]) (apt D 2 [99]) = -1 := by
  show orF [cmpB D D, cmpI 3 3, cmpI 0 2, cmpB [97, 98] [99]] = -1
  rw [cmpB_self]
  rfl
theorem cmp_ba : cmpPt (apt D 2 [99]) (apt D 0 [97, 98]) = 1 := by
  show orF [cmpB D D, cmpI 3 3, cmpI 2 0, cmpB [99] [97, 98]] = 1
  rw [cmpB_self]
  rfl
theorem add_two : addL [apt D 2 [99]] (apt D 0 [97, 98]) = ([apt D 0 [97, 98], apt D 2 [99]], 0) := by
  unfold addL
  rw [if_neg (by simp [mayB, apt]), if_neg (by simp [cmp_ab]), if_neg (by simp)]
  have e : placeF [apt D 2 [99]] (apt D 0 [97, 98]) = 0 := by simp [placeF, cmp_ba, List.findIdx_cons]
  rw [e]
  rfl
theorem laid_one : laidF [apt D 2 [99]] D 3 = [none, none, some 99] := by
  show laidN [apt D 2 [99]] D 3 1 = _
  simp only [laidN, List.getElem?_cons_zero, apt]
  rw [if_pos ⟨trivial, rfl⟩]
  rfl
theorem laid_two : laidF [apt D 0 [97, 98], apt D 2 [99]] D 3 = [some 97, some 98, some 99] := by
  show laidN [apt D 0 [97, 98], apt D 2 [99]] D 3 2 = _
  simp only [laidN, List.getElem?_cons_zero, List.getElem?_cons_succ, apt]
  rw [if_pos ⟨trivial, rfl⟩, if_pos ⟨trivial, rfl⟩]
  rfl
theorem whole_one : wholeF [apt D 2 [99]] D = none := by
  unfold wholeF
  rw [Option.map_eq_none_iff, List.find?_eq_none]
  intro p hp
  rw [List.mem_singleton.1 hp]
  have : goodW [apt D 2 [99]] D (apt D 2 [99]).sz.toNat = false := good_false (by show 0 < lackF (laidF _ _ 3); rw [laid_one]; decide)
  rw [this]
  simp
theorem miss_one : missF [apt D 2 [99]] D 3 = 2 := by
  unfold missF
  rw [if_pos (by decide)]
  show (lackF (laidF [apt D 2 [99]] D 3) : Int) = 2
  rw [laid_one]
  rfl
end
theorem whole_two : wholeF [apt (sumF abc) 0 [97, 98], apt (sumF abc) 2 [99]] (sumF abc) = some abc := by
  have hg : goodW [apt (sumF abc) 0 [97, 98], apt (sumF abc) 2 [99]] (sumF abc) 3 = true := by
    rw [good_zero (by rw [laid_two]; rfl), laid_two]
    exact decide_eq_true rfl
  have hm : mayS (apt (sumF abc) 0 [97, 98]).sz = true := by decide
  unfold wholeF
  rw [List.find?_cons_of_pos (by rw [hm]; show (decide (sumF abc = sumF abc) && (true && goodW _ (sumF abc) 3)) = true; rw [hg]; simp)]
  show some (outL (laidF _ (sumF abc) 3)) = some abc
  rw [laid_two]
  rfl
end Go.Proofs.Ytjnimbhecfpnmaa
