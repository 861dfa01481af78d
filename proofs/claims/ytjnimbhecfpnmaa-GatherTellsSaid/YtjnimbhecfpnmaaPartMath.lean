/- What is encoded is decoded as it was; what is decoded is encoded as it stood. -/
import Derived.Test.YtjnimbhecfpnmaaDecode
namespace Go.Proofs.Ytjnimbhecfpnmaa
open Go.ChangeShapes Go.WideShapes Go.ChangeAt Go.RowKit

theorem ptold_four (n : Int) (h0 : 0 ≤ n) (h1 : n ≤ 2147483647) (r : List Int) : ptoldF (fourF n ++ r) = n := by
  unfold ptoldF fourF
  simp only [List.cons_append, List.getD_cons_zero, List.getD_cons_succ]
  omega
theorem inL_enc (wh : List Int) (size at' : Int) (l : List Int) : inL (encF wh size at' l) = bodyF wh size at' l := by
  unfold inL encF
  rw [List.length_append, sumF_len, Nat.add_sub_cancel, List.take_left']
  rfl
theorem endL_enc (wh : List Int) (size at' : Int) (l : List Int) : endL (encF wh size at' l) = sumF (bodyF wh size at' l) := by
  unfold endL encF
  rw [List.length_append, sumF_len, Nat.add_sub_cancel, List.drop_left']
  rfl
theorem body_eq (wh : List Int) (size at' : Int) (l : List Int) : bodyF wh size at' l = magicF ++ (wh ++ (fourF size ++ (fourF at' ++ (fourF (l.length : Int) ++ l)))) := by
  unfold bodyF pheadF
  simp only [List.append_assoc]
theorem whF_body {wh : List Int} (hw : wh.length = 32) (size at' : Int) (l : List Int) : whF (bodyF wh size at' l) = wh := by
  unfold whF
  rw [body_eq, show (4 : Nat) = magicF.length from rfl, List.drop_left, ← hw, List.take_left]
theorem drop36 {wh : List Int} (hw : wh.length = 32) (size at' : Int) (l : List Int) : (bodyF wh size at' l).drop 36 = fourF size ++ (fourF at' ++ (fourF (l.length : Int) ++ l)) := by
  rw [body_eq, ← List.append_assoc, show (36 : Nat) = (magicF ++ wh).length by simp [magicF, hw], List.drop_left]
theorem drop40 {wh : List Int} (hw : wh.length = 32) (size at' : Int) (l : List Int) : (bodyF wh size at' l).drop 40 = fourF at' ++ (fourF (l.length : Int) ++ l) := by
  rw [show (40 : Nat) = 36 + 4 from rfl, ← List.drop_drop, drop36 hw, show (4 : Nat) = (fourF size).length from rfl, List.drop_left]
theorem drop48 {wh : List Int} (hw : wh.length = 32) (size at' : Int) (l : List Int) : (bodyF wh size at' l).drop 48 = l := by
  rw [show (48 : Nat) = 40 + 4 + 4 from rfl, ← List.drop_drop, ← List.drop_drop, drop40 hw, show (4 : Nat) = (fourF at').length from rfl, List.drop_left, show (fourF at').length = (fourF (l.length : Int)).length from rfl, List.drop_left]
theorem szF_body {wh : List Int} (hw : wh.length = 32) (size at' : Int) (l : List Int) (h0 : 0 ≤ size) (h1 : size ≤ 2147483647) : szF (bodyF wh size at' l) = size := by
  unfold szF; rw [drop36 hw, ptold_four _ h0 h1]
theorem atF_body {wh : List Int} (hw : wh.length = 32) (size at' : Int) (l : List Int) (h0 : 0 ≤ at') (h1 : at' ≤ 2147483647) : atF (bodyF wh size at' l) = at' := by
  unfold atF; rw [drop40 hw, ptold_four _ h0 h1]
theorem daF_body {wh : List Int} (hw : wh.length = 32) (size at' : Int) (l : List Int) : daF (bodyF wh size at' l) = l := drop48 hw size at' l
/-- what is encoded is decoded -/
theorem errF_enc {wh : List Int} (hw : wh.length = 32) {size at' : Int} {l : List Int} (hm : mayB size at' l.length = true) : errF (encF wh size at' l) = 0 := by
  obtain ⟨m1, m2, m3, m4, m5⟩ := mayB_in hm
  unfold errF
  rw [encF_len hw, if_neg (by omega), inL_enc, endL_enc, if_neg (by simp), whF_body hw, szF_body hw _ _ _ (by omega) (by omega), atF_body hw _ _ _ m4 (by omega), daF_body hw, if_pos ⟨hm, rfl⟩]
theorem dec_enc {wh : List Int} (hw : wh.length = 32) {size at' : Int} {l : List Int} (hm : mayB size at' l.length = true) :
    dWh (encF wh size at' l) = wh ∧ dSz (encF wh size at' l) = size ∧ dAt (encF wh size at' l) = at' ∧ dDa (encF wh size at' l) = l := by
  have he := errF_enc hw hm
  obtain ⟨m1, m2, m3, m4, m5⟩ := mayB_in hm
  unfold dWh dSz dAt dDa
  rw [if_pos he, if_pos he, if_pos he, if_pos he, inL_enc, whF_body hw, szF_body hw _ _ _ (by omega) (by omega), atF_body hw _ _ _ m4 (by omega), daF_body hw]
  exact ⟨rfl, rfl, rfl, rfl⟩
/-- what is decoded may be, and is encoded as it stood -/
theorem enc_dec {l : List Int} (h : errF l = 0) : mayB (dSz l) (dAt l) (dDa l).length = true ∧ encF (dWh l) (dSz l) (dAt l) (dDa l) = l ∧ (dWh l).length = 32 ∧ 81 ≤ l.length := by
  unfold dWh dSz dAt dDa
  rw [if_pos h, if_pos h, if_pos h, if_pos h]
  unfold errF at h
  by_cases h1 : l.length ≤ 80
  · rw [if_pos h1] at h; cases h
  · rw [if_neg h1] at h
    by_cases h2 : sumF (inL l) ≠ endL l
    · rw [if_pos h2] at h; cases h
    · rw [if_neg h2] at h
      by_cases h3 : mayB (szF (inL l)) (atF (inL l)) (daF (inL l)).length = true ∧ encF (whF (inL l)) (szF (inL l)) (atF (inL l)) (daF (inL l)) = l
      · refine ⟨h3.1, h3.2, ?_, by omega⟩
        unfold whF inL
        rw [List.length_take, List.length_drop, List.length_take]
        omega
      · rw [if_neg h3] at h; cases h
theorem errF_ne {l : List Int} (h : errF l ≠ 0) : dDa l = [] := by
  unfold dDa; rw [if_neg h]
theorem dWh_len (l : List Int) : (dWh l).length = 32 := by
  by_cases h : errF l = 0
  · exact (enc_dec h).2.2.1
  · unfold dWh; rw [if_neg h]; rfl
theorem dWh_bytes {l : List Int} (hb : Bytes l) : Bytes (dWh l) := by
  unfold dWh
  split
  · exact bytes_take (bytes_drop (bytes_take hb _) _) _
  · exact bytes_mem fun x h => by have := (List.mem_replicate.1 h).2; omega
theorem dDa_bytes {l : List Int} (hb : Bytes l) : Bytes (dDa l) := by
  unfold dDa
  split
  · exact bytes_drop (bytes_take hb _) _
  · exact bytes_nil
theorem dDa_len (l : List Int) : (dDa l).length ≤ l.length := by
  unfold dDa
  split
  · unfold daF inL; rw [List.length_drop, List.length_take]; omega
  · simp
theorem err_range (l : List Int) : 0 ≤ errF l ∧ errF l ≤ 4 := by
  unfold errF
  split
  · decide
  · split
    · decide
    · split <;> decide
end Go.Proofs.Ytjnimbhecfpnmaa
