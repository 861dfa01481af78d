/- SHA-256 of bytes: the plain functions and what a Hash holds. -/
import Derived.Test.YtagdlbadkmgdmaaDoorComp
import Derived.Laws.CopyOwn
namespace Go.Proofs.YtagdlbadkmgdmaaDoor
open Go.RowKit

def first8 : W8 := ⟨0x6a09e667#32, 0xbb67ae85#32, 0x3c6ef372#32, 0xa54ff53a#32, 0x510e527f#32, 0x9b05688c#32, 0x1f83d9ab#32, 0x5be0cd19#32⟩
/-- the words behind the first i blocks of bytes -/
def hashTo (l : List Int) : Nat → W8
  | 0 => first8
  | i + 1 => compF (hashTo l i) ((l.drop (64 * i)).take 64)
theorem hashTo_append (l m : List Int) : ∀ i, 64 * i ≤ l.length → hashTo (l ++ m) i = hashTo l i
  | 0, _ => rfl
  | i + 1, h => by
    rw [hashTo, hashTo, hashTo_append l m i (by omega), List.drop_append_of_le_length (by omega), List.take_append_of_le_length (by rw [List.length_drop]; omega)]
theorem getD_app (l m : List Int) (i : Nat) : (l ++ m).getD i 0 = if i < l.length then l.getD i 0 else m.getD (i - l.length) 0 := by
  simp only [List.getD_eq_getElem?_getD]
  split
  · rename_i h; rw [List.getElem?_append_left h]
  · rename_i h; rw [List.getElem?_append_right (by omega)]
theorem bytes_nil : Bytes [] := fun i => by simp
theorem bytes_app {l m : List Int} (hl : Bytes l) (hm : Bytes m) : Bytes (l ++ m) := fun i => by
  rw [getD_app]
  split
  · exact hl i
  · exact hm _
theorem bytes_take {l : List Int} (h : Bytes l) (n : Nat) : Bytes (l.take n) := fun i => by
  simp only [List.getD_eq_getElem?_getD, List.getElem?_take]
  split
  · have := h i; simpa only [List.getD_eq_getElem?_getD] using this
  · simp
theorem bytes_drop {l : List Int} (h : Bytes l) (n : Nat) : Bytes (l.drop n) := fun i => by
  simp only [List.getD_eq_getElem?_getD, List.getElem?_drop]
  have := h (n + i); simpa only [List.getD_eq_getElem?_getD] using this
theorem bytes_splice {l cs : List Int} (hl : Bytes l) (hc : Bytes cs) (n : Nat) : Bytes (splice l n cs) :=
  bytes_app (bytes_take hl n) (bytes_app hc (bytes_drop hl _))
theorem bytes_mem {l : List Int} (h : ∀ x ∈ l, 0 ≤ x ∧ x ≤ 255) : Bytes l := fun i => by
  by_cases hi : i < l.length
  · have := h _ (List.getElem_mem hi)
    simp [List.getD, hi]
    omega
  · simp [List.getD, List.getElem?_eq_none (show l.length ≤ i by omega)]
theorem bytes_zeros (n : Nat) : Bytes (List.replicate n 0) := bytes_mem fun x h => by
  rw [(List.mem_replicate.1 h).2]; omega
/-- what a Hash holds behind the bytes l: the words, and what isn't whole yet -/
structure St (l : List Int) (x : W8) (p : List Int) : Prop where
  words : x = hashTo l (l.length / 64)
  len : p.length = 64
  part : p.take (l.length % 64) = l.drop (64 * (l.length / 64))
  bytes : Bytes p
theorem St.nil : St [] first8 (List.replicate 64 0) := ⟨rfl, rfl, rfl, bytes_zeros 64⟩
theorem take_splice (p cs : List Int) (n : Nat) (hn : n ≤ p.length) : (splice p n cs).take (n + cs.length) = p.take n ++ cs := by
  unfold splice
  rw [← List.append_assoc, List.take_append_of_le_length (by simp; omega)]
  exact List.take_of_length_le (by simp; omega)
/-- more bytes, no whole block -/
theorem St.less {l : List Int} {x : W8} {p : List Int} (h : St l x p) (cs : List Int) (hb : Bytes cs) (hlt : l.length % 64 + cs.length < 64) : St (l ++ cs) x (splice p (l.length % 64) cs) := by
  have e1 : (l ++ cs).length / 64 = l.length / 64 := by rw [List.length_append]; omega
  have e2 : (l ++ cs).length % 64 = l.length % 64 + cs.length := by rw [List.length_append]; omega
  refine ⟨?_, ?_, ?_, bytes_splice h.bytes hb _⟩
  · rw [e1, hashTo_append _ _ _ (by omega)]; exact h.words
  · rw [length_splice _ _ _ (by rw [h.len]; omega)]; exact h.len
  · rw [e1, e2, take_splice _ _ _ (by rw [h.len]; omega), h.part, List.drop_append_of_le_length (by omega)]
/-- more bytes, a whole block -/
theorem St.full {l : List Int} {x : W8} {p : List Int} (h : St l x p) (cs : List Int) (hb : Bytes cs) (he : l.length % 64 + cs.length = 64) : St (l ++ cs) (compF x (splice p (l.length % 64) cs)) (splice p (l.length % 64) cs) := by
  have e1 : (l ++ cs).length / 64 = l.length / 64 + 1 := by rw [List.length_append]; omega
  have e2 : (l ++ cs).length % 64 = 0 := by rw [List.length_append]; omega
  have hl : (splice p (l.length % 64) cs).length = 64 := by rw [length_splice _ _ _ (by rw [h.len]; omega)]; exact h.len
  have e3 : splice p (l.length % 64) cs = l.drop (64 * (l.length / 64)) ++ cs := by
    rw [← h.part, ← take_splice _ _ _ (by rw [h.len]; omega), he]
    exact (List.take_of_length_le (by omega)).symm
  refine ⟨?_, hl, ?_, bytes_splice h.bytes hb _⟩
  · rw [e1, hashTo, hashTo_append _ _ _ (by omega), ← h.words, List.drop_append_of_le_length (by omega), ← e3]
    exact congrArg _ (List.take_of_length_le (by omega)).symm
  · rw [e2, e1, List.take_zero]
    exact (List.drop_eq_nil_of_le (by rw [List.length_append]; omega)).symm
/-- the eight bytes of a number of bits, the highest first -/
def tailB (n k : Nat) : Int := ((8 * n / 2 ^ (8 * (7 - k)) % 256 : Nat) : Int)
def tailF (n : Nat) : List Int := (List.range 8).map (tailB n)
def zerosN (n : Nat) : Nat := (119 - n % 64) % 64
/-- what stands behind n bytes -/
def padF (n : Nat) : List Int := 128 :: (List.replicate (zerosN n) 0 ++ tailF n)
theorem tailF_len (n : Nat) : (tailF n).length = 8 := by simp [tailF]
theorem padF_len (n : Nat) : (padF n).length = 9 + zerosN n := by simp [padF, tailF_len]; omega
theorem padF_whole (n : Nat) : (n + (padF n).length) % 64 = 0 := by rw [padF_len]; unfold zerosN; omega
theorem padF_le (n : Nat) : 9 ≤ (padF n).length ∧ (padF n).length ≤ 72 := by rw [padF_len]; unfold zerosN; omega
theorem tailB_byte (n k : Nat) : 0 ≤ tailB n k ∧ tailB n k ≤ 255 := by unfold tailB; omega
theorem tailF_bytes (n : Nat) : Bytes (tailF n) := bytes_mem fun x h => by
  obtain ⟨k, _, rfl⟩ := List.mem_map.1 h
  exact tailB_byte n k
theorem padF_bytes (n : Nat) : Bytes (padF n) := by
  have : padF n = [128] ++ (List.replicate (zerosN n) 0 ++ tailF n) := rfl
  rw [this]
  exact bytes_app (bytes_mem fun x h => by rw [List.mem_singleton.1 h]; omega) (bytes_app (bytes_zeros _) (tailF_bytes n))
/-- bytes, and what stands behind them -/
def padded (l : List Int) : List Int := l ++ padF l.length
theorem padded_len (l : List Int) : (padded l).length % 64 = 0 := by unfold padded; rw [List.length_append]; exact padF_whole _
/-- a word's byte, the highest first -/
def byteW (x : BitVec 32) (k : Nat) : Int := ((x.toNat / 2 ^ (8 * (3 - k)) % 256 : Nat) : Int)
/-- eight words as 32 bytes -/
def digF (h : W8) : List Int := (List.range 32).map fun j => byteW (h.list.getD (j / 4) 0) (j % 4)
theorem digF_len (h : W8) : (digF h).length = 32 := by simp [digF]
theorem digF_get (h : W8) (j : Nat) (hj : j < 32) : (digF h).getD j 0 = byteW (h.list.getD (j / 4) 0) (j % 4) := by
  simp [digF, hj]
theorem byteW_byte (x : BitVec 32) (k : Nat) : 0 ≤ byteW x k ∧ byteW x k ≤ 255 := by unfold byteW; omega
/-- bytes' digest -/
def sumF (l : List Int) : List Int := digF (hashTo (padded l) ((padded l).length / 64))
theorem sumF_len (l : List Int) : (sumF l).length = 32 := digF_len _
/-- 32 bytes, filled from the left -/
def fillTo (l : List Int) (m : Nat) : List Int := l.take m ++ List.replicate (l.length - m) 0
theorem fillTo_len (l : List Int) (m : Nat) (h : m ≤ l.length) : (fillTo l m).length = l.length := by simp [fillTo]; omega
theorem fillTo_zero (l : List Int) : fillTo l 0 = List.replicate l.length 0 := by simp [fillTo]
theorem fillTo_all (l : List Int) : fillTo l l.length = l := by simp [fillTo]
theorem fillTo_set (l : List Int) (m : Nat) (h : m < l.length) : (fillTo l m).set m (l.getD m 0) = fillTo l (m + 1) := by
  obtain ⟨d, hd⟩ : ∃ d, l.length - m = d + 1 := ⟨l.length - m - 1, by omega⟩
  have h2 : l.length - (m + 1) = d := by omega
  unfold fillTo
  rw [List.set_append_right _ _ (by rw [List.length_take]; omega), hd, h2, List.replicate_succ, List.length_take, Nat.min_eq_left (by omega), Nat.sub_self, List.set_cons_zero, List.take_add_one, List.append_assoc]
  simp [List.getD, h]
end Go.Proofs.YtagdlbadkmgdmaaDoor
