/- The walk of sha.Pad. -/
import Derived.Test.YtagdlbadkmgdmaaDoorGrow
namespace Go.Proofs.YtagdlbadkmgdmaaDoor
set_option maxRecDepth 100000
open Go.ChangeShapes Go.WideShapes Go.ChangeAt Go.RowKit

theorem lies_one (w : World) (T : Int) (t : TypeId) : Lies (w.alloc (.cells #[.int .u8 T] t)) w.heap.size 0 [T] := Lies.of_row (l := [T]) (heap_alloc_new w _)
theorem slv_one (g : Nat) : SlV (.slice (some ⟨g, 0, none⟩) 1 1) g 0 1 := ⟨_, 1, rfl, Nat.le_refl _, by unfold maxLen; omega, fun _ => rfl, fun h => by cases h⟩
theorem own_block {base : Nat} {w : World} {v : Value} {l : List Int} (h : Own base w v l) (k : Nat) (hk : v.ownBlock = some k) : base ≤ k := (World.ownsRow.lt h k hk).1
theorem pad_out (n : Int) (hn : n < 0 ∨ 1099511627776 < n) (w : World) : Calls Tryd.prog 73 #[.int .i64 n] w fun e w' => e = .returned (.slice none 0 0) ∧ w = w' := by
  rcases hn with hn | hn
  · go_enter Tryd.func73, Tryd.ntmps73
    go_wp2_with fail
    go_ret
    exact ⟨rfl, rfl⟩
  · have h0 : ¬ n < 0 := by omega
    go_enter Tryd.func73, Tryd.ntmps73
    go_wp2_with fail
    go_ret
    exact ⟨rfl, rfl⟩
def headF (n : Nat) : List Int := 128 :: List.replicate (zerosN n) 0
theorem headF_len (n : Nat) : (headF n).length = 1 + zerosN n := by simp [headF]; omega
theorem padF_head (n : Nat) : padF n = headF n ++ (tailF n).take 8 := by
  rw [List.take_of_length_le (by rw [tailF_len]; omega)]
  rfl
theorem tailF_take (n j : Nat) (hj : j < 8) : (tailF n).take (j + 1) = (tailF n).take j ++ [tailB n j] := by
  rw [List.take_add_one]
  congr 1
  simp [tailF, hj]
theorem shr_i64 (m d : Nat) (P : Program) (w : World) (yk : IntKind) (hd : d < 64) : (Op.shift .shr .i64 (m : Int) yk (d : Int)).run P w = .ok (.int .i64 ((m / 2 ^ d : Nat) : Int)) w := by
  have h : ¬ ((d : Int) < 0) := by omega
  have e : ((m : Int)).fdiv (2 ^ min (d : Int).toNat 64) = ((m / 2 ^ d : Nat) : Int) := by
    rw [Int.toNat_natCast, Nat.min_eq_left (by omega), Int.fdiv_eq_ediv_of_nonneg _ (Int.pow_nonneg (by omega))]
    have e2 : ((2 : Int) ^ d) = ((2 ^ d : Nat) : Int) := by simp
    rw [e2, div_cast]
  simp only [Op.shift, h, if_false, IntKind.bits]
  rw [e]
  simp [go_sem]
theorem own_head (n z : Nat) (hz : z = zerosN n) (hzl : z < 64) {w : World} {g base : Nat} (hb : base ≤ g) (hg : w.heap[g]? = some (.cells ((madeCells #[.int .u8 0] (1 + z)).setIfInBounds 0 (.int .u8 128)) 5 (0, 0))) :
    Own base w (.slice (some ⟨g, 0, none⟩) (1 + z) (1 + z)) (headF n) := by
  have h := Own.of_row (l := headF n) (cap := 1 + z) hb hg (by unfold maxLen; omega) (by simp [size_madeCells]) (by rw [headF_len, hz]; exact Nat.le_refl _) (by
    rw [Array.toList_setIfInBounds, toList_madeCells_one, headF_len, ← hz, List.take_of_length_le (by simp), Nat.add_comm, List.replicate_succ, List.set_cons_zero]
    unfold headF
    rw [← hz]
    simp)
  rwa [headF_len, ← hz] at h
theorem below_tail (n j : Nat) (_ : j < 8) : ((8 * n / 2 ^ (8 * (7 - j)) : Nat) : Int) % 256 = tailB n j := by
  unfold tailB
  omega
attribute [local go_sem] takes comesTo
set_option maxHeartbeats 400000 in
theorem pad_in (n : Nat) (hn : n ≤ 1099511627776) (w : World) : Calls Tryd.prog 73 #[.int .i64 (n : Int)] w fun e w' => ∃ v, e = .returned v ∧ Own w.heap.size w' v (padF n) ∧ Below w.heap.size w w' := by
  have HN := Lib.hid hn
  obtain ⟨i0, hi, hz0, hz1, hz2⟩ := info_parts info_byte
  have HI := Lib.hid (And.intro hi (And.intro hz0 (And.intro hz1 hz2)))
  have hn0 : ¬ (n : Int) < 0 := by omega
  obtain ⟨r, hr⟩ : ∃ r, r = n % 64 := ⟨_, rfl⟩
  obtain ⟨z, hz⟩ : ∃ z, z = zerosN n := ⟨_, rfl⟩
  have hrem : (n : Int) % 64 = (r : Int) := by omega
  have hsub : IntKind.i64.wrap (119 - (r : Int)) = 119 - (r : Int) := by rw [IntKind.wrap_i64]; omega
  have hzz : (119 - (r : Int)) % 64 = (z : Int) := by unfold zerosN at hz; omega
  have hpos : 0 ≤ 119 - (r : Int) := by omega
  have hz64 : z < 64 := by unfold zerosN at hz; omega
  have hwz : IntKind.i64.wrap (1 + (z : Int)) = ((1 + z : Nat) : Int) := by rw [IntKind.wrap_i64]; omega
  have HZ := Lib.hid hz
  have HZ64 := Lib.hid hz64
  clear hr hz hz64
  clear hn hi hz0 hz1 hz2
  go_enter Tryd.func73, Tryd.ntmps73
  generalize hL : (1099511627776 : Int) = L
  have hL2 : ¬ L < (n : Int) := by have := HN.out; omega
  have HL := Lib.hid hL
  clear hL
  go_wp2_with (first
    | (refine wpList_make_row w rfl _ _ 57 rfl 5 i0 (.int .u8 0) Tryd.underlying57 HI.out.1 HI.out.2.1 HI.out.2.2.1 rfl .i64 .i64 (1 + z) (by rfl) (by rfl) (by rw [HI.out.2.2.2]; have := HZ64.out; omega) (by have := HZ64.out; omega) ?_)
    | (refine wl_store_int rfl 5 _ _ rfl rfl w.heap.size 0 .u8 128 rfl rfl (by kernel_rfl) (heap_alloc_new _ _) (by rw [size_madeCells]; omega) ?_
       intro W1 g1 g2 g3
       have HW := Lib.hid (And.intro (own_head n z HZ.out HZ64.out (Nat.le_refl w.heap.size) g1) (g3 w.heap.size w (Nat.le_refl _) (below1 w _)))
       clear g1 g2 g3))
  go_loopw [4, 5] (fun v i wr => ∃ j : Nat, j ≤ 8 ∧ i = .int .i64 (7 - (j : Int)) ∧ Own w.heap.size wr v (headF n ++ (tailF n).take j) ∧ Below w.heap.size w wr) (fun _ i _ => (intOf i + 1).toNat)
  case atStart => exact ⟨0, by omega, rfl, by rw [List.take_zero, List.append_nil]; exact HW.out.1, HW.out.2⟩
  case round =>
    clear HW
    obtain ⟨j, hj, rfl, hown, hbe⟩ := hrel
    have HO := Lib.hid (And.intro hown hbe)
    have HJ := Lib.hid hj
    clear hown hbe hrem hsub hzz hpos hwz hL2
    by_cases hlt : j < 8
    · obtain ⟨M, hM⟩ : ∃ M, M = 8 * n := ⟨_, rfl⟩
      obtain ⟨D, hD⟩ : ∃ D, D = 8 * (7 - j) := ⟨_, rfl⟩
      obtain ⟨E, hE⟩ : ∃ E : Int, E = 7 - (j : Int) := ⟨_, rfl⟩
      obtain ⟨Qn, hQ⟩ : ∃ Q, Q = M / 2 ^ D := ⟨_, rfl⟩
      have s1 : IntKind.i64.wrap (8 * (n : Int)) = (M : Int) := by have := HN.out; rw [IntKind.wrap_i64]; omega
      have s2 : IntKind.i64.wrap (8 * E) = (D : Int) := by rw [IntKind.wrap_i64]; omega
      have s3 : IntKind.u64.wrap (D : Int) = (D : Int) := by simp only [IntKind.wrap, IntKind.bits, IntKind.signed]; simp; omega
      have s4 : (M : Int) / 2 ^ min D 64 = (Qn : Int) := by
        have e2 : ((2 : Int) ^ D) = ((2 ^ D : Nat) : Int) := by simp
        rw [hQ, Nat.min_eq_left (by omega), e2, div_cast]
      have s5 : (Qn : Int) % 256 = tailB n j := by rw [hQ, hM, hD]; exact below_tail n j hlt
      have s6 : IntKind.i64.wrap (E - 1) = E - 1 := by rw [IntKind.wrap_i64]; omega
      have s7 : 0 ≤ E := by omega
      have hE2 := Lib.hid hE
      have HLT := Lib.hid hlt
      rw [← hE]
      clear hM hD hQ hE hlt hj
      generalize hT : tailB n j = T at *
      have HT := Lib.hid hT
      clear hT
      go_wp2_with ((at_builtin; refine wl_append_b rfl _ _ rfl w.heap.size _ _ rfl (HO.out.1.below (below1 wr _)) _ rfl wr.heap.size 0 [T] (slv_one _) (lies_one _ _ _) (by rw [List.length_append, headF_len, List.length_take, ← HZ.out]; have := HZ64.out; have := HJ.out; simp; omega) (by rw [size_new]; have := HO.out.2.size; omega) ?_; intro v' w1 hown' hgrow hat))
      have hj := HLT.out
      have he := hE2.out
      refine ⟨⟨j + 1, by omega, by congr 1; omega, ?_, ?_⟩, ?_⟩
      · rw [tailF_take n j hj, ← List.append_assoc, HT.out]
        exact hown'
      · exact (HO.out.2.alloc HO.out.2.size _).grown hgrow (by rw [size_new]; have := HO.out.2.size; omega) (fun k hk => own_block HO.out.1 k hk)
      · simp [intOf]; omega
    · obtain rfl : j = 8 := by omega
      go_wp2_with fail
      go_ret
      exact ⟨_, rfl, by rw [padF_head]; exact HO.out.1, HO.out.2⟩
end Go.Proofs.YtagdlbadkmgdmaaDoor
