/- The walk of bindlelaw18.awake. -/
import Derived.Test.YtjnimbhecfpnmaaSplit
import Derived.Test.YtjnimbhecfpnmaaPartMath
import Derived.Laws.MakeOwn
namespace Go.Proofs.Ytjnimbhecfpnmaa
set_option maxRecDepth 100000
open Go.ChangeShapes Go.WideShapes Go.ChangeAt Go.RowKit

theorem run_make_rowN {P : Program} (t e : TypeId) (i : TypeInfo) (z : Value) (ht : P.underlying t = some (.slice e)) (hi : P.info? e = some i) (hz : i.zero = some z)
    (kl kc : IntKind) (n c : Nat) (hnc : n ≤ c) (hbytes : i.bytes * c ≤ 281474976710656) (h63 : c ≤ 9223372036854775807) (w : World) :
    (Instr.makeSlice t (.int kl (n : Int)) (.int kc (c : Int))).run P w = .ok (.slice (some ⟨w.heap.size, 0, none⟩) n c) (w.alloc (.cells (madeCells z.cells (c * i.size)) e)) := by
  have hb : (i.bytes : Int) * (c : Int) ≤ 281474976710656 := by
    have h : ((i.bytes * c : Nat) : Int) ≤ 281474976710656 := by omega
    rwa [Int.natCast_mul] at h
  have hr := run_make (P := P) w t e i z ht hi hz kl kc n c (by omega) (by omega) hb (by omega)
  simp only [Int.toNat_natCast] at hr
  exact hr
theorem made_row (k : IntKind) (n : Nat) : madeCells (Value.int k 0).cells n = row k (List.replicate n 0) := by
  have h0 : (Value.int k 0).cells = #[.int k 0] := rfl
  unfold madeCells row
  rw [h0]
  apply Array.ext
  · simp
  · intro j h1 h2
    have hj : j < n := by simpa using h1
    simp [Nat.mod_one]
/-- make([]byte, n) -/
theorem make_bytes (n : Nat) (hn : n ≤ 1000000) (w : World) : (Instr.makeSlice 24 (.int .i64 (n : Int)) (.int .i64 (n : Int))).run Try.prog w = .ok (.slice (some ⟨w.heap.size, 0, none⟩) n n) (w.alloc (.cells (row .u8 (List.replicate n 0)) 5)) := by
  obtain ⟨i, hi, hz0, hz1, hz2⟩ := info_parts info_byte
  have h := run_make_rowN (P := Try.prog) 24 5 i (.int .u8 0) Try.underlying24 hi hz0 .i64 .i64 n n (Nat.le_refl _) (by rw [hz2]; omega) (by omega) w
  rw [h, hz1, Nat.mul_one, made_row]
theorem Own.form {base : Nat} {w : World} {v : Value} {l : List Int} (h : Own base w v l) : ∃ a cap, v = .slice a l.length cap := by
  obtain ⟨g, s, _⟩ := h.slv
  obtain ⟨a, cap, rfl, _⟩ := s
  exact ⟨a, cap, rfl⟩
def z5 : List Int := List.replicate 5000 0
theorem z5_bytes : Bytes z5 := bytes_mem fun x h => by have := (List.mem_replicate.1 h).2; omega
theorem z5_len : z5.length = 5000 := List.length_replicate ..
theorem sz5 : szP 4096 z5.length = 4016 := by rw [z5_len]; decide
theorem ch5 : chunksN z5.length 4016 = 2 := by rw [z5_len]; decide
theorem split5 : splitF z5 4016 = [encF (sumF z5) 5000 0 (pieceF z5 4016 0), encF (sumF z5) 5000 4016 (pieceF z5 4016 1)] := by
  unfold splitF
  rw [ch5, z5_len]
  rfl
theorem pl0 : (pieceF z5 4016 0).length = 4016 := by rw [pieceF_len, z5_len]; decide
theorem pl1 : (pieceF z5 4016 1).length = 984 := by rw [pieceF_len, z5_len]; decide
attribute [local irreducible] SlV Lies
attribute [local go_sem] takes comesTo
set_option maxHeartbeats 400000 in
theorem awake18_any (w : World) : Calls Try.prog 14 #[] w fun e w' => e = .returned (.bool true) ∧ Below w.heap.size w w' := by
  have hmk : ∀ w, (Instr.makeSlice 24 (.int .i64 5000) (.int .i64 5000)).run Try.prog w = .ok (.slice (some ⟨w.heap.size, 0, none⟩) 5000 5000) (w.alloc (.cells (row .u8 z5) 5)) := fun w => make_bytes 5000 (by decide) w
  have hb0 := below1 w (.cells (row .u8 z5) 5)
  have hl0 : Lies (w.alloc (.cells (row .u8 z5) 5)) w.heap.size 0 z5 := Lies.of_row (heap_alloc_new w _)
  have hs := split_main w.heap.size 0 (.slice (some ⟨w.heap.size, 0, none⟩) 5000 5000) z5 4096 (by decide) (by rw [z5_len]; decide) (by rw [z5_len]; decide) z5_bytes (by rw [z5_len]; exact slv_all _ 5000 (by decide)) _ hl0
  rw [sz5, split5] at hs
  have h0 : (encF (sumF z5) 5000 0 (pieceF z5 4016 0)).length = 4096 := by rw [encF_len (sumF_len _), pl0]
  have h1 : (encF (sumF z5) 5000 4016 (pieceF z5 4016 1)).length = 1064 := by rw [encF_len (sumF_len _), pl1]
  have hm : mayB 5000 4016 (pieceF z5 4016 1).length = true := by rw [pl1]; decide
  have he := errF_enc (sumF_len z5) hm
  obtain ⟨d1, d2, d3, d4⟩ := dec_enc (sumF_len z5) hm
  have hd := dWh_len (encF (sumF z5) 5000 4016 (pieceF z5 4016 1))
  rw [d1] at hd
  have hbE : Bytes (encF (sumF z5) 5000 4016 (pieceF z5 4016 1)) := encF_bytes (sumF_bytes _) (bytes_take (bytes_drop z5_bytes _) _) _ _
  have hpl := pl1
  generalize encF (sumF z5) 5000 0 (pieceF z5 4016 0) = E0 at *
  generalize encF (sumF z5) 5000 4016 (pieceF z5 4016 1) = E1 at *
  generalize pieceF z5 4016 1 = P1 at *
  generalize sumF z5 = D at *
  generalize row .u8 z5 = Z at *
  have HS := Lib.hid (And.intro hs hb0)
  have HE := Lib.hid (And.intro h0 (And.intro h1 (And.intro he (And.intro d1 (And.intro d2 (And.intro d3 (And.intro d4 (And.intro hbE (And.intro hpl hd)))))))))
  clear hs hb0 h0 h1 he d1 d2 d3 d4 hbE hpl hl0 hm hd
  have hz := zero_part
  go_enter Try.func14, Try.ntmps14
  go_wp2_with fail
  refine HS.out.1.mono ?_
  rintro e w2 ⟨v2, rfl, own2, b2⟩
  obtain ⟨a2, c2, rfl, _, hcell⟩ := own2.form
  obtain ⟨g2, x0, rfl, _, q0, o0⟩ := hcell 0 (by simp)
  obtain ⟨g2', x1, e2, _, q1, o1⟩ := hcell 1 (by simp)
  injection e2 with e2
  injection e2 with e2
  subst e2
  replace o0 : Own _ w2 x0 E0 := o0
  replace o1 : Own _ w2 x1 E1 := o1
  obtain ⟨a0, c0, rfl⟩ := o0.form
  obtain ⟨g1, s1, l1, _⟩ := o1.slv
  rw [HE.out.1] at q0
  have H2 := Lib.hid (And.intro (BC_below HS.out.2 HS.out.2.size b2) (And.intro s1 (And.intro l1 q0)))
  clear hcell o0 o1 s1 l1 own2 b2 hmk
  have i1 : (1 : Int) < 2 := by decide
  go_wp2_with fail
  refine (decode_any g1 0 x1 E1 HE.out.2.2.2.2.2.2.2.1 (by rw [HE.out.2.1]; decide) H2.out.2.1 w2 H2.out.2.2.1).mono ?_
  rintro e w3 ⟨v3, rfl, own3, b3⟩
  obtain ⟨a3, c3, rfl⟩ := own3.form
  rw [HE.out.2.2.1, HE.out.2.2.2.1, HE.out.2.2.2.2.1, HE.out.2.2.2.2.2.1, HE.out.2.2.2.2.2.2.1, HE.out.2.2.2.2.2.2.2.2.1]
  have k0 := pcells_size HE.out.2.2.2.2.2.2.2.2.2 5000 4016 (.slice a3 984 c3)
  have k1 := pcells_at HE.out.2.2.2.2.2.2.2.2.2 5000 4016 (.slice a3 984 c3)
  have k2 := pcells_data HE.out.2.2.2.2.2.2.2.2.2 5000 4016 (.slice a3 984 c3)
  have HZ := Lib.hid (pcells_sz HE.out.2.2.2.2.2.2.2.2.2 5000 4016 (.slice a3 984 c3))
  have HO := Lib.hid (pcells_one D 5000 4016 (.slice a3 984 c3) rfl)
  generalize (pcells D 5000 4016 (.slice a3 984 c3)).toArray = C at *
  have q03 := (b3.cell (block_lt_of_cell H2.out.2.2.2)).trans H2.out.2.2.2
  have r0 := (b3.cell (block_lt_of_cell q0)).trans q0
  have c0' : (w3.alloc (.cells C 26)).cell? ⟨w3.heap.size, 32, none⟩ = some (.int .i64 5000) := (cell_new _ _ _ _).trans k0
  have c1' : (w3.alloc (.cells C 26)).cell? ⟨w3.heap.size, 33, none⟩ = some (.int .i64 4016) := (cell_new _ _ _ _).trans k1
  have c2' : (w3.alloc (.cells C 26)).cell? ⟨w3.heap.size, 34, none⟩ = some (.slice a3 984 c3) := (cell_new _ _ _ _).trans k2
  have c3' := later (below1 w3 (.cells C 26)) r0
  have H3 := Lib.hid ((BC_below H2.out.1 H2.out.1.size b3).alloc (BC_below H2.out.1 H2.out.1.size b3).size (.cells C 26))
  clear k0 k1 k2 q03 r0 q0 q1 b3 own3
  have hmn : manyF 5000 4096 = 2 := by decide
  have HMN := Lib.hid (many_any 5000 4096)
  rw [hmn] at HMN
  clear hmn
  go_wp2_with (refine wpList_store_rowTo rfl 26 _ _ rfl rfl _ C rfl rfl 26 zpart (heap_alloc_new w3 _) (by rw [HZ.out]; kernel_rfl) (by rw [HZ.out]; kernel_rfl) HO.out ?_; rw [World.setRow_alloc_new])
  refine (HMN.out _).mono ?_
  rintro e w4 ⟨rfl, rfl⟩
  go_wp2_with fail
  go_ret
  exact ⟨rfl, H3.out⟩
end Go.Proofs.Ytjnimbhecfpnmaa
