/- A Hash in memory by what was written to it; bindlelaw03's known and awake. -/
import Derived.Test.YtcijdceomgdakaaTold
import Derived.Test.YtcijdceomgdakaaKnown
import Derived.Test.YtcijdceomgdakaaEq
import Derived.Lib.SlBytesConst
namespace Go.Proofs.Ytcijdceomgdakaa
open Go.ChangeShapes Go.WideShapes Go.ChangeAt Go.RowKit

/-- at block g stands a Hash to which the bytes l were written -/
def HashAt (w : World) (g : Nat) (l : List Int) : Prop := ∃ x p, St l x p ∧ w.heap[g]? = some (.cells (hcells x p l.length).toArray 45 (0, 0))
theorem HashAt.lt {w : World} {g : Nat} {l : List Int} (h : HashAt w g l) : g < w.heap.size := by
  obtain ⟨x, p, _, h⟩ := h
  exact blk_lt h
theorem HashAt.below {w w' : World} {g : Nat} {l : List Int} (h : HashAt w g l) (hb : Below w.heap.size w w') : HashAt w' g l := by
  obtain ⟨x, p, hs, hg⟩ := h
  exact ⟨x, p, hs, (hb.block g (blk_lt hg)).trans hg⟩
theorem HashAt.alloc {w : World} {g : Nat} {l : List Int} (h : HashAt w g l) (o : Obj) : HashAt (w.alloc o) g l := h.below (below1 w o)
theorem HashAt.but {w w' : World} {g g' : Nat} {l : List Int} (h : HashAt w g l) (hb : But g' w w') (hn : g ≠ g') : HashAt w' g l := by
  obtain ⟨x, p, hs, hg⟩ := h
  exact ⟨x, p, hs, hb.blk hg hn⟩
theorem new_h (w : World) : Calls Try.prog 14 #[] w fun e w' => ∃ g, e = .returned (.pointer (some ⟨g, 0, none⟩)) ∧ w.heap.size ≤ g ∧ HashAt w' g [] ∧ Below w.heap.size w w' :=
  (new_any w).mono fun _ _ ⟨g, h1, h2, h3, h4⟩ => ⟨g, h1, h2, ⟨first8, List.replicate 64 0, St.nil, h3⟩, h4⟩
theorem write_h (l0 l : List Int) (hb : Bytes l) (hN : l0.length + l.length ≤ 1099511627776) (g b o : Nat) (hne : 0 < l.length → b ≠ g) (v : Value) (hv : SlV v b o l.length) (w : World) (hg : HashAt w g l0) (hl : Lies w b o l) :
    Calls Try.prog 15 #[.pointer (some ⟨g, 0, none⟩), v] w fun e w' => e = .returned (.tuple #[]) ∧ But g w w' ∧ HashAt w' g (l0 ++ l) := by
  obtain ⟨x, p, hs, hg⟩ := hg
  refine (write_any l0 l x p hs hb (by omega) g b o hne v hv w hg hl).mono fun _ _ ⟨h1, h2, x', p', h3, h4⟩ => ⟨h1, h2, x', p', h3, ?_⟩
  rw [List.length_append]
  exact h4
theorem told_h (l : List Int) (hn : l.length ≤ 1099511627776) (g : Nat) (w : World) (hg : HashAt w g l) :
    Calls Try.prog 16 #[.pointer (some ⟨g, 0, none⟩)] w fun e w' => e = .returned (.agg (row .u8 (sumF l))) ∧ Below w.heap.size w w' := by
  obtain ⟨x, p, hs, hg⟩ := hg
  exact told_any l x p hs hn g w hg
theorem len_h (l : List Int) (g : Nat) (w : World) (hg : HashAt w g l) :
    Calls Try.prog 17 #[.pointer (some ⟨g, 0, none⟩)] w fun e w' => e = .returned (.int .i64 (l.length : Int)) ∧ w = w' := by
  obtain ⟨x, p, hs, hg⟩ := hg
  exact len_any x p hs.len l.length g w hg
theorem slv_lit (g n : Nat) (h : n ≤ 1000000) : SlV (.slice (some ⟨g, 0, none⟩) n n) g 0 n := ⟨_, n, rfl, Nat.le_refl _, by unfold maxLen; omega, fun _ => rfl, fun h => by cases h⟩
theorem lies_lit (w : World) (l : List Int) (t : TypeId) (fr : Nat × Nat) : Lies (w.alloc (.cells (row .u8 l) t fr)) w.heap.size 0 l := Lies.of_row (heap_alloc_new w _)
def abcR : Array Value := row .u8 abcD
theorem eql_abc (w : World) : (binOp .eql 25 (.agg abcR) (.agg abcR)).run Try.prog w = .ok (.bool true) w := by kernel_rfl
theorem known_any (w : World) : Calls Try.prog 20 #[] w fun e w' => e = .returned (.agg abcR) ∧ Below w.heap.size w w' := by
  have ha := zero_dig
  go_enter Try.func20, Try.ntmps20
  go_wp2_with (first
    | (refine wpList_buildTo rfl 25 _ rfl (some 1) rfl abcR (by kernel_rfl) ?_)
    | (refine wpList_store_rowTo rfl 25 _ _ rfl rfl _ abcR rfl rfl 25 zb32 (heap_alloc_new _ _) (by kernel_rfl) (by kernel_rfl) (by kernel_rfl) ?_; rw [World.setRow_alloc_new]))
  exact bodyPost_ret (results_cell_row (p := 0) (by kernel_rfl) _ _ _ _ _ _ _ rfl (heap_alloc_new _ _) Try.underlying25 rfl (by kernel_rfl)) rfl ⟨rfl, (Below.refl _ _).alloc (Nat.le_refl _) _⟩
theorem bytes_lt {l : List Int} (h : l.all (fun x => decide (0 ≤ x ∧ x ≤ 255)) = true) : Bytes l := bytes_mem fun x hx => by simpa using (List.all_eq_true.1 h) x hx
set_option maxHeartbeats 400000 in
theorem awake3_any (w : World) : Calls Try.prog 9 #[] w fun e w' => e = .returned (.bool true) ∧ Below w.heap.size w w' := by
  have he := eql_abc
  have hcv := fun (w : World) (C : Array Value) (n c : Nat) => Lib.run_convert_bytes_const (P := Try.prog) w 22 5 C n c Try.underlying22 Try.underlying5
  have hr : row .u8 (sumF [97, 98, 99]) = abcR := by rw [sum_abc]; rfl
  have HR := Lib.hid hr
  clear hr
  generalize hR : abcR = R at *
  have HAR := Lib.hid hR
  clear hR
  go_enter Try.func9, Try.ntmps9
  go_wp2_with fail
  refine (new_h _).mono ?_
  rintro e w1 ⟨g, rfl, hg1, hg2, b1⟩
  have H1 := Lib.hid (And.intro hg1 (And.intro hg2 b1))
  clear hg1 hg2 b1
  go_wp2_with fail
  refine (write_h [] [97] (bytes_lt rfl) (by simp) g w1.heap.size 0 (fun _ => by have := H1.out.2.1.lt; omega) _ (slv_lit _ 1 (by omega)) _ (H1.out.2.1.alloc _) (lies_lit _ [97] _ _)).mono ?_
  rintro e w2 ⟨rfl, hb, hh⟩
  have H2 := Lib.hid (And.intro hh (hb.below w.heap.size w H1.out.1 (by rw [size_new]; have := H1.out.2.2.size; omega) (H1.out.2.2.alloc H1.out.2.2.size _)))
  clear hb hh
  go_wp2_with fail
  refine (write_h [97] [98, 99] (bytes_lt rfl) (by simp) g w2.heap.size 0 (fun _ => by have := H2.out.1.lt; omega) _ (slv_lit _ 2 (by omega)) _ (H2.out.1.alloc _) (lies_lit _ [98, 99] _ _)).mono ?_
  rintro e w3 ⟨rfl, hb, hh⟩
  have H3 := Lib.hid (And.intro hh (hb.below w.heap.size w H1.out.1 (by rw [size_new]; have := H2.out.2.size; omega) (H2.out.2.alloc H2.out.2.size _)))
  clear hb hh
  go_wp2_with fail
  refine (sum_any [97, 98, 99] (bytes_lt rfl) (by simp) w3.heap.size 0 _ (slv_lit _ 3 (by omega)) _ (lies_lit _ [97, 98, 99] _ _)).mono ?_
  rintro e w4 ⟨rfl, b4⟩
  rw [HR.out]
  have H4 := Lib.hid (And.intro ((H3.out.1.alloc (.cells (row .u8 [97, 98, 99]) 5 (3, 4))).below b4) (BC_below (H3.out.2.alloc H3.out.2.size _) (by rw [size_new]; have := H3.out.2.size; omega) b4))
  clear b4
  go_wp2_with fail
  have hka := known_any
  have HKA := Lib.hid hka
  clear hka
  refine (HKA.out _).mono ?_
  rintro e w5 ⟨rfl, b5⟩
  rw [HAR.out]
  have H5 := Lib.hid (And.intro (H4.out.1.below b5) (BC_below H4.out.2 H4.out.2.size b5))
  clear b5 H4
  go_wp2_with fail
  refine (told_h [97, 98, 99] (by simp) g _ H5.out.1).mono ?_
  rintro e w6 ⟨rfl, b6⟩
  rw [HR.out]
  have H6 := Lib.hid (And.intro (H5.out.1.below b6) (BC_below H5.out.2 H5.out.2.size b6))
  clear b6 H5
  go_wp2_with fail
  refine (HKA.out _).mono ?_
  rintro e w7 ⟨rfl, b7⟩
  rw [HAR.out]
  have H7 := Lib.hid (And.intro (H6.out.1.below b7) (BC_below H6.out.2 H6.out.2.size b7))
  clear b7 H6
  go_wp2_with fail
  refine (len_h [97, 98, 99] g _ H7.out.1).mono ?_
  rintro e w8 ⟨rfl, rfl⟩
  go_wp2_with fail
  go_ret
  exact ⟨rfl, H7.out.2⟩
end Go.Proofs.Ytcijdceomgdakaa
