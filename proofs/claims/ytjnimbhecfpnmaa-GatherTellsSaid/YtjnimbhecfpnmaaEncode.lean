/- The walk of part.Encode. -/
import Derived.Test.YtjnimbhecfpnmaaToldN
import Derived.Lib.SlBytesConst
namespace Go.Proofs.Ytjnimbhecfpnmaa
set_option maxRecDepth 100000
open Go.ChangeShapes Go.WideShapes Go.ChangeAt Go.RowKit

def magicF : List Int := [98, 110, 100, 108]
/-- a part's bytes ahead of its data -/
def pheadF (wh : List Int) (size at' : Int) (n : Nat) : List Int := magicF ++ wh ++ fourF size ++ fourF at' ++ fourF (n : Int)
def bodyF (wh : List Int) (size at' : Int) (l : List Int) : List Int := pheadF wh size at' l.length ++ l
/-- a part's bytes -/
def encF (wh : List Int) (size at' : Int) (l : List Int) : List Int := bodyF wh size at' l ++ sumF (bodyF wh size at' l)
theorem pheadF_len {wh : List Int} (hw : wh.length = 32) (size at' : Int) (n : Nat) : (pheadF wh size at' n).length = 48 := by simp [pheadF, magicF, fourF, hw]
theorem bodyF_len {wh : List Int} (hw : wh.length = 32) (size at' : Int) (l : List Int) : (bodyF wh size at' l).length = 48 + l.length := by unfold bodyF; rw [List.length_append, pheadF_len hw]
theorem encF_len {wh : List Int} (hw : wh.length = 32) (size at' : Int) (l : List Int) : (encF wh size at' l).length = 80 + l.length := by unfold encF; rw [List.length_append, bodyF_len hw, sumF_len]; omega
theorem magicF_bytes : Bytes magicF := bytes_mem fun x h => by
  simp [magicF] at h
  omega
theorem pheadF_bytes {wh : List Int} (hb : Bytes wh) (size at' : Int) (n : Nat) : Bytes (pheadF wh size at' n) :=
  bytes_app (bytes_app (bytes_app (bytes_app magicF_bytes hb) (fourF_bytes _)) (fourF_bytes _)) (fourF_bytes _)
theorem bodyF_bytes {wh l : List Int} (hb : Bytes wh) (hl : Bytes l) (size at' : Int) : Bytes (bodyF wh size at' l) := bytes_app (pheadF_bytes hb _ _ _) hl
theorem sumF_bytes (l : List Int) : Bytes (sumF l) := bytes_mem fun x h => by
  unfold sumF digF at h
  obtain ⟨j, _, rfl⟩ := List.mem_map.1 h
  exact byteW_byte _ _
theorem encF_bytes {wh l : List Int} (hb : Bytes wh) (hl : Bytes l) (size at' : Int) : Bytes (encF wh size at' l) := bytes_app (bodyF_bytes hb hl _ _) (sumF_bytes _)
theorem pcells_sz {wh : List Int} (h : wh.length = 32) (size at' : Int) (v : Value) : (pcells wh size at' v).toArray.size = 35 := by rw [List.size_toArray, pcells_len h]
theorem lies_whole {wh : List Int} {size at' : Int} {v : Value} {w : World} {g : Nat} {t : TypeId} (hg : w.heap[g]? = some (.cells (pcells wh size at' v).toArray t (0, 0))) : Lies w g 0 wh := fun j hj => by
  refine cell_row hg (0 + j) ?_
  rw [Nat.zero_add, List.getElem?_toArray]
  unfold pcells
  rw [List.getElem?_append_left (by simpa using hj), List.getElem?_map, List.getElem?_eq_getElem hj]
  simp [List.getD, hj]
theorem mayB_in {size at' : Int} {n : Nat} (h : mayB size at' n = true) : 1 ≤ size ∧ size ≤ 4194304 ∧ 1 ≤ n ∧ 0 ≤ at' ∧ at' ≤ size - n := by
  unfold mayB at h
  rw [decide_eq_true_eq] at h
  omega
theorem Own.mono {base base' : Nat} {w : World} {v : Value} {l : List Int} (h : Own base w v l) (hb : base' ≤ base) : Own base' w v l := by
  obtain ⟨h1, h2 | ⟨g, cap, cur, rfl, h3, rest⟩⟩ := h
  · exact ⟨h1, .inl h2⟩
  · exact ⟨h1, .inr ⟨g, cap, cur, rfl, Nat.le_trans hb h3, rest⟩⟩
/-- block g holds o, and isn't v's -/
def Keep (g : Nat) (o : Obj) (w : World) (v : Value) : Prop := w.heap[g]? = some o ∧ v.ownBlock ≠ some g
theorem Keep.grew {g : Nat} {o : Obj} {w w' : World} {v v' : Value} (h : Keep g o w v) (k : Grew w w' v v') : Keep g o w' v' := by
  refine ⟨k.blk h.1 (fun e => h.2 e.symm), fun e => ?_⟩
  rcases k.own g e with h1 | h1
  · exact h.2 h1
  · have := blk_lt h.1
    omega
theorem Keep.below {g : Nat} {o : Obj} {w w' : World} {v : Value} (h : Keep g o w v) (k : Below w.heap.size w w') : Keep g o w' v := ⟨(k.block g (blk_lt h.1)).trans h.1, h.2⟩
theorem keep_base {g : Nat} {o : Obj} {w : World} {base : Nat} {v : Value} {l : List Int} (hg : w.heap[g]? = some o) (h : Own base w v l) (hb : g < base) : Keep g o w v := ⟨hg, fun e => by have := own_block h g e; omega⟩
theorem keep_new {w w' : World} {base : Nat} {v : Value} {l : List Int} (h : Own base w v l) {o : Obj} (hg : w'.heap[w.heap.size]? = some o) : Keep w.heap.size o w' v := ⟨hg, fun e => by have := (World.ownsRow.lt h _ e).2; omega⟩
theorem below_grew {B : Nat} {w0 w w' : World} {v v' : Value} {base : Nat} {l : List Int} (h : Below B w0 w) (k : Grew w w' v v') (ho : Own base w v l) (hb : B ≤ base) (hs : B ≤ w.heap.size) : Below B w0 w' :=
  k.below B w0 hs (fun i hi => Nat.le_trans hb (own_block ho i hi)) h
/-- the world of the two slices that Concat gets -/
theorem two_prep (w w1 : World) (C : Array Value) (hC : w1.heap[w.heap.size]? = some (.cells C 26)) (hb : Below w.heap.size w w1) (m : List Int) (v1 v2 : Value) (fr : Nat × Nat) (t : TypeId) :
    ∃ W, W = ((w1.alloc (.cells (row .u8 m) 5 fr)).alloc (.cells #[v1, v2] t)) ∧ W.heap[w.heap.size]? = some (.cells C 26) ∧ Below w.heap.size w W ∧ Lies W w1.heap.size 0 m ∧ W.cell? ⟨w1.heap.size + 1, 0, none⟩ = some v1 ∧ W.cell? ⟨w1.heap.size + 1, 1, none⟩ = some v2 ∧ w1.heap.size < W.heap.size := by
  have hs : (w1.alloc (.cells (row .u8 m) 5 fr)).heap.size = w1.heap.size + 1 := size_new _ _
  refine ⟨_, rfl, blk_old (blk_old hC _) _, ?_, ?_, ?_, ?_, ?_⟩
  · exact (hb.alloc hb.size _).alloc (by rw [hs]; have := hb.size; omega) _
  · exact (Lies.of_row (heap_alloc_new w1 (.cells (row .u8 m) 5 fr))).below (below1 _ _)
  · rw [← hs]; exact (cell_new _ _ _ _).trans rfl
  · rw [← hs]; exact (cell_new _ _ _ _).trans rfl
  · rw [size_new, hs]; omega
theorem slv_all (g n : Nat) (h : n ≤ 1000000) : SlV (.slice (some ⟨g, 0, none⟩) n n) g 0 n := ⟨_, n, rfl, Nat.le_refl _, by unfold maxLen; omega, fun _ => rfl, fun h => by cases h⟩
attribute [local go_sem] takes comesTo
attribute [local irreducible] SlV Lies
theorem encode_no (wh : List Int) (hw : wh.length = 32) (size at' : Int) (v : Value) (b o n : Nat) (hv : SlV v b o n) (hm : mayB size at' n = false) (w : World) :
    Calls Try.prog 15 #[.agg (pcells wh size at' v).toArray] w fun e w' => e = .returned (.tuple #[.slice none 0 0, .int .i64 1]) ∧ Below w.heap.size w w' := by
  obtain ⟨a, cap, rfl, h1, h2, _⟩ := by unfold SlV at hv; exact hv
  have H := may_any wh hw size at' a n cap (by omega)
  rw [hm] at H
  have HS := Lib.hid (pcells_sz hw size at' (.slice a n cap))
  generalize (pcells wh size at' (.slice a n cap)).toArray = C at *
  have HM := Lib.hid H
  clear H h1 h2 hv
  have HB := Lib.hid (And.intro (heap_alloc_new w (.cells C 26)) (below1 w (.cells C 26)))
  go_enter Try.func15, Try.ntmps15
  go_wp2_with (refine wpList_load_row rfl 26 _ rfl _ rfl _ C _ _ HB.out.1 Try.underlying26 rfl (by rw [HS.out]; kernel_rfl) ?_)
  refine (HM.out _).mono ?_
  rintro e w1 ⟨rfl, b1⟩
  have HW := Lib.hid (BC_below HB.out.2 HB.out.2.size b1)
  clear b1
  go_wp2_with fail
  go_ret2
  exact ⟨rfl, HW.out⟩
set_option maxHeartbeats 400000 in
theorem encode_yes (wh : List Int) (hw : wh.length = 32) (hwb : Bytes wh) (size at' : Int) (v : Value) (b o : Nat) (l : List Int) (hlb : Bytes l) (hn : l.length ≤ 500000) (hv : SlV v b o l.length) (hm : mayB size at' l.length = true) (w : World) (hl : Lies w b o l) :
    Calls Try.prog 15 #[.agg (pcells wh size at' v).toArray] w fun e w' => ∃ v', e = .returned (.tuple #[v', .int .i64 0]) ∧ Own w.heap.size w' v' (encF wh size at' l) ∧ Below w.heap.size w w' := by
  have ha := zero_dig
  have kc := fun (w : World) (C : Array Value) (n c : Nat) => Lib.run_convert_bytes_const (P := Try.prog) w 24 5 C n c Try.underlying24 Try.underlying5
  have HV := Lib.hid hv
  obtain ⟨a, cap, rfl, h1, h2, _⟩ := by unfold SlV at hv; exact hv
  have H := may_any wh hw size at' a l.length cap (by omega)
  rw [hm] at H
  obtain ⟨m1, m2, m3, m4, m5⟩ := mayB_in hm
  have hs1 : size ≤ 2147483647 := by omega
  have hs2 : at' ≤ 2147483647 := by omega
  have HS := Lib.hid (pcells_sz hw size at' (.slice a l.length cap))
  have HK := Lib.hid (And.intro (pcells_size hw size at' (.slice a l.length cap)) (And.intro (pcells_at hw size at' (.slice a l.length cap)) (pcells_data hw size at' (.slice a l.length cap))))
  have HL := Lib.hid (And.intro hlb (And.intro hn (And.intro hl (And.intro hw hwb))))
  have HLI : Hid (∀ (w : World) (g : Nat), w.heap[g]? = some (.cells (pcells wh size at' (.slice a l.length cap)).toArray 26 (0, 0)) → Lies w g 0 wh) := Lib.hid (fun w g h => lies_whole h)
  generalize (pcells wh size at' (.slice a l.length cap)).toArray = C at *
  have HM := Lib.hid H
  have HI := Lib.hid (And.intro m1 (And.intro hs1 (And.intro m4 hs2)))
  clear H h1 h2 hv hlb hn hl hw hwb m1 m2 m3 m4 m5 hs1 hs2 hm
  have HB := Lib.hid (And.intro (heap_alloc_new w (.cells C 26)) (below1 w (.cells C 26)))
  go_enter Try.func15, Try.ntmps15
  go_wp2_with (refine wpList_load_row rfl 26 _ rfl _ rfl _ C _ _ HB.out.1 Try.underlying26 rfl (by rw [HS.out]; kernel_rfl) ?_)
  refine (HM.out _).mono ?_
  rintro e w1 ⟨rfl, b1⟩
  have HW := Lib.hid (And.intro (b1.block _ (by rw [size_new]; omega) |>.trans HB.out.1) (BC_below HB.out.2 HB.out.2.size b1))
  clear b1 HB
  go_wp2_with fail
  obtain ⟨W3, hW3, p1, p2, p3, p4, p5, p6⟩ := two_prep w w1 C HW.out.1 HW.out.2 magicF (.slice (some ⟨w1.heap.size, 0, none⟩) 4 4) (.slice (some ⟨w.heap.size, 0, none⟩) 32 32) (4, 5) 24
  have hW4 : ((w1.alloc (.cells #[.int .u8 98, .int .u8 110, .int .u8 100, .int .u8 108] 5 (4, 5))).alloc (.cells #[.slice (some ⟨w1.heap.size, 0, none⟩) 4 4, .slice (some ⟨w.heap.size, 0, none⟩) 32 32] 24)) = W3 := hW3.symm
  rw [hW4]
  clear hW4 hW3
  have hlt : w.heap.size < w1.heap.size := blk_lt HW.out.1
  have H3 := Lib.hid (And.intro p1 (And.intro p2 (And.intro p3 (And.intro p4 (And.intro p5 (And.intro p6 hlt))))))
  clear p1 p2 p3 p4 p5 p6 hlt
  refine (concat_two (w1.heap.size + 1) w1.heap.size 0 w.heap.size 0 _ _ magicF wh (by have := HL.out.2.2.2.1; simp [magicF]; omega) (by have := HL.out.2.2.2.1; simp [magicF]; omega) W3 H3.out.2.2.2.1 H3.out.2.2.2.2.1 (slv_all _ 4 (by decide)) H3.out.2.2.1 (by rw [HL.out.2.2.2.1]; exact slv_all _ 32 (by decide)) (HLI.out W3 _ H3.out.1)).mono ?_
  rintro e w4 ⟨v4, rfl, own4, b4⟩
  have H4 := Lib.hid (And.intro own4 (And.intro (BC_below H3.out.2.1 H3.out.2.1.size b4) (And.intro (keep_base ((b4.block _ (by have := H3.out.2.2.2.2.2; omega)).trans H3.out.1) own4 (by have := H3.out.2.2.2.2.2; omega)) b4.size)))
  have c1 : w4.cell? ⟨w.heap.size, 32, none⟩ = some (.int .i64 size) := cell_row H4.out.2.2.1.1 32 HK.out.1
  have c2 : w4.cell? ⟨w.heap.size, 33, none⟩ = some (.int .i64 at') := cell_row H4.out.2.2.1.1 33 HK.out.2.1
  have c3 : w4.cell? ⟨w.heap.size, 34, none⟩ = some (.slice a l.length cap) := cell_row H4.out.2.2.1.1 34 HK.out.2.2
  clear own4 b4
  go_wp2_with fail
  have c4 := heap_alloc_new w4 (.cells #[.int .i64 size, .int .i64 at', .int .i64 (l.length : Int)] 3)
  have b5 := below1 w4 (.cells #[.int .i64 size, .int .i64 at', .int .i64 (l.length : Int)] 3)
  generalize w4.alloc (.cells #[.int .i64 size, .int .i64 at', .int .i64 (l.length : Int)] 3) = w5 at *
  have I5 := Lib.hid (And.intro (H4.out.1.below b5) (And.intro (H4.out.2.2.1.below b5) (And.intro (keep_new H4.out.1 c4) (And.intro (BC_below H4.out.2.1 H4.out.2.1.size b5) (Nat.le_trans H4.out.2.2.2 b5.size)))))
  clear c1 c2 c3 b5
  try clear c4
  clear H4
  generalize w4.heap.size = g4 at I5 ⊢
  generalize v4 = v5 at I5 ⊢
  have d0 : w5.cell? ⟨g4, 0, none⟩ = some (.int .i64 size) := cell_row I5.out.2.2.1.1 0 rfl
  have d1 : w5.cell? ⟨g4, 1, none⟩ = some (.int .i64 at') := cell_row I5.out.2.2.1.1 1 rfl
  have d2 : w5.cell? ⟨g4, 2, none⟩ = some (.int .i64 (l.length : Int)) := cell_row I5.out.2.2.1.1 2 rfl
  refine wp_loop_rounds 4 ?_
  rw [rounds_succ]
  go_wp2_with fail
  refine (number_any size (by have := HI.out; omega) HI.out.2.1 W3.heap.size (magicF ++ wh) (by have := HL.out.2.2.2.1; have := HL.out.2.1; simp [magicF]; omega) v5 w5 (by have := I5.out.2.2.2.2; omega) I5.out.1).mono ?_
  rintro e w6 ⟨v6, rfl, own6, grew6⟩
  have I6 := Lib.hid (And.intro own6 (And.intro (I5.out.2.1.grew grew6) (And.intro (I5.out.2.2.1.grew grew6) (And.intro (below_grew I5.out.2.2.2.1 grew6 I5.out.1 (by have := H3.out.2.2.2.2.2; omega) (I5.out.2.2.2.1.size)) (Nat.le_trans I5.out.2.2.2.2 grew6.size)))))
  clear own6 grew6 d0 d1 d2
  have d0 : w6.cell? ⟨g4, 0, none⟩ = some (.int .i64 size) := cell_row I6.out.2.2.1.1 0 rfl
  have d1 : w6.cell? ⟨g4, 1, none⟩ = some (.int .i64 at') := cell_row I6.out.2.2.1.1 1 rfl
  have d2 : w6.cell? ⟨g4, 2, none⟩ = some (.int .i64 (l.length : Int)) := cell_row I6.out.2.2.1.1 2 rfl
  go_wp2_with fail
  rw [rounds_succ]
  go_wp2_with fail
  refine (number_any at' HI.out.2.2.1 HI.out.2.2.2 W3.heap.size (magicF ++ wh ++ fourF size) (by have := HL.out.2.2.2.1; have := HL.out.2.1; simp [magicF, fourF]; omega) v6 w6 (by have := I6.out.2.2.2.2; omega) I6.out.1).mono ?_
  rintro e w7 ⟨v7, rfl, own7, grew7⟩
  have I7 := Lib.hid (And.intro own7 (And.intro (I6.out.2.1.grew grew7) (And.intro (I6.out.2.2.1.grew grew7) (And.intro (below_grew I6.out.2.2.2.1 grew7 I6.out.1 (by have := H3.out.2.2.2.2.2; omega) (I6.out.2.2.2.1.size)) (Nat.le_trans I6.out.2.2.2.2 grew7.size)))))
  clear own7 grew7 d0 d1 d2
  have d0 : w7.cell? ⟨g4, 0, none⟩ = some (.int .i64 size) := cell_row I7.out.2.2.1.1 0 rfl
  have d1 : w7.cell? ⟨g4, 1, none⟩ = some (.int .i64 at') := cell_row I7.out.2.2.1.1 1 rfl
  have d2 : w7.cell? ⟨g4, 2, none⟩ = some (.int .i64 (l.length : Int)) := cell_row I7.out.2.2.1.1 2 rfl
  go_wp2_with fail
  rw [rounds_succ]
  go_wp2_with fail
  refine (number_any (l.length : Int) (by omega) (by have := HL.out.2.1; omega) W3.heap.size (magicF ++ wh ++ fourF size ++ fourF at') (by have := HL.out.2.2.2.1; have := HL.out.2.1; simp [magicF, fourF]; omega) v7 w7 (by have := I7.out.2.2.2.2; omega) I7.out.1).mono ?_
  rintro e w8 ⟨v8, rfl, own8, grew8⟩
  have I8 := Lib.hid (And.intro own8 (And.intro (I7.out.2.1.grew grew8) (And.intro (I7.out.2.2.1.grew grew8) (And.intro (below_grew I7.out.2.2.2.1 grew8 I7.out.1 (by have := H3.out.2.2.2.2.2; omega) (I7.out.2.2.2.1.size)) (Nat.le_trans I7.out.2.2.2.2 grew8.size)))))
  clear own8 grew8 d0 d1 d2
  have d0 : w8.cell? ⟨g4, 0, none⟩ = some (.int .i64 size) := cell_row I8.out.2.2.1.1 0 rfl
  have d1 : w8.cell? ⟨g4, 1, none⟩ = some (.int .i64 at') := cell_row I8.out.2.2.1.1 1 rfl
  have d2 : w8.cell? ⟨g4, 2, none⟩ = some (.int .i64 (l.length : Int)) := cell_row I8.out.2.2.1.1 2 rfl
  go_wp2_with fail
  clear d0 d1 d2
  have c3 : w8.cell? ⟨w.heap.size, 34, none⟩ = some (.slice a l.length cap) := cell_row I8.out.2.1.1 34 HK.out.2.2
  rw [rounds_succ]
  go_wp2_with ((at_builtin; refine wl_append_b rfl _ _ rfl W3.heap.size _ _ rfl I8.out.1 _ rfl b o l HV.out (HL.out.2.2.1.below' I8.out.2.2.2.1) (by have := HL.out.2.2.2.1; have := HL.out.2.1; simp [magicF, fourF]; omega) I8.out.2.2.2.2 ?_; intro v9 w9 own9 grown9 at9))
  have g9 : Grew w8 w9 v8 v9 := Grew.of_grown grown9 at9
  have o9 : Own W3.heap.size w9 v9 (bodyF wh size at' l) := own9
  have J9 := Lib.hid (And.intro o9 (And.intro (below_grew I8.out.2.2.2.1 g9 I8.out.1 (by have := H3.out.2.2.2.2.2; omega) I8.out.2.2.2.1.size) (Nat.le_trans I8.out.2.2.2.2 g9.size)))
  clear own9 grown9 at9 g9 o9 c3
  obtain ⟨gb, s9, l9, _⟩ := J9.out.1.slv
  refine (sum_any (bodyF wh size at' l) (bodyF_bytes HL.out.2.2.2.2 HL.out.1 _ _) (by rw [bodyF_len HL.out.2.2.2.1]; have := HL.out.2.1; omega) gb 0 v9 s9 w9 l9).mono ?_
  rintro e w10 ⟨rfl, b10⟩
  have hsz : (row .u8 (sumF (bodyF wh size at' l))).size = 32 := by rw [row_size, sumF_len]
  have HSZ := Lib.hid hsz
  have HONE : Hid ((row .u8 (sumF (bodyF wh size at' l))).all (·.oneCell') = true) := Lib.hid (row_one _ _)
  have K10 := Lib.hid (And.intro (J9.out.1.below b10) (And.intro (BC_below J9.out.2.1 J9.out.2.1.size b10) (Nat.le_trans J9.out.2.2 b10.size)))
  clear b10 s9 l9 hsz
  have DL : Hid (Lies (w10.alloc (.cells (row .u8 (sumF (bodyF wh size at' l))) 23)) w10.heap.size 0 (sumF (bodyF wh size at' l))) := Lib.hid (Lies.of_row (heap_alloc_new w10 _))
  have DB : Hid (Below w10.heap.size w10 (w10.alloc (.cells (row .u8 (sumF (bodyF wh size at' l))) 23))) := Lib.hid (below1 w10 _)
  have DS : Hid (SlV (.slice (some ⟨w10.heap.size, 0, none⟩) 32 32) w10.heap.size 0 (sumF (bodyF wh size at' l)).length) := Lib.hid (by rw [sumF_len]; exact slv_all _ 32 (by decide))
  have DN : Hid ((bodyF wh size at' l).length + (sumF (bodyF wh size at' l)).length ≤ 140737488355328) := Lib.hid (by rw [bodyF_len HL.out.2.2.2.1, sumF_len]; have := HL.out.2.1; omega)
  have DE : Hid (encF wh size at' l = bodyF wh size at' l ++ sumF (bodyF wh size at' l)) := Lib.hid rfl
  generalize sumF (bodyF wh size at' l) = D at *
  generalize bodyF wh size at' l = E at *
  go_wp2_with (first
    | (refine wpList_store_rowTo rfl 23 _ _ rfl rfl _ (row .u8 D) rfl rfl 23 zb32 (heap_alloc_new w10 _) (by rw [HSZ.out]; kernel_rfl) (by rw [HSZ.out]; kernel_rfl) HONE.out ?_; rw [World.setRow_alloc_new])
    | (at_builtin; refine wl_append_b rfl _ _ rfl W3.heap.size _ _ rfl (K10.out.1.below DB.out) _ rfl w10.heap.size 0 D DS.out DL.out DN.out (Nat.le_trans K10.out.2.2 DB.out.size) ?_; intro v11 w11 own11 grown11 at11))
  have g11 : Grew _ w11 v9 v11 := Grew.of_grown grown11 at11
  have b11 := below_grew (BC_below K10.out.2.1 K10.out.2.1.size DB.out) g11 (K10.out.1.below DB.out) (by have := H3.out.2.2.2.2.2; omega) (Nat.le_trans K10.out.2.1.size DB.out.size)
  go_ret2
  exact ⟨_, rfl, by rw [DE.out]; exact own11.mono (by have := H3.out.2.2.2.2.2; omega), b11⟩
end Go.Proofs.Ytjnimbhecfpnmaa
