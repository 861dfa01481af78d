/- The walk of the reference's Encode (layer 18). -/
import Derived.Test.YtjnimbhecfpnmaaRef18
import Derived.Test.YtjnimbhecfpnmaaDecode
import Derived.Lib.AppendStr
namespace Go.Proofs.Ytjnimbhecfpnmaa
set_option maxRecDepth 100000
open Go.ChangeShapes Go.WideShapes Go.ChangeAt Go.RowKit

/-- append(own.., "bndl"...) -/
theorem wl_append_magic {w : World} {ops : Array Oper} {rest : List Oper} {o : Oper} {a : Act} {Q : Exit → Act → World → Prop} (hgd : o.guard = none) (s x : Operand)
    (ho : o.op = .call { callee := .builtin .append, args := #[s, x], argTypes := #[24, 9] }) (base : Nat) (v : Value) (xs : List Int) (hs : a.eval s = v) (hown : Own base w v xs)
    (hx : a.eval x = .string { data := #[98, 110, 100, 108] }) (h63 : xs.length ≤ 1000000) (hbase : base ≤ w.heap.size)
    (h : ∀ v' w', Own base w' v' (xs ++ magicF) → Below base w w' → wpList Try.prog ops Q rest (a.put o.dst v') w') : wpList Try.prog ops Q (o :: rest) a w := by
  obtain ⟨i, hi, hz0, hz1, hz2⟩ := info_parts info_byte
  refine Lib.wpList_append_own_string w hgd s x 24 9 ho base 5 i Try.underlying24 Try.underlying9 hi hz0 hz1 hz2 v xs.length (xs.map (Value.int .u8)) hs hown { data := #[98, 110, 100, 108] } hx
    (by show xs.length + 4 ≤ _; unfold maxLen; omega) (by show xs.length + 4 ≤ _; omega) hbase ?_
  intro v' w' h1 h2 _
  refine h v' w' ?_ ((Below.refl _ _).grown h2 hbase (own_block hown))
  unfold Own
  rw [List.length_append, List.map_append]
  exact h1
theorem wl_append_B {w : World} {ops : Array Oper} {rest : List Oper} {o : Oper} {a : Act} {Q : Exit → Act → World → Prop} (hgd : o.guard = none) (s x : Operand)
    (ho : o.op = .call { callee := .builtin .append, args := #[s, x], argTypes := #[24, 24] }) (base : Nat) (v : Value) (xs : List Int) (hs : a.eval s = v) (hown : Own base w v xs)
    (y : Value) (hx : a.eval x = y) (b off : Nat) (ms : List Int) (hy : SlV y b off ms.length) (hl : Lies w b off ms) (h63 : xs.length + ms.length ≤ 140737488355328) (hbase : base ≤ w.heap.size)
    (h : ∀ v' w', Own base w' v' (xs ++ ms) → Below base w w' → wpList Try.prog ops Q rest (a.put o.dst v') w') : wpList Try.prog ops Q (o :: rest) a w :=
  wl_append_b hgd s x ho base v xs hs hown y hx b off ms hy hl h63 hbase fun v' w' h1 h2 _ => h v' w' h1 ((Below.refl _ _).grown h2 hbase (own_block hown))
attribute [local go_sem] takes comesTo
attribute [local irreducible] SlV Lies
theorem rencode_no (wh : List Int) (hw : wh.length = 32) (size at' : Int) (v : Value) (b o n : Nat) (hv : SlV v b o n) (hm : mayB size at' n = false) (w : World) :
    Calls Try.prog 16 #[.agg (pcells wh size at' v).toArray] w fun e w' => e = .returned (.tuple #[.slice none 0 0, .int .i64 1]) ∧ Below w.heap.size w w' := by
  obtain ⟨a, cap, rfl, h1, h2, _⟩ := by unfold SlV at hv; exact hv
  have H := rmay_any wh hw size at' a n cap (by omega)
  rw [hm] at H
  have HS := Lib.hid (pcells_sz hw size at' (.slice a n cap))
  generalize (pcells wh size at' (.slice a n cap)).toArray = C at *
  have HM := Lib.hid H
  clear H h1 h2 hv
  have HB := Lib.hid (And.intro (heap_alloc_new w (.cells C 33)) (below1 w (.cells C 33)))
  go_enter Try.func16, Try.ntmps16
  go_wp2_with (refine wpList_load_row rfl 33 _ rfl _ rfl _ C _ _ HB.out.1 Try.underlying33 rfl (by rw [HS.out]; kernel_rfl) ?_)
  refine (HM.out _).mono ?_
  rintro e w1 ⟨rfl, b1⟩
  have HW := Lib.hid (BC_below HB.out.2 HB.out.2.size b1)
  clear b1
  go_wp2_with fail
  go_ret2
  exact ⟨rfl, HW.out⟩
set_option maxHeartbeats 400000 in
theorem rencode_yes (wh : List Int) (hw : wh.length = 32) (hwb : Bytes wh) (size at' : Int) (v : Value) (b o : Nat) (l : List Int) (hlb : Bytes l) (hn : l.length ≤ 500000) (hv : SlV v b o l.length) (hm : mayB size at' l.length = true) (w : World) (hl : Lies w b o l) :
    Calls Try.prog 16 #[.agg (pcells wh size at' v).toArray] w fun e w' => ∃ v', e = .returned (.tuple #[v', .int .i64 0]) ∧ Own w.heap.size w' v' (encF wh size at' l) ∧ Below w.heap.size w w' := by
  have ha := zero_dig
  have HV := Lib.hid hv
  obtain ⟨a, cap, rfl, h1, h2, _⟩ := by unfold SlV at hv; exact hv
  have H := rmay_any wh hw size at' a l.length cap (by omega)
  rw [hm] at H
  obtain ⟨m1, m2, m3, m4, m5⟩ := mayB_in hm
  have hs1 : size ≤ 2147483647 := by omega
  have hs2 : at' ≤ 2147483647 := by omega
  have HS := Lib.hid (pcells_sz hw size at' (.slice a l.length cap))
  have HK := Lib.hid (And.intro (pcells_size hw size at' (.slice a l.length cap)) (And.intro (pcells_at hw size at' (.slice a l.length cap)) (pcells_data hw size at' (.slice a l.length cap))))
  have HL := Lib.hid (And.intro hlb (And.intro hn (And.intro hl (And.intro hw hwb))))
  have HLI : Hid (∀ (w : World) (g : Nat), w.heap[g]? = some (.cells (pcells wh size at' (.slice a l.length cap)).toArray 33 (0, 0)) → Lies w g 0 wh) := Lib.hid (fun w g h => lies_whole h)
  generalize (pcells wh size at' (.slice a l.length cap)).toArray = C at *
  have HM := Lib.hid H
  have HI := Lib.hid (And.intro m1 (And.intro hs1 (And.intro m4 hs2)))
  clear H h1 h2 hv hlb hn hl hw hwb m1 m2 m3 m4 m5 hs1 hs2 hm
  have HB := Lib.hid (And.intro (heap_alloc_new w (.cells C 33)) (below1 w (.cells C 33)))
  go_enter Try.func16, Try.ntmps16
  go_wp2_with (refine wpList_load_row rfl 33 _ rfl _ rfl _ C _ _ HB.out.1 Try.underlying33 rfl (by rw [HS.out]; kernel_rfl) ?_)
  refine (HM.out _).mono ?_
  rintro e w1 ⟨rfl, b1⟩
  have HW := Lib.hid (And.intro (b1.block _ (by rw [size_new]; omega) |>.trans HB.out.1) (BC_below HB.out.2 HB.out.2.size b1))
  clear b1 HB
  have HZ := Lib.hid (And.intro (own_zero w1 w1.heap.size (Nat.le_refl _)) (below1 w1 (.cells #[] 5)))
  have h32 : SlV (.slice (some ⟨w.heap.size, 0, none⟩) 32 32) w.heap.size 0 wh.length := by rw [HL.out.2.2.2.1]; exact slv_all _ 32 (by decide)
  have H32 := Lib.hid h32
  clear h32
  go_wp2_with (first
    | (at_builtin; refine wl_append_magic rfl _ _ rfl w1.heap.size _ _ rfl HZ.out.1 rfl (by simp) HZ.out.2.size ?_; intro v2 w2 own2 b2; have K2 := Lib.hid (And.intro own2 (HZ.out.2.trans b2)); clear own2 b2)
    | (at_builtin; refine wl_append_B rfl _ _ rfl w1.heap.size _ _ rfl K2.out.1 _ rfl w.heap.size 0 wh H32.out (HLI.out _ _ ((K2.out.2.block _ (blk_lt HW.out.1)).trans HW.out.1)) (by have := HL.out.2.2.2.1; simp [magicF]; omega) K2.out.2.size ?_; intro v3 w3 own3 b3; have K3 := Lib.hid (And.intro own3 (And.intro (K2.out.2.trans b3) (((K2.out.2.trans b3).block _ (blk_lt HW.out.1)).trans HW.out.1))); have c1 := cell_row K3.out.2.2 32 HK.out.1; clear own3 b3))
  refine (rfour_any size (by have := HI.out; omega) HI.out.2.1 _).mono ?_
  rintro e wX ⟨rfl, rfl⟩
  have x4 := K3.out.1.below (below1 w3 (.cells (row .u8 (fourF size)) 5))
  have l4 : Lies (w3.alloc (.cells (row .u8 (fourF size)) 5)) w3.heap.size 0 (fourF size) := Lies.of_row (heap_alloc_new w3 _)
  have y4 : Below w1.heap.size w1 (w3.alloc (.cells (row .u8 (fourF size)) 5)) := K3.out.2.1.alloc K3.out.2.1.size _
  have X4 := Lib.hid (And.intro x4 (And.intro l4 y4))
  clear x4 l4 y4 c1
  go_wp2_with (at_builtin; refine wl_append_B rfl _ _ rfl w1.heap.size _ _ rfl X4.out.1 _ rfl w3.heap.size 0 (fourF size) (slv_all _ 4 (by decide)) X4.out.2.1 (by have := HL.out.2.2.2.1; simp [magicF, fourF]; omega) X4.out.2.2.size ?_; intro v4 w4 own4 b4; have K4 := Lib.hid (And.intro own4 (And.intro (X4.out.2.2.trans b4) (((X4.out.2.2.trans b4).block _ (blk_lt HW.out.1)).trans HW.out.1))); have c1 := cell_row K4.out.2.2 33 HK.out.2.1; clear own4 b4)
  refine (rfour_any at' HI.out.2.2.1 HI.out.2.2.2 _).mono ?_
  rintro e wX ⟨rfl, rfl⟩
  have x5 := K4.out.1.below (below1 w4 (.cells (row .u8 (fourF at')) 5))
  have l5 : Lies (w4.alloc (.cells (row .u8 (fourF at')) 5)) w4.heap.size 0 (fourF at') := Lies.of_row (heap_alloc_new w4 _)
  have y5 : Below w1.heap.size w1 (w4.alloc (.cells (row .u8 (fourF at')) 5)) := K4.out.2.1.alloc K4.out.2.1.size _
  have X5 := Lib.hid (And.intro x5 (And.intro l5 y5))
  clear x5 l5 y5 c1
  go_wp2_with (at_builtin; refine wl_append_B rfl _ _ rfl w1.heap.size _ _ rfl X5.out.1 _ rfl w4.heap.size 0 (fourF at') (slv_all _ 4 (by decide)) X5.out.2.1 (by have := HL.out.2.2.2.1; simp [magicF, fourF]; omega) X5.out.2.2.size ?_; intro v5 w5 own5 b5; have K5 := Lib.hid (And.intro own5 (And.intro (X5.out.2.2.trans b5) (((X5.out.2.2.trans b5).block _ (blk_lt HW.out.1)).trans HW.out.1))); have c1 := cell_row K5.out.2.2 34 HK.out.2.2; clear own5 b5)
  refine (rfour_any (l.length : Int) (by omega) (by have := HL.out.2.1; omega) _).mono ?_
  rintro e wX ⟨rfl, rfl⟩
  have x6 := K5.out.1.below (below1 w5 (.cells (row .u8 (fourF (l.length : Int))) 5))
  have l6 : Lies (w5.alloc (.cells (row .u8 (fourF (l.length : Int))) 5)) w5.heap.size 0 (fourF (l.length : Int)) := Lies.of_row (heap_alloc_new w5 _)
  have y6 : Below w1.heap.size w1 (w5.alloc (.cells (row .u8 (fourF (l.length : Int))) 5)) := K5.out.2.1.alloc K5.out.2.1.size _
  have X6 := Lib.hid (And.intro x6 (And.intro l6 y6))
  clear x6 l6 y6 c1
  go_wp2_with (first
    | (at_builtin; refine wl_append_B rfl _ _ rfl w1.heap.size _ _ rfl X6.out.1 _ rfl w5.heap.size 0 (fourF (l.length : Int)) (slv_all _ 4 (by decide)) X6.out.2.1 (by have := HL.out.2.2.2.1; simp [magicF, fourF]; omega) X6.out.2.2.size ?_; intro v6 w6 own6 b6; have K6 := Lib.hid (And.intro own6 (And.intro (X6.out.2.2.trans b6) (((X6.out.2.2.trans b6).block _ (blk_lt HW.out.1)).trans HW.out.1))); have c1 := cell_row K6.out.2.2 34 HK.out.2.2; clear own6 b6)
    | (at_builtin; refine wl_append_B rfl _ _ rfl w1.heap.size _ _ rfl K6.out.1 _ rfl b o l HV.out (HL.out.2.2.1.below' (BC_below HW.out.2 HW.out.2.size K6.out.2.1)) (by have := HL.out.2.2.2.1; have := HL.out.2.1; simp [magicF, fourF]; omega) K6.out.2.1.size ?_; intro v7 w7 own7 b7; have K7 := Lib.hid (And.intro own7 (And.intro (K6.out.2.1.trans b7) True.intro)); clear own7 b7))
  have o9 : Own w1.heap.size w7 v7 (bodyF wh size at' l) := K7.out.1
  have J9 := Lib.hid (And.intro o9 K7.out.2.1)
  clear o9 c1
  obtain ⟨gb, s9, l9, _⟩ := J9.out.1.slv
  refine (r3sum_any (bodyF wh size at' l) (bodyF_bytes HL.out.2.2.2.2 HL.out.1 _ _) (by rw [bodyF_len HL.out.2.2.2.1]; have := HL.out.2.1; omega) gb 0 v7 s9 w7 l9).mono ?_
  rintro e w10 ⟨rfl, b10⟩
  have hsz : (row .u8 (sumF (bodyF wh size at' l))).size = 32 := by rw [row_size, sumF_len]
  have HSZ := Lib.hid hsz
  have HONE : Hid ((row .u8 (sumF (bodyF wh size at' l))).all (·.oneCell') = true) := Lib.hid (row_one _ _)
  have K10 := Lib.hid (And.intro (J9.out.1.below b10) (BC_below J9.out.2 J9.out.2.size b10))
  clear b10 s9 l9 hsz
  have DL : Hid (Lies (w10.alloc (.cells (row .u8 (sumF (bodyF wh size at' l))) 23)) w10.heap.size 0 (sumF (bodyF wh size at' l))) := Lib.hid (Lies.of_row (heap_alloc_new w10 _))
  have DB : Hid (Below w10.heap.size w10 (w10.alloc (.cells (row .u8 (sumF (bodyF wh size at' l))) 23))) := Lib.hid (below1 w10 _)
  have DS : Hid (SlV (.slice (some ⟨w10.heap.size, 0, none⟩) 32 32) w10.heap.size 0 (sumF (bodyF wh size at' l)).length) := Lib.hid (by rw [sumF_len]; exact slv_all _ 32 (by decide))
  have DN : Hid ((bodyF wh size at' l).length + (sumF (bodyF wh size at' l)).length ≤ 140737488355328) := Lib.hid (by rw [bodyF_len HL.out.2.2.2.1, sumF_len]; have := HL.out.2.1; omega)
  have DE : Hid (encF wh size at' l = bodyF wh size at' l ++ sumF (bodyF wh size at' l)) := Lib.hid rfl
  generalize sumF (bodyF wh size at' l) = D at *
  generalize bodyF wh size at' l = E at *
  go_wp2_with (first
    | (refine wpList_store_rowTo rfl 23 _ _ rfl rfl _ (row .u8 D) rfl rfl 23 zb32 (heap_alloc_new w10 _) (by rw [HSZ.out]; kernel_rfl) (by rw [HSZ.out]; kernel_rfl) HONE.out ?_; rw [World.setRow_alloc_new])
    | (at_builtin; refine wl_append_B rfl _ _ rfl w1.heap.size _ _ rfl (K10.out.1.below DB.out) _ rfl w10.heap.size 0 D DS.out DL.out DN.out (Nat.le_trans K10.out.2.size DB.out.size) ?_; intro v11 w11 own11 b11))
  have b12 : Below w.heap.size w w11 := HW.out.2.trans (((K10.out.2.trans (DB.out.mono K10.out.2.size)).trans b11).mono HW.out.2.size)
  go_ret2
  exact ⟨_, rfl, by rw [DE.out]; exact own11.mono HW.out.2.size, b12⟩
end Go.Proofs.Ytjnimbhecfpnmaa
