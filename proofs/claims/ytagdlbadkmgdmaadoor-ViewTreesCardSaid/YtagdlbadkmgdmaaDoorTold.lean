/- The walks of sha.New, (*sha.Hash).Told, Len and sha.Sum. -/
import Derived.Test.YtagdlbadkmgdmaaDoorWrite
import Derived.Test.YtagdlbadkmgdmaaDoorPad
namespace Go.Proofs.YtagdlbadkmgdmaaDoor
set_option maxRecDepth 100000
open Go.ChangeShapes Go.WideShapes Go.ChangeAt Go.RowKit

def zb32 : Array Value := row .u8 (List.replicate 32 0)
def zh : Array Value := (hcells ⟨0, 0, 0, 0, 0, 0, 0, 0⟩ (List.replicate 64 0) 0).toArray
theorem alloc_dig (w : World) : (Instr.alloc 36 true (.tuple #[])).run Tryd.prog w = .ok (.pointer (some ⟨w.heap.size, 0, none⟩)) (w.alloc (.cells zb32 36)) := by kernel_rfl
theorem alloc_hash (w : World) : (Instr.alloc 130 true (.tuple #[])).run Tryd.prog w = .ok (.pointer (some ⟨w.heap.size, 0, none⟩)) (w.alloc (.cells zh 130)) := by kernel_rfl
theorem zero_hash (w : World) : (zeroValue 130).run Tryd.prog w = .ok (.agg zh) w := by kernel_rfl
theorem zero_dig (w : World) : (zeroValue 36).run Tryd.prog w = .ok (.agg zb32) w := by kernel_rfl
theorem hash_one (x : W8) (p : List Int) (n : Nat) : (hcells x p n).toArray.all (·.oneCell') = true := all_oneCell_toArray (hcells_one x p n)
theorem hash_size (x : W8) (p : List Int) (n : Nat) (h : p.length = 64) : (hcells x p n).toArray.size = 73 := by rw [List.size_toArray, hcells_len _ _ _ h]
def h0cells : Array Value := (hcells first8 (List.replicate 64 0) 0).toArray
theorem new_any (w : World) : Calls Tryd.prog 56 #[] w fun e w' => ∃ g, e = .returned (.pointer (some ⟨g, 0, none⟩)) ∧ w.heap.size ≤ g ∧ w'.heap[g]? = some (.cells h0cells 130 (0, 0)) ∧ Below w.heap.size w w' := by
  go_enter Tryd.func56, Tryd.ntmps56
  go_wp2_with fail
  refine (first_any _).mono ?_
  rintro e w1 ⟨rfl, b1⟩
  go_wp2_with (refine wpList_buildTo rfl 130 _ rfl (some 2) rfl h0cells (by kernel_rfl) ?_)
  go_ret
  exact ⟨_, rfl, b1.size, heap_alloc_new _ _, b1.alloc b1.size _⟩
theorem told_nil (w : World) : Calls Tryd.prog 58 #[.pointer none] w fun e w' => e = .returned (.agg zb32) ∧ Below w.heap.size w w' := by
  have ha := alloc_dig
  go_enter Tryd.func58, Tryd.ntmps58
  go_wp2_with (first
    | (refine wpList_load_row (o := ⟨some 10, _, _, _, _, _⟩) rfl 36 _ rfl _ rfl _ zb32 _ _ (by exact blk_new1 _ _ _) Tryd.underlying36 rfl (by kernel_rfl) ?_)
    | (refine wpList_store_rowTo rfl 36 _ _ rfl rfl _ zb32 rfl rfl 36 zb32 (by exact (blk2 _ _ _).1) (by kernel_rfl) (by kernel_rfl) (by kernel_rfl) ?_))
  exact bodyPost_ret (results_cell_row (p := 2) (by kernel_rfl) _ _ _ _ _ _ _ rfl (setRow_heap _ _ _ _ _ _ (blk2 _ _ _).1) Tryd.underlying36 rfl (by kernel_rfl)) rfl ⟨rfl, below_row (below2 _ _ _) (by omega) _⟩
theorem setRow_new2 (w : World) (A B : Obj) (cs cs' : Array Value) (t : TypeId) : (((w.alloc A).alloc B).alloc (.cells cs t)).setRow (w.heap.size + 1 + 1) cs' = ((w.alloc A).alloc B).alloc (.cells cs' t) := by
  have h := World.setRow_alloc_new ((w.alloc A).alloc B) cs cs' t
  rwa [size_new, size_new] at h
theorem shr_byte (x : BitVec 32) (k : Nat) (h : k < 4) : U x / 2 ^ min (8 * (3 - k)) 32 % 256 = byteW x k := by
  have e2 : ((2 : Int) ^ (8 * (3 - k))) = ((2 ^ (8 * (3 - k)) : Nat) : Int) := by simp
  unfold U byteW
  rw [Nat.min_eq_left (by omega), e2, div_cast]
  omega
attribute [local go_sem] takes comesTo
set_option maxHeartbeats 1000000 in
theorem told_any (l : List Int) (x : W8) (p : List Int) (hst : St l x p) (hn : l.length ≤ 1099511627776) (g : Nat) (w : World) (hg : w.heap[g]? = some (.cells (hcells x p l.length).toArray 130 (0, 0))) :
    Calls Tryd.prog 58 #[.pointer (some ⟨g, 0, none⟩)] w fun e w' => e = .returned (.agg (row .u8 (sumF l))) ∧ Below w.heap.size w w' := by
  have ha := zero_dig
  have ha2 := zero_hash
  have HST := Lib.hid (And.intro hst (And.intro hn hg))
  clear hst hn hg
  have HP := Lib.hid HST.out.1.len
  have hN0 : (0 : Int) ≤ (l.length : Int) := by omega
  generalize hsl : sumF l = sl
  have HSL := Lib.hid hsl
  clear hsl
  go_enter Tryd.func58, Tryd.ntmps58
  go_wp2_with (first
    | (refine wpList_load_row (o := ⟨some 13, _, _, _, _, _⟩) rfl 130 _ rfl _ rfl _ (hcells x p l.length).toArray _ _ (by exact blk_old (blk_old HST.out.2.2 _) _) Tryd.underlying130 rfl (by rw [hash_size _ _ _ HP.out]; kernel_rfl) ?_)
    | (refine wpList_store_rowTo (o := ⟨none, .store 130 _ _, _, _, _, _⟩) rfl 130 _ _ rfl rfl _ (hcells x p l.length).toArray rfl rfl 130 zh (by exact blk_new2 _ _ _ _) (by rw [hash_size _ _ _ HP.out]; kernel_rfl) (by rw [hash_size _ _ _ HP.out]; kernel_rfl) (hash_one _ _ _) ?_
       rw [setRow_new2]
       have HW := Lib.hid (And.intro (blk3 w (.cells zb32 36) (.cells zb32 36) (.cells (hcells x p l.length).toArray 130)) (And.intro (blk_old (blk_old (blk_old HST.out.2.2 (.cells zb32 36)) (.cells zb32 36)) (.cells (hcells x p l.length).toArray 130)) (below3 w (.cells zb32 36) (.cells zb32 36) (.cells (hcells x p l.length).toArray 130))))
       generalize ((w.alloc (.cells zb32 36)).alloc (.cells zb32 36)).alloc (.cells (hcells x p l.length).toArray 130) = W1 at *
       have c72 : W1.cell? ⟨g, 72, none⟩ = some (.int .i64 (l.length : Int)) := cell_row HW.out.2.1 72 (by rw [List.getElem?_toArray]; exact hcells_n _ _ _ HP.out)))
  refine (pad_in l.length HST.out.2.1 _).mono ?_
  rintro e w2 ⟨v, rfl, hown, b2⟩
  have HO := Lib.hid hown
  have H2 := Lib.hid (And.intro (BC_blk1 b2 HW.out.1.1) (And.intro (BC_blk1 b2 HW.out.1.2.1) (And.intro (BC_blk1 b2 HW.out.1.2.2) (HW.out.2.2.trans (b2.mono HW.out.2.2.size)))))
  have HB2 := Lib.hid (blk_lt HW.out.1.2.2)
  clear b2 hown c72
  go_wp2_with fail
  obtain ⟨gp, hsl, hli, hgp⟩ := HO.out.slv
  have hgp2 := hgp (by have := padF_le l.length; omega)
  refine (write_any l (padF l.length) x p HST.out.1 (padF_bytes _) (by have := padF_le l.length; have := HST.out.2.1; omega) (w.heap.size + 1 + 1) gp 0 (fun _ => by have := HB2.out; omega) v hsl w2 H2.out.2.2.1 hli).mono ?_
  rintro e w3 ⟨rfl, hbut, x', p', hst', hg'⟩
  have HX : Hid (sl = digF x') := Lib.hid (by rw [← HSL.out]; unfold sumF; rw [hst'.words]; rfl)
  have H3 := Lib.hid (And.intro (hbut.blk H2.out.1 (by omega)) (And.intro (hbut.blk H2.out.2.1 (by omega)) (And.intro hg' (hbut.below w.heap.size w (by omega) H2.out.2.2.2.size H2.out.2.2.2))))
  clear hsl hli hgp hgp2 hbut hst' hg' H2 HO HB2 HW HST HP ha ha2 hN0 HSL
  have hl32 := digF_len x'
  have hget := digF_get x'
  have hix : ∀ (k : Nat) (w : World), k < 8 → (Instr.index 95 (.agg x'.row) (.int .i64 (k : Int))).run Tryd.prog w = .ok (.int .u32 (U (x'.list.getD k 0))) w :=
    fun k w hk => run_index_row w _ _ 8 Tryd.underlying95 Tryd.underlying94 (by kernel_rfl) x'.list rfl k hk
  have HD := Lib.hid (And.intro hl32 (And.intro hget hix))
  clear hl32 hget hix
  generalize digF x' = D at *
  generalize x'.list = xl at *
  have hxs := W8.row_size x'
  have HXS := Lib.hid hxs
  have hrg : Hid (w3.rangeAt (w.heap.size + 1 + 1) 0 x'.row.toList) := Lib.hid (range_words H3.out.2.2.1)
  clear hxs
  generalize x'.row = xr at *
  go_wp2_with (refine wl_load_mid rfl 95 _ rfl _ _ rfl xr _ hrg.out Tryd.underlying95 rfl (by rw [HXS.out]; kernel_rfl) ?_)
  go_loopw [22] (fun n wr => ∃ i : Nat, i ≤ 8 ∧ n = .int .i64 i ∧ wr.heap[w.heap.size]? = some (.cells zb32 36 (0, 0)) ∧ wr.heap[w.heap.size + 1]? = some (.cells (row .u8 (fillTo D (4 * i))) 36 (0, 0)) ∧ Below w.heap.size w wr) (fun n _ => 8 - (intOf n).toNat)
  case atStart => exact ⟨0, by omega, rfl, H3.out.1, by rw [Nat.mul_zero, fillTo_zero, HD.out.1]; exact H3.out.2.1, H3.out.2.2.2⟩
  case round =>
    clear H3 hrg
    obtain ⟨i, hi, rfl, h1, h2, hbe⟩ := hrel
    have HH := Lib.hid (And.intro h1 (And.intro h2 hbe))
    clear h1 h2 hbe
    by_cases hlt : i < 8
    · have hix := fun w => HD.out.2.2 i w hlt
      have hget : Hid (∀ k, k < 4 → D.getD (4 * i + k) 0 = byteW (xl.getD i 0) k) := Lib.hid (fun k hk => by
        rw [HD.out.2.1 _ (by omega), show (4 * i + k) / 4 = i by omega, show (4 * i + k) % 4 = k by omega])
      generalize xl.getD i 0 = xw at *
      have HLT := Lib.hid hlt
      have hi8 : (i : Int) < 8 := by omega
      clear hlt hi
      go_wp2_with fail
      go_loopw [26] (fun n wr => ∃ k : Nat, k ≤ 4 ∧ n = .int .i64 k ∧ wr.heap[w.heap.size]? = some (.cells zb32 36 (0, 0)) ∧ wr.heap[w.heap.size + 1]? = some (.cells (row .u8 (fillTo D (4 * i + k))) 36 (0, 0)) ∧ Below w.heap.size w wr) (fun n _ => 4 - (intOf n).toNat)
      case atStart => exact ⟨0, by omega, rfl, HH.out.1, HH.out.2.1, HH.out.2.2⟩
      case round =>
        clear HH hix
        obtain ⟨k, hk, rfl, h1, h2, hbe⟩ := hrel
        have HH := Lib.hid (And.intro h1 (And.intro h2 hbe))
        clear h1 h2 hbe
        have hi := HLT.out
        by_cases hlt : k < 4
        · obtain ⟨m, hm⟩ : ∃ m, m = 4 * i + k := ⟨_, rfl⟩
          obtain ⟨d, hd⟩ : ∃ d, d = 8 * (3 - k) := ⟨_, rfl⟩
          have s1 : IntKind.i64.wrap (4 * (i : Int)) = 4 * (i : Int) := by rw [IntKind.wrap_i64]; omega
          have s2 : IntKind.i64.wrap (4 * (i : Int) + (k : Int)) = (m : Int) := by rw [IntKind.wrap_i64]; omega
          have s3 : IntKind.i64.wrap (3 - (k : Int)) = 3 - (k : Int) := by rw [IntKind.wrap_i64]; omega
          have s4 : IntKind.i64.wrap (8 * (3 - (k : Int))) = (d : Int) := by rw [IntKind.wrap_i64]; omega
          have s5 : IntKind.u64.wrap (d : Int) = (d : Int) := by simp only [IntKind.wrap, IntKind.bits, IntKind.signed]; simp; omega
          have s6 : U xw / 2 ^ min d 32 % 256 = byteW xw k := by rw [hd]; exact shr_byte xw k hlt
          have s7 : (m : Int) < 32 := by omega
          have hset : Hid ((row .u8 (fillTo D (4 * i + k))).setIfInBounds m (.int .u8 (byteW xw k)) = row .u8 (fillTo D (4 * i + (k + 1)))) := Lib.hid (by
            rw [row_set, hm, ← hget.out k hlt, fillTo_set _ _ (by rw [HD.out.1]; omega)]
            rfl)
          have hsz : Hid (m < (row .u8 (fillTo D (4 * i + k))).size) := Lib.hid (by rw [row_size, fillTo_len _ _ (by rw [HD.out.1]; omega), HD.out.1]; omega)
          generalize byteW xw k = T at *
          have HLK := Lib.hid hlt
          have hk4 : (k : Int) < 4 := by omega
          clear hm hd hlt hk hi
          have hc := cell_row HH.out.2.1 m (Array.getElem?_eq_getElem hsz.out)
          have hf := free_row HH.out.2.1 m
          generalize (row .u8 (fillTo D (4 * i + k)))[m]'hsz.out = old at *
          go_wp2_with fail
          refine ⟨⟨k + 1, by have := HLK.out; omega, rfl, (heap_setCell_other _ _ _ _ (by simp)).trans HH.out.1, (heap_setCell_same _ _ _ _ _ _ HH.out.2.1).trans (by rw [hset.out]), HH.out.2.2.setCell (by simp) _⟩, ?_⟩
          have := HLK.out
          simp [intOf]; omega
        · obtain rfl : k = 4 := by omega
          go_wp2_with fail
          refine ⟨⟨i + 1, by omega, rfl, HH.out.1, HH.out.2.1, HH.out.2.2⟩, ?_⟩
          simp [intOf]; omega
    · obtain rfl : i = 8 := by omega
      have hrow : Hid (row .u8 (fillTo D (4 * 8)) = row .u8 D) := Lib.hid (by
        have h := fillTo_all D
        rw [HD.out.1] at h
        rw [h])
      have hsz : Hid ((row .u8 D).size = 32) := Lib.hid (by rw [row_size, HD.out.1])
      have h2 := HH.out.2.1
      rw [hrow.out] at h2
      have H2 := Lib.hid h2
      clear h2
      go_wp2_with (first
        | (refine wpList_load_row rfl 36 _ rfl _ rfl _ (row .u8 D) _ _ H2.out Tryd.underlying36 rfl (by rw [hsz.out]; kernel_rfl) ?_)
        | (refine wpList_store_rowTo rfl 36 _ _ rfl rfl _ (row .u8 D) rfl rfl 36 zb32 HH.out.1 (by rw [hsz.out]; kernel_rfl) (by rw [hsz.out]; kernel_rfl) (row_one _ _) ?_))
      rw [HX.out]
      exact bodyPost_ret (results_cell_row (p := 2) (by kernel_rfl) _ _ _ _ _ _ _ rfl (setRow_heap _ _ _ _ _ _ HH.out.1) Tryd.underlying36 rfl (by rw [hsz.out]; kernel_rfl)) rfl ⟨rfl, below_row HH.out.2.2 (by omega) _⟩
set_option maxHeartbeats 400000 in
theorem sum_any (l : List Int) (hb : Bytes l) (hn : l.length ≤ 1099511627776) (b o : Nat) (v : Value) (hv : SlV v b o l.length) (w : World) (hl : Lies w b o l) :
    Calls Tryd.prog 43 #[v] w fun e w' => e = .returned (.agg (row .u8 (sumF l))) ∧ Below w.heap.size w w' := by
  have ha := zero_dig
  have HL := Lib.hid (And.intro hb (And.intro hn (And.intro hv hl)))
  clear hb hn hv hl
  have hsz : (row .u8 (sumF l)).size = 32 := by rw [row_size, sumF_len]
  have HSZ := Lib.hid hsz
  clear hsz
  generalize hr : row .u8 (sumF l) = R at *
  have HR := Lib.hid hr
  clear hr
  go_enter Tryd.func43, Tryd.ntmps43
  go_wp2_with fail
  refine (new_any _).mono ?_
  rintro e w1 ⟨g, rfl, hg1, hg2, b1⟩
  have hlt : w.heap.size < g := by rw [size_new] at hg1; omega
  have H1 := Lib.hid (And.intro hlt (And.intro hg2 (And.intro (BC_blk1 b1 (heap_alloc_new w (.cells zb32 36))) (BC_below (below1 w (.cells zb32 36)) (below1 w _).size b1))))
  clear hg1 hg2 b1 hlt
  go_wp2_with fail
  refine (write_any [] l first8 (List.replicate 64 0) St.nil HL.out.1 (by have := HL.out.2.1; simp; omega) g b o (fun h => by have := HL.out.2.2.2.lt h; have := H1.out.1; omega) v HL.out.2.2.1 w1 H1.out.2.1 (fun j hj => (H1.out.2.2.2.cell (block_lt_of_cell (HL.out.2.2.2 j hj))).trans (HL.out.2.2.2 j hj))).mono ?_
  rintro e w2 ⟨rfl, hbut, x, p, hst, hg⟩
  rw [List.nil_append] at hst
  have e0 : ([] : List Int).length + l.length = l.length := by simp
  rw [e0] at hg
  have H2 := Lib.hid (And.intro hst (And.intro hg (And.intro (hbut.blk H1.out.2.2.1 (by have := H1.out.1; omega)) (hbut.below w.heap.size w (by have := H1.out.1; omega) H1.out.2.2.2.size H1.out.2.2.2))))
  clear hbut hst hg e0
  go_wp2_with fail
  refine (told_any l x p H2.out.1 HL.out.2.1 g w2 H2.out.2.1).mono ?_
  rintro e w3 ⟨rfl, b3⟩
  rw [HR.out]
  have H3 := Lib.hid (And.intro (BC_blk1 b3 H2.out.2.2.1) (BC_below H2.out.2.2.2 H2.out.2.2.2.size b3))
  have hone : R.all (·.oneCell') = true := by rw [← HR.out]; exact row_one _ _
  have HONE := Lib.hid hone
  clear b3 H2 hone
  go_wp2_with (refine wpList_store_rowTo rfl 36 _ _ rfl rfl _ R rfl rfl 36 zb32 H3.out.1 (by rw [HSZ.out]; kernel_rfl) (by rw [HSZ.out]; kernel_rfl) HONE.out ?_)
  exact bodyPost_ret (results_cell_row (p := 2) (by kernel_rfl) _ _ _ _ _ _ _ rfl (setRow_heap _ _ _ _ _ _ H3.out.1) Tryd.underlying36 rfl (by rw [HSZ.out]; kernel_rfl)) rfl ⟨rfl, below_row H3.out.2 (by omega) _⟩
end Go.Proofs.YtagdlbadkmgdmaaDoor
