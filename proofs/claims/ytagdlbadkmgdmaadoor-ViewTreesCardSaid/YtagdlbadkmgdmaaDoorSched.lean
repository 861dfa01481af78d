/- A block's schedule: the plain functions, and the walk of block.Schedule. -/
import Derived.Test.YtagdlbadkmgdmaaDoorRound
import Derived.Lib.Hide
namespace Go.Proofs.YtagdlbadkmgdmaaDoor
set_option maxRecDepth 100000
open Go.ChangeShapes Go.WideShapes Go.ChangeAt Go.RowKit

/-- a word of four bytes -/
def wordI (a b c d : Int) : BitVec 32 := BitVec.ofInt 32 (a * 16777216 + b * 65536 + c * 256 + d)
theorem U_wordI {a b c d : Int} (ha : 0 ≤ a ∧ a ≤ 255) (hb : 0 ≤ b ∧ b ≤ 255) (hc : 0 ≤ c ∧ c ≤ 255) (hd : 0 ≤ d ∧ d ≤ 255) : U (wordI a b c d) = a * 16777216 + b * 65536 + c * 256 + d := by
  unfold U wordI
  rw [BitVec.toNat_ofInt]
  omega
theorem or_join {A B : Int} (k : Nat) (hA : 0 ≤ A) (hA2 : A < 4294967296) (hB : 0 ≤ B) (hB2 : B.toNat < 2 ^ k) (hB3 : B < 4294967296) (hd : A.toNat % 2 ^ k = 0) : bits .or .u32 A B = A + B := by
  rw [u32_or A B hA hA2 hB hB3, nat_join k _ _ hd hB2]
  omega
theorem or_word {a b c d : Int} (ha : 0 ≤ a ∧ a ≤ 255) (hb : 0 ≤ b ∧ b ≤ 255) (hc : 0 ≤ c ∧ c ≤ 255) (hd : 0 ≤ d ∧ d ≤ 255) :
    bits .or .u32 (bits .or .u32 (bits .or .u32 (a * 16777216) (b * 65536)) (c * 256)) d = U (wordI a b c d) := by
  rw [U_wordI ha hb hc hd]
  rw [or_join (A := a * 16777216) (B := b * 65536) 24 (by omega) (by omega) (by omega) (by omega) (by omega) (by omega)]
  rw [or_join (B := c * 256) 16 (by omega) (by omega) (by omega) (by omega) (by omega) (by omega)]
  rw [or_join (B := d) 8 (by omega) (by omega) (by omega) (by omega) (by omega) (by omega)]
def nextW (l : List Int) (ws : List (BitVec 32)) (t : Nat) : BitVec 32 :=
  if t < 16 then wordI (l.getD (4 * t) 0) (l.getD (4 * t + 1) 0) (l.getD (4 * t + 2) 0) (l.getD (4 * t + 3) 0)
  else small1 (ws.getD (t - 2) 0) + ws.getD (t - 7) 0 + small0 (ws.getD (t - 15) 0) + ws.getD (t - 16) 0
/-- the schedule's first t words, the others 0 -/
def schedTo (l : List Int) : Nat → List (BitVec 32)
  | 0 => List.replicate 64 0
  | t + 1 => (schedTo l t).set t (nextW l (schedTo l t) t)
def sched (l : List Int) : List (BitVec 32) := schedTo l 64
theorem schedTo_len (l : List Int) : ∀ t, (schedTo l t).length = 64
  | 0 => by simp [schedTo]
  | t + 1 => by rw [schedTo, List.length_set, schedTo_len l t]
def zeros8 : Array Value := row .u8 (List.replicate 64 0)
/-- numbers that are bytes -/
def Bytes (l : List Int) : Prop := ∀ i, 0 ≤ l.getD i 0 ∧ l.getD i 0 ≤ 255
theorem slice4 (g k : Nat) (hk : k < 16) (w : World) : (Instr.sliceAt 96 (.pointer (some ⟨g, 0, none⟩)) (some (.int .i64 (4 * (k : Int)))) (some (.int .i64 (4 * (k : Int) + 4))) none).run Tryd.prog w =
    .ok (.slice (some ⟨g, 4 * k, none⟩) 4 (64 - 4 * k)) w := by
  have hlen : Tryd.prog.arrayLen 96 = 64 := by kernel_rfl
  have hel : (sizeOf (Tryd.prog.elem 96)).run Tryd.prog w = .ok 1 w := by kernel_rfl
  have h := run_sliceAt_array_lh (P := Tryd.prog) w 96 ⟨g, 0, none⟩ (by kernel_rfl) .i64 .i64 (4 * (k : Int)) (4 * (k : Int) + 4) (by omega) (by omega) (by rw [hlen]; omega)
  rw [h, hel, hlen]
  have e1 : (4 * (k : Int)).toNat = 4 * k := by omega
  have e2 : (4 * (k : Int) + 4).toNat = 4 * k + 4 := by omega
  have e3 : ¬ (64 = 4 * k) := by omega
  simp [slicedAt, e1, e2, e3, Addr.add]
  omega
attribute [local go_sem] U_wadd takes comesTo
set_option maxHeartbeats 1500000 in
theorem sched_any (l : List Int) (hl : l.length = 64) (hb : Bytes l) (w : World) :
    Calls Tryd.prog 86 #[.agg (row .u8 l)] w fun e w' => e = .returned (.agg (rowU (sched l))) ∧ Below w.heap.size w w' := by
  have ha := alloc64
  have HL := Lib.hid hl
  have HB := Lib.hid hb
  clear hl hb
  go_enter Tryd.func86, Tryd.ntmps86
  go_wp2_with fail
  clear ha
  go_loopw [6] (fun i wr => ∃ k : Nat, k ≤ 64 ∧ i = .int .i64 k ∧ wr.heap[w.heap.size]? = some (.cells (row .u8 l) 96 (0, 0)) ∧ wr.heap[w.heap.size + 1]? = some (.cells z64 111 (0, 0)) ∧
      wr.heap[w.heap.size + 1 + 1]? = some (.cells (rowU (schedTo l k)) 111 (0, 0)) ∧ Below w.heap.size w wr) (fun i _ => 64 - (intOf i).toNat)
  case atStart => exact ⟨0, by omega, rfl, (blk3 _ _ _ _).1, (blk3 _ _ _ _).2.1, (blk3 _ _ _ _).2.2, below3 _ _ _ _⟩
  case round =>
    obtain ⟨k, hk, rfl, h1, h2, h3, hbe⟩ := hrel
    by_cases hlt : k < 64
    · by_cases h16 : k < 16
      · have b0 := HB.out (4 * k)
        have b1 := HB.out (4 * k + 1)
        have b2 := HB.out (4 * k + 2)
        have b3 := HB.out (4 * k + 3)
        have hl := HL.out
        have c0 := QC_cell (cell_row h1 (4 * k) (row_get .u8 l (4 * k) (by omega)))
        have c1 := QC_cell (cell_row h1 (4 * k + 1) (row_get .u8 l (4 * k + 1) (by omega)))
        have c2 := QC_cell (cell_row h1 (4 * k + 2) (row_get .u8 l (4 * k + 2) (by omega)))
        have c3 := QC_cell (cell_row h1 (4 * k + 3) (row_get .u8 l (4 * k + 3) (by omega)))
        clear hl
        have HH := Lib.hid (And.intro h1 (And.intro h2 (And.intro h3 hbe)))
        have HN : Hid (nextW l (schedTo l k) k = wordI (l.getD (4 * k) 0) (l.getD (4 * k + 1) 0) (l.getD (4 * k + 2) 0) (l.getD (4 * k + 3) 0)) := Lib.hid (by unfold nextW; rw [if_pos h16])
        have HO := Lib.hid (or_word b0 b1 b2 b3)
        clear h1 h2 h3 hbe
        have hsl := slice4 w.heap.size k h16
        generalize l.getD (4 * k) 0 = n0 at *
        generalize l.getD (4 * k + 1) 0 = n1 at *
        generalize l.getD (4 * k + 2) 0 = n2 at *
        generalize l.getD (4 * k + 3) 0 = n3 at *
        have x0 : IntKind.u32.wrap n0 = n0 := by rw [IntKind.wrap_u32']; omega
        have x1 : IntKind.u32.wrap n1 = n1 := by rw [IntKind.wrap_u32']; omega
        have x2 : IntKind.u32.wrap n2 = n2 := by rw [IntKind.wrap_u32']; omega
        have x3 : IntKind.u32.wrap n3 = n3 := by rw [IntKind.wrap_u32']; omega
        have y0 : IntKind.u32.wrap (n0 * 16777216) = n0 * 16777216 := by rw [IntKind.wrap_u32']; omega
        have y1 : IntKind.u32.wrap (n1 * 65536) = n1 * 65536 := by rw [IntKind.wrap_u32']; omega
        have y2 : IntKind.u32.wrap (n2 * 256) = n2 * 256 := by rw [IntKind.wrap_u32']; omega
        have hS := @QC_all wr
        haveI := QC_inst wr
        go_wp2_with fail
        refine wp_region_head (QC wr) 24 (by kernel_rfl) (by kernel_rfl) (QC_start _) ?_
        simp only [List.take_succ_cons, List.take_zero, List.drop_succ_cons, List.drop_zero]
        repeat (first
          | (refine headG_step (fun K hK => ?_)
             go_simp
             first
               | (refine hK _ ?_; clear hK K)))
        refine headG_nil ?_
        intro w1 hw1
        clear hS c0 c1 c2 c3 x0 x1 x2 x3 y0 y1 y2
        have HR := Lib.hid (QC_blk1 hw1 HH.out.2.2.1)
        go_wp2_with (refine wl_store_int rfl 94 _ _ rfl rfl _ _ _ _ rfl rfl (by kernel_rfl) HR.out (by rw [rowU_size, schedTo_len]; omega) ?_; intro W3 g1 g2 g3; have HG := Lib.hid (And.intro g1 (And.intro g2 g3)); clear g1 g2 g3)
        go_roundw
        case rel =>
          obtain ⟨g1, g2, g3⟩ := HG.out
          refine ⟨k + 1, by omega, by go_num, (g2 _ (by omega)).trans (QC_blk1 hw1 HH.out.1), (g2 _ (by omega)).trans (QC_blk1 hw1 HH.out.2.1), ?_, g3 _ _ (by omega) (QC_below HH.out.2.2.2 hw1)⟩
          rw [g1, HO.out, rowU_set, schedTo, HN.out]
        case measure => simp [intOf]; omega
      · have hk0 := schedTo_len l k
        have c0 := QC_cell (cell_row h3 (k - 2) (rowU_get (schedTo l k) (k - 2) (by omega)))
        have c1 := QC_cell (cell_row h3 (k - 7) (rowU_get (schedTo l k) (k - 7) (by omega)))
        have c2 := QC_cell (cell_row h3 (k - 15) (rowU_get (schedTo l k) (k - 15) (by omega)))
        have c3 := QC_cell (cell_row h3 (k - 16) (rowU_get (schedTo l k) (k - 16) (by omega)))
        clear hk0
        have HH := Lib.hid (And.intro h1 (And.intro h2 (And.intro h3 hbe)))
        have HN : Hid (nextW l (schedTo l k) k = small1 ((schedTo l k).getD (k - 2) 0) + (schedTo l k).getD (k - 7) 0 + small0 ((schedTo l k).getD (k - 15) 0) + (schedTo l k).getD (k - 16) 0) := Lib.hid (by unfold nextW; rw [if_neg h16])
        clear h1 h2 h3 hbe
        generalize (schedTo l k).getD (k - 2) 0 = n0 at *
        generalize (schedTo l k).getD (k - 7) 0 = n1 at *
        generalize (schedTo l k).getD (k - 15) 0 = n2 at *
        generalize (schedTo l k).getD (k - 16) 0 = n3 at *
        have h16' : 16 ≤ k := by omega
        have s2 : IntKind.i64.wrap ((k : Int) - 2) = (k : Int) - 2 := by rw [IntKind.wrap_i64]; omega
        have s7 : IntKind.i64.wrap ((k : Int) - 7) = (k : Int) - 7 := by rw [IntKind.wrap_i64]; omega
        have s15 : IntKind.i64.wrap ((k : Int) - 15) = (k : Int) - 15 := by rw [IntKind.wrap_i64]; omega
        have s16 : IntKind.i64.wrap ((k : Int) - 16) = (k : Int) - 16 := by rw [IntKind.wrap_i64]; omega
        have u2 : (2 : Int) ≤ (k : Int) := by omega
        have v2 : 0 ≤ (k : Int) - 2 := by omega
        have z2 : (k : Int) - 2 < 64 := by omega
        have u7 : (7 : Int) ≤ (k : Int) := by omega
        have v7 : 0 ≤ (k : Int) - 7 := by omega
        have z7 : (k : Int) - 7 < 64 := by omega
        have u15 : (15 : Int) ≤ (k : Int) := by omega
        have v15 : 0 ≤ (k : Int) - 15 := by omega
        have z15 : (k : Int) - 15 < 64 := by omega
        have u16 : (16 : Int) ≤ (k : Int) := by omega
        have v16 : 0 ≤ (k : Int) - 16 := by omega
        have z16 : (k : Int) - 16 < 64 := by omega
        have t2 : ((k : Int) - 2).toNat = k - 2 := by omega
        have t7 : ((k : Int) - 7).toNat = k - 7 := by omega
        have t15 : ((k : Int) - 15).toNat = k - 15 := by omega
        have t16 : ((k : Int) - 16).toNat = k - 16 := by omega
        have hS := @QC_all wr
        haveI := QC_inst wr
        go_wp2_with fail
        refine wp_region_head (QC wr) 23 (by kernel_rfl) (by kernel_rfl) (QC_start _) ?_
        simp only [List.take_succ_cons, List.take_zero, List.drop_succ_cons, List.drop_zero]
        repeat (first
          | (refine headG_step (fun K hK => ?_)
             go_simp
             first
               | (refine hK _ ?_; clear hK K)
               | (apply Exists.intro
                  refine ⟨fun x => ?_, hK _ ?_⟩
                  (first
                    | (go_at_call 96; exact QC_call x (small1_any _ _))
                    | (go_at_call 97; exact QC_call x (small0_any _ _)))
                  clear hK K)))
        refine headG_nil ?_
        intro w1 hw1
        clear hS c0 c1 c2 c3 s2 s7 s15 s16 t2 t7 t15 t16 u2 u7 u15 u16 v2 v7 v15 v16 z2 z7 z15 z16
        have HR := Lib.hid (QC_blk1 hw1 HH.out.2.2.1)
        go_wp2_with (refine wl_store_int rfl 94 _ _ rfl rfl _ _ _ _ rfl rfl (by kernel_rfl) HR.out (by rw [rowU_size, schedTo_len]; omega) ?_; intro W3 g1 g2 g3; have HG := Lib.hid (And.intro g1 (And.intro g2 g3)); clear g1 g2 g3)
        go_roundw
        case rel =>
          obtain ⟨g1, g2, g3⟩ := HG.out
          refine ⟨k + 1, by omega, by go_num, (g2 _ (by omega)).trans (QC_blk1 hw1 HH.out.1), (g2 _ (by omega)).trans (QC_blk1 hw1 HH.out.2.1), ?_, g3 _ _ (by omega) (QC_below HH.out.2.2.2 hw1)⟩
          rw [g1, rowU_set, schedTo, HN.out]
        case measure => simp [intOf]; omega
    · obtain rfl : k = 64 := by omega
      have hs : schedTo l 64 = sched l := rfl
      rw [hs] at h3
      have hlen : (rowU (sched l)).size = 64 := by rw [rowU_size, ← hs, schedTo_len]
      clear hs
      go_wp2_with (first | (refine wpList_load_row rfl 111 _ rfl _ rfl _ _ _ _ h3 Tryd.underlying111 rfl (by rw [hlen]; kernel_rfl) ?_) | (refine wpList_store_rowTo rfl 111 _ _ rfl rfl _ _ rfl rfl _ _ h2 (by rw [hlen]; kernel_rfl) (by rw [hlen]; kernel_rfl) (rowU_one _) ?_))
      exact bodyPost_ret (results_cell_row (p := 2) (by kernel_rfl) _ _ _ _ _ _ _ rfl (setRow_heap _ _ _ _ _ _ h2) Tryd.underlying111 rfl (by rw [hlen]; kernel_rfl)) rfl ⟨rfl, below_row hbe (by omega) _⟩
end Go.Proofs.YtagdlbadkmgdmaaDoor
