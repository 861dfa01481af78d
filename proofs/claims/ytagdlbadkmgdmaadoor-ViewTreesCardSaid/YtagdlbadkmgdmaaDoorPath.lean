/- Paths: bindle/path.Copy, Under, strings.CutPrefix, bindleref06.Copy, Under. -/
import Derived.Test.YtagdlbadkmgdmaaDoorNum
import Derived.Test.YtagdlbadkmgdmaaDoorVec
import Derived.Lib.Strings
import Derived.Lib.Slices
import Derived.Lib.Walk
import Derived.ChangeArms
import Derived.Deep.Cut
namespace Go.Proofs.YtagdlbadkmgdmaaDoor
set_option maxRecDepth 100000
open Go.ChangeShapes Go.WideShapes Go.ChangeAt Go.RowKit

/-- the path of a copy -/
def copyB (s : ByteArray) (d : Dt) : ByteArray := s ++ ⟨#[126]⟩ ++ numB d.1 ++ ⟨#[45]⟩ ++ numB d.2
/-- lies a path below another one? -/
def underL (l d : List UInt8) : Bool := decide (d.length + 1 < l.length) && (l.take d.length == d) && (l.getD d.length 0 == 47)
def underB (s d : ByteArray) : Bool := underL s.data.toList d.data.toList
attribute [local irreducible] SlV Lies headG slotG
attribute [local go_sem] takes takesE comesTo comesToP
set_option maxHeartbeats 4000000 in
theorem pcopy_any (s : ByteArray) (d : Dt) (hs : s.size ≤ 1000000000000000) (h0 : -9223372036854775808 ≤ d.1) (h1 : d.1 ≤ 9223372036854775807) (h2 : -9223372036854775808 ≤ d.2) (h3 : d.2 ≤ 9223372036854775807) (w : World) (ht : Tab w) :
    Calls Tryd.prog 32 #[.string s, .agg #[.int .i64 d.1, .int .i64 d.2]] w fun e w' => e = .returned (.string (copyB s d)) ∧ Below w.heap.size w w' := by
  obtain ⟨p, q⟩ := d
  dsimp only at h0 h1 h2 h3 ⊢
  obtain ⟨W1, hW1⟩ : ∃ W, W = w.alloc (.cells #[.int .i64 p, .int .i64 q] 34) := ⟨_, rfl⟩
  obtain ⟨g1, hg1⟩ : ∃ g, g = w.heap.size := ⟨_, rfl⟩
  have n1 := heap_alloc_new w (.cells #[.int .i64 p, .int .i64 q] 34)
  have b1 := below1 w (.cells #[.int .i64 p, .int .i64 q] 34)
  rw [← hW1, ← hg1] at n1
  rw [← hW1] at b1
  have c0 : ∀ x : HW (BC W1), x.w.cell? ⟨g1, 0, none⟩ = some (.int .i64 p) := fun x => cell_row (BC_blk1 x.h n1) 0 rfl
  have c1 : ∀ x : HW (BC W1), x.w.cell? ⟨g1, 1, none⟩ = some (.int .i64 q) := fun x => cell_row (BC_blk1 x.h n1) 1 rfl
  have z1 := numB_size p h0 h1
  have z2 := numB_size q h2 h3
  obtain ⟨y1, hy1⟩ : ∃ x, x = numB p := ⟨_, rfl⟩
  obtain ⟨y2, hy2⟩ : ∃ x, x = numB q := ⟨_, rfl⟩
  have HN1 : Hid (∀ x : HW (BC W1), Calls Tryd.prog 53 #[.int .i64 p] x.w fun e w' => e = .returned (.string y1) ∧ Below x.w.heap.size x.w w') := Lib.hid fun x => by rw [hy1]; exact hexnum_any p h0 h1 x.w ((ht.to b1).to x.h)
  have HN2 : Hid (∀ x : HW (BC W1), Calls Tryd.prog 53 #[.int .i64 q] x.w fun e w' => e = .returned (.string y2) ∧ Below x.w.heap.size x.w w') := Lib.hid fun x => by rw [hy2]; exact hexnum_any q h2 h3 x.w ((ht.to b1).to x.h)
  have hcp : copyB s (p, q) = s ++ ⟨#[126]⟩ ++ y1 ++ ⟨#[45]⟩ ++ y2 := by rw [hy1, hy2]; rfl
  rw [← hy1] at z1
  rw [← hy2] at z2
  obtain ⟨x1, e1⟩ : ∃ x : ByteArray, s ++ ⟨#[126]⟩ = x := ⟨_, rfl⟩
  obtain ⟨x2, e2⟩ : ∃ x : ByteArray, x1 ++ y1 = x := ⟨_, rfl⟩
  obtain ⟨x3, e3⟩ : ∃ x : ByteArray, x2 ++ ⟨#[45]⟩ = x := ⟨_, rfl⟩
  have l1 : x1.size = s.size + 1 := by rw [← e1, ByteArray.size_append]; rfl
  have l2 : x2.size = x1.size + y1.size := by rw [← e2, ByteArray.size_append]
  have l3 : x3.size = x2.size + 1 := by rw [← e3, ByteArray.size_append]; rfl
  have f1 : ¬ (9223372036854775807 : Nat) < s.size + 1 := by omega
  have f2 : ¬ (9223372036854775807 : Nat) < x1.size + y1.size := by omega
  have f3 : ¬ (9223372036854775807 : Nat) < x2.size + 1 := by omega
  have f4 : ¬ (9223372036854775807 : Nat) < x3.size + y2.size := by omega
  rw [e1, e2, e3] at hcp
  rw [hcp]
  have HM := Lib.hid (And.intro hW1 (And.intro hg1 b1))
  clear hW1 hg1 n1 b1 z1 z2 hy1 hy2 hcp l1 l2 l3 h0 h1 h2 h3 hs ht
  go_enter Tryd.func32, Tryd.ntmps32
  go_upto_region 1 with fail
  rw [← HM.out.1, ← HM.out.2.1]
  refine wp_region_slots (by kernel_rfl) (by kernel_rfl) (by kernel_rfl) [none, none, none, none, none, none, none, none, none, none, none, none] ?_
  repeat (first
    | (refine slotG_oneN (fun K hK => ?_)
       apply Exists.intro
       refine ⟨fun x u hF => ?_, ?_⟩
       (focus (go_simp
               first
                 | (go_at_call 53; first | (with_reducible refine (HN1.out x).mono ?_) | (with_reducible refine (HN2.out x).mono ?_)
                    rintro e w' ⟨rfl, hz⟩
                    exact ⟨rfl, hz⟩)
                 | (exact rfl)
                 | (exact ⟨rfl, BC_refl _⟩)))
       apply Exists.intro
       refine ⟨fun u => ?_, ?_⟩
       (focus (go_simp; try exact rfl))
       refine hK _ ?_
       clear hK K))
  refine slotG_end ?_
  intro wy u hby hall
  have HB := Lib.hid (show Below w.heap.size w wy from BC_trans HM.out.2.2 hby)
  clear hby hall
  go_wp2_with fail
  go_ret
  exact ⟨rfl, HB.out⟩
set_option maxHeartbeats 4000000 in
theorem rcopy_any (s : ByteArray) (d : Dt) (hs : s.size ≤ 1000000000000000) (h0 : -9223372036854775808 ≤ d.1) (h1 : d.1 ≤ 9223372036854775807) (h2 : -9223372036854775808 ≤ d.2) (h3 : d.2 ≤ 9223372036854775807) (w : World) :
    Calls Tryd.prog 12 #[.string s, .agg #[.int .i64 d.1, .int .i64 d.2]] w fun e w' => e = .returned (.string (copyB s d)) ∧ Below w.heap.size w w' := by
  obtain ⟨p, q⟩ := d
  dsimp only at h0 h1 h2 h3 ⊢
  obtain ⟨W1, hW1⟩ : ∃ W, W = w.alloc (.cells #[.int .i64 p, .int .i64 q] 34) := ⟨_, rfl⟩
  obtain ⟨g1, hg1⟩ : ∃ g, g = w.heap.size := ⟨_, rfl⟩
  have n1 := heap_alloc_new w (.cells #[.int .i64 p, .int .i64 q] 34)
  have b1 := below1 w (.cells #[.int .i64 p, .int .i64 q] 34)
  rw [← hW1, ← hg1] at n1
  rw [← hW1] at b1
  have c0 : ∀ x : HW (BC W1), x.w.cell? ⟨g1, 0, none⟩ = some (.int .i64 p) := fun x => cell_row (BC_blk1 x.h n1) 0 rfl
  have c1 : ∀ x : HW (BC W1), x.w.cell? ⟨g1, 1, none⟩ = some (.int .i64 q) := fun x => cell_row (BC_blk1 x.h n1) 1 rfl
  have z1 := numB_size p h0 h1
  have z2 := numB_size q h2 h3
  obtain ⟨y1, hy1⟩ : ∃ x, x = numB p := ⟨_, rfl⟩
  obtain ⟨y2, hy2⟩ : ∃ x, x = numB q := ⟨_, rfl⟩
  have HN1 : Hid (∀ x : HW (BC W1), Calls Tryd.prog 36 #[.int .i64 p] x.w fun e w' => e = .returned (.string y1) ∧ Below x.w.heap.size x.w w') := Lib.hid fun x => by rw [hy1]; exact rnum_any p h0 h1 x.w
  have HN2 : Hid (∀ x : HW (BC W1), Calls Tryd.prog 36 #[.int .i64 q] x.w fun e w' => e = .returned (.string y2) ∧ Below x.w.heap.size x.w w') := Lib.hid fun x => by rw [hy2]; exact rnum_any q h2 h3 x.w
  have hcp : copyB s (p, q) = s ++ ⟨#[126]⟩ ++ y1 ++ ⟨#[45]⟩ ++ y2 := by rw [hy1, hy2]; rfl
  rw [← hy1] at z1
  rw [← hy2] at z2
  obtain ⟨x1, e1⟩ : ∃ x : ByteArray, s ++ ⟨#[126]⟩ = x := ⟨_, rfl⟩
  obtain ⟨x2, e2⟩ : ∃ x : ByteArray, x1 ++ y1 = x := ⟨_, rfl⟩
  obtain ⟨x3, e3⟩ : ∃ x : ByteArray, x2 ++ ⟨#[45]⟩ = x := ⟨_, rfl⟩
  have l1 : x1.size = s.size + 1 := by rw [← e1, ByteArray.size_append]; rfl
  have l2 : x2.size = x1.size + y1.size := by rw [← e2, ByteArray.size_append]
  have l3 : x3.size = x2.size + 1 := by rw [← e3, ByteArray.size_append]; rfl
  have f1 : ¬ (9223372036854775807 : Nat) < s.size + 1 := by omega
  have f2 : ¬ (9223372036854775807 : Nat) < x1.size + y1.size := by omega
  have f3 : ¬ (9223372036854775807 : Nat) < x2.size + 1 := by omega
  have f4 : ¬ (9223372036854775807 : Nat) < x3.size + y2.size := by omega
  rw [e1, e2, e3] at hcp
  rw [hcp]
  have HM := Lib.hid (And.intro hW1 (And.intro hg1 b1))
  clear hW1 hg1 n1 b1 z1 z2 hy1 hy2 hcp l1 l2 l3 h0 h1 h2 h3 hs
  go_enter Tryd.func12, Tryd.ntmps12
  go_upto_region 1 with fail
  rw [← HM.out.1, ← HM.out.2.1]
  refine wp_region_slots (by kernel_rfl) (by kernel_rfl) (by kernel_rfl) [none, none, none, none, none, none, none, none, none, none, none, none] ?_
  repeat (first
    | (refine slotG_oneN (fun K hK => ?_)
       apply Exists.intro
       refine ⟨fun x u hF => ?_, ?_⟩
       (focus (go_simp
               first
                 | (go_at_call 36; first | (with_reducible refine (HN1.out x).mono ?_) | (with_reducible refine (HN2.out x).mono ?_)
                    rintro e w' ⟨rfl, hz⟩
                    exact ⟨rfl, hz⟩)
                 | (exact rfl)
                 | (exact ⟨rfl, BC_refl _⟩)))
       apply Exists.intro
       refine ⟨fun u => ?_, ?_⟩
       (focus (go_simp; try exact rfl))
       refine hK _ ?_
       clear hK K))
  refine slotG_end ?_
  intro wy u hby hall
  have HB := Lib.hid (show Below w.heap.size w wy from BC_trans HM.out.2.2 hby)
  clear hby hall
  go_wp2_with fail
  go_ret
  exact ⟨rfl, HB.out⟩
set_option maxHeartbeats 1000000 in
theorem cutPrefix_any (s p : ByteArray) (w : World) :
    Calls Tryd.prog 67 #[.string s, .string p] w fun e w' => e = .returned (.tuple #[.string ⟨(Lib.trimPrefix s.data.toList p.data.toList).toArray⟩, .bool (Lib.hasPrefix s.data.toList p.data.toList)]) ∧ w' = w := by
  go_enter Tryd.func67, Tryd.ntmps67
  go_wp2
  · have h2 : (!((s.extract 0 p.size).toList == p.toList)) = true := by assumption
    have h3 : (decide (p.size ≤ s.size) && ((s.extract 0 p.size).toList == p.toList)) = false := by
      have : ((s.extract 0 p.size).toList == p.toList) = false := by simpa using h2
      rw [this]
      simp
    go_ret2
    refine ⟨?_, rfl⟩
    rw [Lib.trimPrefix_miss s p h3, ← Lib.hasPrefix_raw, h3]
    rfl
  · have h1 : p.size ≤ s.size := by assumption
    have h2 : (!((s.extract 0 p.size).toList == p.toList)) = false := by assumption
    have h2' : ((s.extract 0 p.size).toList == p.toList) = true := by simpa using h2
    go_ret2
    refine ⟨?_, rfl⟩
    rw [Lib.trimPrefix_hit s p h1 h2', ← Lib.hasPrefix_raw, h2', decide_eq_true h1]
    rfl
  · have h1 : ¬ p.size ≤ s.size := by assumption
    have h3 : (decide (p.size ≤ s.size) && ((s.extract 0 p.size).toList == p.toList)) = false := by simp [h1]
    go_ret2
    refine ⟨?_, rfl⟩
    rw [Lib.trimPrefix_miss s p h3, ← Lib.hasPrefix_raw, h3]
    rfl
theorem under_cut (l d : List UInt8) : underL l d = (Lib.hasPrefix l (d ++ [47]) && !(Lib.trimPrefix l (d ++ [47]) == [])) := by
  cases h : Lib.hasPrefix l (d ++ [47]) with
  | true =>
    rw [Lib.trimPrefix, if_pos h]
    obtain ⟨t, rfl⟩ := List.isPrefixOf_iff_prefix.1 h
    unfold underL
    cases t with
    | nil => simp
    | cons a t => simp [List.getD]
  | false =>
    rw [Bool.false_and]
    cases hu : underL l d with
    | false => rfl
    | true =>
      unfold underL at hu
      rw [Bool.and_eq_true, Bool.and_eq_true] at hu
      obtain ⟨⟨h1, h2⟩, h3⟩ := hu
      have h1 := of_decide_eq_true h1
      have h2 := eq_of_beq h2
      have h3 := eq_of_beq h3
      have hlt : d.length < l.length := by omega
      rw [List.getD, List.getElem?_eq_getElem hlt, Option.getD_some] at h3
      have hp : (d ++ [47]) <+: l := by
        refine ⟨l.drop (d.length + 1), ?_⟩
        have e := List.take_append_drop d.length l
        rw [List.drop_eq_getElem_cons hlt, h2, h3] at e
        rw [List.append_assoc]
        exact e
      rw [show Lib.hasPrefix l (d ++ [47]) = true from List.isPrefixOf_iff_prefix.2 hp] at h
      cases h
set_option maxHeartbeats 1000000 in
theorem under_any (s d : ByteArray) (hd : d.size ≤ 1000000000000000) (w : World) :
    Calls Tryd.prog 52 #[.string s, .string d] w fun e w' => e = .returned (.bool (underB s d)) ∧ Below w.heap.size w w' := by
  have f1 : ¬ (9223372036854775807 : Nat) < d.size + 1 := by omega
  have HC := Lib.hid (cutPrefix_any s (d ++ ⟨#[47]⟩))
  obtain ⟨P, hP⟩ : ∃ x : ByteArray, d ++ ⟨#[47]⟩ = x := ⟨_, rfl⟩
  obtain ⟨R, hR⟩ : ∃ x : ByteArray, x = ⟨(Lib.trimPrefix s.data.toList P.data.toList).toArray⟩ := ⟨_, rfl⟩
  obtain ⟨b, hb⟩ : ∃ x, x = Lib.hasPrefix s.data.toList P.data.toList := ⟨_, rfl⟩
  have hu : underB s d = (b && !(R.data.toList == [])) := by
    have e : P.data.toList = d.data.toList ++ [47] := by rw [← hP, ByteArray.data_append]; simp
    rw [underB, under_cut, hb, hR, e]
  rw [hP, ← hR, ← hb] at HC
  rw [hu]
  clear hR hb hu hd
  go_enter Tryd.func52, Tryd.ntmps52
  go_wp2_with fail
  refine (HC.out w).mono ?_
  rintro e w' ⟨rfl, rfl⟩
  cases b with
  | false =>
    go_wp2_with fail
    go_ret
    exact ⟨rfl, Below.refl _ _⟩
  | true =>
    go_wp2_with fail
    go_ret
    refine ⟨?_, Below.refl _ _⟩
    have e : R.toList = R.data.toList := Lib.toList_data R
    rw [e]
    cases R.data.toList <;> rfl
theorem under_take (s d : ByteArray) : (s.extract 0 d.size).toList = s.data.toList.take d.data.toList.length := by
  rw [Lib.extract_toList, Lib.size_eq]
  simp
set_option maxHeartbeats 1000000 in
theorem runder_any (s d : ByteArray) (hd : d.size ≤ 1000000000000000) (w : World) :
    Calls Tryd.prog 13 #[.string s, .string d] w fun e w' => e = .returned (.bool (underB s d)) ∧ Below w.heap.size w w' := by
  obtain ⟨n, hn⟩ : ∃ n, n = s.size := ⟨_, rfl⟩
  obtain ⟨m, hm⟩ : ∃ n, n = d.size := ⟨_, rfl⟩
  have hnl : s.data.toList.length = n := by rw [hn, Lib.size_eq]
  have hml : d.data.toList.length = m := by rw [hm, Lib.size_eq]
  have s1 : IntKind.i64.wrap ((m : Int) + 1) = (m : Int) + 1 := by rw [IntKind.wrap_i64]; omega
  rw [hm] at s1
  rcases Nat.lt_or_ge (m + 1) n with h | h
  · have i1 : (d.size : Int) + 1 < (s.size : Int) := by omega
    have i2 : (d.size : Int) ≤ (s.size : Int) := by omega
    have i3 : d.size ≤ s.size := by omega
    have i4 : d.size < s.size := by omega
    obtain ⟨b, hb⟩ : ∃ b, b = ((s.extract 0 d.size).toList == d.toList) := ⟨_, rfl⟩
    obtain ⟨c, hc⟩ : ∃ c : UInt8, c = s.data.toList.getD d.size 0 := ⟨_, rfl⟩
    have hidx : ∀ W, (Instr.index 9 (.string s) (.int .i64 (d.size : Int))).run Tryd.prog W = .ok (.int .u8 (c.toNat : Int)) W := fun W => by
      rw [run_index_string W 9 s .i64 _ Tryd.underlying9, dif_pos ⟨by omega, by omega⟩]
      have e : ((d.size : Int)).toNat = d.size := by omega
      simp only [e]
      rw [hc, Lib.getD_at]
    have hu : underB s d = (b && (c == 47)) := by
      unfold underB underL
      have hd2 : d.toList = d.data.toList := Lib.toList_data d
      rw [hnl, decide_eq_true (by omega), Bool.true_and, hb, hc, under_take, hd2, hml, ← hm]
    rw [hu]
    have hbb := hb.symm
    have HZ := Lib.hid (And.intro hn hm)
    clear hn hm hu hb hc hnl hml h hd
    cases b with
    | false =>
      go_enter Tryd.func13, Tryd.ntmps13
      go_wp2_with fail
      go_ret
      exact ⟨rfl, Below.refl _ _⟩
    | true =>
      by_cases h47 : (c.toNat : Int) = 47
      · have hc47 : (c == 47) = true := by
          rw [beq_iff_eq]
          apply UInt8.toNat_inj.1
          show c.toNat = 47
          omega
        rw [hc47]
        rw [h47] at hidx
        clear h47 hc47
        go_enter Tryd.func13, Tryd.ntmps13
        go_wp2_with fail
        go_ret
        exact ⟨rfl, Below.refl _ _⟩
      · have hc47 : (c == 47) = false := by
          rw [beq_eq_false_iff_ne]
          rintro rfl
          exact h47 rfl
        rw [hc47]
        have hbe : ((c.toNat : Int) == 47) = false := beq_eq_false_iff_ne.2 h47
        clear hc47
        go_enter Tryd.func13, Tryd.ntmps13
        go_wp2_with fail
        go_ret
        exact ⟨rfl, Below.refl _ _⟩
  · have i1 : ¬ (d.size : Int) + 1 < (s.size : Int) := by omega
    have hu : underB s d = false := by
      unfold underB underL
      rw [hnl, hml, decide_eq_false (by omega), Bool.false_and, Bool.false_and]
    rw [hu]
    clear hn hm hu hnl hml h hd
    go_enter Tryd.func13, Tryd.ntmps13
    go_wp2_with fail
    go_ret
    exact ⟨rfl, Below.refl _ _⟩
end Go.Proofs.YtagdlbadkmgdmaaDoor
