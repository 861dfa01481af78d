/- The walks of slices.Clone of bytes, bytes.Equal, part.told, the reference's number and four. -/
import Derived.Test.YtjnimbhecfpnmaaConcat
import Derived.Test.YtjnimbhecfpnmaaRef03Sum
import Derived.Deep.QuietTactic
import Derived.BigQuiet
import Derived.Lib.SliceRun
namespace Go.Proofs.Ytjnimbhecfpnmaa
set_option maxRecDepth 100000
open Go.ChangeShapes Go.WideShapes Go.ChangeAt Go.RowKit

attribute [local go_sem] takes comesTo
theorem clone_any (b o : Nat) (v : Value) (l : List Int) (hn : l.length ≤ 1000000) (hv : SlV v b o l.length) (w : World) (hl : Lies w b o l) :
    Calls Try.prog 48 #[v] w fun e w' => ∃ v', e = .returned v' ∧ Own w.heap.size w' v' l ∧ Below w.heap.size w w' := by
  have HV := Lib.hid hv
  obtain ⟨a, cap, rfl, _, _, hp, hnone⟩ := hv
  have HL := Lib.hid (And.intro hl hn)
  have hq2 : ∀ (w : World) (a : Option Addr) (n c n' c' : Nat), (binOp .eql 24 (.slice a n c) (.slice none n' c')).run Try.prog w = .ok (.bool a.isNone) w := fun w a n c n' c' => Lib.run_eql_slice_nil w _ _ a n c n' c' Try.underlying24
  clear hl hn
  cases a with
  | none =>
    have h0 := hnone rfl
    have hq : l = [] := by
      rcases Nat.eq_zero_or_pos l.length with h | h
      · exact List.eq_nil_of_length_eq_zero h
      · exact absurd (hp h) (by simp)
    subst hq
    clear HV HL hp hnone
    go_enter Try.func48, Try.ntmps48
    go_wp2_with fail
    go_ret
    exact ⟨_, rfl, Own.nil _ _, Below.refl _ _⟩
  | some x =>
    have HO := Lib.hid (own_zero w w.heap.size (Nat.le_refl _))
    have HB := Lib.hid (below1 w (.cells #[] 5))
    clear hp hnone
    go_enter Try.func48, Try.ntmps48
    go_wp2_with ((at_builtin; refine wl_append_b rfl _ _ rfl w.heap.size _ _ rfl HO.out _ rfl b o l HV.out (HL.out.1.below HB.out) (by have := HL.out.2; simp; omega) HB.out.size ?_; intro v2 w2 hown2 hgrow2 hat2))
    have hb2 : Below w.heap.size w w2 := HB.out.grown hgrow2 HB.out.size (own_block HO.out)
    go_ret
    exact ⟨_, rfl, by simpa using hown2, hb2⟩

theorem conv_slv (b o : Nat) (v : Value) (l : List Int) (hv : SlV v b o l.length) (w : World) (hl : Lies w b o l) : (convert 24 9 v).run Try.prog w = .ok (.string (strOfNums l)) w := by
  obtain ⟨a, cap, rfl, _, _, hp, hnone⟩ := hv
  by_cases h : 0 < l.length
  · obtain rfl := hp h
    exact run_convert_bytes_arg w 24 5 Try.underlying24 Try.underlying5 b o l.length cap l rfl hl 9 Try.underlying9
  · have h0 : l = [] := List.eq_nil_of_length_eq_zero (by omega)
    subst h0
    cases a with
    | none => exact run_convert_bytes_nil w 24 5 Try.underlying24 Try.underlying5 0 cap 9 Try.underlying9
    | some x =>
      have h2 : (loadCells x 0).run Try.prog w = .ok (([] : List Int).map (Value.int .u8)).toArray w := by
        have := run_loadCells_list (P := Try.prog) w x [] (fun j v hj => by simp at hj)
        simpa using this
      rw [run_convert_bytes_string w 24 9 5 _ _ cap Try.underlying24 Try.underlying5 Try.underlying9, List.length_nil, run_bytesToString w _ _ cap [] h2]
      rfl
theorem nums_inj {l m : List Int} (hl : Bytes l) (hm : Bytes m) (h : strOfNums l = strOfNums m) : l = m := by
  have h2 := congrArg (fun b : ByteArray => b.data.toList) h
  simp only [strOfNums_data] at h2
  have hlen : l.length = m.length := by simpa using congrArg List.length h2
  refine List.ext_getElem hlen fun i h3 h4 => ?_
  have h5 := congrArg (fun x : List UInt8 => x[i]?) h2
  simp only [List.getElem?_map, List.getElem?_eq_getElem h3, List.getElem?_eq_getElem h4, Option.map_some, Option.some.injEq] at h5
  have b1 := hl i
  have b2 := hm i
  simp only [List.getD_eq_getElem?_getD, List.getElem?_eq_getElem h3, List.getElem?_eq_getElem h4, Option.getD_some] at b1 b2
  have h6 := congrArg UInt8.toNat h5
  simp only [UInt8.toNat_ofNat'] at h6
  omega
/-- two strings of bytes are the same when the bytes are -/
def sameB (l m : List Int) : Bool := decide (l = m)
theorem nums_eql {l m : List Int} (hl : Bytes l) (hm : Bytes m) : ((strOfNums l).toList == (strOfNums m).toList) = sameB l m := by
  unfold sameB
  by_cases h : l = m
  · subst h
    simp
  · rw [decide_eq_false h]
    refine beq_false_of_ne fun e => h (nums_inj hl hm ?_)
    rw [ByteArray.toList_eq, ByteArray.toList_eq] at e
    exact ByteArray.ext (Array.toList_inj.1 e)
theorem equal_any (b o b2 o2 : Nat) (v v2 : Value) (l m : List Int) (bl : Bytes l) (bm : Bytes m) (hv : SlV v b o l.length) (hv2 : SlV v2 b2 o2 m.length) (w : World) (hl : Lies w b o l) (hm : Lies w b2 o2 m) :
    Calls Try.prog 49 #[v, v2] w fun e w' => e = .returned (.bool (sameB l m)) ∧ w = w' := by
  have c1 := conv_slv b o v l hv w hl
  have c2 := conv_slv b2 o2 v2 m hv2 w hm
  have HE := Lib.hid (nums_eql bl bm)
  generalize strOfNums l = s1 at *
  generalize strOfNums m = s2 at *
  clear hl hm bl bm hv hv2
  go_enter Try.func49, Try.ntmps49
  go_wp2_with fail
  go_ret
  refine ⟨?_, rfl⟩
  rw [HE.out]
  rfl
theorem below_drewN (w : World) : ∀ n, Below w.heap.size w (w.drewN n)
  | 0 => Below.refl _ w
  | n + 1 => (below_drewN w n).drew
theorem or_add (k A B : Nat) (hA : 2 ^ k * A + B < 9223372036854775808) (hB : B < 2 ^ k) : bits .or .i64 ((2 ^ k * A : Nat) : Int) (B : Int) = ((2 ^ k * A + B : Nat) : Int) := by
  have e := Nat.two_pow_add_eq_or_of_lt hB A
  have o1 : (BitVec.ofInt 64 ((2 ^ k * A : Nat) : Int)).toNat = 2 ^ k * A := by rw [BitVec.ofInt_natCast, BitVec.toNat_ofNat]; exact Nat.mod_eq_of_lt (by omega)
  have o2 : (BitVec.ofInt 64 (B : Int)).toNat = B := by rw [BitVec.ofInt_natCast, BitVec.toNat_ofNat]; exact Nat.mod_eq_of_lt (by omega)
  show IntKind.i64.wrap ((BitVec.ofInt 64 ((2 ^ k * A : Nat) : Int) ||| BitVec.ofInt 64 (B : Int)).toNat : Int) = _
  rw [BitVec.toNat_or, o1, o2, ← e, IntKind.wrap_i64]
  omega
theorem or_four (x0 x1 x2 x3 : Int) (y0 : 0 ≤ x0 ∧ x0 ≤ 255) (y1 : 0 ≤ x1 ∧ x1 ≤ 255) (y2 : 0 ≤ x2 ∧ x2 ≤ 255) (y3 : 0 ≤ x3 ∧ x3 ≤ 255) :
    bits .or .i64 (bits .or .i64 (bits .or .i64 (x0 * 16777216) (x1 * 65536)) (x2 * 256)) x3 = 16777216 * x0 + 65536 * x1 + 256 * x2 + x3 := by
  obtain ⟨a, rfl⟩ := Int.eq_ofNat_of_zero_le y0.1
  obtain ⟨b, rfl⟩ := Int.eq_ofNat_of_zero_le y1.1
  obtain ⟨c, rfl⟩ := Int.eq_ofNat_of_zero_le y2.1
  obtain ⟨d, rfl⟩ := Int.eq_ofNat_of_zero_le y3.1
  have h1 := or_add 24 a (b * 65536) (by omega) (by omega)
  have h2 := or_add 16 (256 * a + b) (c * 256) (by omega) (by omega)
  have h3 := or_add 8 (65536 * a + 256 * b + c) d (by omega) (by omega)
  have e0 : ((a : Int) * 16777216) = ((2 ^ 24 * a : Nat) : Int) := by omega
  have e1 : ((b : Int) * 65536) = ((b * 65536 : Nat) : Int) := by omega
  have e2 : ((c : Int) * 256) = ((c * 256 : Nat) : Int) := by omega
  have e3 : (2 ^ 24 * a + b * 65536) = 2 ^ 16 * (256 * a + b) := by omega
  have e4 : (2 ^ 16 * (256 * a + b) + c * 256) = 2 ^ 8 * (65536 * a + 256 * b + c) := by omega
  rw [e0, e1, e2, h1, e3, h2, e4, h3]
  omega
/-- the number of four bytes -/
def ptoldF (l : List Int) : Int := 16777216 * l.getD 0 0 + 65536 * l.getD 1 0 + 256 * l.getD 2 0 + l.getD 3 0
theorem ptold_any (b o : Nat) (v : Value) (l : List Int) (bl : Bytes l) (hn : 4 ≤ l.length) (hv : SlV v b o l.length) (w : World) (hl : Lies w b o l) :
    Calls Try.prog 47 #[v] w fun e w' => e = .returned (.int .i64 (ptoldF l)) ∧ Below w.heap.size w w' := by
  have y0 := bl 0
  have y1 := bl 1
  have y2 := bl 2
  have y3 := bl 3
  have c0 := hl 0 (by omega)
  rw [Nat.add_zero] at c0
  have c1 := hl 1 (by omega)
  have c2 := hl 2 (by omega)
  have c3 := hl 3 (by omega)
  obtain ⟨a, cap, rfl, _, _, hp, hnone⟩ := hv
  obtain rfl := hp (by omega)
  have i0 : (0 : Int) < (l.length : Int) := by omega
  have i1 : (1 : Int) < (l.length : Int) := by omega
  have i2 : (2 : Int) < (l.length : Int) := by omega
  have i3 : (3 : Int) < (l.length : Int) := by omega
  unfold ptoldF
  generalize l.getD 0 0 = x0 at *
  generalize l.getD 1 0 = x1 at *
  generalize l.getD 2 0 = x2 at *
  generalize l.getD 3 0 = x3 at *
  generalize l.length = len at *
  clear hl bl hp hnone hn
  go_enter Try.func47, Try.ntmps47
  go_wp2_with fail
  have j0 : 0 < len := by omega
  have j1 : 1 < len := by omega
  have j2 : 2 < len := by omega
  have j3 : 3 < len := by omega
  have HY := Lib.hid (or_four x0 x1 x2 x3 y0 y1 y2 y3)
  go_quiet (fail)
  go_wp2_with fail
  go_ret
  refine ⟨?_, below_drewN w nq⟩
  rw [← HY.out]
  rfl
theorem rnumber_any (b o : Nat) (v : Value) (l : List Int) (bl : Bytes l) (hn : 4 ≤ l.length) (hv : SlV v b o l.length) (w : World) (hl : Lies w b o l) :
    Calls Try.prog 50 #[v] w fun e w' => e = .returned (.int .i64 (ptoldF l)) ∧ Below w.heap.size w w' := by
  have y0 := bl 0
  have y1 := bl 1
  have y2 := bl 2
  have y3 := bl 3
  have c0 := hl 0 (by omega)
  rw [Nat.add_zero] at c0
  have c1 := hl 1 (by omega)
  have c2 := hl 2 (by omega)
  have c3 := hl 3 (by omega)
  obtain ⟨a, cap, rfl, _, _, hp, hnone⟩ := hv
  obtain rfl := hp (by omega)
  have i0 : (0 : Int) < (l.length : Int) := by omega
  have i1 : (1 : Int) < (l.length : Int) := by omega
  have i2 : (2 : Int) < (l.length : Int) := by omega
  have i3 : (3 : Int) < (l.length : Int) := by omega
  unfold ptoldF
  generalize l.getD 0 0 = x0 at *
  generalize l.getD 1 0 = x1 at *
  generalize l.getD 2 0 = x2 at *
  generalize l.getD 3 0 = x3 at *
  generalize l.length = len at *
  clear hl bl hp hnone hn
  go_enter Try.func50, Try.ntmps50
  go_wp2_with fail
  have j0 : 0 < len := by omega
  have j1 : 1 < len := by omega
  have j2 : 2 < len := by omega
  have j3 : 3 < len := by omega
  go_quiet (fail)
  go_wp2_with fail
  go_ret
  exact ⟨rfl, below_drewN w nq⟩
theorem rfour_any (n : Int) (h0 : 0 ≤ n) (h1 : n ≤ 2147483647) (w : World) :
    Calls Try.prog 46 #[.int .i64 n] w fun e w' => e = .returned (.slice (some ⟨w.heap.size, 0, none⟩) 4 4) ∧ w' = w.alloc (.cells (row .u8 (fourF n)) 5) := by
  obtain ⟨a, ha⟩ : ∃ a, a = n / 16777216 % 256 := ⟨_, rfl⟩
  obtain ⟨b, hb'⟩ : ∃ a, a = n / 65536 % 256 := ⟨_, rfl⟩
  obtain ⟨c, hc⟩ : ∃ a, a = n / 256 % 256 := ⟨_, rfl⟩
  obtain ⟨d, hd⟩ : ∃ a, a = n % 256 := ⟨_, rfl⟩
  have hf : fourF n = [a, b, c, d] := by rw [ha, hb', hc, hd]; rfl
  rw [hf]
  have g1 : (0 : Int) ≤ n / 16777216 := by omega
  have g2 : (0 : Int) ≤ n / 65536 := by omega
  have g3 : (0 : Int) ≤ n / 256 := by omega
  have s1 := ha.symm
  have s2 := hb'.symm
  have s3 := hc.symm
  have s4 := hd.symm
  clear ha hb' hc hd hf
  go_enter Try.func46, Try.ntmps46
  go_wp2_with fail

  go_ret
  exact ⟨rfl, rfl⟩
end Go.Proofs.Ytjnimbhecfpnmaa
