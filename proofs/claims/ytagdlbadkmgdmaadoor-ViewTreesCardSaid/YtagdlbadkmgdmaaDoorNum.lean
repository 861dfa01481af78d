/- A number's text: strconv.FormatInt off the shelf, bindle/hexa.Number, bindleref04.Number. -/
import Derived.Test.YtagdlbadkmgdmaaDoorGen
import Derived.Test.YtagdlbadkmgdmaaDoorSlots
import Derived.Shelf.Strconv.Itoa4
import Derived.Lib.AppendIntMem
import Derived.Lib.ItoaLen
import Derived.Laws.BytesArg
import Derived.ChangeArms
import Derived.Deep.Cut
namespace Go.Proofs.YtagdlbadkmgdmaaDoor
set_option maxRecDepth 100000
open Go.ChangeShapes Go.WideShapes Go.ChangeAt Go.RowKit
def lays173_ren : Go.Shelf.Ren := ⟨fun | 173 => 68 | 246 => 84 | 283 => 91 | 284 => 92 | 285 => 93 | 286 => 94 | 129 => 103 | 317 => 102 | 318 => 104 | 319 => 105 | 320 => 106 | 337 => 108 | 338 => 109 | n => n, fun | 2 => 2 | 3 => 3 | 9 => 9 | 4 => 4 | 171 => 141 | 0 => 0 | 53 => 142 | 37 => 57 | 5 => 5 | 173 => 145 | 212 => 149 | 51 => 94 | 20 => 20 | 213 => 150 | 46 => 131 | 232 => 35 | 233 => 96 | n => n, fun | 17 => 0 | 18 => 1 | 19 => 2 | n => n⟩
theorem lays173 : Go.Proofs.LaysM.n173 Tryd.prog lays173_ren where
  mixed := by kernel_rfl
  f129 := Tryd.func103.trans (congrArg some (by kernel_rfl))
  f173 := Tryd.func68.trans (congrArg some (by kernel_rfl))
  f246 := Tryd.func84.trans (congrArg some (by kernel_rfl))
  f283 := Tryd.func91.trans (congrArg some (by kernel_rfl))
  f284 := Tryd.func92.trans (congrArg some (by kernel_rfl))
  f285 := Tryd.func93.trans (congrArg some (by kernel_rfl))
  f286 := Tryd.func94.trans (congrArg some (by kernel_rfl))
  f317 := Tryd.func102.trans (congrArg some (by kernel_rfl))
  f318 := Tryd.func104.trans (congrArg some (by kernel_rfl))
  f319 := Tryd.func105.trans (congrArg some (by kernel_rfl))
  f320 := Tryd.func106.trans (congrArg some (by kernel_rfl))
  f337 := Tryd.func108.trans (congrArg some (by kernel_rfl))
  f338 := Tryd.func109.trans (congrArg some (by kernel_rfl))
  t0 := Tryd.underlying0
  a0 := Tryd.isAgg0
  z0 := Tryd.sizeOf0
  v0 := Tryd.zeroValue0
  t2 := Tryd.underlying2
  a2 := Tryd.isAgg2
  z2 := Tryd.sizeOf2
  v2 := Tryd.zeroValue2
  t3 := Tryd.underlying3
  a3 := Tryd.isAgg3
  z3 := Tryd.sizeOf3
  v3 := Tryd.zeroValue3
  t4 := Tryd.underlying4
  a4 := Tryd.isAgg4
  z4 := Tryd.sizeOf4
  v4 := Tryd.zeroValue4
  t5 := Tryd.underlying5
  a5 := Tryd.isAgg5
  z5 := Tryd.sizeOf5
  v5 := Tryd.zeroValue5
  t9 := Tryd.underlying9
  a9 := Tryd.isAgg9
  z9 := Tryd.sizeOf9
  v9 := Tryd.zeroValue9
  t20 := Tryd.underlying20
  a20 := Tryd.isAgg20
  z20 := Tryd.sizeOf20
  v20 := Tryd.zeroValue20
  t37 := Tryd.underlying57
  a37 := Tryd.isAgg57
  z37 := Tryd.sizeOf57
  v37 := Tryd.zeroValue57
  t46 := Tryd.underlying131
  a46 := Tryd.isAgg131
  z46 := Tryd.sizeOf131
  v46 := Tryd.zeroValue131
  t51 := Tryd.underlying94
  a51 := Tryd.isAgg94
  z51 := Tryd.sizeOf94
  v51 := Tryd.zeroValue94
  t53 := Tryd.underlying142
  a53 := Tryd.isAgg142
  z53 := Tryd.sizeOf142
  v53 := Tryd.zeroValue142
  t171 := Tryd.underlying141
  a171 := Tryd.isAgg141
  z171 := Tryd.sizeOf141
  v171 := Tryd.zeroValue141
  t173 := Tryd.underlying145
  a173 := Tryd.isAgg145
  z173 := Tryd.sizeOf145
  v173 := Tryd.zeroValue145
  t212 := Tryd.underlying149
  a212 := Tryd.isAgg149
  z212 := Tryd.sizeOf149
  v212 := Tryd.zeroValue149
  t213 := Tryd.underlying150
  a213 := Tryd.isAgg150
  z213 := Tryd.sizeOf150
  t232 := Tryd.underlying35
  a232 := Tryd.isAgg35
  z232 := Tryd.sizeOf35
  v232 := Tryd.zeroValue35
  t233 := Tryd.underlying96
  a233 := Tryd.isAgg96
  z233 := Tryd.sizeOf96
  v233 := Tryd.zeroValue96
  g17 := by kernel_rfl
  g18 := by kernel_rfl
  g19 := by kernel_rfl
  i0 := by kernel_rfl
  i2 := by kernel_rfl
  i3 := by kernel_rfl
  i4 := by kernel_rfl
  i5 := by kernel_rfl
  i9 := by kernel_rfl
  i20 := by kernel_rfl
  i37 := by kernel_rfl
  i46 := by kernel_rfl
  i51 := by kernel_rfl
  i53 := by kernel_rfl
  i171 := by kernel_rfl
  i173 := by kernel_rfl
  i212 := by kernel_rfl
  i232 := by kernel_rfl
  i233 := by kernel_rfl
  m17 := by kernel_rfl
  m18 := by kernel_rfl
  m19 := by kernel_rfl
/-- the table of powers of ten is there -/
def Tab (w : World) : Prop := Lib.TabIs Tryd.prog w "internal/strconv.uint64pow10" .u64 Lib.pow10Tab
theorem Tab.to {w w' : World} (h : Tab w) (hb : BC w w') : Tab w' := Lib.tabBelow_of_tabIs h w' hb
/-- a number's text -/
def numB (n : Int) : ByteArray := ⟨(Lib.itoa n).toArray⟩
theorem formatInt_any (n : Int) (h0 : -9223372036854775808 ≤ n) (h1 : n ≤ 9223372036854775807) (w : World) (ht : Tab w) :
    Calls Tryd.prog 68 #[.int .i64 n, .int .i64 10] w fun e w' => e = .returned (.string (numB n)) ∧ Below w.heap.size w w' :=
  (Any.strconv_FormatInt_10 lays173 n h0 h1 w ht).mono fun e w' ⟨h1, k, os, h2⟩ => ⟨h1, by rw [h2]; exact Lib.below_grow _ w (Nat.le_refl _) k os⟩
attribute [local irreducible] SlV Lies headG slotG
attribute [local go_sem] takes takesE comesTo comesToP
theorem hexnum_any (n : Int) (h0 : -9223372036854775808 ≤ n) (h1 : n ≤ 9223372036854775807) (w : World) (ht : Tab w) :
    Calls Tryd.prog 53 #[.int .i64 n] w fun e w' => e = .returned (.string (numB n)) ∧ Below w.heap.size w w' := by
  have HF := Lib.hid (formatInt_any n h0 h1 w ht)
  clear ht
  go_enter Tryd.func53, Tryd.ntmps53
  go_wp2_with fail
  refine HF.out.mono ?_
  rintro e w' ⟨rfl, hb⟩
  have HB := Lib.hid hb
  clear hb
  go_wp2_with fail
  go_ret
  exact ⟨rfl, HB.out⟩
theorem numB_size (n : Int) (h0 : -9223372036854775808 ≤ n) (h1 : n ≤ 9223372036854775807) : (numB n).size ≤ 21 := by
  have h := Lib.itoa_length_le n h0 h1
  show (Lib.itoa n).toArray.size ≤ 21
  simpa using h
/-! the reference's -/
theorem itoa_small (u : Nat) (h : u < 10) : Lib.itoa (u : Int) = [UInt8.ofNat (48 + u)] := by
  unfold Lib.itoa
  rw [if_neg (by omega), Int.toNat_natCast, Lib.decDigits_one h]
theorem itoa_great (u : Nat) (h : 10 ≤ u) : Lib.itoa (u : Int) = Lib.itoa ((u / 10 : Nat) : Int) ++ [UInt8.ofNat (48 + u % 10)] := by
  unfold Lib.itoa
  rw [if_neg (by omega), if_neg (by omega), Int.toNat_natCast, Int.toNat_natCast, Lib.decDigits, dif_neg (by omega)]
theorem itoa_msmall (u : Nat) (h0 : 0 < u) (h : u < 10) : Lib.itoa (-(u : Int)) = [45, UInt8.ofNat (48 + u)] := by
  unfold Lib.itoa
  rw [if_pos (by omega), show (-(u : Int)).natAbs = u by omega, Lib.decDigits_one h]
theorem itoa_mgreat (u : Nat) (h : 10 ≤ u) : Lib.itoa (-(u : Int)) = Lib.itoa (-((u / 10 : Nat) : Int)) ++ [UInt8.ofNat (48 + u % 10)] := by
  unfold Lib.itoa
  rw [if_pos (by omega), if_pos (by omega), show (-(u : Int)).natAbs = u by omega, show (-((u / 10 : Nat) : Int)).natAbs = u / 10 by omega, Lib.decDigits, dif_neg (by omega)]
  rfl
theorem numB_snoc (l : List UInt8) (x : UInt8) : (⟨l.toArray⟩ : ByteArray) ++ ⟨#[x]⟩ = ⟨(l ++ [x]).toArray⟩ := by
  apply ByteArray.ext
  rw [ByteArray.data_append]
  simp
/-- a new slice of one byte -/
def NewOne (d : Int) (v : Value) (w : World) : Prop := ∃ b, v = .slice (some ⟨b, 0, none⟩) 1 1 ∧ w.cell? ⟨b, 0, none⟩ = some (.int .u8 d)
theorem NewOne.to {d : Int} {v : Value} {w w' : World} (hb : BC w w') (h : NewOne d v w) : NewOne d v w' := by
  obtain ⟨b, h1, h2⟩ := h
  exact ⟨b, h1, later hb h2⟩
theorem conv_one (d : UInt8) (b : Nat) (W : World) (h : W.cell? ⟨b, 0, none⟩ = some (.int .u8 (d.toNat : Int))) : (convert 57 9 (.slice (some ⟨b, 0, none⟩) 1 1)).run Tryd.prog W = .ok (.string ⟨#[d]⟩) W := by
  have h2 := run_convert_bytes_arg (P := Tryd.prog) W 57 5 Tryd.underlying57 Tryd.underlying5 b 0 1 1 [(d.toNat : Int)] rfl (fun i hi => by
    obtain rfl : i = 0 := by omega
    exact h) 9 Tryd.underlying9
  rw [h2]
  simp [strOfNums]
set_option maxHeartbeats 4000000 in
theorem rnumber_any : ∀ (m : Nat) (n : Int), n.natAbs = m → -9223372036854775808 ≤ n → n ≤ 9223372036854775807 → ∀ w : World,
    Calls Tryd.prog 36 #[.int .i64 n] w fun e w' => e = .returned (.string (numB n)) ∧ Below w.heap.size w w' := by
  intro m
  induction m using Nat.strongRecOn with
  | _ m ih =>
  intro n hm h0 h1 w
  rcases Int.lt_or_le n 0 with hn | hn
  · obtain ⟨u, hu⟩ : ∃ u : Nat, n = -(u : Int) := ⟨n.natAbs, by omega⟩
    by_cases hs : u < 10
    · obtain ⟨d, hd⟩ : ∃ d : UInt8, d = UInt8.ofNat (48 + u) := ⟨_, rfl⟩
      have hd2 : (d.toNat : Int) = 48 - n := by rw [hd, hu]; simp; omega
      have hnum : numB n = ⟨#[45]⟩ ++ ⟨#[d]⟩ := by rw [numB, hu, itoa_msmall u (by omega) hs, hd]; rfl
      have s1 : IntKind.i64.wrap (48 - n) = 48 - n := by rw [IntKind.wrap_i64]; omega
      have s2 : IntKind.u8.wrap (48 - n) = (d.toNat : Int) := by rw [hd2, IntKind.wrap_u8]; omega
      have hlt : n < 0 := hn
      have hgt : -10 < n := by omega
      rw [hnum]
      have hcv := conv_one d w.heap.size (w.alloc (.cells #[.int .u8 (d.toNat : Int)] 5)) (cell_row (heap_alloc_new w _) 0 rfl)
      have HB := Lib.hid (below1 w (.cells #[.int .u8 (d.toNat : Int)] 5))
      have HD := Lib.hid (And.intro hd (And.intro hd2 (And.intro hu hs)))
      clear hd hd2 hnum hu hs hn ih hm
      go_enter Tryd.func36, Tryd.ntmps36
      go_wp2_with fail
      go_ret
      exact ⟨rfl, HB.out⟩
    · obtain ⟨d, hd⟩ : ∃ d : UInt8, d = UInt8.ofNat (48 + u % 10) := ⟨_, rfl⟩
      obtain ⟨q, hq⟩ : ∃ q : Int, q = -((u / 10 : Nat) : Int) := ⟨_, rfl⟩
      obtain ⟨z, hz⟩ : ∃ z : Int, z = -((u % 10 : Nat) : Int) := ⟨_, rfl⟩
      have hd2 : (d.toNat : Int) = 48 - z := by rw [hd, hz]; simp; omega
      have hnum : numB n = numB q ++ ⟨#[d]⟩ := by rw [numB, numB, hu, itoa_mgreat u (by omega), hq, hd, numB_snoc]
      have HN := Lib.hid (ih (u / 10) (by omega) q (by omega) (by omega) (by omega))
      have hsz : ¬ (9223372036854775807 : Nat) < (numB q).size + 1 := by have := numB_size q (by omega) (by omega); omega
      have e1 : n.tdiv 10 = q := by rw [hq, hu]; rw [Int.neg_tdiv]; exact congrArg (fun x : Int => -x) (Int.ofNat_tdiv u 10).symm
      have e2 : n.tmod 10 = z := by rw [hz, hu]; rw [Int.neg_tmod]; exact congrArg (fun x : Int => -x) (Int.ofNat_tmod u 10).symm
      have s1 : IntKind.i64.wrap (48 - z) = 48 - z := by rw [IntKind.wrap_i64]; omega
      have s2 : IntKind.u8.wrap (48 - z) = (d.toNat : Int) := by rw [hd2, IntKind.wrap_u8]; omega
      have s3 : IntKind.i64.wrap q = q := by rw [IntKind.wrap_i64]; omega
      have hlt : n < 0 := hn
      have hgt : ¬ -10 < n := by omega
      rw [hnum]
      have HD := Lib.hid (And.intro hd (And.intro hd2 (And.intro hu hs)))
      clear hd hd2 hnum hu hs hn ih hm hq hz
      go_enter Tryd.func36, Tryd.ntmps36
      go_upto_region 4 with fail
      refine wp_region_slots (by kernel_rfl) (by kernel_rfl) (by kernel_rfl) [none, none, none, none, none, none, none, some (NewOne (d.toNat : Int)), none, none, none] ?_
      repeat (first
      | (refine slotG_oneN (fun K hK => ?_)
         apply Exists.intro
         refine ⟨fun x u hF => ?_, ?_⟩
         (focus (go_simp
                 first
                   | (exact rfl)
                   | (exact ⟨rfl, BC_refl _⟩)
                   | (go_at_call 36; exact HN.out x.w)))
         apply Exists.intro
         refine ⟨fun u => ?_, ?_⟩
         (focus (go_simp; try exact rfl))
         refine hK _ ?_
         clear hK K))
      refine slotG_someN (i := 7) (fun v w w' hb h2 => h2.to hb) (fun K hK => ?_)
      refine ⟨fun x u hF => ?_, ?_⟩
      focus
        go_simp
        exact ⟨⟨_, rfl, cell_row (heap_alloc_new _ _) 0 rfl⟩, below1 _ _⟩
      apply Exists.intro
      refine ⟨fun u => ?_, ?_⟩
      (focus (go_simp; try exact rfl))
      refine hK _ ?_
      clear hK K
      refine slotG_oneN (fun K hK => ?_)
      apply Exists.intro
      refine ⟨fun x u hF => ?_, ?_⟩
      focus
        have HF := Lib.hid (hF.1 (by kernel_rfl))
        clear hF
        go_simp
        have HG := HF.out
        obtain ⟨b, hv, hc⟩ := HG
        have hcv := conv_one d b x.w hc
        have hb := BC_refl x.w
        have HB := Lib.hid hb
        clear hb hc
        rw [hv]
        go_simp
        exact ⟨rfl, HB.out⟩
      apply Exists.intro
      refine ⟨fun u => ?_, ?_⟩
      (focus (go_simp; try exact rfl))
      refine hK _ ?_
      clear hK K
      repeat (first
      | (refine slotG_oneN (fun K hK => ?_)
         apply Exists.intro
         refine ⟨fun x u hF => ?_, ?_⟩
         (focus (go_simp
                 first
                   | (exact rfl)
                   | (exact ⟨rfl, BC_refl _⟩)
                   | (go_at_call 36; exact HN.out x.w)))
         apply Exists.intro
         refine ⟨fun u => ?_, ?_⟩
         (focus (go_simp; try exact rfl))
         refine hK _ ?_
         clear hK K))
      refine slotG_end ?_
      intro wy u hby hall
      have HB := Lib.hid hby
      clear hby hall
      go_wp2_with fail
      go_ret
      exact ⟨rfl, HB.out⟩
  · obtain ⟨u, hu⟩ : ∃ u : Nat, n = (u : Int) := ⟨n.natAbs, by omega⟩
    by_cases hs : u < 10
    · obtain ⟨d, hd⟩ : ∃ d : UInt8, d = UInt8.ofNat (48 + u) := ⟨_, rfl⟩
      have hd2 : (d.toNat : Int) = 48 + n := by rw [hd, hu]; simp; omega
      have hnum : numB n = ⟨#[d]⟩ := by rw [numB, hu, itoa_small u hs, hd]
      have s1 : IntKind.i64.wrap (48 + n) = 48 + n := by rw [IntKind.wrap_i64]; omega
      have s2 : IntKind.u8.wrap (48 + n) = (d.toNat : Int) := by rw [hd2, IntKind.wrap_u8]; omega
      have hge : ¬ n < 0 := by omega
      have hlt : n < 10 := by omega
      rw [hnum]
      have hcv := conv_one d w.heap.size (w.alloc (.cells #[.int .u8 (d.toNat : Int)] 5)) (cell_row (heap_alloc_new w _) 0 rfl)
      have HB := Lib.hid (below1 w (.cells #[.int .u8 (d.toNat : Int)] 5))
      have HD := Lib.hid (And.intro hd (And.intro hd2 (And.intro hu hs)))
      clear hd hd2 hnum hu hs hn ih hm
      go_enter Tryd.func36, Tryd.ntmps36
      go_wp2_with fail
      go_ret
      exact ⟨rfl, HB.out⟩
    · obtain ⟨d, hd⟩ : ∃ d : UInt8, d = UInt8.ofNat (48 + u % 10) := ⟨_, rfl⟩
      obtain ⟨q, hq⟩ : ∃ q : Int, q = ((u / 10 : Nat) : Int) := ⟨_, rfl⟩
      obtain ⟨z, hz⟩ : ∃ z : Int, z = ((u % 10 : Nat) : Int) := ⟨_, rfl⟩
      have hd2 : (d.toNat : Int) = 48 + z := by rw [hd, hz]; simp; omega
      have hnum : numB n = numB q ++ ⟨#[d]⟩ := by rw [numB, numB, hu, itoa_great u (by omega), hq, hd, numB_snoc]
      have HN := Lib.hid (ih (u / 10) (by omega) q (by omega) (by omega) (by omega))
      have hsz : ¬ (9223372036854775807 : Nat) < (numB q).size + 1 := by have := numB_size q (by omega) (by omega); omega
      have e1 : n.tdiv 10 = q := by rw [hq, hu]; exact (Int.ofNat_tdiv u 10).symm
      have e2 : n.tmod 10 = z := by rw [hz, hu]; exact (Int.ofNat_tmod u 10).symm
      have s1 : IntKind.i64.wrap (48 + z) = 48 + z := by rw [IntKind.wrap_i64]; omega
      have s2 : IntKind.u8.wrap (48 + z) = (d.toNat : Int) := by rw [hd2, IntKind.wrap_u8]; omega
      have s3 : IntKind.i64.wrap q = q := by rw [IntKind.wrap_i64]; omega
      have hge : ¬ n < 0 := by omega
      have hlt : ¬ n < 10 := by omega
      rw [hnum]
      have HD := Lib.hid (And.intro hd (And.intro hd2 (And.intro hu hs)))
      clear hd hd2 hnum hu hs hn ih hm hq hz
      go_enter Tryd.func36, Tryd.ntmps36
      go_upto_region 7 with fail
      refine wp_region_slots (by kernel_rfl) (by kernel_rfl) (by kernel_rfl) [none, none, none, none, none, none, none, some (NewOne (d.toNat : Int)), none, none, none] ?_
      repeat (first
      | (refine slotG_oneN (fun K hK => ?_)
         apply Exists.intro
         refine ⟨fun x u hF => ?_, ?_⟩
         (focus (go_simp
                 first
                   | (exact rfl)
                   | (exact ⟨rfl, BC_refl _⟩)
                   | (go_at_call 36; exact HN.out x.w)))
         apply Exists.intro
         refine ⟨fun u => ?_, ?_⟩
         (focus (go_simp; try exact rfl))
         refine hK _ ?_
         clear hK K))
      refine slotG_someN (i := 7) (fun v w w' hb h2 => h2.to hb) (fun K hK => ?_)
      refine ⟨fun x u hF => ?_, ?_⟩
      focus
        go_simp
        exact ⟨⟨_, rfl, cell_row (heap_alloc_new _ _) 0 rfl⟩, below1 _ _⟩
      apply Exists.intro
      refine ⟨fun u => ?_, ?_⟩
      (focus (go_simp; try exact rfl))
      refine hK _ ?_
      clear hK K
      refine slotG_oneN (fun K hK => ?_)
      apply Exists.intro
      refine ⟨fun x u hF => ?_, ?_⟩
      focus
        have HF := Lib.hid (hF.1 (by kernel_rfl))
        clear hF
        go_simp
        have HG := HF.out
        obtain ⟨b, hv, hc⟩ := HG
        have hcv := conv_one d b x.w hc
        have hb := BC_refl x.w
        have HB := Lib.hid hb
        clear hb hc
        rw [hv]
        go_simp
        exact ⟨rfl, HB.out⟩
      apply Exists.intro
      refine ⟨fun u => ?_, ?_⟩
      (focus (go_simp; try exact rfl))
      refine hK _ ?_
      clear hK K
      repeat (first
      | (refine slotG_oneN (fun K hK => ?_)
         apply Exists.intro
         refine ⟨fun x u hF => ?_, ?_⟩
         (focus (go_simp
                 first
                   | (exact rfl)
                   | (exact ⟨rfl, BC_refl _⟩)
                   | (go_at_call 36; exact HN.out x.w)))
         apply Exists.intro
         refine ⟨fun u => ?_, ?_⟩
         (focus (go_simp; try exact rfl))
         refine hK _ ?_
         clear hK K))
      refine slotG_end ?_
      intro wy u hby hall
      have HB := Lib.hid hby
      clear hby hall
      go_wp2_with fail
      go_ret
      exact ⟨rfl, HB.out⟩
theorem rnum_any (n : Int) (h0 : -9223372036854775808 ≤ n) (h1 : n ≤ 9223372036854775807) (w : World) : Calls Tryd.prog 36 #[.int .i64 n] w fun e w' => e = .returned (.string (numB n)) ∧ Below w.heap.size w w' := rnumber_any n.natAbs n (Eq.refl _) h0 h1 w
end Go.Proofs.YtagdlbadkmgdmaaDoor
