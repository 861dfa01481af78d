/- The difference of two whole numbers below 2^53 as float64s, and how it stands to 0. -/
import Derived.Test.YtagdlbadkmgdmaaDoorFloat
import Derived.Laws.ComplexArith
import Derived.Test.YtagdlbadkmgdmaaDoorVec
import Derived.Test.YtagdlbadkmgdmaaDoorSlots
import Derived.Lib.Walk
import Derived.ChangeArms
import Derived.Deep.Cut
namespace Go.Proofs.YtagdlbadkmgdmaaDoor
section -- Float2
open Go

theorem dbl_word (neg : Bool) (r : Nat) (h : r < Ieee.double.signWeight) : (Ieee.double.word neg r) / Ieee.double.signWeight % 2 = (if neg then 1 else 0) ∧ (Ieee.double.word neg r) % Ieee.double.signWeight = r := by
  have hs : Ieee.double.signWeight = 9223372036854775808 := by decide
  unfold Ieee.Format.word
  rw [hs] at h ⊢
  cases neg with
  | false => simp only [Bool.false_eq_true, if_false]; omega
  | true => simp only [if_true]; omega
theorem dbl_flip (r : Nat) (h : r < Ieee.double.signWeight) : Ieee.double.read (Ieee.double.word true r) = (Ieee.double.read (Ieee.double.word false r)).opposite := by
  unfold Ieee.Format.read
  simp only [(dbl_word true r h).1, (dbl_word true r h).2, (dbl_word false r h).1, (dbl_word false r h).2]
  by_cases h1 : r < Ieee.double.binade
  · simp [h1, Ieee.Datum.opposite]
  · by_cases h2 : r < Ieee.double.infRung
    · simp [h1, h2, Ieee.Datum.opposite]
    · by_cases h3 : r = Ieee.double.infRung
      · simp only [if_neg h1, if_neg h2, if_pos h3]
        simp [Ieee.Datum.opposite]
      · simp [h1, h2, h3, Ieee.Datum.opposite]
/-- the rung of a number that is not 0 -/
theorem dbl_rung (mag : Nat) (place : Int) (hm : mag ≠ 0) (hp : -1074 ≤ place) : ∃ r, 0 < r ∧ r ≤ Ieee.double.infRung ∧ ∀ neg, Ieee.double.nearest neg mag place = Ieee.double.word neg r := by
  have hlp : Ieee.double.leastPlace = -1074 := by decide
  have hb : Ieee.double.binade = 4503599627370496 := by decide
  have hi : Ieee.double.infRung = 2047 * 4503599627370496 := by decide
  obtain ⟨last, hlast⟩ : ∃ l, l = max (place + mag.log2 - Ieee.double.fractionBits) Ieee.double.leastPlace := ⟨_, rfl⟩
  obtain ⟨kept, hkept⟩ : ∃ k, k = Ieee.Toward.even.cut false (mag <<< (place - last).toNat) (last - place).toNat := ⟨_, rfl⟩
  refine ⟨min ((last - Ieee.double.leastPlace).toNat * Ieee.double.binade + kept) Ieee.double.infRung, ?_, Nat.min_le_right _ _, fun neg => ?_⟩
  · rw [hlp] at hlast ⊢
    rw [hb, hi]
    by_cases hl : last = -1074
    · have e1 : (last - place).toNat = 0 := by omega
      rw [e1] at hkept
      have e2 : Ieee.Toward.even.cut false (mag <<< (place - last).toNat) 0 = mag <<< (place - last).toNat := cut_even_zero _
      rw [e2, Nat.shiftLeft_eq] at hkept
      have h3 : 0 < kept := by rw [hkept]; exact Nat.mul_pos (Nat.pos_of_ne_zero hm) (Nat.pow_pos (Nat.succ_pos 1))
      clear hkept e2 hlast
      exact Nat.lt_min.2 ⟨Nat.lt_of_lt_of_le h3 (Nat.le_add_left _ _), by decide⟩
    · have h1 : 1 ≤ (last - -1074).toNat := by clear hkept; omega
      clear hkept hlast
      exact Nat.lt_min.2 ⟨Nat.lt_of_lt_of_le (Nat.mul_pos h1 (by decide)) (Nat.le_add_right _ _), by decide⟩
  · unfold Ieee.Format.nearest
    rw [if_neg hm]
    simp only
    have e3 : ∀ (a c : Nat), Ieee.Toward.even.cut neg a c = Ieee.Toward.even.cut false a c := fun a c => by cases neg <;> rfl
    rw [← hlast, e3, ← hkept]
/-- how a number that was written stands to 0 -/
theorem dbl_sign (neg : Bool) (mag : Nat) (place : Int) (hm : mag ≠ 0) (hp : -1074 ≤ place) : FloatKind.f64.format.order (Ieee.double.nearest neg mag place) 0 = some (if neg then .lt else .gt) := by
  obtain ⟨r, h0, h1, hr⟩ := dbl_rung mag place hm hp
  have hlp : Ieee.double.leastPlace = -1074 := by decide
  have hb : Ieee.double.binade = 4503599627370496 := by decide
  have hi : Ieee.double.infRung = 2047 * 4503599627370496 := by decide
  have hs : Ieee.double.signWeight = 9223372036854775808 := by decide
  have hlt : r < Ieee.double.signWeight := by rw [hs]; rw [hi] at h1; omega
  have hz : Ieee.double.read 0 = .number false 0 (-1074) := by decide
  show Ieee.double.order _ _ = _
  unfold Ieee.Format.order
  rw [hr neg, hz]
  have hw := dbl_word neg r hlt
  have pos : ∀ (m : Nat) (i : Int), 0 < m → (Ieee.Datum.number neg m i).order (.number false 0 (-1074)) = some (if neg then .lt else .gt) := by
    intro m i hm
    unfold Ieee.Datum.order
    simp only
    congr 1
    have hk : 0 < m * 2 ^ (i - min i (-1074)).toNat := Nat.mul_pos hm (Nat.pow_pos (by omega))
    cases neg with
    | true =>
      simp only [Ieee.signed, if_true, Nat.shiftLeft_eq, Bool.false_eq_true, if_false, Nat.zero_mul]
      exact Int.compare_eq_lt.2 (by omega)
    | false =>
      simp only [Ieee.signed, Nat.shiftLeft_eq, Bool.false_eq_true, if_false, Nat.zero_mul]
      exact Int.compare_eq_gt.2 (by omega)
  have hn : (Ieee.double.word neg r / Ieee.double.signWeight % 2 == 1) = neg := by
    rw [hw.1]
    cases neg <;> rfl
  unfold Ieee.Format.read
  simp only [hn, hw.2]
  by_cases g1 : r < Ieee.double.binade
  · rw [if_pos g1]
    exact pos r _ h0
  · rw [if_neg g1]
    by_cases g2 : r < Ieee.double.infRung
    · rw [if_pos g2]
      exact pos _ _ (by rw [hb]; omega)
    · rw [if_neg g2, if_pos (by omega)]
      unfold Ieee.Datum.order
      cases neg <;> rfl
theorem pow_move (n L k : Nat) (b : Int) (h : (L : Int) - 52 - b = k) (hL : L ≤ 52) : n * 2 ^ (52 - L) * 2 ^ k = n * 2 ^ (-b).toNat := by
  rw [Nat.mul_assoc, ← Nat.pow_add]
  congr 2
  omega
theorem signed_neg (K n u : Nat) (k : Nat) (h : K * 2 ^ k = n * 2 ^ u) : Ieee.signed true K k = -(n : Int) * 2 ^ u := by
  unfold Ieee.signed
  rw [if_pos rfl, Nat.shiftLeft_eq, h, Int.natCast_mul, Int.natCast_pow, Int.neg_mul, show ((2 : Nat) : Int) = 2 from rfl]
theorem signed_pos (K n u : Nat) (k : Nat) (h : K * 2 ^ k = n * 2 ^ u) : Ieee.signed false K k = (n : Int) * 2 ^ u := by
  unfold Ieee.signed
  rw [if_neg Bool.false_ne_true, Nat.shiftLeft_eq, h, Int.natCast_mul, Int.natCast_pow, show ((2 : Nat) : Int) = 2 from rfl]
theorem floatOfInt_pos (n : Nat) : floatOfInt .f64 (n : Int) = Ieee.double.nearest false n 0 := by
  show Ieee.double.nearest (decide ((n : Int) < 0)) (n : Int).natAbs 0 = _
  rw [decide_eq_false (Int.not_lt.2 (Int.natCast_nonneg n)), Int.natAbs_natCast]
theorem floatOfInt_neg (n : Nat) (h : 0 < n) : floatOfInt .f64 (-(n : Int)) = Ieee.double.nearest true n 0 := by
  show Ieee.double.nearest (decide (-(n : Int) < 0)) (-(n : Int)).natAbs 0 = _
  rw [decide_eq_true (by omega), Int.natAbs_neg, Int.natAbs_natCast]
theorem read_pos (n : Nat) (h0 : n ≠ 0) (h : n < 9007199254740992) : Ieee.double.read (Ieee.double.nearest false n 0) = .number false (n * 2 ^ (52 - n.log2)) ((n.log2 : Int) - 52) := by
  rw [← floatOfInt_pos]
  exact read_near n h0 h
theorem read_neg (n : Nat) (h0 : n ≠ 0) (h : n < 9007199254740992) : Ieee.double.read (Ieee.double.nearest true n 0) = .number true (n * 2 ^ (52 - n.log2)) ((n.log2 : Int) - 52) := by
  obtain ⟨r, _, hr1, hr2⟩ := dbl_rung n 0 h0 (by decide)
  have hlt : r < Ieee.double.signWeight := Nat.lt_of_le_of_lt hr1 (by decide)
  have hp := read_pos n h0 h
  rw [hr2 false] at hp
  rw [hr2 true, dbl_flip r hlt, hp]
  rfl
/-- what a whole number below 2^53 is read as -/
theorem read_int (x : Int) (h : x.natAbs < 9007199254740992) : ∃ (m : Nat) (i : Int), FloatKind.f64.format.read (floatOfInt .f64 x) = .number (decide (x < 0)) m i ∧ -1074 ≤ i ∧ i ≤ 0 ∧ ∀ b : Int, b ≤ i → Ieee.signed (decide (x < 0)) m (i - b).toNat = x * 2 ^ (-b).toNat := by
  by_cases h0 : x = 0
  · subst h0
    have hz : Ieee.double.read 0 = .number false 0 (-1074) := by decide
    refine ⟨0, -1074, hz, by decide, by decide, fun b _ => ?_⟩
    simp [Ieee.signed]
  · obtain ⟨n, hn⟩ : ∃ n, n = x.natAbs := ⟨_, rfl⟩
    have hn0 : n ≠ 0 := by omega
    rw [← hn] at h
    have hL : n.log2 ≤ 52 := (k_bounds n hn0 h).1
    have b1 : -1074 ≤ (n.log2 : Int) - 52 := by omega
    have b2 : (n.log2 : Int) - 52 ≤ 0 := by omega
    rcases Int.lt_or_le x 0 with hx | hx
    · rw [decide_eq_true hx]
      have hxn : x = -(n : Int) := by omega
      refine ⟨n * 2 ^ (52 - n.log2), (n.log2 : Int) - 52, ?_, b1, b2, fun b hb => ?_⟩
      · rw [hxn, floatOfInt_neg n (Nat.pos_of_ne_zero hn0)]
        exact read_neg n hn0 h
      · rw [hxn]
        exact signed_neg _ _ _ _ (pow_move n n.log2 _ b (Int.toNat_of_nonneg (Int.sub_nonneg.2 hb)).symm hL)
    · rw [decide_eq_false (Int.not_lt.2 hx)]
      have hxn : x = (n : Int) := by omega
      refine ⟨n * 2 ^ (52 - n.log2), (n.log2 : Int) - 52, ?_, b1, b2, fun b hb => ?_⟩
      · rw [hxn, floatOfInt_pos n]
        exact read_pos n hn0 h
      · rw [hxn]
        exact signed_pos _ _ _ _ (pow_move n n.log2 _ b (Int.toNat_of_nonneg (Int.sub_nonneg.2 hb)).symm hL)
theorem sub_int (x y : Int) (hx : x.natAbs < 9007199254740992) (hy : y.natAbs < 9007199254740992) : ∃ r, floatBits .sub .f64 (floatOfInt .f64 x) (floatOfInt .f64 y) = some r ∧ FloatKind.f64.format.order r 0 = some (if x < y then .lt else if y < x then .gt else .eq) := by
  obtain ⟨m, i, h1, h2, h3, h4⟩ := read_int x hx
  obtain ⟨n, j, k1, k2, k3, k4⟩ := read_int y hy
  have e : floatBits .sub .f64 (floatOfInt .f64 x) (floatOfInt .f64 y) = ((FloatKind.f64.format.read (floatOfInt .f64 x)).sum (FloatKind.f64.format.read (floatOfInt .f64 y)).opposite).map FloatKind.f64.format.write := rfl
  rw [e, h1, k1]
  simp only [Ieee.Datum.opposite, Ieee.Datum.sum, Option.map_some]
  refine ⟨_, rfl, ?_⟩
  obtain ⟨b, hb⟩ : ∃ b, b = min i j := ⟨_, rfl⟩
  rw [← hb]
  have f1 := h4 b (by omega)
  have f2 := k4 b (by omega)
  have f3 : Ieee.signed (!decide (y < 0)) n (j - b).toNat = -(y * 2 ^ (-b).toNat) := by
    rw [← f2]
    unfold Ieee.signed
    cases decide (y < 0) <;> simp
  rw [f1, f3]
  obtain ⟨P, hP⟩ : ∃ P : Int, P = 2 ^ (-b).toNat := ⟨_, rfl⟩
  have hP0 : 0 < P := by rw [hP]; exact Int.pow_pos (by omega)
  rw [← hP]
  have ht : x * P + -(y * P) = (x - y) * P := by rw [Int.sub_mul]; omega
  rw [ht]
  by_cases h0 : x = y
  · have ho : (if x < y then Ordering.lt else if y < x then Ordering.gt else Ordering.eq) = .eq := by rw [if_neg (by omega), if_neg (by omega)]
    have hz : (x - y) * P = 0 := by rw [show x - y = 0 by omega, Int.zero_mul]
    have hb2 : (decide (x < 0) && !decide (y < 0)) = false := by rw [h0]; cases decide (y < 0) <;> rfl
    rw [ho, hz, if_pos rfl, hb2]
    have hn : Ieee.double.nearest false 0 b = 0 := by unfold Ieee.Format.nearest; rw [if_pos rfl]; rfl
    have hz2 : Ieee.double.read 0 = .number false 0 (-1074) := by decide
    show Ieee.double.order (Ieee.double.nearest false 0 b) 0 = _
    rw [hn]
    unfold Ieee.Format.order
    rw [hz2]
    rfl
  · have hne : (x - y) * P ≠ 0 := Int.mul_ne_zero (by omega) (by omega)
    rw [if_neg hne]
    have hs := dbl_sign (decide ((x - y) * P < 0)) ((x - y) * P).natAbs b (by omega) (by omega)
    refine Eq.trans hs ?_
    rcases Int.lt_or_le x y with hlt | hle
    · have : (x - y) * P < 0 := Int.mul_neg_of_neg_of_pos (by omega) hP0
      rw [if_pos hlt, decide_eq_true this]
      rfl
    · have h1 : 0 < (x - y) * P := Int.mul_pos (by omega) hP0
      have h2 : ¬ x < y := by omega
      have h3 : y < x := by omega
      rw [if_neg h2, if_pos h3, decide_eq_false (by omega)]
      rfl
theorem order_self {r : Nat} {o : Ordering} (h : FloatKind.f64.format.order r 0 = some o) : FloatKind.f64.format.order r r = some .eq := by
  unfold Ieee.Format.order at h ⊢
  cases hd : FloatKind.f64.format.read r with
  | nan a b => rw [hd] at h; cases hz : FloatKind.f64.format.read 0 <;> rw [hz] at h <;> simp [Ieee.Datum.order] at h
  | infinity a => simp [Ieee.Datum.order]
  | number a b c => simp [Ieee.Datum.order]
end
set_option maxRecDepth 100000
open Go.ChangeShapes Go.WideShapes Go.ChangeAt Go.RowKit

def cmpI (a b : Int) : Int := if a < b then -1 else if b < a then 1 else 0
theorem isnan_any (a : Int) (w : World) : Calls Tryd.prog 81 #[.int .i64 a] w fun e w' => e = .returned (.bool false) ∧ w' = w := by
  have h : (a == a) = true := by simp
  go_enter Tryd.func81, Tryd.ntmps81
  go_wp2
  go_ret
  exact ⟨rfl, rfl⟩
theorem icompare_any (a b : Int) (w : World) : Calls Tryd.prog 65 #[.int .i64 a, .int .i64 b] w fun e w' => e = .returned (.int .i64 (cmpI a b)) ∧ w' = w := by
  have hn := fun x W => isnan_any x W
  by_cases h1 : a < b
  · rw [show cmpI a b = -1 from if_pos h1]
    go_enter Tryd.func65, Tryd.ntmps65
    go_wp2_with fail
    refine (hn _ _).mono ?_
    rintro _ w2 ⟨rfl, rfl⟩
    go_wp2_with fail
    refine (hn _ _).mono ?_
    rintro _ w2 ⟨rfl, rfl⟩
    go_wp2_with fail
    go_ret
    exact ⟨rfl, rfl⟩
  · by_cases h2 : b < a
    · rw [show cmpI a b = 1 from by unfold cmpI; rw [if_neg h1, if_pos h2]]
      go_enter Tryd.func65, Tryd.ntmps65
      go_wp2_with fail
      refine (hn _ _).mono ?_
      rintro _ w2 ⟨rfl, rfl⟩
      go_wp2_with fail
      refine (hn _ _).mono ?_
      rintro _ w2 ⟨rfl, rfl⟩
      go_wp2_with fail
      go_ret
      exact ⟨rfl, rfl⟩
    · rw [show cmpI a b = 0 from by unfold cmpI; rw [if_neg h1, if_neg h2]]
      go_enter Tryd.func65, Tryd.ntmps65
      go_wp2_with fail
      refine (hn _ _).mono ?_
      rintro _ w2 ⟨rfl, rfl⟩
      go_wp2_with fail
      refine (hn _ _).mono ?_
      rintro _ w2 ⟨rfl, rfl⟩
      go_wp2_with fail
      go_ret
      exact ⟨rfl, rfl⟩
theorem isnan64_any (a : Int) (w : World) : Calls Tryd.prog 82 #[.int .i64 a] w fun e w' => e = .returned (.bool false) ∧ w' = w := by
  have h : (a == a) = true := by simp
  go_enter Tryd.func82, Tryd.ntmps82
  go_wp2
  go_ret
  exact ⟨rfl, rfl⟩
theorem icompare64_any (a b : Int) (w : World) : Calls Tryd.prog 66 #[.int .i64 a, .int .i64 b] w fun e w' => e = .returned (.int .i64 (cmpI a b)) ∧ w' = w := by
  have hn := fun x W => isnan64_any x W
  by_cases h1 : a < b
  · rw [show cmpI a b = -1 from if_pos h1]
    go_enter Tryd.func66, Tryd.ntmps66
    go_wp2_with fail
    refine (hn _ _).mono ?_
    rintro _ w2 ⟨rfl, rfl⟩
    go_wp2_with fail
    refine (hn _ _).mono ?_
    rintro _ w2 ⟨rfl, rfl⟩
    go_wp2_with fail
    go_ret
    exact ⟨rfl, rfl⟩
  · by_cases h2 : b < a
    · rw [show cmpI a b = 1 from by unfold cmpI; rw [if_neg h1, if_pos h2]]
      go_enter Tryd.func66, Tryd.ntmps66
      go_wp2_with fail
      refine (hn _ _).mono ?_
      rintro _ w2 ⟨rfl, rfl⟩
      go_wp2_with fail
      refine (hn _ _).mono ?_
      rintro _ w2 ⟨rfl, rfl⟩
      go_wp2_with fail
      go_ret
      exact ⟨rfl, rfl⟩
    · rw [show cmpI a b = 0 from by unfold cmpI; rw [if_neg h1, if_neg h2]]
      go_enter Tryd.func66, Tryd.ntmps66
      go_wp2_with fail
      refine (hn _ _).mono ?_
      rintro _ w2 ⟨rfl, rfl⟩
      go_wp2_with fail
      refine (hn _ _).mono ?_
      rintro _ w2 ⟨rfl, rfl⟩
      go_wp2_with fail
      go_ret
      exact ⟨rfl, rfl⟩
/-- the first that is not 0 -/
def orF : List Int → Int
  | [] => 0
  | a :: l => if a = 0 then orF l else a
theorem orF_skip : ∀ (l : List Int) (k : Nat), (∀ i, i < k → l.getD i 0 = 0) → orF l = orF (l.drop k)
  | _, 0, _ => rfl
  | [], k + 1, _ => rfl
  | a :: l, k + 1, h => by
    have h0 : a = 0 := h 0 (by omega)
    rw [orF, if_pos h0, List.drop_succ_cons]
    exact orF_skip l k fun i hi => by have := h (i + 1) (by omega); simpa using this
attribute [local go_sem] takes takesE comesTo
theorem or_any (xs : List Int) (g o c : Nat) (hn : xs.length ≤ 1000000) (w : World) (hc : ∀ i, i < xs.length → w.cell? ⟨g, o + i, none⟩ = some (.int .i64 (xs.getD i 0))) :
    Calls Tryd.prog 63 #[.slice (some ⟨g, o, none⟩) xs.length c] w fun e w' => e = .returned (.int .i64 (orF xs)) ∧ w' = w := by
  obtain ⟨n, hN⟩ : ∃ n, n = xs.length := ⟨_, rfl⟩
  rw [← hN]
  have HC := Lib.hid (And.intro hc (And.intro hN hn))
  clear hc hn hN
  go_enter Tryd.func63, Tryd.ntmps63
  go_wp2_with fail
  go_loopw [5, 8] (fun v5 i wr => ∃ k : Nat, k ≤ n ∧ i = .int .i64 (k : Int) ∧ wr = w ∧ (∀ j, j < k → xs.getD j 0 = 0)) (fun _ i _ => n - (intOf i).toNat)
  case atStart => exact ⟨0, Nat.zero_le _, rfl, rfl, fun j h => by omega⟩
  case round =>
    obtain ⟨k, hk, rfl, rfl, hz⟩ := hrel
    have HZ := Lib.hid hz
    clear hz
    by_cases hlt : k < n
    · have i0 : (0 : Int) ≤ (k : Int) := by omega
      have i1 : (k : Int) < (n : Int) := by omega
      have c1 := HC.out.1 k (by rw [← HC.out.2.1]; exact hlt)
      have s1 : IntKind.i64.wrap ((k : Int) + 1) = (k : Int) + 1 := by rw [IntKind.wrap_i64]; have := HC.out.2; omega
      obtain ⟨x, hx⟩ : ∃ x, x = xs.getD k 0 := ⟨_, rfl⟩
      rw [← hx] at c1
      have HX := Lib.hid hx
      clear hx
      by_cases h0 : x = 0
      · subst h0
        go_wp2_with fail
        go_roundw
        case rel => exact ⟨k + 1, by omega, rfl, by simp, fun j hj => by
          by_cases h : j = k
          · rw [h]; exact HX.out.symm
          · exact HZ.out j (by omega)⟩
        case measure => simp [intOf]; omega
      · have h0' : (x != 0) = true := by simp [h0]
        have hor : orF xs = x := by
          rw [orF_skip xs k HZ.out, List.drop_eq_getElem_cons (by rw [← HC.out.2.1]; exact hlt), orF]
          have e : xs[k]'(by rw [← HC.out.2.1]; exact hlt) = x := by rw [HX.out]; simp [List.getD, show k < xs.length by rw [← HC.out.2.1]; exact hlt]
          rw [e, if_neg h0]
        have HO := Lib.hid hor
        clear hor
        go_wp2_with fail
        go_ret
        exact ⟨by rw [HO.out]; rfl, rfl⟩
    · have hge : ¬ (k : Int) < (n : Int) := by omega
      have hor : orF xs = 0 := by
        rw [orF_skip xs k HZ.out, List.drop_eq_nil_of_le (by rw [← HC.out.2.1]; omega), orF]
      have HO := Lib.hid hor
      clear hor
      go_wp2_with fail
      go_ret
      exact ⟨by rw [HO.out]; rfl, rfl⟩
-- generated: gather.compare
/-- how two parts stand -/
theorem cmpD_or (a b : Dt) : cmpD a b = orF [cmpI a.1 b.1, cmpI a.2 b.2] := by
  obtain ⟨p, q⟩ := a
  obtain ⟨r, s⟩ := b
  simp only [cmpD, orF, cmpI, Prod.mk.injEq]
  split <;> split <;> simp_all <;> omega
/-- by floats -/
def ordI : Ordering → Int
  | .lt => -1
  | .eq => 0
  | .gt => 1
theorem fnan_any (r : Nat) (o : Ordering) (h : FloatKind.f64.format.order r 0 = some o) (w : World) : Calls Tryd.prog 80 #[.float .f64 r] w fun e w' => e = .returned (.bool false) ∧ w' = w := by
  have h2 := order_self h
  clear h
  go_enter Tryd.func80, Tryd.ntmps80
  go_wp2_with fail
  go_ret
  exact ⟨rfl, rfl⟩
theorem fcompare_any (r : Nat) (o : Ordering) (h : FloatKind.f64.format.order r 0 = some o) (w : World) : Calls Tryd.prog 64 #[.float .f64 r, .float .f64 0] w fun e w' => e = .returned (.int .i64 (ordI o)) ∧ w' = w := by
  have H1 := Lib.hid (fnan_any r o h)
  have H2 := Lib.hid (fnan_any 0 .eq (by decide))
  cases o with
  | lt =>
    go_enter Tryd.func64, Tryd.ntmps64
    go_wp2_with fail
    refine (H1.out _).mono ?_
    rintro _ w2 ⟨rfl, rfl⟩
    go_wp2_with fail
    refine (H2.out _).mono ?_
    rintro _ w2 ⟨rfl, rfl⟩
    go_wp2_with fail
    go_ret
    exact ⟨rfl, rfl⟩
  | eq =>
    go_enter Tryd.func64, Tryd.ntmps64
    go_wp2_with fail
    refine (H1.out _).mono ?_
    rintro _ w2 ⟨rfl, rfl⟩
    go_wp2_with fail
    refine (H2.out _).mono ?_
    rintro _ w2 ⟨rfl, rfl⟩
    go_wp2_with fail
    go_ret
    exact ⟨rfl, rfl⟩
  | gt =>
    go_enter Tryd.func64, Tryd.ntmps64
    go_wp2_with fail
    refine (H1.out _).mono ?_
    rintro _ w2 ⟨rfl, rfl⟩
    go_wp2_with fail
    refine (H2.out _).mono ?_
    rintro _ w2 ⟨rfl, rfl⟩
    go_wp2_with fail
    go_ret
    exact ⟨rfl, rfl⟩
def fitsD (d : Dt) : Bool := decide (-1125899906842624 < d.1) && decide (d.1 < 1125899906842624) && decide (-1125899906842624 < d.2) && decide (d.2 < 1125899906842624)
set_option maxHeartbeats 4000000 in
theorem point_any (d : Dt) (w : World) : Calls Tryd.prog 62 #[.agg #[.int .i64 d.1, .int .i64 d.2]] w fun e w' => e = .returned (.tuple #[.complex .f64 (floatOfInt .f64 d.1) (floatOfInt .f64 d.2), .bool (fitsD d)]) ∧ Below w.heap.size w w' := by
  obtain ⟨p, q⟩ := d
  have n1 := heap_alloc_new w (.cells #[.int .i64 p, .int .i64 q] 34)
  have c0 := cell_row n1 0 (v := .int .i64 p) rfl
  have c1 := cell_row n1 1 (v := .int .i64 q) rfl
  have HB := Lib.hid (below1 w (.cells #[.int .i64 p, .int .i64 q] 34))
  clear n1
  dsimp only
  obtain ⟨fp, hfp⟩ : ∃ x, floatOfInt .f64 p = x := ⟨_, rfl⟩
  obtain ⟨fq, hfq⟩ : ∃ x, floatOfInt .f64 q = x := ⟨_, rfl⟩
  rw [hfp, hfq]
  by_cases h1 : -1125899906842624 < p
  · by_cases h2 : p < 1125899906842624
    · by_cases h3 : -1125899906842624 < q
      · by_cases h4 : q < 1125899906842624
        · rw [show fitsD (p, q) = true by simp [fitsD, h1, h2, h3, h4]]
          go_enter Tryd.func62, Tryd.ntmps62
          go_wp2_with fail
          go_ret2
          exact ⟨rfl, HB.out⟩
        · rw [show fitsD (p, q) = false by simp [fitsD, h4]]
          go_enter Tryd.func62, Tryd.ntmps62
          go_wp2_with fail
          go_ret2
          exact ⟨rfl, HB.out⟩
      · rw [show fitsD (p, q) = false by simp [fitsD, h3]]
        go_enter Tryd.func62, Tryd.ntmps62
        go_wp2_with fail
        go_ret2
        exact ⟨rfl, HB.out⟩
    · rw [show fitsD (p, q) = false by simp [fitsD, h2]]
      go_enter Tryd.func62, Tryd.ntmps62
      go_wp2_with fail
      go_ret2
      exact ⟨rfl, HB.out⟩
  · rw [show fitsD (p, q) = false by simp [fitsD, h1]]
    go_enter Tryd.func62, Tryd.ntmps62
    go_wp2_with fail
    go_ret2
    exact ⟨rfl, HB.out⟩
theorem fits_small {d : Dt} (h : fitsD d = true) : d.1.natAbs < 9007199254740992 ∧ d.2.natAbs < 9007199254740992 := by
  simp [fitsD] at h
  omega
theorem ord_cmp (x y : Int) : ordI (if x < y then .lt else if y < x then .gt else .eq) = cmpI x y := by
  unfold cmpI
  split
  · rfl
  · split <;> rfl
/-- a new slice of two numbers -/
def NewTwo (x y : Int) (v : Value) (w : World) : Prop := ∃ b, v = .slice (some ⟨b, 0, none⟩) 2 2 ∧ w.cell? ⟨b, 0, none⟩ = some (.int .i64 x) ∧ w.cell? ⟨b, 1, none⟩ = some (.int .i64 y)
theorem NewTwo.to {x y : Int} {v : Value} {w w' : World} (hb : BC w w') (h : NewTwo x y v w) : NewTwo x y v w' := by
  obtain ⟨b, h1, h2, h3⟩ := h
  exact ⟨b, h1, later hb h2, later hb h3⟩
theorem or2_any (x y : Int) (v : Value) (w : World) (h : NewTwo x y v w) : Calls Tryd.prog 63 #[v] w fun e w' => e = .returned (.int .i64 (orF [x, y])) ∧ w' = w := by
  obtain ⟨b, rfl, h1, h2⟩ := h
  exact or_any [x, y] b 0 2 (by simp) w (fun i hi => by
    match i, hi with
    | 0, _ => exact h1
    | 1, _ => exact h2)
set_option maxHeartbeats 4000000 in
theorem dcompare_any (a b : Dt) (w : World) : Calls Tryd.prog 50 #[.agg #[.int .i64 a.1, .int .i64 a.2], .agg #[.int .i64 b.1, .int .i64 b.2]] w fun e w' => e = .returned (.int .i64 (cmpD a b)) ∧ Below w.heap.size w w' := by
  rw [cmpD_or]
  have HP := Lib.hid (And.intro (fun W => point_any a W) (fun W => point_any b W))
  have HFS := Lib.hid (And.intro (fun h => fits_small (d := a) h) (fun h => fits_small (d := b) h))
  obtain ⟨fa, hfa⟩ : ∃ x, x = fitsD a := ⟨_, rfl⟩
  obtain ⟨fb, hfb⟩ : ∃ x, x = fitsD b := ⟨_, rfl⟩
  rw [← hfa, ← hfb] at HP HFS
  obtain ⟨p, q⟩ := a
  obtain ⟨r, s⟩ := b
  dsimp only at HP HFS ⊢
  obtain ⟨W1, hW1⟩ : ∃ W, W = w.alloc (.cells #[.int .i64 p, .int .i64 q] 34) := ⟨_, rfl⟩
  obtain ⟨W2, hW2⟩ : ∃ W, W = W1.alloc (.cells #[.int .i64 r, .int .i64 s] 34) := ⟨_, rfl⟩
  obtain ⟨g1, hg1⟩ : ∃ g, g = w.heap.size := ⟨_, rfl⟩
  obtain ⟨g2, hg2⟩ : ∃ g, g = W1.heap.size := ⟨_, rfl⟩
  have a1 := heap_alloc_new w (.cells #[.int .i64 p, .int .i64 q] 34)
  have a2 := heap_alloc_new W1 (.cells #[.int .i64 r, .int .i64 s] 34)
  have b1 := below1 w (.cells #[.int .i64 p, .int .i64 q] 34)
  have b2 := below1 W1 (.cells #[.int .i64 r, .int .i64 s] 34)
  rw [← hW1, ← hg1] at a1
  rw [← hW2, ← hg2] at a2
  rw [← hW1] at b1
  rw [← hW2] at b2
  have c0 : ∀ x : HW (BC W2), x.w.cell? ⟨g1, 0, none⟩ = some (.int .i64 p) := fun x => cell_row (BC_blk1 x.h (BC_blk1 b2 a1)) 0 rfl
  have c1 : ∀ x : HW (BC W2), x.w.cell? ⟨g1, 1, none⟩ = some (.int .i64 q) := fun x => cell_row (BC_blk1 x.h (BC_blk1 b2 a1)) 1 rfl
  have d0 : ∀ x : HW (BC W2), x.w.cell? ⟨g2, 0, none⟩ = some (.int .i64 r) := fun x => cell_row (BC_blk1 x.h a2) 0 rfl
  have d1 : ∀ x : HW (BC W2), x.w.cell? ⟨g2, 1, none⟩ = some (.int .i64 s) := fun x => cell_row (BC_blk1 x.h a2) 1 rfl
  have hg2' : g2 = w.heap.size + 1 := by rw [hg2, hW1]; simp only [World.alloc, Array.size_push]
  have HM := Lib.hid (And.intro hW1 (And.intro hW2 (And.intro hg1 (And.intro hg2' (BC_trans b1 b2)))))
  clear hg2'
  obtain ⟨fp, hfp⟩ : ∃ x, floatOfInt .f64 p = x := ⟨_, rfl⟩
  obtain ⟨fq, hfq⟩ : ∃ x, floatOfInt .f64 q = x := ⟨_, rfl⟩
  obtain ⟨fr, hfr⟩ : ∃ x, floatOfInt .f64 r = x := ⟨_, rfl⟩
  obtain ⟨fs, hfs⟩ : ∃ x, floatOfInt .f64 s = x := ⟨_, rfl⟩
  have HFF := Lib.hid (And.intro hfp (And.intro hfq (And.intro hfr hfs)))
  rw [hfp, hfq, hfr, hfs] at HP
  clear hW1 hW2 hg1 hg2 a1 a2 b1 b2 hfp hfq hfr hfs hfa hfb
  go_enter Tryd.func50, Tryd.ntmps50
  go_upto_region 1 with fail
  rw [← HM.out.1, ← HM.out.2.1, ← HM.out.2.2.2.1, ← HM.out.2.2.1]
  have k0 := c0 ⟨W2, BC_refl _⟩
  have k1 := c1 ⟨W2, BC_refl _⟩
  dsimp only at k0 k1
  go_wp2_with fail
  refine (HP.out.1 _).mono ?_
  rintro e w3 ⟨rfl, b3⟩
  have l0 := d0 ⟨w3, b3⟩
  have l1 := d1 ⟨w3, b3⟩
  dsimp only at l0 l1
  have B3 := Lib.hid (show BC W2 w3 from b3)
  clear b3 k0 k1
  go_wp2_with fail
  refine (HP.out.2 _).mono ?_
  rintro e w4 ⟨rfl, b4⟩
  have B4 := Lib.hid (BC_trans B3.out b4)
  clear b4 l0 l1
  cases fa with
  | false =>
    have e0 : ∀ x : HW (BC w4), x.w.cell? ⟨g1, 0, none⟩ = some (.int .i64 p) := fun x => c0 ⟨x.w, BC_trans B4.out x.h⟩
    have e1 : ∀ x : HW (BC w4), x.w.cell? ⟨g1, 1, none⟩ = some (.int .i64 q) := fun x => c1 ⟨x.w, BC_trans B4.out x.h⟩
    have e2 : ∀ x : HW (BC w4), x.w.cell? ⟨g2, 0, none⟩ = some (.int .i64 r) := fun x => d0 ⟨x.w, BC_trans B4.out x.h⟩
    have e3 : ∀ x : HW (BC w4), x.w.cell? ⟨g2, 1, none⟩ = some (.int .i64 s) := fun x => d1 ⟨x.w, BC_trans B4.out x.h⟩
    have HI1 := Lib.hid (fun W => icompare_any p r W)
    have HI2 := Lib.hid (fun W => icompare64_any q s W)
    clear c0 c1 d0 d1
    go_upto_region 6 with fail
    refine wp_region_slots (by kernel_rfl) (by kernel_rfl) (by kernel_rfl) [none, none, none, none, none, none, none, none, none, none, some (NewTwo (cmpI p r) (cmpI q s)), none, none] ?_
    repeat (first
      | (refine slotG_oneN (fun K hK => ?_)
         apply Exists.intro
         refine ⟨fun x u hF => ?_, ?_⟩
         (focus (go_simp
                 first
                   | (go_at_call 65
                      refine (HI1.out x.w).mono ?_
                      rintro e w' ⟨rfl, rfl⟩
                      exact ⟨rfl, BC_refl _⟩)
                   | (go_at_call 66
                      refine (HI2.out x.w).mono ?_
                      rintro e w' ⟨rfl, rfl⟩
                      exact ⟨rfl, BC_refl _⟩)
                   | (exact rfl)
                   | (exact ⟨rfl, BC_refl _⟩)))
         apply Exists.intro
         refine ⟨fun u => ?_, ?_⟩
         (focus (go_simp; try exact rfl))
         refine hK _ ?_
         clear hK K))
    refine slotG_someN (i := 10) (fun v w w' hb h2 => h2.to hb) (fun K hK => ?_)
    refine ⟨fun x u hF => ?_, ?_⟩
    focus
      go_simp
      exact ⟨⟨_, rfl, cell_row (heap_alloc_new _ _) 0 rfl, cell_row (heap_alloc_new _ _) 1 rfl⟩, below1 _ _⟩
    apply Exists.intro
    refine ⟨fun u => ?_, ?_⟩
    (focus (go_simp; try exact rfl))
    refine hK _ ?_
    clear hK K
    refine slotG_oneN (fun K hK => ?_)
    apply Exists.intro
    refine ⟨fun x u hF => ?_, ?_⟩
    focus
      have HF := Lib.hid (hF.1 (by kernel_rfl))
      clear hF
      go_simp
      go_at_call 63
      refine (or2_any _ _ _ x.w HF.out).mono ?_
      rintro e w' ⟨rfl, rfl⟩
      exact ⟨rfl, BC_refl _⟩
    apply Exists.intro
    refine ⟨fun u => ?_, ?_⟩
    (focus (go_simp; try exact rfl))
    refine hK _ ?_
    clear hK K
    repeat (first
      | (refine slotG_oneN (fun K hK => ?_)
         apply Exists.intro
         refine ⟨fun x u hF => ?_, ?_⟩
         (focus (go_simp
                 first
                   | (go_at_call 65
                      refine (HI1.out x.w).mono ?_
                      rintro e w' ⟨rfl, rfl⟩
                      exact ⟨rfl, BC_refl _⟩)
                   | (go_at_call 66
                      refine (HI2.out x.w).mono ?_
                      rintro e w' ⟨rfl, rfl⟩
                      exact ⟨rfl, BC_refl _⟩)
                   | (exact rfl)
                   | (exact ⟨rfl, BC_refl _⟩)))
         apply Exists.intro
         refine ⟨fun u => ?_, ?_⟩
         (focus (go_simp; try exact rfl))
         refine hK _ ?_
         clear hK K))
    refine slotG_end ?_
    intro wy u hby hall
    have HB := Lib.hid (show Below w.heap.size w wy from BC_trans HM.out.2.2.2.2 (BC_trans B4.out hby))
    clear hby hall e0 e1 e2 e3
    go_wp2_with fail
    go_ret
    exact ⟨rfl, HB.out⟩
  | true =>
    cases fb with
    | false =>
      have e0 : ∀ x : HW (BC w4), x.w.cell? ⟨g1, 0, none⟩ = some (.int .i64 p) := fun x => c0 ⟨x.w, BC_trans B4.out x.h⟩
      have e1 : ∀ x : HW (BC w4), x.w.cell? ⟨g1, 1, none⟩ = some (.int .i64 q) := fun x => c1 ⟨x.w, BC_trans B4.out x.h⟩
      have e2 : ∀ x : HW (BC w4), x.w.cell? ⟨g2, 0, none⟩ = some (.int .i64 r) := fun x => d0 ⟨x.w, BC_trans B4.out x.h⟩
      have e3 : ∀ x : HW (BC w4), x.w.cell? ⟨g2, 1, none⟩ = some (.int .i64 s) := fun x => d1 ⟨x.w, BC_trans B4.out x.h⟩
      have HI1 := Lib.hid (fun W => icompare_any p r W)
      have HI2 := Lib.hid (fun W => icompare64_any q s W)
      clear c0 c1 d0 d1
      go_upto_region 6 with fail
      refine wp_region_slots (by kernel_rfl) (by kernel_rfl) (by kernel_rfl) [none, none, none, none, none, none, none, none, none, none, some (NewTwo (cmpI p r) (cmpI q s)), none, none] ?_
      repeat (first
        | (refine slotG_oneN (fun K hK => ?_)
           apply Exists.intro
           refine ⟨fun x u hF => ?_, ?_⟩
           (focus (go_simp
                   first
                     | (go_at_call 65
                        refine (HI1.out x.w).mono ?_
                        rintro e w' ⟨rfl, rfl⟩
                        exact ⟨rfl, BC_refl _⟩)
                     | (go_at_call 66
                        refine (HI2.out x.w).mono ?_
                        rintro e w' ⟨rfl, rfl⟩
                        exact ⟨rfl, BC_refl _⟩)
                     | (exact rfl)
                     | (exact ⟨rfl, BC_refl _⟩)))
           apply Exists.intro
           refine ⟨fun u => ?_, ?_⟩
           (focus (go_simp; try exact rfl))
           refine hK _ ?_
           clear hK K))
      refine slotG_someN (i := 10) (fun v w w' hb h2 => h2.to hb) (fun K hK => ?_)
      refine ⟨fun x u hF => ?_, ?_⟩
      focus
        go_simp
        exact ⟨⟨_, rfl, cell_row (heap_alloc_new _ _) 0 rfl, cell_row (heap_alloc_new _ _) 1 rfl⟩, below1 _ _⟩
      apply Exists.intro
      refine ⟨fun u => ?_, ?_⟩
      (focus (go_simp; try exact rfl))
      refine hK _ ?_
      clear hK K
      refine slotG_oneN (fun K hK => ?_)
      apply Exists.intro
      refine ⟨fun x u hF => ?_, ?_⟩
      focus
        have HF := Lib.hid (hF.1 (by kernel_rfl))
        clear hF
        go_simp
        go_at_call 63
        refine (or2_any _ _ _ x.w HF.out).mono ?_
        rintro e w' ⟨rfl, rfl⟩
        exact ⟨rfl, BC_refl _⟩
      apply Exists.intro
      refine ⟨fun u => ?_, ?_⟩
      (focus (go_simp; try exact rfl))
      refine hK _ ?_
      clear hK K
      repeat (first
        | (refine slotG_oneN (fun K hK => ?_)
           apply Exists.intro
           refine ⟨fun x u hF => ?_, ?_⟩
           (focus (go_simp
                   first
                     | (go_at_call 65
                        refine (HI1.out x.w).mono ?_
                        rintro e w' ⟨rfl, rfl⟩
                        exact ⟨rfl, BC_refl _⟩)
                     | (go_at_call 66
                        refine (HI2.out x.w).mono ?_
                        rintro e w' ⟨rfl, rfl⟩
                        exact ⟨rfl, BC_refl _⟩)
                     | (exact rfl)
                     | (exact ⟨rfl, BC_refl _⟩)))
           apply Exists.intro
           refine ⟨fun u => ?_, ?_⟩
           (focus (go_simp; try exact rfl))
           refine hK _ ?_
           clear hK K))
      refine slotG_end ?_
      intro wy u hby hall
      have HB := Lib.hid (show Below w.heap.size w wy from BC_trans HM.out.2.2.2.2 (BC_trans B4.out hby))
      clear hby hall e0 e1 e2 e3
      go_wp2_with fail
      go_ret
      exact ⟨rfl, HB.out⟩
    | true =>
      obtain ⟨re, h1, h2⟩ := sub_int p r (HFS.out.1 rfl).1 (HFS.out.2 rfl).1
      obtain ⟨im, h3, h4⟩ := sub_int q s (HFS.out.1 rfl).2 (HFS.out.2 rfl).2
      rw [HFF.out.1, HFF.out.2.2.1] at h1
      rw [HFF.out.2.1, HFF.out.2.2.2] at h3
      have hsub : ∀ W, (binOp .sub 115 (.complex .f64 fp fq) (.complex .f64 fr fs)).run Tryd.prog W = .ok (.complex .f64 re im) W := fun W => run_complex_sum W .sub (.inr rfl) _ .f64 fp fq fr fs re im (by unfold cSumBits; rw [h1, h3]; rfl)
      have HC1 := Lib.hid (fcompare_any re _ h2)
      have HC2 := Lib.hid (fcompare_any im _ h4)
      rw [ord_cmp] at HC1 HC2
      clear h1 h2 h3 h4
      go_wp2_with fail
      refine (HC1.out _).mono ?_
      rintro e w5 ⟨rfl, rfl⟩
      go_wp2_with fail
      refine (HC2.out _).mono ?_
      rintro e w6 ⟨rfl, rfl⟩
      go_wp2_with fail
      refine (or2_any (cmpI p r) (cmpI q s) _ _ ⟨_, rfl, cell_row (heap_alloc_new _ _) 0 rfl, cell_row (heap_alloc_new _ _) 1 rfl⟩).mono ?_
      rintro e w7 ⟨rfl, rfl⟩
      go_wp2_with fail
      go_ret
      exact ⟨rfl, BC_trans HM.out.2.2.2.2 (BC_trans B4.out (below1 _ _))⟩
end Go.Proofs.YtagdlbadkmgdmaaDoor
