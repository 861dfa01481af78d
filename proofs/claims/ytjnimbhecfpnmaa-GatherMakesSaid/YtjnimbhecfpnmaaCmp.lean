/- The walks of bytes.Compare, cmp.Compare at int, and what they answer, over lists. -/
import Derived.Test.YtjnimbhecfpnmaaDecode
import Derived.Test.YtjnimbhecfpnmaaReg
import Derived.Lib.BytesEntry
namespace Go.Proofs.Ytjnimbhecfpnmaa
set_option maxRecDepth 100000
open Go.ChangeShapes Go.WideShapes Go.ChangeAt Go.RowKit

/-- how two rows of bytes stand -/
def cmpB : List Int → List Int → Int
  | [], [] => 0
  | [], _ :: _ => -1
  | _ :: _, [] => 1
  | a :: x, b :: y => if a < b then -1 else if b < a then 1 else cmpB x y
/-- how two numbers stand -/
def cmpI (a b : Int) : Int := if a < b then -1 else if b < a then 1 else 0
theorem cmpB_bytes : ∀ (l m : List Int), Bytes l → Bytes m → Lib.compareBytes (Lib.bytesOf l) (Lib.bytesOf m) = cmpB l m
  | [], [], _, _ => rfl
  | [], _ :: _, _, _ => rfl
  | _ :: _, [], _, _ => rfl
  | a :: x, b :: y, hl, hm => by
    have ha := hl 0
    have hb := hm 0
    simp only [List.getD_cons_zero] at ha hb
    have ih := cmpB_bytes x y (fun i => by have := hl (i + 1); simpa using this) (fun i => by have := hm (i + 1); simpa using this)
    have e1 : (a.toNat.toUInt8 < b.toNat.toUInt8) ↔ a < b := by
      rw [UInt8.lt_iff_toNat_lt]
      simp only [Nat.toUInt8_eq, UInt8.toNat_ofNat']
      omega
    have e2 : (b.toNat.toUInt8 < a.toNat.toUInt8) ↔ b < a := by
      rw [UInt8.lt_iff_toNat_lt]
      simp only [Nat.toUInt8_eq, UInt8.toNat_ofNat']
      omega
    show (if a.toNat.toUInt8 < b.toNat.toUInt8 then (-1 : Int) else if b.toNat.toUInt8 < a.toNat.toUInt8 then 1 else Lib.compareBytes (Lib.bytesOf x) (Lib.bytesOf y)) = _
    rw [ih]
    rw [show cmpB (a :: x) (b :: y) = if a < b then (-1 : Int) else if b < a then 1 else cmpB x y from by rw [cmpB]]
    simp only [e1, e2]
theorem run_bytesOf (w : World) (v : Value) (b o : Nat) (l : List Int) (hv : SlV v b o l.length) (hl : Lies w b o l) : (Extern.Bytes.bytesOf v).run Try.prog w = .ok ⟨(Lib.bytesOf l).toArray⟩ w := by
  obtain ⟨p, cap, rfl, _, _, hp, hnone⟩ := hv
  cases p with
  | none =>
    have h0 : l = [] := List.eq_nil_of_length_eq_zero (Nat.eq_zero_of_not_pos fun h => by simpa using hp h)
    subst h0
    rfl
  | some a =>
    rcases Nat.eq_zero_or_pos l.length with h | h
    · have h0 : l = [] := List.eq_nil_of_length_eq_zero h
      subst h0
      have := Lib.run_loadBytesX (P := Try.prog) w [] a .empty (fun j x hj => by simp at hj)
      simpa [Extern.Bytes.bytesOf, Lib.bytesOf] using this
    · obtain rfl : a = ⟨b, o, none⟩ := by simpa using hp h
      have hx := Lib.run_loadBytesX (P := Try.prog) w l ⟨b, o, none⟩ .empty (fun j x hj => by
        have hjl : j < l.length := (List.getElem?_eq_some_iff.1 hj).1
        rw [Addr.add_mid, hl j hjl, List.getD_eq_getElem?_getD, hj]
        rfl)
      have he : (⟨ByteArray.empty.data ++ (Lib.bytesOf l).toArray⟩ : ByteArray) = ⟨(Lib.bytesOf l).toArray⟩ := by
        apply ByteArray.ext
        show (#[] : Array UInt8) ++ (Lib.bytesOf l).toArray = (Lib.bytesOf l).toArray
        simp
      rw [he] at hx
      simpa [Extern.Bytes.bytesOf] using hx
theorem run_compare (w : World) (v v2 : Value) (b o b2 o2 : Nat) (l m : List Int) (bl : Bytes l) (bm : Bytes m) (hv : SlV v b o l.length) (hv2 : SlV v2 b2 o2 m.length) (hl : Lies w b o l) (hm : Lies w b2 o2 m) :
    (Extern.BytealgCompare.compare #[v, v2]).run Try.prog w = .ok (.int .i64 (cmpB l m)) w := by
  change Sem.run Try.prog (do pure (goInt (Extern.BytealgCompare.cmp (← Extern.Bytes.bytesOf v) (← Extern.Bytes.bytesOf v2)))) w = _
  simp only [Sem.run_bind, Sem.run_pure, Result.andThen, run_bytesOf w v b o l hv hl, run_bytesOf w v2 b2 o2 m hv2 hm]
  rw [Lib.cmp_eq, cmpB_bytes l m bl bm]
  rfl
attribute [local irreducible] SlV Lies
attribute [local go_sem] takes comesTo
theorem bcompare_any (v v2 : Value) (b o b2 o2 : Nat) (l m : List Int) (bl : Bytes l) (bm : Bytes m) (hv : SlV v b o l.length) (hv2 : SlV v2 b2 o2 m.length) (w : World) (hl : Lies w b o l) (hm : Lies w b2 o2 m) :
    Calls Try.prog 78 #[v, v2] w fun e w' => e = .returned (.int .i64 (cmpB l m)) ∧ w' = w := by
  have H := Lib.hid (run_compare w v v2 b o b2 o2 l m bl bm hv hv2 hl hm)
  clear hv hv2 hl hm bl bm
  go_enter Try.func78, Try.ntmps78
  go_wp2
  rw [run_callFunc_extern Try.func92 (by kernel_rfl) (by kernel_rfl) (by kernel_rfl) (e := Extern.BytealgCompare.compare) (by kernel_rfl), H.out]
  simp only [Result.andThen]
  rw [Oper.upon_value]
  go_wp2
  go_ret
  exact ⟨rfl, rfl⟩
theorem isnan_any (a : Int) (w : World) : Calls Try.prog 93 #[.int .i64 a] w fun e w' => e = .returned (.bool false) ∧ w' = w := by
  have h : (a == a) = true := by simp
  go_enter Try.func93, Try.ntmps93
  go_wp2
  go_ret
  exact ⟨rfl, rfl⟩
theorem icompare_any (a b : Int) (w : World) : Calls Try.prog 79 #[.int .i64 a, .int .i64 b] w fun e w' => e = .returned (.int .i64 (cmpI a b)) ∧ w' = w := by
  have hn := fun x W => isnan_any x W
  by_cases h1 : a < b
  · rw [show cmpI a b = -1 from if_pos h1]
    go_enter Try.func79, Try.ntmps79
    go_wp2_with fail
    refine (hn _ _).mono ?_
    rintro _ w2 ⟨rfl, rfl⟩
    go_wp2_with fail
    refine (hn _ _).mono ?_
    rintro _ w2 ⟨rfl, rfl⟩
    go_wp2_with fail
    go_ret
    exact ⟨rfl, rfl⟩
  · by_cases h2 : b < a
    · rw [show cmpI a b = 1 from by unfold cmpI; rw [if_neg h1, if_pos h2]]
      go_enter Try.func79, Try.ntmps79
      go_wp2_with fail
      refine (hn _ _).mono ?_
      rintro _ w2 ⟨rfl, rfl⟩
      go_wp2_with fail
      refine (hn _ _).mono ?_
      rintro _ w2 ⟨rfl, rfl⟩
      go_wp2_with fail
      go_ret
      exact ⟨rfl, rfl⟩
    · rw [show cmpI a b = 0 from by unfold cmpI; rw [if_neg h1, if_neg h2]]
      go_enter Try.func79, Try.ntmps79
      go_wp2_with fail
      refine (hn _ _).mono ?_
      rintro _ w2 ⟨rfl, rfl⟩
      go_wp2_with fail
      refine (hn _ _).mono ?_
      rintro _ w2 ⟨rfl, rfl⟩
      go_wp2_with fail
      go_ret
      exact ⟨rfl, rfl⟩
end Go.Proofs.Ytjnimbhecfpnmaa
