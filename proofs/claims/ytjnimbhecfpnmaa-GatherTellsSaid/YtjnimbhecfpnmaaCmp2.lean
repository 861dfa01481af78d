/- The walks of bytes.Compare, cmp.Compare at int, and what they answer, over lists. -/
import Derived.Test.YtjnimbhecfpnmaaDecode
import Derived.Test.YtjnimbhecfpnmaaReg
import Derived.Lib.BytesEntry
import Derived.Test.YtjnimbhecfpnmaaFirst
import Derived.Deep.Cut
namespace Go.Proofs.Ytjnimbhecfpnmaa
section -- Cmp
set_option maxRecDepth 100000
open Go.ChangeShapes Go.WideShapes Go.ChangeAt Go.RowKit

/-- how two rows of bytes stand -/
def cmpB : List Int → List Int → Int
  | [], [] => 0
  | [], _ :: _ => -1
  | _ :: _, [] => 1
  | a :: x, b :: y => if a < b then -1 else if b < a then 1 else cmpB x y
/-- how two numbers stand -/
def cmpI (a b : Int) : Int := if a < b then -1 else if b < a then 1 else 0
theorem cmpB_bytes : ∀ (l m : List Int), Bytes l → Bytes m → Lib.compareBytes (Lib.bytesOf l) (Lib.bytesOf m) = cmpB l m
  | [], [], _, _ => rfl
  | [], _ :: _, _, _ => rfl
  | _ :: _, [], _, _ => rfl
  | a :: x, b :: y, hl, hm => by
    have ha := hl 0
    have hb := hm 0
    simp only [List.getD_cons_zero] at ha hb
    have ih := cmpB_bytes x y (fun i => by have := hl (i + 1); simpa using this) (fun i => by have := hm (i + 1); simpa using this)
    have e1 : (a.toNat.toUInt8 < b.toNat.toUInt8) ↔ a < b := by
      rw [UInt8.lt_iff_toNat_lt]
      simp only [Nat.toUInt8_eq, UInt8.toNat_ofNat']
      omega
    have e2 : (b.toNat.toUInt8 < a.toNat.toUInt8) ↔ b < a := by
      rw [UInt8.lt_iff_toNat_lt]
      simp only [Nat.toUInt8_eq, UInt8.toNat_ofNat']
      omega
    show (if a.toNat.toUInt8 < b.toNat.toUInt8 then (-1 : Int) else if b.toNat.toUInt8 < a.toNat.toUInt8 then 1 else Lib.compareBytes (Lib.bytesOf x) (Lib.bytesOf y)) = _
    rw [ih]
    rw [show cmpB (a :: x) (b :: y) = if a < b then (-1 : Int) else if b < a then 1 else cmpB x y from by rw [cmpB]]
    simp only [e1, e2]
theorem run_bytesOf (w : World) (v : Value) (b o : Nat) (l : List Int) (hv : SlV v b o l.length) (hl : Lies w b o l) : (Extern.Bytes.bytesOf v).run Try.prog w = .ok ⟨(Lib.bytesOf l).toArray⟩ w := by
  obtain ⟨p, cap, rfl, _, _, hp, hnone⟩ := hv
  cases p with
  | none =>
    have h0 : l = [] := List.eq_nil_of_length_eq_zero (Nat.eq_zero_of_not_pos fun h => by simpa using hp h)
    subst h0
    rfl
  | some a =>
    rcases Nat.eq_zero_or_pos l.length with h | h
    · have h0 : l = [] := List.eq_nil_of_length_eq_zero h
      subst h0
      have := Lib.run_loadBytesX (P := Try.prog) w [] a .empty (fun j x hj => by simp at hj)
      simpa [Extern.Bytes.bytesOf, Lib.bytesOf] using this
    · obtain rfl : a = ⟨b, o, none⟩ := by simpa using hp h
      have hx := Lib.run_loadBytesX (P := Try.prog) w l ⟨b, o, none⟩ .empty (fun j x hj => by
        have hjl : j < l.length := (List.getElem?_eq_some_iff.1 hj).1
        rw [Addr.add_mid, hl j hjl, List.getD_eq_getElem?_getD, hj]
        rfl)
      have he : (⟨ByteArray.empty.data ++ (Lib.bytesOf l).toArray⟩ : ByteArray) = ⟨(Lib.bytesOf l).toArray⟩ := by
        apply ByteArray.ext
        show (#[] : Array UInt8) ++ (Lib.bytesOf l).toArray = (Lib.bytesOf l).toArray
        simp
      rw [he] at hx
      simpa [Extern.Bytes.bytesOf] using hx
theorem run_compare (w : World) (v v2 : Value) (b o b2 o2 : Nat) (l m : List Int) (bl : Bytes l) (bm : Bytes m) (hv : SlV v b o l.length) (hv2 : SlV v2 b2 o2 m.length) (hl : Lies w b o l) (hm : Lies w b2 o2 m) :
    (Extern.BytealgCompare.compare #[v, v2]).run Try.prog w = .ok (.int .i64 (cmpB l m)) w := by
  change Sem.run Try.prog (do pure (goInt (Extern.BytealgCompare.cmp (← Extern.Bytes.bytesOf v) (← Extern.Bytes.bytesOf v2)))) w = _
  simp only [Sem.run_bind, Sem.run_pure, Result.andThen, run_bytesOf w v b o l hv hl, run_bytesOf w v2 b2 o2 m hv2 hm]
  rw [Lib.cmp_eq, cmpB_bytes l m bl bm]
  rfl
attribute [local irreducible] SlV Lies
attribute [local go_sem] takes comesTo
theorem bcompare_any (v v2 : Value) (b o b2 o2 : Nat) (l m : List Int) (bl : Bytes l) (bm : Bytes m) (hv : SlV v b o l.length) (hv2 : SlV v2 b2 o2 m.length) (w : World) (hl : Lies w b o l) (hm : Lies w b2 o2 m) :
    Calls Try.prog 78 #[v, v2] w fun e w' => e = .returned (.int .i64 (cmpB l m)) ∧ w' = w := by
  have H := Lib.hid (run_compare w v v2 b o b2 o2 l m bl bm hv hv2 hl hm)
  clear hv hv2 hl hm bl bm
  go_enter Try.func78, Try.ntmps78
  go_wp2
  rw [run_callFunc_extern Try.func92 (by kernel_rfl) (by kernel_rfl) (by kernel_rfl) (e := Extern.BytealgCompare.compare) (by kernel_rfl), H.out]
  simp only [Result.andThen]
  rw [Oper.upon_value]
  go_wp2
  go_ret
  exact ⟨rfl, rfl⟩
theorem isnan_any (a : Int) (w : World) : Calls Try.prog 93 #[.int .i64 a] w fun e w' => e = .returned (.bool false) ∧ w' = w := by
  have h : (a == a) = true := by simp
  go_enter Try.func93, Try.ntmps93
  go_wp2
  go_ret
  exact ⟨rfl, rfl⟩
theorem icompare_any (a b : Int) (w : World) : Calls Try.prog 79 #[.int .i64 a, .int .i64 b] w fun e w' => e = .returned (.int .i64 (cmpI a b)) ∧ w' = w := by
  have hn := fun x W => isnan_any x W
  by_cases h1 : a < b
  · rw [show cmpI a b = -1 from if_pos h1]
    go_enter Try.func79, Try.ntmps79
    go_wp2_with fail
    refine (hn _ _).mono ?_
    rintro _ w2 ⟨rfl, rfl⟩
    go_wp2_with fail
    refine (hn _ _).mono ?_
    rintro _ w2 ⟨rfl, rfl⟩
    go_wp2_with fail
    go_ret
    exact ⟨rfl, rfl⟩
  · by_cases h2 : b < a
    · rw [show cmpI a b = 1 from by unfold cmpI; rw [if_neg h1, if_pos h2]]
      go_enter Try.func79, Try.ntmps79
      go_wp2_with fail
      refine (hn _ _).mono ?_
      rintro _ w2 ⟨rfl, rfl⟩
      go_wp2_with fail
      refine (hn _ _).mono ?_
      rintro _ w2 ⟨rfl, rfl⟩
      go_wp2_with fail
      go_ret
      exact ⟨rfl, rfl⟩
    · rw [show cmpI a b = 0 from by unfold cmpI; rw [if_neg h1, if_neg h2]]
      go_enter Try.func79, Try.ntmps79
      go_wp2_with fail
      refine (hn _ _).mono ?_
      rintro _ w2 ⟨rfl, rfl⟩
      go_wp2_with fail
      refine (hn _ _).mono ?_
      rintro _ w2 ⟨rfl, rfl⟩
      go_wp2_with fail
      go_ret
      exact ⟨rfl, rfl⟩
end
set_option maxRecDepth 100000
open Go.ChangeShapes Go.WideShapes Go.ChangeAt Go.RowKit

/-- the first that is not 0 -/
def orF : List Int → Int
  | [] => 0
  | a :: l => if a = 0 then orF l else a
theorem orF_skip : ∀ (l : List Int) (k : Nat), (∀ i, i < k → l.getD i 0 = 0) → orF l = orF (l.drop k)
  | _, 0, _ => rfl
  | [], k + 1, _ => rfl
  | a :: l, k + 1, h => by
    have h0 : a = 0 := h 0 (by omega)
    rw [orF, if_pos h0, List.drop_succ_cons]
    exact orF_skip l k fun i hi => by have := h (i + 1) (by omega); simpa using this
attribute [local go_sem] takes takesE comesTo
theorem or_any (xs : List Int) (g o c : Nat) (hn : xs.length ≤ 1000000) (w : World) (hc : ∀ i, i < xs.length → w.cell? ⟨g, o + i, none⟩ = some (.int .i64 (xs.getD i 0))) :
    Calls Try.prog 77 #[.slice (some ⟨g, o, none⟩) xs.length c] w fun e w' => e = .returned (.int .i64 (orF xs)) ∧ w' = w := by
  obtain ⟨n, hN⟩ : ∃ n, n = xs.length := ⟨_, rfl⟩
  rw [← hN]
  have HC := Lib.hid (And.intro hc (And.intro hN hn))
  clear hc hn hN
  go_enter Try.func77, Try.ntmps77
  go_wp2_with fail
  go_loopw [5, 8] (fun v5 i wr => ∃ k : Nat, k ≤ n ∧ i = .int .i64 (k : Int) ∧ wr = w ∧ (∀ j, j < k → xs.getD j 0 = 0)) (fun _ i _ => n - (intOf i).toNat)
  case atStart => exact ⟨0, Nat.zero_le _, rfl, rfl, fun j h => by omega⟩
  case round =>
    obtain ⟨k, hk, rfl, rfl, hz⟩ := hrel
    have HZ := Lib.hid hz
    clear hz
    by_cases hlt : k < n
    · have i0 : (0 : Int) ≤ (k : Int) := by omega
      have i1 : (k : Int) < (n : Int) := by omega
      have c1 := HC.out.1 k (by rw [← HC.out.2.1]; exact hlt)
      have s1 : IntKind.i64.wrap ((k : Int) + 1) = (k : Int) + 1 := by rw [IntKind.wrap_i64]; have := HC.out.2; omega
      obtain ⟨x, hx⟩ : ∃ x, x = xs.getD k 0 := ⟨_, rfl⟩
      rw [← hx] at c1
      have HX := Lib.hid hx
      clear hx
      by_cases h0 : x = 0
      · subst h0
        go_wp2_with fail
        go_roundw
        case rel => exact ⟨k + 1, by omega, rfl, by simp, fun j hj => by
          by_cases h : j = k
          · rw [h]; exact HX.out.symm
          · exact HZ.out j (by omega)⟩
        case measure => simp [intOf]; omega
      · have h0' : (x != 0) = true := by simp [h0]
        have hor : orF xs = x := by
          rw [orF_skip xs k HZ.out, List.drop_eq_getElem_cons (by rw [← HC.out.2.1]; exact hlt), orF]
          have e : xs[k]'(by rw [← HC.out.2.1]; exact hlt) = x := by rw [HX.out]; simp [List.getD, show k < xs.length by rw [← HC.out.2.1]; exact hlt]
          rw [e, if_neg h0]
        have HO := Lib.hid hor
        clear hor
        go_wp2_with fail
        go_ret
        exact ⟨by rw [HO.out]; rfl, rfl⟩
    · have hge : ¬ (k : Int) < (n : Int) := by omega
      have hor : orF xs = 0 := by
        rw [orF_skip xs k HZ.out, List.drop_eq_nil_of_le (by rw [← HC.out.2.1]; omega), orF]
      have HO := Lib.hid hor
      clear hor
      go_wp2_with fail
      go_ret
      exact ⟨by rw [HO.out]; rfl, rfl⟩
-- generated: gather.compare
/-- how two parts stand -/
def cmpP (wh wh2 : List Int) (s s2 a a2 : Int) (l m : List Int) : Int := orF [cmpB wh wh2, cmpI s s2, cmpI a a2, cmpB l m]
attribute [local irreducible] SlV Lies
set_option maxHeartbeats 1000000 in
theorem compare_any (wh wh2 : List Int) (hw : wh.length = 32) (hw2 : wh2.length = 32) (bw : Bytes wh) (bw2 : Bytes wh2) (s a s2 a2 : Int) (v v2 : Value) (b o b2 o2 : Nat) (l m : List Int) (bl : Bytes l) (bm : Bytes m) (hv : SlV v b o l.length) (hv2 : SlV v2 b2 o2 m.length) (w : World) (hl : Lies w b o l) (hm : Lies w b2 o2 m) :
    Calls Try.prog 56 #[.agg (pcells wh s a v).toArray, .agg (pcells wh2 s2 a2 v2).toArray] w fun e w' => e = .returned (.int .i64 (cmpP wh wh2 s s2 a a2 l m)) ∧ Below w.heap.size w w' := by
  have HV := Lib.hid (And.intro hv hv2)
  obtain ⟨pv, cv, rfl, _⟩ := by unfold SlV at hv; exact hv
  obtain ⟨pv2, cv2, rfl, _⟩ := by unfold SlV at hv2; exact hv2
  have k0 := pcells_size hw s a (.slice pv l.length cv)
  have k1 := pcells_at hw s a (.slice pv l.length cv)
  have k2 := pcells_data hw s a (.slice pv l.length cv)
  have j0 := pcells_size hw2 s2 a2 (.slice pv2 m.length cv2)
  have j1 := pcells_at hw2 s2 a2 (.slice pv2 m.length cv2)
  have j2 := pcells_data hw2 s2 a2 (.slice pv2 m.length cv2)
  have e1 : ∀ (W : World) g, W.heap[g]? = some (.cells (pcells wh s a (.slice pv l.length cv)).toArray 26 (0, 0)) → Lies W g 0 wh := fun W g h => lies_whole h
  have e2 : ∀ (W : World) g, W.heap[g]? = some (.cells (pcells wh2 s2 a2 (.slice pv2 m.length cv2)).toArray 26 (0, 0)) → Lies W g 0 wh2 := fun W g h => lies_whole h
  generalize (pcells wh s a (.slice pv l.length cv)).toArray = C at *
  generalize (pcells wh2 s2 a2 (.slice pv2 m.length cv2)).toArray = C2 at *
  have hq := blk2 w (.cells C 26) (.cells C2 26)
  have hb := below2 w (.cells C 26) (.cells C2 26)
  obtain ⟨W, hW⟩ : ∃ W, W = (w.alloc (.cells C 26)).alloc (.cells C2 26) := ⟨_, rfl⟩
  rw [← hW] at hq hb
  have HWQ := Lib.hid hW
  have c0 := BC_cell (cell_row hq.1 32 k0)
  have c1 := BC_cell (cell_row hq.1 33 k1)
  have c2 := BC_cell (cell_row hq.1 34 k2)
  have d0 := BC_cell (cell_row hq.2 32 j0)
  have d1 := BC_cell (cell_row hq.2 33 j1)
  have d2 := BC_cell (cell_row hq.2 34 j2)
  have L1 := e1 _ _ hq.1
  have L2 := e2 _ _ hq.2
  have H78a : Hid (∀ x : HW (BC W), Calls Try.prog 78 #[.slice (some ⟨w.heap.size, 0, none⟩) 32 32, .slice (some ⟨w.heap.size + 1, 0, none⟩) 32 32] x.w fun e w' => e = .returned (.int .i64 (cmpB wh wh2)) ∧ w' = x.w) :=
    Lib.hid fun x => bcompare_any _ _ _ 0 _ 0 wh wh2 bw bw2 (by rw [hw]; exact slv_all _ 32 (by decide)) (by rw [hw2]; exact slv_all _ 32 (by decide)) x.w (L1.below' x.h) (L2.below' x.h)
  have H78b : Hid (∀ x : HW (BC W), Calls Try.prog 78 #[.slice pv l.length cv, .slice pv2 m.length cv2] x.w fun e w' => e = .returned (.int .i64 (cmpB l m)) ∧ w' = x.w) :=
    Lib.hid fun x => bcompare_any _ _ b o b2 o2 l m bl bm HV.out.1 HV.out.2 x.w ((hl.below' hb).below' x.h) ((hm.below' hb).below' x.h)
  have H79a : Hid (∀ x : HW (BC W), Calls Try.prog 79 #[.int .i64 s, .int .i64 s2] x.w fun e w' => e = .returned (.int .i64 (cmpI s s2)) ∧ w' = x.w) := Lib.hid fun x => icompare_any s s2 x.w
  have H79b : Hid (∀ x : HW (BC W), Calls Try.prog 79 #[.int .i64 a, .int .i64 a2] x.w fun e w' => e = .returned (.int .i64 (cmpI a a2)) ∧ w' = x.w) := Lib.hid fun x => icompare_any a a2 x.w
  have HB := Lib.hid hb
  have hfin : cmpP wh wh2 s s2 a a2 l m = orF [cmpB wh wh2, cmpI s s2, cmpI a a2, cmpB l m] := rfl
  rw [hfin]
  generalize cmpB wh wh2 = r1 at *
  generalize cmpB l m = r4 at *
  generalize cmpI s s2 = r2 at *
  generalize cmpI a a2 = r3q at *
  generalize l.length = n1 at *
  generalize m.length = n2 at *
  clear hfin k0 k1 k2 j0 j1 j2 e1 e2 hq hb hv hv2 hl hm bl bm hw hw2 L1 L2 hW
  go_enter Try.func56, Try.ntmps56
  go_upto_region 1 with fail
  rw [← HWQ.out]
  have hS := BC_refl
  haveI := BC_inst W
  have SB := Lib.hid (BC_refl W)
  refine wp_region_E (by kernel_rfl) ?_
  refine takeE (i := 0) rfl (by kernel_rfl) (by kernel_rfl) (by kernel_rfl) (fun _ _ _ _ h => h) SB.out (fun K hK => ?_)
  go_simp
  refine hK.out _ ?_
  clear hK K
  refine takeE (i := 1) rfl (by kernel_rfl) (by kernel_rfl) (by kernel_rfl) (fun _ _ _ _ h => h) SB.out (fun K hK => ?_)
  go_simp
  refine hK.out _ ?_
  clear hK K
  refine takeE (i := 2) rfl (by kernel_rfl) (by kernel_rfl) (by kernel_rfl) (fun _ _ _ _ h => h) SB.out (fun K hK => ?_)
  go_simp
  refine hK.out _ ?_
  clear hK K
  refine takeE (i := 3) rfl (by kernel_rfl) (by kernel_rfl) (by kernel_rfl) (fun _ _ _ _ h => h) SB.out (fun K hK => ?_)
  go_simp
  refine hK.out _ ?_
  clear hK K
  refine takeE (i := 4) rfl (by kernel_rfl) (by kernel_rfl) (by kernel_rfl) (fun _ _ _ _ h => h) SB.out (fun K hK => ?_)
  go_simp
  apply Exists.intro
  refine ⟨fun x => ?_, hK.out _ ?_⟩
  · go_at_call 78
    exact (((H78a.out x)).mono fun e w' h => ⟨h.1, by rw [h.2]; exact BC_refl _⟩)
  clear hK K
  refine takeE (i := 5) rfl (by kernel_rfl) (by kernel_rfl) (by kernel_rfl) (fun _ _ _ _ h => h) SB.out (fun K hK => ?_)
  go_simp
  refine hK.out _ ?_
  clear hK K
  refine takeE (i := 6) rfl (by kernel_rfl) (by kernel_rfl) (by kernel_rfl) (fun _ _ _ _ h => h) SB.out (fun K hK => ?_)
  go_simp
  refine hK.out _ ?_
  clear hK K
  refine takeE (i := 7) rfl (by kernel_rfl) (by kernel_rfl) (by kernel_rfl) (fun _ _ _ _ h => h) SB.out (fun K hK => ?_)
  go_simp
  refine hK.out _ ?_
  clear hK K
  refine takeE (i := 8) rfl (by kernel_rfl) (by kernel_rfl) (by kernel_rfl) (fun _ _ _ _ h => h) SB.out (fun K hK => ?_)
  go_simp
  refine hK.out _ ?_
  clear hK K
  refine takeE (i := 9) rfl (by kernel_rfl) (by kernel_rfl) (by kernel_rfl) (fun _ _ _ _ h => h) SB.out (fun K hK => ?_)
  go_simp
  apply Exists.intro
  refine ⟨fun x => ?_, hK.out _ ?_⟩
  · go_at_call 79
    exact ((H79a.out x).mono fun e w' h => ⟨h.1, by rw [h.2]; exact BC_refl _⟩)
  clear hK K
  refine takeE (i := 10) rfl (by kernel_rfl) (by kernel_rfl) (by kernel_rfl) (fun _ _ _ _ h => h) SB.out (fun K hK => ?_)
  go_simp
  refine hK.out _ ?_
  clear hK K
  refine takeE (i := 11) rfl (by kernel_rfl) (by kernel_rfl) (by kernel_rfl) (fun _ _ _ _ h => h) SB.out (fun K hK => ?_)
  go_simp
  refine hK.out _ ?_
  clear hK K
  refine takeE (i := 12) rfl (by kernel_rfl) (by kernel_rfl) (by kernel_rfl) (fun _ _ _ _ h => h) SB.out (fun K hK => ?_)
  go_simp
  refine hK.out _ ?_
  clear hK K
  refine takeE (i := 13) rfl (by kernel_rfl) (by kernel_rfl) (by kernel_rfl) (fun _ _ _ _ h => h) SB.out (fun K hK => ?_)
  go_simp
  refine hK.out _ ?_
  clear hK K
  refine takeE (i := 14) rfl (by kernel_rfl) (by kernel_rfl) (by kernel_rfl) (fun _ _ _ _ h => h) SB.out (fun K hK => ?_)
  go_simp
  apply Exists.intro
  refine ⟨fun x => ?_, hK.out _ ?_⟩
  · go_at_call 79
    exact ((H79b.out x).mono fun e w' h => ⟨h.1, by rw [h.2]; exact BC_refl _⟩)
  clear hK K
  refine takeE (i := 15) rfl (by kernel_rfl) (by kernel_rfl) (by kernel_rfl) (fun _ _ _ _ h => h) SB.out (fun K hK => ?_)
  go_simp
  refine hK.out _ ?_
  clear hK K
  refine takeE (i := 16) rfl (by kernel_rfl) (by kernel_rfl) (by kernel_rfl) (fun _ _ _ _ h => h) SB.out (fun K hK => ?_)
  go_simp
  refine hK.out _ ?_
  clear hK K
  refine takeE (i := 17) rfl (by kernel_rfl) (by kernel_rfl) (by kernel_rfl) (fun _ _ _ _ h => h) SB.out (fun K hK => ?_)
  go_simp
  refine hK.out _ ?_
  clear hK K
  refine takeE (i := 18) rfl (by kernel_rfl) (by kernel_rfl) (by kernel_rfl) (fun _ _ _ _ h => h) SB.out (fun K hK => ?_)
  go_simp
  refine hK.out _ ?_
  clear hK K
  refine takeE (i := 19) rfl (by kernel_rfl) (by kernel_rfl) (by kernel_rfl) (fun _ _ _ _ h => h) SB.out (fun K hK => ?_)
  go_simp
  apply Exists.intro
  refine ⟨fun x => ?_, hK.out _ ?_⟩
  · go_at_call 78
    exact ((H78b.out x).mono fun e w' h => ⟨h.1, by rw [h.2]; exact BC_refl _⟩)
  clear hK K

  refine stepE (i := 20) rfl (by kernel_rfl) (fun w3 r3 K hK => ?_)
  go_simp
  refine hK.out _ _ (BC_trans r3 (below1 w3 _)) ?_
  have hg := heap_alloc_new w3 (.cells #[.int .i64 r1, .int .i64 r2, .int .i64 r3q, .int .i64 r4] 3)
  have S3 := Lib.hid (BC_trans r3 (below1 w3 (.cells #[.int .i64 r1, .int .i64 r2, .int .i64 r3q, .int .i64 r4] 3)))
  generalize w3.alloc (.cells #[.int .i64 r1, .int .i64 r2, .int .i64 r3q, .int .i64 r4] 3) = W3 at *
  clear hK K
  refine stepE (i := 21) rfl (by kernel_rfl) (fun w5 r5 K hK => ?_)
  go_simp
  refine (or_any [r1, r2, r3q, r4] w3.heap.size 0 4 (by simp) w5 (fun i hi => ?_)).mono ?_
  · have h := (r5.block _ (blk_lt hg)).trans hg
    rw [Nat.zero_add]
    have hi4 : i = 0 ∨ i = 1 ∨ i = 2 ∨ i = 3 := by simp at hi; omega
    rcases hi4 with rfl | rfl | rfl | rfl <;> exact cell_row h _ rfl
  rintro e w6 ⟨rfl, rfl⟩
  have S5 := Lib.hid (BC_trans S3.out r5)
  refine hK.out _ _ S5.out ?_
  clear hK K
  refine takeE (i := 22) rfl (by kernel_rfl) (by kernel_rfl) (by kernel_rfl) (fun _ _ _ _ h => h) S5.out (fun K hK => ?_)
  go_simp
  refine hK.out _ ?_
  clear hK K
  refine doneE (by kernel_rfl) (fun w9 r9 => ?_) _
  clear hS
  have HF := Lib.hid (BC_below HB.out HB.out.size (BC_trans S5.out r9))
  go_wp2_with fail
  go_ret
  exact ⟨rfl, HF.out⟩
end Go.Proofs.Ytjnimbhecfpnmaa
