/- Two deeds that don't know each other: what they show: plain. -/
import Derived.Test.YtagdlbadkmgdmaaDoorHist
import Derived.Test.YtagdlbadkmgdmaaDoorLast
import Derived.Test.YtagdlbadkmgdmaaDoorView
import Derived.Test.YtagdlbadkmgdmaaDoorFits
import Derived.Test.YtagdlbadkmgdmaaDoorGuard
import Derived.Lib.SlBytesConst
import Derived.ChangeArms
import Derived.Deep.Cut
namespace Go.Proofs.YtagdlbadkmgdmaaDoor
section -- Awk14
open Go

def awD0 : De := ⟨0, 0, 0, false, false, 1⟩
def awD1 : De := ⟨1, 0, 0, false, false, 2⟩
def awE0 : Ev := { dot := (0, 1), deps := [], kind := 1, path := ⟨#[97]⟩, sum := 1 :: List.replicate 31 0, size := 1 }
def awE1 : Ev := { dot := (1, 1), deps := [], kind := 1, path := ⟨#[97]⟩, sum := 2 :: List.replicate 31 0, size := 2 }
theorem aw_hist : histF [awD0, awD1] = [awE0, awE1] := by kernel_rfl
theorem hasF_nil (d : Dt) : hasF [] d = false := by
  unfold hasF
  cases h : mayD d with
  | false => rfl
  | true =>
    simp [mayD] at h
    have hg : getF [] d.1 = 0 := by
      unfold getF
      split
      · show (List.replicate 32 (0 : Int)).getD _ 0 = 0
        exact zeros_get _ _
      · rfl
    rw [hg, Bool.true_and]
    exact decide_eq_false (by omega)
theorem aw_path : (⟨#[97]⟩ : ByteArray).toList = [97] := by rw [Lib.toList_data]
theorem aw_cmp : cmpE awE0 awE1 = -1 := by
  unfold cmpE
  show (if Op.bytesLess (ByteArray.toList ⟨#[97]⟩) (ByteArray.toList ⟨#[97]⟩) = true then -1 else if (ByteArray.toList ⟨#[97]⟩ == ByteArray.toList ⟨#[97]⟩) = false then 1 else cmpD (0, 1) (1, 1)) = (-1 : Int)
  rw [aw_path]
  decide
theorem aw_last (v0 v1 : Value) : lastF [(awE0, v0), (awE1, v1)] = [(awE0, v0), (awE1, v1)] := by
  have h00 : ∀ (a b : Ev) (k i : Nat), a.deps = [] → (i ≤ k ∨ cmpD a.dot b.dot ≠ 0) → okKI a b k i = true := fun a b k i h1 h2 => by
    unfold okKI
    rw [h1, hasF_nil, Bool.not_false, Bool.or_true, Bool.true_and]
    rcases h2 with h | h
    · rw [decide_eq_true h]; rfl
    · rw [decide_eq_false h, Bool.not_false, Bool.or_true]
  have i0 : isK [(awE0, v0), (awE1, v1)] 0 2 = true := by
    show (isK [(awE0, v0), (awE1, v1)] 0 1 && okKI awE1 awE0 1 0) = true
    show ((true && okKI awE0 awE0 0 0) && okKI awE1 awE0 1 0) = true
    rw [h00 awE0 awE0 0 0 rfl (.inl (by decide)), h00 awE1 awE0 1 0 rfl (.inl (by decide))]
    rfl
  have i1 : isK [(awE0, v0), (awE1, v1)] 1 2 = true := by
    show ((true && okKI awE0 awE1 0 1) && okKI awE1 awE1 1 1) = true
    rw [h00 awE0 awE1 0 1 rfl (.inr (by decide)), h00 awE1 awE1 1 1 rfl (.inl (by decide))]
    rfl
  have l1 : lastK [(awE0, v0), (awE1, v1)] 1 = [(awE0, v0)] := by
    show (if isK [(awE0, v0), (awE1, v1)] 0 2 = true then insE [] (awE0, v0) else []) = _
    rw [if_pos i0]
    rfl
  show lastK [(awE0, v0), (awE1, v1)] 2 = _
  show (if isK [(awE0, v0), (awE1, v1)] 1 2 = true then insE (lastK [(awE0, v0), (awE1, v1)] 1) (awE1, v1) else lastK [(awE0, v0), (awE1, v1)] 1) = _
  rw [if_pos i1, l1]
  have hp : posE [(awE0, v0)] (awE1, v1) = 1 := by
    unfold posE
    rw [List.findIdx_cons]
    show cond (!decide (cmpE awE0 awE1 < 0)) 0 (List.findIdx _ [] + 1) = 1
    rw [aw_cmp]
    rfl
  unfold insE
  rw [hp]
  rfl
theorem numB_small (u : Nat) (h : u < 10) : numB (u : Int) = ⟨#[UInt8.ofNat (48 + u)]⟩ := by rw [numB, itoa_small u h]
def awS0 : Sd := { sdOf awE0 with path := ⟨#[97, 126, 48, 45, 49]⟩ }
theorem aw_copy : copyB ⟨#[97]⟩ (0, 1) = ⟨#[97, 126, 48, 45, 49]⟩ := by
  unfold copyB
  rw [show numB ((0, 1) : Dt).1 = ⟨#[48]⟩ from numB_small 0 (by decide), show numB ((0, 1) : Dt).2 = ⟨#[49]⟩ from numB_small 1 (by decide)]
  rfl
theorem aw_tops : ((topsF [awE0, awE1]).1 ⟨#[97]⟩ = some (1, 1)) ∧ (topsF [awE0, awE1]).2 ⟨#[97]⟩ = 0 := by
  have hd : ∀ D : Dirs, ∀ e : Ev, e.path = ⟨#[97]⟩ → stepDir D e = D := fun D e he => by
    unfold stepDir
    rw [he]
    rfl
  have h1 : topsK [awE0, awE1] 1 = (stepB (fun _ => none) awE0, fun _ => 0) := by
    show (if awE0.kind = 1 then (stepB (fun _ => none) awE0, stepDir (fun _ => 0) awE0) else topsK [awE0, awE1] 0) = _
    rw [if_pos (show awE0.kind = 1 from rfl), hd _ awE0 rfl]
  have h2 : topsF [awE0, awE1] = (stepB (stepB (fun _ => none) awE0) awE1, fun _ => 0) := by
    show (if awE1.kind = 1 then (stepB (topsK [awE0, awE1] 1).1 awE1, stepDir (topsK [awE0, awE1] 1).2 awE1) else topsK [awE0, awE1] 1) = _
    rw [if_pos (show awE1.kind = 1 from rfl), hd _ awE1 rfl, h1]
  rw [h2]
  refine ⟨?_, rfl⟩
  have hb0 : stepB (fun _ => none) awE0 = fun k => if k = awE0.path then some awE0.dot else none := rfl
  rw [hb0]
  unfold stepB
  have hp : (if awE1.path = awE0.path then some awE0.dot else none) = some awE0.dot := if_pos rfl
  simp only [hp]
  rw [if_pos (show (0 : Int) < cmpD awE1.dot awE0.dot by decide)]
  exact if_pos rfl
theorem aw_view : viewF [awE0, awE1] = [sdOf awE1, awS0] := by
  obtain ⟨h1, h2⟩ := aw_tops
  obtain ⟨T, hT⟩ : ∃ T, T = (topsF [awE0, awE1]).1 := ⟨_, rfl⟩
  obtain ⟨D, hD⟩ : ∃ D, D = (topsF [awE0, awE1]).2 := ⟨_, rfl⟩
  unfold viewF
  rw [← hT, ← hD]
  rw [← hT] at h1
  rw [← hD] at h2
  have e0 : viewOne T D awE0 = awS0 := by
    unfold viewOne
    rw [if_pos (.inr (by rw [show awE0.path = ⟨#[97]⟩ from rfl, h1]; decide))]
    unfold awS0
    rw [← aw_copy]
    rfl
  have e1 : viewOne T D awE1 = sdOf awE1 := by
    unfold viewOne
    rw [if_neg]
    rw [show awE1.path = ⟨#[97]⟩ from rfl, h1, h2]
    rintro (h | h)
    · exact absurd h (by decide)
    · exact h rfl
  have hk : viewK [awE0, awE1] T D [awE0, awE1].length = [awS0, sdOf awE1] := by
    show (if awE1.kind = 1 then viewK [awE0, awE1] T D 1 ++ [viewOne T D awE1] else viewK [awE0, awE1] T D 1) = _
    rw [if_pos (show awE1.kind = 1 from rfl)]
    show (if awE0.kind = 1 then viewK [awE0, awE1] T D 0 ++ [viewOne T D awE0] else viewK [awE0, awE1] T D 0) ++ [viewOne T D awE1] = _
    rw [if_pos (show awE0.kind = 1 from rfl), e0, e1]
    rfl
  rw [hk]
  have hc : cmpS (sdOf awE1).path awS0.path = -1 := by
    unfold cmpS
    show (if Op.bytesLess (ByteArray.toList ⟨#[97]⟩) (ByteArray.toList ⟨#[97, 126, 48, 45, 49]⟩) = true then -1 else _) = (-1 : Int)
    rw [Lib.toList_data, Lib.toList_data]
    exact if_pos (by decide)
  unfold sortF
  rw [Go.Sort.insertionSort, Go.Sort.insOuter, if_pos (by decide), Go.Sort.insOuter, if_neg (by decide)]
  show (Go.Sort.insInner _ 0 (0 + 1) #[awS0, sdOf awE1]).toList = _
  rw [Go.Sort.insInner, if_pos]
  · rfl
  · have hlt : Go.Proofs.ltOf (fun a b : Sd => cmpS a.path b.path) (sdOf awE1) awS0 = true := by
      show decide (cmpS (sdOf awE1).path awS0.path < 0) = true
      rw [hc]
      rfl
    show (decide (0 + 1 > 0) && Go.Proofs.ltOf (fun a b : Sd => cmpS a.path b.path) (sdOf awE1) awS0) = true
    rw [hlt]
    rfl
end
set_option maxRecDepth 100000
open Go.ChangeShapes Go.WideShapes Go.ChangeAt Go.RowKit

theorem build_sd2 (W : List Int) (hW : W.length = 32) :
    Tryd.prog.built 40 [(2, .agg (row .u8 W)), (3, .int .i64 1)] = some (sdC ⟨ByteArray.empty, (0, 0), W, 1⟩).toArray := by
  iterate 32 (rcases W with _ | ⟨_, W⟩; · simp at hW)
  rcases W with _ | ⟨_, W⟩
  · kernel_rfl
  · simp at hW
theorem wlw_built {P : Program} {ops : Array Oper} {rest : List Oper} {o : Oper} {a : Act} {w : World} {Q : Exit → Act → World → Prop} (hw : Region.wanted o (yielded ops a.tmps) = true) (t : TypeId) (parts : Array (Nat × Operand)) (ho : o.op = .build t parts) (cs : Array Value)
    (hb : P.built t (parts.map fun (i, x) => (i, a.eval x)).toList = some cs) (h : wpList P ops Q rest (a.put o.dst (.agg cs)) w) : wpList P ops Q (o :: rest) a w :=
  wpList_wanted hw fun _ hK => wp_build t parts ho (by rw [hb]; rfl) (by rw [hb]; exact hK _ _ h)
theorem aw_bytes : Bytes [120] := by
  intro j
  match j with
  | 0 => decide
  | j + 1 => simp
def awC : Array Value := #[.int .u8 0, .int .u8 0, .int .u8 0, .bool false, .bool false, .int .u8 1, .int .u8 1, .int .u8 0, .int .u8 0, .bool false, .bool false, .int .u8 2]
attribute [local irreducible] SlV Lies headG
attribute [local go_sem] takes takesE comesTo
set_option maxHeartbeats 8000000 in
theorem awake14_any (w : World) (ht : Tab w) : Calls Tryd.prog 8 #[] w fun e w' => e = .returned (.bool true) ∧ Below w.heap.size w w' := by
  obtain ⟨W1, hW1⟩ : ∃ W, W = w.alloc (.cells awC 69) := ⟨_, rfl⟩
  obtain ⟨g1, hg1⟩ : ∃ g, g = w.heap.size := ⟨_, rfl⟩
  have n1 := heap_alloc_new w (.cells awC 69)
  have b1 := below1 w (.cells awC 69)
  rw [← hW1, ← hg1] at n1
  rw [← hW1] at b1
  have hrd : RdG 6 W1.heap.size W1 (.slice (some ⟨g1, 0, none⟩) 2 2) (deR [awD0, awD1]) := by
    refine ⟨deR_n _, g1, 0, by unfold SlV; exact ⟨_, _, rfl, by decide, by decide, fun _ => rfl, fun h => by cases h⟩, fun j u hj => ?_, fun _ => blk_lt n1⟩
    rw [Nat.zero_add]
    refine cell_row n1 j ?_
    have e : awC.toList = (deR [awD0, awD1]).flatten := by rfl
    rw [← Array.getElem?_toList, e]
    exact hj
  have HH := bx (rhistory_any _ [awD0, awD1] W1 hrd (fun d hd => by
    rcases List.mem_cons.1 hd with rfl | hd
    · exact ⟨by decide, by decide, by decide, by decide⟩
    · rw [List.mem_singleton.1 hd]
      exact ⟨by decide, by decide, by decide, by decide⟩) (by decide))
  have HM := bx (And.intro hW1 (And.intro hg1 (And.intro (show BC w W1 from b1) ht)))
  have hz27 := zero_kn
  clear hrd hW1 hg1 n1 b1 ht
  go_enter Tryd.func8, Tryd.ntmps8
  go_wp2_with fail
  show Calls _ _ _ (w.alloc (.cells awC 69)) _
  rw [← HM.out.1, ← HM.out.2.1]
  refine HH.out.mono ?_
  rintro e w2 ⟨v2, CK, qs, rfl, ⟨hck, hck1⟩, hrd2, hqs, hb2⟩
  rw [aw_hist] at hqs
  obtain ⟨v0, v1, rfl⟩ : ∃ v0 v1, qs = [(awE0, v0), (awE1, v1)] := by
    match qs, hqs with
    | [(a, x), (b, y)], h =>
      simp only [List.map_cons, List.map_nil, List.cons.injEq, and_true] at h
      obtain ⟨rfl, rfl⟩ := h
      exact ⟨x, y, rfl⟩
  obtain ⟨W3, hW3⟩ : ∃ W, W = w2.alloc (.cells CK 27) := ⟨_, rfl⟩
  have b3 := below1 w2 (.cells CK 27)
  rw [← hW3] at b3
  obtain ⟨va, vc, hvf⟩ := hrd2.2.form
  have HL := bx (rlast_any v2 _ W3 (hrd2.to b3) (show 2 ≤ 10000 by decide))
  have bw3 := BC_trans HM.out.2.2.1 (BC_trans (show BC W1 w2 from hb2) b3)
  have H3 := bx (And.intro hW3 (And.intro hck (And.intro hck1 bw3)))
  subst hvf
  clear hW3 hck hck1 b3 hrd2 hqs hb2 HH bw3
  go_upto_region 2 with (refine wpList_store_rowTo rfl 27 _ _ rfl rfl _ CK rfl rfl 27 zKn (heap_alloc_new w2 _) (by rw [H3.out.2.1]; kernel_rfl) (by rw [H3.out.2.1]; kernel_rfl) H3.out.2.2.1 ?_; rw [World.setRow_alloc_new])
  rw [← H3.out.1]
  clear hz27
  go_wp2_with fail
  refine HL.out.mono ?_
  rintro e w4 ⟨v4, rfl, hrd4, b4⟩
  rw [aw_last] at hrd4
  have bw4 := BC_trans H3.out.2.2.2 b4
  have HVW := bx (view_any v4 [(awE0, v0), (awE1, v1)] w4 hrd4 (show 2 < 20 by decide) (fun q hq => by
    rcases List.mem_cons.1 hq with rfl | hq
    · exact (by decide : (1 : Nat) ≤ 4000000)
    · rw [List.mem_singleton.1 hq]
      exact (by decide : (1 : Nat) ≤ 4000000)) (fun q hq => by
    rcases List.mem_cons.1 hq with rfl | hq
    · show -9223372036854775808 ≤ (0 : Int) ∧ (0 : Int) ≤ 9223372036854775807 ∧ -9223372036854775808 ≤ (1 : Int) ∧ (1 : Int) ≤ 9223372036854775807
      decide
    · rw [List.mem_singleton.1 hq]
      show -9223372036854775808 ≤ (1 : Int) ∧ (1 : Int) ≤ 9223372036854775807 ∧ -9223372036854775808 ≤ (1 : Int) ∧ (1 : Int) ≤ 9223372036854775807
      decide) (HM.out.2.2.2.to bw4))
  have HB4 := bx bw4
  obtain ⟨v4a, v4c, hv4⟩ := hrd4.2.form
  subst hv4
  clear bw4 b4 hrd4 HL
  go_wp2_with fail
  refine HVW.out.mono ?_
  rintro e w5 ⟨v5, rfl, hrd5, b5⟩
  rw [show ([(awE0, v0), (awE1, v1)] : List (Ev × Value)).map (·.1) = [awE0, awE1] from rfl, aw_view] at hrd5
  have bw5 := BC_trans HB4.out b5
  obtain ⟨_, g5, o5, sv5, rg5, _⟩ := hrd5
  obtain ⟨a5, c5, rfl, _, _, ha5, _⟩ := by unfold SlV at sv5; exact sv5
  obtain rfl := ha5 (by decide)
  have k0 : w5.cell? ⟨g5, o5, none⟩ = some (.string ⟨#[97]⟩) := rg5 0 _ rfl
  have k1 : w5.cell? ⟨g5, o5 + 1, none⟩ = some (.int .i64 1) := rg5 1 _ rfl
  have k2 : w5.cell? ⟨g5, o5 + 36, none⟩ = some (.string ⟨#[97, 126, 48, 45, 49]⟩) := rg5 36 _ rfl
  have HB5 := bx bw5
  clear bw5 b5 sv5 rg5 ha5 HVW
  have kc : ∀ w : World, (convert 57 57 (.slice (some ⟨w.heap.size, 0, none⟩) 1 1)).run Tryd.prog (w.alloc (.cells #[.int .u8 120] 5)) = .ok (.slice (some ⟨w.heap.size, 0, none⟩) 1 1) (w.alloc (.cells #[.int .u8 120] 5 (1, 2))) := fun w => Lib.run_convert_bytes_const (P := Tryd.prog) w 57 5 #[.int .u8 120] 1 1 Tryd.underlying57 Tryd.underlying5
  obtain ⟨W6, hW6⟩ : ∃ W, W = w5.alloc (.cells #[.int .u8 120] 5 (1, 2)) := ⟨_, rfl⟩
  obtain ⟨g6, hg6⟩ : ∃ g, g = w5.heap.size := ⟨_, rfl⟩
  have n6 := heap_alloc_new w5 (.cells #[.int .u8 120] 5 (1, 2))
  have b6 := below1 w5 (.cells #[.int .u8 120] 5 (1, 2))
  rw [← hW6, ← hg6] at n6
  rw [← hW6] at b6
  have HS := bx (r3sum_any [120] aw_bytes (by decide) g6 0 (.slice (some ⟨g6, 0, none⟩) 1 1) (by unfold SlV; exact ⟨_, _, rfl, by decide, by decide, fun _ => rfl, fun h => by cases h⟩) W6 (Lies.of_row n6))
  have H6 := bx (And.intro hW6 (And.intro hg6 (show BC w W6 from BC_trans HB5.out b6)))
  clear hW6 hg6 n6 b6
  go_wp2_with fail
  show Calls _ _ _ (w5.alloc (.cells #[.int .u8 120] 5 (1, 2))) _
  rw [← H6.out.1, ← H6.out.2.1]
  refine HS.out.mono ?_
  rintro e w7 ⟨rfl, b7⟩
  have HB7 := bx (BC_trans H6.out.2.2 b7)
  clear b7
  obtain ⟨S1, hS1⟩ : ∃ S, S = row .u8 (sumF [120]) := ⟨_, rfl⟩
  obtain ⟨s1, hs1⟩ : ∃ s : Sd, s = ⟨ByteArray.empty, (0, 0), sumF [120], 1⟩ := ⟨_, rfl⟩
  obtain ⟨SC, hSC⟩ : ∃ S, S = (sdC s1).toArray := ⟨_, rfl⟩
  have hbs := build_sd2 (sumF [120]) (sumF_len [120])
  rw [← hS1, ← hs1, ← hSC] at hbs
  rw [← hS1]
  have HBS := bx hbs
  obtain ⟨W8, hW8⟩ : ∃ W, W = w7.alloc (.cells #[.int .u8 120] 5 (1, 2)) := ⟨_, rfl⟩
  obtain ⟨g8, hg8⟩ : ∃ g, g = w7.heap.size := ⟨_, rfl⟩
  have n8 := heap_alloc_new w7 (.cells #[.int .u8 120] 5 (1, 2))
  have b8 := below1 w7 (.cells #[.int .u8 120] 5 (1, 2))
  rw [← hW8, ← hg8] at n8
  rw [← hW8] at b8
  have hft : fitsF s1 [120] = true := by
    rw [hs1]
    unfold fitsF
    rw [Bool.and_eq_true]
    exact ⟨decide_eq_true rfl, decide_eq_true rfl⟩
  have HF := bx (vfits_any s1 (by rw [hs1]; exact sumF_len [120]) [120] aw_bytes (by decide) g8 0 (.slice (some ⟨g8, 0, none⟩) 1 1) (by unfold SlV; exact ⟨_, _, rfl, by decide, by decide, fun _ => rfl, fun h => by cases h⟩) W8 (Lies.of_row n8))
  rw [hft, ← hSC] at HF
  have H8 := bx (And.intro hW8 (And.intro hg8 (show BC w W8 from BC_trans HB7.out b8)))
  clear hW8 hg8 n8 b8 hft hS1 hs1 hSC hbs
  go_wp2_with ((with_reducible refine wlw_built (o := ⟨some 43, _, _, _, _, _⟩) ?_ 40 #[(2, .tmp 42), (3, .const (.int .i64 1))] ?_ SC ?_ ?_); (focus rfl); (focus rfl); (focus (refine Eq.trans (congrArg (Tryd.prog.built 40) ?_) HBS.out; kernel_rfl)))
  show Calls _ _ _ (w7.alloc (.cells #[.int .u8 120] 5 (1, 2))) _
  rw [← H8.out.1, ← H8.out.2.1]
  refine HF.out.mono ?_
  rintro e w9 ⟨rfl, b9⟩
  have HB9 := bx (BC_trans H8.out.2.2 b9)
  clear b9
  go_wp2_with fail
  go_ret
  exact ⟨rfl, HB9.out⟩
end Go.Proofs.YtagdlbadkmgdmaaDoor
