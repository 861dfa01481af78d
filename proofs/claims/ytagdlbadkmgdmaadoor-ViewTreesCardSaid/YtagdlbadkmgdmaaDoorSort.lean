/- slices.SortStableFunc of what is shown (fewer than 20): by the shelf's insertion sort. -/
import Derived.Test.YtagdlbadkmgdmaaDoorGen
import Derived.Test.YtagdlbadkmgdmaaDoorHash
import Derived.Test.YtagdlbadkmgdmaaDoorVec
import Derived.Shelf.SlSortCmp.InsertionK
import Derived.Shelf.SlSortFuncK.ComposeK
import Derived.Laws.Cover1
import Derived.Laws.OwnMore
import Derived.ChangeArms
import Derived.Deep.Cut
namespace Go.Proofs.YtagdlbadkmgdmaaDoor
set_option maxRecDepth 100000
open Go.ChangeShapes Go.WideShapes Go.ChangeAt Go.RowKit

def sortRen : Go.Shelf.Ren := ⟨fun | 20 => 69 | n => n, fun | 0 => 0 | 3 => 3 | 4 => 4 | 22 => 31 | 24 => 40 | 25 => 83 | n => n, fun n => n⟩
theorem lays20 : Go.Proofs.SlLaysF0.n20 Tryd.prog sortRen where
  mixed := by kernel_rfl
  f20 := ⟨"slices.insertionSortCmpFunc[bindle/view.Shown]", by decide, Tryd.func69.trans (congrArg some (by kernel_rfl))⟩
  t0 := Tryd.underlying0
  a0 := Tryd.isAgg0
  z0 := Tryd.sizeOf0
  v0 := Tryd.zeroValue0
  t3 := Tryd.underlying3
  a3 := Tryd.isAgg3
  z3 := Tryd.sizeOf3
  v3 := Tryd.zeroValue3
  t4 := Tryd.underlying4
  a4 := Tryd.isAgg4
  z4 := Tryd.sizeOf4
  v4 := Tryd.zeroValue4
  t22 := Tryd.underlying31
  a22 := Tryd.isAgg31
  z22 := Tryd.sizeOf31
  v22 := Tryd.zeroValue31
  t25 := Tryd.underlying83
  a25 := Tryd.isAgg83
  z25 := Tryd.sizeOf83
  v25 := Tryd.zeroValue83

/-- a file that is to be seen -/
structure Sd where
  path : ByteArray
  dot : Dt
  sum : List Int
  size : Int
instance : Inhabited Sd := ⟨⟨ByteArray.empty, (0, 0), [], 0⟩⟩
def sdC (s : Sd) : List Value := [.string s.path, .int .i64 s.dot.1, .int .i64 s.dot.2] ++ (((List.range 32).map fun i => Value.int .u8 (s.sum.getD i 0)) ++ [.int .i64 s.size])
theorem sdC_len (s : Sd) : (sdC s).length = 36 := by simp [sdC]
theorem sdC_one (s : Sd) : ∀ v ∈ sdC s, v.oneCell' = true := by
  intro v hv
  unfold sdC at hv
  rcases List.mem_append.1 hv with h1 | h1
  · simp at h1
    rcases h1 with rfl | rfl | rfl <;> rfl
  · rcases List.mem_append.1 h1 with h2 | h2
    · obtain ⟨x, _, rfl⟩ := List.mem_map.1 h2
      rfl
    · rw [List.mem_singleton.1 h2]
      rfl
def sdR (l : List Sd) : Rows' := l.map sdC
theorem sdR_n (l : List Sd) : ∀ r ∈ sdR l, r.length = 36 := fun r hr => by
  obtain ⟨s, _, rfl⟩ := List.mem_map.1 hr
  exact sdC_len s
def zSd : Value := .agg ([Value.string ByteArray.empty, .int .i64 0, .int .i64 0] ++ ((List.replicate 32 (Value.int .u8 0)) ++ [Value.int .i64 0])).toArray
def shSd : Sh := ⟨40, 31, 36, 72, zSd⟩
theorem shSd_ok : shSd.Ok := ⟨info_parts (by kernel_rfl), by kernel_rfl, by kernel_rfl, by decide, by decide, by decide⟩
/-- how two stand -/
def cmpS (a b : ByteArray) : Int := if Op.bytesLess a.toList b.toList = true then -1 else if (a.toList == b.toList) = false then 1 else 0
attribute [local irreducible] SlV Lies headG
attribute [local go_sem] takes takesE comesTo
theorem snan_any (a : ByteArray) (w : World) : Calls Tryd.prog 55 #[.string a] w fun e w' => e = .returned (.bool false) ∧ w' = w := by
  have h : (a.toList == a.toList) = true := by simp
  go_enter Tryd.func55, Tryd.ntmps55
  go_wp2_with fail
  go_ret
  exact ⟨rfl, rfl⟩
theorem scompare_any (a b : ByteArray) (w : World) : Calls Tryd.prog 35 #[.string a, .string b] w fun e w' => e = .returned (.int .i64 (cmpS a b)) ∧ w' = w := by
  have hn := fun x W => snan_any x W
  cases h1 : Op.bytesLess a.toList b.toList with
  | true =>
    rw [show cmpS a b = -1 by unfold cmpS; rw [h1]; rfl]
    go_enter Tryd.func35, Tryd.ntmps35
    go_wp2_with fail
    refine (hn _ _).mono ?_
    rintro _ w2 ⟨rfl, rfl⟩
    go_wp2_with fail
    refine (hn _ _).mono ?_
    rintro _ w2 ⟨rfl, rfl⟩
    go_wp2_with fail
    go_ret
    exact ⟨rfl, rfl⟩
  | false =>
    cases h2 : (a.toList == b.toList) with
    | false =>
      rw [show cmpS a b = 1 by unfold cmpS; rw [h1, h2]; rfl]
      go_enter Tryd.func35, Tryd.ntmps35
      go_wp2_with fail
      refine (hn _ _).mono ?_
      rintro _ w2 ⟨rfl, rfl⟩
      go_wp2_with fail
      refine (hn _ _).mono ?_
      rintro _ w2 ⟨rfl, rfl⟩
      go_wp2_with fail
      go_ret
      exact ⟨rfl, rfl⟩
    | true =>
      rw [show cmpS a b = 0 by unfold cmpS; rw [h1, h2]; rfl]
      go_enter Tryd.func35, Tryd.ntmps35
      go_wp2_with fail
      refine (hn _ _).mono ?_
      rintro _ w2 ⟨rfl, rfl⟩
      go_wp2_with fail
      refine (hn _ _).mono ?_
      rintro _ w2 ⟨rfl, rfl⟩
      go_wp2_with fail
      go_ret
      exact ⟨rfl, rfl⟩
set_option maxHeartbeats 1000000 in
theorem vcmp_any (a b : Sd) (w : World) : Calls Tryd.prog 34 #[.agg (sdC a).toArray, .agg (sdC b).toArray] w fun e w' => e = .returned (.int .i64 (cmpS a.path b.path)) ∧ w' = (w.alloc (.cells (sdC a).toArray 40)).alloc (.cells (sdC b).toArray 40) := by
  obtain ⟨A, hA⟩ : ∃ A, A = (sdC a).toArray := ⟨_, rfl⟩
  obtain ⟨B, hB⟩ : ∃ A, A = (sdC b).toArray := ⟨_, rfl⟩
  rw [← hA, ← hB]
  have h2 := blk2 w (.cells A 40) (.cells B 40)
  have c0 := cell_row h2.1 0 (v := .string a.path) (by rw [hA]; rfl)
  have c1 := cell_row h2.2 0 (v := .string b.path) (by rw [hB]; rfl)
  have HC := Lib.hid (fun W => scompare_any a.path b.path W)
  clear h2 hA hB
  go_enter Tryd.func34, Tryd.ntmps34
  go_wp2_with fail
  refine (HC.out _).mono ?_
  rintro _ w2 ⟨rfl, rfl⟩
  go_wp2_with fail
  go_ret
  exact ⟨rfl, rfl⟩
/-! the sort's world -/
open Go.Sort in
theorem sortWorld_but (w : World) (g n : Nat) (d : Array Sd) (os : Array Obj) : But g w (sortWorldK sdC 36 w g 0 n d os) := by
  have hh : ∀ k, k < w.heap.size → (sortWorldK sdC 36 w g 0 n d os).heap[k]? = (putRowK sdC 36 (Sort.ahead w n) g 0 d).heap[k]? := fun k hk => by
    show ((putRowK sdC 36 (Sort.ahead w n) g 0 d).heap ++ os)[k]? = _
    rw [Array.getElem?_append_left]
    show k < (Array.modify w.heap g _).size
    simpa using hk
  have hm : ∀ k, k ≠ g → (putRowK sdC 36 (Sort.ahead w n) g 0 d).heap[k]? = w.heap[k]? := fun k hk => by
    show (Array.modify w.heap g _)[k]? = _
    rw [Array.getElem?_modify, if_neg (Ne.symm hk)]
  have hsz : w.heap.size ≤ (sortWorldK sdC 36 w g 0 n d os).heap.size := by
    show _ ≤ ((Array.modify w.heap g _) ++ os).size
    simp
  exact ⟨hsz, fun k hk hn => (hh k hk).trans (hm k hn), fun B w0 hB hs hb => hb.trans ⟨rfl, rfl, rfl, hsz, fun k hk => (hh k (by omega)).trans (hm k (by omega))⟩⟩
open Go.Sort in
theorem flat_sd (l : List Sd) (j : Nat) (hj : j < l.length * 36) : (sdR l).flatten[j]? = some (flatK sdC 36 l.toArray)[j]! := by
  have h1 : j / 36 < l.length := Nat.div_lt_of_lt_mul (by omega)
  have h2 : j % 36 < 36 := Nat.mod_lt _ (by decide)
  have h3 := flat_get (sdR_n l) (show j / 36 < (sdR l).length by simpa [sdR] using h1) h2
  rw [show j / 36 * 36 + j % 36 = j by omega] at h3
  rw [h3, get_flatK sdC 36 l.toArray j (by simpa using hj)]
  have h4 : j % 36 < (sdC l[j / 36]).length := by rw [sdC_len]; exact h2
  have h5 : (sdR l)[j / 36]'(by simpa [sdR] using h1) = sdC l[j / 36] := by simp [sdR]
  rw [h5, List.getElem?_eq_getElem h4]
  simp [h1, h4]
open Go.Sort in
theorem own_holds {base : Nat} {w : World} {g n c : Nat} {l : List Sd} (h : OwnG shSd base w (.slice (some ⟨g, 0, none⟩) n c) (sdR l)) (hn : l.length = n) : HoldsK sdC 36 w g 0 l.toArray := by
  unfold OwnG at h
  have hl : (sdR l).length = n := by rw [← hn]; simp [sdR]
  rw [hl] at h
  intro j hj
  rw [size_flatK] at hj
  have hj2 : j < n * 36 := by rw [← hn]; simpa using hj
  refine ⟨?_, ?_⟩
  · rw [Nat.zero_add, h.cellAt j hj2, flat_sd l j (by rw [hn]; exact hj2)]
    rfl
  · rw [Nat.zero_add]
    exact h.frozenAt j
open Go.Sort in
theorem holds_rd {w : World} {g n c : Nat} {d : Array Sd} (h : HoldsK sdC 36 w g 0 d) (hn : d.size = n) (hg : g < w.heap.size) (hc : n ≤ c) (hm : c ≤ maxLen) : RdG 36 w.heap.size w (.slice (some ⟨g, 0, none⟩) n c) (sdR d.toList) := by
  have hl : (sdR d.toList).length = n := by rw [← hn]; simp [sdR]
  refine ⟨sdR_n _, g, 0, by rw [hl]; unfold SlV; exact ⟨_, _, rfl, hc, hm, fun _ => rfl, fun h => by cases h⟩, fun j u hj => ?_, fun _ => hg⟩
  have hj1 : j < (sdR d.toList).flatten.length := (List.getElem?_eq_some_iff.1 hj).1
  rw [flat_len (sdR_n _), hl] at hj1
  have e := flat_sd d.toList j (by simpa [hn] using hj1)
  rw [hj] at e
  rw [(h j (by rw [size_flatK, hn]; exact hj1)).1]
  simpa using e.symm
theorem vcmp_lays (w : World) (g size : Nat) : Go.Proofs.CmpLays Tryd.prog 34 #[] sdC 36 (fun a b => cmpS a.path b.path) g 0 size w := fun m os dk hdk x y => by
  refine (vcmp_any x y _).mono ?_
  rintro e w' ⟨rfl, rfl⟩
  refine ⟨rfl, 0, #[.cells (sdC x).toArray 40, .cells (sdC y).toArray 40], ?_⟩
  rw [Go.Sort.alloc_eq_grow, Go.Sort.alloc_eq_grow, Go.Sort.grow_grow]
  rfl
theorem insertion_any (w : World) (g n c a b : Nat) (d : Array Sd) (hd : d.size = n) (hH : Go.Sort.HoldsK sdC 36 w g 0 d) (hg : g < w.heap.size) (hab : a ≤ b) (hb : b ≤ n) (hn : n ≤ 1000000) :
    Calls Tryd.prog 69 #[.slice (some ⟨g, 0, none⟩) n c, .int .i64 a, .int .i64 b, .func (.func 34) #[] #[]] w fun e w' =>
      e = .returned (.tuple #[]) ∧ ∃ k os, w' = Go.Proofs.sortWorldK sdC 36 w g 0 k (Go.Sort.insertionSort (Go.Proofs.ltOf fun a b => cmpS a.path b.path) d a b) os := by
  subst hd
  exact Go.Proofs.AnyQ.insertionSortCmpFunc lays20 36 (fun W => Tryd.isAgg40 W) (fun W => Tryd.sizeOf40 W) sdC sdC_len sdC_one (fun a b => cmpS a.path b.path) 34 #[] g 0 c a b d w
    (enters_of Tryd.func34 (by kernel_rfl) rfl) (vcmp_lays w g d.size) hH hg hab hb (by omega)
open Go.Sort in
theorem ins_inner_size (lt : Sd → Sd → Bool) (a : Nat) : ∀ (j : Nat) (d : Array Sd), (insInner lt a j d).size = d.size
  | 0, d => by rw [insInner]
  | j + 1, d => by
    rw [insInner]
    split
    · rw [ins_inner_size lt a j, size_swp]
    · rfl
open Go.Sort in
theorem ins_outer_size (lt : Sd → Sd → Bool) (a b : Nat) : ∀ (k i : Nat) (d : Array Sd), b - i = k → (insOuter lt a b i d).size = d.size
  | 0, i, d, h => by rw [insOuter, if_neg (by omega)]
  | k + 1, i, d, h => by
    rw [insOuter]
    split
    · rw [ins_outer_size lt a b k (i + 1) _ (by omega), ins_inner_size]
    · rfl
open Go.Sort in
theorem ins_size (lt : Sd → Sd → Bool) (a b : Nat) (d : Array Sd) : (insertionSort lt d a b).size = d.size := ins_outer_size lt a b _ _ d rfl
/-- in the order of the paths -/
def sortF (l : List Sd) : List Sd := (Go.Sort.insertionSort (Go.Proofs.ltOf fun a b : Sd => cmpS a.path b.path) l.toArray 0 l.length).toList
theorem sortF_len (l : List Sd) : (sortF l).length = l.length := by
  unfold sortF
  rw [Array.length_toList, ins_size]
  simp
theorem sortF_nil : sortF [] = [] := List.eq_nil_of_length_eq_zero (sortF_len [])
set_option maxHeartbeats 4000000 in
theorem insertion_nil (w : World) :
    Calls Tryd.prog 69 #[.slice none 0 0, .int .i64 0, .int .i64 ((0 : Nat) : Int), .func (.func 34) #[] #[]] w fun e w' => e = .returned (.tuple #[]) ∧ w' = w := by
  go_enter Tryd.func69, Tryd.ntmps69
  go_wp2_with fail
  go_loopw [8] (fun v8 wr => v8 = .int .i64 1 ∧ wr = w) (fun _ _ => 0)
  case atStart => exact ⟨rfl, rfl⟩
  case round =>
    obtain ⟨rfl, rfl⟩ := hrel
    go_wp2_with fail
    refine bodyPost_end (results_none rfl _ _ _) rfl ?_
    exact ⟨rfl, rfl⟩
set_option maxHeartbeats 4000000 in
theorem stable_any (v : Value) (n : Nat) (w : World) (R : World → Prop) (hn : n < 20)
    (hins : Calls Tryd.prog 69 #[v, .int .i64 0, .int .i64 (n : Int), .func (.func 34) #[] #[]] w fun e w' => e = .returned (.tuple #[]) ∧ R w') (c : Nat) (a : Option Addr) (hv : v = .slice a n c) :
    Calls Tryd.prog 33 #[v, .func (.func 34) #[] #[]] w fun e w' => e = .returned (.tuple #[]) ∧ R w' := by
  subst hv
  have HI := Lib.hid hins
  clear hins
  have n1 : ¬ (20 : Int) ≤ (n : Int) := by omega
  have n2 : ¬ (20 : Int) < (n : Int) := by omega
  have HS : Hid (Calls Tryd.prog 54 #[.slice a n c, .int .i64 (n : Int), .func (.func 34) #[] #[]] w fun e w' => e = .returned (.tuple #[]) ∧ R w') := Lib.hid (by
    go_enter Tryd.func54, Tryd.ntmps54
    go_wp2_with fail
    go_loopw [7, 8] (fun v7 v8 wr => v7 = .int .i64 0 ∧ v8 = .int .i64 20 ∧ wr = w) (fun _ _ _ => 0)
    case atStart => exact ⟨rfl, rfl, rfl⟩
    case round =>
      obtain ⟨rfl, rfl, rfl⟩ := hrel
      go_wp2_with fail
      refine HI.out.mono ?_
      rintro e w3 ⟨rfl, hR⟩
      have HR := Lib.hid hR
      clear hR
      go_wp2_with fail
      go_loopw [6] (fun v6 wr => v6 = .int .i64 20 ∧ wr = w3) (fun _ _ => 0)
      case atStart => exact ⟨rfl, rfl⟩
      case round =>
        obtain ⟨rfl, rfl⟩ := hrel
        go_wp2_with fail
        refine bodyPost_end (results_none rfl _ _ _) rfl ?_
        exact ⟨rfl, HR.out⟩)
  go_enter Tryd.func33, Tryd.ntmps33
  go_wp2_with fail
  refine HS.out.mono ?_
  rintro e w3 ⟨rfl, hR⟩
  have HR := Lib.hid hR
  clear hR
  go_wp2_with fail
  refine bodyPost_end (results_none rfl _ _ _) rfl ?_
  exact ⟨rfl, HR.out⟩
theorem sort_own (base : Nat) (w : World) (v : Value) (l : List Sd) (h : OwnG shSd base w v (sdR l)) (hl : l.length < 20) (hb : base ≤ w.heap.size) :
    Calls Tryd.prog 33 #[v, .func (.func 34) #[] #[]] w fun e w' => e = .returned (.tuple #[]) ∧ RdG 36 w'.heap.size w' v (sdR (sortF l)) ∧ Below base w w' := by
  have h0 := h
  obtain ⟨hl1, ⟨rfl, h1⟩ | ⟨g, cap, cur, rfl, hb', hg, hn, hc, hs, ht⟩⟩ := h
  · have hn : l = [] := List.eq_nil_of_length_eq_zero (by simpa [sdR] using h1)
    subst hn
    refine stable_any _ 0 w _ hl ?_ 0 none rfl
    refine (insertion_nil w).mono ?_
    rintro e w' ⟨rfl, rfl⟩
    refine ⟨rfl, ?_, Below.refl _ _⟩
    rw [sortF_nil]
    exact RdG.nil _ _ _
  · have hle : (sdR l).length = l.length := by simp [sdR]
    rw [hle] at hn h0 ⊢
    have hH := own_holds h0 rfl
    have hgl := blk_lt hg
    refine stable_any _ l.length w _ hl ?_ cap _ rfl
    refine (insertion_any w g l.length cap 0 l.length l.toArray (by simp) hH hgl (Nat.zero_le _) (Nat.le_refl _) (by omega)).mono ?_
    rintro e w' ⟨rfl, k, os, rfl⟩
    have hbt := sortWorld_but w g k (Go.Sort.insertionSort (Go.Proofs.ltOf fun a b : Sd => cmpS a.path b.path) l.toArray 0 l.length) os
    have hsz : (Go.Sort.insertionSort (Go.Proofs.ltOf fun a b : Sd => cmpS a.path b.path) l.toArray 0 l.length).size = l.toArray.size := ins_size _ _ _ _
    refine ⟨rfl, ?_, hbt.below _ _ hb' hb (Below.refl _ _)⟩
    have hH2 := Go.Proofs.holdsK_sortWorldK sdC 36 w g 0 k l.toArray _ os hgl hH hsz
    exact holds_rd hH2 (by rw [hsz]; simp) (Nat.lt_of_lt_of_le hgl hbt.size) hn hc
end Go.Proofs.YtagdlbadkmgdmaaDoor
