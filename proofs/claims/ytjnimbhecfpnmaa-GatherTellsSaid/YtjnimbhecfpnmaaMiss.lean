/- The walks of gather.may and gather.Missing; what makes a whole, plain; a map of numbers that the call makes. -/
import Derived.Test.YtjnimbhecfpnmaaLaid
import Derived.Maps.OwnOps
import Derived.Maps.Views
namespace Go.Proofs.Ytjnimbhecfpnmaa
set_option maxRecDepth 100000
open Go.ChangeShapes Go.WideShapes Go.ChangeAt Go.RowKit

/-- whether a whole may have such a size -/
def mayS (s : Int) : Bool := decide (1 ≤ s ∧ s ≤ 4194304)
def missF (ps : List Pt) (wh : List Int) (s : Int) : Int := if mayS s then (lackF (laidF ps wh s.toNat) : Int) else 0
def goodW (ps : List Pt) (wh : List Int) (n : Nat) : Bool := lackF (laidF ps wh n) == 0 && decide (sumF (outL (laidF ps wh n)) = wh)
/-- what parts make -/
def wholeF (ps : List Pt) (wh : List Int) : Option (List Int) :=
  (ps.find? fun p => decide (p.wh = wh) && (mayS p.sz && goodW ps wh p.sz.toNat)).map fun p => outL (laidF ps wh p.sz.toNat)
theorem stPut_bytes {st : List (Option Int)} {i c : Int} (h : ∀ y ∈ st, ∀ x, y = some x → 0 ≤ x ∧ x ≤ 255) (hc : 0 ≤ c ∧ c ≤ 255) : ∀ y ∈ stPut st i c, ∀ x, y = some x → 0 ≤ x ∧ x ≤ 255 := by
  unfold stPut
  split
  · intro y hy x hx
    rcases List.mem_or_eq_of_mem_set hy with h1 | h1
    · exact h y h1 x hx
    · rw [h1] at hx
      injection hx with hx
      rw [← hx]
      exact hc
  · exact h
theorem putN_bytes {a : Int} {l : List Int} (hl : Bytes l) {st : List (Option Int)} (h : ∀ y ∈ st, ∀ x, y = some x → 0 ≤ x ∧ x ≤ 255) : ∀ k, ∀ y ∈ putN a l st k, ∀ x, y = some x → 0 ≤ x ∧ x ≤ 255
  | 0 => h
  | k + 1 => stPut_bytes (putN_bytes hl h k) (hl k)
theorem laidN_bytes {ps : List Pt} (hp : ∀ p ∈ ps, Bytes p.da) (wh : List Int) (n : Nat) : ∀ i, ∀ y ∈ laidN ps wh n i, ∀ x, y = some x → 0 ≤ x ∧ x ≤ 255
  | 0 => fun y hy x hx => by rw [laidN] at hy; rw [(List.mem_replicate.1 hy).2] at hx; cases hx
  | i + 1 => by
    rw [laidN]
    split
    · rename_i p hpe
      split
      · exact putN_bytes (hp p (List.mem_of_getElem? hpe)) (laidN_bytes hp wh n i) _
      · exact laidN_bytes hp wh n i
    · exact laidN_bytes hp wh n i
theorem outL_bytes {st : List (Option Int)} (h : ∀ y ∈ st, ∀ x, y = some x → 0 ≤ x ∧ x ≤ 255) : Bytes (outL st) := bytes_mem fun x hx => by
  obtain ⟨y, hy, rfl⟩ := List.mem_map.1 hx
  cases hy2 : y with
  | none => simp
  | some z =>
    have := h y hy z hy2
    simpa using this
attribute [local go_sem] takes takesE comesTo
theorem gmay_any (s : Int) (w : World) : Calls Try.prog 62 #[.int .i64 s] w fun e w' => e = .returned (.bool (mayS s)) ∧ w' = w := by
  by_cases h1 : 1 ≤ s
  · by_cases h2 : s ≤ 4194304
    · rw [show mayS s = true from decide_eq_true ⟨h1, h2⟩]
      go_enter Try.func62, Try.ntmps62
      go_wp2_with fail
      go_ret
      exact ⟨rfl, rfl⟩
    · rw [show mayS s = false from decide_eq_false (fun h => h2 h.2)]
      go_enter Try.func62, Try.ntmps62
      go_wp2_with fail
      go_ret
      exact ⟨rfl, rfl⟩
  · rw [show mayS s = false from decide_eq_false (fun h => h1 h.1)]
    go_enter Try.func62, Try.ntmps62
    go_wp2_with fail
    go_ret
    exact ⟨rfl, rfl⟩
theorem missing_any (v : Value) (qs : List (Pt × Value)) (wh : List Int) (s : Int) (w : World) (hv : RdP w.heap.size w v qs) (hm : qs.length ≤ 1000000) (hd : ∀ q ∈ qs, q.1.da.length ≤ 1000000) (hw : wh.length = 32) (hs : s ≤ 1000000) :
    Calls Try.prog 32 #[v, .agg (row .u8 wh), .int .i64 s] w fun e w' => e = .returned (.int .i64 (missF (qs.map (·.1)) wh s)) ∧ Below w.heap.size w w' := by
  obtain ⟨va, vc, rfl⟩ := hv.form
  have hsz : (row .u8 wh).size = 32 := by rw [row_size, hw]
  have HSZ := Lib.hid hsz
  have HM := Lib.hid (fun W => gmay_any s W)
  have b0 := below1 w (.cells (row .u8 wh) 23)
  have n0 := heap_alloc_new w (.cells (row .u8 wh) 23)
  have HL : Hid (∀ n : Nat, s = (n : Int) → 1 ≤ n → Calls Try.prog 63 #[.slice va qs.length vc, .agg (row .u8 wh), .int .i64 (n : Int)] (w.alloc (.cells (row .u8 wh) 23)) fun e w' => ∃ v', e = .returned (.tuple #[v', .int .i64 (lackF (laidF (qs.map (·.1)) wh n) : Int)]) ∧ Own (w.alloc (.cells (row .u8 wh) 23)).heap.size w' v' (outL (laidF (qs.map (·.1)) wh n)) ∧ Below (w.alloc (.cells (row .u8 wh) 23)).heap.size (w.alloc (.cells (row .u8 wh) 23)) w') :=
    Lib.hid fun n hn h1 => laid_any _ qs wh n _ (hv.to b0) hm hd hw h1 (by omega)
  obtain ⟨W0, hW0⟩ : ∃ W, W = w.alloc (.cells (row .u8 wh) 23) := ⟨_, rfl⟩
  rw [← hW0] at b0 n0 HL
  obtain ⟨B, hB⟩ : ∃ B, B = w.heap.size := ⟨_, rfl⟩
  rw [← hB] at n0
  have H0 := Lib.hid (And.intro b0 (And.intro n0 (And.intro hW0 hB)))
  obtain ⟨r, hr⟩ : ∃ r, r = missF (qs.map (·.1)) wh s := ⟨_, rfl⟩
  rw [← hr]
  have HR := Lib.hid hr
  obtain ⟨RW, hRW⟩ : ∃ R, R = row .u8 wh := ⟨_, rfl⟩
  rw [← hRW] at HSZ HL H0 ⊢
  clear hv hm hd hw hsz b0 n0 hW0 hB hr hRW
  obtain ⟨m, hm⟩ : ∃ m, m = mayS s := ⟨_, rfl⟩
  rw [← hm] at HM
  have HMM := Lib.hid (And.intro hm hs)
  clear hm hs
  go_enter Try.func32, Try.ntmps32
  go_upto_region 1 with fail
  rw [← H0.out.2.2.1, ← H0.out.2.2.2]
  cases m with
  | false =>
    have hz : r = 0 := by rw [HR.out]; unfold missF; rw [← HMM.out.1]; rfl
    have HZ := Lib.hid hz
    clear hz
    go_wp2_with fail
    refine (HM.out _).mono ?_
    rintro e w1 ⟨rfl, rfl⟩
    go_wp2_with fail
    go_ret
    exact ⟨by rw [HZ.out]; rfl, H0.out.1⟩
  | true =>
    obtain ⟨n, rfl⟩ : ∃ n : Nat, s = (n : Int) := ⟨s.toNat, by have := of_decide_eq_true HMM.out.1.symm; omega⟩
    have HLN := Lib.hid (HL.out n rfl (by have := of_decide_eq_true HMM.out.1.symm; omega))
    have hz : r = (lackF (laidF (qs.map (·.1)) wh n) : Int) := by rw [HR.out]; unfold missF; rw [← HMM.out.1, if_pos rfl, Int.toNat_natCast]
    rw [← hz] at HLN
    clear hz
    go_wp2_with fail
    refine (HM.out _).mono ?_
    rintro e w1 ⟨rfl, rfl⟩
    go_wp2_with ((with_reducible refine wlw_load_row (o := ⟨some 14, _, _, _, _, _⟩) ?_ 23 (.tmp 4) ?_ _ ?_ _ RW _ _ H0.out.2.1 Try.underlying23 ?_ ?_ ?_); (focus rfl); (focus rfl); (focus rfl); (focus rfl); (focus (rw [HSZ.out]; kernel_rfl)))
    refine HLN.out.mono ?_
    rintro e w2 ⟨v2, rfl, _, b2⟩
    have HB := Lib.hid (BC_below H0.out.1 H0.out.1.size b2)
    clear b2
    go_wp2_with fail
    go_ret
    exact ⟨rfl, HB.out⟩
end Go.Proofs.Ytjnimbhecfpnmaa
