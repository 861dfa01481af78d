/- A part: its cells; the walks of part.May, number, told. -/
import Derived.Test.YtjnimbhecfpnmaaGrow
namespace Go.Proofs.Ytjnimbhecfpnmaa
set_option maxRecDepth 100000
open Go.ChangeShapes Go.WideShapes Go.ChangeAt Go.RowKit

/-- a part's cells -/
def pcells (wh : List Int) (size at' : Int) (v : Value) : List Value := wh.map (Value.int .u8) ++ [.int .i64 size, .int .i64 at', v]
theorem pcells_len {wh : List Int} (h : wh.length = 32) (size at' : Int) (v : Value) : (pcells wh size at' v).length = 35 := by simp [pcells, h]
theorem pcells_size {wh : List Int} (h : wh.length = 32) (size at' : Int) (v : Value) : (pcells wh size at' v).toArray[32]? = some (.int .i64 size) := by
  rw [List.getElem?_toArray]; unfold pcells; rw [List.getElem?_append_right (by simp [h])]; simp [h]
theorem pcells_at {wh : List Int} (h : wh.length = 32) (size at' : Int) (v : Value) : (pcells wh size at' v).toArray[33]? = some (.int .i64 at') := by
  rw [List.getElem?_toArray]; unfold pcells; rw [List.getElem?_append_right (by simp [h])]; simp [h]
theorem pcells_data {wh : List Int} (h : wh.length = 32) (size at' : Int) (v : Value) : (pcells wh size at' v).toArray[34]? = some v := by
  rw [List.getElem?_toArray]; unfold pcells; rw [List.getElem?_append_right (by simp [h])]; simp [h]
/-- whether a part may be -/
def mayB (size at' : Int) (n : Nat) : Bool := decide (1 ≤ size ∧ size ≤ 4194304 ∧ 1 ≤ (n : Int) ∧ 0 ≤ at' ∧ at' ≤ size - (n : Int))
set_option maxHeartbeats 1000000 in
theorem may_any (wh : List Int) (hw : wh.length = 32) (size at' : Int) (a : Option Addr) (n cap : Nat) (hn : n ≤ maxLen) (w : World) :
    Calls Try.prog 19 #[.agg (pcells wh size at' (.slice a n cap)).toArray] w fun e w' => e = .returned (.bool (mayB size at' n)) ∧ Below w.heap.size w w' := by
  have k0 := pcells_size hw size at' (.slice a n cap)
  have k1 := pcells_at hw size at' (.slice a n cap)
  have k2 := pcells_data hw size at' (.slice a n cap)
  generalize (pcells wh size at' (.slice a n cap)).toArray = C at *
  have c0 : (w.alloc (.cells C 26)).cell? ⟨w.heap.size, 32, none⟩ = some (.int .i64 size) := (cell_new _ _ _ _).trans k0
  have c1 : (w.alloc (.cells C 26)).cell? ⟨w.heap.size, 33, none⟩ = some (.int .i64 at') := (cell_new _ _ _ _).trans k1
  have c2 : (w.alloc (.cells C 26)).cell? ⟨w.heap.size, 34, none⟩ = some (.slice a n cap) := (cell_new _ _ _ _).trans k2
  have HB := Lib.hid (below1 w (.cells C 26))
  have HN := Lib.hid hn
  clear k0 k1 k2 hn
  by_cases h1 : 1 ≤ size
  · by_cases h2 : size ≤ 4194304
    · have s1 : IntKind.i64.wrap (size - (n : Int)) = size - (n : Int) := by have := HN.out; unfold maxLen at this; rw [IntKind.wrap_i64]; omega
      by_cases h3 : 1 ≤ (n : Int)
      · by_cases h4 : 0 ≤ at'
        · by_cases h5 : at' ≤ size - (n : Int)
          · have hm : mayB size at' n = true := by unfold mayB; rw [decide_eq_true_eq]; omega
            rw [hm]
            clear hm
            go_enter Try.func19, Try.ntmps19
            go_wp2_with fail
            go_ret
            exact ⟨rfl, HB.out⟩
          · have hm : mayB size at' n = false := by unfold mayB; rw [decide_eq_false_iff_not]; omega
            rw [hm]
            clear hm
            go_enter Try.func19, Try.ntmps19
            go_wp2_with fail
            go_ret
            exact ⟨rfl, HB.out⟩
        · have hm : mayB size at' n = false := by unfold mayB; rw [decide_eq_false_iff_not]; omega
          rw [hm]
          clear hm
          go_enter Try.func19, Try.ntmps19
          go_wp2_with fail
          go_ret
          exact ⟨rfl, HB.out⟩
      · have hm : mayB size at' n = false := by unfold mayB; rw [decide_eq_false_iff_not]; omega
        rw [hm]
        clear hm
        go_enter Try.func19, Try.ntmps19
        go_wp2_with fail
        go_ret
        exact ⟨rfl, HB.out⟩
    · have hm : mayB size at' n = false := by unfold mayB; rw [decide_eq_false_iff_not]; omega
      rw [hm]
      clear hm
      go_enter Try.func19, Try.ntmps19
      go_wp2_with fail
      go_ret
      exact ⟨rfl, HB.out⟩
  · have hm : mayB size at' n = false := by unfold mayB; rw [decide_eq_false_iff_not]; omega
    rw [hm]
    clear hm
    go_enter Try.func19, Try.ntmps19
    go_wp2_with fail
    go_ret
    exact ⟨rfl, HB.out⟩
end Go.Proofs.Ytjnimbhecfpnmaa
