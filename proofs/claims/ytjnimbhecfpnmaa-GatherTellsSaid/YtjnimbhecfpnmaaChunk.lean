/- The walk of slices.Chunk of bytes, and its iterator's contract. -/
import Derived.Test.YtjnimbhecfpnmaaToldN
import Derived.RangeFuncNested
import Derived.RangeFuncBound
import Derived.RangeFuncCalls
import Derived.RangeFuncLeaves
import Derived.Shelf.Abstract
import Derived.Shelf.RegionOpen
import Derived.WalkKit
import Derived.OwnWalkIn
import Derived.TacticsInMore
import Derived.LoopNIn
import Derived.LoopIn
import Derived.Laws.Cover3
import Derived.Deep.QuietTactic
import Derived.BigQuiet
namespace Go.Proofs.Ytjnimbhecfpnmaa
set_option maxRecDepth 100000
open Go.ChangeShapes Go.WideShapes Go.ChangeAt Go.RowKit Go.Shelf
attribute [local go_sem] Oper.semAt_some

theorem chunk_any (v : Value) (hv : v.oneCell' = true) (size : Int) (h : 1 ≤ size) (w : World) :
    Calls Try.prog 52 #[v, .int .i64 size] w fun e w' => e = .returned (.func (.func 73) #[] #[.pointer (some ⟨w.heap.size, 0, none⟩), .pointer (some ⟨w.heap.size + 1, 0, none⟩)]) ∧ w' = (w.alloc (.cells #[v] 24)).alloc (.cells #[.int .i64 size] 3) := by
  have h1 : ¬ size < 1 := by omega
  go_enter Try.func52, Try.ntmps52
  go_wp2_with fail
  go_ret
  exact ⟨rfl, rfl⟩
/-- the k-th piece, of size bytes or what is left, of n bytes at place o of block b -/
def chunkV (b o n size k : Nat) : Value := .slice (some ⟨b, o + k * size, none⟩) (min size (n - k * size)) (min size (n - k * size))
/-- how many pieces -/
def chunksN (n size : Nat) : Nat := (n + size - 1) / size
/-- what a round keeps for the iterator -/
def ChunkK (n₀ Bs Bn : Nat) (W W' : World) : Prop := Below n₀ W W' ∧ W'.cell? ⟨Bs, 0, none⟩ = W.cell? ⟨Bs, 0, none⟩ ∧ W'.cell? ⟨Bn, 0, none⟩ = W.cell? ⟨Bn, 0, none⟩
set_option maxHeartbeats 2000000 in
theorem chunk1_in (m : Nat) (hm : 1 ≤ m) (l Bs Bn n₀ b o n cap size : Nat) (hs : 0 < size) (hn : n ≤ 1000000) (hsz : size ≤ 100000000) (hc : n ≤ cap) (J Jx : List Nat → World → Prop)
    (hY : ∀ pre x W, J pre W → pre.length < chunksN n size → YieldAt Fence.wide (m - 1) Try.prog l #[chunkV b o n size x] W fun e W' =>
      (e = .returned (.bool true) ∧ J (pre ++ [x]) W' ∧ ChunkK n₀ Bs Bn W W') ∨ (e = .returned (.bool false) ∧ Jx (pre ++ [x]) W'))
    (hd : ∀ pre W k, J pre W → J pre (W.drewN k))
    (W : World) (hBs : W.cell? ⟨Bs, 0, none⟩ = some (.slice (some ⟨b, o, none⟩) n cap)) (hBn : W.cell? ⟨Bn, 0, none⟩ = some (.int .i64 (size : Int))) (h0 : J [] W) :
    CallsIn Fence.wide m Try.prog 73 #[.func (.yield l) #[] #[], .pointer (some ⟨Bs, 0, none⟩), .pointer (some ⟨Bn, 0, none⟩)] W fun e W' => (∃ v, e = .returned v) ∧
      ((∃ ys, ys = List.range (chunksN n size) ∧ J ys W') ∨ (∃ pre, (∃ k, k ≤ chunksN n size ∧ pre = List.range k) ∧ Jx pre W')) := by
  refine callsIn_of_wp Try.func73 rfl trivial ?_ rfl
  simp only [Try.ntmps73, List.size_toArray, List.length_cons, List.length_nil, Nat.reduceAdd, Nat.reduceSub, Array.replicate_succ, Array.replicate_zero, List.push_toArray, List.append_toArray, List.nil_append, List.cons_append]
  gi_wp2
  gi_loopw [4] (fun i wr => ∃ k p : Nat, p = k * size ∧ k ≤ chunksN n size ∧ i = .int .i64 (p : Int) ∧ J (List.range k) wr ∧ wr.cell? ⟨Bs, 0, none⟩ = some (.slice (some ⟨b, o, none⟩) n cap) ∧ wr.cell? ⟨Bn, 0, none⟩ = some (.int .i64 (size : Int)))
    (fun i _ => n + 1 - (intOf i).toNat)
  case atStart => exact ⟨0, 0, by simp, Nat.zero_le _, rfl, h0, hBs, hBn⟩
  case round =>
    obtain ⟨k, p, hp, hk, rfl, hJs, hxs, hxn⟩ := hrel
    have HP := Lib.hid hp
    clear hp
    by_cases hlt : p < n
    · obtain ⟨e, he1⟩ : ∃ e, e = min size (n - p) := ⟨_, rfl⟩
      obtain ⟨q, hq1⟩ : ∃ q, q = p + e := ⟨_, rfl⟩
      have hcv : chunkV b o n size k = .slice (some ⟨b, o + p, none⟩) e e := by unfold chunkV; rw [← HP.out, ← he1]
      have hkN : k < chunksN n size := by
        have h1 := HP.out
        unfold chunksN
        rw [Nat.lt_div_iff_mul_lt hs]
        omega
      have hmeas : n + 1 - (p + size) < n + 1 - p := by omega
      have hlt' : (p : Int) < (n : Int) := by omega
      have hle : (p : Int) ≤ (n : Int) := by omega
      have hp0 : (0 : Int) ≤ (p : Int) := by omega
      have hpc : ¬ cap = p := by omega
      have he : (if n - p < size then (((n - p : Nat)) : Int) else (size : Int)) = (e : Int) := by split <;> omega
      have hq : IntKind.i64.wrap ((p : Int) + (e : Int)) = (q : Int) := by rw [IntKind.wrap_i64]; omega
      have hpq : (p : Int) ≤ (q : Int) := by omega
      have hqc : (q : Int) ≤ (cap : Int) := by omega
      have hqp : ¬ q = p := by omega
      have hqe : q - p = e := by omega
      have hns : IntKind.i64.wrap ((p : Int) + (size : Int)) = ((p + size : Nat) : Int) := by rw [IntKind.wrap_i64]; omega
      have HH := Lib.hid (And.intro hkN hmeas)
      clear he1 hq1 hkN hmeas
      gi_wp2
      refine wpIn_wide.2 ?_
      go_quiet (fail)
      clear he
      have hJ2 := hd _ _ nq hJs
      have hxs2 : (wr.drewN nq).cell? ⟨Bs, 0, none⟩ = some (.slice (some ⟨b, o, none⟩) n cap) := hxs
      have hxn2 : (wr.drewN nq).cell? ⟨Bn, 0, none⟩ = some (.int .i64 (size : Int)) := hxn
      clear hxs hxn hJs
      generalize wr.drewN nq = wr2 at *
      obtain ⟨fn, tmps, assign, body, hy, hR⟩ := hY _ k wr2 hJ2 (by rw [List.length_range]; exact HH.out.1)
      rw [hcv] at hy
      gi_wp2
      refine hR.mono ?_
      rintro e W3 (⟨rfl, hJ3, hk3⟩ | ⟨rfl, hJx3⟩)
      · have hxs3 := hk3.2.1.trans hxs2
        have hxn3 := hk3.2.2.trans hxn2
        clear hxs2 hxn2
        gi_wp2
        go_roundw
        case rel => exact ⟨k + 1, p + size, by rw [HP.out, Nat.add_mul, Nat.one_mul], HH.out.1, rfl, by rw [List.range_succ]; exact hJ3, hxs3, hxn3⟩
        case measure => simp only [intOf]; have := HH.out.2; omega
      · gi_wp2
        refine bodyPost_ret (results_none rfl _ _ _) rfl ?_
        exact ⟨⟨_, rfl⟩, .inr ⟨_, ⟨k + 1, HH.out.1, List.range_succ.symm⟩, hJx3⟩⟩
    · have hlt' : ¬ (p : Int) < (n : Int) := by omega
      have hkN : k = chunksN n size := by
        refine Nat.le_antisymm hk ?_
        unfold chunksN
        rw [Nat.div_le_iff_le_mul_add_pred hs, Nat.mul_comm, ← HP.out]
        omega
      gi_wp2
      go_end0
      exact ⟨⟨_, rfl⟩, .inl (by rw [← hkN]; exact hJs)⟩
end Go.Proofs.Ytjnimbhecfpnmaa
