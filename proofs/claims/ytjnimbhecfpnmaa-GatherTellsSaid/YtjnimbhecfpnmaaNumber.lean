/- What an append leaves (Grew), and the walk of part.number. -/
import Derived.Test.YtjnimbhecfpnmaaPart
import Derived.Test.YtjnimbhecfpnmaaPad
namespace Go.Proofs.Ytjnimbhecfpnmaa
set_option maxRecDepth 100000
open Go.ChangeShapes Go.WideShapes Go.ChangeAt Go.RowKit

/-- w' is w but for the block that v owned, and new ones; v' owns that block, or a new one -/
structure Grew (w w' : World) (v v' : Value) : Prop where
  size : w.heap.size ≤ w'.heap.size
  block : ∀ k, k < w.heap.size → some k ≠ v.ownBlock → w'.heap[k]? = w.heap[k]?
  own : ∀ k, v'.ownBlock = some k → v.ownBlock = some k ∨ w.heap.size ≤ k
  below : ∀ B w0, B ≤ w.heap.size → (∀ k, v.ownBlock = some k → B ≤ k) → Below B w0 w → Below B w0 w'
theorem Grew.refl (w : World) (v : Value) : Grew w w v v := ⟨Nat.le_refl _, fun _ _ _ => rfl, fun _ h => .inl h, fun _ _ _ _ h => h⟩
theorem Grew.trans {a b c : World} {u v x : Value} (h : Grew a b u v) (k : Grew b c v x) : Grew a c u x := by
  refine ⟨Nat.le_trans h.size k.size, fun i hi hn => ?_, fun i hi => ?_, fun B w0 h1 h2 h3 => ?_⟩
  · refine (k.block i (Nat.lt_of_lt_of_le hi h.size) (fun e => ?_)).trans (h.block i hi hn)
    rcases h.own i e.symm with h4 | h4
    · exact hn h4.symm
    · omega
  · rcases k.own i hi with h4 | h4
    · exact h.own i h4
    · exact .inr (Nat.le_trans h.size h4)
  · refine k.below B w0 (Nat.le_trans h1 h.size) (fun i hi => ?_) (h.below B w0 h1 h2 h3)
    rcases h.own i hi with h4 | h4
    · exact h2 i h4
    · omega
theorem Grew.of_below {w w' : World} (v : Value) (h : Below w.heap.size w w') : Grew w w' v v :=
  ⟨h.size, fun k hk _ => h.block k hk, fun _ h => .inl h, fun _ _ h1 _ h3 => h3.trans (h.mono h1)⟩
theorem Grew.of_grown {w w' : World} {v v' : Value} (h : w.grownBy w' v.ownBlock) (h2 : v'.ownBlock = v.ownBlock ∨ v'.ownBlock = some w.heap.size) : Grew w w' v v' := by
  refine ⟨h.size, h.block, fun k hk => ?_, fun B w0 h1 h3 h4 => h4.grown h h1 h3⟩
  rcases h2 with h2 | h2
  · exact .inl (h2.symm.trans hk)
  · right
    have := h2.symm.trans hk
    simp at this
    omega
theorem Grew.blk {w w' : World} {v v' : Value} (h : Grew w w' v v') {k : Nat} {o : Obj} (hk : w.heap[k]? = some o) (hn : some k ≠ v.ownBlock) : w'.heap[k]? = some o := (h.block k (blk_lt hk) hn).trans hk
theorem Grew.lies {w w' : World} {v v' : Value} (h : Grew w w' v v') {b o : Nat} {l : List Int} (hl : Lies w b o l) (hn : some b ≠ v.ownBlock) : Lies w' b o l := fun j hj => by
  have hc := hl j hj
  exact (World.cell?_of_block (h.block b (block_lt_of_cell hc) hn)).trans hc
/-- a number's four bytes -/
def fourF (n : Int) : List Int := [n / 16777216 % 256, n / 65536 % 256, n / 256 % 256, n % 256]
theorem fourF_bytes (n : Int) : Bytes (fourF n) := bytes_mem fun x h => by
  unfold fourF at h
  simp at h
  rcases h with rfl | rfl | rfl | rfl <;> omega
attribute [local go_sem] takes comesTo
set_option maxHeartbeats 400000 in
theorem number_any (n : Int) (h0 : 0 ≤ n) (h1 : n ≤ 2147483647) (base : Nat) (l : List Int) (hlen : l.length ≤ 1000000) (v : Value) (w : World) (hb : base ≤ w.heap.size) (hown : Own base w v l) :
    Calls Try.prog 44 #[v, .int .i64 n] w fun e w' => ∃ v', e = .returned v' ∧ Own base w' v' (l ++ fourF n) ∧ Grew w w' v v' := by
  have HO := Lib.hid (And.intro hown (And.intro hb hlen))
  have HN := Lib.hid (And.intro h0 h1)
  obtain ⟨a, ha⟩ : ∃ a, a = n / 16777216 % 256 := ⟨_, rfl⟩
  obtain ⟨b, hb'⟩ : ∃ a, a = n / 65536 % 256 := ⟨_, rfl⟩
  obtain ⟨c, hc⟩ : ∃ a, a = n / 256 % 256 := ⟨_, rfl⟩
  obtain ⟨d, hd⟩ : ∃ a, a = n % 256 := ⟨_, rfl⟩
  have hf : fourF n = [a, b, c, d] := by rw [ha, hb', hc, hd]; rfl
  rw [hf]
  have s1 := ha.symm
  have s2 := hb'.symm
  have s3 := hc.symm
  have s4 := hd.symm
  clear ha hb' hc hd hf hown hb hlen h1
  go_enter Try.func44, Try.ntmps44
  go_wp2_with ((at_builtin; refine wl_append_b rfl _ _ rfl base _ _ rfl (HO.out.1.below (below1 w _)) _ rfl w.heap.size 0 [a, b, c, d] ⟨_, 4, rfl, Nat.le_refl _, by unfold maxLen; simp, fun _ => rfl, fun h => by cases h⟩ (Lies.of_row (l := [a, b, c, d]) (heap_alloc_new w _)) (by have := HO.out.2.2; simp; omega) (by rw [size_new]; have := HO.out.2.1; omega) ?_; intro v' w1 hown' hgrow hat))
  have hG : Grew w w1 v v' := (Grew.of_below v (below1 w _)).trans (Grew.of_grown hgrow hat)
  clear hgrow hat
  go_ret
  exact ⟨_, rfl, hown', hG⟩
end Go.Proofs.Ytjnimbhecfpnmaa
