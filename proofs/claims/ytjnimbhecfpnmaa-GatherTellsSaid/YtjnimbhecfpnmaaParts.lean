/- The walk of the law's helper 'parts'. -/
import Derived.Test.YtjnimbhecfpnmaaRowP
import Derived.Test.YtjnimbhecfpnmaaFirst
import Derived.Test.YtjnimbhecfpnmaaSplit
import Derived.Test.YtjnimbhecfpnmaaRef03Sum
import Derived.Deep.Cut
namespace Go.Proofs.Ytjnimbhecfpnmaa
set_option maxRecDepth 100000
open Go.ChangeShapes Go.WideShapes Go.ChangeAt Go.RowKit

/-- the k-th part of bytes, of so many each -/
def ptF (l : List Int) (size k : Nat) : Pt := ⟨sumF l, l.length, ((k * size : Nat) : Int), pieceF l size k⟩
def partsF (l : List Int) (size : Nat) : List Pt := (List.range (chunksN l.length size)).map (ptF l size)
theorem partsF_len (l : List Int) (size : Nat) : (partsF l size).length = chunksN l.length size := by simp [partsF]
theorem ptF_ok {l : List Int} (hb : Bytes l) (hn : l.length ≤ 1000000) (size k : Nat) (hs : k * size ≤ 1000000) : (ptF l size k).ok :=
  ⟨sumF_len l, sumF_bytes l, bytes_take (bytes_drop hb _) _, by simp [ptF, Lit.wf, IntKind.min, IntKind.max, IntKind.signed, IntKind.bits]; omega, by simp [ptF, Lit.wf, IntKind.min, IntKind.max, IntKind.signed, IntKind.bits]; rw [← Int.natCast_mul]; omega⟩
/-- .. and its bytes' slice -/
def quF (l : List Int) (size b o cap k : Nat) : Pt × Value := (ptF l size k, .slice (some ⟨b, o + k * size, none⟩) (min size (l.length - k * size)) (cap - k * size))
theorem quF_map (l : List Int) (size b o cap N : Nat) : ((List.range N).map (quF l size b o cap)).map (·.1) = (List.range N).map (ptF l size) := by simp [quF]
theorem chunk_lt' {n size k : Nat} (hs : 0 < size) : k < chunksN n size ↔ k * size < n := by
  unfold chunksN
  rw [Nat.lt_div_iff_mul_lt hs]
  omega
attribute [local irreducible] SlV Lies
attribute [local go_sem] takes takesE comesTo
set_option maxHeartbeats 4000000 in
theorem parts_any (v : Value) (b o : Nat) (l : List Int) (size : Nat) (hs1 : 1 ≤ size) (hs2 : size ≤ 1000) (hb : Bytes l) (hn : l.length ≤ 1000) (hv : SlV v b o l.length) (w : World) (hl : Lies w b o l) :
    Calls Try.prog 29 #[v, .int .i64 (size : Int)] w fun e w' => ∃ v' qs, e = .returned v' ∧ RdP w'.heap.size w' v' qs ∧ qs.map (·.1) = partsF l size ∧ Below w.heap.size w w' := by
  have HV := Lib.hid (And.intro hv (And.intro hl (And.intro hb (And.intro hn (And.intro hs1 hs2)))))
  obtain ⟨pv, cap, rfl, hcap, hmax, hp, _⟩ := by unfold SlV at hv; exact hv
  obtain ⟨n, hN⟩ : ∃ n, n = l.length := ⟨_, rfl⟩
  rw [← hN] at hcap hp ⊢
  obtain ⟨N, hNN⟩ : ∃ N, N = chunksN n size := ⟨_, rfl⟩
  have hNb : N ≤ 1000 := by
    have h1 : ∀ k, k < N → k * size < n := fun k hk => by rw [hNN] at hk; exact (chunk_lt' hs1).1 hk
    rcases Nat.eq_zero_or_pos N with h | h
    · omega
    · have h2 := h1 (N - 1) (by omega)
      have h3 : N - 1 ≤ (N - 1) * size := Nat.le_mul_of_pos_right _ hs1
      omega
  have HN := Lib.hid (And.intro hN (And.intro hcap (And.intro hmax (And.intro hp (And.intro hNN hNb)))))
  have HSUM : Hid (∀ W, Below w.heap.size w W → Calls Try.prog 27 #[.slice pv n cap] W fun e w' => e = .returned (.agg (row .u8 (sumF l))) ∧ Below W.heap.size W w') := Lib.hid fun W hW => by
    have h := r3sum_any l hb (by omega) b o _ hv W (hl.below' hW)
    rw [← hN] at h
    exact h
  clear hv hl hb hn hs1 hs2 hN hcap hmax hp hNN hNb
  go_enter Try.func29, Try.ntmps29
  go_wp2_with fail
  go_loopw [5, 6] (fun v5 v6 wr => ∃ k at' : Nat, k ≤ N ∧ at' = k * size ∧ v6 = .int .i64 (at' : Int) ∧ OwnP w.heap.size wr v5 ((List.range k).map (quF l size b o cap)) ∧ Below w.heap.size w wr) (fun _ i _ => N * size - (intOf i).toNat)
  case atStart => exact ⟨0, 0, Nat.zero_le _, by simp, rfl, OwnP.nil _ _, Below.refl _ _⟩
  case round =>
    obtain ⟨k, at', hk, hat, rfl, hown, hbr⟩ := hrel
    have HR := Lib.hid (And.intro hk (And.intro hat (And.intro hown hbr)))
    clear hk hat hown hbr
    by_cases hlt : at' < n
    · have hkN : k < N := by rw [HN.out.2.2.2.2.1]; exact (chunk_lt' HV.out.2.2.2.2.1).2 (by rw [← HR.out.2.1]; exact hlt)
      have i0 : (0 : Int) ≤ (at' : Int) := by omega
      have i1 : (at' : Int) < (n : Int) := by omega
      obtain ⟨A1, hA1⟩ : ∃ m, m = at' + size := ⟨_, rfl⟩
      have s1 : IntKind.i64.wrap ((at' : Int) + (size : Int)) = (A1 : Int) := by rw [IntKind.wrap_i64]; have := HV.out; have := HN.out; omega
      obtain ⟨to, hto⟩ : ∃ m, m = min A1 n := ⟨_, rfl⟩
      have s2 : (if n < A1 then (n : Int) else (A1 : Int)) = (to : Int) := by split <;> omega
      obtain ⟨ee, hee⟩ : ∃ m, m = to - at' := ⟨_, rfl⟩
      have hto1 : (at' : Int) ≤ (to : Int) := by have := HV.out; omega
      have hto2 : (to : Int) ≤ (cap : Int) := by have := HN.out; omega
      have hto3 : ¬ cap = at' := by have := HN.out; omega
      obtain rfl := HN.out.2.2.2.1 (by omega)
      have hlen : (pieceF l size k).length = ee := by rw [pieceF_len, ← HN.out.1, ← HR.out.2.1]; omega
      obtain ⟨PC, hPC⟩ : ∃ C, C = (pcells (sumF l) (n : Int) (at' : Int) (.slice (some ⟨b, o + at', none⟩) (to - at') (cap - at'))).toArray := ⟨_, rfl⟩
      have hbu := build_part (sumF l) (sumF_len l) (n : Int) (at' : Int) (some ⟨b, o + at', none⟩) (to - at') (cap - at')
      rw [← hPC] at hbu
      have hsz : PC.size = 35 := by rw [hPC]; exact pcells_sz (sumF_len l) _ _ _
      have hqu : quF l size b o cap k = (ptF l size k, .slice (some ⟨b, o + at', none⟩) (to - at') (cap - at')) := by
        unfold quF
        rw [← HR.out.2.1, ← HN.out.1, show min size (n - at') = to - at' by omega]
      have hpq : (qC (quF l size b o cap k)).toArray = PC := by rw [hqu, hPC]; simp [qC, ptF, ← HN.out.1, ← HR.out.2.1]
      have HBU := Lib.hid (And.intro hbu (And.intro hsz (And.intro hpq (And.intro hkN (And.intro hA1 (And.intro hto hee))))))
      have HCS : Hid (∀ x : HW (BC w), Calls Try.prog 27 #[.slice (some ⟨b, o, none⟩) n cap] x.w fun e w' => e = .returned (.agg (row .u8 (sumF l))) ∧ BC x.w w') := Lib.hid fun x => HSUM.out x.w x.h
      have one5 : u5.oneCell' = true := by obtain ⟨a5, c5, e5⟩ := HR.out.2.2.1.form; rw [e5]; rfl
      have HO5 := Lib.hid one5
      clear one5
      clear hlt hA1 hto hee hlen hPC hbu hsz hqu hpq hkN
      generalize row .u8 (sumF l) = RD at *
      go_upto_region 6 with fail
      have hS := BC_refl
      haveI := BC_inst w
      have SB : Hid (BC w wr) := Lib.hid HR.out.2.2.2
      refine wp_region_E0 w (by kernel_rfl) ?_
      refine takeE (i := 0) rfl (by kernel_rfl) (by kernel_rfl) (by kernel_rfl) (fun _ _ _ _ h => h) SB.out (fun K hK => ?_)
      go_simp
      refine hK.out _ ?_
      clear hK K
      refine takeE (i := 1) rfl (by kernel_rfl) (by kernel_rfl) (by kernel_rfl) (fun _ _ _ _ h => h) SB.out (fun K hK => ?_)
      go_simp
      refine hK.out _ ?_
      clear hK K
      refine takeE (i := 2) rfl (by kernel_rfl) (by kernel_rfl) (by kernel_rfl) (fun _ _ _ _ h => h) SB.out (fun K hK => ?_)
      go_simp
      apply Exists.intro
      refine ⟨fun x => ?_, hK.out _ ?_⟩
      · go_at_call 27
        exact (HCS.out x)
      clear hK K
      refine takeE (i := 3) rfl (by kernel_rfl) (by kernel_rfl) (by kernel_rfl) (fun _ _ _ _ h => h) SB.out (fun K hK => ?_)
      go_simp
      refine hK.out _ ?_
      clear hK K
      refine takeE (i := 4) rfl (by kernel_rfl) (by kernel_rfl) (by kernel_rfl) (fun _ _ _ _ h => h) SB.out (fun K hK => ?_)
      go_simp
      refine hK.out _ ?_
      clear hK K
      refine takeE (i := 5) rfl (by kernel_rfl) (by kernel_rfl) (by kernel_rfl) (fun _ _ _ _ h => h) SB.out (fun K hK => ?_)
      go_simp
      refine hK.out _ ?_
      clear hK K
      refine takeE (i := 6) rfl (by kernel_rfl) (by kernel_rfl) (by kernel_rfl) (fun _ _ _ _ h => h) SB.out (fun K hK => ?_)
      go_simp
      refine hK.out _ ?_
      clear hK K
      refine takeE (i := 7) rfl (by kernel_rfl) (by kernel_rfl) (by kernel_rfl) (fun _ _ _ _ h => h) SB.out (fun K hK => ?_)
      go_simp
      refine hK.out _ ?_
      clear hK K
      refine takeE (i := 8) rfl (by kernel_rfl) (by kernel_rfl) (by kernel_rfl) (fun _ _ _ _ h => h) SB.out (fun K hK => ?_)
      go_simp
      refine hK.out _ ?_
      clear hK K
      refine takeE (i := 9) rfl (by kernel_rfl) (by kernel_rfl) (by kernel_rfl) (fun _ _ _ _ h => h) SB.out (fun K hK => ?_)
      go_simp
      refine hK.out _ ?_
      clear hK K
      refine takeEB (i := 10) rfl (by kernel_rfl) (by kernel_rfl) (by kernel_rfl) (fun _ _ _ _ h => h) SB.out 26 _ rfl (by rfl) PC (Eq.trans (congrArg (Try.prog.built 26) (by kernel_rfl)) HBU.out.1) ?_
      simp only [Act.put, List.setIfInBounds_toArray]
      refine stepE (i := 11) rfl (by kernel_rfl) (fun w3 r3 K hK => ?_)
      rw [if_pos (by rfl)]
      refine wp_build1P (.tmp 31) rfl PC (by rfl) HBU.out.2.1 ?_
      have S3 : Hid (BC wr (w3.alloc (.cells PC 26))) := Lib.hid (BC_trans r3 (below1 w3 _))
      have T3 : Hid (BC w (w3.alloc (.cells PC 26))) := Lib.hid (BC_trans SB.out S3.out)
      refine hK.out _ _ T3.out ?_
      simp only [Act.put, List.setIfInBounds_toArray, List.set_cons_zero, List.set_cons_succ, List.getElem_toArray, List.getElem_cons_succ, List.getElem_cons_zero]
      have Z3 := Lib.hid (heap_alloc_new w3 (.cells PC 26))
      generalize w3.alloc (.cells PC 26) = W3 at *
      obtain ⟨g3, hg3⟩ : ∃ g, g = w3.heap.size := ⟨_, rfl⟩
      rw [← hg3] at Z3 ⊢
      clear hK K r3 hg3
      refine stepE (i := 12) rfl (by kernel_rfl) (fun w4 r4 K hK => ?_)
      rw [if_pos (by rfl)]
      refine wp_append1P (.tmp 21) (.tmp 32) (by rfl) w.heap.size u5 ((List.range k).map (quF l size b o cap)) (by rfl) ((HR.out.2.2.1.below S3.out).below r4) g3 0 1 (by rfl) (quF l size b o cap k) (fun j u hj => by
        rw [Nat.zero_add]
        refine cell_row (BC_blk1 r4 Z3.out) j ?_
        rw [← HBU.out.2.2.1, List.getElem?_toArray]
        exact hj) (sumF_len l) rfl (by rw [List.length_map, List.length_range]; have := HN.out; have := HR.out; omega) (Nat.le_trans HR.out.2.2.2.size (BC_trans S3.out r4).size) ?_
      intro v5 w5 own5 b5
      have hbb : Below w.heap.size w w5 := (BC_below HR.out.2.2.2 HR.out.2.2.2.size (BC_trans S3.out r4)).trans b5
      have T5 : Hid (BC w w5) := Lib.hid hbb
      refine hK.out _ _ T5.out ?_
      simp only [Act.put, List.setIfInBounds_toArray, List.set_cons_zero, List.set_cons_succ, List.getElem_toArray, List.getElem_cons_succ, List.getElem_cons_zero]
      have HO := Lib.hid own5
      clear hK K b5 hbb own5 r4
      refine takeE (i := 13) rfl (by kernel_rfl) (by kernel_rfl) (by kernel_rfl) (fun _ _ _ _ h => h) T5.out (fun K hK => ?_)
      go_simp
      refine hK.out _ ?_
      clear hK K
      refine doneE (by kernel_rfl) (fun w9 r9 => ?_) _
      clear hS
      have HZ := Lib.hid (And.intro (HO.out.below r9) (BC_trans T5.out r9))
      clear r9
      go_wp2_with fail
      go_roundw
      case rel => exact ⟨k + 1, A1, by have := HBU.out.2.2.2.1; omega, by rw [Nat.add_mul, Nat.one_mul]; have := HBU.out.2.2.2.2.1; have := HR.out.2.1; omega, rfl, by rw [List.range_succ, List.map_append]; exact HZ.out.1, HZ.out.2⟩
      case measure =>
        have h1 := HBU.out.2.2.2.1
        have h2 := HBU.out.2.2.2.2.1
        have h3 := HR.out.2.1
        have h4 := HV.out.2.2.2.2.1
        have h5 : at' < N * size := by rw [h3]; exact Nat.mul_lt_mul_of_pos_right h1 h4
        simp [intOf]; omega
    · have hkN : k = N := by
        have h1 := HR.out.1
        rcases Nat.eq_or_lt_of_le h1 with h | h
        · exact h
        · rw [HN.out.2.2.2.2.1] at h
          have := (chunk_lt' HV.out.2.2.2.2.1).1 h
          have := HR.out.2.1
          omega
      have hge : ¬ (at' : Int) < (n : Int) := by omega
      have hg : GoodQ wr.heap.size wr ((List.range k).map (quF l size b o cap)) := by
        intro q hq
        obtain ⟨j, hj, rfl⟩ := List.mem_map.1 hq
        have hj2 : j < N := by rw [← hkN]; exact List.mem_range.1 hj
        have hj3 : j * size < n := by rw [HN.out.2.2.2.2.1] at hj2; exact (chunk_lt' HV.out.2.2.2.2.1).1 hj2
        refine ⟨ptF_ok HV.out.2.2.1 (by have := HV.out; omega) size j (by have := HN.out.1; have := HV.out; omega), ?_⟩
        have hl2 : Lies wr b (o + j * size) (pieceF l size j) := lies_take (lies_drop (HV.out.2.1.below' HR.out.2.2.2) _) _
        refine Held.of_lies (b := b) (o := o + j * size) ?_ hl2
        show SlV (.slice (some ⟨b, o + j * size, none⟩) (min size (l.length - j * size)) (cap - j * size)) b (o + j * size) (pieceF l size j).length
        rw [pieceF_len]
        exact slv_at _ _ _ _ (by have := HN.out; omega) (by have := HN.out; omega)
      have HF := Lib.hid (And.intro hg hkN)
      clear hlt hkN hg
      go_wp2_with fail
      go_ret
      refine ⟨_, rfl, _, HR.out.2.2.1.rd HF.out.1, ?_, HR.out.2.2.2⟩
      rw [quF_map, HF.out.2, HN.out.2.2.2.2.1, HN.out.1]
      rfl
end Go.Proofs.Ytjnimbhecfpnmaa
