/- bindle/view.tops: plain, and the walk. -/
import Derived.Test.YtagdlbadkmgdmaaDoorMapS
import Derived.Test.YtagdlbadkmgdmaaDoorParents
import Derived.Test.YtagdlbadkmgdmaaDoorDot
import Derived.Test.YtagdlbadkmgdmaaDoorEv
import Derived.Test.YtagdlbadkmgdmaaDoorGuard
import Derived.ChangeArms
import Derived.Deep.Cut
namespace Go.Proofs.YtagdlbadkmgdmaaDoor
set_option maxRecDepth 100000
open Go.ChangeShapes Go.WideShapes Go.ChangeAt Go.RowKit

abbrev Best := ByteArray → Option Dt
abbrev Dirs := ByteArray → Int
def stepB (T : Best) (e : Ev) : Best := match T e.path with
  | none => fun k => if k = e.path then some e.dot else T k
  | some d => if 0 < cmpD e.dot d then fun k => if k = e.path then some e.dot else T k else T
def dirK (path : ByteArray) (ps : List ByteArray) (D : Dirs) : Nat → Dirs
  | 0 => D
  | j + 1 => match ps[j]? with
    | some p => if underB path p = true then fun k => if k = p then dirK path ps D j p + 1 else dirK path ps D j k else dirK path ps D j
    | none => dirK path ps D j
def stepDir (D : Dirs) (e : Ev) : Dirs := dirK e.path (parK e.path e.path.size) D (parK e.path e.path.size).length
def topsK (es : List Ev) : Nat → Best × Dirs
  | 0 => (fun _ => none, fun _ => 0)
  | i + 1 => match es[i]? with
    | some e => if e.kind = 1 then (stepB (topsK es i).1 e, stepDir (topsK es i).2 e) else topsK es i
    | none => topsK es i
def topsF (es : List Ev) : Best × Dirs := topsK es es.length
theorem dirK_bound (path : ByteArray) (ps : List ByteArray) (D : Dirs) (a b : Int) (h : ∀ k, a ≤ D k ∧ D k ≤ b) : ∀ (j : Nat) (k : ByteArray), a ≤ dirK path ps D j k ∧ dirK path ps D j k ≤ b + j
  | 0, k => by rw [dirK]; have := h k; omega
  | j + 1, k => by
    have ih := dirK_bound path ps D a b h j
    rw [dirK]
    cases hq : ps[j]? with
    | none =>
      have := ih k
      simp only
      omega
    | some p =>
      simp only
      by_cases hu : underB path p = true
      · rw [if_pos hu]
        by_cases hk : k = p
        · rw [if_pos hk]
          have := ih p
          omega
        · rw [if_neg hk]
          have := ih k
          omega
      · rw [if_neg hu]
        have := ih k
        omega
theorem parK_size (s : ByteArray) : ∀ i, ∀ p ∈ parK s i, p.size ≤ s.size
  | 0, p, h => by cases h
  | i + 1, p, h => by
    rw [parK] at h
    rcases List.mem_append.1 h with h | h
    · exact parK_size s i p h
    · split at h
      · rw [List.mem_singleton.1 h, ByteArray.size_extract]
        omega
      · cases h
/-- what two maps hold -/
def BestS (w : World) (b : Nat) (T : Best) : Prop := MapS w b fun k => (T k).map fun d => .agg #[.int .i64 d.1, .int .i64 d.2]
def DirS (w : World) (b : Nat) (D : Dirs) : Prop := ∃ T, MapS w b T ∧ ∀ k, (T k).getD (.int .i64 0) = .int .i64 (D k)
theorem DirS.to {w w' : World} {b : Nat} {D : Dirs} (h : DirS w b D) (hb : BC w w') : DirS w' b D := by
  obtain ⟨T, h1, h2⟩ := h
  exact ⟨T, h1.to hb, h2⟩
theorem DirS.but {g : Nat} {w w' : World} {b : Nat} {D : Dirs} (h : DirS w b D) (hb : But g w w') (hn : b ≠ g) : DirS w' b D := by
  obtain ⟨T, h1, h2⟩ := h
  exact ⟨T, h1.but hb hn, h2⟩
theorem MapS.block {w : World} {b : Nat} {T : ByteArray → Option Value} (h : MapS w b T) : ∃ bs clock, w.heap[b]? = some (.map bs clock) := by
  obtain ⟨bs, clock, _, h1, _⟩ := h
  exact ⟨bs, clock, h1⟩
theorem cell_nomap {w : World} {b : Nat} {bs : Array MapEntry} {clock : Nat} (hm : w.heap[b]? = some (.map bs clock)) {a : Addr} {v : Value} (hc : w.cell? a = some v) : a.block ≠ b := by
  intro e
  subst e
  simp [World.cell?, hm] at hc
theorem RdG.butM {n b : Nat} {w w' : World} {v : Value} {rs : Rows'} (h : RdG n w.heap.size w v rs) (hb : But b w w') {bs : Array MapEntry} {clock : Nat} (hm : w.heap[b]? = some (.map bs clock)) : RdG n w'.heap.size w' v rs := by
  obtain ⟨h0, g, o, h1, h2, h3⟩ := h
  exact ⟨h0, g, o, h1, fun j u hj => hb.cell (h2 j u hj) (cell_nomap hm (h2 j u hj)), fun h => Nat.lt_of_lt_of_le (h3 h) hb.size⟩
theorem zero_dot (w : World) : (zeroValue 34).run Tryd.prog w = .ok (.agg #[.int .i64 0, .int .i64 0]) w := by kernel_rfl
theorem zero_nint (w : World) : (zeroValue 3).run Tryd.prog w = .ok (.int .i64 0) w := by kernel_rfl
attribute [local irreducible] SlV Lies headG slotG
attribute [local go_sem] takes takesE comesTo comesToP
set_option maxHeartbeats 16000000 in
theorem tops_any (v : Value) (qs : List (Ev × Value)) (w : World) (hv : RdE w.heap.size w v qs) (hn : qs.length ≤ 10000) (hp : ∀ q ∈ qs, q.1.path.size ≤ 4000000) :
    Calls Tryd.prog 31 #[v] w fun e w' => ∃ b1 b2, e = .returned (.tuple #[.map (some b1), .map (some b2)]) ∧ BestS w' b1 (topsF (qs.map (·.1))).1 ∧ DirS w' b2 (topsF (qs.map (·.1))).2 ∧ Below w.heap.size w w' := by
  have hvv := hv
  obtain ⟨_, _, g, o, sv, rg, _⟩ := hvv
  have hlen : (evR qs).length = qs.length := by simp [evR]
  rw [hlen] at sv
  obtain ⟨a, c, rfl, hc, hm, ha, _⟩ := by unfold SlV at sv; exact sv
  obtain ⟨n, hN⟩ : ∃ n, n = qs.length := ⟨_, rfl⟩
  obtain ⟨es, hes⟩ : ∃ l, l = qs.map (·.1) := ⟨_, rfl⟩
  have hesl : es.length = n := by rw [hes, hN, List.length_map]
  rw [← hN] at ha hv hn ⊢
  rw [← hes]
  have HV := bx (And.intro hv (And.intro rg (And.intro hN (And.intro ha (And.intro hn (And.intro hp (And.intro hes hesl)))))))
  obtain ⟨W1, hW1⟩ : ∃ W, W = w.alloc (.map #[] 0) := ⟨_, rfl⟩
  obtain ⟨W2, hW2⟩ : ∃ W, W = W1.alloc (.map #[] 0) := ⟨_, rfl⟩
  obtain ⟨b1, hb1⟩ : ∃ g, g = w.heap.size := ⟨_, rfl⟩
  obtain ⟨b2, hb2⟩ : ∃ g, g = w.heap.size + 1 := ⟨_, rfl⟩
  have hs1 : W1.heap.size = b2 := by rw [hW1, hb2]; simp only [World.alloc, Array.size_push]
  have a1 := MapS.made w
  have a2 := MapS.made W1
  have e1 := below1 w (.map #[] 0)
  have e2 := below1 W1 (.map #[] 0)
  rw [← hW1, ← hb1] at a1
  rw [← hW2, hs1] at a2
  rw [← hW1] at e1
  rw [← hW2] at e2
  have hne : ¬ b1 = b2 := by omega
  have HM := bx (And.intro hW1 (And.intro hW2 (And.intro hb1 hb2)))
  have HA := bx (And.intro (show BestS W2 b1 (fun _ => none) from a1.to e2) (And.intro (show DirS W2 b2 (fun _ => 0) from ⟨_, a2, fun _ => rfl⟩) (And.intro (BC_trans e1 e2) (And.intro (show w.heap.size ≤ b1 by omega) (show w.heap.size ≤ b2 by omega)))))
  clear hv sv rg hN ha hc hm hn hlen hp hes hesl hW1 hW2 hb1 hb2 hs1 a1 a2 e1 e2
  go_enter Tryd.func31, Tryd.ntmps31
  have hmm := @run_makeMap Tryd.prog
  go_upto_region 2 with fail
  rw [← HM.out.1, ← HM.out.2.1, ← HM.out.2.2.2, ← HM.out.2.2.1]
  clear hmm
  go_upto_region 3 with fail
  go_loopw [16] (fun v16 wr => ∃ (i : Nat), i ≤ n ∧ v16 = .int .i64 (i : Int) ∧ BestS wr b1 (topsK es i).1 ∧ DirS wr b2 (topsK es i).2 ∧ (∀ k, 0 ≤ (topsK es i).2 k ∧ (topsK es i).2 k ≤ (i : Int) * 4000000) ∧ BC w wr) (fun i _ => n - (intOf i).toNat)
  case atStart => exact ⟨0, Nat.zero_le _, rfl, HA.out.1, HA.out.2.1, fun k => by simp [topsK], HA.out.2.2.1⟩
  case round =>
    obtain ⟨i, hi, rfl, hT, hD, hDb, hbr⟩ := hrel
    obtain ⟨T, hTe⟩ : ∃ T, T = (topsK es i).1 := ⟨_, rfl⟩
    obtain ⟨D, hDe⟩ : ∃ D, D = (topsK es i).2 := ⟨_, rfl⟩
    rw [← hTe] at hT
    rw [← hDe] at hD hDb
    have HR := bx (And.intro hT (And.intro hD (And.intro hDb (And.intro hbr (And.intro hi (And.intro hTe hDe))))))
    clear hT hD hDb hbr hi hTe hDe
    by_cases hlt : i < n
    · have i0 : (0 : Int) ≤ (i : Int) := by omega
      have i1 : (i : Int) < (n : Int) := by omega
      obtain ⟨I1, hI1⟩ : ∃ m, m = i + 1 := ⟨_, rfl⟩
      have s1 : IntKind.i64.wrap ((i : Int) + 1) = (I1 : Int) := by rw [IntKind.wrap_i64]; have := HV.out.2.2.2.2.1; omega
      have hiq : i < qs.length := by rw [← HV.out.2.2.1]; exact hlt
      obtain rfl := HV.out.2.2.2.1 (by omega)
      have hrg := rangeG_get HV.out.2.1 (evR_n HV.out.1.1) (show i < (evR qs).length by simp [evR]; exact hiq)
      have hvi : (evR qs)[i]'(by simp [evR]; exact hiq) = evC (qs[i]'hiq) := by simp [evR]
      rw [hvi] at hrg
      have hqm := List.getElem_mem hiq
      have hqe : es[i]? = some (qs[i]'hiq).1 := by rw [HV.out.2.2.2.2.2.2.1, List.getElem?_map, List.getElem?_eq_getElem hiq]; rfl
      obtain ⟨q, hq⟩ : ∃ q, q = qs[i]'hiq := ⟨_, rfl⟩
      rw [← hq] at hrg hqm hqe
      obtain ⟨C, hC⟩ : ∃ C, C = (evC q).toArray := ⟨_, rfl⟩
      have hgq := HV.out.1.1 q hqm
      have hCz : C.size = 38 := by rw [hC]; simpa using evC_len hgq.1
      have hC1 : C.all (·.oneCell') = true := by rw [hC]; exact Array.all_eq_true_iff_forall_mem.2 (fun v hv => evC_one hgq.2.2.one v (by simpa using hv))
      have hrg2 : wr.rangeAt g (o + i * 38) C.toList := fun j u hj => later HR.out.2.2.2.1 (hrg j u (by rw [hC] at hj; exact hj))
      obtain ⟨W8, hW8⟩ : ∃ W, W = wr.alloc (.cells C 38) := ⟨_, rfl⟩
      obtain ⟨g8, hg8⟩ : ∃ g, g = wr.heap.size := ⟨_, rfl⟩
      have n8 := heap_alloc_new wr (.cells C 38)
      have b8 := below1 wr (.cells C 38)
      rw [← hW8, ← hg8] at n8
      rw [← hW8] at b8
      obtain ⟨pa, hpa⟩ : ∃ x, x = q.1.path := ⟨_, rfl⟩
      obtain ⟨kd, hkd⟩ : ∃ x, x = q.1.kind := ⟨_, rfl⟩
      obtain ⟨dp, hdp⟩ : ∃ x, x = q.1.dot.1 := ⟨_, rfl⟩
      obtain ⟨dq, hdq⟩ : ∃ x, x = q.1.dot.2 := ⟨_, rfl⟩
      have hcc : ∀ W : World, W.heap[g8]? = some (.cells C 38 (0, 0)) → W.cell? ⟨g8, 0, none⟩ = some (.int .i64 dp) ∧ W.cell? ⟨g8, 1, none⟩ = some (.int .i64 dq) ∧ W.cell? ⟨g8, 3, none⟩ = some (.int .i64 kd) ∧ W.cell? ⟨g8, 4, none⟩ = some (.string pa) := fun W h => by
        rw [hC] at h
        exact ⟨cell_row h 0 (by rw [hdp]; rfl), cell_row h 1 (by rw [hdq]; rfl), cell_row h 3 (by rw [hkd]; rfl), cell_row h 4 (by rw [hpa]; rfl)⟩
      have hB1 : g8 ≠ b1 := by
        obtain ⟨x1, x2, x3⟩ := HR.out.1.block
        have := blk_lt x3
        omega
      have hB2 : g8 ≠ b2 := by
        obtain ⟨_, hx, _⟩ := HR.out.2.1
        obtain ⟨x1, x2, x3⟩ := hx.block
        have := blk_lt x3
        omega
      have hps : pa.size ≤ 4000000 := by rw [hpa]; exact HV.out.2.2.2.2.2.1 q hqm
      have HI := bx (And.intro hI1 (And.intro hlt (And.intro hqe (And.intro hpa (And.intro hkd (And.intro hdp (And.intro hdq hps)))))))
      have H8 := bx (And.intro hW8 (And.intro hg8 (And.intro b8 (And.intro hrg2 (And.intro hCz (And.intro hC1 (And.intro n8 (And.intro hcc (And.intro hB1 hB2)))))))))
      have k8 := (hcc W8 n8).2.2.1
      have k9 := (hcc W8 n8).2.2.2
      clear hI1 hlt hqe hpa hkd hdp hdq hps hW8 hg8 b8 hrg2 hCz hC1 n8 hcc hB1 hB2 hC hgq hrg hvi hqm hq hiq
      go_upto_region 5 with (first
        | ((with_reducible refine wl_load_mid (o := ⟨some 19, _, _, _, _, _⟩) ?_ 38 (.tmp 18) ?_ _ _ ?_ C _ H8.out.2.2.2.1 Tryd.underlying38 ?_ ?_ ?_); (focus rfl); (focus rfl); (focus rfl); (focus rfl); (focus (rw [H8.out.2.2.2.2.1]; kernel_rfl)))
        | (refine wpList_store_rowTo rfl 38 _ _ rfl rfl _ C rfl rfl 38 _ (heap_alloc_new wr _) (by rw [H8.out.2.2.2.2.1]; kernel_rfl) (by rw [H8.out.2.2.2.2.1]; kernel_rfl) H8.out.2.2.2.2.2.1 ?_; rw [World.setRow_alloc_new]))
      rw [← H8.out.1, ← H8.out.2.1]
      by_cases hk1 : kd = 1
      · subst hk1
        obtain ⟨T1, hT1⟩ : ∃ T' : Best, T' = stepB T q.1 := ⟨_, rfl⟩
        have hsB : (topsK es I1) = (T1, stepDir D q.1) := by
          rw [HI.out.1, topsK, HI.out.2.2.1]
          simp only
          rw [if_pos HI.out.2.2.2.2.1.symm, hT1, HR.out.2.2.2.2.2.1, HR.out.2.2.2.2.2.2]
        have HSB := bx hsB
        clear hsB
        have bw8 : BC w W8 := BC_trans HR.out.2.2.2.1 H8.out.2.2.1
        have hle1 := HA.out.2.2.2.1
        cases hTp : T pa
        case' none =>
          have hlook : (Instr.lookup 77 (.map (some b1)) (.string pa) true).run Tryd.prog W8 = .ok (.tuple #[.agg #[.int .i64 0, .int .i64 0], .bool false]) W8 := by
            rw [(show MapS W8 b1 _ from HR.out.1.to H8.out.2.2.1).look Tryd.underlying77 Tryd.underlying9 (zero_dot _) pa true, hTp]
            rfl
          obtain ⟨CD, hCD⟩ : ∃ C, C = (#[.int .i64 0, .int .i64 0] : Array Value) := ⟨_, rfl⟩
          have hCDz : CD.size = 2 := by rw [hCD]; rfl
          have hCD1 : CD.all (·.oneCell') = true := by rw [hCD]; simp [Value.oneCell']
          rw [← hCD] at hlook
          obtain ⟨W10, hW10⟩ : ∃ W, W = W8.alloc (.cells CD 34) := ⟨_, rfl⟩
          obtain ⟨g10, hg10⟩ : ∃ g, g = W8.heap.size := ⟨_, rfl⟩
          have n10 := heap_alloc_new W8 (.cells CD 34)
          have b10 := below1 W8 (.cells CD 34)
          rw [← hW10, ← hg10] at n10
          rw [← hW10] at b10
          have hbm : MapS W10 b1 (fun k => (T k).map fun d => .agg #[.int .i64 d.1, .int .i64 d.2]) := (show MapS W8 b1 _ from HR.out.1.to H8.out.2.2.1).to b10
          have n8 := BC_blk1 b10 H8.out.2.2.2.2.2.2.1
          have hst : stepB T q.1 = fun k => if k = pa then some (dp, dq) else T k := by
            unfold stepB
            rw [← HI.out.2.2.2.1, hTp]
            simp only
            rw [HI.out.2.2.2.2.2.1, HI.out.2.2.2.2.2.2.1]
          have H10 := bx (And.intro hW10 (And.intro hg10 (And.intro hCDz (And.intro hCD1 (And.intro hbm (And.intro n8 (And.intro (HR.out.2.1.to (BC_trans H8.out.2.2.1 b10)) (And.intro (BC_trans bw8 b10) (hT1.trans hst)))))))))
          clear hW10 hg10 n10 hCD hCDz hCD1 hbm n8 hst hT1 b10 bw8
          go_upto_region 7 with (refine wpList_store_rowTo rfl 34 _ _ rfl rfl _ CD rfl rfl 34 _ (heap_alloc_new W8 _) (by rw [H10.out.2.2.1]; kernel_rfl) (by rw [H10.out.2.2.1]; kernel_rfl) H10.out.2.2.2.1 ?_; rw [World.setRow_alloc_new])
          rw [← H10.out.1, ← H10.out.2.1]
          clear hlook
          have k0 := (H8.out.2.2.2.2.2.2.2.1 W10 H10.out.2.2.2.2.2.1).1
          have k1 := (H8.out.2.2.2.2.2.2.2.1 W10 H10.out.2.2.2.2.2.1).2.1
          have k4 := (H8.out.2.2.2.2.2.2.2.1 W10 H10.out.2.2.2.2.2.1).2.2.2
          go_upto_region 9 with ((with_reducible refine wl_mapputS (o := ⟨none, _, _, _, _, _⟩) ?_ (.tmp 39) (.tmp 41) (.tmp 43) 77 ?_ Tryd.underlying77 Tryd.underlying9 b1 _ ?_ H10.out.2.2.2.2.1 pa (.agg #[.int .i64 dp, .int .i64 dq]) ?_ ?_ ?_); (focus rfl); (focus rfl); (focus rfl); (focus rfl); (focus rfl); intro W12 hm12 hbt12)
          have hB12 : BestS W12 b1 T1 := by
            unfold BestS
            have e : (fun k => (T1 k).map fun d => Value.agg #[.int .i64 d.1, .int .i64 d.2]) = fun k' => if k' = pa then some (.agg #[.int .i64 dp, .int .i64 dq]) else (T k').map fun d => .agg #[.int .i64 d.1, .int .i64 d.2] := by
              funext k
              rw [H10.out.2.2.2.2.2.2.2.2]
              by_cases h : k = pa
              · simp [h]
              · simp [h]
            rw [e]
            exact hm12
          have H12 := bx (And.intro hB12 (And.intro (H10.out.2.2.2.2.2.2.1.but hbt12 (fun e => hne e.symm)) (And.intro (hbt12.below _ _ hle1 (show Below w.heap.size w W10 from H10.out.2.2.2.2.2.2.2.1).size H10.out.2.2.2.2.2.2.2.1) (hbt12.blk H10.out.2.2.2.2.2.1 H8.out.2.2.2.2.2.2.2.2.1))))
          clear hm12 hbt12 hB12 k0 k1 k4 k8 k9 H10
        case' some d =>
          have hlook : (Instr.lookup 77 (.map (some b1)) (.string pa) true).run Tryd.prog W8 = .ok (.tuple #[.agg #[.int .i64 d.1, .int .i64 d.2], .bool true]) W8 := by
            rw [(show MapS W8 b1 _ from HR.out.1.to H8.out.2.2.1).look Tryd.underlying77 Tryd.underlying9 (zero_dot _) pa true, hTp]
            rfl
          obtain ⟨CD, hCD⟩ : ∃ C, C = (#[.int .i64 d.1, .int .i64 d.2] : Array Value) := ⟨_, rfl⟩
          have hCDz : CD.size = 2 := by rw [hCD]; rfl
          have hCD1 : CD.all (·.oneCell') = true := by rw [hCD]; simp [Value.oneCell']
          rw [← hCD] at hlook
          obtain ⟨W10, hW10⟩ : ∃ W, W = W8.alloc (.cells CD 34) := ⟨_, rfl⟩
          obtain ⟨g10, hg10⟩ : ∃ g, g = W8.heap.size := ⟨_, rfl⟩
          have n10 := heap_alloc_new W8 (.cells CD 34)
          have b10 := below1 W8 (.cells CD 34)
          rw [← hW10, ← hg10] at n10
          rw [← hW10] at b10
          have hbm : MapS W10 b1 (fun k => (T k).map fun d => .agg #[.int .i64 d.1, .int .i64 d.2]) := (show MapS W8 b1 _ from HR.out.1.to H8.out.2.2.1).to b10
          have n8 := BC_blk1 b10 H8.out.2.2.2.2.2.2.1
          have hst : stepB T q.1 = if 0 < cmpD (dp, dq) d then fun k => if k = pa then some (dp, dq) else T k else T := by
            unfold stepB
            rw [← HI.out.2.2.2.1, hTp]
            simp only
            rw [HI.out.2.2.2.2.2.1, HI.out.2.2.2.2.2.2.1]
          have m10 : W10.cell? ⟨g10, 0, none⟩ = some (.int .i64 d.1) ∧ W10.cell? ⟨g10, 1, none⟩ = some (.int .i64 d.2) := ⟨cell_row n10 0 (by rw [hCD]; rfl), cell_row n10 1 (by rw [hCD]; rfl)⟩
          have M10 := bx m10
          clear m10
          have H10 := bx (And.intro hW10 (And.intro hg10 (And.intro hCDz (And.intro hCD1 (And.intro hbm (And.intro n8 (And.intro (HR.out.2.1.to (BC_trans H8.out.2.2.1 b10)) (And.intro (BC_trans bw8 b10) (hT1.trans hst)))))))))
          clear hW10 hg10 n10 hCD hCDz hCD1 hbm n8 hst hT1 b10 bw8
          go_upto_region 7 with (refine wpList_store_rowTo rfl 34 _ _ rfl rfl _ CD rfl rfl 34 _ (heap_alloc_new W8 _) (by rw [H10.out.2.2.1]; kernel_rfl) (by rw [H10.out.2.2.1]; kernel_rfl) H10.out.2.2.2.1 ?_; rw [World.setRow_alloc_new])
          rw [← H10.out.1, ← H10.out.2.1]
          clear hlook
          have k0 := (H8.out.2.2.2.2.2.2.2.1 W10 H10.out.2.2.2.2.2.1).1
          have k1 := (H8.out.2.2.2.2.2.2.2.1 W10 H10.out.2.2.2.2.2.1).2.1
          have m0 := M10.out.1
          have m1 := M10.out.2
          go_wp2_with fail
          refine (dcompare_any (dp, dq) d W10).mono ?_
          rintro e w11 ⟨rfl, b11⟩
          have H11 := bx (And.intro (show BC W10 w11 from b11) (And.intro (H10.out.2.2.2.2.1.to b11) (BC_blk1 b11 H10.out.2.2.2.2.2.1)))
          have k0 := (H8.out.2.2.2.2.2.2.2.1 w11 H11.out.2.2).1
          have k1 := (H8.out.2.2.2.2.2.2.2.1 w11 H11.out.2.2).2.1
          have k4 := (H8.out.2.2.2.2.2.2.2.1 w11 H11.out.2.2).2.2.2
          clear b11 m0 m1
          obtain ⟨cm, hcm⟩ : ∃ x, x = cmpD (dp, dq) d := ⟨_, rfl⟩
          rw [← hcm]
          have HCM := bx hcm
          clear hcm
          by_cases hgt : 0 < cm
          case' pos =>
            have hT2 : T1 = fun k => if k = pa then some (dp, dq) else T k := by
              rw [H10.out.2.2.2.2.2.2.2.2, if_pos (by rw [← HCM.out]; exact hgt)]
            have HT2 := bx hT2
            clear hT2
            go_upto_region 9 with ((with_reducible refine wl_mapputS (o := ⟨none, _, _, _, _, _⟩) ?_ (.tmp 39) (.tmp 41) (.tmp 43) 77 ?_ Tryd.underlying77 Tryd.underlying9 b1 _ ?_ H11.out.2.1 pa (.agg #[.int .i64 dp, .int .i64 dq]) ?_ ?_ ?_); (focus rfl); (focus rfl); (focus rfl); (focus rfl); (focus rfl); intro W12 hm12 hbt12)
            have hB12 : BestS W12 b1 T1 := by
              unfold BestS
              have e : (fun k => (T1 k).map fun d => Value.agg #[.int .i64 d.1, .int .i64 d.2]) = fun k' => if k' = pa then some (.agg #[.int .i64 dp, .int .i64 dq]) else (T k').map fun d => .agg #[.int .i64 d.1, .int .i64 d.2] := by
                funext k
                rw [HT2.out]
                by_cases h : k = pa
                · simp [h]
                · simp [h]
              rw [e]
              exact hm12
            have bw11 := BC_trans H10.out.2.2.2.2.2.2.2.1 H11.out.1
            have H12 := bx (And.intro hB12 (And.intro ((H10.out.2.2.2.2.2.2.1.to H11.out.1).but hbt12 (fun e => hne e.symm)) (And.intro (hbt12.below _ _ hle1 (show Below w.heap.size w w11 from bw11).size bw11) (hbt12.blk H11.out.2.2 H8.out.2.2.2.2.2.2.2.2.1))))
            clear hm12 hbt12 hB12 k0 k1 k4 k8 k9 bw11 H10 H11 HCM HT2 M10 hgt
          case' neg =>
            obtain ⟨W12, hW12⟩ : ∃ W, W = w11 := ⟨_, rfl⟩
            have hT2 : T1 = T := by
              rw [H10.out.2.2.2.2.2.2.2.2, if_neg (by rw [← HCM.out]; exact hgt)]
            have H12 := bx (And.intro (show BestS W12 b1 T1 by rw [hW12, hT2]; exact H11.out.2.1) (And.intro (show DirS W12 b2 D by rw [hW12]; exact H10.out.2.2.2.2.2.2.1.to H11.out.1) (And.intro (show BC w W12 by rw [hW12]; exact BC_trans H10.out.2.2.2.2.2.2.2.1 H11.out.1) (show W12.heap[g8]? = some (.cells C 38 (0, 0)) by rw [hW12]; exact H11.out.2.2))))
            have HW12 := bx hW12
            clear hW12 hT2 k0 k1 k4 k8 k9
            go_upto_region 9 with fail
            rw [← HW12.out]
            clear HW12 H10 H11 HCM M10 hgt
        all_goals
          focus
            have k4 := (H8.out.2.2.2.2.2.2.2.1 W12 H12.out.2.2.2).2.2.2
            clear hTp
            go_wp2_with fail
            refine (parents_any pa HI.out.2.2.2.2.2.2.2 W12).mono ?_
            rintro e w13 ⟨vp, rfl, hrp, b13⟩
            obtain ⟨ps, hpsd⟩ : ∃ l, l = parK pa pa.size := ⟨_, rfl⟩
            rw [← hpsd] at hrp
            obtain ⟨m, hm⟩ : ∃ m, m = ps.length := ⟨_, rfl⟩
            have hml : m ≤ 4000000 := by rw [hm, hpsd]; have := parK_len pa pa.size; have := HI.out.2.2.2.2.2.2.2; omega
            have hsz : ∀ p ∈ ps, p.size ≤ 4000000 := fun p hp => by rw [hpsd] at hp; have := parK_size pa pa.size p hp; have := HI.out.2.2.2.2.2.2.2; omega
            have hrp0 := hrp
            obtain ⟨_, gp, op, svp, _, _⟩ := hrp
            have hsl : (strR ps).length = m := by rw [hm]; simp [strR]
            rw [hsl] at svp
            obtain ⟨ap, cp, rfl, _, _, hap, _⟩ := by unfold SlV at svp; exact svp
            have hsd : stepDir D q.1 = dirK pa ps D m := by unfold stepDir; rw [← HI.out.2.2.2.1, ← hpsd, ← hm]
            have HP := bx (And.intro hpsd (And.intro hm (And.intro hml (And.intro hsz (And.intro hap hsd)))))
            have H13 := bx (And.intro (show BestS w13 b1 T1 from H12.out.1.to b13) (And.intro (H12.out.2.1.to b13) (And.intro (BC_trans H12.out.2.2.1 b13) (And.intro (BC_blk1 b13 H12.out.2.2.2) hrp0))))
            clear hpsd hm hml hsz hap hsd hrp0 svp hsl b13 H12 k4
            go_upto_region 10 with fail
            go_loopw [48] (fun v48 w2 => ∃ j : Nat, j ≤ m ∧ v48 = .int .i64 (j : Int) ∧ BestS w2 b1 T1 ∧ DirS w2 b2 (dirK pa ps D j) ∧ BC w w2 ∧ w2.heap[g8]? = some (.cells C 38 (0, 0)) ∧ RdG 1 w2.heap.size w2 (.slice ap m cp) (strR ps)) (fun j _ => m - (intOf j).toNat)
            case atStart => exact ⟨0, Nat.zero_le _, rfl, H13.out.1, H13.out.2.1, H13.out.2.2.1, H13.out.2.2.2.1, H13.out.2.2.2.2⟩
            case round =>
              obtain ⟨j, hj, rfl, hj1, hj2, hj3, hj4, hj5⟩ := hrel
              have HJ := bx (And.intro hj1 (And.intro hj2 (And.intro hj3 (And.intro hj4 (And.intro hj5 hj)))))
              clear hj1 hj2 hj3 hj4 hj5 hj
              by_cases hjm : j < m
              · have j0 : (0 : Int) ≤ (j : Int) := by omega
                have j1 : (j : Int) < (m : Int) := by omega
                obtain ⟨J1, hJ1⟩ : ∃ m, m = j + 1 := ⟨_, rfl⟩
                have s2 : IntKind.i64.wrap ((j : Int) + 1) = (J1 : Int) := by rw [IntKind.wrap_i64]; have := HP.out.2.2.1; omega
                have hjp : j < ps.length := by rw [← HP.out.2.1]; exact hjm
                have hpe : ps[j]? = some (ps[j]'hjp) := List.getElem?_eq_getElem hjp
                have hpm := List.getElem_mem hjp
                obtain ⟨p, hp⟩ : ∃ p, p = ps[j]'hjp := ⟨_, rfl⟩
                rw [← hp] at hpe hpm
                obtain ⟨gq, oq, hap2, kp⟩ : ∃ gq oq, ap = some ⟨gq, oq, none⟩ ∧ wr.cell? ⟨gq, oq + j, none⟩ = some (.string p) := by
                  obtain ⟨_, gq, oq, sq, rq, _⟩ := HJ.out.2.2.2.2.1
                  obtain ⟨a', c', hf, _, _, ha', _⟩ := by unfold SlV at sq; exact sq
                  injection hf with hf1 hf2 hf3
                  have hl : (strR ps).length = m := by rw [HP.out.2.1]; simp [strR]
                  refine ⟨gq, oq, by rw [hf1]; exact ha' (by rw [hl]; omega), ?_⟩
                  have hget := rangeG_get rq (strR_n ps) (show j < (strR ps).length by rw [hl]; exact hjm)
                  have h0 := hget 0 (.string p) (by simp [strR, hp])
                  rw [Nat.mul_one, Nat.add_zero] at h0
                  exact h0
                subst hap2
                have k4 := (H8.out.2.2.2.2.2.2.2.1 _ HJ.out.2.2.2.1).2.2.2
                have hdb := dirK_bound pa ps D 0 ((i : Int) * 4000000) HR.out.2.2.1 j p
                obtain ⟨x, hx⟩ : ∃ x, x = dirK pa ps D j p := ⟨_, rfl⟩
                rw [← hx] at hdb
                obtain ⟨x1, hx1⟩ : ∃ y, y = x + 1 := ⟨_, rfl⟩
                have s3 : IntKind.i64.wrap (x + 1) = x1 := by rw [IntKind.wrap_i64]; have := HP.out.2.2.1; have := HV.out.2.2.2.2.1; have := HI.out.2.1; omega
                have HJJ := bx (And.intro hJ1 (And.intro hjm (And.intro hpe (And.intro (HP.out.2.2.2.1 p hpm) (And.intro hx hx1)))))
                clear hJ1 hjm hpe hpm hp hjp hdb hx hx1
                go_wp2_with fail
                refine (under_any pa p (by have := HJJ.out.2.2.2.1; omega) wr).mono ?_
                rintro e w3 ⟨rfl, b3⟩
                obtain ⟨un, hun⟩ : ∃ b, b = underB pa p := ⟨_, rfl⟩
                rw [← hun]
                have hdk : dirK pa ps D J1 = if un = true then fun k => if k = p then x1 else dirK pa ps D j k else dirK pa ps D j := by
                  rw [HJJ.out.1, dirK, HJJ.out.2.2.1]
                  simp only
                  rw [← hun, ← HJJ.out.2.2.2.2.1, ← HJJ.out.2.2.2.2.2]
                cases un with
                | true =>
                  have hdk2 : dirK pa ps D J1 = fun k => if k = p then x1 else dirK pa ps D j k := by rw [hdk, if_pos rfl]
                  obtain ⟨TD, hTD1, hTD2⟩ := HJ.out.2.1.to b3
                  have hlook : (Instr.lookup 78 (.map (some b2)) (.string p) false).run Tryd.prog w3 = .ok (.int .i64 x) w3 := by
                    rw [hTD1.look Tryd.underlying78 Tryd.underlying9 (zero_nint _) p false, HJJ.out.2.2.2.2.1, ← hTD2 p]
                    rfl
                  have H3 := bx (And.intro hTD1 (And.intro hTD2 (And.intro hdk2 (And.intro (show BC wr w3 from b3) (BC_trans HJ.out.2.2.1 b3)))))
                  clear hTD1 hTD2 hdk hdk2 hun b3
                  go_wp2_with ((with_reducible refine wl_mapputS (o := ⟨none, _, _, _, _, _⟩) ?_ (.tmp 56) (.tmp 57) (.tmp 59) 78 ?_ Tryd.underlying78 Tryd.underlying9 b2 _ ?_ H3.out.1 p (.int .i64 x1) ?_ ?_ ?_); (focus rfl); (focus rfl); (focus rfl); (focus rfl); (focus rfl); intro w4 hm4 hbt4)
                  have hD4 : DirS w4 b2 (dirK pa ps D J1) := by
                    refine ⟨_, hm4, fun k => ?_⟩
                    rw [H3.out.2.2.1]
                    by_cases h : k = p
                    · simp [h]
                    · simp only [if_neg h]
                      exact H3.out.2.1 k
                  obtain ⟨bs4, cl4, hb4⟩ := H3.out.1.block
                  have H4 := bx (And.intro (show BestS w4 b1 T1 from MapS.but (HJ.out.1.to H3.out.2.2.2.1) hbt4 hne) (And.intro hD4 (And.intro (show BC w w4 from hbt4.below _ _ HA.out.2.2.2.2 (show Below w.heap.size w w3 from H3.out.2.2.2.2).size H3.out.2.2.2.2) (And.intro (hbt4.blk (BC_blk1 H3.out.2.2.2.1 HJ.out.2.2.2.1) H8.out.2.2.2.2.2.2.2.2.2) ((HJ.out.2.2.2.2.1.to H3.out.2.2.2.1).butM hbt4 hb4)))))
                  clear hD4 hm4 hbt4 hb4 hlook k4 kp
                  go_wp2_with fail
                  go_roundw
                  case rel => exact ⟨J1, by have := HJJ.out; omega, rfl, H4.out.1, H4.out.2.1, H4.out.2.2.1, H4.out.2.2.2.1, H4.out.2.2.2.2⟩
                  case measure => have := HJJ.out; simp [intOf]; omega
                | false =>
                  have hdk2 : dirK pa ps D J1 = dirK pa ps D j := by rw [hdk, if_neg Bool.false_ne_true]
                  have H4 := bx (And.intro (show BestS w3 b1 T1 from HJ.out.1.to b3) (And.intro (show DirS w3 b2 (dirK pa ps D J1) by rw [hdk2]; exact HJ.out.2.1.to b3) (And.intro (BC_trans HJ.out.2.2.1 b3) (And.intro (BC_blk1 b3 HJ.out.2.2.2.1) (HJ.out.2.2.2.2.1.to b3)))))
                  clear hdk hdk2 hun b3 k4 kp
                  go_wp2_with fail
                  go_roundw
                  case rel => exact ⟨J1, by have := HJJ.out; omega, rfl, H4.out.1, H4.out.2.1, H4.out.2.2.1, H4.out.2.2.2.1, H4.out.2.2.2.2⟩
                  case measure => have := HJJ.out; simp [intOf]; omega
              · have hjn : j = m := by have := HJ.out.2.2.2.2.2; omega
                have hge : ¬ (j : Int) < (m : Int) := by omega
                have hsd2 : (topsK es I1).2 = dirK pa ps D j := by rw [HSB.out, hjn]; exact HP.out.2.2.2.2.2
                have hsb2 : (topsK es I1).1 = T1 := by rw [HSB.out]
                have hDb2 : ∀ k, 0 ≤ dirK pa ps D j k ∧ dirK pa ps D j k ≤ (I1 : Int) * 4000000 := fun k => by
                  have := dirK_bound pa ps D 0 ((i : Int) * 4000000) HR.out.2.2.1 j k
                  have := HP.out.2.2.1
                  have := HI.out.1
                  omega
                have HF := bx (And.intro hsd2 (And.intro hsb2 hDb2))
                clear hjn hsd2 hsb2 hDb2 hjm
                go_wp2_with fail
                go_roundw
                case rel => exact ⟨I1, by have := HI.out; omega, rfl, by rw [HF.out.2.1]; exact HJ.out.1, by rw [HF.out.1]; exact HJ.out.2.1, by rw [HF.out.1]; exact HF.out.2.2, HJ.out.2.2.1⟩
                case measure => have := HI.out; simp [intOf]; omega
      · have hkb : (kd == 1) = false := beq_eq_false_iff_ne.2 hk1
        have hsB : topsK es I1 = topsK es i := by
          rw [HI.out.1, topsK, HI.out.2.2.1]
          simp only
          rw [if_neg (by rw [← HI.out.2.2.2.2.1]; exact hk1)]
        have hDb2 : ∀ k, 0 ≤ D k ∧ D k ≤ (I1 : Int) * 4000000 := fun k => by have := HR.out.2.2.1 k; have := HI.out.1; omega
        have HX := bx (And.intro (HR.out.1.to H8.out.2.2.1) (And.intro (HR.out.2.1.to H8.out.2.2.1) (And.intro (BC_trans HR.out.2.2.2.1 H8.out.2.2.1) (And.intro hsB hDb2))))
        clear hsB hDb2
        go_wp2_with fail
        go_roundw
        case rel => exact ⟨I1, by have := HI.out; omega, rfl, by rw [HX.out.2.2.2.1, ← HR.out.2.2.2.2.2.1]; exact HX.out.1, by rw [HX.out.2.2.2.1, ← HR.out.2.2.2.2.2.2]; exact HX.out.2.1, by rw [HX.out.2.2.2.1, ← HR.out.2.2.2.2.2.2]; exact HX.out.2.2.2.2, HX.out.2.2.1⟩
        case measure => have := HI.out; simp [intOf]; omega
    · have hin : i = n := by have := HR.out.2.2.2.2.1; omega
      have hge : ¬ (i : Int) < (n : Int) := by omega
      have HF := bx hin
      clear hin hlt
      go_wp2_with fail
      go_ret2
      refine ⟨b1, b2, rfl, ?_, ?_, HR.out.2.2.2.1⟩
      · rw [topsF, HV.out.2.2.2.2.2.2.2, ← HF.out, ← HR.out.2.2.2.2.2.1]
        exact HR.out.1
      · rw [topsF, HV.out.2.2.2.2.2.2.2, ← HF.out, ← HR.out.2.2.2.2.2.2]
        exact HR.out.2.1
end Go.Proofs.YtagdlbadkmgdmaaDoor
