/- The walk of part.Split. -/
import Derived.Test.YtjnimbhecfpnmaaOwnS
import Derived.Test.YtjnimbhecfpnmaaChunk
import Derived.Test.YtjnimbhecfpnmaaMany
import Derived.Test.YtjnimbhecfpnmaaDecode
namespace Go.Proofs.Ytjnimbhecfpnmaa
set_option maxRecDepth 100000
open Go.ChangeShapes Go.WideShapes Go.ChangeAt Go.RowKit Go.Shelf

theorem calls_of_wp_marks {P : Program} {f : FuncId} {fn : Func} {c : Code} {args : Array Value} {w : World} {R : Ending → World → Prop}
    (hf : P.funcs[f]? = some fn) (hb : fn.body = some c)
    (h : c.wp P (bodyPostM Fence.wide 9 P fn R) { tmps := args ++ Array.replicate (fn.ntmps - args.size) undef, defers := [] } w) : Calls P f args w R :=
  callsIn_wide.1 (callsIn_of_wp_marks (F := Fence.wide) (n := 9) hf hb trivial (wpIn_wide.2 h) rfl)
/-- a piece, by its number -/
def pieceF (l : List Int) (size k : Nat) : List Int := (l.drop (k * size)).take size
theorem pieceF_len (l : List Int) (size k : Nat) : (pieceF l size k).length = min size (l.length - k * size) := by simp [pieceF]
/-- what pieces come to: how many bytes, and the parts' bytes -/
inductive Cut (l d : List Int) (size : Nat) : List Nat → Nat → List (List Int) → Prop
  | nil : Cut l d size [] 0 []
  | snoc {pre : List Nat} {A : Nat} {ls : List (List Int)} (x : Nat) : Cut l d size pre A ls → mayB l.length A (pieceF l size x).length = true → Cut l d size (pre ++ [x]) (A + (pieceF l size x).length) (ls ++ [encF d l.length A (pieceF l size x)])
theorem Cut.size {l d : List Int} {size : Nat} {pre : List Nat} {A : Nat} {ls : List (List Int)} (h : Cut l d size pre A ls) : A ≤ l.length ∧ ls.length = pre.length := by
  induction h with
  | nil => exact ⟨Nat.zero_le _, rfl⟩
  | snoc x _ hm ih =>
    have := mayB_in hm
    exact ⟨by omega, by simp [ih.2]⟩
/-- bytes in parts -/
def splitF (l : List Int) (size : Nat) : List (List Int) := (List.range (chunksN l.length size)).map fun k => encF (sumF l) l.length ((k * size : Nat) : Int) (pieceF l size k)
theorem may_piece {l : List Int} {size k : Nat} (hs : 0 < size) (hl : l.length ≤ 4194304) (hk : k < chunksN l.length size) : mayB l.length ((k * size : Nat) : Int) (pieceF l size k).length = true := by
  unfold chunksN at hk
  rw [Nat.lt_div_iff_mul_lt hs] at hk
  unfold mayB
  rw [decide_eq_true_eq, pieceF_len]
  omega
theorem Cut.range {l d : List Int} {size : Nat} (hs : 0 < size) : ∀ (k A : Nat) (ls : List (List Int)), k ≤ chunksN l.length size → Cut l d size (List.range k) A ls → A = min l.length (k * size) ∧ ls = (List.range k).map fun k => encF d l.length ((k * size : Nat) : Int) (pieceF l size k)
  | 0, A, ls, _, h => by
    generalize hp : List.range 0 = p at h
    cases h with
    | nil => simp
    | snoc x _ _ => simp at hp
  | k + 1, A, ls, hk, h => by
    generalize hp : List.range (k + 1) = p at h
    cases h with
    | nil => simp at hp
    | @snoc pre A ls x h hm =>
      rw [List.range_succ] at hp
      obtain ⟨h1, h2⟩ := List.append_inj' hp rfl
      injection h2 with h2 _
      subst h1
      subst h2
      obtain ⟨e1, e2⟩ := Cut.range hs k A ls (by omega) h
      have hkn : k * size < l.length := by
        have h3 : k < chunksN l.length size := by omega
        unfold chunksN at h3
        rw [Nat.lt_div_iff_mul_lt hs] at h3
        omega
      have eA : A = k * size := by omega
      refine ⟨?_, ?_⟩
      · rw [pieceF_len, Nat.add_mul, Nat.one_mul]; omega
      · rw [List.map_append, e2, eA]
        rfl
attribute [local go_sem] takes comesTo Oper.semAt_some
attribute [local irreducible] SlV Lies
theorem results_cells2 {P : Program} {fn : Func} {p q : Tmp} {ty u : TypeId} (h : fn.results = #[.cell p ty, .cell q u]) (tmps : Array Value) (w : World) (g k : Nat) (x y : Value)
    (hp : tmps.getD p undef = .pointer (some ⟨g, 0, none⟩)) (hq : tmps.getD q undef = .pointer (some ⟨k, 0, none⟩))
    (hu : ∀ w a v, w.cell? a = some v → v.oneCell' = true → (loadVar ty a).run P w = .ok v w) (hu' : ∀ w a v, w.cell? a = some v → v.oneCell' = true → (loadVar u a).run P w = .ok v w)
    (hx : w.cell? ⟨g, 0, none⟩ = some x) (hy : w.cell? ⟨k, 0, none⟩ = some y) (h1 : x.oneCell' = true) (h2 : y.oneCell' = true) : (results fn tmps).run P w = .ok (.tuple #[x, y]) w := by
  have e1 := hu w _ x hx h1
  have e2 := hu' w _ y hy h2
  have hp' : tmps[p]?.getD undef = .pointer (some ⟨g, 0, none⟩) := by simpa using hp
  have hq' : tmps[q]?.getD undef = .pointer (some ⟨k, 0, none⟩) := by simpa using hq
  simp [results, h, hp', hq', asAddr, e1, e2]
theorem load_one {P : Program} {ty : TypeId} {d : TypeDesc} (hu : P.underlying ty = some d) (hd : d.isRow = false) (w : World) (a : Addr) (v : Value) (hc : w.cell? a = some v) (_ : v.oneCell' = true) : (loadVar ty a).run P w = .ok v w := by
  have e : (isAgg ty).run P w = .ok false w := by
    unfold isAgg
    rw [Sem.run_bind, run_underlying hu w]
    cases d <;> first | rfl | cases hd
  unfold loadVar
  rw [Sem.run_bind, e]
  simp [go_sem, hc]
theorem three_new (w : World) (A : Obj) (x y : Value) (t u : TypeId) : ∃ W, W = ((w.alloc A).alloc (.cells #[x] t)).alloc (.cells #[y] u) ∧ W.cell? ⟨w.heap.size + 1, 0, none⟩ = some x ∧ W.cell? ⟨w.heap.size + 1 + 1, 0, none⟩ = some y ∧ Below w.heap.size w W := by
  have h1 : (w.alloc A).heap.size = w.heap.size + 1 := size_new _ _
  have h2 : ((w.alloc A).alloc (.cells #[x] t)).heap.size = w.heap.size + 1 + 1 := by rw [size_new, h1]
  refine ⟨_, rfl, ?_, ?_, below3 w _ _ _⟩
  · refine later (below1 _ _) ?_
    rw [← h1]
    exact (cell_new _ _ _ _).trans rfl
  · rw [← h2]
    exact (cell_new _ _ _ _).trans rfl
theorem split_arg (b o : Nat) (v : Value) (l : List Int) (most : Int) (hm : most < 4096 ∨ l = []) (hv : SlV v b o l.length) (w : World) :
    Calls Try.prog 22 #[v, .int .i64 most] w fun e w' => e = .returned (.tuple #[.slice none 0 0, .int .i64 1]) ∧ Below w.heap.size w w' := by
  obtain ⟨a, cap, rfl, _⟩ := by unfold SlV at hv; exact hv
  clear hv
  obtain ⟨W, hW, c1, c2, c3⟩ := three_new w (.cells #[.slice a l.length cap] 24) (.slice none 0 0) (.int .i64 1) 42 28
  have HC := Lib.hid (And.intro hW (And.intro c1 (And.intro c2 c3)))
  clear hW c1 c2 c3
  by_cases h1 : most < 4096
  · refine calls_of_wp_marks Try.func22 rfl ?_
    simp only [Try.ntmps22, List.size_toArray, List.length_cons, List.length_nil, Nat.reduceAdd, Nat.reduceSub, Array.replicate_succ, Array.replicate_zero, List.push_toArray, List.append_toArray, List.nil_append, List.cons_append]
    go_wp2_with fail
    rw [← HC.out.1]
    exact ⟨_, results_cells2 (p := 4) (q := 5) (by kernel_rfl) _ _ _ _ (.slice none 0 0) (.int .i64 1) rfl rfl (load_one Try.underlying42 rfl) (load_one Try.underlying28 rfl) HC.out.2.1 HC.out.2.2.1 rfl rfl, rfl, HC.out.2.2.2⟩
  · have h2 : l = [] := hm.resolve_left h1
    have h3 : l.length = 0 := by rw [h2]; rfl
    rw [h3]
    rw [h3] at HC
    refine calls_of_wp_marks Try.func22 rfl ?_
    simp only [Try.ntmps22, List.size_toArray, List.length_cons, List.length_nil, Nat.reduceAdd, Nat.reduceSub, Array.replicate_succ, Array.replicate_zero, List.push_toArray, List.append_toArray, List.nil_append, List.cons_append]
    go_wp2_with fail
    rw [← HC.out.1]
    exact ⟨_, results_cells2 (p := 4) (q := 5) (by kernel_rfl) _ _ _ _ (.slice none 0 0) (.int .i64 1) rfl rfl (load_one Try.underlying42 rfl) (load_one Try.underlying28 rfl) HC.out.2.1 HC.out.2.2.1 rfl rfl, rfl, HC.out.2.2.2⟩
/-- how many bytes a part has, at most -/
def szP (most : Int) (n : Nat) : Nat := (min (inF most) (n : Int)).toNat
theorem quiet_left {P : Program} {f : FuncId} {args : Array Value} {w : World} {n : Nat} {v : Value}
    (h : Calls P f args (w.drewN n) fun e w' => e = .returned v ∧ w.drewN n = w') : Calls P f args (w.drewN n) fun e w'' => e = .returned v ∧ ∃ m, w'' = w.drewN m :=
  h.mono fun _ _ ⟨he, hm⟩ => ⟨he, n, hm.symm⟩
theorem keeps_of_below {W W' : World} (h : Below W.heap.size W W') : KeepsOthers W W' := ⟨h.size, fun k _ hk _ => (h.block k (blk_lt hk)).trans hk⟩
theorem keeps_cells {W W' : World} {row : Option Nat} (hg : W.grownBy W' row) (hr : ∀ r, row = some r → ∃ o : Obj, W.heap[r]? = some o ∧ o.isCells = false) {k : Nat} {cs : Array Value} {t : TypeId} {fr : Nat × Nat}
    (h : W.heap[k]? = some (.cells cs t fr)) : W'.heap[k]? = some (.cells cs t fr) := (grownBy_keeps_cells hg hr h rfl).trans h
theorem cell_putObj {W : World} {l : Nat} (o : Obj) {a : Addr} (h : a.block ≠ l) : (W.putObj l o).cell? a = W.cell? a := World.cell?_of_block (World.putObj_heap_other h)
theorem chunkK_b {WL : World} {n₀ Bs Bn : Nat} (hn : n₀ ≤ WL.heap.size) (h1 : Bs < WL.heap.size) (h2 : Bn < WL.heap.size) (W : World) (l : Nat) (o o' : Obj) (hl : WL.heap.size ≤ l) (h : W.heap[l]? = some o) (hc : o.isCells = false) (hk : o.isWalk = false) : ChunkK n₀ Bs Bn W (W.putObj l o') :=
  ⟨belowK_b hn W l o o' hl h hc hk, cell_putObj _ (by simp; omega), cell_putObj _ (by simp; omega)⟩
theorem chunkK_t {n₀ Bs Bn : Nat} {A B C : World} (h : ChunkK n₀ Bs Bn A B) (k : ChunkK n₀ Bs Bn B C) : ChunkK n₀ Bs Bn A C := ⟨h.1.trans k.1, k.2.1.trans h.2.1, k.2.2.trans h.2.2⟩
theorem chunk_stops (m : Nat) (hm : 1 ≤ m) (Bs Bn n₀ b o n cap size : Nat) (hs : 0 < size) (hn : n ≤ 1000000) (hsz : size ≤ 100000000) (hc : n ≤ cap) (w0 : World) (hBs : w0.cell? ⟨Bs, 0, none⟩ = some (.slice (some ⟨b, o, none⟩) n cap)) (hBn : w0.cell? ⟨Bn, 0, none⟩ = some (.int .i64 (size : Int))) :
    SeqStopsK Fence.wide m Try.prog 73 #[.pointer (some ⟨Bs, 0, none⟩), .pointer (some ⟨Bn, 0, none⟩)] (fun k : Nat => #[chunkV b o n size k]) (ChunkK n₀ Bs Bn) (fun ys => ys = List.range (chunksN n size)) (fun pre => ∃ k, k ≤ chunksN n size ∧ pre = List.range k) (chunksN n size) w0 := fun l J Jx W hW hJ _ hY h0 =>
  chunk1_in m hm l Bs Bn n₀ b o n cap size hs hn hsz hc J Jx hY (fun pre W k h => hJ pre W (W.drewN k) none h ⟨rfl, rfl, rfl, Nat.le_refl _, fun _ _ _ => rfl⟩ (fun r e => by cases e)) W (later hW hBs) (later hW hBn) h0
/-- what holds between two parts -/
structure SpI (w : World) (base B2 B4 B5 B6 B7 B9 : Nat) (l d : List Int) (size : Nat) (c2 : Value) (pre : List Nat) (W : World) : Prop where
  k2 : W.heap[B2]? = some (.cells #[c2] 24 (0, 0))
  k4 : W.heap[B4]? = some (.cells #[.slice none 0 0] 42 (0, 0))
  k5 : W.heap[B5]? = some (.cells #[.int .i64 0] 28 (0, 0))
  k7 : W.heap[B7]? = some (.cells (row .u8 d) 23 (0, 0))
  bel : Below w.heap.size w W
  big : base ≤ W.heap.size
  ex : ∃ A ls v, Cut l d size pre A ls ∧ W.heap[B6]? = some (.cells #[v] 42 (0, 0)) ∧ W.heap[B9]? = some (.cells #[.int .i64 (A : Int)] 3 (0, 0)) ∧ OwnS base W v ls
theorem SpI.own {w WL : World} {base B2 B4 B5 B6 B7 B9 : Nat} {l d : List Int} {size : Nat} {c2 : Value} (h1 : w.heap.size ≤ WL.heap.size) : OwnFrom WL.heap.size (SpI w base B2 B4 B5 B6 B7 B9 l d size c2) := by
  intro s W W' r hs hg hr
  have hr' : ∀ x, r = some x → ∃ o : Obj, W.heap[x]? = some o ∧ o.isCells = false := fun x e => (hr x e).2
  obtain ⟨A, ls, v, e1, e2, e3, e4⟩ := hs.ex
  exact ⟨keeps_cells hg hr' hs.k2, keeps_cells hg hr' hs.k4, keeps_cells hg hr' hs.k5, keeps_cells hg hr' hs.k7, hs.bel.grown hg hs.bel.size (fun k e => Nat.le_trans h1 (hr k e).1), Nat.le_trans hs.big hg.size,
    A, ls, v, e1, keeps_cells hg hr' e2, keeps_cells hg hr' e3, e4.keep fun k cs t _ hk => keeps_cells hg hr' hk⟩
theorem blk_set {w : World} {g : Nat} {t : TypeId} {cs : Array Value} {fr : Nat × Nat} (h : w.heap[g]? = some (.cells cs t fr)) (i : Nat) (u : Value) : (w.setCell ⟨g, i, none⟩ u).heap[g]? = some (.cells (cs.setIfInBounds i u) t fr) := by
  simp [World.setCell, Array.getElem?_modify, h]
/-- every block below base but two is as it was -/
def KeptB (base B6 B9 : Nat) (W W' : World) : Prop := W.heap.size ≤ W'.heap.size ∧ ∀ k, k < base → k ≠ B6 → k ≠ B9 → W'.heap[k]? = W.heap[k]?
theorem KeptB.trans {base B6 B9 : Nat} {A B C : World} (h : KeptB base B6 B9 A B) (k : KeptB base B6 B9 B C) : KeptB base B6 B9 A C := ⟨Nat.le_trans h.1 k.1, fun i h1 h2 h3 => (k.2 i h1 h2 h3).trans (h.2 i h1 h2 h3)⟩
theorem KeptB.below {base B6 B9 : Nat} {W W' : World} (hb : base ≤ W.heap.size) (h : Below W.heap.size W W') : KeptB base B6 B9 W W' := ⟨h.size, fun k hk _ _ => h.block k (Nat.lt_of_lt_of_le hk hb)⟩
theorem KeptB.grown {base B6 B9 : Nat} {W W' : World} {v : Value} (hb : base ≤ W.heap.size) (h : W.grownBy W' v.ownBlock) (ho : ∀ k, v.ownBlock = some k → base ≤ k) : KeptB base B6 B9 W W' :=
  ⟨h.size, fun k hk _ _ => h.block k (Nat.lt_of_lt_of_le hk hb) (fun e => by have := ho k e.symm; omega)⟩
theorem KeptB.set {base B6 B9 : Nat} (W : World) {a : Addr} (h : a.block = B6 ∨ a.block = B9) (u : Value) : KeptB base B6 B9 W (W.setCell a u) :=
  ⟨by simp [World.setCell], fun k _ h6 h9 => heap_setCell_other W a k u (by rcases h with h | h <;> omega)⟩
theorem OwnS.cellsBlk {base : Nat} {w : World} {v : Value} {ls : List (List Int)} (h : OwnS base w v ls) (j : Nat) (o : Obj) (hj : v.ownBlock = some j) (ho : w.heap[j]? = some o) : o.isCells = true := by
  obtain ⟨vs, ⟨h1, h2⟩, _⟩ := h
  rcases h2 with ⟨rfl, _⟩ | ⟨g, cap, cur, rfl, _, hg, _⟩
  · cases hj
  · simp [Value.ownBlock] at hj
    subst hj
    rw [hg] at ho
    injection ho with ho
    subst ho
    rfl
theorem blk_ne {w : World} {g g' : Nat} {t t' : TypeId} {cs cs' : Array Value} {fr fr' : Nat × Nat} (h : w.heap[g]? = some (.cells cs t fr)) (h' : w.heap[g']? = some (.cells cs' t' fr')) (hne : t ≠ t') : g ≠ g' := by
  rintro rfl
  rw [h] at h'
  injection h' with h'
  injection h' with _ ht
  exact hne ht
theorem Own.isSlice {base : Nat} {w : World} {v : Value} {l : List Int} (h : Own base w v l) : ∃ a n c, v = .slice a n c := by
  obtain ⟨_, ⟨rfl, _⟩ | ⟨_, _, _, rfl, _⟩⟩ := h <;> exact ⟨_, _, _, rfl⟩
theorem OwnS.isSlice {base : Nat} {w : World} {v : Value} {ls : List (List Int)} (h : OwnS base w v ls) : ∃ a n c, v = .slice a n c := by
  obtain ⟨_, ⟨_, ⟨rfl, _⟩ | ⟨_, _, _, rfl, _⟩⟩, _⟩ := h <;> exact ⟨_, _, _, rfl⟩
theorem setCell_size (W : World) (a : Addr) (u : Value) : (W.setCell a u).heap.size = W.heap.size := by simp [World.setCell]
theorem grew_two {W W1 w3 : World} {o : Obj} {base B6 B9 : Nat} {v : Value} {ls : List (List Int)} {cs9 : Array Value} {t9 : TypeId} (hbig : base ≤ W.heap.size) (hne : B6 ≠ B9) (h6 : B6 < base) (h9 : B9 < base) (b1 : Below W.heap.size W W1)
    (g6 : W1.heap[B6]? = some (.cells #[v] 42 (0, 0))) (g9 : W1.heap[B9]? = some (.cells cs9 t9 (0, 0))) (own : OwnS base (W1.alloc o) v ls) (grown : (W1.alloc o).grownBy w3 v.ownBlock) (u : Value) :
    KeptB base B6 B9 W w3 ∧ KeepsOthers W w3 ∧ Below base W w3 ∧ w3.heap[B6]? = some (.cells #[v] 42 (0, 0)) ∧ (w3.setCell ⟨B6, 0, none⟩ u).heap[B9]? = some (.cells cs9 t9 (0, 0)) := by
  have b2 : Below W1.heap.size W1 (W1.alloc o) := below1 _ _
  have hb2 : base ≤ (W1.alloc o).heap.size := Nat.le_trans hbig (Nat.le_trans b1.size b2.size)
  have hk : ∀ k c t, k < base → W1.heap[k]? = some (.cells c t (0, 0)) → w3.heap[k]? = some (.cells c t (0, 0)) := fun k c t hk hc => by
    refine (grown.block k (by omega) (fun e => ?_)).trans (blk_old hc o)
    have := own.own_block k e.symm
    omega
  refine ⟨((KeptB.below hbig b1).trans (.below (Nat.le_trans hbig b1.size) b2)).trans (.grown hb2 grown own.own_block), ((keeps_of_below b1).trans (.alloc _ _)).trans (.of_grownBy grown own.cellsBlk), ?_, hk B6 _ _ h6 g6, blk_far (hk B9 _ _ h9 g9) (by simpa using hne.symm) _⟩
  exact ((b1.mono hbig).alloc (Nat.le_trans hbig b1.size) o).grown grown hb2 own.own_block
theorem round_end {w W w3 : World} {base B2 B4 B5 B6 B7 B9 Bs Bn : Nat} {l d : List Int} {size x A2 : Nat} {c2 v v3 a9 a9' : Value} {pre : List Nat} {ls : List (List Int)} (hI : SpI w base B2 B4 B5 B6 B7 B9 l d size c2 pre W)
    (hcut : Cut l d size (pre ++ [x]) A2 ls) (K : KeptB base B6 B9 W w3) (KO : KeepsOthers W w3) (hB : Below base W w3) (g6 : w3.heap[B6]? = some (.cells #[v] 42 (0, 0))) (g9 : (w3.setCell ⟨B6, 0, none⟩ v3).heap[B9]? = some (.cells #[a9] 3 (0, 0)))
    (own : OwnS base w3 v3 ls) (ha : a9' = .int .i64 (A2 : Int)) (n6 : w.heap.size ≤ B6 ∧ B6 < base) (n9 : w.heap.size ≤ B9 ∧ B9 < base) (hne : B6 ≠ B9)
    (m2 : B2 < base ∧ B2 ≠ B6 ∧ B2 ≠ B9) (m4 : B4 < base ∧ B4 ≠ B6 ∧ B4 ≠ B9) (m5 : B5 < base ∧ B5 ≠ B6 ∧ B5 ≠ B9) (m7 : B7 < base ∧ B7 ≠ B6 ∧ B7 ≠ B9) (ms : Bs < base ∧ Bs ≠ B6 ∧ Bs ≠ B9) (mn : Bn < base ∧ Bn ≠ B6 ∧ Bn ≠ B9) :
    KeepsOthers W ((w3.setCell ⟨B6, 0, none⟩ v3).setCell ⟨B9, 0, none⟩ a9') ∧ ChunkK w.heap.size Bs Bn W ((w3.setCell ⟨B6, 0, none⟩ v3).setCell ⟨B9, 0, none⟩ a9') ∧
      SpI w base B2 B4 B5 B6 B7 B9 l d size c2 (pre ++ [x]) ((w3.setCell ⟨B6, 0, none⟩ v3).setCell ⟨B9, 0, none⟩ a9') := by
  subst ha
  have K5 : KeptB base B6 B9 W ((w3.setCell ⟨B6, 0, none⟩ v3).setCell ⟨B9, 0, none⟩ (.int .i64 (A2 : Int))) := (K.trans (.set _ (.inl rfl) _)).trans (.set _ (.inr rfl) _)
  have hw : w.heap.size ≤ base := by omega
  have hbl : Below w.heap.size W ((w3.setCell ⟨B6, 0, none⟩ v3).setCell ⟨B9, 0, none⟩ (.int .i64 (A2 : Int))) := ((hB.mono hw).setCell (p := ⟨B6, 0, none⟩) n6.1 _).setCell (p := ⟨B9, 0, none⟩) n9.1 _
  refine ⟨(KO.trans (.setCell _ _ _)).trans (.setCell _ _ _), ⟨hbl, World.cell?_of_block (K5.2 Bs ms.1 ms.2.1 ms.2.2), World.cell?_of_block (K5.2 Bn mn.1 mn.2.1 mn.2.2)⟩, ?_⟩
  refine ⟨(K5.2 _ m2.1 m2.2.1 m2.2.2).trans hI.k2, (K5.2 _ m4.1 m4.2.1 m4.2.2).trans hI.k4, (K5.2 _ m5.1 m5.2.1 m5.2.2).trans hI.k5, (K5.2 _ m7.1 m7.2.1 m7.2.2).trans hI.k7, hI.bel.trans hbl, Nat.le_trans hI.big K5.1, A2, ls, v3, hcut, ?_, ?_, ?_⟩
  · exact blk_far (blk_set g6 0 v3) (by simpa using hne) _
  · exact blk_set g9 0 _
  · exact own.keep fun k cs t hk hc => blk_far (blk_far hc (by simp; omega) _) (by simp; omega) _
set_option linter.unusedSimpArgs false in
set_option maxHeartbeats 1000000 in
theorem split_main (b o : Nat) (v : Value) (l : List Int) (most : Int) (hm : 4096 ≤ most) (hl0 : 0 < l.length) (hN : l.length ≤ 400000) (hlb : Bytes l) (hv : SlV v b o l.length) (w : World) (hl : Lies w b o l) :
    Calls Try.prog 22 #[v, .int .i64 most] w fun e w' => ∃ v', e = .returned (.tuple #[v', .int .i64 0]) ∧ OwnS w.heap.size w' v' (splitF l (szP most l.length)) ∧ Below w.heap.size w w' := by
  have ha := zero_dig
  have HV := Lib.hid hv
  obtain ⟨a, cap, rfl, hcap, hmax, hp, _⟩ := by unfold SlV at hv; exact hv
  obtain rfl := hp hl0
  obtain ⟨k, hk⟩ : ∃ k, k = min most 8388608 := ⟨_, rfl⟩
  have hk1 : 4096 ≤ k := by omega
  have hk2 : k ≤ 8388608 := by omega
  obtain ⟨size, hsz⟩ : ∃ s, s = szP most l.length := ⟨_, rfl⟩
  have hsz2 : (size : Int) = min (k - 80) (l.length : Int) := by rw [hsz, hk]; unfold szP inF; omega
  have hcv := conv_back k hk1 hk2
  have HRO := Lib.hid (room_any k hk1 hk2)
  have hd := sumF_len l
  have hsum := sum_any l hlb (by omega) b o (.slice (some ⟨b, o, none⟩) l.length cap) HV.out
  rw [← hsz]
  obtain ⟨n, hn⟩ : ∃ n, n = l.length := ⟨_, rfl⟩
  rw [← hn] at hsum
  have HL := Lib.hid (And.intro hlb (And.intro hl (And.intro hn (And.intro hN (And.intro hcap (And.intro hmax (And.intro hd (And.intro hsz hsum))))))))
  have hmin1 : (if (8388608 : Int) < most then 8388608 else most) = k := by split <;> omega
  have hmin2 : (if (n : Int) < k - 80 then (n : Int) else k - 80) = (size : Int) := by rw [hn]; split <;> omega
  have hsz0 : (1 : Int) ≤ (size : Int) := by omega
  have hn0 : (0 : Int) < (n : Int) := by omega
  have hn1 : ¬ (n : Int) = 0 := by omega
  have hn3 : ¬ n = 0 := by omega
  have hn2 : (n : Int) ≤ 4194304 := by omega
  have hm2 : ¬ most < 4096 := by omega
  rw [← hn] at hv ⊢
  have HS2 : Hid (size ≤ 8388608) := Lib.hid (by omega)
  clear hlb hl hN hcap hmax hd hsum hsz hsz2 hk hk1 hk2 hn hl0 hm hp
  refine calls_of_wp_marks Try.func22 rfl ?_
  simp only [Try.ntmps22, List.size_toArray, List.length_cons, List.length_nil, Nat.reduceAdd, Nat.reduceSub, Array.replicate_succ, Array.replicate_zero, List.push_toArray, List.append_toArray, List.nil_append, List.cons_append]
  go_wp2_with fail
  obtain ⟨W0, hW0⟩ : ∃ W0, W0 = ((((w.alloc (.cells #[.slice (some ⟨b, o, none⟩) n cap] 24)).alloc (.cells #[.slice none 0 0] 42)).alloc (.cells #[.int .i64 0] 28)).alloc (.cells #[.slice none 0 0] 42)) := ⟨_, rfl⟩
  have hq4 := blk4 w (.cells #[.slice (some ⟨b, o, none⟩) n cap] 24) (.cells #[.slice none 0 0] 42) (.cells #[.int .i64 0] 28) (.cells #[.slice none 0 0] 42)
  have hb4 := below4 w (.cells #[.slice (some ⟨b, o, none⟩) n cap] 24) (.cells #[.slice none 0 0] 42) (.cells #[.int .i64 0] 28) (.cells #[.slice none 0 0] 42)
  rw [← hW0] at hq4 hb4 ⊢
  clear hW0
  have H0 := Lib.hid (And.intro hq4 hb4)
  clear hq4 hb4
  with_reducible refine (HL.out.2.2.2.2.2.2.2.2 W0 (HL.out.2.1.below' H0.out.2)).mono ?_
  rintro e w5 ⟨rfl, b5⟩
  have H5 := Lib.hid (And.intro (BC_blk1 b5 H0.out.1.1) (And.intro (BC_blk1 b5 H0.out.1.2.1) (And.intro (BC_blk1 b5 H0.out.1.2.2.1) (And.intro (BC_blk1 b5 H0.out.1.2.2.2) (BC_below H0.out.2 H0.out.2.size b5)))))
  clear b5 H0
  have hds := HL.out.2.2.2.2.2.2.1
  have hdb : Bytes (sumF l) := sumF_bytes l
  obtain ⟨d, hd⟩ : ∃ d, d = sumF l := ⟨_, rfl⟩
  rw [← hd] at hds hdb ⊢
  have HSZ : Hid ((row .u8 d).size = 32) := Lib.hid (by rw [row_size, hds])
  have HONE : Hid ((row .u8 d).all (·.oneCell') = true) := Lib.hid (row_one _ _)
  have HD := Lib.hid (And.intro hds (And.intro hdb hd))
  clear hds hdb hd
  have c2 : w5.cell? ⟨w.heap.size, 0, none⟩ = some (.slice (some ⟨b, o, none⟩) n cap) := cell_row H5.out.1 0 rfl
  go_wp2_with (refine wpList_store_rowTo rfl 23 _ _ rfl rfl _ (row .u8 d) rfl rfl 23 zb32 (heap_alloc_new w5 _) (by rw [HSZ.out]; kernel_rfl) (by rw [HSZ.out]; kernel_rfl) HONE.out ?_; rw [World.setRow_alloc_new])
  have b6 := below1 w5 (.cells (row .u8 d) 23)
  have k7 := heap_alloc_new w5 (.cells (row .u8 d) 23)
  generalize w5.alloc (.cells (row .u8 d) 23) = w6 at *
  obtain ⟨B7, hB7⟩ : ∃ B, B = w5.heap.size := ⟨_, rfl⟩
  have H6 := Lib.hid (And.intro (BC_blk1 b6 H5.out.1) (And.intro (BC_blk1 b6 H5.out.2.1) (And.intro (BC_blk1 b6 H5.out.2.2.1) (And.intro (BC_blk1 b6 H5.out.2.2.2.1) (And.intro (BC_below H5.out.2.2.2.2 H5.out.2.2.2.2.size b6) (hB7 ▸ k7))))))
  rw [← hB7]
  clear c2 b6 k7 hB7
  have c2 : w6.cell? ⟨w.heap.size, 0, none⟩ = some (.slice (some ⟨b, o, none⟩) n cap) := cell_row H6.out.1 0 rfl
  clear H5
  go_quiet ((go_at_call 51; exact quiet_left (HRO.out _)))
  have Q7 : BC w6 (w6.drewN nq) := below_drewN w6 nq
  generalize w6.drewN nq = w7 at *
  have c27 : w7.cell? ⟨w.heap.size, 0, none⟩ = some (.slice (some ⟨b, o, none⟩) n cap) := (Q7.cell (block_lt_of_cell c2)).trans c2
  have k9 := heap_alloc_new w7 (.cells #[.int .i64 0] 3)
  have b8 := below1 w7 (.cells #[.int .i64 0] 3)
  have c28 : (w7.alloc (.cells #[.int .i64 0] 3)).cell? ⟨w.heap.size, 0, none⟩ = some (.slice (some ⟨b, o, none⟩) n cap) := later b8 c27
  have H7 := Lib.hid (And.intro (BC_trans Q7 b8) (And.intro k9 Q7.size))
  clear Q7 c2 b8 k9 hcv hmin1 hmin2 HSZ HONE
  go_wp2_with fail
  obtain ⟨w8, hw8⟩ : ∃ W, W = w7.alloc (.cells #[.int .i64 0] 3) := ⟨_, rfl⟩
  obtain ⟨B9, hB9⟩ : ∃ B, B = w7.heap.size := ⟨_, rfl⟩
  have e8 : w7.heap.size + 1 = w8.heap.size := by rw [hw8]; exact (size_new _ _).symm
  have H8 : BC w6 w8 ∧ w8.heap[B9]? = some (.cells #[.int .i64 0] 3 (0, 0)) ∧ w6.heap.size ≤ B9 := by rw [hw8, hB9]; exact H7.out
  rw [← hw8, ← hB9]
  clear hw8 hB9 e8 c27 c28 H7
  have H9 := Lib.hid H8
  clear H8
  refine (chunk_any _ rfl (size : Int) hsz0 w8).mono ?_
  rintro e w9 ⟨rfl, rfl⟩
  have z1 := blk2 w8 (.cells #[.slice (some ⟨b, o, none⟩) n cap] 24) (.cells #[.int .i64 (size : Int)] 3)
  have z2 := below2 w8 (.cells #[.slice (some ⟨b, o, none⟩) n cap] 24) (.cells #[.int .i64 (size : Int)] 3)
  have z3 : ((w8.alloc (.cells #[.slice (some ⟨b, o, none⟩) n cap] 24)).alloc (.cells #[.int .i64 (size : Int)] 3)).heap.size = w8.heap.size + 2 := by rw [size_new, size_new]
  generalize (w8.alloc (.cells #[.slice (some ⟨b, o, none⟩) n cap] 24)).alloc (.cells #[.int .i64 (size : Int)] 3) = WL at *
  have HL2 := Lib.hid (And.intro z1.1 (And.intro z1.2 (And.intro (BC_trans H9.out.1 z2) (And.intro z3 (BC_blk1 z2 H9.out.2.1)))))
  clear z1 z2 z3
  go_wp2_with fail
  have hh6 : ∀ g o, w6.heap[g]? = some o → WL.heap[g]? = some o := fun g o h => BC_blk1 HL2.out.2.2.1 h
  have HG := Lib.hid (And.intro (BC_below H6.out.2.2.2.2.1 H6.out.2.2.2.2.1.size HL2.out.2.2.1) (And.intro (hh6 _ _ H6.out.1) (And.intro (hh6 _ _ H6.out.2.1) (And.intro (hh6 _ _ H6.out.2.2.1) (And.intro (hh6 _ _ H6.out.2.2.2.1) (hh6 _ _ H6.out.2.2.2.2.2))))))
  clear hh6
  have HN := Lib.hid (And.intro (blk_lt H6.out.2.2.2.1) (And.intro H9.out.2.2 (And.intro (blk_lt H9.out.2.1) (And.intro (blk_lt H6.out.2.2.2.2.2) (And.intro (blk_ne H6.out.2.2.2.2.2 H6.out.2.2.2.1 (by decide)) HL2.out.2.2.2.1)))))
  refine (wpIn_wide (n := 9)).1 ?_
  refine wpIn_rangeFunc_ownF rfl (by decide) (gf := 73) (lb := #[.pointer (some ⟨w8.heap.size, 0, none⟩), .pointer (some ⟨w8.heap.size + 1, 0, none⟩)]) rfl trivial (enters_of Try.func73 (by kernel_rfl) rfl)
    (chunk_stops 8 (by decide) w8.heap.size (w8.heap.size + 1) w.heap.size b o n cap size (by omega) (by have := HL.out; omega) (by have := HS2.out; omega) (by have := HL.out; omega) WL (cell_row HL2.out.1 0 rfl) (cell_row HL2.out.2.1 0 rfl))
    chunkK_t (chunkK_b HG.out.1.size (by have := HL2.out.2.2.2.1; omega) (by have := HL2.out.2.2.2.1; omega)) (Below.refl _ _) (fun _ => rfl)
    (SpI w WL.heap.size w.heap.size (w.heap.size + 1) (w.heap.size + 1 + 1) (w.heap.size + 1 + 1 + 1) B7 B9 l d size (.slice (some ⟨b, o, none⟩) n cap))
    (fun _ pre _ => ∃ pre' x A ls, pre = pre' ++ [x] ∧ Cut l d size pre' A ls ∧ mayB l.length A (pieceF l size x).length = false)
    (SpI.own HG.out.1.size) (fun _ _ _ _ _ hs _ _ => hs)
    ⟨HG.out.2.1, HG.out.2.2.1, HG.out.2.2.2.1, HG.out.2.2.2.2.2, HG.out.1, Nat.le_refl _, 0, [], _, .nil, HG.out.2.2.2.2.1, HL2.out.2.2.2.2, OwnS.nil _ _⟩
    (fun x => { tmps := #[.slice (some ⟨b, o, none⟩) n cap, .int .i64 most, .pointer (some ⟨w.heap.size, 0, none⟩), undef, .pointer (some ⟨w.heap.size + 1, 0, none⟩), .pointer (some ⟨w.heap.size + 1 + 1, 0, none⟩), .pointer (some ⟨w.heap.size + 1 + 1 + 1, 0, none⟩), .pointer (some ⟨B7, 0, none⟩), .int .i64 (size : Int), .pointer (some ⟨B9, 0, none⟩), chunkV b o n size x, undef, undef, .bool false, .int .i64 most, .bool false, .bool false, .slice (some ⟨b, o, none⟩) n cap, .int .i64 (n : Int), .bool false, .bool false, .bool (decide ((4194304 : Int) < (n : Int))), .slice (some ⟨b, o, none⟩) n cap, .int .i64 (n : Int), .bool (decide ((4194304 : Int) < (n : Int))), .slice (some ⟨b, o, none⟩) n cap, .agg (row .u8 d), .int .i64 most, .int .i64 k, .complex .f64 (floatOfInt .f64 (k - 80)) 4635329916471083008, .float .f64 (floatOfInt .f64 (k - 80)), .int .i64 (k - 80), .slice (some ⟨b, o, none⟩) n cap, .int .i64 (n : Int), .int .i64 (size : Int), .slice (some ⟨b, o, none⟩) n cap, .int .i64 (size : Int), .func (.func 73) #[] #[.pointer (some ⟨w8.heap.size, 0, none⟩), .pointer (some ⟨w8.heap.size + 1, 0, none⟩)], chunkV b o n size x, undef, undef, undef, undef, undef, undef, undef, undef, undef, undef, undef, undef, undef, undef, undef, undef, undef, undef, undef, undef, undef, undef], defers := [] }) ?assign ?body ?done ?stop
  case assign =>
    intro lr x W K hK
    gi_wp2
    exact hK
  case body =>
    rintro lr pre x W hI hlen
    obtain ⟨A, ls, v, hcut, k6, k9, hown⟩ := hI.ex
    obtain ⟨e, he⟩ : ∃ e, e = (pieceF l size x).length := ⟨_, rfl⟩
    have he2 : e = min size (n - x * size) := by rw [he, pieceF_len, ← HL.out.2.2.1]
    have hcv : chunkV b o n size x = .slice (some ⟨b, o + x * size, none⟩) e e := by unfold chunkV; rw [← he2]
    have hpl : ∀ W', BC W W' → Lies W' b (o + x * size) (pieceF l size x) := fun W' hW => lies_take (lies_drop ((HL.out.2.1.below' hI.bel).below' hW) (x * size)) size
    have hpb : Bytes (pieceF l size x) := bytes_take (bytes_drop HL.out.1 _) _
    have hps : SlV (.slice (some ⟨b, o + x * size, none⟩) e e) b (o + x * size) (pieceF l size x).length := by rw [← he]; exact slv_at b _ e e (Nat.le_refl _) (by have := HL.out; omega)
    obtain ⟨PC, hPC⟩ : ∃ PC, PC = (pcells d (n : Int) (A : Int) (.slice (some ⟨b, o + x * size, none⟩) e e)).toArray := ⟨_, rfl⟩
    have hbu := build_part d HD.out.1 (n : Int) (A : Int) (some ⟨b, o + x * size, none⟩) e e
    rw [← hPC] at hbu
    have HBU := Lib.hid hbu
    have hsd : (row .u8 d).size = 32 := by rw [row_size, HD.out.1]
    have HSD := Lib.hid hsd
    have c2 : W.cell? ⟨w.heap.size, 0, none⟩ = some (.slice (some ⟨b, o, none⟩) n cap) := cell_row hI.k2 0 rfl
    have c9 : W.cell? ⟨B9, 0, none⟩ = some (.int .i64 (A : Int)) := cell_row k9 0 rfl
    have HI := Lib.hid hI
    have HX := Lib.hid (And.intro hcut (And.intro k6 (And.intro k9 hown)))
    have HP := Lib.hid (And.intro he (And.intro he2 (And.intro hpl (And.intro hpb (And.intro hps hPC)))))
    rw [hcv]
    clear he he2 hcv hpl hpb hps hPC hbu hsd hI hcut k6 k9 hown
    gi_wp2_with (first
      | (refine wlI_load_row rfl 23 _ rfl B7 rfl _ (row .u8 d) _ _ HI.out.k7 Try.underlying23 rfl (by rw [HSD.out]; kernel_rfl) ?_)
      | (refine wlI_build rfl 26 _ rfl PC (Eq.trans (congrArg (Try.prog.built 26) (by kernel_rfl)) HBU.out) ?_))
    have hq := HP.out
    by_cases hm : mayB (n : Int) (A : Int) e = true
    · have hen : Calls Try.prog 15 #[.agg PC] W fun e1 w' => ∃ v', e1 = .returned (.tuple #[v', .int .i64 0]) ∧ Own W.heap.size w' v' (encF d (n : Int) (A : Int) (pieceF l size x)) ∧ Below W.heap.size W w' := by
        rw [hq.2.2.2.2.2]
        exact encode_yes d HD.out.1 HD.out.2.1 (n : Int) (A : Int) _ b (o + x * size) (pieceF l size x) hq.2.2.2.1 (by rw [pieceF_len]; have := HL.out.2.2.2.1; omega) hq.2.2.2.2.1 (by rw [← hq.1]; exact hm) W (hq.2.2.1 W (BC_refl W))
      have HM := Lib.hid (And.intro hm hq)
      clear hm hq c2 c9
      refine ⟨trivial, ?_⟩
      refine (CallsIn.inRound lr (callsIn_wide.2 hen)).mono ?_
      rintro e1 W1 ⟨x1, rfl, own1, b1⟩
      obtain ⟨p1, n1, c1, rfl⟩ := own1.isSlice
      have K1 : KeptB WL.heap.size (w.heap.size + 1 + 1 + 1) B9 W W1 := .below HI.out.big b1
      have g6 := (b1.block _ (blk_lt HX.out.2.1)).trans HX.out.2.1
      have g9 := (b1.block _ (blk_lt HX.out.2.2.1)).trans HX.out.2.2.1
      have J1 := Lib.hid (And.intro own1 (And.intro b1 (And.intro K1 (And.intro g6 (And.intro g9 (HX.out.2.2.2.below b1))))))
      have c6 : W1.cell? ⟨w.heap.size + 1 + 1 + 1, 0, none⟩ = some v := cell_row g6 0 rfl
      have b2 : Below W1.heap.size W1 (W1.alloc (.cells #[.slice p1 n1 c1] 24)) := below1 _ _
      have J2 := Lib.hid b2
      clear hen own1 b1 K1 g6 g9 b2
      have hB6 : w.heap.size + 1 + 1 + 1 < WL.heap.size := by have := HN.out; omega
      have ho2 : OwnS WL.heap.size (W1.alloc (.cells #[.slice p1 n1 c1] 24)) v ls := J1.out.2.2.2.2.2.below J2.out
      have hx2 : Own WL.heap.size (W1.alloc (.cells #[.slice p1 n1 c1] 24)) (.slice p1 n1 c1) (encF d (n : Int) (A : Int) (pieceF l size x)) := (J1.out.1.below J2.out).mono HI.out.big
      have hbs : WL.heap.size ≤ (W1.alloc (.cells #[.slice p1 n1 c1] 24)).heap.size := Nat.le_trans HI.out.big (Nat.le_trans J1.out.2.1.size J2.out.size)
      have hc2 : (W1.alloc (.cells #[.slice p1 n1 c1] 24)).cell? ⟨W1.heap.size, 0, none⟩ = some (.slice p1 n1 c1) := (cell_new _ _ _ _).trans rfl
      have hll : ls.length ≤ 10000000 := by
        have h1 := HX.out.1.size.2
        have h2 : chunksN n size ≤ n + size - 1 := Nat.div_le_self _ _
        have := HL.out
        have := HS2.out
        omega
      have J3 := Lib.hid (And.intro hB6 (And.intro ho2 (And.intro hx2 (And.intro hbs (And.intro hc2 hll)))))
      clear hB6 ho2 hx2 hbs hc2 hll
      obtain ⟨A2, hA2⟩ : ∃ A2, A2 = A + e := ⟨_, rfl⟩
      have s9 : IntKind.i64.wrap ((A : Int) + (e : Int)) = (A2 : Int) := by rw [IntKind.wrap_i64]; have := HX.out.1.size.1; have := HM.out.2.2.1; have := HL.out; omega
      have HA2 := Lib.hid hA2
      clear hA2
      gi_wp2_with (gi_at_builtin; go_loud (refine wlI_append_s rfl _ _ rfl WL.heap.size v ls rfl J3.out.2.1 J3.out.2.2.2.2.2 W1.heap.size 1 rfl (.slice p1 n1 c1) (encF d (n : Int) (A : Int) (pieceF l size x)) J3.out.2.2.2.2.1 J3.out.2.2.1 J3.out.2.2.2.1 ?_); intro v3 w3 own3 grown3 at3; obtain ⟨p3, n3, c3, rfl⟩ := own3.isSlice; obtain ⟨K3, KO3, B3, g63, g93⟩ := grew_two HI.out.big (by have := HN.out; omega) J3.out.1 (by have := HN.out; omega) J1.out.2.1 J1.out.2.2.2.1 J1.out.2.2.2.2.1 J3.out.2.1 grown3 (.slice p3 n3 c3); have c63 := cell_row g63 0 rfl; have f63 := free_row g63 0; have c93 := cell_row g93 0 rfl; have f93 := free_row g93 0)
      clear c63 f63 c93 f93 s9
      have hA2 := HA2.out
      exact round_end HI.out (by rw [hA2, HM.out.2.1]; exact .snoc x HX.out.1 (by rw [← HM.out.2.1, ← HL.out.2.2.1]; exact HM.out.1)) K3 KO3 B3 g63 g93 (by have e1 := HL.out.2.2.1; rw [← e1]; exact own3) rfl (by have := HN.out; omega) (by have := HN.out; omega) (by have := HN.out; omega) (by have := HN.out; omega) (by have := HN.out; omega) (by have := HN.out; omega) (by have := HN.out; omega) (by have := HN.out; omega) (by have := HN.out; omega)
    · have hen : Calls Try.prog 15 #[.agg PC] W fun e1 w' => e1 = .returned (.tuple #[.slice none 0 0, .int .i64 1]) ∧ Below W.heap.size W w' := by
        rw [hq.2.2.2.2.2]
        exact encode_no d HD.out.1 (n : Int) (A : Int) _ b (o + x * size) e (by have h := hq.2.2.2.2.1; rw [← hq.1] at h; exact h) (by simpa using hm) W
      have HM := Lib.hid (And.intro hm hq)
      clear hm hq c2 c9
      refine ⟨trivial, ?_⟩
      refine (CallsIn.inRound lr (callsIn_wide.2 hen)).mono ?_
      rintro e1 W1 ⟨rfl, b1⟩
      have g4 := (b1.block _ (blk_lt HI.out.k4)).trans HI.out.k4
      have g5 := (b1.block _ (blk_lt HI.out.k5)).trans HI.out.k5
      have c4 := cell_row g4 0 rfl
      have f4 := free_row g4 0
      have g5' := blk_far (a := ⟨w.heap.size + 1, 0, none⟩) g5 (by simp) (.slice none 0 0)
      have c5 := cell_row g5' 0 rfl
      have f5 := free_row g5' 0
      have KO := Lib.hid (keeps_of_below b1)
      clear g4 g5 g5' hen b1
      gi_wp2_with fail
      exact ⟨(KO.out.trans (.setCell _ _ _)).trans (.setCell _ _ _), pre, x, A, ls, rfl, HX.out.1, by rw [← HM.out.2.1, ← HL.out.2.2.1]; simpa using HM.out.1⟩
  case done =>
    rintro D xs W hD rfl hI hK
    obtain ⟨A, ls, v, hcut, k6, k9, hown⟩ := hI.ex
    obtain ⟨pv, nv, cv, rfl⟩ := hown.isSlice
    have c6 := cell_row k6 0 rfl
    have c4 := cell_row hI.k4 0 rfl
    have f4 := free_row hI.k4 0
    have g5 := blk_far (a := ⟨w.heap.size + 1, 0, none⟩) hI.k5 (by simp) (.slice pv nv cv)
    have c5 := cell_row g5 0 rfl
    have f5 := free_row g5 0
    have HI := Lib.hid hI
    have HX := Lib.hid (And.intro hcut (And.intro hown g5))
    clear hI hcut k6 k9 hown g5
    gi_wp2_with fail
    go_wp2_with fail
    have hn4 : w.heap.size + 1 ≠ D := by have := HN.out; omega
    have hn5 : w.heap.size + 1 + 1 ≠ D := by have := HN.out; omega
    have g4 := blk_far (a := ⟨w.heap.size + 1 + 1, 0, none⟩) (blk_set HI.out.k4 0 (.slice pv nv cv)) (by simp) (.int .i64 0)
    have g5 := blk_set HX.out.2.2 0 (.int .i64 0)
    have hK2 := ((KeepsOthers.setCell W ⟨w.heap.size + 1, 0, none⟩ (.slice pv nv cv)).trans (.setCell _ ⟨w.heap.size + 1 + 1, 0, none⟩ (.int .i64 0))).same D _ hK rfl
    have ho2 : OwnS WL.heap.size ((W.setCell ⟨w.heap.size + 1, 0, none⟩ (.slice pv nv cv)).setCell ⟨w.heap.size + 1 + 1, 0, none⟩ (.int .i64 0)) (.slice pv nv cv) ls := HX.out.2.1.keep fun k cs t hk hc => blk_far (blk_far hc (by have := HN.out; simp; omega) _) (by have := HN.out; simp; omega) _
    have hb2 : Below w.heap.size w ((W.setCell ⟨w.heap.size + 1, 0, none⟩ (.slice pv nv cv)).setCell ⟨w.heap.size + 1 + 1, 0, none⟩ (.int .i64 0)) := (HI.out.bel.setCell (p := ⟨w.heap.size + 1, 0, none⟩) (by simp) _).setCell (p := ⟨w.heap.size + 1 + 1, 0, none⟩) (by simp; omega) _
    generalize (W.setCell ⟨w.heap.size + 1, 0, none⟩ (.slice pv nv cv)).setCell ⟨w.heap.size + 1 + 1, 0, none⟩ (.int .i64 0) = W2 at *
    have hg := grownBy_putObj' W2 D (.deferred none)
    have hr : ∀ r, some D = some r → ∃ o : Obj, W2.heap[r]? = some o ∧ o.isCells = false := fun r e => by cases e; exact ⟨_, hK2, rfl⟩
    refine ⟨by simp, .inl ⟨_, _, rfl, run_takeDeferred hK2, ?_⟩⟩
    refine ⟨_, results_cells2 (p := 4) (q := 5) (by kernel_rfl) _ _ _ _ (.slice pv nv cv) (.int .i64 0) rfl rfl (load_one Try.underlying42 rfl) (load_one Try.underlying28 rfl) (cell_row (keeps_cells hg hr g4) 0 rfl) (cell_row (keeps_cells hg hr g5) 0 rfl) rfl rfl, .slice pv nv cv, rfl, ?_, ?_⟩
    · obtain ⟨_, e2⟩ := Cut.range (show 0 < size by omega) _ A ls (by rw [HL.out.2.2.1]; exact Nat.le_refl _) HX.out.1
      have hsp : ls = splitF l size := by rw [e2, HL.out.2.2.1]; unfold splitF; rw [HD.out.2.2]
      rw [← hsp]
      exact (ho2.keep fun k cs t _ hc => keeps_cells hg hr hc).mono HG.out.1.size
    · exact hb2.grown hg hb2.size (fun r e => by cases e; have := HG.out.1.size; omega)
  case stop =>
    rintro D c pre W hD ⟨k, hk, rfl⟩ ⟨pre', x, A, ls, h1, h2, h3⟩ hK
    exfalso
    have hs0 : 0 < size := by omega
    cases k with
    | zero => simp at h1
    | succ k =>
      rw [List.range_succ] at h1
      obtain ⟨rfl, h4⟩ := List.append_inj' h1 rfl
      injection h4 with h4
      subst h4
      obtain ⟨e1, _⟩ := Cut.range hs0 k A ls (by rw [HL.out.2.2.1] at hk; omega) h2
      have h5 := may_piece (l := l) (k := k) hs0 (by have := HL.out; omega) (by rw [HL.out.2.2.1] at hk; omega)
      have hA : A = k * size := by
        have h6 : k < chunksN l.length size := by rw [HL.out.2.2.1] at hk; omega
        unfold chunksN at h6
        rw [Nat.lt_div_iff_mul_lt hs0] at h6
        omega
      rw [← hA] at h5
      rw [h5] at h3
      cases h3
end Go.Proofs.Ytjnimbhecfpnmaa
