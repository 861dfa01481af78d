/- A Hash in memory: its cells, the laws for a part of a block that is loaded and stored, slices of bytes. -/
import Derived.Test.YtagdlbadkmgdmaaDoorSha
import Derived.Deep.MidRow
namespace Go.Proofs.YtagdlbadkmgdmaaDoor
set_option maxRecDepth 100000
open Go.ChangeShapes Go.WideShapes Go.ChangeAt Go.RowKit

/-- the cells of a Hash -/
def hcells (x : W8) (p : List Int) (n : Nat) : List Value := x.row.toList ++ ((row .u8 p).toList ++ [.int .i64 n])
theorem row_list (k : IntKind) (l : List Int) : (row k l).toList = l.map (Value.int k) := by simp [row]
theorem row_of_list (l : List Int) (k : IntKind) : (l.map (Value.int k)).toArray = row k l := rfl
theorem hcells_len (x : W8) (p : List Int) (n : Nat) (h : p.length = 64) : (hcells x p n).length = 73 := by
  unfold hcells
  rw [row_list]
  simp [W8.row, h]
theorem hcells_n (x : W8) (p : List Int) (n : Nat) (h : p.length = 64) : (hcells x p n)[72]? = some (.int .i64 n) := by
  unfold hcells
  rw [List.getElem?_append_right (by simp [W8.row]), List.getElem?_append_right (by rw [row_list]; simp [W8.row, h])]
  rw [row_list]; simp [W8.row, h]
theorem hcells_one (x : W8) (p : List Int) (n : Nat) : ∀ v ∈ hcells x p n, v.oneCell' = true := by
  intro v hv
  unfold hcells at hv
  rw [row_list] at hv
  simp only [List.mem_append, List.mem_map, List.mem_singleton] at hv
  rcases hv with hv | ⟨a, _, rfl⟩ | rfl
  · exact (Array.all_eq_true_iff_forall_mem.1 (W8.row_one x)) v (by simpa using hv)
  · rfl
  · rfl
theorem hcells_setn (x : W8) (p : List Int) (n m : Nat) (h : p.length = 64) : (hcells x p n).toArray.setIfInBounds 72 (.int .i64 m) = (hcells x p m).toArray := by
  unfold hcells
  rw [List.setIfInBounds_toArray, List.set_append_right _ _ (by simp [W8.row]), List.set_append_right _ _ (by rw [row_list]; simp [W8.row, h])]
  congr 3
  rw [row_list]; simp [W8.row, h]
theorem hcells_words (x y : W8) (p : List Int) (n : Nat) : splice (hcells x p n) 0 y.row.toList = hcells y p n := by
  unfold splice hcells
  rw [List.take_zero, List.nil_append, List.drop_append]
  congr 1
theorem hcells_part (x : W8) (p : List Int) (n i : Nat) (cs : List Int) (h : p.length = 64) (hi : i + cs.length ≤ 64) : splice (hcells x p n) (8 + i) (cs.map (Value.int .u8)) = hcells x (splice p i cs) n := by
  have h8 : x.row.toList.length = 8 := by simp [W8.row]
  unfold splice hcells
  rw [row_list, row_list, List.length_map]
  rw [List.take_append, List.take_of_length_le (by omega), h8, List.append_assoc]
  congr 1
  rw [show 8 + i - 8 = i by omega, List.take_append_of_le_length (by rw [List.length_map]; omega), List.drop_append, List.drop_eq_nil_of_le (by omega), List.nil_append, h8, show 8 + i + cs.length - 8 = i + cs.length by omega,
    List.drop_append_of_le_length (by rw [List.length_map]; omega)]
  simp [List.map_append, List.map_take, List.map_drop, List.append_assoc]
theorem range_words {w : World} {g : Nat} {x : W8} {p : List Int} {n : Nat} {t : TypeId} (hg : w.heap[g]? = some (.cells (hcells x p n).toArray t (0, 0))) : w.rangeAt g 0 x.row.toList := fun j v hv => by
  rw [cell_of_row w g (0 + j) _ t _ hg, Nat.zero_add]
  unfold hcells
  rw [List.getElem?_toArray, List.getElem?_append_left (List.getElem?_eq_some_iff.1 hv).1]
  exact hv
theorem range_part {w : World} {g : Nat} {x : W8} {p : List Int} {n : Nat} {t : TypeId} (hg : w.heap[g]? = some (.cells (hcells x p n).toArray t (0, 0))) : w.rangeAt g 8 (row .u8 p).toList := fun j v hv => by
  have h8 : x.row.toList.length = 8 := by simp [W8.row]
  rw [cell_of_row w g (8 + j) _ t _ hg]
  unfold hcells
  rw [List.getElem?_toArray, List.getElem?_append_right (by omega), h8, show 8 + j - 8 = j by omega, List.getElem?_append_left (List.getElem?_eq_some_iff.1 hv).1]
  exact hv
/-- a world that is another one but for one block, and new ones -/
structure But (g : Nat) (w w' : World) : Prop where
  size : w.heap.size ≤ w'.heap.size
  block : ∀ k, k < w.heap.size → k ≠ g → w'.heap[k]? = w.heap[k]?
  below : ∀ B w0, B ≤ g → B ≤ w.heap.size → Below B w0 w → Below B w0 w'
theorem But.refl (g : Nat) (w : World) : But g w w := ⟨Nat.le_refl _, fun _ _ _ => rfl, fun _ _ _ _ h => h⟩
theorem But.trans {g : Nat} {a b c : World} (h : But g a b) (k : But g b c) : But g a c :=
  ⟨Nat.le_trans h.size k.size, fun i hi hn => (k.block i (Nat.lt_of_lt_of_le hi h.size) hn).trans (h.block i hi hn), fun B w0 h1 h2 h3 => k.below B w0 h1 (Nat.le_trans h2 h.size) (h.below B w0 h1 h2 h3)⟩
theorem But.of_below {g : Nat} {w w' : World} (h : Below w.heap.size w w') : But g w w' :=
  ⟨h.size, fun k hk _ => h.block k hk, fun _ _ _ h2 h3 => h3.trans (h.mono h2)⟩
theorem But.of_store {g : Nat} {w w' : World} (h2 : ∀ k, k ≠ g → w'.heap[k]? = w.heap[k]?) (h3 : ∀ B w0, B ≤ g → Below B w0 w → Below B w0 w') : But g w w' :=
  ⟨(h3 0 w (Nat.zero_le _) (Below.refl _ _)).size, fun k _ hn => h2 k hn, fun B w0 h1 _ h => h3 B w0 h1 h⟩
theorem But.blk {g : Nat} {w w' : World} (h : But g w w') {k : Nat} {o : Obj} (hk : w.heap[k]? = some o) (hn : k ≠ g) : w'.heap[k]? = some o := (h.block k (blk_lt hk) hn).trans hk
theorem But.cell {g : Nat} {w w' : World} (h : But g w w') {a : Addr} {v : Value} (hc : w.cell? a = some v) (hn : a.block ≠ g) : w'.cell? a = some v :=
  (World.cell?_of_block (h.block a.block (block_lt_of_cell hc) hn)).trans hc
/-- a part of a block whose cells are known is stored -/
theorem wl_store_part {P : Program} {ops : Array Oper} {Q : Exit → Act → World → Prop} {rest : List Oper} {o : Oper} {a : Act} {w : World} (hgd : o.guard = none) (ty : TypeId) (x y : Operand) (ho : o.op = .store ty x y)
    (hd : o.dst = none) (g i : Nat) (cells : Array Value) (hx : a.eval x = .pointer (some ⟨g, i, none⟩)) (hy : a.eval y = .agg cells) (hi : (P.info? ty).map (·.size) = some cells.size) (h1 : cells.all (·.oneCell') = true)
    {cur : List Value} {t : TypeId} (hg : w.heap[g]? = some (.cells cur.toArray t (0, 0))) (hlt : i + cells.size ≤ cur.length)
    (h : ∀ W, W.heap[g]? = some (.cells (splice cur i cells.toList).toArray t (0, 0)) → But g w W → wpList P ops Q rest a W) : wpList P ops Q (o :: rest) a w := by
  have hst := run_storeCells_at P g i t cells.toList 0 cur.toArray w hg (by simpa using hlt) (fun v hv => (Array.all_eq_true_iff_forall_mem.1 h1) v (by simpa using hv))
  have hrun : (storeVar ty ⟨g, i, none⟩ (.agg cells)).run P w = .ok () (w.setRow g (splice cur i cells.toList).toArray) := by
    cases hq : P.info? ty with
    | none => simp [hq] at hi
    | some ti =>
      have hs : cells.size = ti.size := by simp [hq] at hi; omega
      simp only [Nat.add_zero] at hst
      simp [storeVar, sizeOf, typeInfo, hq, Value.cells, hs, hst, splice]
  refine wpList_plain hgd fun _ hK => ?_
  unfold Oper.wp execOp
  simp only [ho, hx, hy, Instr.storeAt, Instr.sureAddr, Sem.run_bind, Sem.run_pure, Result.andThen_ok, hrun, Oper.upon, hd, Act.put]
  exact hK _ _ (h _ (setRow_heap w g _ _ t _ hg) ⟨by rw [setRow_size]; exact Nat.le_refl _, fun k _ hn => setRow_other _ _ _ _ hn, fun B w0 hB _ hb => below_row hb hB _⟩)
/-- 'copy' into a block whose cells are known -/
theorem wl_copy_part {P : Program} {w : World} {ops : Array Oper} {rest : List Oper} {o : Oper} {a : Act} {Q : Exit → Act → World → Prop} (hgd : o.guard = none) (d s : Operand) (dT sT : TypeId)
    (ho : o.op = .call { callee := .builtin .copy, args := #[d, s], argTypes := #[dT, sT] }) (elem : TypeId) (hu : P.underlying dT = some (.slice elem)) (hsz : (P.info? elem).map (·.size) = some 1)
    (g off dLen dCap : Nat) (ad : Addr) (sLen sCap : Nat) (hd : a.eval d = .slice (some ⟨g, off, none⟩) dLen dCap) (hs : a.eval s = .slice (some ad) sLen sCap)
    (cur : List Value) (t : TypeId) (hg : w.heap[g]? = some (.cells cur.toArray t (0, 0))) (cs : List Value) (n : Nat) (hcn : cs.length = n) (hn : n = Nat.min sLen dLen)
    (hsrc : ∀ j v, cs[j]? = some v → w.cell? (ad.add j) = some v) (hfit : off + n ≤ cur.length) (h1 : ∀ v ∈ cs, v.oneCell' = true)
    (h : ∀ W, W.heap[g]? = some (.cells (splice cur off cs).toArray t (0, 0)) → But g w W → wpList P ops Q rest (a.put o.dst (goInt n)) W) : wpList P ops Q (o :: rest) a w := by
  subst hcn
  refine wpList_copy_own hgd d s dT sT ho elem hu hsz g off dLen dCap ad sLen sCap hd hs cur.toArray t hg cs hn hsrc (by simpa using hfit) h1 ?_
  exact h _ (show _ = _ by simpa [splice] using setRow_heap w g _ _ t _ hg) ⟨by rw [setRow_size]; exact Nat.le_refl _, fun k _ hn => setRow_other _ _ _ _ hn, fun B w0 hB _ hb => below_row hb hB _⟩
/-- a part of a block is loaded in a region that draws -/
theorem headG_load_mid {P : Program} {ops : Array Oper} {S : World → Prop} {Q : Act → Prop} {a : Act} {o : Oper} {rest : List Oper} (ty : TypeId) (xo : Operand) (ho : o.op = .load ty xo)
    (hw : Region.wanted o (yielded ops a.tmps) = true) (g i : Nat) (hx : a.eval xo = .pointer (some ⟨g, i, none⟩)) (cs : Array Value) (d : TypeDesc)
    (hg : ∀ x : HW S, x.w.rangeAt g i cs.toList) (hu : P.underlying ty = some d) (hd : d.isRow = true) (hi : (P.info? ty).map (·.size) = some cs.size)
    (h : headG P ops S Q rest (a.put o.dst (.agg cs))) : headG P ops S Q (o :: rest) a := by
  unfold headG oneG
  rw [if_pos hw]
  refine ⟨.agg cs, fun x => ?_, h⟩
  unfold execOp
  simp only [ho, hx, Instr.loadAt, Instr.sureAddr, Sem.run_bind, Sem.run_pure, Result.andThen_ok, run_loadVar_mid x.w g i ty cs.toList d (hg x) hu hd (by simpa using hi), comesTo]
  exact ⟨trivial, x.h⟩
theorem wl_load_mid {P : Program} {ops : Array Oper} {rest : List Oper} {o : Oper} {a : Act} {w : World} {Q : Exit → Act → World → Prop} (hgd : o.guard = none) (ty : TypeId) (x : Operand) (ho : o.op = .load ty x)
    (b i : Nat) (hx : a.eval x = .pointer (some ⟨b, i, none⟩)) (cs : Array Value) (d : TypeDesc) (hc : w.rangeAt b i cs.toList)
    (hu : P.underlying ty = some d) (hd : d.isRow = true) (hi : (P.info? ty).map (·.size) = some cs.size)
    (h : wpList P ops Q rest (a.put o.dst (.agg cs)) w) : wpList P ops Q (o :: rest) a w :=
  wpList_load_mid hgd ty x ho b i hx cs.toList d hc hu hd (by simpa using hi) (by simpa using h)
/-- a slice's value: n elements, from place o of block b on -/
def SlV (v : Value) (b o n : Nat) : Prop := ∃ a cap, v = .slice a n cap ∧ n ≤ cap ∧ cap ≤ maxLen ∧ (0 < n → a = some ⟨b, o, none⟩) ∧ (a = none → cap = 0)
/-- a slice's length -/
def lenOf : Value → Nat
  | .slice _ n _ => n
  | _ => 0
theorem SlV.len {v : Value} {b o n : Nat} (h : SlV v b o n) : lenOf v = n := by
  obtain ⟨a, cap, rfl, _⟩ := h
  rfl
/-- bytes in memory, from place o of block b on -/
def Lies (w : World) (b o : Nat) (l : List Int) : Prop := ∀ j, j < l.length → w.cell? ⟨b, o + j, none⟩ = some (.int .u8 (l.getD j 0))
theorem Lies.but {w w' : World} {g b o : Nat} {l : List Int} (h : Lies w b o l) (hb : But g w w') (hn : b ≠ g) : Lies w' b o l := fun j hj => hb.cell (h j hj) hn
theorem Lies.below {w w' : World} {b o : Nat} {l : List Int} (h : Lies w b o l) (hb : Below w.heap.size w w') : Lies w' b o l := fun j hj => (hb.cell (block_lt_of_cell (h j hj))).trans (h j hj)
theorem Lies.lt {w : World} {b o : Nat} {l : List Int} (h : Lies w b o l) (hl : 0 < l.length) : b < w.heap.size := block_lt_of_cell (h 0 hl)
theorem Lies.nil (w : World) (b o : Nat) : Lies w b o [] := fun j hj => by simp at hj
theorem Lies.of_row {w : World} {b : Nat} {l : List Int} {t : TypeId} {fr : Nat × Nat} (h : w.heap[b]? = some (.cells (row .u8 l) t fr)) : Lies w b 0 l := fun j hj => by
  rw [cell_of_row w b _ _ t _ h, Nat.zero_add]
  exact row_get .u8 l j hj
/-- v is a slice of the bytes l -/
def IsB (w : World) (v : Value) (l : List Int) : Prop := ∃ b o, SlV v b o l.length ∧ Lies w b o l
end Go.Proofs.YtagdlbadkmgdmaaDoor
