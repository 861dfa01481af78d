/- A region that draws its order, walked once in the order of the text: its head's operations each hand back one value in every world of a class S and leave a world of S; its tail is forced. -/
import Derived.WalkKit
import Derived.ProofKit
import Derived.StillTail
import Derived.Laws.Rows
import Derived.KernelRfl
import Derived.Deep.Draws
import Derived.Below
namespace Go.Proofs.YtagdlbadkmgdmaaDoor
open Go

/-- a world of the class S -/
structure HW (S : World → Prop) where
  w : World
  h : S w

/-- what an operation comes to: the value v, in a world of S -/
def comesTo (P : Program) (S : World → Prop) (v : Value) : Result Next → Prop
  | .ok (.value u) w' => u = v ∧ S w'
  | .ok .skip w' => undef = v ∧ S w'
  | .ok (.enter f args) w' => Calls P f args w' (fun e w'' => e = .returned v ∧ S w'')
  | _ => False

section
variable {P : Program} {ops : Array Oper} {md : Region.Mode} {S : World → Prop}

def takes (P : Program) (S : World → Prop) (o : Oper) (v : Value) (a : Act) : Prop := ∀ x : HW S, comesTo P S v ((execOp a.eval o).run P x.w)
def oneG (P : Program) (ops : Array Oper) (S : World → Prop) (o : Oper) (K : Act → Prop) (a : Act) : Prop :=
  if Region.wanted o (yielded ops a.tmps) then ∃ v, takes P S o v a ∧ K (a.put o.dst v) else K (a.put o.dst undef)
def headG (P : Program) (ops : Array Oper) (S : World → Prop) (Q : Act → Prop) : List Oper → Act → Prop
  | [], a => Q a
  | o :: rest, a => oneG P ops S o (headG P ops S Q rest) a
theorem oneG_mono {o : Oper} {K K' : Act → Prop} {a : Act} (h : ∀ a, K a → K' a) (hh : oneG P ops S o K a) : oneG P ops S o K' a := by
  unfold oneG at *
  split
  · rename_i hw
    rw [if_pos hw] at hh
    obtain ⟨v, h1, h2⟩ := hh
    exact ⟨v, h1, h _ h2⟩
  · rename_i hw
    rw [if_neg hw] at hh
    exact h _ hh
theorem headG_nil {Q : Act → Prop} {a : Act} (h : Q a) : headG P ops S Q [] a := h
theorem headG_step {Q : Act → Prop} {a : Act} {o : Oper} {rest : List Oper}
    (h : ∀ K : Act → Prop, (∀ a, headG P ops S Q rest a → K a) → if Region.wanted o (yielded ops a.tmps) then ∃ v, takes P S o v a ∧ K (a.put o.dst v) else K (a.put o.dst undef)) : headG P ops S Q (o :: rest) a :=
  h _ fun _ h => h
/-- one operation in a world of the class -/
theorem wpOp_oneG {Q' : Exit → Act → World → Prop} {i : Nat} {o : Oper} {K : Act → Prop} {K' : Act → World → Prop} {a : Act} {w : World} (hi : ops[i]? = some o) (hw : S w)
    (h : ∀ a w, S w → K a → K' a w) (hh : oneG P ops S o K a) : wpOp P ops Q' i K' a w := by
  unfold wpOp
  simp only [hi]
  unfold oneG at hh
  split
  · rename_i hwt
    rw [if_pos hwt] at hh
    obtain ⟨v, h1, h2⟩ := hh
    have h3 := h1 ⟨w, hw⟩
    left
    unfold Oper.wp
    change comesTo P S v ((execOp a.eval o).run P w) at h3
    generalize (execOp a.eval o).run P w = r at *
    cases r with
    | ok n w' =>
      cases n <;> simp only [comesTo] at h3 <;> simp only [Oper.upon]
      case value u => obtain ⟨rfl, e2⟩ := h3; exact h _ _ e2 h2
      case skip => obtain ⟨rfl, e2⟩ := h3; exact h _ _ e2 h2
      case enter f args => exact h3.mono fun e w'' ⟨he, hw''⟩ => by subst he; exact h _ _ hw'' h2
    | halt x w' => simp only [comesTo] at h3
  · rename_i hwt
    rw [if_neg hwt] at hh
    exact h _ _ hw hh

def gives (P : Program) (ops : Array Oper) (S : World → Prop) (o : Oper) (v : Value) (a : Act) : Prop :=
  (Region.wanted o (yielded ops a.tmps) = true ∧ takes P S o v a) ∨ (Region.wanted o (yielded ops a.tmps) = false ∧ v = undef)
theorem oneG_gives {o : Oper} {K : Act → Prop} {a : Act} (h : oneG P ops S o K a) : ∃ v, gives P ops S o v a ∧ K (a.put o.dst v) := by
  unfold oneG at h
  by_cases hw : Region.wanted o (yielded ops a.tmps) = true
  · rw [if_pos hw] at h
    obtain ⟨v, h1, h2⟩ := h
    exact ⟨v, .inl ⟨hw, h1⟩, h2⟩
  · rw [if_neg hw] at h
    exact ⟨undef, .inr ⟨by simpa using hw, rfl⟩, h⟩
theorem gives_oneG {o : Oper} {v : Value} {K : Act → Prop} {a : Act} (hy : gives P ops S o v a) (h : K (a.put o.dst v)) : oneG P ops S o K a := by
  unfold oneG
  rcases hy with ⟨hw, hv⟩ | ⟨hw, rfl⟩
  · rw [if_pos hw]; exact ⟨v, hv, h⟩
  · rw [if_neg (by simp [hw])]; exact h
theorem gives_put {o p : Oper} {v : Value} {a : Act} (hs : ∀ cs b, o.op ≠ .select cs b) (hap : ∀ d, p.dst = some d → d ∉ o.looksAt ops) (u : Value) :
    gives P ops S o v (a.put p.dst u) ↔ gives P ops S o v a := by
  unfold gives takes
  rw [execOp_put o hs a p.dst u hap, wanted_put o a p.dst u hap]

/-- f operations of the head are still to come, in whatever order -/
def anyG (P : Program) (md : Region.Mode) (ops : Array Oper) (S : World → Prop) (n : Nat) (Q : Array Bool → Act → Prop) : Nat → Array Bool → Act → Prop
  | 0, L, a => (∀ j, j < n → L.getD j true = true) ∧ Q L a
  | f + 1, L, a => Region.ready md ops L ≠ [] ∧ ∀ i ∈ Region.ready md ops L, ∀ o, ops[i]? = some o → oneG P ops S o (anyG P md ops S n Q f (L.setIfInBounds i true)) a
theorem wpAny_anyG {n g : Nat} {Q : Array Bool → Act → Prop} {Q' : Exit → Act → World → Prop} (hQ : ∀ L a w, S w → Q L a → wpAny P md ops Q' g L a w) :
    ∀ (f : Nat) (L : Array Bool) (a : Act) (w : World), S w → anyG P md ops S n Q f L a → wpAny P md ops Q' (g + f) L a w
  | 0, L, a, w, hw, h => hQ L a w hw h.2
  | f + 1, L, a, w, hw, h => by
    refine ⟨fun h0 => absurd h0 h.1, fun i hi => ?_⟩
    obtain ⟨_, o, ho, _⟩ := mem_ready.1 hi
    exact wpOp_oneG ho hw (fun a' w' hw' h' => wpAny_anyG hQ f _ a' w' hw' h') (h.2 i hi o ho)
/-- every operation from n on waits for every one before n -/
def waitsB (md : Region.Mode) (ops : Array Oper) (n : Nat) : Bool :=
  (List.range ops.size).all fun j => decide (j < n) || match ops[j]? with
    | none => true
    | some o => (List.range n).all fun i => o.after.any fun e => Region.binds md e && e.on == i
theorem waitsB_spec {n : Nat} (h : waitsB md ops n = true) {j : Nat} {L : Array Bool} (hj : j ∈ Region.ready md ops L) (hn : n ≤ j) (i : Nat) (hi : i < n) : L.getD i false = true := by
  obtain ⟨_, o, ho, hall⟩ := mem_ready.1 hj
  unfold waitsB at h
  have h1 := List.all_eq_true.1 h j (List.mem_range.2 (Array.getElem?_eq_some_iff.1 ho).1)
  simp only [ho, Bool.or_eq_true, decide_eq_true_eq] at h1
  have h2 := List.all_eq_true.1 (h1.resolve_left (by omega)) i (List.mem_range.2 hi)
  obtain ⟨e, he, hb⟩ := Array.any_eq_true'.1 h2
  simp only [Bool.and_eq_true, beq_iff_eq] at hb
  rw [← hb.2]
  exact hall e he hb.1
theorem getD_both' {L : Array Bool} {i : Nat} (h : L.getD i false = true) (h2 : L.getD i true = false) : False := by
  rcases Nat.lt_or_ge i L.size with h' | h'
  · simp [h'] at h h2; rw [h] at h2; cases h2
  · simp [Array.getElem?_eq_none h'] at h
theorem anyG_first {n i : Nat} {oi : Oper} {v : Value} {Q : Array Bool → Act → Prop} (hi : ops[i]? = some oi) (hin : i < n) (hsel : ∀ (j : Nat) (o : Oper) cs b, ops[j]? = some o → o.op ≠ .select cs b)
    (hwait : waitsB md ops n = true) :
    ∀ (f : Nat) (L : Array Bool) (a : Act),
      (∀ j oj, ops[j]? = some oj → j ≠ i → L.getD j true = false → (∀ e ∈ oj.after, Region.binds md e = true → e.on ≠ i) → oi.apart ops oj = true) →
      i ∈ Region.ready md ops L → gives P ops S oi v a → anyG P md ops S n Q f (L.setIfInBounds i true) (a.put oi.dst v) → anyG P md ops S n Q (f + 1) L a := by
  intro f
  induction f with
  | zero =>
    intro L a _ hr hy H
    refine ⟨fun h => (by rw [h] at hr; cases hr), fun j hj o ho => ?_⟩
    by_cases hji : j = i
    · subst hji
      obtain rfl : oi = o := by rw [hi] at ho; exact Option.some.inj ho
      exact gives_oneG hy H
    · have hun := (mem_ready.1 hj).1
      by_cases hjn : j < n
      · have := H.1 j hjn
        rw [getD_set_ne true (Ne.symm hji), hun] at this
        cases this
      · exact (getD_both' (waitsB_spec hwait hj (by omega) i hin) (mem_ready.1 hr).1).elim
  | succ f ih =>
    intro L a hfree hr hy H
    refine ⟨fun h => (by rw [h] at hr; cases hr), fun j hj o ho => ?_⟩
    by_cases hji : j = i
    · subst hji
      obtain rfl : oi = o := by rw [hi] at ho; exact Option.some.inj ho
      exact gives_oneG hy H
    · obtain ⟨hun, oj, hoj, hall⟩ := mem_ready.1 hj
      obtain rfl : oj = o := by rw [ho] at hoj; exact (Option.some.inj hoj).symm
      have hnot : ∀ e ∈ oj.after, Region.binds md e = true → e.on ≠ i := fun e he hb heq => by
        have := hall e he hb
        rw [heq] at this
        exact getD_both' this (mem_ready.1 hr).1
      obtain ⟨h1, h2, h3⟩ := Oper.apart_spec (hfree j oj hoj hji hun hnot)
      obtain ⟨u, hu, hK⟩ := oneG_gives (H.2 j (ready_mono hj hji) oj hoj)
      have hu' : gives P ops S oj u a := (gives_put (hsel j oj · · hoj) h1 v).1 hu
      refine gives_oneG hu' (ih (L.setIfInBounds j true) (a.put oj.dst u) ?_ (ready_mono hr (Ne.symm hji)) ((gives_put (hsel i oi · · hi) h3 u).2 hy) ?_)
      · intro k ok hk hki hunk hno
        refine hfree k ok hk hki ?_ hno
        by_cases hjk : j = k
        · subst hjk; exact hun
        · rw [getD_set_ne true hjk] at hunk; exact hunk
      · rw [Array.setIfInBounds_comm _ _ hji, ← Act.put_comm a v u h2]
        exact hK
/-- the head in the order of the text, and the tail one by one -/
def headB (md : Region.Mode) (ops : Array Oper) (n g : Nat) : Nat → Nat → Array Bool → Bool
  | 0, k, L => decide (∀ j, j < n → L.getD j true = true) && Region.seqB md ops g k L
  | f + 1, k, L => decide (k < n) && (Region.ready md ops L).contains k && Region.free md ops L k && headB md ops n g f (k + 1) (L.setIfInBounds k true)
theorem anyG_lex {n g : Nat} {Q : Act → Prop} (hsel : Region.noSelect ops = true) (hwait : waitsB md ops n = true) : ∀ (l : List Oper) (k : Nat) (L : Array Bool) (a : Act), (∀ j, j < l.length → l[j]? = ops[k + j]?) →
    headB md ops n g l.length k L = true → headG P ops S Q l a → anyG P md ops S n (fun L a => Region.seqB md ops g (k + l.length) L = true ∧ Q a) l.length L a
  | [], k, L, a, _, hB, h => by
    simp only [List.length_nil, headB, Bool.and_eq_true, decide_eq_true_eq] at hB
    exact ⟨hB.1, hB.2, h⟩
  | o :: l, k, L, a, hl, hB, h => by
    have h0 : ops[k]? = some o := by simpa using (hl 0 (by simp)).symm
    simp only [List.length_cons, headB, Bool.and_eq_true, decide_eq_true_eq] at hB
    obtain ⟨⟨⟨hk, hr⟩, hf⟩, hB'⟩ := hB
    obtain ⟨v, hv, hK⟩ := oneG_gives h
    refine anyG_first h0 hk (Region.noSelect_spec hsel) hwait l.length L a (Region.free_spec h0 hf) (by simpa using hr) hv ?_
    have := anyG_lex hsel hwait l (k + 1) (L.setIfInBounds k true) (a.put o.dst v) (fun j hj => by have := hl (j + 1) (by simpa using hj); simpa [Nat.add_assoc, Nat.add_comm 1 j] using this) hB' hK
    rw [show k + 1 + l.length = k + (l.length + 1) from by omega] at this
    exact this
def regB (md : Region.Mode) (ops : Array Oper) (n : Nat) : Bool :=
  Region.noSelect ops && waitsB md ops n && decide (n ≤ ops.size) && headB md ops n (ops.size - n) n 0 (Array.replicate ops.size false)
/-- THE LAW -/
theorem wp_region_head {id : Nat} {Q : Exit → Act → World → Prop} {a : Act} {w : World} {l : List Oper} (S : World → Prop) (n : Nat) (hm : P.follows .mixedOrders = true) (hB : regB .any l.toArray n = true)
    (hS : S w.drew) (h : headG P l.toArray S (fun a' => ∀ w', S w' → wpList P l.toArray Q (l.drop n) a' w') (l.take n) a) : (Code.region id l.toArray true).wp P Q a w := by
  simp only [regB, Bool.and_eq_true, decide_eq_true_eq] at hB
  obtain ⟨⟨⟨h1, h2⟩, h3⟩, h4⟩ := hB
  have hlen : (l.take n).length = n := by rw [List.length_take]; exact Nat.min_eq_left (by simpa using h3)
  refine wp_region_any hm ?_
  have hx := anyG_lex (P := P) (S := S) (g := l.toArray.size - n) h1 h2 (l.take n) 0 (Array.replicate l.toArray.size false) a (fun j hj => by
    rw [hlen] at hj
    simp [hj]) (by rw [hlen]; exact h4) h
  rw [hlen] at hx
  have hy := wpAny_anyG (g := l.toArray.size - n) (Q' := Q) (fun L a' w' hw' hq => ?_) n _ a w.drew hS hx
  · rw [show l.toArray.size - n + n = l.toArray.size from by omega] at hy
    exact hy
  · have e : (l.drop n).length = l.toArray.size - n := by simp
    have := wpAny_of_seq (P := P) (md := .any) (ops := l.toArray) (Q' := Q) (l.drop n) n L a' w' (fun j => by simp) (by rw [e]; have := hq.1; simpa using this) (hq.2 w' hw')
    rwa [e] at this
end
/-- a callee's contract, met in a world of the class -/
theorem comes_call {P : Program} {S : World → Prop} {f : FuncId} {args : Array Value} {w : World} {v : Value} {R : World → Prop} (h : Calls P f args w fun e w' => e = .returned v ∧ R w') (hR : ∀ w', R w' → S w') :
    Calls P f args w (fun e w'' => e = .returned v ∧ S w'') := h.mono fun _ _ ⟨he, hw⟩ => ⟨he, hR _ hw⟩
theorem headG_load_row {P : Program} {ops : Array Oper} {S : World → Prop} {Q : Act → Prop} {a : Act} {o : Oper} {rest : List Oper} (ty : TypeId) (xo : Operand) (ho : o.op = .load ty xo)
    (hw : Region.wanted o (yielded ops a.tmps) = true) (g : Nat) (hx : a.eval xo = .pointer (some ⟨g, 0, none⟩)) (t : TypeId) (cs : Array Value) (fr : Nat × Nat) (d : TypeDesc)
    (hg : ∀ x : HW S, x.w.heap[g]? = some (.cells cs t fr)) (hu : P.underlying ty = some d) (hd : (match d with | .struct _ | .array _ _ => true | _ => false) = true) (hi : (P.info? ty).map (·.size) = some cs.size)
    (h : headG P ops S Q rest (a.put o.dst (.agg cs))) : headG P ops S Q (o :: rest) a := by
  unfold headG oneG
  rw [if_pos hw]
  refine ⟨.agg cs, fun x => ?_, h⟩
  unfold execOp
  simp only [ho, hx, Instr.loadAt, Instr.sureAddr, Sem.run_bind, Sem.run_pure, Result.andThen_ok, run_loadVar_row x.w g t ty cs fr d (hg x) hu hd hi, comesTo]
  exact ⟨trivial, x.h⟩
/-- a world after some draws -/
def QC (w : World) (W : World) : Prop := ∃ n, W = w.drewN n
theorem QC_heap {w W : World} (h : QC w W) : W.heap = w.heap := by obtain ⟨n, rfl⟩ := h; rfl
theorem QC_below {B : Nat} {w0 w W : World} (hb : RowKit.Below B w0 w) (h : QC w W) : RowKit.Below B w0 W := by
  obtain ⟨n, rfl⟩ := h
  exact hb.trans ⟨rfl, rfl, rfl, Nat.le_refl _, fun _ _ => rfl⟩
theorem QC_blk1 {w W : World} {g : Nat} {o : Obj} (h : QC w W) (hb : w.heap[g]? = some o) : W.heap[g]? = some o := by rw [QC_heap h]; exact hb
theorem QC_start (w : World) : QC w w.drew := ⟨1, rfl⟩
theorem QC_cell {w : World} {a : Addr} {v : Value} (h : w.cell? a = some v) (x : HW (QC w)) : x.w.cell? a = some v := by
  obtain ⟨n, hn⟩ := x.h
  rw [hn]
  exact h
theorem QC_free {w : World} {a : Addr} {b : Bool} (h : w.frozen? a = b) (x : HW (QC w)) : x.w.frozen? a = b := by
  obtain ⟨n, hn⟩ := x.h
  rw [hn]
  exact h
theorem QC_blk {w : World} {g : Nat} {o : Obj} (h : w.heap[g]? = some o) (x : HW (QC w)) : x.w.heap[g]? = some o := by
  obtain ⟨n, hn⟩ := x.h
  rw [hn]
  exact h
theorem QC_all {w : World} (x : HW (QC w)) : QC w x.w := x.h
theorem QC_call {P : Program} {w : World} {f : FuncId} {args : Array Value} {v : Value} (x : HW (QC w)) (h : Calls P f args x.w fun e w' => e = .returned v ∧ x.w = w') :
    Calls P f args x.w (fun e w'' => e = .returned v ∧ QC w w'') := h.mono fun _ _ ⟨he, hw⟩ => ⟨he, hw ▸ x.h⟩
theorem QC_inst (w : World) : Nonempty (HW (QC w)) := ⟨⟨_, QC_start w⟩⟩
/-- what is known of the world at hand, and the world forgotten -/
theorem abs_world {P : Program} {c : Code} {Q : Exit → Act → World → Prop} {a : Act} {w : World} (R : World → Prop) (hR : R w) (h : ∀ w1, R w1 → c.wp P Q a w1) : c.wp P Q a w := h w hR
/-- a store of one cell into a block whose cells are known: the world behind it is a letter -/
theorem wl_store_cell {P : Program} {ops : Array Oper} {Q : Exit → Act → World → Prop} {rest : List Oper} {o : Oper} {a : Act} {w : World} (hgd : o.guard = none) (ty : TypeId) (x y : Operand) (ho : o.op = .store ty x y)
    (hd : o.dst = none) (g i : Nat) (v : Value) (hx : a.eval x = .pointer (some ⟨g, i, none⟩)) (hy : a.eval y = v) (h1 : v.oneCell' = true) (hi : (P.info? ty).map (·.size) = some 1)
    {cs : Array Value} {t : TypeId} (hg : w.heap[g]? = some (.cells cs t (0, 0))) (hlt : i < cs.size)
    (h : ∀ W, W.heap[g]? = some (.cells (cs.setIfInBounds i v) t (0, 0)) → (∀ k, k ≠ g → W.heap[k]? = w.heap[k]?) → (∀ B w0, B ≤ g → RowKit.Below B w0 w → RowKit.Below B w0 W) → wpList P ops Q rest a W) : wpList P ops Q (o :: rest) a w := by
  have hc : w.cell? ⟨g, i, none⟩ = some cs[i] := by rw [cell_of_row w g i cs t _ hg]; simp [hlt]
  have hf : w.frozen? ⟨g, i, none⟩ = false := frozen_of_row _ _ _ _ _ hg
  have hcs : v.cells = #[v] := by cases v <;> first | rfl | cases h1
  have hrun : (storeVar ty ⟨g, i, none⟩ v).run P w = .ok () (w.setCell ⟨g, i, none⟩ v) := by
    cases hq : P.info? ty with
    | none => simp [hq] at hi
    | some ti =>
      have hs : ti.size = 1 := by simpa [hq] using hi
      have hst : (storeCells ⟨g, i, none⟩ [v]).run P w = .ok () (w.setCell ⟨g, i, none⟩ v) := by
        cases v <;> first | (cases h1; done) | simp [storeCells, store, Sem.run, go_sem, hc, hf]
      simp [storeVar, sizeOf, typeInfo, hq, hcs, hs, hst]
  refine wpList_plain hgd fun _ hK => ?_
  unfold Oper.wp execOp
  simp only [ho, hx, hy, Instr.storeAt, Instr.sureAddr, Sem.run_bind, Sem.run_pure, Result.andThen_ok, hrun, Oper.upon, hd, Act.put]
  refine hK _ _ (h _ (heap_setCell_same w g i cs t v hg) (fun k hk => heap_setCell_other w _ k v hk) (fun B w0 hB hb => hb.setCell hB v))
theorem wl_store_int {P : Program} {ops : Array Oper} {Q : Exit → Act → World → Prop} {rest : List Oper} {o : Oper} {a : Act} {w : World} (hgd : o.guard = none) (ty : TypeId) (x y : Operand) (ho : o.op = .store ty x y)
    (hd : o.dst = none) (g i : Nat) (k : IntKind) (n : Int) (hx : a.eval x = .pointer (some ⟨g, i, none⟩)) (hy : a.eval y = .int k n) (hi : (P.info? ty).map (·.size) = some 1)
    {cs : Array Value} {t : TypeId} (hg : w.heap[g]? = some (.cells cs t (0, 0))) (hlt : i < cs.size)
    (h : ∀ W, W.heap[g]? = some (.cells (cs.setIfInBounds i (.int k n)) t (0, 0)) → (∀ k, k ≠ g → W.heap[k]? = w.heap[k]?) → (∀ B w0, B ≤ g → RowKit.Below B w0 w → RowKit.Below B w0 W) → wpList P ops Q rest a W) : wpList P ops Q (o :: rest) a w :=
  wl_store_cell hgd ty x y ho hd g i _ hx hy rfl hi hg hlt h
/-- a world that has at most new blocks -/
def BC (w : World) (W : World) : Prop := RowKit.Below w.heap.size w W
theorem BC_start (w : World) : BC w w.drew := (RowKit.Below.refl _ _).drew
theorem BC_blk {w : World} {g : Nat} {o : Obj} (h : w.heap[g]? = some o) (x : HW (BC w)) : x.w.heap[g]? = some o := (x.h.block g (Array.getElem?_eq_some_iff.1 h).1).trans h
theorem BC_blk1 {w W : World} (hW : BC w W) {g : Nat} {o : Obj} (h : w.heap[g]? = some o) : W.heap[g]? = some o := (hW.block g (Array.getElem?_eq_some_iff.1 h).1).trans h
theorem BC_cell {w : World} {a : Addr} {v : Value} (h : w.cell? a = some v) (x : HW (BC w)) : x.w.cell? a = some v := (x.h.cell (block_lt_of_cell h)).trans h
theorem BC_all {w : World} (x : HW (BC w)) : BC w x.w := x.h
theorem BC_inst (w : World) : Nonempty (HW (BC w)) := ⟨⟨_, BC_start w⟩⟩
theorem BC_below {B : Nat} {w0 w W : World} (hb : RowKit.Below B w0 w) (hB : B ≤ w.heap.size) (h : BC w W) : RowKit.Below B w0 W := hb.trans (h.mono hB)
theorem BC_call {P : Program} {w : World} {f : FuncId} {args : Array Value} {v : Value} (x : HW (BC w)) (h : Calls P f args x.w fun e w' => e = .returned v ∧ RowKit.Below x.w.heap.size x.w w') :
    Calls P f args x.w (fun e w'' => e = .returned v ∧ BC w w'') := h.mono fun _ _ ⟨he, hw⟩ => ⟨he, x.h.trans (hw.mono x.h.size)⟩
theorem BC_callq {P : Program} {w : World} {f : FuncId} {args : Array Value} {v : Value} (x : HW (BC w)) (h : Calls P f args x.w fun e w' => e = .returned v ∧ x.w = w') :
    Calls P f args x.w (fun e w'' => e = .returned v ∧ BC w w'') := h.mono fun _ _ ⟨he, hw⟩ => ⟨he, hw ▸ x.h⟩
theorem HW.facts {S : World → Prop} (x : HW S) : S x.w := x.h
end Go.Proofs.YtagdlbadkmgdmaaDoor
