/- Events: plain, their cells, slices of them; the walks of bindleref12.Knows and Compare. -/
import Derived.Test.YtagdlbadkmgdmaaDoorVec3
import Derived.Laws.Cover1
import Derived.ChangeArms
import Derived.Deep.Cut
namespace Go.Proofs.YtagdlbadkmgdmaaDoor
set_option maxRecDepth 100000
open Go.ChangeShapes Go.WideShapes Go.ChangeAt Go.RowKit

structure Ev where
  dot : Dt
  deps : List Dt
  kind : Int
  path : ByteArray
  sum : List Int
  size : Int
/-- an event's cells, its vector's slice being the second -/
def evC (q : Ev × Value) : List Value := [.int .i64 q.1.dot.1, .int .i64 q.1.dot.2, q.2, .int .i64 q.1.kind, .string q.1.path] ++ (q.1.sum.map (Value.int .u8) ++ [.int .i64 q.1.size])
theorem evC_len {q : Ev × Value} (h : q.1.sum.length = 32) : (evC q).length = 38 := by simp [evC, h]
theorem evC_one {q : Ev × Value} (h : q.2.oneCell' = true) : ∀ v ∈ evC q, v.oneCell' = true := by
  intro v hv
  unfold evC at hv
  rcases List.mem_append.1 hv with h1 | h1
  · simp at h1
    rcases h1 with rfl | rfl | rfl | rfl | rfl
    · rfl
    · rfl
    · exact h
    · rfl
    · rfl
  · rcases List.mem_append.1 h1 with h2 | h2
    · obtain ⟨x, _, rfl⟩ := List.mem_map.1 h2
      rfl
    · rw [List.mem_singleton.1 h2]
      rfl
theorem evC_size {q : Ev × Value} (h : q.1.sum.length = 32) : (evC q)[37]? = some (.int .i64 q.1.size) := by
  unfold evC
  rw [List.getElem?_append_right (by simp), List.getElem?_append_right (by simp [h])]
  simp [h]
theorem evC_sum {q : Ev × Value} (h : q.1.sum.length = 32) (j : Nat) (hj : j < 32) : (evC q)[5 + j]? = (q.1.sum.map (Value.int .u8))[j]? := by
  unfold evC
  rw [List.getElem?_append_right (by simp), List.getElem?_append_left (by simp [h]; omega)]
  simp
/-- events whose vectors are there -/
def GoodE (base : Nat) (w : World) (qs : List (Ev × Value)) : Prop := ∀ q ∈ qs, q.1.sum.length = 32 ∧ q.1.deps.length ≤ 1000 ∧ RdG 2 base w q.2 (vecR q.1.deps)
theorem GoodE.mono {base base' : Nat} {w : World} {qs : List (Ev × Value)} (h : GoodE base w qs) (hb : base ≤ base') : GoodE base' w qs := fun q hq => ⟨(h q hq).1, (h q hq).2.1, (h q hq).2.2.mono hb⟩
theorem GoodE.below {base : Nat} {w w' : World} {qs : List (Ev × Value)} (h : GoodE base w qs) (hb : Below base w w') : GoodE base w' qs := fun q hq => ⟨(h q hq).1, (h q hq).2.1, (h q hq).2.2.below hb⟩
theorem GoodE.to {w w' : World} {qs : List (Ev × Value)} (h : GoodE w.heap.size w qs) (hb : Below w.heap.size w w') : GoodE w'.heap.size w' qs := (h.below hb).mono hb.size
theorem GoodE.sub {base : Nat} {w : World} {a b : List (Ev × Value)} (ha : GoodE base w a) (hb : ∀ q ∈ b, q ∈ a) : GoodE base w b := fun q hq => ha q (hb q hq)
theorem RdG.one {n base : Nat} {w : World} {v : Value} {rs : Rows'} (h : RdG n base w v rs) : v.oneCell' = true := by
  obtain ⟨a, c, rfl⟩ := h.form
  rfl
def evR (qs : List (Ev × Value)) : Rows' := qs.map evC
theorem evR_append (a b : List (Ev × Value)) : evR (a ++ b) = evR a ++ evR b := by simp [evR]
theorem evR_n {qs : List (Ev × Value)} {base : Nat} {w : World} (h : GoodE base w qs) : ∀ r ∈ evR qs, r.length = 38 := fun r hr => by
  obtain ⟨q, hq, rfl⟩ := List.mem_map.1 hr
  exact evC_len (h q hq).1
theorem evR_one {qs : List (Ev × Value)} {base : Nat} {w : World} (h : GoodE base w qs) : oneR (evR qs) := fun r hr => by
  obtain ⟨q, hq, rfl⟩ := List.mem_map.1 hr
  exact evC_one (h q hq).2.2.one
/-- v is a slice of the events qs, which can be read -/
def RdE (base : Nat) (w : World) (v : Value) (qs : List (Ev × Value)) : Prop := GoodE base w qs ∧ RdG 38 base w v (evR qs)
theorem RdE.to {w w' : World} {v : Value} {qs : List (Ev × Value)} (h : RdE w.heap.size w v qs) (hb : Below w.heap.size w w') : RdE w'.heap.size w' v qs := ⟨h.1.to hb, h.2.to hb⟩
def zEv : Value := .agg ([Value.int .i64 0, .int .i64 0, .slice none 0 0, .int .i64 0, .string ByteArray.empty] ++ ((List.replicate 32 (Value.int .u8 0)) ++ [Value.int .i64 0])).toArray
def shEv : Sh := ⟨38, 24, 38, 104, zEv⟩
theorem shEv_ok : shEv.Ok := ⟨info_parts (by kernel_rfl), by kernel_rfl, by kernel_rfl, by decide, by decide, by decide⟩
/-- how two events stand -/
def cmpE (e f : Ev) : Int := if Op.bytesLess e.path.toList f.path.toList = true then -1 else if (e.path.toList == f.path.toList) = false then 1 else cmpD e.dot f.dot
attribute [local irreducible] SlV Lies headG
attribute [local go_sem] takes takesE comesTo
set_option maxHeartbeats 8000000 in
theorem rknows_any (e f : Ev × Value) (w : World) (hd : e.1.deps.length ≤ 1000) (hv : RdG 2 w.heap.size w e.2 (vecR e.1.deps)) :
    Calls Tryd.prog 28 #[.agg (evC e).toArray, .agg (evC f).toArray] w fun r w' => r = .returned (.bool (hasF e.1.deps f.1.dot)) ∧ Below w.heap.size w w' := by
  obtain ⟨e, ev⟩ := e
  obtain ⟨f, fv⟩ := f
  dsimp only at hd hv ⊢
  have hq := blk2 w (.cells (evC (e, ev)).toArray 38) (.cells (evC (f, fv)).toArray 38)
  have hb := below2 w (.cells (evC (e, ev)).toArray 38) (.cells (evC (f, fv)).toArray 38)
  have HAS := Lib.hid (rhas_any ev e.deps f.dot _ (hv.to hb) (by omega))
  obtain ⟨va, vc, rfl⟩ := hv.form
  have c2 := cell_row hq.1 2 (v := .slice va (vecR e.deps).length vc) rfl
  have d0 := cell_row hq.2 0 (v := .int .i64 f.dot.1) rfl
  have d1 := cell_row hq.2 1 (v := .int .i64 f.dot.2) rfl
  have HB := Lib.hid hb
  clear hq hb hv hd
  obtain ⟨C1, hC1⟩ : ∃ C, C = (evC (e, .slice va (vecR e.deps).length vc)).toArray := ⟨_, rfl⟩
  obtain ⟨C2, hC2⟩ : ∃ C, C = (evC (f, fv)).toArray := ⟨_, rfl⟩
  rw [← hC1, ← hC2] at c2 d0 d1 HB HAS ⊢
  clear hC1 hC2
  go_enter Tryd.func28, Tryd.ntmps28
  go_wp2_with fail
  refine HAS.out.mono ?_
  rintro r w1 ⟨rfl, b1⟩
  have H1 := Lib.hid (BC_trans (show BC w _ from HB.out) b1)
  clear b1
  go_wp2_with fail
  go_ret
  exact ⟨rfl, H1.out⟩
set_option maxHeartbeats 8000000 in
theorem rcompare12_any (e f : Ev × Value) (w : World) :
    Calls Tryd.prog 30 #[.agg (evC e).toArray, .agg (evC f).toArray] w fun r w' => r = .returned (.int .i64 (cmpE e.1 f.1)) ∧ Below w.heap.size w w' := by
  obtain ⟨e, ev⟩ := e
  obtain ⟨f, fv⟩ := f
  dsimp only
  have hq := blk2 w (.cells (evC (e, ev)).toArray 38) (.cells (evC (f, fv)).toArray 38)
  have hb := below2 w (.cells (evC (e, ev)).toArray 38) (.cells (evC (f, fv)).toArray 38)
  have c0 := cell_row hq.1 0 (v := .int .i64 e.dot.1) rfl
  have c1 := cell_row hq.1 1 (v := .int .i64 e.dot.2) rfl
  have c4 := cell_row hq.1 4 (v := .string e.path) rfl
  have d0 := cell_row hq.2 0 (v := .int .i64 f.dot.1) rfl
  have d1 := cell_row hq.2 1 (v := .int .i64 f.dot.2) rfl
  have d4 := cell_row hq.2 4 (v := .string f.path) rfl
  have HCM := Lib.hid (fun W => rcompare9_any e.dot f.dot W)
  have HB := Lib.hid hb
  clear hq hb
  obtain ⟨C1, hC1⟩ : ∃ C, C = (evC (e, ev)).toArray := ⟨_, rfl⟩
  obtain ⟨C2, hC2⟩ : ∃ C, C = (evC (f, fv)).toArray := ⟨_, rfl⟩
  rw [← hC1] at c0 c1 c4 d0 d1 d4 HB ⊢
  rw [← hC2] at c0 c1 c4 d0 d1 d4 HB ⊢
  obtain ⟨r, hr⟩ : ∃ r, r = cmpE e f := ⟨_, rfl⟩
  obtain ⟨z1, hz1⟩ : ∃ z, z = Op.bytesLess e.path.toList f.path.toList := ⟨_, rfl⟩
  obtain ⟨z2, hz2⟩ : ∃ z, z = (e.path.toList == f.path.toList) := ⟨_, rfl⟩
  obtain ⟨rd, hrd⟩ : ∃ z, z = cmpD e.dot f.dot := ⟨_, rfl⟩
  have hr2 : r = if z1 = true then -1 else if z2 = false then 1 else rd := by rw [hr, hz1, hz2, hrd]; rfl
  rw [← hr]
  rw [← hrd] at HCM
  have e1 : Op.bytesLess e.path.toList f.path.toList = z1 := hz1.symm
  have e2 : (e.path.toList == f.path.toList) = z2 := hz2.symm
  have HR := Lib.hid hr2
  clear hC1 hC2 hr hz1 hz2 hrd hr2
  cases z1 with
  | true =>
    have hf : r = -1 := by rw [HR.out]; rfl
    have HF := Lib.hid hf
    clear hf
    go_enter Tryd.func30, Tryd.ntmps30
    go_wp2_with fail
    go_ret
    exact ⟨by rw [HF.out]; rfl, HB.out⟩
  | false =>
    cases z2 with
    | false =>
      have hf : r = 1 := by rw [HR.out]; rfl
      have HF := Lib.hid hf
      clear hf
      go_enter Tryd.func30, Tryd.ntmps30
      go_wp2_with fail
      go_ret
      exact ⟨by rw [HF.out]; rfl, HB.out⟩
    | true =>
      have hf : r = rd := by rw [HR.out]; rfl
      have HF := Lib.hid hf
      clear hf
      go_enter Tryd.func30, Tryd.ntmps30
      go_wp2_with fail
      refine (HCM.out _).mono ?_
      rintro r' w1 ⟨rfl, b1⟩
      have H1 := Lib.hid (BC_trans (show BC w _ from HB.out) b1)
      clear b1
      go_wp2_with fail
      go_ret
      exact ⟨by rw [HF.out]; rfl, H1.out⟩
end Go.Proofs.YtagdlbadkmgdmaaDoor
