/- What comes in, at layer 14: slices of structs; what is shown, deeds, contents; the table of tens. -/
import Derived.Test.YtagdlbadkmgdmaaDoorTrees14
import Derived.Test.YtagdlbadkmgdmaaDoorOpenS
import Derived.Test.YtagdlbadkmgdmaaDoorRows
import Derived.OpenShut
import Derived.ShutString
import Derived.ChangeOld
import Derived.LaidMore
import Derived.LaidLaws
import Derived.MakeChecks
namespace Go.Proofs.YtagdlbadkmgdmaaDoor
set_option maxRecDepth 100000
open Go.ChangeShapes Go.WideShapes Go.ChangeAt Go.RowKit

theorem take1 {cs : List Value} {i : Nat} (h : i < cs.length) : (cs.drop i).take 1 = [cs[i]] := by
  rw [List.drop_eq_getElem_cons h, List.take_succ_cons, List.take_zero]
theorem choose_list {α : Type} {p : Nat → α → Prop} : ∀ n, (∀ i, i < n → ∃ x, p i x) → ∃ l : List α, l.length = n ∧ ∀ i (h : i < l.length), p i l[i]
  | 0, _ => ⟨[], rfl, fun i h => by simp at h⟩
  | n + 1, h => by
    obtain ⟨l, hl, hp⟩ := choose_list n (fun i hi => h i (by omega))
    obtain ⟨x, hx⟩ := h n (by omega)
    refine ⟨l ++ [x], by simp [hl], fun i hi => ?_⟩
    by_cases e : i < l.length
    · rw [List.getElem_append_left e]; exact hp i e
    · have e2 : i = n := by simp at hi; omega
      subst e2
      rw [List.getElem_append_right (by omega)]
      simpa [hl] using hx
theorem row_cells {P : Program} {H : Type} {enc : TypeId × Value → H} {w : World} {base n fuel : Nat} {spare : Nat → Bool} {held : Bool} {t e : TypeId} {k : IntKind} {cs : List Value} {x : DataW H × List MemPlace}
    (ht : P.underlying t = some (.array n e)) (he : P.underlying e = some (.int k)) (hC : P.cellsOf t = n) (hCe : P.cellsOf e = 1)
    (hf : DataW.trod enc P w base spare held fuel t cs = some x) : ∃ l : List Int, cs = l.map (Value.int k) ∧ l.length = n ∧ ∀ y ∈ l, (Lit.int k y).wf = true := by
  obtain ⟨xs, m, _, _, hlen, hl, hg⟩ := DataW.trod_array ht hf
  have hn : cs.length = n := hlen.trans hC
  have hc : ∀ i (hi : i < n), ∃ z, cs[i]'(by omega) = .int k z ∧ (Lit.int k z).wf = true := by
    intro i hi
    have h1 := hg i hi
    have hx : xs[i]? = some xs[i] := List.getElem?_eq_getElem (by omega)
    rw [hx, hCe, Nat.mul_one] at h1
    rw [take1 (by omega)] at h1
    obtain ⟨a, h3, _, h4⟩ := DataW.trod_int he h1
    exact ⟨a, by simpa using h3, h4⟩
  refine ⟨cs.map intOf, ?_, by simp [hn], ?_⟩
  · apply List.ext_getElem
    · simp
    · intro i h1 h2
      obtain ⟨z, hz, _⟩ := hc i (by omega)
      simp [hz, intOf]
  · intro y hy
    obtain ⟨v, hv, rfl⟩ := List.mem_map.1 hy
    obtain ⟨i, hi, rfl⟩ := List.getElem_of_mem hv
    obtain ⟨z, hz, hw⟩ := hc i (by omega)
    rw [hz]
    exact hw
/-- A SLICE OF STRUCTS THAT CAME IN: each element's cells are what f says. -/
theorem open_rows {H : Type} {enc : TypeId × Value → H} {P : Program} {w : World} {fuel : Nat} {t e : TypeId} {a0 : Option Addr} {len0 cap0 : Nat} {x : DataW H × List MemPlace} {α : Type} (n : Nat) (hn0 : 0 < n) (f : α → List Value) (ok : α → Prop) (hfn : ∀ a, ok a → (f a).length = n)
    (ht : P.underlying t = some (.slice e)) (hce : P.cellsOf e = n)
    (hel : ∀ (fuel : Nat) (cs : List Value) (y : DataW H × List MemPlace), DataW.trod enc P w 0 (fun _ => true) true fuel e cs = some y → ∃ a : α, cs = f a ∧ ok a)
    (hf : DataW.trod enc P w 0 (fun _ => true) true fuel t (Value.slice a0 len0 cap0).cells.toList = some x) : ∃ qs : List α, (∀ q ∈ qs, ok q) ∧ RdG n w.heap.size w (.slice a0 len0 cap0) (qs.map f) := by
  rcases DataW.trod_slice ht hf with ⟨hcs, _⟩ | ⟨a, len, cap, elems, rest, m, rfl, hcs, hx, _, hl, hm, hlen, hE0, _, _⟩
  · simp [Value.cells] at hcs
    obtain ⟨rfl, rfl, rfl⟩ := hcs
    exact ⟨[], fun q hq => absurd hq List.not_mem_nil, RdG.nil _ _ _⟩
  · simp [Value.cells] at hcs
    obtain ⟨rfl, rfl, rfl⟩ := hcs
    have each : ∀ i, i < len0 → ∃ q : α, ok q ∧ ∀ j, j < n → w.cell? ((a.add (i * n)).add j) = (f q)[j]? := by
      intro i hi
      have hE := hE0 i hi
      obtain ⟨y, hy⟩ : ∃ y, elems[i]? = some y := ⟨_, List.getElem?_eq_getElem (by omega)⟩
      rw [hy, hce] at hE
      simp only [Option.bind_eq_some_iff] at hE
      obtain ⟨cs, hc, hy1⟩ := hE
      obtain ⟨q, rfl, hq⟩ := hel _ _ _ hy1
      refine ⟨q, hq, fun j hj => ?_⟩
      unfold World.cells? at hc
      rw [if_pos (Nat.zero_le _)] at hc
      exact mapM_some_get hc j j (by simp [hj])
    obtain ⟨qs, hql, hq⟩ := choose_list len0 each
    have hall : ∀ q ∈ qs, ok q := fun q hqm => by
      obtain ⟨i, hi, rfl⟩ := List.getElem_of_mem hqm
      exact (hq i hi).1
    have hrn : ∀ r ∈ qs.map f, r.length = n := fun r hr => by
      obtain ⟨q, hqm, rfl⟩ := List.mem_map.1 hr
      exact hfn q (hall q hqm)
    have hrl : (qs.map f).length = len0 := by rw [List.length_map, hql]
    obtain ⟨b, off, spot⟩ := a
    refine ⟨qs, hall, hrn, b, off, ?_⟩
    by_cases h0 : 0 < qs.length
    · have hc0 := (hq 0 h0).2 0 hn0
      rw [List.getElem?_eq_getElem (by rw [hfn _ (hq 0 h0).1]; exact hn0)] at hc0
      have hs : spot = none := by simpa [Addr.add] using World.cell?_spot hc0
      subst hs
      refine ⟨⟨_, cap0, by rw [hrl], by omega, hm, fun _ => rfl, fun h => by cases h⟩, fun x u hx => ?_, fun _ => ?_⟩
      · have hxl : x < qs.length * n := by
          have := (List.getElem?_eq_some_iff.1 hx).1
          rwa [flat_len hrn, hrl, ← hql] at this
        have hi : x / n < qs.length := (Nat.div_lt_iff_lt_mul hn0).2 hxl
        have hj : x % n < n := Nat.mod_lt _ hn0
        have hxe : x / n * n + x % n = x := by rw [Nat.mul_comm]; exact Nat.div_add_mod x n
        have h := (hq (x / n) hi).2 (x % n) hj
        have e := flat_get hrn (i := x / n) (by rw [List.length_map]; exact hi) hj
        rw [hxe, hx] at e
        rw [Addr.add_mid, Addr.add_mid, Nat.add_assoc, hxe] at h
        rw [h, e, List.getElem_map]
      · obtain ⟨vv, h⟩ : ∃ vv, w.cell? (((⟨b, off, none⟩ : Addr).add (0 * n)).add 0) = some vv := ⟨_, hc0⟩
        rw [Addr.add_mid, Addr.add_mid] at h
        exact block_lt_of_cell h
    · have hn : qs = [] := List.eq_nil_of_length_eq_zero (by omega)
      subst hn
      have : len0 = 0 := by simpa using hql.symm
      subst this
      exact ⟨⟨_, cap0, rfl, Nat.zero_le _, hm, fun h => by simp at h, fun h => by cases h⟩, fun j u hj => by simp at hj, fun h => by simp at h⟩
/-- contents that came in -/
theorem open_blobs {w : World} {v : Value} {n : Nat} (h : SlSl w v n) (hm : ∃ a c, v = .slice a n c ∧ n ≤ c ∧ c ≤ maxLen ∧ (a = none → c = 0)) : ∃ bs : List Bl, GoodB0 w bs ∧ RdG 1 w.heap.size w v (blR bs) := by
  obtain ⟨a, cap, rfl, hp⟩ := h
  obtain ⟨a', c', he, h1, h2, h3⟩ := hm
  injection he with e1 _ e3
  subst e1; subst e3
  rcases Nat.eq_zero_or_pos n with h0 | h0
  · subst h0
    refine ⟨[], fun q hq => absurd hq List.not_mem_nil, fun r hr => absurd hr List.not_mem_nil, 0, 0, ⟨_, _, rfl, h1, h2, fun h => absurd h (Nat.lt_irrefl 0), h3⟩, fun j u hj => by simp [blR] at hj, fun h => absurd h (Nat.lt_irrefl 0)⟩
  · obtain ⟨B, O, rfl, hc⟩ := hp h0
    obtain ⟨bs, hbl, hb⟩ := choose_list (p := fun i (q : Bl) => w.cell? ⟨B, O + i, none⟩ = some q.2 ∧ (Bytes q.1 ∧ ∃ b o, SlV q.2 b o q.1.length ∧ Lies w b o q.1)) n (fun i hi => by
      obtain ⟨c, b, o, l, g1, g2, g3, g4, _⟩ := hc i hi
      exact ⟨(l, c), g1, g4, b, o, g2, g3⟩)
    have hrl : (blR bs).length = n := by rw [blR, List.length_map, hbl]
    refine ⟨bs, fun q hq => ?_, blR_n bs, B, O, ⟨_, _, by rw [hrl], by rw [hrl]; exact h1, h2, fun _ => rfl, fun h => by cases h⟩, fun j u hj => ?_, fun _ => ?_⟩
    · obtain ⟨i, hi, rfl⟩ := List.getElem_of_mem hq
      exact (hb i hi).2
    · have hjl : j < bs.length := by
        have := (List.getElem?_eq_some_iff.1 hj).1
        rwa [flat_len (blR_n bs), hrl, ← hbl, Nat.mul_one] at this
      have e := flat_get (blR_n bs) (i := j) (by rw [hrl, ← hbl]; exact hjl) (j := 0) (by decide)
      rw [Nat.mul_one, Nat.add_zero, hj] at e
      have e2 : (blR bs)[j]'(by rw [hrl, ← hbl]; exact hjl) = [bs[j].2] := by simp [blR]
      rw [e2] at e
      injection e with e
      rw [(hb j hjl).1, e]
    · exact block_lt_of_cell (hb 0 (by omega)).1
theorem open_contents {H : Type} {enc : TypeId × Value → H} {w : World} {b0 : Nat} {r : Reach} {v : Value} {d : DataW H} {p : List MemPlace}
    (hv : Value.okWide Tryd.prog w r b0 56 v) (h : DataW.Trod enc Tryd.prog w 0 (fun _ => true) true 56 v d p) (hsz : ∀ n ∈ d.weights Tryd.prog 56, n ≤ reachBytes) : ∃ bs : List Bl, GoodB0 w bs ∧ RdG 1 w.heap.size w v (blR bs) := by
  obtain ⟨a0, len0, cap0, rfl⟩ := okWide_slice Tryd.underlying56 hv
  obtain ⟨fuel, hf⟩ := h
  have h1 := open_slices Tryd.underlying56 Tryd.underlying57 Tryd.underlying5 (by kernel_rfl) (by kernel_rfl) (by kernel_rfl) hf hsz
  refine open_blobs h1 ?_
  rcases DataW.trod_slice Tryd.underlying56 hf with ⟨hcs, _⟩ | ⟨a, len, cap, elems, rest, m, rfl, hcs, hx, _, hl, hm, hlen, hE0, _, _⟩
  · simp [Value.cells] at hcs
    obtain ⟨rfl, rfl, rfl⟩ := hcs
    exact ⟨_, _, rfl, Nat.le_refl _, Nat.zero_le _, fun _ => rfl⟩
  · simp [Value.cells] at hcs
    obtain ⟨rfl, rfl, rfl⟩ := hcs
    exact ⟨_, _, rfl, hl, hm, fun h => by cases h⟩
theorem trod_shown {H : Type} {enc : TypeId × Value → H} {w : World} {base fuel : Nat} {held : Bool} {cs : List Value} {x : DataW H × List MemPlace}
    (h : DataW.trod enc Tryd.prog w base (fun _ => true) held fuel 40 cs = some x) : ∃ s : Sd, cs = sdC s ∧ s.sum.length = 32 := by
  obtain ⟨ys, n, _, _, hlen, hyl, hf⟩ := DataW.trod_struct Tryd.underlying40 h
  have hcl : cs.length = 36 := hlen.trans (by kernel_rfl)
  have f0 : DataW.trod enc Tryd.prog w base (fun _ => true) held n 9 ((cs.drop 0).take (Tryd.prog.cellsOf 9)) = ys[0]? := hf 0 _ rfl
  have f1 : DataW.trod enc Tryd.prog w base (fun _ => true) held n 34 ((cs.drop 1).take (Tryd.prog.cellsOf 34)) = ys[1]? := hf 1 _ rfl
  have f2 : DataW.trod enc Tryd.prog w base (fun _ => true) held n 36 ((cs.drop 3).take (Tryd.prog.cellsOf 36)) = ys[2]? := hf 2 _ rfl
  have f3 : DataW.trod enc Tryd.prog w base (fun _ => true) held n 3 ((cs.drop 35).take (Tryd.prog.cellsOf 3)) = ys[3]? := hf 3 _ rfl
  have z0 : Tryd.prog.cellsOf 9 = 1 := by kernel_rfl
  have z1 : Tryd.prog.cellsOf 34 = 2 := by kernel_rfl
  have z2 : Tryd.prog.cellsOf 36 = 32 := by kernel_rfl
  have z3 : Tryd.prog.cellsOf 3 = 1 := by kernel_rfl
  have hy : ys.length = 4 := hyl
  rw [z0, List.getElem?_eq_getElem (by omega), take1 (by omega)] at f0
  rw [z1, List.getElem?_eq_getElem (by omega)] at f1
  rw [z2, List.getElem?_eq_getElem (by omega)] at f2
  rw [z3, List.getElem?_eq_getElem (by omega), take1 (by omega)] at f3
  obtain ⟨s, hs, _, _⟩ := DataW.trod_string Tryd.underlying9 f0
  obtain ⟨a, ha, _, _⟩ := DataW.trod_int Tryd.underlying3 f3
  obtain ⟨wh, hwh, hw32, _⟩ := row_cells Tryd.underlying36 Tryd.underlying5 z2 (by kernel_rfl) f2
  obtain ⟨zs, n2, _, _, hlen2, hyl2, hf2⟩ := DataW.trod_struct Tryd.underlying34 f1
  have hcl2 : ((cs.drop 1).take 2).length = 2 := hlen2.trans z1
  have g0 : DataW.trod enc Tryd.prog w base (fun _ => true) held n2 3 ((((cs.drop 1).take 2).drop 0).take (Tryd.prog.cellsOf 3)) = zs[0]? := hf2 0 _ rfl
  have g1 : DataW.trod enc Tryd.prog w base (fun _ => true) held n2 2 ((((cs.drop 1).take 2).drop 1).take (Tryd.prog.cellsOf 2)) = zs[1]? := hf2 1 _ rfl
  have z4 : Tryd.prog.cellsOf 2 = 1 := by kernel_rfl
  have hzl : zs.length = 2 := hyl2
  rw [z3, List.getElem?_eq_getElem (by omega), take1 (by omega)] at g0
  rw [z4, List.getElem?_eq_getElem (by omega), take1 (by omega)] at g1
  obtain ⟨d0, hd0, _, _⟩ := DataW.trod_int Tryd.underlying3 g0
  obtain ⟨d1, hd1, _, _⟩ := DataW.trod_int Tryd.underlying2 g1
  have c0 : cs[0]'(by omega) = .string s := by simpa using hs
  have c1 : cs[1]'(by omega) = .int .i64 d0 := by simpa using hd0
  have c2 : cs[2]'(by omega) = .int .i64 d1 := by simpa using hd1
  have c35 : cs[35]'(by omega) = .int .i64 a := by simpa using ha
  refine ⟨⟨s, (d0, d1), wh, a⟩, ?_, hw32⟩
  apply List.ext_getElem
  · rw [hcl, sdC_len]
  · intro i h1 h2
    apply Option.some.inj
    rw [← List.getElem?_eq_getElem h1, ← List.getElem?_eq_getElem h2]
    unfold sdC
    dsimp only
    rcases Nat.lt_or_ge i 3 with hi | hi
    · rw [List.getElem?_append_left (by simpa using hi), List.getElem?_eq_getElem h1]
      have : i = 0 ∨ i = 1 ∨ i = 2 := by omega
      rcases this with rfl | rfl | rfl
      · exact congrArg some c0
      · exact congrArg some c1
      · exact congrArg some c2
    · rw [List.getElem?_append_right (by simpa using hi)]
      rcases Nat.lt_or_ge i 35 with hj | hj
      · have k1 : ((cs.drop 3).take 32)[i - 3]? = cs[i]? := by
          rw [List.getElem?_take_of_lt (by omega), List.getElem?_drop, show 3 + (i - 3) = i by omega]
        rw [hwh, List.getElem?_map] at k1
        rw [List.getElem?_append_left (by simp; omega), ← k1]
        have k2 : i - 3 < wh.length := by omega
        have k3 : i - 3 < 32 := by omega
        simp [List.getD, k3, List.getElem?_eq_getElem k2]
      · have : i = 35 := by omega
        subst this
        rw [List.getElem?_eq_getElem h1, c35, List.getElem?_append_right (by simp)]
        simp
theorem open_shown {H : Type} {enc : TypeId × Value → H} {w : World} {b0 : Nat} {r : Reach} {v : Value} {d : DataW H} {p : List MemPlace}
    (hv : Value.okWide Tryd.prog w r b0 31 v) (h : DataW.Trod enc Tryd.prog w 0 (fun _ => true) true 31 v d p) : ∃ ss : List Sd, (∀ s ∈ ss, s.sum.length = 32) ∧ RdG 36 w.heap.size w v (sdR ss) := by
  obtain ⟨a0, len0, cap0, rfl⟩ := okWide_slice Tryd.underlying31 hv
  obtain ⟨fuel, hf⟩ := h
  exact open_rows 36 (by decide) sdC (fun s => s.sum.length = 32) (fun s _ => sdC_len s) Tryd.underlying31 (by kernel_rfl) (fun _ _ _ h => trod_shown h) hf
theorem trod_deed {H : Type} {enc : TypeId × Value → H} {w : World} {base fuel : Nat} {held : Bool} {cs : List Value} {x : DataW H × List MemPlace}
    (h : DataW.trod enc Tryd.prog w base (fun _ => true) held fuel 69 cs = some x) : ∃ d : De, cs = deC d ∧ okDe d := by
  obtain ⟨ys, n, _, _, hlen, hyl, hf⟩ := DataW.trod_struct Tryd.underlying69 h
  have hcl : cs.length = 6 := hlen.trans (by kernel_rfl)
  have f0 : DataW.trod enc Tryd.prog w base (fun _ => true) held n 5 ((cs.drop 0).take (Tryd.prog.cellsOf 5)) = ys[0]? := hf 0 _ rfl
  have f1 : DataW.trod enc Tryd.prog w base (fun _ => true) held n 5 ((cs.drop 1).take (Tryd.prog.cellsOf 5)) = ys[1]? := hf 1 _ rfl
  have f2 : DataW.trod enc Tryd.prog w base (fun _ => true) held n 5 ((cs.drop 2).take (Tryd.prog.cellsOf 5)) = ys[2]? := hf 2 _ rfl
  have f3 : DataW.trod enc Tryd.prog w base (fun _ => true) held n 4 ((cs.drop 3).take (Tryd.prog.cellsOf 4)) = ys[3]? := hf 3 _ rfl
  have f4 : DataW.trod enc Tryd.prog w base (fun _ => true) held n 4 ((cs.drop 4).take (Tryd.prog.cellsOf 4)) = ys[4]? := hf 4 _ rfl
  have f5 : DataW.trod enc Tryd.prog w base (fun _ => true) held n 5 ((cs.drop 5).take (Tryd.prog.cellsOf 5)) = ys[5]? := hf 5 _ rfl
  have z0 : Tryd.prog.cellsOf 5 = 1 := by kernel_rfl
  have z1 : Tryd.prog.cellsOf 4 = 1 := by kernel_rfl
  have hy : ys.length = 6 := hyl
  rw [z0, List.getElem?_eq_getElem (by omega), take1 (by omega)] at f0 f1 f2 f5
  rw [z1, List.getElem?_eq_getElem (by omega), take1 (by omega)] at f3 f4
  obtain ⟨a0, h0, _, w0⟩ := DataW.trod_int Tryd.underlying5 f0
  obtain ⟨a1, h1, _, w1⟩ := DataW.trod_int Tryd.underlying5 f1
  obtain ⟨a2, h2, _, w2⟩ := DataW.trod_int Tryd.underlying5 f2
  obtain ⟨a3, h3, _⟩ := DataW.trod_bool Tryd.underlying4 f3
  obtain ⟨a4, h4, _⟩ := DataW.trod_bool Tryd.underlying4 f4
  obtain ⟨a5, h5, _, w5⟩ := DataW.trod_int Tryd.underlying5 f5
  simp [Lit.wf, IntKind.min, IntKind.max, IntKind.signed, IntKind.bits] at w0 w1 w2 w5
  obtain ⟨n0, rfl⟩ := Int.eq_ofNat_of_zero_le w0.1
  obtain ⟨n1, rfl⟩ := Int.eq_ofNat_of_zero_le w1.1
  obtain ⟨n2, rfl⟩ := Int.eq_ofNat_of_zero_le w2.1
  obtain ⟨n5, rfl⟩ := Int.eq_ofNat_of_zero_le w5.1
  refine ⟨⟨n0, n1, n2, a3, a4, n5⟩, ?_, by unfold okDe; dsimp only; omega⟩
  match cs, hcl with
  | [x0, x1, x2, x3, x4, x5], _ =>
    simp only [List.getElem_cons_succ, List.getElem_cons_zero, List.cons.injEq, and_true] at h0 h1 h2 h3 h4 h5
    rw [h0, h1, h2, h3, h4, h5]
    rfl
theorem open_deeds {H : Type} {enc : TypeId × Value → H} {w : World} {b0 : Nat} {r : Reach} {v : Value} {d : DataW H} {p : List MemPlace}
    (hv : Value.okWide Tryd.prog w r b0 22 v) (h : DataW.Trod enc Tryd.prog w 0 (fun _ => true) true 22 v d p) : ∃ ds : List De, (∀ d ∈ ds, okDe d) ∧ RdG 6 w.heap.size w v (deR ds) := by
  obtain ⟨a0, len0, cap0, rfl⟩ := okWide_slice Tryd.underlying22 hv
  obtain ⟨fuel, hf⟩ := h
  exact open_rows 6 (by decide) deC okDe (fun s _ => rfl) Tryd.underlying22 (by kernel_rfl) (fun _ _ _ h => trod_deed h) hf
/-- THE TABLE OF TENS, out of the row's listed variables -/
abbrev laid3 : List (String × DataW Unit) := [("math/bits.deBruijn32tab", Rows.laid_math_bits_deBruijn32tab), ("math/bits.deBruijn64tab", Rows.laid_math_bits_deBruijn64tab), ("internal/strconv.uint64pow10", Rows.laid_internal_strconv_uint64pow10)]
theorem tab_laid {W : World} (h : laidMetH Tryd.prog laid3 W) : Tab W := by
  rw [MakeChecks.laidMetH_plain _ _ _ (by kernel_rfl)] at h
  obtain ⟨ps, ⟨g0, t0, cs0, f0, p0, q0, hg0, ht0, hv0, hd0, ⟨g1, t1, cs1, f1, p1, q1, hg1, ht1, hv1, hd1, hh, _⟩, _⟩, _⟩ := h
  obtain ⟨g2, t2, cs2, f2, p2, q2, hg2, ht2, hv2, hd2, _⟩ := hh
  have gT : ∃ g, Tryd.prog.globalNamed "internal/strconv.uint64pow10" = some g ∧ (Tryd.prog.globals[g]?).map (·.type) = some 149 := ⟨_, rfl, by kernel_rfl⟩
  obtain ⟨g, hg, hgt⟩ := gT
  obtain rfl := Option.some.inj (hg.symm.trans hg2)
  obtain rfl := Option.some.inj (hgt.symm.trans ht2)
  have e : (Rows.laid_internal_strconv_uint64pow10 : DataW Unit) = Lib.tabData .u64 Lib.pow10Tab := by rfl
  rw [e] at hd2
  have hc := Lib.cells_of_tab Tryd.underlying149 Tryd.underlying142 (by kernel_rfl) (by kernel_rfl) hd2
  unfold Tab Lib.TabIs
  rw [hv2, ← hc]
end Go.Proofs.YtagdlbadkmgdmaaDoor
