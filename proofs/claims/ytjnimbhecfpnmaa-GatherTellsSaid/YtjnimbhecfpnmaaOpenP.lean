/- Parts that come in: a part by value, a slice of parts. -/
import Derived.Test.YtjnimbhecfpnmaaPart
import Derived.Test.YtjnimbhecfpnmaaOpenB
import Derived.OpenShut
namespace Go.Proofs.Ytjnimbhecfpnmaa
open Go.ChangeShapes Go.WideShapes Go.ChangeAt Go.RowKit

set_option maxRecDepth 100000
theorem take1 {cs : List Value} {i : Nat} (h : i < cs.length) : (cs.drop i).take 1 = [cs[i]] := by
  rw [List.drop_eq_getElem_cons h, List.take_succ_cons, List.take_zero]
theorem row_cells {P : Program} {H : Type} {enc : TypeId × Value → H} {w : World} {base n fuel : Nat} {spare : Nat → Bool} {held : Bool} {t e : TypeId} {k : IntKind} {cs : List Value} {x : DataW H × List MemPlace}
    (ht : P.underlying t = some (.array n e)) (he : P.underlying e = some (.int k)) (hC : P.cellsOf t = n) (hCe : P.cellsOf e = 1)
    (hf : DataW.trod enc P w base spare held fuel t cs = some x) : ∃ l : List Int, cs = l.map (Value.int k) ∧ l.length = n ∧ ∀ y ∈ l, (Lit.int k y).wf = true := by
  obtain ⟨xs, m, _, _, hlen, hl, hg⟩ := DataW.trod_array ht hf
  have hn : cs.length = n := hlen.trans hC
  have hc : ∀ i (hi : i < n), ∃ z, cs[i]'(by omega) = .int k z ∧ (Lit.int k z).wf = true := by
    intro i hi
    have h1 := hg i hi
    have hx : xs[i]? = some xs[i] := List.getElem?_eq_getElem (by omega)
    rw [hx, hCe, Nat.mul_one] at h1
    rw [take1 (by omega)] at h1
    obtain ⟨a, h3, _, h4⟩ := DataW.trod_int he h1
    exact ⟨a, by simpa using h3, h4⟩
  refine ⟨cs.map intOf, ?_, by simp [hn], ?_⟩
  · apply List.ext_getElem
    · simp
    · intro i h1 h2
      obtain ⟨z, hz, _⟩ := hc i (by omega)
      simp [hz, intOf]
  · intro y hy
    obtain ⟨v, hv, rfl⟩ := List.mem_map.1 hy
    obtain ⟨i, hi, rfl⟩ := List.getElem_of_mem hv
    obtain ⟨z, hz, hw⟩ := hc i (by omega)
    rw [hz]
    exact hw
/-- what a part that came in is: its cells, its bytes -/
def IsPart (w : World) (cs : List Value) (wh : List Int) (s a : Int) (v : Value) (l : List Int) : Prop :=
  cs = pcells wh s a v ∧ wh.length = 32 ∧ Bytes wh ∧ (Lit.int .i64 s).wf = true ∧ (Lit.int .i64 a).wf = true ∧ ∃ b o, SlV v b o l.length ∧ Lies w b o l ∧ Bytes l
theorem bytes_of_wf {l : List Int} (h : ∀ y ∈ l, (Lit.int .u8 y).wf = true) : Bytes l := bytes_mem fun x hx => by
  have := h x hx
  simp [Lit.wf, IntKind.min, IntKind.max, IntKind.signed, IntKind.bits] at this
  omega
theorem trod_part {H : Type} {enc : TypeId × Value → H} {w : World} {base fuel : Nat} {held : Bool} {cs : List Value} {x : DataW H × List MemPlace}
    (h : DataW.trod enc Try.prog w base (fun _ => true) held fuel 26 cs = some x) : ∃ wh s a v l, IsPart w cs wh s a v l := by
  obtain ⟨ys, n, _, _, hlen, hyl, hf⟩ := DataW.trod_struct Try.underlying26 h
  have hcl : cs.length = 35 := hlen.trans (by kernel_rfl)
  have f0 : DataW.trod enc Try.prog w base (fun _ => true) held n 23 ((cs.drop 0).take (Try.prog.cellsOf 23)) = ys[0]? := hf 0 _ rfl
  have f1 : DataW.trod enc Try.prog w base (fun _ => true) held n 3 ((cs.drop 32).take (Try.prog.cellsOf 3)) = ys[1]? := hf 1 _ rfl
  have f2 : DataW.trod enc Try.prog w base (fun _ => true) held n 3 ((cs.drop 33).take (Try.prog.cellsOf 3)) = ys[2]? := hf 2 _ rfl
  have f3 : DataW.trod enc Try.prog w base (fun _ => true) held n 24 ((cs.drop 34).take (Try.prog.cellsOf 24)) = ys[3]? := hf 3 _ rfl
  have z0 : Try.prog.cellsOf 23 = 32 := by kernel_rfl
  have z1 : Try.prog.cellsOf 3 = 1 := by kernel_rfl
  have z2 : Try.prog.cellsOf 24 = 1 := by kernel_rfl
  have hy : ys.length = 4 := hyl
  rw [z0, List.getElem?_eq_getElem (by omega), List.drop_zero] at f0
  rw [z1, List.getElem?_eq_getElem (by omega), take1 (by omega)] at f1
  rw [z1, List.getElem?_eq_getElem (by omega), take1 (by omega)] at f2
  rw [z2, List.getElem?_eq_getElem (by omega), take1 (by omega)] at f3
  obtain ⟨wh, hwh, hw32, hwf⟩ := row_cells Try.underlying23 Try.underlying5 z0 (by kernel_rfl) f0
  obtain ⟨s, hs, _, hsw⟩ := DataW.trod_int Try.underlying3 f1
  obtain ⟨a, ha, _, haw⟩ := DataW.trod_int Try.underlying3 f2
  have hs' : cs[32]'(by omega) = .int .i64 s := by simpa using hs
  have ha' : cs[33]'(by omega) = .int .i64 a := by simpa using ha
  have hcs : ∀ v, cs[34]'(by omega) = v → cs = pcells wh s a v := by
    intro v hv
    unfold pcells
    rw [← hwh, ← hs', ← ha', ← hv]
    apply List.ext_getElem
    · simp [hcl]
    · intro i h1 h2
      by_cases hi : i < 32
      · rw [List.getElem_append_left (by simp; omega)]
        simp
      · rw [List.getElem_append_right (by simp; omega)]
        have : i = 32 ∨ i = 33 ∨ i = 34 := by omega
        rcases this with rfl | rfl | rfl <;> simp [hcl]
  rcases open_ints Try.underlying24 Try.underlying5 (by kernel_rfl) f3 with ⟨hc, _⟩ | ⟨ad, len, cap, zs, hc, _, hl, hm, hz, _, hcell, hwz⟩
  · have hv : cs[34]'(by omega) = .slice none 0 0 := by simpa using hc
    exact ⟨wh, s, a, _, [], hcs _ hv, hw32, bytes_of_wf hwf, hsw, haw, 0, 0, ⟨none, 0, rfl, Nat.le_refl _, Nat.zero_le _, fun h => by simp at h, fun _ => rfl⟩, Lies.nil _ _ _, bytes_nil⟩
  · have hv : cs[34]'(by omega) = .slice (some ad) len cap := by simpa using hc
    obtain ⟨b, o, l, h1, h2, h3⟩ := isb_of_row (w := w) (a := some ad) (len := len) (cap := cap) (zs := zs) (.inr ⟨ad, rfl, hl, hm, by simpa using hz, hcell, hwz⟩)
    exact ⟨wh, s, a, _, l, hcs _ hv, hw32, bytes_of_wf hwf, hsw, haw, b, o, h1, h2, h3⟩
theorem open_part {H : Type} {enc : TypeId × Value → H} {w : World} {base b0 : Nat} {held : Bool} {r : Reach} {v : Value} {d : DataW H} {p : List MemPlace}
    (hv : Value.okWide Try.prog w r b0 26 v) (h : DataW.Trod enc Try.prog w base (fun _ => true) held 26 v d p) :
    ∃ wh s a u l, v = .agg (pcells wh s a u).toArray ∧ wh.length = 32 ∧ Bytes wh ∧ (Lit.int .i64 s).wf = true ∧ (Lit.int .i64 a).wf = true ∧ ∃ b o, SlV u b o l.length ∧ Lies w b o l ∧ Bytes l := by
  obtain ⟨cs, rfl, _⟩ := okWide_struct Try.underlying26 hv
  obtain ⟨fuel, hf⟩ := h
  obtain ⟨wh, s, a, u, l, h1, h2⟩ := trod_part hf
  refine ⟨wh, s, a, u, l, ?_, h2⟩
  have h3 : cs.toList = pcells wh s a u := h1
  rw [← h3]
end Go.Proofs.Ytjnimbhecfpnmaa
