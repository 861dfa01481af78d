/- Files: plain, their cells, slices of them; bindle/view.Tree. -/
import Derived.Test.YtagdlbadkmgdmaaDoorBlob
import Derived.Test.YtagdlbadkmgdmaaDoorApp
import Derived.Test.YtagdlbadkmgdmaaDoorSlots
import Derived.Lib.Walk
import Derived.ChangeArms
import Derived.Deep.Cut
namespace Go.Proofs.YtagdlbadkmgdmaaDoor
set_option maxRecDepth 100000
open Go.ChangeShapes Go.WideShapes Go.ChangeAt Go.RowKit

abbrev Fi := (ByteArray × List Int) × Value
def fiC (f : Fi) : List Value := [.string f.1.1, f.2]
def fiR (fs : List Fi) : Rows' := fs.map fiC
theorem fiR_n (fs : List Fi) : ∀ r ∈ fiR fs, r.length = 2 := fun r hr => by
  obtain ⟨d, _, rfl⟩ := List.mem_map.1 hr
  rfl
def shFi : Sh := ⟨92, 58, 2, 40, .agg #[.string ByteArray.empty, .slice none 0 0]⟩
theorem shFi_ok : shFi.Ok := ⟨info_parts (by kernel_rfl), by kernel_rfl, by kernel_rfl, by decide, by decide, by decide⟩
def Held1 (w : World) (v : Value) (l : List Int) : Prop := l.length ≤ 1000000 ∧ Bytes l ∧ ∃ b o, SlV v b o l.length ∧ Lies w b o l
def GoodF (w : World) (fs : List Fi) : Prop := ∀ f ∈ fs, Held1 w f.2 f.1.2
def GoodFT (w : World) (fs : List Fi) : Prop := ∀ f ∈ fs, TyB 5 w f.2
theorem Held1.to {w w' : World} {v : Value} {l : List Int} (h : Held1 w v l) (hb : BC w w') : Held1 w' v l := by
  obtain ⟨h1, h2, b, o, h3, h4⟩ := h
  exact ⟨h1, h2, b, o, h3, h4.below hb⟩
theorem Held1.form {w : World} {v : Value} {l : List Int} (h : Held1 w v l) : ∃ a c, v = .slice a l.length c := by
  obtain ⟨_, _, b, o, ⟨a, c, e, _⟩, _⟩ := h
  exact ⟨a, c, e⟩
theorem GoodF.to {w w' : World} {fs : List Fi} (h : GoodF w fs) (hb : BC w w') : GoodF w' fs := fun f hf => (h f hf).to hb
theorem GoodFT.to {w w' : World} {fs : List Fi} (h : GoodFT w fs) (hb : BC w w') : GoodFT w' fs := fun f hf => (h f hf).to hb
theorem Held1.grown {w w' : World} {v u : Value} {l : List Int} {T' : TypeId} (h : Held1 w v l) (ht : TyB 5 w v) (hu : TyB T' w u) (hg : w.grownBy w' u.ownBlock) (hT : 5 ≠ T') : Held1 w' v l := by
  obtain ⟨h1, h2, b, o, h3, h4⟩ := h
  refine ⟨h1, h2, b, o, h3, fun j hj => ?_⟩
  obtain ⟨a, c, rfl, _, _, ha, _⟩ := h3
  obtain rfl := ha (by omega)
  obtain ⟨c1, f1, k1⟩ := ht b rfl
  refine hg.cell (h4 j hj) fun e => ?_
  obtain ⟨c2, f2, k2⟩ := hu b e.symm
  rw [k1] at k2
  injection k2 with e
  injection e with _ e _
  exact hT e
theorem TyB.grow2 {T T' : TypeId} {w w' : World} {v u : Value} (h : TyB T w v) (hu : TyB T' w u) (hg : w.grownBy w' u.ownBlock) (hT : T ≠ T') : TyB T w' v := fun k hk => by
  obtain ⟨c1, f1, h1⟩ := h k hk
  refine ⟨c1, f1, (hg.block k (blk_lt h1) fun e => ?_).trans h1⟩
  obtain ⟨c2, f2, h2⟩ := hu k e.symm
  rw [h1] at h2
  injection h2 with e
  injection e with _ e _
  exact hT e
theorem Own.ty {base : Nat} {w : World} {v : Value} {l : List Int} (h : Own base w v l) : TyB 5 w v := fun k hk => by
  obtain ⟨_, ⟨rfl, _⟩ | ⟨g, cap, cur, rfl, _, hg, _⟩⟩ := h
  · cases hk
  · obtain rfl : g = k := by injection hk
    exact ⟨_, _, hg⟩
theorem Own.mono2 {base base' : Nat} {w : World} {v : Value} {l : List Int} (h : Own base w v l) (hb : base' ≤ base) : Own base' w v l := by
  obtain ⟨h1, h2 | ⟨g, cap, cur, rfl, hb', rest⟩⟩ := h
  · exact ⟨h1, .inl h2⟩
  · exact ⟨h1, .inr ⟨g, cap, cur, rfl, Nat.le_trans hb hb', rest⟩⟩
theorem Own.held {base : Nat} {w : World} {v : Value} {l : List Int} (h : Own base w v l) (h1 : l.length ≤ 1000000) (h2 : Bytes l) : Held1 w v l := by
  obtain ⟨g, h3, h4, _⟩ := h.slv
  exact ⟨h1, h2, g, 0, h3, h4⟩
/-- the files of what is shown, of contents -/
def treeK (ss : List Sd) (bl : List (List Int)) : Nat → Option (List (ByteArray × List Int))
  | 0 => some []
  | i + 1 => match treeK ss bl i, ss[i]? with
    | some fs, some s => (bl.find? (fitsF s)).map fun l => fs ++ [(s.path, l)]
    | _, _ => none
theorem treeK_none (ss : List Sd) (bl : List (List Int)) (i : Nat) (h : treeK ss bl i = none) : ∀ k, treeK ss bl (i + k) = none
  | 0 => h
  | k + 1 => by rw [← Nat.add_assoc, treeK, treeK_none ss bl i h k]
theorem find_at {α : Type} {pr : α → Bool} {l : List α} {k : Nat} (hk : k < l.length) (h1 : pr l[k] = true) (h2 : ∀ j (hj : j < l.length), j < k → pr l[j] = false) : l.find? pr = some l[k] := by
  rw [List.find?_eq_some_iff_getElem]
  exact ⟨h1, k, hk, rfl, fun j hj => by rw [h2 j (by omega) hj]; rfl⟩
theorem find_not {α : Type} {pr : α → Bool} {l : List α} (h : ∀ j (hj : j < l.length), pr l[j] = false) : l.find? pr = none := by
  rw [List.find?_eq_none]
  intro x hx
  obtain ⟨j, hj, rfl⟩ := List.getElem_of_mem hx
  rw [h j hj]
  exact Bool.false_ne_true
/-- a clone, a file of it, a slice of that -/
def FileOf (b0 : Nat) (pa : ByteArray) (l : List Int) (v : Value) (w : World) : Prop := ∃ c, v = .agg #[.string pa, c] ∧ Own b0 w c l
theorem FileOf.to {b0 : Nat} {pa : ByteArray} {l : List Int} {v : Value} {w w' : World} (hb : BC w w') (h : FileOf b0 pa l v w) : FileOf b0 pa l v w' := by
  obtain ⟨c, h1, h2⟩ := h
  exact ⟨c, h1, h2.below hb⟩
def FileSl (b0 : Nat) (pa : ByteArray) (l : List Int) (v : Value) (w : World) : Prop := ∃ b c, v = .slice (some ⟨b, 0, none⟩) 1 1 ∧ w.heap[b]? = some (.cells #[.string pa, c] 92 (0, 0)) ∧ Own b0 w c l
theorem FileSl.to {b0 : Nat} {pa : ByteArray} {l : List Int} {v : Value} {w w' : World} (hb : BC w w') (h : FileSl b0 pa l v w) : FileSl b0 pa l v w' := by
  obtain ⟨b, c, h1, h2, h3⟩ := h
  exact ⟨b, c, h1, BC_blk1 hb h2, h3.below hb⟩
attribute [local irreducible] SlV Lies headG slotG
attribute [local go_sem] takes takesE comesTo comesToP
set_option maxHeartbeats 16000000 in
theorem tree_any (v vb : Value) (ss : List Sd) (bs : List Bl) (w : World) (hv : RdG 36 w.heap.size w v (sdR ss)) (hn : ss.length ≤ 100000) (hsum : ∀ s ∈ ss, s.sum.length = 32) (hb : RdB w vb bs) (hm : bs.length ≤ 100000) :
    Calls Tryd.prog 19 #[v, vb] w fun e w' => ((treeK ss (bs.map (·.1)) ss.length = none ∧ e = .returned (.tuple #[.slice none 0 0, .int .i64 6])) ∨ (∃ v' fs, treeK ss (bs.map (·.1)) ss.length = some (fs.map (·.1)) ∧ e = .returned (.tuple #[v', .int .i64 0]) ∧ RdG 2 w'.heap.size w' v' (fiR fs) ∧ GoodF w' fs)) ∧ Below w.heap.size w w' := by
  obtain ⟨_, g, o, sv, rg, _⟩ := hv
  have hlen : (sdR ss).length = ss.length := by simp [sdR]
  rw [hlen] at sv
  obtain ⟨a, c, rfl, _, _, ha, _⟩ := by unfold SlV at sv; exact sv
  obtain ⟨n, hN⟩ : ∃ n, n = ss.length := ⟨_, rfl⟩
  rw [← hN] at ha hn ⊢
  have hb0 := hb
  obtain ⟨_, _, gb, ob, svb, rgb, _⟩ := hb
  have hlen2 : (blR bs).length = bs.length := by simp [blR]
  rw [hlen2] at svb
  obtain ⟨ab, cb, rfl, _, _, hab, _⟩ := by unfold SlV at svb; exact svb
  obtain ⟨m, hM⟩ : ∃ n, n = bs.length := ⟨_, rfl⟩
  rw [← hM] at hab hm hb0 ⊢
  obtain ⟨bl, hbl⟩ : ∃ l, l = bs.map (·.1) := ⟨_, rfl⟩
  rw [← hbl]
  have HV := bx (And.intro rg (And.intro hN (And.intro ha (And.intro hn hsum))))
  have HB := bx (And.intro rgb (And.intro hM (And.intro hab (And.intro hm (And.intro hb0 hbl)))))
  clear sv rg hN ha hn hlen hsum rgb hM hab hm hb0 svb hlen2 hbl
  go_enter Tryd.func19, Tryd.ntmps19
  go_upto_region 3 with fail
  go_loopw [6, 12] (fun v6 v12 wr => ∃ (i : Nat) (fs : List Fi), i ≤ n ∧ v12 = .int .i64 (i : Int) ∧ OwnG shFi w.heap.size wr v6 (fiR fs) ∧ GoodF wr fs ∧ GoodFT wr fs ∧ treeK ss bl i = some (fs.map (·.1)) ∧ fs.length ≤ i ∧ BC w wr) (fun _ i _ => n - (intOf i).toNat)
  case atStart => exact ⟨0, [], Nat.zero_le _, rfl, OwnG.nil _ _ _, fun f hf => absurd hf List.not_mem_nil, fun f hf => absurd hf List.not_mem_nil, rfl, Nat.le_refl _, BC_refl _⟩
  case round =>
    obtain ⟨i, fs, hi, rfl, hown, hgf, hgt, htk, hfl, hbr⟩ := hrel
    have HR := bx (And.intro hown (And.intro hgf (And.intro hgt (And.intro htk (And.intro hfl (And.intro hbr hi))))))
    clear hown hgf hgt htk hfl hbr hi
    by_cases hlt : i < n
    · have i0 : (0 : Int) ≤ (i : Int) := by omega
      have i1 : (i : Int) < (n : Int) := by omega
      obtain ⟨I1, hI1⟩ : ∃ m, m = i + 1 := ⟨_, rfl⟩
      have s1 : IntKind.i64.wrap ((i : Int) + 1) = (I1 : Int) := by rw [IntKind.wrap_i64]; have := HV.out.2.2.2.1; omega
      have hiq : i < ss.length := by rw [← HV.out.2.1]; exact hlt
      obtain rfl := HV.out.2.2.1 (by omega)
      have hrg := rangeG_get HV.out.1 (sdR_n ss) (show i < (sdR ss).length by simp [sdR]; exact hiq)
      have hvi : (sdR ss)[i]'(by simp [sdR]; exact hiq) = sdC (ss[i]'hiq) := by simp [sdR]
      rw [hvi] at hrg
      have hsm := HV.out.2.2.2.2 _ (List.getElem_mem hiq)
      have hse : ss[i]? = some (ss[i]'hiq) := List.getElem?_eq_getElem hiq
      obtain ⟨s, hs⟩ : ∃ s, s = ss[i]'hiq := ⟨_, rfl⟩
      rw [← hs] at hrg hsm hse
      have hstep : treeK ss bl I1 = (bl.find? (fitsF s)).map fun l => fs.map (·.1) ++ [(s.path, l)] := by rw [hI1, treeK, HR.out.2.2.2.1, hse]
      obtain ⟨A, hA⟩ : ∃ A, A = (sdC s).toArray := ⟨_, rfl⟩
      have hAz : A.size = 36 := by rw [hA]; simpa using sdC_len s
      have hA1 : A.all (·.oneCell') = true := by rw [hA]; exact Array.all_eq_true_iff_forall_mem.2 (fun v hv => sdC_one _ v (by simpa using hv))
      have hrg2 : wr.rangeAt g (o + i * 36) A.toList := fun j u hj => later HR.out.2.2.2.2.2.1 (hrg j u (by rw [hA] at hj; exact hj))
      obtain ⟨W8, hW8⟩ : ∃ W, W = wr.alloc (.cells A 40) := ⟨_, rfl⟩
      obtain ⟨g8, hg8⟩ : ∃ g, g = wr.heap.size := ⟨_, rfl⟩
      have n8 := heap_alloc_new wr (.cells A 40)
      have b8 := below1 wr (.cells A 40)
      rw [← hW8, ← hg8] at n8
      rw [← hW8] at b8
      have bw8 := BC_trans HR.out.2.2.2.2.2.1 b8
      have HIX := bx (index_any 41 g8 (enters_of Tryd.func41 (by kernel_rfl) rfl) (fun p => fitsF s p.1) (.slice ab m cb) bs W8 (HB.out.2.2.2.2.1.to bw8) (by have h1 := HB.out.2.1; have h2 := HB.out.2.2.2.1; omega)
        (fun W hW q hq => tree1_any s hsm g8 q W (by rw [← hA]; exact BC_blk1 hW n8) ((HB.out.2.2.2.2.1.1.to (BC_trans bw8 hW)) q hq)))
      obtain ⟨pa, hpa⟩ : ∃ x, x = s.path := ⟨_, rfl⟩
      have c0 : ∀ x : HW (BC W8), x.w.cell? ⟨g8, 0, none⟩ = some (.string pa) := fun x => cell_row (BC_blk1 x.h n8) 0 (by rw [hA, hpa]; rfl)
      have HI := bx (And.intro hI1 (And.intro hlt (And.intro hstep hpa)))
      have H8 := bx (And.intro hW8 (And.intro hg8 (And.intro b8 (And.intro hrg2 (And.intro hAz (And.intro hA1 bw8))))))
      clear hI1 hlt hstep hpa hrg hvi hsm hse hs hiq hA hAz hA1 hrg2 hW8 hg8 n8 b8 bw8
      go_upto_region 5 with (first
        | ((with_reducible refine wlw_load_mid (o := ⟨some 15, _, _, _, _, _⟩) ?_ 40 (.tmp 14) ?_ _ _ ?_ A _ H8.out.2.2.2.1 Tryd.underlying40 ?_ ?_ ?_); (focus rfl); (focus rfl); (focus rfl); (focus rfl); (focus (rw [H8.out.2.2.2.2.1]; kernel_rfl)))
        | (refine wpList_store_rowTo rfl 40 _ _ rfl rfl _ A rfl rfl 40 _ (heap_alloc_new wr _) (by rw [H8.out.2.2.2.2.1]; kernel_rfl) (by rw [H8.out.2.2.2.2.1]; kernel_rfl) H8.out.2.2.2.2.2.1 ?_; rw [World.setRow_alloc_new]))
      rw [← H8.out.1, ← H8.out.2.1]
      go_wp2_with fail
      refine HIX.out.mono ?_
      rintro e w9 ⟨rfl, b9⟩
      have H9 := bx (And.intro (show BC W8 w9 from b9) (BC_trans H8.out.2.2.2.2.2.2 b9))
      clear b9
      by_cases hex : ∃ k, ∃ hk : k < bs.length, fitsF s bs[k].1 = true ∧ ∀ j (hj : j < bs.length), j < k → fitsF s bs[j].1 = false
      · obtain ⟨k, hk, hk1, hk2⟩ := hex
        have hpos : posI (fun p : Bl => fitsF s p.1) bs = (k : Int) := posI_hit _ _ k hk hk1 hk2
        have hkm : k < m := by rw [HB.out.2.1]; exact hk
        rw [hpos]
        have hkbl : k < bl.length := by rw [HB.out.2.2.2.2.2, List.length_map]; exact hk
        have hfind : bl.find? (fitsF s) = some bs[k].1 := by
          have h := find_at (pr := fitsF s) (l := bl) hkbl (by simp only [HB.out.2.2.2.2.2, List.getElem_map]; exact hk1) (fun j hj hjk => by simp only [HB.out.2.2.2.2.2, List.getElem_map]; exact hk2 j (by rw [HB.out.2.2.2.2.2, List.length_map] at hj; exact hj) hjk)
          rw [h]
          simp only [HB.out.2.2.2.2.2, List.getElem_map]
        have hpm := List.getElem_mem hk
        have hrk := rangeG_get HB.out.1 (blR_n bs) (show k < (blR bs).length by simp [blR]; exact hk)
        obtain ⟨p, hp⟩ : ∃ p, p = bs[k] := ⟨_, rfl⟩
        rw [← hp] at hpm hfind
        have hgb := (HB.out.2.2.2.2.1.1.to H9.out.2) p hpm
        have hrk0 := hrk 0 p.2 (by simp [blR, hp])
        rw [Nat.mul_one, Nat.add_zero] at hrk0
        obtain rfl := HB.out.2.2.1 (by omega)
        obtain ⟨l, hl⟩ : ∃ l, l = p.1 := ⟨_, rfl⟩
        obtain ⟨pv, hpv⟩ : ∃ v, v = p.2 := ⟨_, rfl⟩
        rw [← hl, ← hpv] at hgb
        rw [← hpv] at hrk0
        rw [← hl] at hfind
        have c2 : ∀ x : HW (BC w9), x.w.cell? ⟨gb, ob + k, none⟩ = some pv := fun x => later (BC_trans H9.out.2 x.h) hrk0
        have c1 : ∀ x : HW (BC w9), x.w.cell? ⟨g8, 0, none⟩ = some (.string pa) := fun x => c0 ⟨x.w, BC_trans H9.out.1 x.h⟩
        have k0 : (0 : Int) ≤ (k : Int) := by omega
        have k1 : (k : Int) < (m : Int) := by omega
        have k2 : ¬ (k : Int) < 0 := by omega
        obtain ⟨b0, hb0⟩ : ∃ b, b = w9.heap.size := ⟨_, rfl⟩
        obtain ⟨pva, pvc, hpvf⟩ : ∃ a c, pv = .slice a l.length c := by
          obtain ⟨_, _, b, o, h, _⟩ := hgb
          obtain ⟨a, c, e, _⟩ := by unfold SlV at h; exact h
          exact ⟨a, c, e⟩
        have HCL : Bx (∀ x : HW (BC w9), Calls Tryd.prog 42 #[pv] x.w fun e w' => ∃ v', e = .returned v' ∧ Own b0 w' v' l ∧ Below x.w.heap.size x.w w') := bx fun x => by
          obtain ⟨h1, h2, b, o, h3, h4⟩ := hgb
          refine (clone_any b o pv l h1 h3 x.w (h4.below x.h)).mono ?_
          rintro e w' ⟨v', rfl, h5, h6⟩
          exact ⟨v', rfl, Own.mono2 h5 (by rw [hb0]; exact (show Below w9.heap.size w9 x.w from x.h).size), h6⟩
        have HK := bx (And.intro hfind (And.intro hgb.1 (And.intro hgb.2.1 (And.intro hb0 hpvf))))
        subst hpvf
        obtain ⟨ll, hll⟩ : ∃ n, n = l.length := ⟨_, rfl⟩
        rw [← hll] at HCL c2
        clear hk hk1 hk2 hpos hkm hkbl hfind hpm hrk hgb hrk0 hp hl hpv hb0 c0 HIX hll
        go_upto_region 8 with fail
        refine wp_region_slotsT 10 (by kernel_rfl) (by kernel_rfl) (by kernel_rfl) (by kernel_rfl) (by kernel_rfl) (by kernel_rfl) [none, none, none, none, none, none, none, some (fun v w => Own b0 w v l), some (FileOf b0 pa l), some (FileSl b0 pa l)] ?_
        simp only [List.take_succ_cons, List.take_zero, List.drop_succ_cons, List.drop_zero]
        repeat (first
          | (refine slotG_oneN (fun K hK => ?_)
             apply Exists.intro
             refine ⟨fun x u hF => ?_, ?_⟩
             (focus (go_simp
                     first
                       | (exact rfl)
                       | (exact ⟨rfl, BC_refl _⟩)))
             apply Exists.intro
             refine ⟨fun u => ?_, ?_⟩
             (focus (go_simp; try exact rfl))
             refine hK _ ?_
             clear hK K))
        refine slotG_someN (i := 7) (fun v w w' hb h2 => h2.below hb) (fun K hK => ?_)
        refine ⟨fun x u hF => ?_, ?_⟩
        focus
          go_simp
          go_at_call 42
          refine (HCL.out x).mono ?_
          rintro e w' ⟨v', rfl, h1, h2⟩
          exact ⟨_, rfl, h1, h2⟩
        apply Exists.intro
        refine ⟨fun u => ?_, ?_⟩
        (focus (go_simp; try exact rfl))
        refine hK _ ?_
        clear hK K
        refine slotG_someN (i := 8) (fun v w w' hb h2 => h2.to hb) (fun K hK => ?_)
        refine ⟨fun x u hF => ?_, ?_⟩
        focus
          have HF := Lib.hid (hF.1 (by kernel_rfl))
          clear hF
          obtain ⟨y, hy⟩ : ∃ y, y = u 7 := ⟨_, rfl⟩
          rw [← hy] at HF
          obtain ⟨ya, yc, hyf⟩ : ∃ a c, y = .slice a l.length c := by
            obtain ⟨_, ⟨rfl, h0⟩ | ⟨g, cap, cur, rfl, _⟩⟩ := HF.out
            · exact ⟨none, 0, by rw [h0]⟩
            · exact ⟨_, _, rfl⟩
          rw [hyf] at hy HF
          have hy2 := hy.symm
          clear hy
          have hB := bx (BC_refl x.w)
          go_simp
          exact ⟨⟨_, rfl, HF.out⟩, hB.out⟩
        apply Exists.intro
        refine ⟨fun u => ?_, ?_⟩
        (focus (go_simp; try exact rfl))
        refine hK _ ?_
        clear hK K
        refine slotG_someN (i := 9) (fun v w w' hb h2 => h2.to hb) (fun K hK => ?_)
        refine ⟨fun x u hF => ?_, ?_⟩
        focus
          have HF := Lib.hid (hF.1 (by kernel_rfl))
          clear hF
          obtain ⟨y, hy⟩ : ∃ y, y = u 8 := ⟨_, rfl⟩
          rw [← hy] at HF
          obtain ⟨cz, hyz, hyo⟩ := HF.out
          obtain ⟨ya, yc, hyf⟩ : ∃ a c, cz = .slice a l.length c := by
            obtain ⟨_, ⟨rfl, h0⟩ | ⟨g, cap, cur, rfl, _⟩⟩ := hyo
            · exact ⟨none, 0, by rw [h0]⟩
            · exact ⟨_, _, rfl⟩
          rw [hyf] at hyz hyo
          have HYO := bx hyo
          rw [hyz] at hy
          have hy2 := hy.symm
          clear hy hyo hyz hyf HF
          go_simp
          exact ⟨⟨_, _, rfl, heap_alloc_new _ _, HYO.out.below (below1 _ _)⟩, below1 _ _⟩
        apply Exists.intro
        refine ⟨fun u => ?_, ?_⟩
        (focus (go_simp; try exact rfl))
        refine hK _ ?_
        clear hK K
        refine slotG_end ?_
        intro wy u hby hall
        obtain ⟨gn, cn, h1, h2, h3⟩ := hall.1
        rw [h1]
        have byr : BC wr wy := BC_trans (show BC wr W8 from H8.out.2.2.1) (BC_trans H9.out.1 hby)
        have hr3 : wy.rangeAt gn 0 (fiC ((pa, l), cn)) := fun j u hj => by
          rw [Nat.zero_add]
          exact cell_row h2 j (by rw [← List.getElem?_toArray] at hj; exact hj)
        obtain ⟨ya, yc, hyf⟩ : ∃ a c, cn = .slice a l.length c := by
          obtain ⟨_, ⟨rfl, h0⟩ | ⟨g, cap, cur, rfl, _⟩⟩ := h3
          · exact ⟨none, 0, by rw [h0]⟩
          · exact ⟨_, _, rfl⟩
        have hone : ∀ u ∈ fiC ((pa, l), cn), u.oneCell' = true := fun u hu => by
          unfold fiC at hu
          rcases List.mem_cons.1 hu with rfl | hu
          · rfl
          · rw [List.mem_singleton.1 hu, hyf]
            rfl
        have hll : (fiR fs).length ≤ 4000000 := by have h1 := HR.out.2.2.2.2.1; have h2 := HR.out.2.2.2.2.2.2; have h3 := HV.out.2.2.2.1; simp [fiR]; omega
        have bwy := BC_trans HR.out.2.2.2.2.2.1 byr
        have HT := bx (And.intro (HR.out.1.below byr) (And.intro hr3 (And.intro hone (And.intro hll (And.intro (show Below w.heap.size w wy from bwy).size (And.intro bwy (And.intro h3 (And.intro (HR.out.2.1.to byr) (HR.out.2.2.1.to byr)))))))))
        clear h1 h2 h3 byr hr3 hyf hone hll bwy hall hby c1 c2
        go_wp2_with ((with_reducible refine wl_append1T shFi shFi_ok (o := ⟨some 31, _, _, _, _, _⟩) ?_ (.tmp 21) (.tmp 30) ?_ w.heap.size _ (fiR fs) ?_ HT.out.1 gn 0 1 ?_ (fiC ((pa, l), cn)) HT.out.2.1 rfl HT.out.2.2.1 HT.out.2.2.2.1 HT.out.2.2.2.2.1 ?_); (focus rfl); (focus rfl); (focus rfl); (focus rfl); intro v5 w5 own5 gb5 b5)
        have hu : TyB 92 wy u6 := HT.out.1.ty
        have own6 : OwnG shFi w.heap.size w5 v5 (fiR (fs ++ [((pa, l), cn)])) := by
          rw [show fiR (fs ++ [((pa, l), cn)]) = fiR fs ++ [fiC ((pa, l), cn)] by simp [fiR]]
          exact own5
        have g6 : GoodF w5 (fs ++ [((pa, l), cn)]) := fun f hf => by
          rcases List.mem_append.1 hf with h | h
          · exact (HT.out.2.2.2.2.2.2.2.1 f h).grown (HT.out.2.2.2.2.2.2.2.2 f h) hu gb5 (by decide)
          · rw [List.mem_singleton.1 h]
            exact (HT.out.2.2.2.2.2.2.1.held HK.out.2.1 HK.out.2.2.1).grown HT.out.2.2.2.2.2.2.1.ty hu gb5 (by decide)
        have gt6 : GoodFT w5 (fs ++ [((pa, l), cn)]) := fun f hf => by
          rcases List.mem_append.1 hf with h | h
          · exact (HT.out.2.2.2.2.2.2.2.2 f h).grow2 hu gb5 (by decide)
          · rw [List.mem_singleton.1 h]
            exact HT.out.2.2.2.2.2.2.1.ty.grow2 hu gb5 (by decide)
        have tk6 : treeK ss bl I1 = some ((fs ++ [((pa, l), cn)]).map (·.1)) := by
          rw [HI.out.2.2.1, HK.out.1, Option.map_some, List.map_append, ← HI.out.2.2.2]
          rfl
        have HO := bx (And.intro own6 (And.intro g6 (And.intro gt6 (And.intro tk6 ((show Below w.heap.size w _ from HT.out.2.2.2.2.2.1).trans b5)))))
        clear own5 own6 g6 gt6 tk6 b5 gb5 hu
        go_wp2_with fail
        go_roundw
        case rel => exact ⟨I1, _, by have := HI.out; omega, rfl, HO.out.1, HO.out.2.1, HO.out.2.2.1, HO.out.2.2.2.1, by have h1 := HR.out.2.2.2.2.1; have h2 := HI.out.1; rw [List.length_append, List.length_singleton]; omega, HO.out.2.2.2.2⟩
        case measure => have := HI.out; simp [intOf]; omega
      · have hno : ∀ j (hj : j < bs.length), fitsF s bs[j].1 = false := by
          intro j
          induction j using Nat.strongRecOn with
          | _ j ih =>
            intro hj
            cases hf : fitsF s bs[j].1 with
            | false => rfl
            | true => exact (hex ⟨j, hj, hf, fun k hk hkj => ih k hkj hk⟩).elim
        have hpos : posI (fun p : Bl => fitsF s p.1) bs = -1 := posI_miss _ _ hno
        have hfind : bl.find? (fitsF s) = none := find_not fun j hj => by
          simp only [HB.out.2.2.2.2.2, List.getElem_map]
          exact hno j (by rw [HB.out.2.2.2.2.2, List.length_map] at hj; exact hj)
        have htn : treeK ss bl n = none := by
          have h := treeK_none ss bl I1 (by rw [HI.out.2.2.1, hfind]; rfl) (n - I1)
          rw [show I1 + (n - I1) = n by have h1 := HI.out.1; have h2 := HI.out.2.1; omega] at h
          exact h
        rw [hpos]
        have HN := bx htn
        clear hno hpos hfind htn hex
        go_wp2_with fail
        go_ret2
        exact ⟨.inl ⟨HN.out, rfl⟩, H9.out.2⟩
    · have hin : i = n := by have := HR.out.2.2.2.2.2.2; omega
      have hge : ¬ (i : Int) < (n : Int) := by omega
      have HF := bx hin
      clear hin hlt
      go_wp2_with fail
      go_ret2
      refine ⟨.inr ⟨_, fs, by rw [← HF.out]; exact HR.out.2.2.2.1, rfl, HR.out.1.rd (fiR_n fs), HR.out.2.1⟩, HR.out.2.2.2.2.2.1⟩
end Go.Proofs.YtagdlbadkmgdmaaDoor
