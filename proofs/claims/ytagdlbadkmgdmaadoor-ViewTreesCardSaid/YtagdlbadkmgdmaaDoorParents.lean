/- bindle/path.Parents. -/
import Derived.Test.YtagdlbadkmgdmaaDoorPath
import Derived.Test.YtagdlbadkmgdmaaDoorApp
import Derived.ChangeArms
import Derived.Deep.Cut
namespace Go.Proofs.YtagdlbadkmgdmaaDoor
set_option maxRecDepth 100000
open Go.ChangeShapes Go.WideShapes Go.ChangeAt Go.RowKit

def strR (l : List ByteArray) : Rows' := l.map fun b => [.string b]
theorem strR_n (l : List ByteArray) : ∀ r ∈ strR l, r.length = 1 := fun r hr => by
  obtain ⟨d, _, rfl⟩ := List.mem_map.1 hr
  rfl
def shStr : Sh := ⟨9, 54, 1, 16, .string ByteArray.empty⟩
theorem shStr_ok : shStr.Ok := ⟨info_parts (by kernel_rfl), by kernel_rfl, by kernel_rfl, by decide, by decide, by decide⟩
/-- all that a path lies below, by its first i bytes -/
def parK (s : ByteArray) : Nat → List ByteArray
  | 0 => []
  | i + 1 => parK s i ++ if s.data.toList.getD i 0 = 47 then [s.extract 0 i] else []
theorem parK_len (s : ByteArray) : ∀ i, (parK s i).length ≤ i
  | 0 => Nat.le_refl _
  | i + 1 => by
    rw [parK, List.length_append]
    have := parK_len s i
    split
    · rw [List.length_singleton]; omega
    · rw [List.length_nil]; omega
attribute [local irreducible] SlV Lies headG slotG
attribute [local go_sem] takes takesE comesTo comesToP
set_option maxHeartbeats 4000000 in
theorem parents_any (s : ByteArray) (hs : s.size ≤ 4000000) (w : World) :
    Calls Tryd.prog 51 #[.string s] w fun e w' => ∃ v', e = .returned v' ∧ RdG 1 w'.heap.size w' v' (strR (parK s s.size)) ∧ Below w.heap.size w w' := by
  have hsl : ∀ W, (Instr.index 9 (.string ⟨#[47]⟩) (.int .i64 0)).run Tryd.prog W = .ok (.int .u8 47) W := fun W => by
    rw [run_index_string W 9 _ .i64 _ Tryd.underlying9]
    rfl
  obtain ⟨n, hn⟩ : ∃ n, n = s.size := ⟨_, rfl⟩
  rw [← hn] at hs ⊢
  have HV := bx (And.intro hn hs)
  clear hs
  go_enter Tryd.func51, Tryd.ntmps51
  go_upto_region 3 with fail
  try rw [← hn]
  clear hn
  go_loopw [3, 7] (fun v3 v7 wr => ∃ i : Nat, i ≤ n ∧ v7 = .int .i64 (i : Int) ∧ OwnG shStr w.heap.size wr v3 (strR (parK s i)) ∧ BC w wr) (fun _ i _ => n - (intOf i).toNat)
  case atStart => exact ⟨0, Nat.zero_le _, rfl, OwnG.nil _ _ _, BC_refl _⟩
  case round =>
    obtain ⟨i, hi, rfl, hown, hbr⟩ := hrel
    have HR := bx (And.intro hown (And.intro hbr hi))
    clear hown hbr hi
    by_cases hlt : i < n
    · have i0 : (0 : Int) ≤ (i : Int) := by omega
      have i1 : (i : Int) < (n : Int) := by omega
      obtain ⟨I1, hI1⟩ : ∃ m, m = i + 1 := ⟨_, rfl⟩
      have s1 : IntKind.i64.wrap ((i : Int) + 1) = (I1 : Int) := by rw [IntKind.wrap_i64]; have := HV.out.2; omega
      obtain ⟨c, hc⟩ : ∃ c : UInt8, c = s.data.toList.getD i 0 := ⟨_, rfl⟩
      have hidx : ∀ W, (Instr.index 9 (.string s) (.int .i64 (i : Int))).run Tryd.prog W = .ok (.int .u8 (c.toNat : Int)) W := fun W => by
        have h := HV.out.1
        rw [run_index_string W 9 s .i64 _ Tryd.underlying9, dif_pos ⟨by omega, by omega⟩]
        have e : ((i : Int)).toNat = i := by omega
        simp only [e]
        rw [hc, Lib.getD_at]
      have hpk : parK s I1 = parK s i ++ if c = 47 then [s.extract 0 i] else [] := by rw [hI1, parK, ← hc]
      have HI := bx (And.intro hI1 (And.intro hlt hpk))
      clear hI1 hlt hpk hc
      by_cases h47 : (c.toNat : Int) = 47
      · have hc47 : c = 47 := by
          apply UInt8.toNat_inj.1
          show c.toNat = 47
          omega
        rw [h47] at hidx
        have hpk2 : parK s I1 = parK s i ++ [s.extract 0 i] := by rw [HI.out.2.2, if_pos hc47]
        have HP := bx hpk2
        clear hpk2 hc47 h47
        go_upto_region 5 with fail
        refine wp_region_slots (by kernel_rfl) (by kernel_rfl) (by kernel_rfl) [none, none, none, none, none] ?_
        repeat (first
          | (refine slotG_oneN (fun K hK => ?_)
             apply Exists.intro
             refine ⟨fun x u hF => ?_, ?_⟩
             (focus (go_simp
                     first
                       | (exact rfl)
                       | (exact ⟨rfl, BC_refl _⟩)))
             apply Exists.intro
             refine ⟨fun u => ?_, ?_⟩
             (focus (go_simp; try exact rfl))
             refine hK _ ?_
             clear hK K))
        refine slotG_end ?_
        intro wy u hby hall
        clear hall
        obtain ⟨W3, hW3⟩ : ∃ W, W = wy.alloc (.cells #[.string (s.extract 0 i)] 9) := ⟨_, rfl⟩
        have n3 := heap_alloc_new wy (.cells #[.string (s.extract 0 i)] 9)
        have b3 := below1 wy (.cells #[.string (s.extract 0 i)] 9)
        rw [← hW3] at n3 b3
        have byr := BC_trans HR.out.2.1 hby
        have hr3 : W3.rangeAt wy.heap.size 0 [.string (s.extract 0 i)] := fun j x hj => by
          rw [Nat.zero_add]
          exact cell_row n3 j (by simpa using hj)
        have hl : (strR (parK s i)).length ≤ 4000000 := by have := parK_len s i; have := HI.out.2.1; have := HV.out.2; simp [strR]; omega
        have HT := bx (And.intro hW3 (And.intro ((HR.out.1.below hby).below b3) (And.intro hr3 (And.intro hl (And.intro (BC_trans byr b3).size (BC_trans byr b3))))))
        clear hW3 n3 b3 byr hr3 hl hby
        have i2 : (i : Int) ≤ (s.size : Int) := by have := HV.out.1; omega
        have i3 : i ≤ s.size := by omega
        go_wp2_with (first
          | ((with_reducible refine wl_build1G shStr shStr_ok (o := ⟨some 19, _, _, _, _, _⟩) ?_ (.tmp 18) ?_ (.string (s.extract 0 i)) ?_ rfl ?_); (focus rfl); (focus rfl); (focus rfl); show wpList _ _ _ _ _ (wy.alloc (.cells #[.string (s.extract 0 i)] 9)); rw [← HT.out.1])
          | ((with_reducible refine wl_append1T shStr shStr_ok (o := ⟨some 20, _, _, _, _, _⟩) ?_ (.tmp 15) (.tmp 19) ?_ w.heap.size _ (strR (parK s i)) ?_ HT.out.2.1 wy.heap.size 0 1 ?_ [.string (s.extract 0 i)] HT.out.2.2.1 rfl ?_ HT.out.2.2.2.1 HT.out.2.2.2.2.1 ?_); (focus rfl); (focus rfl); (focus rfl); (focus rfl); (focus (intro x hx; rw [List.mem_singleton.1 hx]; rfl)); intro v5 w5 own5 gb5 b5))
        have b6 : BC w w5 := (show Below w.heap.size w _ from HT.out.2.2.2.2.2).trans b5
        have own6 : OwnG shStr w.heap.size w5 v5 (strR (parK s I1)) := by
          rw [HP.out, show strR (parK s i ++ [s.extract 0 i]) = strR (parK s i) ++ [[.string (s.extract 0 i)]] by simp [strR]]
          exact own5
        have HO := bx (And.intro own6 b6)
        clear own5 own6 b5 b6 gb5
        go_wp2_with fail
        go_roundw
        case rel => exact ⟨I1, by have := HI.out; omega, rfl, HO.out.1, HO.out.2⟩
        case measure => have := HI.out; simp [intOf]; omega
      · have hbe : ((c.toNat : Int) == 47) = false := beq_eq_false_iff_ne.2 h47
        have hpk2 : parK s I1 = parK s i := by rw [HI.out.2.2, if_neg (fun e => h47 (by rw [e]; rfl)), List.append_nil]
        have HP := bx hpk2
        clear hpk2
        go_upto_region 5 with fail
        refine wp_region_slots (by kernel_rfl) (by kernel_rfl) (by kernel_rfl) [none, none, none, none, none] ?_
        repeat (first
          | (refine slotG_oneN (fun K hK => ?_)
             apply Exists.intro
             refine ⟨fun x u hF => ?_, ?_⟩
             (focus (go_simp
                     first
                       | (exact rfl)
                       | (exact ⟨rfl, BC_refl _⟩)))
             apply Exists.intro
             refine ⟨fun u => ?_, ?_⟩
             (focus (go_simp; try exact rfl))
             refine hK _ ?_
             clear hK K))
        refine slotG_end ?_
        intro wy u hby hall
        have HT := bx (And.intro (HR.out.1.below hby) (BC_trans HR.out.2.1 hby))
        clear hall hby
        go_wp2_with fail
        go_roundw
        case rel => exact ⟨I1, by have := HI.out; omega, rfl, by rw [HP.out]; exact HT.out.1, HT.out.2⟩
        case measure => have := HI.out; simp [intOf]; omega
    · have hin : i = n := by have := HR.out.2.2; omega
      have hge : ¬ (i : Int) < (n : Int) := by omega
      have HF := bx hin
      clear hin hlt
      go_wp2_with fail
      go_ret
      have h := HR.out.1
      rw [HF.out] at h
      exact ⟨_, rfl, h.rd (strR_n _), HR.out.2.1⟩
end Go.Proofs.YtagdlbadkmgdmaaDoor
