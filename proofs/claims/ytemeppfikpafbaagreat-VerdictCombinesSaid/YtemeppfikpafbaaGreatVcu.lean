/- Texts ComZ, laid together. -/
import Derived.Test.YtemeppfikpafbaaGreatVct
/- verdict.Combine (16) where no list holds a cause. -/
namespace Go.Proofs.YtemeppfikpafbaaGreat
open Go.RowKit Go.Sort
set_option maxRecDepth 100000 in
theorem ins84_none (fv : Value) (w : World) : Calls Tryz.prog 84 #[.slice none 0 0, .int .i64 0, .int .i64 0, fv] w fun e w' => e = .returned (.tuple #[]) ∧ w' = w := by
  go_enter Tryz.func84, Tryz.ntmps84
  go_wp2_with fail
  refine wp_loop_rounds 1 ?_
  rw [rounds_succ]
  go_wp2_with fail
  go_end0
  exact ⟨rfl, rfl⟩
set_option maxRecDepth 100000 in
theorem stable62_none (fv : Value) (w : World) : Calls Tryz.prog 62 #[.slice none 0 0, .int .i64 0, fv] w fun e w' => e = .returned (.tuple #[]) ∧ w' = w := by
  go_enter Tryz.func62, Tryz.ntmps62
  go_wp2_with fail
  refine wp_loop_rounds 1 ?_
  rw [rounds_succ]
  go_wp2_with fail
  refine (ins84_none _ _).mono ?_
  rintro e w1 ⟨rfl, hw⟩
  subst w1
  go_wp2_with fail
  refine wp_loop_rounds 1 ?_
  rw [rounds_succ]
  go_wp2_with fail
  go_end0
  exact ⟨rfl, rfl⟩
set_option maxRecDepth 100000 in
theorem stable32_none (fv : Value) (w : World) : Calls Tryz.prog 32 #[.slice none 0 0, fv] w fun e w' => e = .returned (.tuple #[]) ∧ w' = w := by
  go_enter Tryz.func32, Tryz.ntmps32
  go_wp2_with fail
  refine (stable62_none _ _).mono ?_
  rintro e w1 ⟨rfl, hw⟩
  subst w1
  go_wp2_with fail
  go_end0
  exact ⟨rfl, rfl⟩
set_option maxRecDepth 100000 in
set_option maxHeartbeats 4000000 in
theorem combine_zero (ls : List LV) (v : Value) (cb : Bool) (w : World) (h : ListsAt w ls v) (hz : ∀ p ∈ ls, p.2 = []) :
    Calls Tryz.prog 16 #[v, .bool cb] w fun e w' => e = .returned (.slice none 0 0) ∧ Below w.heap.size w w' := by
  obtain ⟨va, vc, rfl, _⟩ := h.row.shape
  have HLS := Lib.hid h
  have HZ := Lib.hid hz
  have hll := h.len
  clear h hz
  go_enter Tryz.func16, Tryz.ntmps16
  go_wp2_with fail
  go_loopw [5, 18] (fun t i wr => ∃ j : Nat, j ≤ ls.length ∧ t = .slice none 0 0 ∧ i = .int .i64 j ∧ Hid (More w wr)) (fun _ i _ => ls.length - (intOf i).toNat)
  case atStart => exact ⟨0, Nat.zero_le _, rfl, rfl, Lib.hid (World.grownBy.refl _ _)⟩
  case round =>
    obtain ⟨j, hj, rfl, rfl, HM⟩ := hrel
    by_cases hlt : j < ls.length
    · obtain ⟨b, off, rfl, _, hc⟩ := HLS.out.row.atC lC_len hlt
      have g0 := HM.out.cell (hc 0 ls[j].1 rfl)
      rw [Nat.add_zero, Nat.mul_one] at g0
      clear hc
      have HIN := Lib.hid (HLS.out.inner _ (List.getElem_mem hlt))
      have hp := HZ.out _ (List.getElem_mem hlt)
      rw [hp] at HIN
      clear hp
      have HLT := Lib.hid hlt
      generalize ls[j].1 = pv at *
      obtain ⟨pa, pc, rfl, _⟩ := HIN.out.shape
      have hbg := cell_lt g0
      obtain ⟨wo, rfl⟩ : ∃ wo : World, wo = wr := ⟨_, rfl⟩
      go_wp2_with fail
      refine wp_loop_rounds 1 ?_
      rw [rounds_succ]
      go_wp2_with fail
      go_roundw
      case rel => exact ⟨j + 1, by have := HLT.out; omega, rfl, by go_num, HM⟩
      case measure => have := HLT.out; simp [intOf]; omega
    · obtain rfl : j = ls.length := by omega
      obtain ⟨w3, rfl⟩ : ∃ w3 : World, w3 = wr := ⟨_, rfl⟩
      go_wp2_with fail
      refine (compare134_any w3).mono ?_
      rintro e w4 ⟨rfl, hw4⟩
      have HM4 := Lib.hid (show More w w4 from more_trans HM.out (by rw [hw4]; exact more_alloc _ _))
      clear hw4
      generalize w3.heap.size = PB at *
      have HM5 := Lib.hid (more_trans HM4.out (more_alloc w4 (.cells #[.func (.func 61) #[] #[.pointer (some ⟨PB, 0, none⟩)]] 71)))
      go_upto_region 12 with (fail)
      generalize w4.alloc (.cells #[.func (.func 61) #[] #[.pointer (some ⟨PB, 0, none⟩)]] 71) = w5 at *
      go_wp2_with fail
      refine (stable32_none _ _).mono ?_
      rintro e w6 ⟨rfl, hw⟩
      subst w6
      go_wp2_with fail
      refine wp_loop_rounds 1 ?_
      rw [rounds_succ]
      go_wp2_with fail
      refine wp_loop_rounds 1 ?_
      rw [rounds_succ]
      go_wp2_with fail
      refine (AnyF.slices_SortFunc_none (P := Tryz.prog) (ρ := Tryz.sortTold_ren) Tryz.sortTold none 0 _ _).mono ?_
      rintro e w7 ⟨rfl, hw⟩
      subst w7
      go_wp2_with fail
      go_ret
      exact ⟨rfl, HM5.out.below⟩
end Go.Proofs.YtemeppfikpafbaaGreat

