/- The walk of RankNone (8). -/
import Derived.Test.YtemeppfikpafbaaBest2
namespace Go.Proofs.Ytemeppfikpafbaa
open Go.RowKit
def emptyC : Cau := ⟨[], []⟩
theorem emptyC_ok : emptyC.Ok := ⟨fun x hx => by simp [emptyC] at hx, fun x hx => by simp [emptyC] at hx, by simp [emptyC], by simp [emptyC]⟩
theorem empty_ok (m : Nat) : ∀ c ∈ List.replicate m emptyC, c.Ok := fun c hc => by rw [List.eq_of_mem_replicate hc]; exact emptyC_ok
theorem empty_joint (m : Nat) (ks : List K4) : jointN (List.replicate m emptyC) ks = 0 := by
  rcases Nat.eq_zero_or_pos (jointN (List.replicate m emptyC) ks) with h | h
  · exact h
  · obtain ⟨c, hc, _, hs⟩ := (isJoint _ ks).2 h
    rw [List.eq_of_mem_replicate hc] at hs
    have : emptyC.size = 0 := rfl
    omega
theorem empty_shares {m : Nat} {s : List Shr} (h : IsShares (List.replicate m emptyC) (s.map shN)) : s.length = 0 := by
  cases s with
  | nil => rfl
  | cons a r =>
    have := ((h.2 (shN a)).1 (by simp)).1
    rw [empty_joint] at this
    omega
theorem empty_best (m : Nat) : (bestL (List.replicate m emptyC)).length = m := by
  unfold bestL
  rw [empty_joint, List.filter_eq_self.2 (fun c hc => by rw [List.eq_of_mem_replicate hc]; rfl), List.length_replicate]
theorem made_pairs : ∀ m : Nat, m ≤ 8 → (madeCells #[.slice none 0 0, .slice none 0 0] (m * 2)).toList = flatC pC (List.replicate m (Value.slice none 0 0, Value.slice none 0 0))
  | 0, _ => by kernel_rfl
  | 1, _ => by kernel_rfl
  | 2, _ => by kernel_rfl
  | 3, _ => by kernel_rfl
  | 4, _ => by kernel_rfl
  | 5, _ => by kernel_rfl
  | 6, _ => by kernel_rfl
  | 7, _ => by kernel_rfl
  | 8, _ => by kernel_rfl
  | n + 9, h => absurd h (by omega)
theorem run_make25 (m : Nat) (hm : m ≤ 8) (w : World) :
    (Instr.makeSlice 25 (.int .u8 (m : Int)) (.int .u8 (m : Int))).run Try.prog w = .ok (.slice (some ⟨w.heap.size, 0, none⟩) m m) (w.alloc (.cells (madeCells #[.slice none 0 0, .slice none 0 0] (m * 2)) 30)) := by
  obtain ⟨i, hi, hzz⟩ := Option.map_eq_some_iff.1 info30
  simp only [Prod.mk.injEq] at hzz
  obtain ⟨hz, hs, hb⟩ := hzz
  have hr := run_make (P := Try.prog) w 25 30 i _ Try.underlying25 hi hz .u8 .u8 m m (by omega) (by omega) (by rw [hb]; omega) (by omega)
  simpa [Int.toNat_natCast, hs, Value.cells] using hr
theorem empty_row (m : Nat) (hm : m ≤ 8) (w : World) : CRow (w.alloc (.cells (madeCells #[.slice none 0 0, .slice none 0 0] (m * 2)) 30)) (List.replicate m emptyC) (.slice (some ⟨w.heap.size, 0, none⟩) m m) := by
  have h := row_blk1 pC_len (List.replicate m (Value.slice none 0 0, Value.slice none 0 0)) (alloc_last w (.cells (madeCells #[.slice none 0 0, .slice none 0 0] (m * 2)) 30)) (made_pairs m hm)
  rw [List.length_replicate] at h
  refine ⟨List.replicate m (.slice none 0 0, .slice none 0 0), by simp, by rw [List.length_replicate]; exact h, fun i a b => ?_⟩
  simp only [List.getElem_replicate]
  exact ⟨⟨Row.nil _ _ _ _ _, Row.nil _ _ _ _ _⟩, fun n c => ⟨fun e => by cases e; rfl, fun e => by cases e; rfl⟩⟩
set_option maxRecDepth 100000 in
set_option maxHeartbeats 4000000 in
theorem rankNone_walk (n : Int) (ks : List K4) (u : Value) (w : World) (hn : 0 ≤ n ∧ n ≤ 255) (hk : KIn w ks u) : Calls Try.prog 8 #[.int .u8 n, u] w fun e w' => e = .returned (.bool true) ∧ Below w.heap.size w w' := by
  obtain ⟨ka, kcap, rfl, _⟩ := hk.row.shape
  obtain ⟨_, hrow, hsl, hmn⟩ := hk.cut
  have HKR := Lib.hid hrow
  have HKO := Lib.hid (show ∀ x ∈ ks.take 3, x.Ok from fun x hx => hk.ok x (List.mem_of_mem_take hx))
  have HKL := Lib.hid (show (ks.take 3).length ≤ 3 by rw [List.length_take]; omega)
  have HKN := Lib.hid hk.len
  have HAW := Lib.hid (awake_any w)
  clear hrow hk
  have hkm : ks.length ≤ 9223372036854775807 := by have := HKN.out; unfold maxLen at this; exact this
  have hp : (ks.take 3).length ≤ ks.length := by rw [List.length_take]; exact Nat.min_le_right _ _
  generalize ks.take 3 = kk at *
  obtain ⟨m, hm⟩ : ∃ m : Nat, n % 9 = m := ⟨(n % 9).toNat, by omega⟩
  have hm8 : m ≤ 8 := by omega
  have HM8 := Lib.hid hm8
  have hmk := fun W => run_make25 m hm8 W
  obtain ⟨hn0, hn1⟩ := hn
  go_enter Try.func8, Try.ntmps8
  go_wp2_with fail
  refine HAW.out.mono ?_
  rintro e w1 ⟨rfl, hm1⟩
  have HM1 := Lib.hid hm1
  clear hm1 HAW
  have HCR := Lib.hid (empty_row m hm8 w1)
  have HM2 := Lib.hid (more_trans HM1.out (more_alloc w1 (.cells (madeCells #[.slice none 0 0, .slice none 0 0] (m * 2)) 30)))
  go_upto_region 5 with (fail)
  have HKR2 := Lib.hid (HKR.out.below HM2.out.below)
  generalize w1.alloc (.cells (madeCells #[.slice none 0 0, .slice none 0 0] (m * 2)) 30) = w2 at *
  generalize w1.heap.size = A at *
  have HLL := Lib.hid (show (List.replicate m emptyC).length ≤ 8 by simp; omega)
  have HOK := Lib.hid (empty_ok m)
  have HJ := Lib.hid (show ∀ W, More w2 W → Calls Try.prog 28 #[.slice (some ⟨A, 0, none⟩) m m, .slice ka kk.length kcap] W fun e w' => e = .returned (.agg #[.int .i64 0, .int .i64 1]) ∧ More W w' from fun W hW => by
    have := joint28_any _ kk _ _ W (by have := HLL.out; omega) (by have := HKL.out; omega) HOK.out HKO.out (HCR.out.more hW) (HKR2.out.below hW.below)
    rw [empty_joint] at this
    exact this)
  have HJ0 := Lib.hid (show ∀ W, More w2 W → Calls Try.prog 28 #[.slice (some ⟨A, 0, none⟩) m m, .slice none 0 0] W fun e w' => e = .returned (.agg #[.int .i64 0, .int .i64 1]) ∧ More W w' from fun W hW => by
    have := joint28_any _ [] _ (.slice none 0 0) W (by have := HLL.out; omega) (by simp) HOK.out (by simp) (HCR.out.more hW) (Row.nil _ _ _ _ _)
    rw [empty_joint] at this
    exact this)
  have HD0 := Lib.hid (show ∀ W, Calls Try.prog 23 #[.int .i64 0] W fun e w' => e = .returned (.agg #[.int .i64 0, .int .i64 1]) ∧ More W w' from fun W => degree23_any 0 W (by omega))
  have HB := Lib.hid (show ∀ W, More w2 W → Calls Try.prog 34 #[.slice (some ⟨A, 0, none⟩) m m] W fun e w' => (∃ a cap, e = .returned (.slice a m cap)) ∧ More W w' from fun W hW => by
    have := best_any _ _ W (by have := HLL.out; omega) HOK.out (HCR.out.more hW)
    rw [empty_best] at this
    exact this)
  have HB0 := Lib.hid (show ∀ W, Calls Try.prog 34 #[.slice none 0 0] W fun e w' => (∃ a cap, e = .returned (.slice a 0 cap)) ∧ More W w' from fun W => best_any [] _ W (by simp) (by simp) (crow_nil _))
  have HDG := Lib.hid (show ∀ W, Calls Try.prog 22 #[.agg #[.slice none 0 0, .slice none 0 0]] W fun e w' => e = .returned (.agg #[.int .i64 0, .int .i64 1]) ∧ More W w' from fun W => degree_any anyB anyB emptyC _ _ W emptyC_ok (Row.nil _ _ _ _ _) (Row.nil _ _ _ _ _))
  clear hmk hsl hmn hkm hp hm hn0 hn1 HM1
  go_wp2_with fail
  refine (degrees_any _ _ w2 (by have := HLL.out; omega) HOK.out HCR.out).mono ?_
  rintro e w3 ⟨s, sv, his, rfl, ho, hb⟩
  have HM3 := Lib.hid (more_of hb)
  have e0 := empty_shares his
  obtain ⟨a3, c3, rfl, _⟩ := owns_shape ho
  rw [e0]
  clear ho hb his e0
  go_wp2_with fail
  refine (HJ.out _ HM3.out).mono ?_
  rintro e w4 ⟨rfl, hm4⟩
  have HM4 := Lib.hid (more_trans HM3.out hm4)
  clear hm4
  go_wp2_with fail
  refine (HD0.out _).mono ?_
  rintro e w5 ⟨rfl, hm5⟩
  have HM5 := Lib.hid (more_trans HM4.out hm5)
  clear hm5
  go_wp2_with fail
  refine (HJ0.out _ HM5.out).mono ?_
  rintro e w6 ⟨rfl, hm6⟩
  have HM6 := Lib.hid (more_trans HM5.out hm6)
  clear hm6
  go_wp2_with fail
  refine (HD0.out _).mono ?_
  rintro e w7 ⟨rfl, hm7⟩
  have HM7 := Lib.hid (more_trans HM6.out hm7)
  clear hm7
  go_wp2_with fail
  refine (HB.out _ HM7.out).mono ?_
  rintro e w8 ⟨⟨a8, c8, rfl⟩, hm8⟩
  have HM8' := Lib.hid (more_trans HM7.out hm8)
  clear hm8
  go_wp2_with fail
  refine (HDG.out _).mono ?_
  rintro e w9 ⟨rfl, hm9⟩
  have HM9 := Lib.hid (more_trans HM8'.out hm9)
  clear hm9
  go_wp2_with fail
  refine (HD0.out _).mono ?_
  rintro e w10 ⟨rfl, hm10⟩
  have HM10 := Lib.hid (more_trans HM9.out hm10)
  clear hm10
  go_wp2_with fail
  refine (HB0.out _).mono ?_
  rintro e w11 ⟨⟨a11, c11, rfl⟩, hm11⟩
  have HM11 := Lib.hid (more_trans HM2.out (more_trans HM10.out hm11))
  clear hm11
  go_wp2_with fail
  go_ret
  exact ⟨rfl, HM11.out.below⟩
end Go.Proofs.Ytemeppfikpafbaa
