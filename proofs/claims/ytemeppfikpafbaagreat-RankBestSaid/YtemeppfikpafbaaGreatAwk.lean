/- The chapter's example: awake (19). -/
import Derived.Test.YtemeppfikpafbaaGreatNilB
import Derived.Test.YtemeppfikpafbaaGreatSame
import Derived.Test.YtemeppfikpafbaaGreatJoint
namespace Go.Proofs.YtemeppfikpafbaaGreat
open Go.RowKit
def kD (n : Int) : K4 := ⟨5, 0, 0, n⟩
def exL : List Cau := [⟨[kD 0], []⟩, ⟨[kD 1, kD 2], [⟨0, 1, 0⟩]⟩]
theorem exL_deg : refDeg exL = [(kD 0, 1), (kD 1, 3), (kD 2, 3)] := by decide +kernel
theorem exL_21 : jointN exL [kD 2, kD 1] = 3 := by decide +kernel
theorem exL_01 : jointN exL [kD 0, kD 1] = 0 := by decide +kernel
theorem kD_ok {n : Int} (h : 0 ≤ n ∧ n ≤ 10) : (kD n).Ok where
  kind := by show (0 : Int) ≤ 5 ∧ (5 : Int) ≤ 255; omega
  a := by show -9223372036854775808 ≤ (0 : Int) ∧ (0 : Int) ≤ 9223372036854775807; omega
  b := by show -9223372036854775808 ≤ (0 : Int) ∧ (0 : Int) ≤ 9223372036854775807; omega
  n := by show -9223372036854775808 ≤ n ∧ n ≤ 9223372036854775807; omega
theorem exL_ok : ∀ c ∈ exL, c.Ok := by
  intro c hc
  simp [exL] at hc
  rcases hc with rfl | rfl
  · exact ⟨fun x hx => by simp at hx; subst hx; exact kD_ok (by omega), fun x hx => by simp at hx, by simp, by simp⟩
  · exact ⟨fun x hx => by simp at hx; rcases hx with rfl | rfl <;> exact kD_ok (by omega), fun x hx => by simp at hx; subst hx; exact ⟨⟨by decide, by decide⟩, ⟨by decide, by decide⟩, ⟨by decide, by decide⟩⟩, by simp, by simp⟩
set_option maxRecDepth 100000 in
theorem clos60_any (n : Int) (w : World) : Calls Tryz.prog 17 #[.int .i64 n] w fun e w' => e = .returned (.agg #[.int .u8 5, .int .i64 0, .int .i64 0, .int .i64 n]) ∧ More w w' := by
  go_enter Tryz.func17, Tryz.ntmps17
  go_wp2_with fail
  have h := alloc_last w (.cells #[.int .u8 5, .int .i64 0, .int .i64 0, .int .i64 n] 54)
  have c0 : (w.alloc (.cells #[.int .u8 5, .int .i64 0, .int .i64 0, .int .i64 n] 54)).cell? ⟨w.heap.size, 0, none⟩ = some (.int .u8 5) := cell_of_blk h rfl
  have c1 : (w.alloc (.cells #[.int .u8 5, .int .i64 0, .int .i64 0, .int .i64 n] 54)).cell? ⟨w.heap.size, 1, none⟩ = some (.int .i64 0) := cell_of_blk h rfl
  have c2 : (w.alloc (.cells #[.int .u8 5, .int .i64 0, .int .i64 0, .int .i64 n] 54)).cell? ⟨w.heap.size, 2, none⟩ = some (.int .i64 0) := cell_of_blk h rfl
  have c3 : (w.alloc (.cells #[.int .u8 5, .int .i64 0, .int .i64 0, .int .i64 n] 54)).cell? ⟨w.heap.size, 3, none⟩ = some (.int .i64 n) := cell_of_blk h rfl
  exact bodyPost_ret (v := .agg #[.int .u8 5, .int .i64 0, .int .i64 0, .int .i64 n]) (by simp [results, Tryz.results17, go_sem, c0, c1, c2, c3]) rfl ⟨rfl, (Lay.alloc _ _).1⟩
theorem map_shN : ∀ {s t : List Shr}, s.map shN = t.map shN → s = t
  | [], [], _ => rfl
  | [], _ :: _, h => by simp at h
  | _ :: _, [], h => by simp at h
  | a :: s, b :: t, h => by
    rw [List.map_cons, List.map_cons, List.cons.injEq] at h
    rw [shN_inj h.1, map_shN h.2]
def exS : List Shr := [(kD 0, 1), (kD 1, 3), (kD 2, 3)]
theorem exS_is : exS.map shN = refDeg exL := by rw [exL_deg]; rfl
theorem row_blk1 {α : Type} {c : α → List Value} {k : Nat} (hc : ∀ x, (c x).length = k) {w : World} {b : Nat} {arr : Array Value} {ty : TypeId} (l : List α) (h : w.heap[b]? = some (.cells arr ty)) (hx : arr.toList = flatC c l) : Row anyB w k l.length (.slice (some ⟨b, 0, none⟩) l.length l.length) (flatC c l) :=
  row_blkC hc h hx (Nat.le_refl _) trivial
theorem exL_row {w : World} {A B C D : Nat} (hA : w.heap[A]? = some (.cells #[.int .u8 5, .int .i64 0, .int .i64 0, .int .i64 0] 54)) (hB : w.heap[B]? = some (.cells #[.int .u8 5, .int .i64 0, .int .i64 0, .int .i64 1, .int .u8 5, .int .i64 0, .int .i64 0, .int .i64 2] 54))
    (hC : w.heap[C]? = some (.cells #[.int .i64 0, .int .i64 1, .int .i64 0] 57)) (hD : w.heap[D]? = some (.cells #[.slice (some ⟨A, 0, none⟩) 1 1, .slice none 0 0, .slice (some ⟨B, 0, none⟩) 2 2, .slice (some ⟨C, 0, none⟩) 1 1] 34)) : CRow w exL (.slice (some ⟨D, 0, none⟩) 2 2) := by
  refine ⟨[(.slice (some ⟨A, 0, none⟩) 1 1, .slice none 0 0), (.slice (some ⟨B, 0, none⟩) 2 2, .slice (some ⟨C, 0, none⟩) 1 1)], rfl, row_blk1 pC_len _ hD rfl, fun i a b => ?_⟩
  match i, a, b with
  | 0, _, _ => exact ⟨⟨row_blk1 kC_len [kD 0] hA rfl, Row.nil _ _ _ _ _⟩, fun n c => ⟨fun e => by simp at e, fun e => by simp at e; omega⟩⟩
  | 1, _, _ => exact ⟨⟨row_blk1 kC_len [kD 1, kD 2] hB rfl, row_blk1 mC_len [⟨0, 1, 0⟩] hC rfl⟩, fun n c => ⟨fun e => by simp at e, fun e => by simp at e⟩⟩
set_option maxRecDepth 100000 in
set_option maxHeartbeats 4000000 in
theorem awake_any (w : World) : Calls Tryz.prog 5 #[] w fun e w' => e = .returned (.bool true) ∧ More w w' := by
  have HC60 := Lib.hid (fun (n : Int) (W : World) => clos60_any n W)
  go_enter Tryz.func5, Tryz.ntmps5
  go_wp2_with fail
  refine (HC60.out 0 _).mono ?_
  rintro e w1 ⟨rfl, hm1⟩
  have HM1 := Lib.hid hm1
  clear hm1
  go_wp2_with fail
  have HA := Lib.hid (alloc_last w1 (.cells #[.int .u8 5, .int .i64 0, .int .i64 0, .int .i64 0] 54))
  have HM2 := Lib.hid (more_trans HM1.out (Lay.alloc w1 (.cells #[.int .u8 5, .int .i64 0, .int .i64 0, .int .i64 0] 54)).1)
  generalize w1.alloc (.cells #[.int .u8 5, .int .i64 0, .int .i64 0, .int .i64 0] 54) = w2 at *
  generalize w1.heap.size = A at *
  refine (HC60.out 1 _).mono ?_
  rintro e w3 ⟨rfl, hm3⟩
  have HA := Lib.hid ((hm3.block (blk_lt HA.out)).trans HA.out)
  have HM3 := Lib.hid (more_trans HM2.out hm3)
  clear hm3
  go_wp2_with fail
  refine (HC60.out 2 _).mono ?_
  rintro e w4 ⟨rfl, hm4⟩
  have HA := Lib.hid ((hm4.block (blk_lt HA.out)).trans HA.out)
  have HM4 := Lib.hid (more_trans HM3.out hm4)
  clear hm4
  go_upto_region 3 with (fail)
  have HB := Lib.hid (alloc_last w4 (.cells #[.int .u8 5, .int .i64 0, .int .i64 0, .int .i64 1, .int .u8 5, .int .i64 0, .int .i64 0, .int .i64 2] 54))
  have HCR := Lib.hid (show CRow (((w4.alloc (.cells #[.int .u8 5, .int .i64 0, .int .i64 0, .int .i64 1, .int .u8 5, .int .i64 0, .int .i64 0, .int .i64 2] 54)).alloc (.cells #[.int .i64 0, .int .i64 1, .int .i64 0] 57)).alloc (.cells #[.slice (some ⟨A, 0, none⟩) 1 1, .slice none 0 0, .slice (some ⟨w4.heap.size, 0, none⟩) 2 2, .slice (some ⟨w4.heap.size + 1, 0, none⟩) 1 1] 34)) exL (.slice (some ⟨w4.heap.size + 1 + 1, 0, none⟩) 2 2) from
    exL_row (A := A) (B := w4.heap.size) (C := w4.heap.size + 1)
      (by have := blk_lt HA.out; rw [Below.heap_alloc _ _ _ (by rw [World.size_alloc, World.size_alloc]; omega), Below.heap_alloc _ _ _ (by rw [World.size_alloc]; omega), Below.heap_alloc _ _ _ this]; exact HA.out)
      (by rw [Below.heap_alloc _ _ _ (by rw [World.size_alloc, World.size_alloc]; omega), Below.heap_alloc _ _ _ (by rw [World.size_alloc]; omega)]; exact HB.out)
      (by rw [Below.heap_alloc _ _ _ (by rw [World.size_alloc, World.size_alloc]; omega)]; exact alloc_at _ _ (by simp))
      (alloc_at _ _ (by simp)))
  have HM5 := Lib.hid (more_trans HM4.out (more_trans (more_trans (Lay.alloc w4 (.cells #[.int .u8 5, .int .i64 0, .int .i64 0, .int .i64 1, .int .u8 5, .int .i64 0, .int .i64 0, .int .i64 2] 54)).1 (Lay.alloc _ (.cells #[.int .i64 0, .int .i64 1, .int .i64 0] 57)).1) (Lay.alloc _ (.cells #[.slice (some ⟨A, 0, none⟩) 1 1, .slice none 0 0, .slice (some ⟨w4.heap.size, 0, none⟩) 2 2, .slice (some ⟨w4.heap.size + 1, 0, none⟩) 1 1] 34)).1))
  generalize ((w4.alloc (.cells #[.int .u8 5, .int .i64 0, .int .i64 0, .int .i64 1, .int .u8 5, .int .i64 0, .int .i64 0, .int .i64 2] 54)).alloc (.cells #[.int .i64 0, .int .i64 1, .int .i64 0] 57)).alloc (.cells #[.slice (some ⟨A, 0, none⟩) 1 1, .slice none 0 0, .slice (some ⟨w4.heap.size, 0, none⟩) 2 2, .slice (some ⟨w4.heap.size + 1, 0, none⟩) 1 1] 34) = w5 at *
  generalize w4.heap.size = B at *
  clear HA HB HM1 HM2 HM3 HM4
  go_upto_region 3 with (fail)
  go_wp2_with fail
  refine (degrees_any exL _ w5 (by simp [exL]) exL_ok HCR.out).mono ?_
  rintro e w6 ⟨s, sv, his, rfl, ho, hb⟩
  obtain rfl : s = exS := map_shN ((his.unique (refDeg_is exL)).trans exS_is.symm)
  have HM6 := Lib.hid (more_trans HM5.out (more_of hb))
  have HCR6 := Lib.hid (HCR.out.more (more_of hb))
  obtain ⟨g, cap, rfl, _, hc⟩ : ∃ g cap, sv = .slice (some ⟨g, 0, none⟩) exS.length cap ∧ True ∧ ∀ j u, (flatC sC exS)[j]? = some u → w6.cell? ⟨g, j, none⟩ = some u := by
    obtain ⟨_, h | ⟨g, cap, cur, rfl, hB, hg, hnc, _, _, ht⟩⟩ := ho
    · simp [exS] at h
    · refine ⟨g, cap, rfl, trivial, fun j u hj => ?_⟩
      simp only [World.cell?, hg]
      rw [← ht, List.getElem?_take] at hj
      split at hj
      · simpa using hj
      · cases hj
  have HCELL := Lib.hid hc
  have e3 : exS.length = 3 := rfl
  rw [e3]
  clear hc ho his hb e3
  have HK := Lib.hid (show ∀ W, More w6 W → W.cell? ⟨g, 0, none⟩ = some (.int .u8 5) ∧ W.cell? ⟨g, 1, none⟩ = some (.int .i64 0) ∧ W.cell? ⟨g, 2, none⟩ = some (.int .i64 0) ∧ W.cell? ⟨g, 3, none⟩ = some (.int .i64 0) ∧ W.cell? ⟨g, 4, none⟩ = some (.int .i64 1) ∧ W.cell? ⟨g, 5, none⟩ = some (.int .i64 1) ∧ W.cell? ⟨g, 16, none⟩ = some (.int .i64 1) ∧ W.cell? ⟨g, 17, none⟩ = some (.int .i64 3) from fun W h =>
    ⟨h.cell (HCELL.out 0 _ rfl), h.cell (HCELL.out 1 _ rfl), h.cell (HCELL.out 2 _ rfl), h.cell (HCELL.out 3 _ rfl), h.cell (HCELL.out 4 _ rfl), h.cell (HCELL.out 5 _ rfl), h.cell (HCELL.out 16 _ rfl), h.cell (HCELL.out 17 _ rfl)⟩)
  have HD1 := Lib.hid (show ∀ W, Calls Tryz.prog 19 #[.int .i64 1] W fun e w' => e = .returned (.agg #[.int .i64 1, .int .i64 1]) ∧ More W w' from fun W => degree23_any 1 W (by omega))
  have HD3 := Lib.hid (show ∀ W, Calls Tryz.prog 19 #[.int .i64 3] W fun e w' => e = .returned (.agg #[.int .i64 1, .int .i64 3]) ∧ More W w' from fun W => degree23_any 3 W (by omega))
  have HD0 := Lib.hid (show ∀ W, Calls Tryz.prog 19 #[.int .i64 0] W fun e w' => e = .returned (.agg #[.int .i64 0, .int .i64 1]) ∧ More W w' from fun W => degree23_any 0 W (by omega))
  have HJ1 := Lib.hid (show ∀ W (X : Nat), More w6 W → W.heap[X]? = some (.cells #[.int .u8 5, .int .i64 0, .int .i64 0, .int .i64 2, .int .u8 5, .int .i64 0, .int .i64 0, .int .i64 1] 54) → Calls Tryz.prog 20 #[.slice (some ⟨B + 1 + 1, 0, none⟩) 2 2, .slice (some ⟨X, 0, none⟩) 2 2] W fun e w' => e = .returned (.agg #[.int .i64 1, .int .i64 3]) ∧ More W w' from fun W X hW hX => by
    have := joint28_any exL [kD 2, kD 1] _ _ W (by simp [exL]) (by simp) exL_ok (fun x hx => by simp at hx; rcases hx with rfl | rfl <;> exact kD_ok (by omega)) (HCR6.out.more hW) (row_blk1 kC_len [kD 2, kD 1] hX rfl)
    rw [exL_21] at this
    exact this)
  have HJ2 := Lib.hid (show ∀ W (X : Nat), More w6 W → W.heap[X]? = some (.cells #[.int .u8 5, .int .i64 0, .int .i64 0, .int .i64 0, .int .u8 5, .int .i64 0, .int .i64 0, .int .i64 1] 54) → Calls Tryz.prog 20 #[.slice (some ⟨B + 1 + 1, 0, none⟩) 2 2, .slice (some ⟨X, 0, none⟩) 2 2] W fun e w' => e = .returned (.agg #[.int .i64 0, .int .i64 1]) ∧ More W w' from fun W X hW hX => by
    have := joint28_any exL [kD 0, kD 1] _ _ W (by simp [exL]) (by simp) exL_ok (fun x hx => by simp at hx; rcases hx with rfl | rfl <;> exact kD_ok (by omega)) (HCR6.out.more hW) (row_blk1 kC_len [kD 0, kD 1] hX rfl)
    rw [exL_01] at this
    exact this)
  go_upto_region 4 with (fail)
  have HL := Lib.hid (more_drew w6)
  obtain ⟨c0, c1, c2, c3, c4, c5, c6, c7⟩ := HK.out _ HL.out
  go_region_held3 (fun W => W.cell? ⟨g, 0, none⟩ = some (.int .u8 5) ∧ W.cell? ⟨g, 1, none⟩ = some (.int .i64 0) ∧ W.cell? ⟨g, 2, none⟩ = some (.int .i64 0) ∧ W.cell? ⟨g, 3, none⟩ = some (.int .i64 0) ∧ W.cell? ⟨g, 4, none⟩ = some (.int .i64 1) ∧ W.cell? ⟨g, 5, none⟩ = some (.int .i64 1) ∧ W.cell? ⟨g, 16, none⟩ = some (.int .i64 1) ∧ W.cell? ⟨g, 17, none⟩ = some (.int .i64 3))
    (first | (with_reducible exact HK.out _ HL.out) | (with_reducible exact HK.out _ (more_trans HL.out (more_alloc _ _))))
    (first
      | (go_at_call 17; refine (HC60.out _ _).mono ?_; rintro e w7 ⟨rfl, hm7⟩; have HL := Lib.hid (more_trans HL.out hm7); clear hm7)
      | (go_at_call 19; refine (HD1.out _).mono ?_; rintro e w7 ⟨rfl, hm7⟩; have HL := Lib.hid (more_trans HL.out hm7); clear hm7)
      | (go_at_call 19; refine (HD3.out _).mono ?_; rintro e w7 ⟨rfl, hm7⟩; have HL := Lib.hid (more_trans HL.out hm7); clear hm7)
      | (go_at_call 19; refine (HD0.out _).mono ?_; rintro e w7 ⟨rfl, hm7⟩; have HL := Lib.hid (more_trans HL.out hm7); clear hm7)
      | (go_at_call 20; refine (HJ1.out _ _ (more_trans HL.out (more_alloc _ _)) (alloc_last _ _)).mono ?_; rintro e w7 ⟨rfl, hm7⟩; have HL := Lib.hid (more_trans (more_trans HL.out (more_alloc _ _)) hm7); clear hm7)
      | (go_at_call 20; refine (HJ2.out _ _ (more_trans HL.out (more_alloc _ _)) (alloc_last _ _)).mono ?_; rintro e w7 ⟨rfl, hm7⟩; have HL := Lib.hid (more_trans (more_trans HL.out (more_alloc _ _)) hm7); clear hm7))
  all_goals
    go_wp2_with fail
    go_ret
    exact ⟨rfl, more_trans HM6.out HL.out⟩
end Go.Proofs.YtemeppfikpafbaaGreat
