/- slices.IndexFunc, slices.ContainsFunc at holds (249, 234), the closure of held (235), held (196), cloneArrival (197). -/
import Derived.Test.YtemeppfikpafbaaHolG
namespace Go.Proofs.Ytemeppfikpafbaa
open Go.RowKit
set_option maxRecDepth 100000 in
set_option maxHeartbeats 1000000 in
theorem indexH_any (l : List HV) (p : HV → Bool) (v : Value) (B : Addr) (w : World) (hl : l.length < 1000000) (h : Row anyB w 4 l.length v (flatC hC l))
    (hcl : ∀ x ∈ l, ∀ W, More w W → Calls Try.prog 235 #[.agg #[.int .i64 x.2.m.f, .int .i64 x.2.m.t, .int .i64 x.2.m.n, x.1], .pointer (some B)] W fun e w' => e = .returned (.bool (p x)) ∧ More W w') :
    Calls Try.prog 249 #[v, .func (.func 235) #[] #[.pointer (some B)]] w fun e w' => (∃ i : Int, e = .returned (.int .i64 i) ∧ decide (0 ≤ i) = l.any p) ∧ More w w' := by
  obtain ⟨a, cap, rfl, _⟩ := h.shape
  have HR := Lib.hid h; clear h
  have HCL := Lib.hid hcl; clear hcl
  go_enter Try.func249, Try.ntmps249
  go_wp2_with fail
  go_loopw [8] (fun i wr => ∃ j : Nat, j ≤ l.length ∧ i = .int .i64 j ∧ Hid (More w wr) ∧ Hid ((l.take j).any p = false)) (fun i _ => l.length - (intOf i).toNat)
  case atStart => exact ⟨0, Nat.zero_le _, rfl, Lib.hid (World.grownBy.refl _ _), Lib.hid (by simp)⟩
  case round =>
    obtain ⟨j, hj, rfl, HM, HN⟩ := hrel
    by_cases hlt : j < l.length
    · obtain ⟨b, off, rfl, _, hc⟩ := HR.out.atC hC_len hlt
      have g0 := HM.out.cell (hc 0 (.int .i64 l[j].2.m.f) rfl)
      have g1 := HM.out.cell (hc 1 (.int .i64 l[j].2.m.t) rfl)
      have g2 := HM.out.cell (hc 2 (.int .i64 l[j].2.m.n) rfl)
      have g3 := HM.out.cell (hc 3 (l[j].1) rfl)
      rw [Nat.add_zero] at g0
      clear hc
      have HT := Lib.hid (show l.take (j + 1) = l.take j ++ [l[j]] from List.take_succ_eq_append_getElem hlt)
      have HX := Lib.hid (HCL.out l[j] (List.getElem_mem hlt))
      have HANY := Lib.hid (show p l[j] = true → l.any p = true from fun h => List.any_eq_true.2 ⟨_, List.getElem_mem hlt, h⟩)
      generalize l[j] = x at *
      obtain ⟨q, HQ⟩ : ∃ q, Hid (p x = q) := ⟨_, Lib.hid rfl⟩
      rw [HQ.out] at HX HANY
      have hbg := cell_lt g0
      go_wp2_with fail
      refine (HX.out _ HM.out).mono ?_
      rintro e w2 ⟨rfl, hm2⟩
      have HM2 := Lib.hid (more_trans HM.out hm2)
      clear hm2 g0 g1 g2 g3 hbg
      cases q with
      | true =>
        go_wp2_with fail
        go_ret
        exact ⟨⟨j, rfl, by rw [HANY.out (by simp), decide_eq_true_iff]; omega⟩, HM2.out⟩
      | false =>
        go_wp2_with fail
        go_roundw
        case rel => exact ⟨j + 1, by omega, by go_num, HM2, Lib.hid (by rw [HT.out, List.any_append, HN.out]; simp [HQ.out])⟩
        case measure => simp [intOf]; omega
    · obtain rfl : j = l.length := by omega
      rw [List.take_of_length_le (Nat.le_refl _)] at HN
      go_wp2_with fail
      go_ret
      exact ⟨⟨-1, rfl, by rw [HN.out]; rfl⟩, HM.out⟩
set_option maxRecDepth 100000 in
theorem containsH_any (l : List HV) (p : HV → Bool) (v : Value) (B : Addr) (w : World) (hl : l.length < 1000000) (h : Row anyB w 4 l.length v (flatC hC l))
    (hcl : ∀ x ∈ l, ∀ W, More w W → Calls Try.prog 235 #[.agg #[.int .i64 x.2.m.f, .int .i64 x.2.m.t, .int .i64 x.2.m.n, x.1], .pointer (some B)] W fun e w' => e = .returned (.bool (p x)) ∧ More W w') :
    Calls Try.prog 234 #[v, .func (.func 235) #[] #[.pointer (some B)]] w fun e w' => e = .returned (.bool (l.any p)) ∧ More w w' := by
  obtain ⟨a, cap, rfl, _⟩ := h.shape
  have HI := Lib.hid (indexH_any l p _ B w hl h hcl)
  clear h hcl
  go_enter Try.func234, Try.ntmps234
  go_wp2_with fail
  refine HI.out.mono ?_
  rintro e w2 ⟨⟨i, rfl, hi⟩, hm⟩
  have HM := Lib.hid hm
  have HD := Lib.hid hi
  clear hm hi
  go_wp2_with fail
  go_ret
  exact ⟨by rw [← HD.out]; rfl, HM.out⟩
set_option maxRecDepth 100000 in
theorem held235_any (x : HV) (m : M3) (B : Nat) (w : World) (hx : ∃ a n c, x.1 = .slice a n c) (hB : w.heap[B]? = some (.cells #[.int .i64 m.f, .int .i64 m.t, .int .i64 m.n] 54)) :
    Calls Try.prog 235 #[.agg #[.int .i64 x.2.m.f, .int .i64 x.2.m.t, .int .i64 x.2.m.n, x.1], .pointer (some ⟨B, 0, none⟩)] w fun e w' => e = .returned (.bool (decide (x.2.m = m))) ∧ More w w' := by
  obtain ⟨xa, xn, xc, hxv⟩ := hx
  rw [hxv]
  clear hxv
  have heq := fun W => run_eqM x.2.m m W
  generalize decide (x.2.m = m) = q at *
  have HX := Lib.hid (alloc_last w (.cells #[.int .i64 x.2.m.f, .int .i64 x.2.m.t, .int .i64 x.2.m.n, .slice xa xn xc] 166))
  have HM := Lib.hid (more_alloc w (.cells #[.int .i64 x.2.m.f, .int .i64 x.2.m.t, .int .i64 x.2.m.n, .slice xa xn xc] 166))
  have HBB := Lib.hid ((HM.out.block (blk_lt hB)).trans hB)
  clear hB
  go_enter Try.func235, Try.ntmps235
  go_upto_region 1 with (fail)
  generalize w.alloc (.cells #[.int .i64 x.2.m.f, .int .i64 x.2.m.t, .int .i64 x.2.m.n, .slice xa xn xc] 166) = w1 at *
  generalize w.heap.size = XB at *
  have x0 : w1.cell? ⟨XB, 0, none⟩ = some (.int .i64 x.2.m.f) := cell_of_blk HX.out rfl
  have x1 : w1.cell? ⟨XB, 1, none⟩ = some (.int .i64 x.2.m.t) := cell_of_blk HX.out rfl
  have x2 : w1.cell? ⟨XB, 2, none⟩ = some (.int .i64 x.2.m.n) := cell_of_blk HX.out rfl
  have b0 : w1.cell? ⟨B, 0, none⟩ = some (.int .i64 m.f) := cell_of_blk HBB.out rfl
  have b1 : w1.cell? ⟨B, 1, none⟩ = some (.int .i64 m.t) := cell_of_blk HBB.out rfl
  have b2 : w1.cell? ⟨B, 2, none⟩ = some (.int .i64 m.n) := cell_of_blk HBB.out rfl
  have hbx := cell_lt x0
  have hbb := cell_lt b0
  go_wp2_with fail
  go_ret
  exact ⟨rfl, HM.out⟩
set_option maxRecDepth 100000 in
theorem held196_any (l : List HV) (m : M3) (NB : Nat) (hv : Value) (w : World) (hl : l.length < 1000000) (hs : ∀ x ∈ l, ∃ a n c, x.1 = .slice a n c) (hc : w.cell? ⟨NB, 1, none⟩ = some hv) (hr : Row anyB w 4 l.length hv (flatC hC l)) :
    Calls Try.prog 196 #[.pointer (some ⟨NB, 0, none⟩), .agg #[.int .i64 m.f, .int .i64 m.t, .int .i64 m.n]] w fun e w' => e = .returned (.bool (l.any fun x => decide (x.2.m = m))) ∧ More w w' := by
  obtain ⟨a, cap, rfl, _⟩ := hr.shape
  have HX := Lib.hid (alloc_last w (.cells #[.int .i64 m.f, .int .i64 m.t, .int .i64 m.n] 54))
  have HM := Lib.hid (more_alloc w (.cells #[.int .i64 m.f, .int .i64 m.t, .int .i64 m.n] 54))
  have HR := Lib.hid (hr.below HM.out.below)
  have HC := Lib.hid (HM.out.cell hc)
  have HS := Lib.hid hs
  clear hr hc hs
  generalize hq : (l.any fun x => decide (x.2.m = m)) = q
  have HQ := Lib.hid hq; clear hq
  go_enter Try.func196, Try.ntmps196
  go_upto_region 1 with (fail)
  generalize w.alloc (.cells #[.int .i64 m.f, .int .i64 m.t, .int .i64 m.n] 54) = w1 at *
  generalize w.heap.size = B at *
  have HCC := Lib.hid (containsH_any l (fun x => decide (x.2.m = m)) _ ⟨B, 0, none⟩ w1 hl HR.out (fun x hx W hW => held235_any x m B W (HS.out x hx) ((hW.block (blk_lt HX.out)).trans HX.out)))
  rw [HQ.out] at HCC
  have c1 : w1.cell? ⟨NB, 1, none⟩ = some (.slice a l.length cap) := HC.out
  have hbc := cell_lt c1
  go_wp2_with fail
  refine HCC.out.mono ?_
  rintro e w2 ⟨rfl, hm2⟩
  have HM2 := Lib.hid (more_trans HM.out hm2)
  clear hm2
  go_wp2_with fail
  go_ret
  exact ⟨rfl, HM2.out⟩
end Go.Proofs.Ytemeppfikpafbaa
