/- The law's same (25), where the shares are the wanted ones. -/
import Derived.Test.YtemeppfikpafbaaCaus
namespace Go.Proofs.Ytemeppfikpafbaa
open Go.RowKit
set_option maxRecDepth 100000 in
set_option maxHeartbeats 2000000 in
theorem same_any (s : List Shr) (v u : Value) (w : World) (hl : s.length ≤ 100000) (h : Row anyB w 6 s.length v (flatC sC s)) (hu : Row anyB w 5 s.length u (flatC tC (s.map shN))) :
    Calls Try.prog 25 #[v, u] w fun e w' => e = .returned (.bool true) ∧ More w w' := by
  obtain ⟨a, cap, rfl, _⟩ := h.shape
  obtain ⟨ua, ucap, rfl, _⟩ := hu.shape
  have HS := Lib.hid h; clear h
  have HW := Lib.hid (show Row anyB w 5 (s.map shN).length (.slice ua (s.map shN).length ucap) (flatC tC (s.map shN)) by rw [List.length_map]; exact hu)
  clear hu
  go_enter Try.func25, Try.ntmps25
  go_wp2_with fail
  go_loopw [14] (fun i wr => ∃ j : Nat, j ≤ s.length ∧ i = .int .i64 j ∧ Hid (More w wr)) (fun i _ => s.length - (intOf i).toNat)
  case atStart => exact ⟨0, Nat.zero_le _, rfl, Lib.hid (World.grownBy.refl _ _)⟩
  case round =>
    obtain ⟨j, hj, rfl, HM⟩ := hrel
    by_cases hlt : j < s.length
    · obtain ⟨b, off, rfl, _, hc⟩ := HS.out.atC sC_len hlt
      obtain ⟨b2, off2, rfl, _, hc2⟩ := HW.out.atC tC_len (show j < (s.map shN).length by rw [List.length_map]; exact hlt)
      rw [List.getElem_map] at hc2
      generalize s[j] = x at *
      have g0 := HM.out.cell (hc 0 (.int .u8 x.1.kind) rfl)
      have g1 := HM.out.cell (hc 1 (.int .i64 x.1.a) rfl)
      have g2 := HM.out.cell (hc 2 (.int .i64 x.1.b) rfl)
      have g3 := HM.out.cell (hc 3 (.int .i64 x.1.n) rfl)
      have g4 := HM.out.cell (hc 4 (.int .i64 (degR x.2.val).1) rfl)
      have g5 := HM.out.cell (hc 5 (.int .i64 (degR x.2.val).2) rfl)
      have e0 := HM.out.cell (hc2 0 (.int .u8 x.1.kind) rfl)
      have e1 := HM.out.cell (hc2 1 (.int .i64 x.1.a) rfl)
      have e2 := HM.out.cell (hc2 2 (.int .i64 x.1.b) rfl)
      have e3 := HM.out.cell (hc2 3 (.int .i64 x.1.n) rfl)
      have e4 := HM.out.cell (hc2 4 (.int .i64 x.2.val) rfl)
      rw [Nat.add_zero] at g0 e0
      clear hc hc2
      have hx2 := x.2.isLt
      have HD := Lib.hid (fun W => degree23_any x.2.val W (by omega))
      have hne := fun W => run_neK x.1 x.1 W
      rw [decide_eq_true rfl] at hne
      have hnr := fun W => run_neR (degR x.2.val) (degR x.2.val) W
      rw [decide_eq_true rfl] at hnr
      unfold rA at HD
      generalize (degR x.2.val).1 = p at *
      generalize (degR x.2.val).2 = q at *
      generalize (x.2.val : Nat) = m at *
      generalize x.1 = k at *
      clear hx2
      have hb1 := cell_lt g0
      have hb2 := cell_lt e0
      go_upto_region 6 with (fail)
      have HX := Lib.hid (alloc_last wr (.cells #[.int .u8 k.kind, .int .i64 k.a, .int .i64 k.b, .int .i64 k.n, .int .i64 m] 127))
      have HMO := Lib.hid (Lay.alloc wr (.cells #[.int .u8 k.kind, .int .i64 k.a, .int .i64 k.b, .int .i64 k.n, .int .i64 m] 127)).1
      have HK := Lib.hid (show ∀ W, More (wr.alloc (.cells #[.int .u8 k.kind, .int .i64 k.a, .int .i64 k.b, .int .i64 k.n, .int .i64 m] 127)) W → W.cell? ⟨b, off + j * 6, none⟩ = some (.int .u8 k.kind) ∧ W.cell? ⟨b, off + j * 6 + 1, none⟩ = some (.int .i64 k.a) ∧ W.cell? ⟨b, off + j * 6 + 2, none⟩ = some (.int .i64 k.b) ∧ W.cell? ⟨b, off + j * 6 + 3, none⟩ = some (.int .i64 k.n) ∧ W.cell? ⟨b, off + j * 6 + 4, none⟩ = some (.int .i64 p) ∧ W.cell? ⟨b, off + j * 6 + 5, none⟩ = some (.int .i64 q)
          ∧ W.cell? ⟨wr.heap.size, 0, none⟩ = some (.int .u8 k.kind) ∧ W.cell? ⟨wr.heap.size, 1, none⟩ = some (.int .i64 k.a) ∧ W.cell? ⟨wr.heap.size, 2, none⟩ = some (.int .i64 k.b) ∧ W.cell? ⟨wr.heap.size, 3, none⟩ = some (.int .i64 k.n) ∧ W.cell? ⟨wr.heap.size, 4, none⟩ = some (.int .i64 m) from fun W h =>
        have h' := more_trans HMO.out h
        ⟨h'.cell g0, h'.cell g1, h'.cell g2, h'.cell g3, h'.cell g4, h'.cell g5, h.cell (cell_of_blk HX.out rfl), h.cell (cell_of_blk HX.out rfl), h.cell (cell_of_blk HX.out rfl), h.cell (cell_of_blk HX.out rfl), h.cell (cell_of_blk HX.out rfl)⟩)
      clear g0 g1 g2 g3 g4 g5 e0 e1 e2 e3 e4 hb1 hb2
      have HM1 := Lib.hid (more_trans HM.out HMO.out)
      generalize wr.alloc (.cells #[.int .u8 k.kind, .int .i64 k.a, .int .i64 k.b, .int .i64 k.n, .int .i64 m] 127) = w1 at *
      generalize wr.heap.size = XB at *
      have HL := Lib.hid (more_drew w1)
      obtain ⟨g0, g1, g2, g3, g4, g5, e0, e1, e2, e3, e4⟩ := HK.out _ HL.out
      have hj1 : (j : Int) < (s.length : Int) := by omega
      have hj0 : (0 : Int) ≤ (j : Int) := by omega
      go_region_held3 (fun W => W.cell? ⟨b, off + j * 6, none⟩ = some (.int .u8 k.kind) ∧ W.cell? ⟨b, off + j * 6 + 1, none⟩ = some (.int .i64 k.a) ∧ W.cell? ⟨b, off + j * 6 + 2, none⟩ = some (.int .i64 k.b) ∧ W.cell? ⟨b, off + j * 6 + 3, none⟩ = some (.int .i64 k.n) ∧ W.cell? ⟨b, off + j * 6 + 4, none⟩ = some (.int .i64 p) ∧ W.cell? ⟨b, off + j * 6 + 5, none⟩ = some (.int .i64 q)
          ∧ W.cell? ⟨XB, 0, none⟩ = some (.int .u8 k.kind) ∧ W.cell? ⟨XB, 1, none⟩ = some (.int .i64 k.a) ∧ W.cell? ⟨XB, 2, none⟩ = some (.int .i64 k.b) ∧ W.cell? ⟨XB, 3, none⟩ = some (.int .i64 k.n) ∧ W.cell? ⟨XB, 4, none⟩ = some (.int .i64 m))
        (with_reducible exact HK.out _ HL.out)
        (first | (go_at_call 23; refine (HD.out _).mono ?_; rintro e w3 ⟨rfl, hm3⟩; have HL := Lib.hid (more_trans HL.out hm3); clear hm3))
      all_goals
        go_wp2_with fail
        go_roundw
        case rel => exact ⟨j + 1, by omega, by go_num, Lib.hid (more_trans HM1.out HL.out)⟩
        case measure => simp [intOf]; omega
    · obtain rfl : j = s.length := by omega
      go_wp2_with fail
      go_ret
      exact ⟨rfl, HM.out⟩
end Go.Proofs.Ytemeppfikpafbaa
