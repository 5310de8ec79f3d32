/- Texts DigM, DigW, DigE, laid together. -/
import Derived.Deep.RegionHeld3
import Derived.BigQuiet
import Derived.StillTailTactics
import Derived.Test.YtemeppfikpafbaaGreatDoorBa
import Derived.Test.YtemeppfikpafbaaGreatDoorBl
import Derived.Test.YtemeppfikpafbaaGreatDoorBx
/- (*digest.Hash).mix (59). -/
namespace Go.Proofs.YtemeppfikpafbaaGreatDoor
open Go.RowKit
set_option maxRecDepth 100000 in
set_option maxHeartbeats 20000000 in
theorem mix59_any (hb : Nat) (ws bs : List Int) (tot : Int) (w : World) (h : HashAt w hb ws bs tot) (KK : List Int) (hK : GlobK w KK) (_h0 : 0 < hb) :
    Calls Tryz.prog 59 #[.pointer (some ⟨hb, 0, none⟩)] w fun e w' => e = .returned (.tuple #[]) ∧ HashAt w' hb (mixF KK ws bs) bs tot ∧ w.grownBy w' (some hb) := by
  have H := Lib.hid h; clear h
  have HGK := Lib.hid hK; clear hK
  have HW0 := Lib.hid (alloc_last w (.cells (#[.int .u32 0, .int .u32 0, .int .u32 0, .int .u32 0, .int .u32 0, .int .u32 0, .int .u32 0, .int .u32 0, .int .u32 0, .int .u32 0, .int .u32 0, .int .u32 0, .int .u32 0, .int .u32 0, .int .u32 0, .int .u32 0, .int .u32 0, .int .u32 0, .int .u32 0, .int .u32 0, .int .u32 0, .int .u32 0, .int .u32 0, .int .u32 0, .int .u32 0, .int .u32 0, .int .u32 0, .int .u32 0, .int .u32 0, .int .u32 0, .int .u32 0, .int .u32 0, .int .u32 0, .int .u32 0, .int .u32 0, .int .u32 0, .int .u32 0, .int .u32 0, .int .u32 0, .int .u32 0, .int .u32 0, .int .u32 0, .int .u32 0, .int .u32 0, .int .u32 0, .int .u32 0, .int .u32 0, .int .u32 0, .int .u32 0, .int .u32 0, .int .u32 0, .int .u32 0, .int .u32 0, .int .u32 0, .int .u32 0, .int .u32 0, .int .u32 0, .int .u32 0, .int .u32 0, .int .u32 0, .int .u32 0, .int .u32 0, .int .u32 0, .int .u32 0] : Array Value) 140))
  have HM1 := Lib.hid (more_alloc w (.cells (#[.int .u32 0, .int .u32 0, .int .u32 0, .int .u32 0, .int .u32 0, .int .u32 0, .int .u32 0, .int .u32 0, .int .u32 0, .int .u32 0, .int .u32 0, .int .u32 0, .int .u32 0, .int .u32 0, .int .u32 0, .int .u32 0, .int .u32 0, .int .u32 0, .int .u32 0, .int .u32 0, .int .u32 0, .int .u32 0, .int .u32 0, .int .u32 0, .int .u32 0, .int .u32 0, .int .u32 0, .int .u32 0, .int .u32 0, .int .u32 0, .int .u32 0, .int .u32 0, .int .u32 0, .int .u32 0, .int .u32 0, .int .u32 0, .int .u32 0, .int .u32 0, .int .u32 0, .int .u32 0, .int .u32 0, .int .u32 0, .int .u32 0, .int .u32 0, .int .u32 0, .int .u32 0, .int .u32 0, .int .u32 0, .int .u32 0, .int .u32 0, .int .u32 0, .int .u32 0, .int .u32 0, .int .u32 0, .int .u32 0, .int .u32 0, .int .u32 0, .int .u32 0, .int .u32 0, .int .u32 0, .int .u32 0, .int .u32 0, .int .u32 0, .int .u32 0] : Array Value) 140))
  obtain ⟨N, HN⟩ : ∃ N, Hid (N = w.heap.size) := ⟨_, Lib.hid rfl⟩
  have HLT := Lib.hid (show hb < N by rw [HN.out]; exact blk_lt H.out.blk)
  rw [← HN.out] at HW0
  go_enter Tryz.func59, Tryz.ntmps59
  go_upto_region 1 with (fail)
  rw [← HN.out]
  have H1 := Lib.hid (H.out.keep (HM1.out.block (blk_lt H.out.blk)))
  generalize w.alloc (.cells (#[.int .u32 0, .int .u32 0, .int .u32 0, .int .u32 0, .int .u32 0, .int .u32 0, .int .u32 0, .int .u32 0, .int .u32 0, .int .u32 0, .int .u32 0, .int .u32 0, .int .u32 0, .int .u32 0, .int .u32 0, .int .u32 0, .int .u32 0, .int .u32 0, .int .u32 0, .int .u32 0, .int .u32 0, .int .u32 0, .int .u32 0, .int .u32 0, .int .u32 0, .int .u32 0, .int .u32 0, .int .u32 0, .int .u32 0, .int .u32 0, .int .u32 0, .int .u32 0, .int .u32 0, .int .u32 0, .int .u32 0, .int .u32 0, .int .u32 0, .int .u32 0, .int .u32 0, .int .u32 0, .int .u32 0, .int .u32 0, .int .u32 0, .int .u32 0, .int .u32 0, .int .u32 0, .int .u32 0, .int .u32 0, .int .u32 0, .int .u32 0, .int .u32 0, .int .u32 0, .int .u32 0, .int .u32 0, .int .u32 0, .int .u32 0, .int .u32 0, .int .u32 0, .int .u32 0, .int .u32 0, .int .u32 0, .int .u32 0, .int .u32 0, .int .u32 0] : Array Value) 140) = w1 at *
  go_wp2_with fail
  go_loopw [22] (fun i wr => ∃ j : Nat, j ≤ 16 ∧ i = .int .i64 j ∧ Hid (HashAt wr hb ws bs tot) ∧ Hid (wr.heap[N]? = some (.cells (uV (wL bs j)).toArray 140)) ∧ Hid (Below N w wr)) (fun i _ => 16 - (intOf i).toNat)
  case atStart => exact ⟨0, Nat.zero_le _, rfl, H1, HW0, Lib.hid (by rw [HN.out]; exact HM1.out.below)⟩
  case round =>
    obtain ⟨j, hj, rfl, HH, HWB, HB⟩ := hrel
    obtain ⟨wo, rfl⟩ : ∃ wo : World, wo = wr := ⟨_, rfl⟩
    by_cases hlt : j < 16
    · have HJ := Lib.hid hlt
      have hji : (j : Int) < 16 := by omega
      have hm4 : IntKind.i64.wrap (4 * (j : Int)) = 4 * j := by rw [IntKind.wrap_i64]; omega
      have hm5 : IntKind.i64.wrap (4 * (j : Int) + 4) = 4 * j + 4 := by rw [IntKind.wrap_i64]; omega
      have b0 := HH.out.b (j := 4 * j) (by omega)
      have b1 := HH.out.b (j := 4 * j + 1) (by omega)
      have b2 := HH.out.b (j := 4 * j + 2) (by omega)
      have b3 := HH.out.b (j := 4 * j + 3) (by omega)
      rw [← Nat.add_assoc] at b1 b2 b3
      have hbb := cell_lt b0
      have HWJ := Lib.hid (show wL bs (j + 1) = (wL bs j).set j (word4 (bs.getD (4 * j) 0) (bs.getD (4 * j + 1) 0) (bs.getD (4 * j + 2) 0) (bs.getD (4 * j + 3) 0)) from rfl)
      have hsl := fun W => slice110 hb j hlt W
      have hix := fun W => idx140 N (j : Int) j rfl (by omega) W
      have HKS := Lib.hid (show ∀ W : World, (∀ b, b ≠ N → W.heap[b]? = wo.heap[b]?) → HashAt W hb ws bs tot from fun W h => HH.out.keep (h hb (by have := HLT.out; omega)))
      have n0 : wo.cell? ⟨N, j, none⟩ = some (.int .u32 ((wL bs j).getD j 0)) := cell_of_blk HWB.out (by rw [List.getElem?_toArray]; exact uV_at _ _ (by rw [wL_len]; omega))
      have hnb := cell_lt n0
      have fz := thaw HWB.out j
      generalize bs.getD (4 * j) 0 = x0 at *
      generalize bs.getD (4 * j + 1) 0 = x1 at *
      generalize bs.getD (4 * j + 2) 0 = x2 at *
      generalize bs.getD (4 * j + 3) 0 = x3 at *
      have HK := Lib.hid (show wo.drew.cell? ⟨hb, 8 + 4 * j, none⟩ = some (.int .u8 x0) ∧ wo.drew.cell? ⟨hb, 8 + 4 * j + 1, none⟩ = some (.int .u8 x1) ∧ wo.drew.cell? ⟨hb, 8 + 4 * j + 2, none⟩ = some (.int .u8 x2) ∧ wo.drew.cell? ⟨hb, 8 + 4 * j + 3, none⟩ = some (.int .u8 x3) from ⟨b0, b1, b2, b3⟩)
      have HKB0 := Lib.hid (show ∀ W : World, (∀ b, b ≠ N → W.heap[b]? = wo.heap[b]?) → W.cell? ⟨hb, 8 + 4 * j, none⟩ = some (.int .u8 x0) from fun W h => by rw [← b0]; exact World.cell?_of_block (w := wo) (a := ⟨hb, 8 + 4 * j, none⟩) (h hb (by have := HLT.out; omega)))
      have HKB1 := Lib.hid (show ∀ W : World, (∀ b, b ≠ N → W.heap[b]? = wo.heap[b]?) → W.cell? ⟨hb, 8 + 4 * j + 1, none⟩ = some (.int .u8 x1) from fun W h => by rw [← b1]; exact World.cell?_of_block (w := wo) (a := ⟨hb, 8 + 4 * j + 1, none⟩) (h hb (by have := HLT.out; omega)))
      have HKB2 := Lib.hid (show ∀ W : World, (∀ b, b ≠ N → W.heap[b]? = wo.heap[b]?) → W.cell? ⟨hb, 8 + 4 * j + 2, none⟩ = some (.int .u8 x2) from fun W h => by rw [← b2]; exact World.cell?_of_block (w := wo) (a := ⟨hb, 8 + 4 * j + 2, none⟩) (h hb (by have := HLT.out; omega)))
      have HKB3 := Lib.hid (show ∀ W : World, (∀ b, b ≠ N → W.heap[b]? = wo.heap[b]?) → W.cell? ⟨hb, 8 + 4 * j + 3, none⟩ = some (.int .u8 x3) from fun W h => by rw [← b3]; exact World.cell?_of_block (w := wo) (a := ⟨hb, 8 + 4 * j + 3, none⟩) (h hb (by have := HLT.out; omega)))
      go_upto_region 5 with fail
      go_region_held3 (fun W => W.cell? ⟨hb, 8 + 4 * j, none⟩ = some (.int .u8 x0) ∧ W.cell? ⟨hb, 8 + 4 * j + 1, none⟩ = some (.int .u8 x1) ∧ W.cell? ⟨hb, 8 + 4 * j + 2, none⟩ = some (.int .u8 x2) ∧ W.cell? ⟨hb, 8 + 4 * j + 3, none⟩ = some (.int .u8 x3)) (first | exact HK.out | exact ⟨HKB0.out _ (fun b hb => Below.heap_setCell _ _ _ _ hb), HKB1.out _ (fun b hb => Below.heap_setCell _ _ _ _ hb), HKB2.out _ (fun b hb => Below.heap_setCell _ _ _ _ hb), HKB3.out _ (fun b hb => Below.heap_setCell _ _ _ _ hb)⟩) (fail)
      all_goals
        have HWN := Lib.hid (show (wo.setCell ⟨N, j, none⟩ (.int .u32 (word4 x0 x1 x2 x3))).drew.heap[N]? = some (.cells (uV (wL bs (j + 1))).toArray 140) by
          show (wo.setCell ⟨N, j, none⟩ (.int .u32 (word4 x0 x1 x2 x3))).heap[N]? = _
          rw [HWJ.out, ← uV_set]
          exact setCell_heap HWB.out)
        have HHN := Lib.hid (show HashAt (wo.setCell ⟨N, j, none⟩ (.int .u32 (word4 x0 x1 x2 x3))).drew hb ws bs tot from HKS.out _ (fun b hb => Below.heap_setCell _ _ _ _ hb))
        have HBN := Lib.hid (show Below N w (wo.setCell ⟨N, j, none⟩ (.int .u32 (word4 x0 x1 x2 x3))).drew from (HB.out.setCell (Nat.le_refl _) _).drew)
        unfold word4 at HWN HHN HBN
        clear b0 b1 b2 b3 hbb hsl hix n0 hnb fz
        have hlt9 := HJ.out
        go_wp2_with fail
        go_roundw
        case rel => exact ⟨j + 1, by have := HJ.out; omega, by go_num, HHN, HWN, HBN⟩
        case measure => have := HJ.out; simp [intOf]; omega
    · have HJ16 := Lib.hid (show j = 16 by omega)
      have hdf : decide ((j : Int) < 16) = false := by rw [HJ16.out]; rfl
      have hnl : ¬ (j : Int) < 16 := by omega
      clear hlt hj
      have HR := Lib.hid (show ∀ (x : Int) (n : Nat), 0 < n → n < 32 → ∀ W, Calls Tryz.prog 84 #[.int .u32 x, .int .i64 n] W fun e w' => e = .returned (.int .u32 (rotF x (32 - n))) ∧ w' = W from fun x n h0 h1 W => rotr84_any x n W h0 h1)
      go_wp2_with fail
      go_loopw [5] (fun i wr => ∃ k : Nat, k ≤ 48 ∧ i = .int .i64 ((16 + k : Nat) : Int) ∧ Hid (HashAt wr hb ws bs tot) ∧ Hid (wr.heap[N]? = some (.cells (uV (wX bs k)).toArray 140)) ∧ Hid (Below N w wr)) (fun i _ => 64 - (intOf i).toNat)
      case atStart => exact ⟨0, Nat.zero_le _, rfl, HH, Lib.hid (by rw [wX_start bs HJ16.out]; exact HWB.out), HB⟩
      case round =>
        clear HWB
        obtain ⟨k, hk, rfl, HH, HWB, HB⟩ := hrel
        obtain ⟨wo, rfl⟩ : ∃ wo : World, wo = wr := ⟨_, rfl⟩
        have HWK := Lib.hid (show wX bs (k + 1) = (wX bs k).set (16 + k) (stepW ((wX bs k).getD (16 + k - 16) 0) ((wX bs k).getD (16 + k - 7) 0) ((wX bs k).getD (16 + k - 15) 0) ((wX bs k).getD (16 + k - 2) 0)) from rfl)
        obtain ⟨t, HT⟩ : ∃ t, Hid (16 + k = t) := ⟨_, Lib.hid rfl⟩
        rw [HT.out] at HWK ⊢
        have ht16 : 16 ≤ t := by rw [← HT.out]; omega
        by_cases hlt : t < 64
        · have HJ := Lib.hid hlt
          have hti : (t : Int) < 64 := by omega
          have hw15 : IntKind.i64.wrap ((t : Int) - 15) = t - 15 := by rw [IntKind.wrap_i64]; omega
          have hw2 : IntKind.i64.wrap ((t : Int) - 2) = t - 2 := by rw [IntKind.wrap_i64]; omega
          have hw16 : IntKind.i64.wrap ((t : Int) - 16) = t - 16 := by rw [IntKind.wrap_i64]; omega
          have hw7 : IntKind.i64.wrap ((t : Int) - 7) = t - 7 := by rw [IntKind.wrap_i64]; omega
          have hx15 := fun W => idx140 N ((t : Int) - 15) (t - 15) (by omega) (by omega) W
          have hx2 := fun W => idx140 N ((t : Int) - 2) (t - 2) (by omega) (by omega) W
          have hx16 := fun W => idx140 N ((t : Int) - 16) (t - 16) (by omega) (by omega) W
          have hx7 := fun W => idx140 N ((t : Int) - 7) (t - 7) (by omega) (by omega) W
          have hxt := fun W => idx140 N (t : Int) t rfl hlt W
          have n15 : wo.cell? ⟨N, t - 15, none⟩ = some (.int .u32 ((wX bs k).getD (t - 15) 0)) := cell_of_blk HWB.out (by rw [List.getElem?_toArray]; exact uV_at _ _ (by rw [wX_len]; omega))
          have n2 : wo.cell? ⟨N, t - 2, none⟩ = some (.int .u32 ((wX bs k).getD (t - 2) 0)) := cell_of_blk HWB.out (by rw [List.getElem?_toArray]; exact uV_at _ _ (by rw [wX_len]; omega))
          have n16 : wo.cell? ⟨N, t - 16, none⟩ = some (.int .u32 ((wX bs k).getD (t - 16) 0)) := cell_of_blk HWB.out (by rw [List.getElem?_toArray]; exact uV_at _ _ (by rw [wX_len]; omega))
          have n7 : wo.cell? ⟨N, t - 7, none⟩ = some (.int .u32 ((wX bs k).getD (t - 7) 0)) := cell_of_blk HWB.out (by rw [List.getElem?_toArray]; exact uV_at _ _ (by rw [wX_len]; omega))
          have nt : wo.cell? ⟨N, t, none⟩ = some (.int .u32 ((wX bs k).getD t 0)) := cell_of_blk HWB.out (by rw [List.getElem?_toArray]; exact uV_at _ _ (by rw [wX_len]; omega))
          have hnb := cell_lt nt
          have fz := thaw HWB.out t
          generalize (wX bs k).getD (t - 15) 0 = y15 at *
          generalize (wX bs k).getD (t - 2) 0 = y2 at *
          generalize (wX bs k).getD (t - 16) 0 = y16 at *
          generalize (wX bs k).getD (t - 7) 0 = y7 at *
          have HR7 := Lib.hid (show ∀ W, Calls Tryz.prog 84 #[.int .u32 y15, .int .i64 7] W fun e w' => e = .returned (.int .u32 (rotF y15 25)) ∧ w' = W from fun W => HR.out y15 7 (by omega) (by omega) W)
          have HR18 := Lib.hid (show ∀ W, Calls Tryz.prog 84 #[.int .u32 y15, .int .i64 18] W fun e w' => e = .returned (.int .u32 (rotF y15 14)) ∧ w' = W from fun W => HR.out y15 18 (by omega) (by omega) W)
          have HR17 := Lib.hid (show ∀ W, Calls Tryz.prog 84 #[.int .u32 y2, .int .i64 17] W fun e w' => e = .returned (.int .u32 (rotF y2 15)) ∧ w' = W from fun W => HR.out y2 17 (by omega) (by omega) W)
          have HR19 := Lib.hid (show ∀ W, Calls Tryz.prog 84 #[.int .u32 y2, .int .i64 19] W fun e w' => e = .returned (.int .u32 (rotF y2 13)) ∧ w' = W from fun W => HR.out y2 19 (by omega) (by omega) W)
          obtain ⟨r7, HQ7⟩ : ∃ r, Hid (rotF y15 25 = r) := ⟨_, Lib.hid rfl⟩
          rw [HQ7.out] at HR7
          obtain ⟨r18, HQ18⟩ : ∃ r, Hid (rotF y15 14 = r) := ⟨_, Lib.hid rfl⟩
          rw [HQ18.out] at HR18
          obtain ⟨r17, HQ17⟩ : ∃ r, Hid (rotF y2 15 = r) := ⟨_, Lib.hid rfl⟩
          rw [HQ17.out] at HR17
          obtain ⟨r19, HQ19⟩ : ∃ r, Hid (rotF y2 13 = r) := ⟨_, Lib.hid rfl⟩
          rw [HQ19.out] at HR19
          go_upto_region 10 with fail
          go_quiet (fail)
          go_wp2_with fail
          refine (HR7.out _).mono ?_
          rintro e wq ⟨rfl, hwq⟩
          subst hwq
          go_wp2_with fail
          refine (HR18.out _).mono ?_
          rintro e wq ⟨rfl, hwq⟩
          subst hwq
          go_wp2_with fail
          refine (HR17.out _).mono ?_
          rintro e wq ⟨rfl, hwq⟩
          subst hwq
          go_wp2_with fail
          refine (HR19.out _).mono ?_
          rintro e wq ⟨rfl, hwq⟩
          subst hwq
          go_upto_region 13 with fail
          have HKW := Lib.hid (show ∀ m v, ((wo.drewN m).setCell ⟨N, t, none⟩ v).cell? ⟨N, t - 16, none⟩ = some (.int .u32 y16) ∧ ((wo.drewN m).setCell ⟨N, t, none⟩ v).cell? ⟨N, t - 7, none⟩ = some (.int .u32 y7) from fun m v => ⟨by rw [World.cell?_setCell_other]; exact n16; intro e; injection e with e1 e2; omega, by rw [World.cell?_setCell_other]; exact n7; intro e; injection e with e1 e2; omega⟩)
          have HK0 := Lib.hid (show (wo.drewN nq).drew.cell? ⟨N, t - 16, none⟩ = some (.int .u32 y16) ∧ (wo.drewN nq).drew.cell? ⟨N, t - 7, none⟩ = some (.int .u32 y7) from ⟨n16, n7⟩)
          go_region_held3 (fun W => W.cell? ⟨N, t - 16, none⟩ = some (.int .u32 y16) ∧ W.cell? ⟨N, t - 7, none⟩ = some (.int .u32 y7)) (first | exact HK0.out | exact HKW.out _ _) (fail)
          all_goals
            have HST := Lib.hid (show stepW y16 y7 y15 y2 = IntKind.u32.wrap (IntKind.u32.wrap (IntKind.u32.wrap (y16 + bits .xor .u32 (bits .xor .u32 r7 r18) (y15 / 8)) + y7) + bits .xor .u32 (bits .xor .u32 r17 r19) (y2 / 1024)) from by unfold stepW; rw [HQ7.out, HQ18.out, HQ17.out, HQ19.out])
            rw [← HST.out]
            generalize stepW y16 y7 y15 y2 = zz at *
            have HWN := Lib.hid (show ((wo.drewN (nq + 1)).setCell ⟨N, t, none⟩ (.int .u32 zz)).heap[N]? = some (.cells (uV (wX bs (k + 1))).toArray 140) by
              rw [HWK.out, ← uV_set]
              exact setCell_heap (show (wo.drewN (nq + 1)).heap[N]? = some _ from HWB.out))
            have HHN := Lib.hid (show HashAt ((wo.drewN (nq + 1)).setCell ⟨N, t, none⟩ (.int .u32 zz)) hb ws bs tot from HH.out.keep (Below.heap_setCell (wo.drewN (nq + 1)) ⟨N, t, none⟩ _ hb (show hb ≠ N by have := HLT.out; omega)))
            have HBN := Lib.hid (show Below N w ((wo.drewN (nq + 1)).setCell ⟨N, t, none⟩ (.int .u32 zz)) from (HB.out.trans (below_drewN wo (nq + 1) N)).setCell (Nat.le_refl _) _)
            clear n15 n2 n16 n7 nt hnb fz hx15 hx2 hx16 hx7 hxt hw15 hw2 hw16 hw7
            have hlt9 := HJ.out
            go_wp2_with fail
            go_roundw
            case rel => exact ⟨k + 1, by have := HJ.out; have := HT.out; omega, by rw [show 16 + (k + 1) = t + 1 by have := HT.out; omega]; go_num, HHN, HWN, HBN⟩
            case measure => have := HJ.out; simp [intOf]; omega
        · have HK48 := Lib.hid (show k = 48 by have := HT.out; omega)
          have H64 := Lib.hid (show t = 64 by have := HT.out; omega)
          have hd64 : decide ((t : Int) < 64) = false := by rw [H64.out]; rfl
          have hn64 : ¬ (t : Int) < 64 := by omega
          clear hlt HWK
          obtain ⟨W64, HW64⟩ : ∃ l, Hid (wX bs k = l) := ⟨_, Lib.hid rfl⟩
          rw [HW64.out] at HWB
          have HWLEN := Lib.hid (show W64.length = 64 by rw [← HW64.out]; exact wX_len bs k)
          obtain ⟨a0, a1, a2, a3, a4, a5, a6, a7, rfl⟩ := list8 HH.out.wl
          have c0 : wo.cell? ⟨hb, 0, none⟩ = some (.int .u32 a0) := HH.out.w (by omega)
          have c1 : wo.cell? ⟨hb, 1, none⟩ = some (.int .u32 a1) := HH.out.w (by omega)
          have c2 : wo.cell? ⟨hb, 2, none⟩ = some (.int .u32 a2) := HH.out.w (by omega)
          have c3 : wo.cell? ⟨hb, 3, none⟩ = some (.int .u32 a3) := HH.out.w (by omega)
          have c4 : wo.cell? ⟨hb, 4, none⟩ = some (.int .u32 a4) := HH.out.w (by omega)
          have c5 : wo.cell? ⟨hb, 5, none⟩ = some (.int .u32 a5) := HH.out.w (by omega)
          have c6 : wo.cell? ⟨hb, 6, none⟩ = some (.int .u32 a6) := HH.out.w (by omega)
          have c7 : wo.cell? ⟨hb, 7, none⟩ = some (.int .u32 a7) := HH.out.w (by omega)
          have hbc := cell_lt c0
          have HZ := Lib.hid (alloc_last wo (.cells #[.int .u32 a0, .int .u32 a1, .int .u32 a2, .int .u32 a3, .int .u32 a4, .int .u32 a5, .int .u32 a6, .int .u32 a7] 109))
          have HMZ := Lib.hid (more_alloc wo (.cells #[.int .u32 a0, .int .u32 a1, .int .u32 a2, .int .u32 a3, .int .u32 a4, .int .u32 a5, .int .u32 a6, .int .u32 a7] 109))
          go_upto_region 15 with fail
          clear c0 c1 c2 c3 c4 c5 c6 c7 hbc hd64 hn64
          have HW0 := Lib.hid (show (uV [a0, a1, a2, a3, a4, a5, a6, a7]).toArray = #[.int .u32 a0, .int .u32 a1, .int .u32 a2, .int .u32 a3, .int .u32 a4, .int .u32 a5, .int .u32 a6, .int .u32 a7] from rfl)
          have HHS := Lib.hid (HH.out.keep (HMZ.out.block (blk_lt HH.out.blk)))
          have HWS := Lib.hid ((HMZ.out.block (blk_lt HWB.out)).trans HWB.out)
          have HNS := Lib.hid (show N < wo.heap.size from blk_lt HWB.out)
          have HBS := Lib.hid (HB.out.trans (HMZ.out.below.mono (Nat.le_of_lt HNS.out)))
          generalize wo.alloc (.cells #[.int .u32 a0, .int .u32 a1, .int .u32 a2, .int .u32 a3, .int .u32 a4, .int .u32 a5, .int .u32 a6, .int .u32 a7] 109) = w2 at *
          generalize wo.heap.size = SB at *
          rw [← HW0.out] at HZ
          have HSL := Lib.hid (show [a0, a1, a2, a3, a4, a5, a6, a7].length = 8 from rfl)
          generalize hws : [a0, a1, a2, a3, a4, a5, a6, a7] = ws0 at *
          have HWS0 := Lib.hid hws
          clear hws HW0
          have HGS := Lib.hid (show ∀ W, Below N w W → GlobK W KK from fun W hW => HGK.out.keep hW.size (hW.block 0 (by rw [HN.out]; exact HGK.out.1)))
          go_wp2_with fail
          go_loopw [106] (fun i wr => ∃ j : Nat, j ≤ 64 ∧ i = .int .i64 j ∧ Hid (HashAt wr hb ws0 bs tot) ∧ Hid (wr.heap[N]? = some (.cells (uV W64).toArray 140)) ∧ Hid (wr.heap[SB]? = some (.cells (uV (sR KK W64 ws0 j)).toArray 109)) ∧ Hid (Below N w wr)) (fun i _ => 64 - (intOf i).toNat)
          case atStart => exact ⟨0, Nat.zero_le _, rfl, HHS, HWS, HZ, HBS⟩
          case round =>
            obtain ⟨m, hm, rfl, HH3, HW3, HS3, HB3⟩ := hrel
            obtain ⟨w3, rfl⟩ : ∃ wo : World, wo = wr := ⟨_, rfl⟩
            by_cases hlt : m < 64
            · have HJ3 := Lib.hid hlt
              have hmi : (m : Int) < 64 := by omega
              have HSRN := Lib.hid (show sR KK W64 ws0 (m + 1) = stepR (KK.getD m 0) (W64.getD m 0) (sR KK W64 ws0 m) from rfl)
              have hsl := sR_len (KK := KK) (W := W64) HSL.out m
              generalize sR KK W64 ws0 m = sl at *
              obtain ⟨s0, s1, s2, s3, s4, s5, s6, s7, rfl⟩ := list8 hsl
              clear hsl
              have c0 : w3.cell? ⟨SB, 0, none⟩ = some (.int .u32 s0) := cell_of_blk HS3.out rfl
              have c1 : w3.cell? ⟨SB, 1, none⟩ = some (.int .u32 s1) := cell_of_blk HS3.out rfl
              have c2 : w3.cell? ⟨SB, 2, none⟩ = some (.int .u32 s2) := cell_of_blk HS3.out rfl
              have c3 : w3.cell? ⟨SB, 3, none⟩ = some (.int .u32 s3) := cell_of_blk HS3.out rfl
              have c4 : w3.cell? ⟨SB, 4, none⟩ = some (.int .u32 s4) := cell_of_blk HS3.out rfl
              have c5 : w3.cell? ⟨SB, 5, none⟩ = some (.int .u32 s5) := cell_of_blk HS3.out rfl
              have c6 : w3.cell? ⟨SB, 6, none⟩ = some (.int .u32 s6) := cell_of_blk HS3.out rfl
              have c7 : w3.cell? ⟨SB, 7, none⟩ = some (.int .u32 s7) := cell_of_blk HS3.out rfl
              have hbc := cell_lt c0
              have fz0 := thaw HS3.out 0
              have fz1 := thaw HS3.out 1
              have fz2 := thaw HS3.out 2
              have fz3 := thaw HS3.out 3
              have fz4 := thaw HS3.out 4
              have fz5 := thaw HS3.out 5
              have fz6 := thaw HS3.out 6
              have fz7 := thaw HS3.out 7
              have kc := (HGS.out _ HB3.out).2 m hlt
              have wc : w3.cell? ⟨N, m, none⟩ = some (.int .u32 (W64.getD m 0)) := cell_of_blk HW3.out (by rw [List.getElem?_toArray]; exact uV_at _ _ (by rw [HWLEN.out]; exact hlt))
              have hbw := cell_lt wc
              have hbk := cell_lt kc
              generalize KK.getD m 0 = kk at *
              generalize W64.getD m 0 = ww at *
              have hxN := fun W => idx140 N (m : Int) m rfl hlt W
              have hx0 := fun W => idx140 0 (m : Int) m rfl hlt W
              have hs0 := fun W => idx109 SB 0 0 rfl (by omega) W
              have hs1 := fun W => idx109 SB 1 1 rfl (by omega) W
              have hs2 := fun W => idx109 SB 2 2 rfl (by omega) W
              have hs3 := fun W => idx109 SB 3 3 rfl (by omega) W
              have hs4 := fun W => idx109 SB 4 4 rfl (by omega) W
              have hs5 := fun W => idx109 SB 5 5 rfl (by omega) W
              have hs6 := fun W => idx109 SB 6 6 rfl (by omega) W
              have hs7 := fun W => idx109 SB 7 7 rfl (by omega) W
              go_upto_region 18 with fail
              go_quiet (fail)
              go_upto_region 19 with fail
              obtain ⟨wq, HWQ⟩ : ∃ wq, Hid (wq = w3.drewN nq) := ⟨_, Lib.hid rfl⟩
              rw [← HWQ.out]
              have d3 : wq.cell? ⟨SB, 3, none⟩ = some (.int .u32 s3) := by rw [HWQ.out]; exact c3
              have d7 : wq.cell? ⟨SB, 7, none⟩ = some (.int .u32 s7) := by rw [HWQ.out]; exact c7
              have kd : wq.cell? ⟨0, m, none⟩ = some (.int .u32 kk) := by rw [HWQ.out]; exact kc
              have wd : wq.cell? ⟨N, m, none⟩ = some (.int .u32 ww) := by rw [HWQ.out]; exact wc
              have HHQ := Lib.hid (show HashAt wq hb ws0 bs tot by rw [HWQ.out]; exact HH3.out.keep rfl)
              have HW3Q := Lib.hid (show wq.heap[N]? = some (.cells (uV W64).toArray 140) by rw [HWQ.out]; exact HW3.out)
              have HS3Q := Lib.hid (show wq.heap[SB]? = some (.cells (uV [s0, s1, s2, s3, s4, s5, s6, s7]).toArray 109) by rw [HWQ.out]; exact HS3.out)
              have HB3Q := Lib.hid (show Below N w wq by rw [HWQ.out]; exact HB3.out.trans (below_drewN w3 nq N))
              have hbq := cell_lt d3
              have hbw2 := cell_lt wd
              have hbk2 := cell_lt kd
              clear c0 c1 c2 c3 c4 c5 c6 c7 hbc kc wc hbw hbk fz0 fz1 fz2 fz3 fz4 fz5 fz6 fz7 HH3 HW3 HS3 HB3 HWQ
              have HR6 := Lib.hid (show ∀ W, Calls Tryz.prog 84 #[.int .u32 s4, .int .i64 6] W fun e w' => e = .returned (.int .u32 (rotF s4 26)) ∧ w' = W from fun W => HR.out s4 6 (by omega) (by omega) W)
              have HR11 := Lib.hid (show ∀ W, Calls Tryz.prog 84 #[.int .u32 s4, .int .i64 11] W fun e w' => e = .returned (.int .u32 (rotF s4 21)) ∧ w' = W from fun W => HR.out s4 11 (by omega) (by omega) W)
              have HR25 := Lib.hid (show ∀ W, Calls Tryz.prog 84 #[.int .u32 s4, .int .i64 25] W fun e w' => e = .returned (.int .u32 (rotF s4 7)) ∧ w' = W from fun W => HR.out s4 25 (by omega) (by omega) W)
              have HR2 := Lib.hid (show ∀ W, Calls Tryz.prog 84 #[.int .u32 s0, .int .i64 2] W fun e w' => e = .returned (.int .u32 (rotF s0 30)) ∧ w' = W from fun W => HR.out s0 2 (by omega) (by omega) W)
              have HR13 := Lib.hid (show ∀ W, Calls Tryz.prog 84 #[.int .u32 s0, .int .i64 13] W fun e w' => e = .returned (.int .u32 (rotF s0 19)) ∧ w' = W from fun W => HR.out s0 13 (by omega) (by omega) W)
              have HR22 := Lib.hid (show ∀ W, Calls Tryz.prog 84 #[.int .u32 s0, .int .i64 22] W fun e w' => e = .returned (.int .u32 (rotF s0 10)) ∧ w' = W from fun W => HR.out s0 22 (by omega) (by omega) W)
              obtain ⟨r6, HQ6⟩ : ∃ r, Hid (rotF s4 26 = r) := ⟨_, Lib.hid rfl⟩
              rw [HQ6.out] at HR6
              obtain ⟨r11, HQ11⟩ : ∃ r, Hid (rotF s4 21 = r) := ⟨_, Lib.hid rfl⟩
              rw [HQ11.out] at HR11
              obtain ⟨r25, HQ25⟩ : ∃ r, Hid (rotF s4 7 = r) := ⟨_, Lib.hid rfl⟩
              rw [HQ25.out] at HR25
              obtain ⟨r2, HQ2⟩ : ∃ r, Hid (rotF s0 30 = r) := ⟨_, Lib.hid rfl⟩
              rw [HQ2.out] at HR2
              obtain ⟨r13, HQ13⟩ : ∃ r, Hid (rotF s0 19 = r) := ⟨_, Lib.hid rfl⟩
              rw [HQ13.out] at HR13
              obtain ⟨r22, HQ22⟩ : ∃ r, Hid (rotF s0 10 = r) := ⟨_, Lib.hid rfl⟩
              rw [HQ22.out] at HR22
              go_quiet (first | (exact Calls.quiet_of_same (HR6.out _)) | (exact Calls.quiet_of_same (HR11.out _)) | (exact Calls.quiet_of_same (HR25.out _)))
              have HT1 := Lib.hid (show ((s7 + bits .xor .u32 (bits .xor .u32 r6 r11) r25 + bits .xor .u32 (bits .and .u32 s4 s5) (bits .and .u32 (bits .xor .u32 (if IntKind.u32.signed = true then -1 else IntKind.u32.max) s4) s6) + kk) % 4294967296 + ww) % 4294967296 = t1F kk ww s4 s5 s6 s7 from by unfold t1F; rw [HQ6.out, HQ11.out, HQ25.out])
              rw [HT1.out]
              clear HT1
              obtain ⟨t1, HT1⟩ : ∃ z, Hid (t1F kk ww s4 s5 s6 s7 = z) := ⟨_, Lib.hid rfl⟩
              rw [HT1.out]
              clear kd wd d7 hxN hx0 hbw2 hbk2 HR6 HR11 HR25 HQ6 HQ11 HQ25
              go_upto_region 20 with fail
              clear hlt hmi hs0 hs1 hs2 hs4 hs5 hs6 hs7
              go_wp2_with fail
              refine (HR2.out _).mono ?_
              rintro e wq2 ⟨rfl, hwq⟩
              subst hwq
              go_wp2_with fail
              refine (HR13.out _).mono ?_
              rintro e wq2 ⟨rfl, hwq⟩
              subst hwq
              go_wp2_with fail
              refine (HR22.out _).mono ?_
              rintro e wq2 ⟨rfl, hwq⟩
              subst hwq
              go_upto_region 21 with fail
              have HT2 := Lib.hid (show (bits .xor .u32 (bits .xor .u32 r2 r13) r22 + bits .xor .u32 (bits .xor .u32 (bits .and .u32 s0 s1) (bits .and .u32 s0 s2)) (bits .and .u32 s1 s2)) % 4294967296 = t2F s0 s1 s2 from by unfold t2F; rw [HQ2.out, HQ13.out, HQ22.out])
              rw [HT2.out]
              clear HT2 HQ2 HQ13 HQ22 HR2 HR13 HR22
              obtain ⟨t2, HT2⟩ : ∃ z, Hid (t2F s0 s1 s2 = z) := ⟨_, Lib.hid rfl⟩
              rw [HT2.out]
              have HSRE := Lib.hid (show sR KK W64 ws0 (m + 1) = [(t1 + t2) % 4294967296, s0, s1, s2, (s3 + t1) % 4294967296, s4, s5, s6] from by rw [HSRN.out]; show [_, _, _, _, _, _, _, _] = _; rw [HT1.out, HT2.out])
              obtain ⟨wz, HWZ⟩ : ∃ wz, Hid (wz = wq.drewN nq) := ⟨_, Lib.hid rfl⟩
              rw [← HWZ.out]
              have HHZ := Lib.hid (show HashAt wz hb ws0 bs tot by rw [HWZ.out]; exact HHQ.out.keep rfl)
              have HW3Z := Lib.hid (show wz.heap[N]? = some (.cells (uV W64).toArray 140) by rw [HWZ.out]; exact HW3Q.out)
              have HS3Z := Lib.hid (show wz.heap[SB]? = some (.cells (uV [s0, s1, s2, s3, s4, s5, s6, s7]).toArray 109) by rw [HWZ.out]; exact HS3Q.out)
              have HB3Z := Lib.hid (show Below N w wz by rw [HWZ.out]; exact HB3Q.out.trans (below_drewN wq nq N))
              clear d3 hbq HHQ HW3Q HS3Q HB3Q HWZ HSRN HT1 HT2
              have d0 : wz.cell? ⟨SB, 0, none⟩ = some (.int .u32 s0) := cell_of_blk HS3Z.out rfl
              have d1 : wz.cell? ⟨SB, 1, none⟩ = some (.int .u32 s1) := cell_of_blk HS3Z.out rfl
              have d2 : wz.cell? ⟨SB, 2, none⟩ = some (.int .u32 s2) := cell_of_blk HS3Z.out rfl
              have d3 : wz.cell? ⟨SB, 3, none⟩ = some (.int .u32 s3) := cell_of_blk HS3Z.out rfl
              have d4 : wz.cell? ⟨SB, 4, none⟩ = some (.int .u32 s4) := cell_of_blk HS3Z.out rfl
              have d5 : wz.cell? ⟨SB, 5, none⟩ = some (.int .u32 s5) := cell_of_blk HS3Z.out rfl
              have d6 : wz.cell? ⟨SB, 6, none⟩ = some (.int .u32 s6) := cell_of_blk HS3Z.out rfl
              have d7 : wz.cell? ⟨SB, 7, none⟩ = some (.int .u32 s7) := cell_of_blk HS3Z.out rfl
              have fz0 := thaw HS3Z.out 0
              have fz1 := thaw HS3Z.out 1
              have fz2 := thaw HS3Z.out 2
              have fz3 := thaw HS3Z.out 3
              have fz4 := thaw HS3Z.out 4
              have fz5 := thaw HS3Z.out 5
              have fz6 := thaw HS3Z.out 6
              have fz7 := thaw HS3Z.out 7
              have hbq := cell_lt d0
              have hs3 := fun W => idx109 SB 3 3 rfl (by omega) W
              go_upto_region 22 with fail
              clear d0 d1 d2 d3 d4 d5 d6 d7 fz0 fz1 fz2 fz3 fz4 fz5 fz6 fz7 hbq hs3
              have HKZ := Lib.hid (show ∀ b, b ≠ SB → (((((((((wz.setCell ⟨SB, 0, none⟩ (.int .u32 ((t1 + t2) % 4294967296))).setCell ⟨SB, 1, none⟩ (.int .u32 s0)).setCell ⟨SB, 2, none⟩ (.int .u32 s1)).setCell ⟨SB, 3, none⟩ (.int .u32 s2)).setCell ⟨SB, 4, none⟩ (.int .u32 ((s3 + t1) % 4294967296))).setCell ⟨SB, 5, none⟩ (.int .u32 s4)).setCell ⟨SB, 6, none⟩ (.int .u32 s5)).setCell ⟨SB, 7, none⟩ (.int .u32 s6))).heap[b]? = wz.heap[b]? from fun b hb => (Below.heap_setCell _ _ _ _ hb).trans ((Below.heap_setCell _ _ _ _ hb).trans ((Below.heap_setCell _ _ _ _ hb).trans ((Below.heap_setCell _ _ _ _ hb).trans ((Below.heap_setCell _ _ _ _ hb).trans ((Below.heap_setCell _ _ _ _ hb).trans ((Below.heap_setCell _ _ _ _ hb).trans (Below.heap_setCell _ _ _ _ hb))))))))
              have HSF := Lib.hid (show (((((((((wz.setCell ⟨SB, 0, none⟩ (.int .u32 ((t1 + t2) % 4294967296))).setCell ⟨SB, 1, none⟩ (.int .u32 s0)).setCell ⟨SB, 2, none⟩ (.int .u32 s1)).setCell ⟨SB, 3, none⟩ (.int .u32 s2)).setCell ⟨SB, 4, none⟩ (.int .u32 ((s3 + t1) % 4294967296))).setCell ⟨SB, 5, none⟩ (.int .u32 s4)).setCell ⟨SB, 6, none⟩ (.int .u32 s5)).setCell ⟨SB, 7, none⟩ (.int .u32 s6))).heap[SB]? = some (.cells (uV (sR KK W64 ws0 (m + 1))).toArray 109) by
                rw [HSRE.out]
                exact setCell_heap (setCell_heap (setCell_heap (setCell_heap (setCell_heap (setCell_heap (setCell_heap (setCell_heap HS3Z.out))))))))
              have HBF := Lib.hid (show Below N w (((((((((wz.setCell ⟨SB, 0, none⟩ (.int .u32 ((t1 + t2) % 4294967296))).setCell ⟨SB, 1, none⟩ (.int .u32 s0)).setCell ⟨SB, 2, none⟩ (.int .u32 s1)).setCell ⟨SB, 3, none⟩ (.int .u32 s2)).setCell ⟨SB, 4, none⟩ (.int .u32 ((s3 + t1) % 4294967296))).setCell ⟨SB, 5, none⟩ (.int .u32 s4)).setCell ⟨SB, 6, none⟩ (.int .u32 s5)).setCell ⟨SB, 7, none⟩ (.int .u32 s6))) from (((((((HB3Z.out.setCell (Nat.le_of_lt HNS.out) _).setCell (Nat.le_of_lt HNS.out) _).setCell (Nat.le_of_lt HNS.out) _).setCell (Nat.le_of_lt HNS.out) _).setCell (Nat.le_of_lt HNS.out) _).setCell (Nat.le_of_lt HNS.out) _).setCell (Nat.le_of_lt HNS.out) _).setCell (Nat.le_of_lt HNS.out) _)
              generalize ((((((((wz.setCell ⟨SB, 0, none⟩ (.int .u32 ((t1 + t2) % 4294967296))).setCell ⟨SB, 1, none⟩ (.int .u32 s0)).setCell ⟨SB, 2, none⟩ (.int .u32 s1)).setCell ⟨SB, 3, none⟩ (.int .u32 s2)).setCell ⟨SB, 4, none⟩ (.int .u32 ((s3 + t1) % 4294967296))).setCell ⟨SB, 5, none⟩ (.int .u32 s4)).setCell ⟨SB, 6, none⟩ (.int .u32 s5)).setCell ⟨SB, 7, none⟩ (.int .u32 s6)) = wf at *
              have HHF := Lib.hid (HHZ.out.keep (HKZ.out hb (by have := HLT.out; have := HNS.out; omega)))
              have HWF := Lib.hid ((HKZ.out N (by have := HNS.out; omega)).trans HW3Z.out)
              have hlt9 := HJ3.out
              go_wp2_with fail
              go_roundw
              case rel => exact ⟨m + 1, by have := HJ3.out; omega, by go_num, HHF, HWF, HSF, HBF⟩
              case measure => have := HJ3.out; simp [intOf]; omega
            · have HM64 := Lib.hid (show m = 64 by omega)
              have hdm : decide ((m : Int) < 64) = false := by rw [HM64.out]; rfl
              have hnm : ¬ (m : Int) < 64 := by omega
              clear hlt hm
              have hslen := sR_len (KK := KK) (W := W64) HSL.out m
              obtain ⟨sF, HSF⟩ : ∃ l, Hid (sR KK W64 ws0 m = l) := ⟨_, Lib.hid rfl⟩
              rw [HSF.out] at HS3 hslen
              obtain ⟨b0, b1, b2, b3, b4, b5, b6, b7, rfl⟩ := list8 hslen
              clear hslen
              have c0 : w3.cell? ⟨SB, 0, none⟩ = some (.int .u32 b0) := cell_of_blk HS3.out rfl
              have c1 : w3.cell? ⟨SB, 1, none⟩ = some (.int .u32 b1) := cell_of_blk HS3.out rfl
              have c2 : w3.cell? ⟨SB, 2, none⟩ = some (.int .u32 b2) := cell_of_blk HS3.out rfl
              have c3 : w3.cell? ⟨SB, 3, none⟩ = some (.int .u32 b3) := cell_of_blk HS3.out rfl
              have c4 : w3.cell? ⟨SB, 4, none⟩ = some (.int .u32 b4) := cell_of_blk HS3.out rfl
              have c5 : w3.cell? ⟨SB, 5, none⟩ = some (.int .u32 b5) := cell_of_blk HS3.out rfl
              have c6 : w3.cell? ⟨SB, 6, none⟩ = some (.int .u32 b6) := cell_of_blk HS3.out rfl
              have c7 : w3.cell? ⟨SB, 7, none⟩ = some (.int .u32 b7) := cell_of_blk HS3.out rfl
              have hbc := cell_lt c0
              have HG3 := Lib.hid (show w.grownBy w3 (some hb) from below_grown (by rw [← HN.out]; exact HB3.out))
              go_upto_region 24 with fail
              clear c0 c1 c2 c3 c4 c5 c6 c7 hbc hdm hnm
              have HIX := Lib.hid (fun (j : Nat) (hj : j < 8) (W : World) => index109 b0 b1 b2 b3 b4 b5 b6 b7 j hj W)
              obtain ⟨sL, HSLE⟩ : ∃ sL, Hid (sL = [b0, b1, b2, b3, b4, b5, b6, b7]) := ⟨_, Lib.hid rfl⟩
              rw [← HSLE.out] at HSF HIX
              obtain ⟨AG, HAG⟩ : ∃ AG, Hid (AG = Value.agg #[.int .u32 b0, .int .u32 b1, .int .u32 b2, .int .u32 b3, .int .u32 b4, .int .u32 b5, .int .u32 b6, .int .u32 b7]) := ⟨_, Lib.hid rfl⟩
              rw [← HAG.out]
              rw [← HAG.out] at HIX
              go_loopw [185] (fun i wr => ∃ j : Nat, j ≤ 8 ∧ i = .int .i64 j ∧ Hid (HashAt wr hb (wsAdd ws0 sL j) bs tot) ∧ Hid (w.grownBy wr (some hb))) (fun i _ => 8 - (intOf i).toNat)
              case atStart => exact ⟨0, Nat.zero_le _, rfl, HH3, HG3⟩
              case round =>
                obtain ⟨r, hr, rfl, HH4, HG4⟩ := hrel
                obtain ⟨w4, rfl⟩ : ∃ wo : World, wo = wr := ⟨_, rfl⟩
                by_cases hlt : r < 8
                · have HJ4 := Lib.hid hlt
                  have hri : (r : Int) < 8 := by omega
                  have hix := fun W => HIX.out r hlt W
                  have hxh := fun W => idx109 hb (r : Int) r rfl hlt W
                  have HWR := Lib.hid (show wsAdd ws0 sL (r + 1) = (wsAdd ws0 sL r).set r (((wsAdd ws0 sL r).getD r 0 + sL.getD r 0) % 4294967296) from rfl)
                  have c0 : w4.cell? ⟨hb, r, none⟩ = some (.int .u32 ((wsAdd ws0 sL r).getD r 0)) := HH4.out.w hlt
                  have hbc := cell_lt c0
                  have fz := thaw HH4.out.blk r
                  generalize (wsAdd ws0 sL r).getD r 0 = p at *
                  generalize sL.getD r 0 = q at *
                  go_upto_region 26 with fail
                  go_still_tail 11, (by kernel_rfl)
                  change wpList _ _ _ _ _ w4.drew
                  go_wp2_with fail
                  have HHE := Lib.hid (show HashAt (w4.setCell ⟨hb, r, none⟩ (.int .u32 ((p + q) % 4294967296))).drew hb (wsAdd ws0 sL (r + 1)) bs tot by rw [HWR.out]; exact (HH4.out.setW r _ HJ4.out).keep rfl)
                  have HGE := Lib.hid (show w.grownBy (w4.setCell ⟨hb, r, none⟩ (.int .u32 ((p + q) % 4294967296))).drew (some hb) from grown_drew' (grown_set HG4.out))
                  exact ⟨⟨r + 1, by have := HJ4.out; omega, by go_num, HHE, HGE⟩, by have := HJ4.out; simp [intOf]; omega⟩
                · have HR8 := Lib.hid (show r = 8 by omega)
                  have hd8 : decide ((r : Int) < 8) = false := by rw [HR8.out]; rfl
                  have hn8 : ¬ (r : Int) < 8 := by omega
                  clear hlt hr
                  go_wp2_with fail
                  go_end0
                  exact ⟨rfl, by have h := HH4.out; rw [mixF_eq HK48.out HM64.out HR8.out HW64.out HSF.out, ← HWS0.out] at h; exact h, HG4.out⟩
end Go.Proofs.YtemeppfikpafbaaGreatDoor

/- (*digest.Hash).Write (28). -/
namespace Go.Proofs.YtemeppfikpafbaaGreatDoor
open Go.RowKit
def setL : List Int → Nat → List Int → List Int
  | bs, _, [] => bs
  | bs, i, x :: cs => setL (bs.set i x) (i + 1) cs
theorem HashAt.bvl {W : World} {hb : Nat} {ws bs : List Int} {tot : Int} (h : HashAt W hb ws bs tot) : (bV bs).length = 64 := by unfold bV; rw [List.length_map, h.bl]
theorem HashAt.setB {W : World} {hb : Nat} {ws bs : List Int} {tot : Int} (h : HashAt W hb ws bs tot) (j : Nat) (x : Int) (hj : j < 64) : HashAt (W.setCell ⟨hb, 8 + j, none⟩ (.int .u8 x)) hb ws (bs.set j x) tot := by
  refine ⟨?_, h.wl, by rw [List.length_set]; exact h.bl⟩
  have e : (uV ws ++ (bV (bs.set j x) ++ [Value.int .u64 tot])).toArray = (uV ws ++ (bV bs ++ [Value.int .u64 tot])).toArray.setIfInBounds (8 + j) (Value.int .u8 x) := by
    rw [List.setIfInBounds_toArray, List.set_append_right _ _ (by rw [h.uvl]; omega), h.uvl, Nat.add_sub_cancel_left, List.set_append_left _ _ (by rw [h.bvl]; exact hj)]
    unfold bV
    rw [List.map_set]
  rw [e]
  exact setCell_heap h.blk
theorem HashAt.setT {W : World} {hb : Nat} {ws bs : List Int} {tot : Int} (h : HashAt W hb ws bs tot) (t : Int) : HashAt (W.setCell ⟨hb, 72, none⟩ (.int .u64 t)) hb ws bs t := by
  refine ⟨?_, h.wl, h.bl⟩
  have e : (uV ws ++ (bV bs ++ [Value.int .u64 t])).toArray = (uV ws ++ (bV bs ++ [Value.int .u64 tot])).toArray.setIfInBounds 72 (Value.int .u64 t) := by
    rw [List.setIfInBounds_toArray, List.set_append_right _ _ (by rw [h.uvl]; omega), h.uvl, List.set_append_right _ _ (by rw [h.bvl]; omega), h.bvl]
    rfl
  rw [e]
  exact setCell_heap h.blk
theorem HashAt.setCs {hb : Nat} {ws : List Int} {tot : Int} : ∀ (cs : List Int) {W : World} {bs : List Int} (i : Nat), HashAt W hb ws bs tot → i + cs.length ≤ 64 → HashAt (W.setCells hb (8 + i) (bV cs)) hb ws (setL bs i cs) tot
  | [], _, _, _, h, _ => h
  | x :: cs, W, bs, i, h, hi => by
    rw [List.length_cons] at hi
    have h1 := h.setB i x (by omega)
    have h2 := HashAt.setCs cs (i + 1) h1 (by omega)
    exact h2
theorem grown_setCs {w : World} {hb : Nat} : ∀ (cs : List Value) {W : World} (i : Nat), w.grownBy W (some hb) → w.grownBy (W.setCells hb i cs) (some hb)
  | [], _, _, h => h
  | _x :: cs, _W, i, h => grown_setCs cs (i + 1) (grown_set h)
theorem slice110l (hb i : Nat) (hi : i < 64) (w : World) : (Instr.sliceAt 110 (.pointer (some ⟨hb, 8, none⟩)) (some (.int .i64 i)) none none).run Tryz.prog w = .ok (.slice (some ⟨hb, 8 + i, none⟩) (64 - i) (64 - i)) w := by
  have h := run_sliceAt_array_l (P := Tryz.prog) w 110 ⟨hb, 8, none⟩ (by kernel_rfl) .i64 i (by omega) (by rw [len110]; omega)
  rw [h, len110, show Tryz.prog.elem 110 = 5 by kernel_rfl]
  obtain ⟨i5, hi5, _⟩ := info_parts infoB
  rw [run_sizeOf w hi5, show Tryz.prog.cellsOf 5 = 1 by kernel_rfl]
  simp only [Result.andThen_ok, slicedAt, Int.toNat_natCast]
  rw [if_neg (by omega), Addr.add_mid, Nat.mul_one]
/-- What Write makes of a hash's words, block and number of bytes. -/
def wrF (KK : List Int) : Nat → List Int → List Int → Nat → List Int → List Int × List Int × Nat
  | 0, ws, bs, tot, _ => (ws, bs, tot)
  | f + 1, ws, bs, tot, l => if l = [] then (ws, bs, tot) else
    let n := min (64 - tot % 64) l.length
    let b2 := setL bs (tot % 64) (l.take n)
    wrF KK f (if tot % 64 + n = 64 then mixF KK ws b2 else ws) b2 (tot + n) (l.drop n)
theorem wrF_nil (KK : List Int) (f : Nat) (ws bs : List Int) (tot : Nat) : wrF KK f ws bs tot [] = (ws, bs, tot) := by
  cases f with
  | zero => rfl
  | succ f => rw [wrF, if_pos rfl]
theorem wrF_step (KK : List Int) (f : Nat) (ws bs : List Int) (tot : Nat) {l : List Int} (hl : l ≠ []) {i n : Nat} (hi : tot % 64 = i) (hn : min (64 - i) l.length = n) : wrF KK (f + 1) ws bs tot l = wrF KK f (if i + n = 64 then mixF KK ws (setL bs i (l.take n)) else ws) (setL bs i (l.take n)) (tot + n) (l.drop n) := by
  subst hi; subst hn
  rw [wrF, if_neg hl]
set_option maxRecDepth 100000 in
set_option maxHeartbeats 8000000 in
theorem write28_any (hb : Nat) (S : Nat → Prop) (l : List Int) (v : Value) (ws bs : List Int) (tot : Nat) (KK : List Int) (w : World) (hl : l.length ≤ 1000000) (ht : tot ≤ 1000000) (h : HashAt w hb ws bs tot) (hv : ByV S w l v) (hS : ∀ b, S b → b ≠ hb) (hK : GlobK w KK) (h0 : 0 < hb) :
    Calls Tryz.prog 28 #[.pointer (some ⟨hb, 0, none⟩), v] w fun e w' => e = .returned (.tuple #[]) ∧ HashAt w' hb (wrF KK l.length ws bs tot l).1 (wrF KK l.length ws bs tot l).2.1 ((wrF KK l.length ws bs tot l).2.2 : Nat) ∧ w.grownBy w' (some hb) := by
  have H := Lib.hid h; clear h
  have HGK := Lib.hid hK; clear hK
  have HNS := Lib.hid hS; clear hS
  obtain ⟨va, vcap, rfl, hvr, hvp⟩ := hv
  have HVR := Lib.hid hvr
  have HVP := Lib.hid hvp
  clear hvr hvp
  obtain ⟨R, HR⟩ : ∃ R, Hid (wrF KK l.length ws bs tot l = R) := ⟨_, Lib.hid rfl⟩
  rw [HR.out]
  have HGW := Lib.hid (show ∀ W, w.grownBy W (some hb) → GlobK W KK from fun W hW => HGK.out.keep hW.size (hW.block 0 HGK.out.1 (by intro e; injection e; omega)))
  have HRW := Lib.hid (show ∀ W (l2 : List Int) x, w.grownBy W (some hb) → Row S w 1 l2.length x (bV l2) → Row S W 1 l2.length x (bV l2) from fun W l2 x hW hr => (hr.lt (by omega)).mono (fun b hb2 => hb2.1) (fun b off y hb2 hc => by
    rw [← hc]; exact World.cell?_of_block (w := w) (a := ⟨b, off, none⟩) (hW.block b hb2.2 (by intro e; injection e with e; exact HNS.out b hb2.1 e))))
  go_enter Tryz.func28, Tryz.ntmps28
  go_wp2_with fail
  go_loopw [1] (fun i wr => ∃ (n : Nat) (l2 : List Int) (a2 : Option Addr) (c2 f : Nat) (ws2 bs2 : List Int) (t2 : Nat), i = .slice a2 n c2 ∧ Hid (l2.length = n) ∧ n ≤ 1000000 ∧ t2 + n ≤ 2000000 ∧ n ≤ f ∧ Hid (HashAt wr hb ws2 bs2 t2) ∧ Hid (Row S w 1 n (.slice a2 n c2) (bV l2)) ∧ Hid (PlainA a2 c2) ∧ Hid (wrF KK f ws2 bs2 t2 l2 = R) ∧ Hid (w.grownBy wr (some hb))) (fun i _ => match i with | .slice _ n _ => n | _ => 0)
  case atStart => exact ⟨l.length, l, va, vcap, l.length, ws, bs, tot, rfl, Lib.hid rfl, hl, by omega, Nat.le_refl _, H, HVR, HVP, HR, Lib.hid (World.grownBy.refl _ _)⟩
  case round =>
    obtain ⟨n, l2, a2, c2, f, ws2, bs2, t2, rfl, HN, hl2, ht2, hf, HH, HRO, HPL, HRR, HG⟩ := hrel
    obtain ⟨wo, rfl⟩ : ∃ wo : World, wo = wr := ⟨_, rfl⟩
    by_cases hn0 : n = 0
    · subst hn0
      have he : l2 = [] := List.length_eq_zero_iff.1 HN.out
      have HE := Lib.hid he
      clear he
      go_wp2_with fail
      go_end0
      have h := HRR.out
      rw [HE.out, wrF_nil] at h
      exact ⟨rfl, by rw [← h]; exact HH.out, HG.out⟩
    · have hnp : 0 < n := by omega
      obtain ⟨f, rfl⟩ : ∃ g, f = g + 1 := ⟨f - 1, by omega⟩
      obtain ⟨i, HI⟩ : ∃ i, Hid (t2 % 64 = i) := ⟨_, Lib.hid rfl⟩
      have hi : i < 64 := by rw [← HI.out]; exact Nat.mod_lt _ (by omega)
      have hrem : Int.tmod (t2 : Int) 64 = (i : Int) := by rw [Int.tmod_eq_emod_of_nonneg (by omega), ← HI.out]; omega
      have hrem2 : (t2 : Int) % 64 = (i : Int) := by rw [← HI.out]; omega
      obtain ⟨k, HK⟩ : ∃ k, Hid (min (64 - i) l2.length = k) := ⟨_, Lib.hid rfl⟩
      have hk1 : k ≤ n := by rw [← HN.out, ← HK.out]; omega
      have hk2 : i + k ≤ 64 := by rw [← HK.out]; omega
      have hk0 : 0 < k := by rw [← HK.out, HN.out]; omega
      have HST := Lib.hid (wrF_step KK f ws2 bs2 t2 (l := l2) (fun e => by have := HN.out; rw [e] at this; exact hn0 this.symm) HI.out HK.out)
      have ct : wo.cell? ⟨hb, 72, none⟩ = some (.int .u64 (t2 : Nat)) := HH.out.t
      have hbt := cell_lt ct
      have hsl := fun W => slice110l hb i hi W
      obtain ⟨a3, hpl3, hsl3, hrow3⟩ := slice_fromB a2 n c2 k hk1 (by obtain ⟨_, c, e, h1⟩ := HRO.out.shape; cases e; exact h1) HPL.out
      have HPL3 := Lib.hid hpl3
      have HROW3 := Lib.hid (hrow3 S w l2 HN.out HRO.out)
      clear hpl3 hrow3
      obtain ⟨b, off, hab, hSb, _, hcell⟩ := ((HRW.out wo l2 _ HG.out (by rw [HN.out]; exact HRO.out))).at (by rw [HN.out]; omega)
      subst hab
      clear hSb
      have hlk : (bV (l2.take k)).length = k := by unfold bV; rw [List.length_map, List.length_take, HN.out]; omega
      have hcopy := run_copy_cells (P := Tryz.prog) wo 26 26 3 5 hb (8 + i) (64 - i) (64 - i) ⟨b, off, none⟩ n c2 (bV (l2.take k)) Tryz.underlying26 (by kernel_rfl) (by rw [hlk, ← HK.out, HN.out, Nat.min_comm]) (fun j v hj => by
          rw [Addr.add_mid]
          refine hcell j v ?_
          unfold bV at hj ⊢
          rw [List.getElem?_map] at hj ⊢
          rw [List.getElem?_take] at hj
          split at hj
          · exact hj
          · cases hj) (fun j hj => by
          rw [hlk] at hj
          rw [Nat.add_assoc, HH.out.b (j := i + j) (by omega)]; rfl) (fun j hj => thaw HH.out.blk _) (fun v hv => by
          unfold bV at hv
          obtain ⟨x, _, rfl⟩ := List.mem_map.1 hv
          rfl)
      rw [hlk] at hcopy
      clear hcell
      have hgi : goInt k = .int .i64 (k : Int) := rfl
      rw [hgi] at hcopy
      clear hgi hlk
      have hnb : decide ((0 : Int) < (n : Int)) = true := decide_eq_true (by omega)
      go_upto_region 4 with fail
      clear hcopy hsl ct hbt
      have HH4 := Lib.hid (show HashAt (wo.setCells hb (8 + i) (bV (l2.take k))) hb ws2 (setL bs2 i (l2.take k)) t2 from HashAt.setCs (l2.take k) i HH.out (by rw [List.length_take, HN.out]; omega))
      have HG4 := Lib.hid (show w.grownBy (wo.setCells hb (8 + i) (bV (l2.take k))) (some hb) from grown_setCs _ _ HG.out)
      generalize wo.setCells hb (8 + i) (bV (l2.take k)) = w4 at *
      obtain ⟨b4, HB4⟩ : ∃ b4, Hid (setL bs2 i (l2.take k) = b4) := ⟨_, Lib.hid rfl⟩
      rw [HB4.out] at HH4 HST
      have ct : w4.cell? ⟨hb, 72, none⟩ = some (.int .u64 (t2 : Nat)) := HH4.out.t
      have hbt := cell_lt ct
      have ft := thaw HH4.out.blk 72
      have hw1 : IntKind.u64.wrap (k : Int) = k := by rw [IntKind.wrap_u64]; omega
      have hw2 : IntKind.u64.wrap ((t2 : Int) + k) = t2 + k := by rw [IntKind.wrap_u64]; omega
      have hw3 : IntKind.i64.wrap ((i : Int) + k) = i + k := by rw [IntKind.wrap_i64]; omega
      have HH5 := Lib.hid (show HashAt (w4.setCell ⟨hb, 72, none⟩ (.int .u64 ((t2 : Int) + k))) hb ws2 b4 ((t2 + k : Nat) : Int) from HH4.out.setT _)
      have HG5 := Lib.hid (show w.grownBy (w4.setCell ⟨hb, 72, none⟩ (.int .u64 ((t2 : Int) + k))) (some hb) from grown_set HG4.out)
      go_upto_region 6 with fail
      clear ct hbt ft
      generalize w4.setCell ⟨hb, 72, none⟩ (.int .u64 ((t2 : Int) + k)) = w5 at *
      have HDN := Lib.hid (show (l2.drop k).length = n - k by rw [List.length_drop, HN.out])
      by_cases h64 : i + k = 64
      · have hb64 : ((i : Int) + k == 64) = true := by rw [beq_iff_eq]; omega
        have H64 := Lib.hid h64
        clear h64
        have HM := Lib.hid (mix59_any hb ws2 b4 ((t2 + k : Nat) : Int) w5 HH5.out KK (HGW.out _ HG5.out) h0)
        go_wp2_with fail
        refine HM.out.mono ?_
        rintro e w6 ⟨rfl, hh6, hg6⟩
        have HH6 := Lib.hid hh6
        have HG6 := Lib.hid (show w.grownBy w6 (some hb) from ⟨hg6.os.trans HG5.out.os, hg6.tape.trans HG5.out.tape, hg6.output.trans HG5.out.output, Nat.le_trans HG5.out.size hg6.size, fun x hx hne => (hg6.block x (Nat.lt_of_lt_of_le hx HG5.out.size) hne).trans (HG5.out.block x hx hne)⟩)
        clear hh6 hg6 HM
        go_wp2_with fail
        go_roundw
        case rel => exact ⟨n - k, l2.drop k, a3, c2 - k, f, mixF KK ws2 b4, b4, t2 + k, rfl, HDN, by omega, by omega, by omega, HH6, HROW3, HPL3, Lib.hid (by rw [← HRR.out, HST.out, if_pos H64.out]), HG6⟩
        case measure => have := HDN.out; simp; omega
      · have hb64 : ((i : Int) + k == 64) = false := by rw [beq_eq_false_iff_ne]; omega
        have H64 := Lib.hid h64
        clear h64
        go_wp2_with fail
        go_roundw
        case rel => exact ⟨n - k, l2.drop k, a3, c2 - k, f, ws2, b4, t2 + k, rfl, HDN, by omega, by omega, by omega, HH5, HROW3, HPL3, Lib.hid (by rw [← HRR.out, HST.out, if_neg H64.out]), HG5⟩
        case measure => have := HDN.out; simp; omega
end Go.Proofs.YtemeppfikpafbaaGreatDoor

/- digest.eight (60), digest.New (27). -/
namespace Go.Proofs.YtemeppfikpafbaaGreatDoor
open Go.RowKit
theorem eightF_len (n : Int) : ∀ j, (eightF n j).length = j
  | 0 => rfl
  | j + 1 => by rw [eightF, List.length_append, eightF_len n j]; rfl
theorem eight_set (n : Int) (j : Nat) (hj : j < 8) : (bV (eightF n j ++ List.replicate (8 - j) 0)).set j (.int .u8 (n / 2 ^ (56 - 8 * j) % 256)) = bV (eightF n (j + 1) ++ List.replicate (8 - (j + 1)) 0) := by
  unfold bV
  rw [← List.map_set, List.set_append_right _ _ (by rw [eightF_len]; exact Nat.le_refl _), eightF_len, Nat.sub_self, show 8 - j = (8 - (j + 1)) + 1 by omega, List.replicate_succ, List.set_cons_zero, eightF, List.append_assoc]
  rfl
theorem mc8 (n : Int) : (bV (eightF n 0 ++ List.replicate (8 - 0) 0)).toArray = madeCells #[.int .u8 0] 8 := by
  show (bV [0, 0, 0, 0, 0, 0, 0, 0]).toArray = _
  kernel_rfl
theorem make26_any (n m : Nat) (hn : n ≤ m) (hm : m < 4294967296) (w : World) :
    (Instr.makeSlice 26 (.int .i64 (n : Int)) (.int .i64 (m : Int))).run Tryz.prog w = .ok (.slice (some ⟨w.heap.size, 0, none⟩) n m) (w.alloc (.cells (madeCells #[.int .u8 0] m) 5)) := by
  obtain ⟨i, hi, hzz⟩ := Option.map_eq_some_iff.1 infoB
  simp only [Prod.mk.injEq] at hzz
  obtain ⟨hz, hs, hb⟩ := hzz
  have hr := run_make (P := Tryz.prog) w 26 5 i _ Tryz.underlying26 hi hz .i64 .i64 n m (by omega) (by omega) (by rw [hb]; omega) (by omega)
  simpa [Int.toNat_natCast, hs, Value.cells] using hr
set_option maxRecDepth 100000 in
set_option maxHeartbeats 2000000 in
theorem eight60_any (n : Int) (w : World) :
    Calls Tryz.prog 60 #[.int .u64 n] w fun e w' => (∃ v, e = .returned v ∧ w'.ownsRow w.heap.size 5 1 v 8 (bV (eightF n 8))) ∧ Below w.heap.size w w' := by
  have HO := Lib.hid (World.ownsRow_made (base := w.heap.size) (e := 5) (size := 1) w (madeCells #[.int .u8 0] 8) 8 (Nat.le_refl _) (by unfold maxLen; omega) (by simp [madeCells]))
  have HM := Lib.hid (more_alloc w (.cells (madeCells #[.int .u8 0] 8) 5))
  have hmk : (Instr.makeSlice 26 (.int .i64 8) (.int .i64 8)).run Tryz.prog w = .ok (.slice (some ⟨w.heap.size, 0, none⟩) 8 8) (w.alloc (.cells (madeCells #[.int .u8 0] 8) 5)) := make26_any 8 8 (Nat.le_refl _) (by omega) w
  obtain ⟨B, HB⟩ : ∃ B, Hid (B = w.heap.size) := ⟨_, Lib.hid rfl⟩
  rw [← HB.out] at HO hmk ⊢
  go_enter Tryz.func60, Tryz.ntmps60
  go_upto_region 3 with fail
  clear hmk
  have HO0 := Lib.hid (show (w.alloc (.cells (madeCells #[.int .u8 0] 8) 5)).heap[B]? = some (.cells (bV (eightF n 0 ++ List.replicate (8 - 0) 0)).toArray 5) by
    rw [show (bV (eightF n 0 ++ List.replicate (8 - 0) 0)).toArray = madeCells #[.int .u8 0] 8 from mc8 n, HB.out]
    exact alloc_last w _)
  have HB0 := Lib.hid (show Below B w (w.alloc (.cells (madeCells #[.int .u8 0] 8) 5)) by rw [HB.out]; exact HM.out.below)
  generalize w.alloc (.cells (madeCells #[.int .u8 0] 8) 5) = w1 at *
  go_loopw [8] (fun i wr => ∃ j : Nat, j ≤ 8 ∧ i = .int .i64 j ∧ Hid (wr.heap[B]? = some (.cells (bV (eightF n j ++ List.replicate (8 - j) 0)).toArray 5)) ∧ Hid (Below B w wr)) (fun i _ => 8 - (intOf i).toNat)
  case atStart => exact ⟨0, Nat.zero_le _, rfl, HO0, HB0⟩
  case round =>
    obtain ⟨j, hj, rfl, HBJ, HBB⟩ := hrel
    obtain ⟨wo, rfl⟩ : ∃ wo : World, wo = wr := ⟨_, rfl⟩
    by_cases hlt : j < 8
    · have HJ := Lib.hid hlt
      have hji : (j : Int) < 8 := by omega
      have hbl : (bV (eightF n j ++ List.replicate (8 - j) 0)).length = 8 := by unfold bV; rw [List.length_map, List.length_append, eightF_len, List.length_replicate]; omega
      obtain ⟨u, hu⟩ : ∃ u, (bV (eightF n j ++ List.replicate (8 - j) 0))[j]? = some u := ⟨_, List.getElem?_eq_getElem (by rw [hbl]; exact hlt)⟩
      have c0 : wo.cell? ⟨B, j, none⟩ = some u := cell_of_blk HBJ.out (by rw [List.getElem?_toArray]; exact hu)
      have hbc := cell_lt c0
      have fz := thaw HBJ.out j
      have HSE := Lib.hid (eight_set n j hlt)
      clear hbl hu
      have hm8 : IntKind.i64.wrap (8 * (j : Int)) = 8 * j := by rw [IntKind.wrap_i64]; omega
      have hm56 : IntKind.i64.wrap (56 - 8 * (j : Int)) = 56 - 8 * j := by rw [IntKind.wrap_i64]; omega
      have htn : (56 - 8 * (j : Int)).toNat = 56 - 8 * j := by omega
      have hge : (0 : Int) ≤ 56 - 8 * j := by omega
      go_upto_region 6 with fail
      have HBN := Lib.hid (show (wo.setCell ⟨B, j, none⟩ (.int .u8 (n / 2 ^ (56 - 8 * j) % 256))).heap[B]? = some (.cells (bV (eightF n (j + 1) ++ List.replicate (8 - (j + 1)) 0)).toArray 5) by
        rw [← HSE.out, ← List.setIfInBounds_toArray]
        exact setCell_heap HBJ.out)
      have HBX := Lib.hid (HBB.out.setCell (p := ⟨B, j, none⟩) (Nat.le_refl _) (.int .u8 (n / 2 ^ (56 - 8 * j) % 256)))
      clear c0 hbc fz hm8 hm56 htn hge
      have hlt9 := HJ.out
      go_wp2_with fail
      go_roundw
      case rel => exact ⟨j + 1, by have := HJ.out; omega, by go_num, HBN, HBX⟩
      case measure => have := HJ.out; simp [intOf]; omega
    · obtain rfl : j = 8 := by omega
      have HF := Lib.hid (show wo.ownsRow B 5 1 (.slice (some ⟨B, 0, none⟩) 8 8) 8 (bV (eightF n 8)) from ⟨by unfold bV; rw [List.length_map, eightF_len], Or.inr ⟨B, 8, _, rfl, Nat.le_refl _, HBJ.out, Nat.le_refl _, by unfold maxLen; omega, by rw [List.size_toArray]; unfold bV; rw [List.length_map, List.length_append, eightF_len]; rfl, by
        show List.take (8 * 1) (bV (eightF n 8 ++ [])) = _
        rw [List.append_nil]
        exact List.take_of_length_le (by unfold bV; rw [List.length_map, eightF_len]; exact Nat.le_refl _)⟩⟩)
      clear hlt hj
      go_wp2_with fail
      go_ret
      exact ⟨⟨_, rfl, HF.out⟩, HBB.out⟩
end Go.Proofs.YtemeppfikpafbaaGreatDoor

