/- slices.insertionSortCmpFunc (134) at table's entries. -/
import Derived.Test.YtekhoanjpnjaeaaHoldE
import Derived.Deep.RegionHeld3
import Derived.Deep.QuietTactic
import Derived.BigQuiet
namespace Go.Proofs.Ytekhoanjpnjaeaa
open Go.RowKit Go.Sort
theorem insInner_no (a j : Nat) (d : Array (Int × Int)) (h : ¬ a < j) : insInner keyLt a j d = d := by
  cases j with
  | zero => rfl
  | succ j => unfold insInner; rw [if_neg (by simp; omega)]
theorem insInner_stop (a j : Nat) (d : Array (Int × Int)) (h : ¬ d[j + 1]!.1 < d[j]!.1) : insInner keyLt a (j + 1) d = d := by
  unfold insInner
  rw [if_neg (by simp [keyLt]; omega)]
theorem insInner_go (a j : Nat) (d : Array (Int × Int)) (ha : a < j + 1) (h : d[j + 1]!.1 < d[j]!.1) : insInner keyLt a (j + 1) d = insInner keyLt a j (swp d (j + 1) j) := by
  conv => lhs; unfold insInner
  rw [if_pos (by simp [keyLt]; omega)]
theorem insOuter_go (a b i : Nat) (d : Array (Int × Int)) (h : i < b) : insOuter keyLt a b i d = insOuter keyLt a b (i + 1) (insInner keyLt a i d) := by
  conv => lhs; unfold insOuter
  rw [if_pos h]
theorem insOuter_stop (a b i : Nat) (d : Array (Int × Int)) (h : ¬ i < b) : insOuter keyLt a b i d = d := by
  unfold insOuter
  rw [if_neg h]

set_option maxHeartbeats 2000000 in
set_option maxRecDepth 100000 in
theorem insert_any (d : Array (Int × Int)) (B off cap a b : Nat) (w : World) (hab : a ≤ b) (hb : b ≤ d.size) (hsz : d.size < 4294967296) (_hB : B < w.heap.size) (hH : HoldE w B off d) :
    Calls Try.prog 134 #[.slice (some ⟨B, off, none⟩) d.size cap, .int .i64 a, .int .i64 b, .func (.func 78) #[] #[]] w fun e w' => e = .returned (.tuple #[]) ∧ w.grownBy w' (some B) ∧ HoldE w' B off (insertionSort keyLt d a b) := by
  have HH := Lib.hid hH; clear hH
  go_enter Try.func134, Try.ntmps134
  go_wp2_with fail
  go_loopw [8] (fun vi wr => ∃ (i : Nat) (dk : Array (Int × Int)), vi = .int .i64 i ∧ a < i ∧ i ≤ b + 1 ∧ Hid (w.grownBy wr (some B)) ∧ Hid (HoldE wr B off dk) ∧ Hid (dk.size = d.size ∧ insOuter keyLt a b i dk = insertionSort keyLt d a b)) (fun i _ => b - (intOf i).toNat)
  case atStart => exact ⟨a + 1, d, by go_num, by omega, by omega, Lib.hid (World.grownBy.refl _ _), HH, Lib.hid ⟨rfl, rfl⟩⟩
  case round =>
    obtain ⟨i, dk, rfl, hai, hib, HG, HK, HE⟩ := hrel
    obtain ⟨wo, rfl⟩ : ∃ wo : World, wo = wr := ⟨_, rfl⟩
    by_cases hlt : i < b
    · go_wp2_with fail
      go_loopw [9] (fun vj wr => ∃ (j : Nat) (dj : Array (Int × Int)), vj = .int .i64 j ∧ a ≤ j ∧ j ≤ i ∧ Hid (w.grownBy wr (some B)) ∧ Hid (HoldE wr B off dj) ∧ Hid (dj.size = d.size ∧ insOuter keyLt a b (i + 1) (insInner keyLt a j dj) = insertionSort keyLt d a b)) (fun j _ => (intOf j).toNat)
      case atStart => exact ⟨i, dk, rfl, by omega, Nat.le_refl _, HG, HK, Lib.hid ⟨HE.out.1, by rw [← HE.out.2, insOuter_go a b i dk hlt]⟩⟩
      case round =>
        obtain ⟨j, dj, rfl, haj, hji, HGJ, HJ, HEJ⟩ := hrel
        by_cases hja : a < j
        · obtain ⟨jp, rfl⟩ : ∃ jp, j = jp + 1 := ⟨j - 1, by omega⟩
          have hs := HEJ.out.1
          have c1 := HJ.out (jp + 1) (by omega)
          have c2 := HJ.out jp (by omega)
          have HN := Lib.hid (fun (w' : World) (h : w'.heap[B]? = wr.heap[B]?) => swW_holds (HJ.out.keep h) (i := jp + 1) (j := jp) (by omega) (by omega))
          have HX := Lib.hid (show (dj[jp + 1]!.1 < dj[jp]!.1 → insInner keyLt a (jp + 1) dj = insInner keyLt a jp (swp dj (jp + 1) jp)) ∧ (¬ dj[jp + 1]!.1 < dj[jp]!.1 → insInner keyLt a (jp + 1) dj = dj) from ⟨insInner_go a jp dj hja, insInner_stop a jp dj⟩)
          clear hs
          generalize hx : dj[jp + 1]! = x at *
          generalize hy : dj[jp]! = y at *
          clear hx hy
          obtain ⟨p0, p1, f0, f1⟩ := c1
          obtain ⟨q0, q1, f2, f3⟩ := c2
          have hsz' : (jp : Int) + 1 < d.size := by omega
          have hBr : B < wr.heap.size := cell_lt p0
          by_cases hc : x.1 < y.1
          · have t1 : decide (cmpI x.1 y.1 < 0) = true := by simp [cmpI_neg, hc]
            have HC := Lib.hid hc; clear hc
            have s0 : wr.drew.cell? ⟨B, off + (jp + 1) * 2, none⟩ = some (.int .i64 x.1) := p0
            have s1 : wr.drew.cell? ⟨B, off + (jp + 1) * 2 + 1, none⟩ = some (.int .i64 x.2) := p1
            have s2 : wr.drew.cell? ⟨B, off + jp * 2, none⟩ = some (.int .i64 y.1) := q0
            have s3 : wr.drew.cell? ⟨B, off + jp * 2 + 1, none⟩ = some (.int .i64 y.2) := q1
            go_wp2_with fail
            have hwp : IntKind.i64.wrap (jp : Int) = (jp : Int) := by rw [IntKind.wrap_i64]; omega
            have jz1 : (jp : Int) < (d.size : Int) := by omega
            have hjaz' : (a : Int) < (jp : Int) + 1 := by omega
            have z0 : (0 : Int) ≤ (jp : Int) + 1 := by omega
            have e0 : ((jp : Int) + 1).toNat = jp + 1 := by omega
            go_region_held3 (fun wx => wx.cell? ⟨B, off + (jp + 1) * 2, none⟩ = some (.int .i64 x.1) ∧ wx.cell? ⟨B, off + (jp + 1) * 2 + 1, none⟩ = some (.int .i64 x.2) ∧ wx.cell? ⟨B, off + jp * 2, none⟩ = some (.int .i64 y.1) ∧ wx.cell? ⟨B, off + jp * 2 + 1, none⟩ = some (.int .i64 y.2)) (first | with_reducible exact ⟨s0, s1, s2, s3⟩ | with_reducible exact ⟨k0, k1, k2, k3⟩) (first | (go_at_call 78; refine (cmp78 x y _).mono ?_; rintro e w1 ⟨rfl, hw1⟩; have k0 := hw1.cell s0; have k1 := hw1.cell s1; have k2 := hw1.cell s2; have k3 := hw1.cell s3))
            clear hwp e0
            have g0 := hw1.frozen (b := B) (o := off + (jp + 1) * 2) hBr f0
            have g1 := hw1.frozen (b := B) (o := off + (jp + 1) * 2 + 1) hBr f1
            have g2 := hw1.frozen (b := B) (o := off + jp * 2) hBr f2
            have g3 := hw1.frozen (b := B) (o := off + jp * 2 + 1) hBr f3
            have HN2 := Lib.hid (HN.out w1 (hw1.block hBr))
            have HG2 := Lib.hid (swW_grown (grownBy_more (grownBy_more HGJ.out (more_drew wr)) hw1) off (jp + 1) jp x y)
            have HS2 := Lib.hid (show (swp dj (jp + 1) jp).size = d.size ∧ insOuter keyLt a b (i + 1) (insInner keyLt a jp (swp dj (jp + 1) jp)) = insertionSort keyLt d a b from ⟨by rw [size_swp]; exact HEJ.out.1, by rw [← HX.out.1 HC.out]; exact HEJ.out.2⟩)
            clear hw1 p0 p1 q0 q1 s0 s1 s2 s3 f0 f1 f2 f3
            go_wp2_with fail
            go_region
            go_wp2_with fail
            go_roundw
            case rel => exact ⟨jp, swp dj (jp + 1) jp, by go_num, by omega, by omega, HG2, HN2, HS2⟩
            case measure => simp [intOf]
          · have t1 : decide (cmpI x.1 y.1 < 0) = false := by simp [cmpI_neg, hc]
            have HC := Lib.hid hc; clear hc
            have s0 : wr.drew.cell? ⟨B, off + (jp + 1) * 2, none⟩ = some (.int .i64 x.1) := p0
            have s1 : wr.drew.cell? ⟨B, off + (jp + 1) * 2 + 1, none⟩ = some (.int .i64 x.2) := p1
            have s2 : wr.drew.cell? ⟨B, off + jp * 2, none⟩ = some (.int .i64 y.1) := q0
            have s3 : wr.drew.cell? ⟨B, off + jp * 2 + 1, none⟩ = some (.int .i64 y.2) := q1
            go_wp2_with fail
            have hwp : IntKind.i64.wrap (jp : Int) = (jp : Int) := by rw [IntKind.wrap_i64]; omega
            have jz1 : (jp : Int) < (d.size : Int) := by omega
            have hjaz' : (a : Int) < (jp : Int) + 1 := by omega
            have z0 : (0 : Int) ≤ (jp : Int) + 1 := by omega
            have e0 : ((jp : Int) + 1).toNat = jp + 1 := by omega
            go_region_held3 (fun wx => wx.cell? ⟨B, off + (jp + 1) * 2, none⟩ = some (.int .i64 x.1) ∧ wx.cell? ⟨B, off + (jp + 1) * 2 + 1, none⟩ = some (.int .i64 x.2) ∧ wx.cell? ⟨B, off + jp * 2, none⟩ = some (.int .i64 y.1) ∧ wx.cell? ⟨B, off + jp * 2 + 1, none⟩ = some (.int .i64 y.2)) (first | with_reducible exact ⟨s0, s1, s2, s3⟩ | with_reducible exact ⟨k0, k1, k2, k3⟩) (first | (go_at_call 78; refine (cmp78 x y _).mono ?_; rintro e w1 ⟨rfl, hw1⟩; have k0 := hw1.cell s0; have k1 := hw1.cell s1; have k2 := hw1.cell s2; have k3 := hw1.cell s3))
            clear hwp e0
            have HG2 := Lib.hid (grownBy_more (grownBy_more HGJ.out (more_drew wr)) hw1)
            have HN2 := Lib.hid (HJ.out.keep (hw1.block hBr))
            have HS2 := Lib.hid (show dj.size = d.size ∧ insOuter keyLt a b (i + 1) dj = insertionSort keyLt d a b from ⟨HEJ.out.1, by rw [← HEJ.out.2, HX.out.2 HC.out]⟩)
            clear hw1 p0 p1 q0 q1 s0 s1 s2 s3 f0 f1 f2 f3 k0 k1 k2 k3
            go_wp2_with fail
            go_roundw
            case rel => exact ⟨i + 1, dj, by go_num, by omega, by omega, HG2, HN2, HS2⟩
            case measure => simp [intOf]; omega
        · have t0 : decide (a < j) = false := by simpa using hja
          have HS2 := Lib.hid (show dj.size = d.size ∧ insOuter keyLt a b (i + 1) dj = insertionSort keyLt d a b from ⟨HEJ.out.1, by rw [← HEJ.out.2, insInner_no a j dj hja]⟩)
          go_wp2_with fail
          go_quiet (fail)
          go_wp2_with fail
          go_roundw
          case rel => exact ⟨i + 1, dj, by go_num, by omega, by omega, Lib.hid (grownBy_trans HGJ.out (grownBy_drewN _ _ _)), Lib.hid (HJ.out.keep rfl), HS2⟩
          case measure => simp [intOf]; omega
    · have hE : dk = insertionSort keyLt d a b := by rw [← HE.out.2, insOuter_stop a b i dk hlt]
      have HE' := Lib.hid hE; clear hE
      go_wp2_with fail
      go_end0
      exact ⟨rfl, HG.out, by rw [← HE'.out]; exact HK.out⟩
end Go.Proofs.Ytekhoanjpnjaeaa
