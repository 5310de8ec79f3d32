/- Texts InsK, InsM, DrwL, laid together. -/
import Derived.Deep.RegionHeld3
import Derived.Deep.QuietTactic
import Derived.BigQuiet
import Derived.Laws.AppendOwn
import Derived.Test.YtemeppfikpafbaaGreatVcb
import Derived.Test.YtemeppfikpafbaaGreatVcc
/- slices.insertionSortCmpFunc at keys (120). -/
namespace Go.Proofs.YtemeppfikpafbaaGreat
open Go.RowKit Go.Sort
/-- A row's block and more blocks, and no draw fewer. -/
def GD (w w' : World) (r : Option Nat) : Prop := w.grownBy w' r ∧ w.drawn ≤ w'.drawn
theorem drawn_drew (w : World) : w.drew.drawn = w.drawn + 1 := rfl
theorem drawn_set (w : World) (a : Addr) (v : Value) : (w.setCell a v).drawn = w.drawn := rfl
theorem GD.refl (w : World) (r : Option Nat) : GD w w r := ⟨World.grownBy.refl _ _, Nat.le_refl _⟩
set_option maxHeartbeats 4000000 in
set_option maxRecDepth 100000 in
theorem insK_any (P : K4 → Prop) (cf : K4 → K4 → Int) (d : Array K4) (B off cap a b : Nat) (w : World) (hab : a ≤ b) (hb : b ≤ d.size) (hsz : d.size < 4294967296) (hH : HoldC kC 4 w B off d) (hP : ∀ i, i < d.size → P d[i]!)
    (hcmp : ∀ (x y : K4) (W : World), P x → P y → w.grownBy W (some B) → Calls Tryz.prog 54 #[.agg #[.func (.func 73) #[] #[]], .agg #[.int .u8 x.kind, .int .i64 x.a, .int .i64 x.b, .int .i64 x.n], .agg #[.int .u8 y.kind, .int .i64 y.a, .int .i64 y.b, .int .i64 y.n]] W fun e w' => e = .returned (.int .i64 (cf x y)) ∧ Lay W w') :
    Calls Tryz.prog 120 #[.slice (some ⟨B, off, none⟩) d.size cap, .int .i64 a, .int .i64 b, .func (.func 54) #[.agg #[.func (.func 73) #[] #[]]] #[]] w fun e w' => e = .returned (.tuple #[]) ∧ GD w w' (some B) ∧ HoldC kC 4 w' B off (insertionSort (ltOf cf) d a b) := by
  have HH := Lib.hid hH; clear hH
  have HPD := Lib.hid hP; clear hP
  go_enter Tryz.func120, Tryz.ntmps120
  go_wp2_with fail
  go_loopw [8] (fun vi wr => ∃ (i : Nat) (dk : Array K4), vi = .int .i64 i ∧ a < i ∧ i ≤ b + 1 ∧ Hid (GD w wr (some B)) ∧ Hid (HoldC kC 4 wr B off dk) ∧ Hid ((dk.size = d.size ∧ insOuter (ltOf cf) a b i dk = insertionSort (ltOf cf) d a b) ∧ ∀ i, i < dk.size → P dk[i]!)) (fun i _ => b - (intOf i).toNat)
  case atStart => exact ⟨a + 1, d, by go_num, by omega, by omega, Lib.hid (GD.refl _ _), HH, Lib.hid ⟨⟨rfl, rfl⟩, HPD.out⟩⟩
  case round =>
    obtain ⟨i, dk, rfl, hai, hib, HG, HK, HE⟩ := hrel
    obtain ⟨wo, rfl⟩ : ∃ wo : World, wo = wr := ⟨_, rfl⟩
    by_cases hlt : i < b
    · go_wp2_with fail
      go_loopw [9] (fun vj wr => ∃ (j : Nat) (dj : Array K4), vj = .int .i64 j ∧ a ≤ j ∧ j ≤ i ∧ Hid (GD w wr (some B)) ∧ Hid (HoldC kC 4 wr B off dj) ∧ Hid ((dj.size = d.size ∧ insOuter (ltOf cf) a b (i + 1) (insInner (ltOf cf) a j dj) = insertionSort (ltOf cf) d a b) ∧ ∀ i, i < dj.size → P dj[i]!)) (fun j _ => (intOf j).toNat)
      case atStart => exact ⟨i, dk, rfl, by omega, Nat.le_refl _, HG, HK, Lib.hid ⟨⟨HE.out.1.1, by rw [← HE.out.1.2, insOuter_go a b i dk hlt]⟩, HE.out.2⟩⟩
      case round =>
        obtain ⟨j, dj, rfl, haj, hji, HGJ, HJ, HEJ⟩ := hrel
        by_cases hja : a < j
        · obtain ⟨jp, rfl⟩ : ∃ jp, j = jp + 1 := ⟨j - 1, by omega⟩
          have hs := HEJ.out.1.1
          have c1 := HJ.out (jp + 1) (by omega)
          have c2 := HJ.out jp (by omega)
          have HPX := Lib.hid (HEJ.out.2 (jp + 1) (by omega))
          have HPY := Lib.hid (HEJ.out.2 jp (by omega))
          have HPS := Lib.hid (insSort_mem (P := P) HEJ.out.2 (i := jp + 1) (j := jp) (by omega) (by omega))
          have HN := Lib.hid (fun (w' : World) (h : w'.heap[B]? = wr.heap[B]?) => (HJ.out.keep h).swap kC_len (i := jp + 1) (j := jp) (by omega) (by omega))
          have HX := Lib.hid (show (ltOf cf dj[jp + 1]! dj[jp]! = true → insInner (ltOf cf) a (jp + 1) dj = insInner (ltOf cf) a jp (swp dj (jp + 1) jp)) ∧ (ltOf cf dj[jp + 1]! dj[jp]! = false → insInner (ltOf cf) a (jp + 1) dj = dj) from ⟨insInner_go a jp dj hja, insInner_stop a jp dj⟩)
          clear hs
          generalize hx : dj[jp + 1]! = x at *
          generalize hy : dj[jp]! = y at *
          clear hx hy
          obtain ⟨p0, f0⟩ := c1 0 (.int .u8 x.kind) rfl
          obtain ⟨p1, f1⟩ := c1 1 (.int .i64 x.a) rfl
          obtain ⟨p2, f2⟩ := c1 2 (.int .i64 x.b) rfl
          obtain ⟨p3, f3⟩ := c1 3 (.int .i64 x.n) rfl
          obtain ⟨q0, f4⟩ := c2 0 (.int .u8 y.kind) rfl
          obtain ⟨q1, f5⟩ := c2 1 (.int .i64 y.a) rfl
          obtain ⟨q2, f6⟩ := c2 2 (.int .i64 y.b) rfl
          obtain ⟨q3, f7⟩ := c2 3 (.int .i64 y.n) rfl
          have hsz' : (jp : Int) + 1 < d.size := by omega
          have hBr : B < wr.heap.size := cell_lt p0
          clear c1 c2
          by_cases hc : cf x y < 0
          · have t1 : decide (cf x y < 0) = true := decide_eq_true hc
            have HC := Lib.hid (show ltOf cf x y = true by unfold ltOf; exact t1)
            clear hc
            have s0 : wr.drew.cell? ⟨B, off + (jp + 1) * 4, none⟩ = some (.int .u8 x.kind) := p0
            have s1 : wr.drew.cell? ⟨B, off + (jp + 1) * 4 + 1, none⟩ = some (.int .i64 x.a) := p1
            have s2 : wr.drew.cell? ⟨B, off + (jp + 1) * 4 + 2, none⟩ = some (.int .i64 x.b) := p2
            have s3 : wr.drew.cell? ⟨B, off + (jp + 1) * 4 + 3, none⟩ = some (.int .i64 x.n) := p3
            have s4 : wr.drew.cell? ⟨B, off + jp * 4, none⟩ = some (.int .u8 y.kind) := q0
            have s5 : wr.drew.cell? ⟨B, off + jp * 4 + 1, none⟩ = some (.int .i64 y.a) := q1
            have s6 : wr.drew.cell? ⟨B, off + jp * 4 + 2, none⟩ = some (.int .i64 y.b) := q2
            have s7 : wr.drew.cell? ⟨B, off + jp * 4 + 3, none⟩ = some (.int .i64 y.n) := q3
            go_wp2_with fail
            have hwp : IntKind.i64.wrap (jp : Int) = (jp : Int) := by rw [IntKind.wrap_i64]; omega
            have jz1 : (jp : Int) < (d.size : Int) := by omega
            have hjaz' : (a : Int) < (jp : Int) + 1 := by omega
            have z0 : (0 : Int) ≤ (jp : Int) + 1 := by omega
            have e0 : ((jp : Int) + 1).toNat = jp + 1 := by omega
            go_region_held3 (fun wx => wx.cell? ⟨B, off + (jp + 1) * 4, none⟩ = some (.int .u8 x.kind) ∧ wx.cell? ⟨B, off + (jp + 1) * 4 + 1, none⟩ = some (.int .i64 x.a) ∧ wx.cell? ⟨B, off + (jp + 1) * 4 + 2, none⟩ = some (.int .i64 x.b) ∧ wx.cell? ⟨B, off + (jp + 1) * 4 + 3, none⟩ = some (.int .i64 x.n) ∧ wx.cell? ⟨B, off + jp * 4, none⟩ = some (.int .u8 y.kind) ∧ wx.cell? ⟨B, off + jp * 4 + 1, none⟩ = some (.int .i64 y.a) ∧ wx.cell? ⟨B, off + jp * 4 + 2, none⟩ = some (.int .i64 y.b) ∧ wx.cell? ⟨B, off + jp * 4 + 3, none⟩ = some (.int .i64 y.n)) (first | with_reducible exact ⟨s0, s1, s2, s3, s4, s5, s6, s7⟩ | with_reducible exact ⟨k0, k1, k2, k3, k4, k5, k6, k7⟩) (first | (go_at_call 54; refine (hcmp x y _ HPX.out HPY.out (grownBy_more HGJ.out.1 (more_drew wr))).mono ?_; rintro e w1 ⟨rfl, hl1⟩; have hw1 := hl1.1; have k0 := hw1.cell s0; have k1 := hw1.cell s1; have k2 := hw1.cell s2; have k3 := hw1.cell s3; have k4 := hw1.cell s4; have k5 := hw1.cell s5; have k6 := hw1.cell s6; have k7 := hw1.cell s7))
            clear hwp e0
            have g0 := more_frozen hw1 (o := off + (jp + 1) * 4) hBr f0
            have g1 := more_frozen hw1 (o := off + (jp + 1) * 4 + 1) hBr f1
            have g2 := more_frozen hw1 (o := off + (jp + 1) * 4 + 2) hBr f2
            have g3 := more_frozen hw1 (o := off + (jp + 1) * 4 + 3) hBr f3
            have g4 := more_frozen hw1 (o := off + jp * 4) hBr f4
            have g5 := more_frozen hw1 (o := off + jp * 4 + 1) hBr f5
            have g6 := more_frozen hw1 (o := off + jp * 4 + 2) hBr f6
            have g7 := more_frozen hw1 (o := off + jp * 4 + 3) hBr f7
            have hN2 := HN.out w1 (hw1.block hBr)
            rw [show kC x = [.int .u8 x.kind, .int .i64 x.a, .int .i64 x.b, .int .i64 x.n] from rfl, show kC y = [.int .u8 y.kind, .int .i64 y.a, .int .i64 y.b, .int .i64 y.n] from rfl, setC4, setC4] at hN2
            have HN2 := Lib.hid hN2.drew
            have hG2 := grownBy_trans (grownBy_more (grownBy_more HGJ.out.1 (more_drew wr)) hw1) (setC2_grown w1 B (off + (jp + 1) * 4) (off + jp * 4) [.int .u8 y.kind, .int .i64 y.a, .int .i64 y.b, .int .i64 y.n] [.int .u8 x.kind, .int .i64 x.a, .int .i64 x.b, .int .i64 x.n])
            rw [setC4, setC4] at hG2
            have hD2 : w.drawn ≤ w1.drawn := Nat.le_trans HGJ.out.2 (Nat.le_trans (Nat.le_succ _) hl1.2)
            have HG2 := Lib.hid (show GD w _ (some B) from ⟨grownBy_more hG2 (more_drew _), by rw [drawn_drew]; simp only [drawn_set]; exact Nat.le_succ_of_le hD2⟩)
            have HS2 := Lib.hid (show ((swp dj (jp + 1) jp).size = d.size ∧ insOuter (ltOf cf) a b (i + 1) (insInner (ltOf cf) a jp (swp dj (jp + 1) jp)) = insertionSort (ltOf cf) d a b) ∧ ∀ i, i < (swp dj (jp + 1) jp).size → P (swp dj (jp + 1) jp)[i]! from ⟨⟨by rw [size_swp]; exact HEJ.out.1.1, by rw [← HX.out.1 HC.out]; exact HEJ.out.1.2⟩, HPS.out⟩)
            clear hw1 hl1 hD2 hN2 hG2 p0 p1 p2 p3 q0 q1 q2 q3 s0 s1 s2 s3 s4 s5 s6 s7 f0 f1 f2 f3 f4 f5 f6 f7
            go_wp2_with fail
            go_region
            go_wp2_with fail
            go_roundw
            case rel => exact ⟨jp, swp dj (jp + 1) jp, by go_num, by omega, by omega, HG2, HN2, HS2⟩
            case measure => simp [intOf]
          · have t1 : decide (cf x y < 0) = false := decide_eq_false hc
            have HC := Lib.hid (show ltOf cf x y = false by unfold ltOf; exact t1)
            clear hc
            have s0 : wr.drew.cell? ⟨B, off + (jp + 1) * 4, none⟩ = some (.int .u8 x.kind) := p0
            have s1 : wr.drew.cell? ⟨B, off + (jp + 1) * 4 + 1, none⟩ = some (.int .i64 x.a) := p1
            have s2 : wr.drew.cell? ⟨B, off + (jp + 1) * 4 + 2, none⟩ = some (.int .i64 x.b) := p2
            have s3 : wr.drew.cell? ⟨B, off + (jp + 1) * 4 + 3, none⟩ = some (.int .i64 x.n) := p3
            have s4 : wr.drew.cell? ⟨B, off + jp * 4, none⟩ = some (.int .u8 y.kind) := q0
            have s5 : wr.drew.cell? ⟨B, off + jp * 4 + 1, none⟩ = some (.int .i64 y.a) := q1
            have s6 : wr.drew.cell? ⟨B, off + jp * 4 + 2, none⟩ = some (.int .i64 y.b) := q2
            have s7 : wr.drew.cell? ⟨B, off + jp * 4 + 3, none⟩ = some (.int .i64 y.n) := q3
            go_wp2_with fail
            have hwp : IntKind.i64.wrap (jp : Int) = (jp : Int) := by rw [IntKind.wrap_i64]; omega
            have jz1 : (jp : Int) < (d.size : Int) := by omega
            have hjaz' : (a : Int) < (jp : Int) + 1 := by omega
            have z0 : (0 : Int) ≤ (jp : Int) + 1 := by omega
            have e0 : ((jp : Int) + 1).toNat = jp + 1 := by omega
            go_region_held3 (fun wx => wx.cell? ⟨B, off + (jp + 1) * 4, none⟩ = some (.int .u8 x.kind) ∧ wx.cell? ⟨B, off + (jp + 1) * 4 + 1, none⟩ = some (.int .i64 x.a) ∧ wx.cell? ⟨B, off + (jp + 1) * 4 + 2, none⟩ = some (.int .i64 x.b) ∧ wx.cell? ⟨B, off + (jp + 1) * 4 + 3, none⟩ = some (.int .i64 x.n) ∧ wx.cell? ⟨B, off + jp * 4, none⟩ = some (.int .u8 y.kind) ∧ wx.cell? ⟨B, off + jp * 4 + 1, none⟩ = some (.int .i64 y.a) ∧ wx.cell? ⟨B, off + jp * 4 + 2, none⟩ = some (.int .i64 y.b) ∧ wx.cell? ⟨B, off + jp * 4 + 3, none⟩ = some (.int .i64 y.n)) (first | with_reducible exact ⟨s0, s1, s2, s3, s4, s5, s6, s7⟩ | with_reducible exact ⟨k0, k1, k2, k3, k4, k5, k6, k7⟩) (first | (go_at_call 54; refine (hcmp x y _ HPX.out HPY.out (grownBy_more HGJ.out.1 (more_drew wr))).mono ?_; rintro e w1 ⟨rfl, hl1⟩; have hw1 := hl1.1; have k0 := hw1.cell s0; have k1 := hw1.cell s1; have k2 := hw1.cell s2; have k3 := hw1.cell s3; have k4 := hw1.cell s4; have k5 := hw1.cell s5; have k6 := hw1.cell s6; have k7 := hw1.cell s7))
            clear hwp e0
            have HG2 := Lib.hid (show GD w w1 (some B) from ⟨grownBy_more (grownBy_more HGJ.out.1 (more_drew wr)) hw1, Nat.le_trans HGJ.out.2 (Nat.le_trans (Nat.le_succ _) hl1.2)⟩)
            have HN2 := Lib.hid (HJ.out.keep (hw1.block hBr))
            have HS2 := Lib.hid (show (dj.size = d.size ∧ insOuter (ltOf cf) a b (i + 1) dj = insertionSort (ltOf cf) d a b) ∧ ∀ i, i < dj.size → P dj[i]! from ⟨⟨HEJ.out.1.1, by rw [← HEJ.out.1.2, HX.out.2 HC.out]⟩, HEJ.out.2⟩)
            clear hw1 hl1 p0 p1 p2 p3 q0 q1 q2 q3 s0 s1 s2 s3 s4 s5 s6 s7 f0 f1 f2 f3 f4 f5 f6 f7 k0 k1 k2 k3 k4 k5 k6 k7
            go_wp2_with fail
            go_roundw
            case rel => exact ⟨i + 1, dj, by go_num, by omega, by omega, HG2, HN2, HS2⟩
            case measure => simp [intOf]; omega
        · have t0 : decide (a < j) = false := by simpa using hja
          have HS2 := Lib.hid (show (dj.size = d.size ∧ insOuter (ltOf cf) a b (i + 1) dj = insertionSort (ltOf cf) d a b) ∧ ∀ i, i < dj.size → P dj[i]! from ⟨⟨HEJ.out.1.1, by rw [← HEJ.out.1.2, insInner_no a j dj hja]⟩, HEJ.out.2⟩)
          go_wp2_with fail
          go_quiet (fail)
          go_wp2_with fail
          go_roundw
          case rel => exact ⟨i + 1, dj, by go_num, by omega, by omega, Lib.hid ⟨grownBy_trans HGJ.out.1 (grownBy_drewN _ _ _), Nat.le_trans HGJ.out.2 (Nat.le_add_right _ _)⟩, Lib.hid (HJ.out.keep rfl), HS2⟩
          case measure => simp [intOf]; omega
    · have hE : dk = insertionSort (ltOf cf) d a b := by rw [← HE.out.1.2, insOuter_stop a b i dk hlt]
      have HE' := Lib.hid hE; clear hE
      go_wp2_with fail
      go_end0
      exact ⟨rfl, HG.out, by rw [← HE'.out]; exact HK.out⟩
end Go.Proofs.YtemeppfikpafbaaGreat

/- slices.insertionSortCmpFunc at messages (128). -/
namespace Go.Proofs.YtemeppfikpafbaaGreat
open Go.RowKit Go.Sort
set_option maxHeartbeats 4000000 in
set_option maxRecDepth 100000 in
theorem insM_any (P : M3 → Prop) (cf : M3 → M3 → Int) (d : Array M3) (B off cap a b : Nat) (w : World) (hab : a ≤ b) (hb : b ≤ d.size) (hsz : d.size < 4294967296) (hH : HoldC mC 3 w B off d) (hP : ∀ i, i < d.size → P d[i]!)
    (hcmp : ∀ (x y : M3) (W : World), P x → P y → w.grownBy W (some B) → Calls Tryz.prog 58 #[.agg #[.func (.func 80) #[] #[]], .agg #[.int .i64 x.f, .int .i64 x.t, .int .i64 x.n], .agg #[.int .i64 y.f, .int .i64 y.t, .int .i64 y.n]] W fun e w' => e = .returned (.int .i64 (cf x y)) ∧ Lay W w') :
    Calls Tryz.prog 128 #[.slice (some ⟨B, off, none⟩) d.size cap, .int .i64 a, .int .i64 b, .func (.func 58) #[.agg #[.func (.func 80) #[] #[]]] #[]] w fun e w' => e = .returned (.tuple #[]) ∧ GD w w' (some B) ∧ HoldC mC 3 w' B off (insertionSort (ltOf cf) d a b) := by
  have HH := Lib.hid hH; clear hH
  have HPD := Lib.hid hP; clear hP
  go_enter Tryz.func128, Tryz.ntmps128
  go_wp2_with fail
  go_loopw [8] (fun vi wr => ∃ (i : Nat) (dk : Array M3), vi = .int .i64 i ∧ a < i ∧ i ≤ b + 1 ∧ Hid (GD w wr (some B)) ∧ Hid (HoldC mC 3 wr B off dk) ∧ Hid ((dk.size = d.size ∧ insOuter (ltOf cf) a b i dk = insertionSort (ltOf cf) d a b) ∧ ∀ i, i < dk.size → P dk[i]!)) (fun i _ => b - (intOf i).toNat)
  case atStart => exact ⟨a + 1, d, by go_num, by omega, by omega, Lib.hid (GD.refl _ _), HH, Lib.hid ⟨⟨rfl, rfl⟩, HPD.out⟩⟩
  case round =>
    obtain ⟨i, dk, rfl, hai, hib, HG, HK, HE⟩ := hrel
    obtain ⟨wo, rfl⟩ : ∃ wo : World, wo = wr := ⟨_, rfl⟩
    by_cases hlt : i < b
    · go_wp2_with fail
      go_loopw [9] (fun vj wr => ∃ (j : Nat) (dj : Array M3), vj = .int .i64 j ∧ a ≤ j ∧ j ≤ i ∧ Hid (GD w wr (some B)) ∧ Hid (HoldC mC 3 wr B off dj) ∧ Hid ((dj.size = d.size ∧ insOuter (ltOf cf) a b (i + 1) (insInner (ltOf cf) a j dj) = insertionSort (ltOf cf) d a b) ∧ ∀ i, i < dj.size → P dj[i]!)) (fun j _ => (intOf j).toNat)
      case atStart => exact ⟨i, dk, rfl, by omega, Nat.le_refl _, HG, HK, Lib.hid ⟨⟨HE.out.1.1, by rw [← HE.out.1.2, insOuter_go a b i dk hlt]⟩, HE.out.2⟩⟩
      case round =>
        obtain ⟨j, dj, rfl, haj, hji, HGJ, HJ, HEJ⟩ := hrel
        by_cases hja : a < j
        · obtain ⟨jp, rfl⟩ : ∃ jp, j = jp + 1 := ⟨j - 1, by omega⟩
          have hs := HEJ.out.1.1
          have c1 := HJ.out (jp + 1) (by omega)
          have c2 := HJ.out jp (by omega)
          have HPX := Lib.hid (HEJ.out.2 (jp + 1) (by omega))
          have HPY := Lib.hid (HEJ.out.2 jp (by omega))
          have HPS := Lib.hid (insSort_mem (P := P) HEJ.out.2 (i := jp + 1) (j := jp) (by omega) (by omega))
          have HN := Lib.hid (fun (w' : World) (h : w'.heap[B]? = wr.heap[B]?) => (HJ.out.keep h).swap mC_len (i := jp + 1) (j := jp) (by omega) (by omega))
          have HX := Lib.hid (show (ltOf cf dj[jp + 1]! dj[jp]! = true → insInner (ltOf cf) a (jp + 1) dj = insInner (ltOf cf) a jp (swp dj (jp + 1) jp)) ∧ (ltOf cf dj[jp + 1]! dj[jp]! = false → insInner (ltOf cf) a (jp + 1) dj = dj) from ⟨insInner_go a jp dj hja, insInner_stop a jp dj⟩)
          clear hs
          generalize hx : dj[jp + 1]! = x at *
          generalize hy : dj[jp]! = y at *
          clear hx hy
          obtain ⟨p0, f0⟩ := c1 0 (.int .i64 x.f) rfl
          obtain ⟨p1, f1⟩ := c1 1 (.int .i64 x.t) rfl
          obtain ⟨p2, f2⟩ := c1 2 (.int .i64 x.n) rfl
          obtain ⟨q0, f3⟩ := c2 0 (.int .i64 y.f) rfl
          obtain ⟨q1, f4⟩ := c2 1 (.int .i64 y.t) rfl
          obtain ⟨q2, f5⟩ := c2 2 (.int .i64 y.n) rfl
          have hsz' : (jp : Int) + 1 < d.size := by omega
          have hBr : B < wr.heap.size := cell_lt p0
          clear c1 c2
          by_cases hc : cf x y < 0
          · have t1 : decide (cf x y < 0) = true := decide_eq_true hc
            have HC := Lib.hid (show ltOf cf x y = true by unfold ltOf; exact t1)
            clear hc
            have s0 : wr.drew.cell? ⟨B, off + (jp + 1) * 3, none⟩ = some (.int .i64 x.f) := p0
            have s1 : wr.drew.cell? ⟨B, off + (jp + 1) * 3 + 1, none⟩ = some (.int .i64 x.t) := p1
            have s2 : wr.drew.cell? ⟨B, off + (jp + 1) * 3 + 2, none⟩ = some (.int .i64 x.n) := p2
            have s3 : wr.drew.cell? ⟨B, off + jp * 3, none⟩ = some (.int .i64 y.f) := q0
            have s4 : wr.drew.cell? ⟨B, off + jp * 3 + 1, none⟩ = some (.int .i64 y.t) := q1
            have s5 : wr.drew.cell? ⟨B, off + jp * 3 + 2, none⟩ = some (.int .i64 y.n) := q2
            go_wp2_with fail
            have hwp : IntKind.i64.wrap (jp : Int) = (jp : Int) := by rw [IntKind.wrap_i64]; omega
            have jz1 : (jp : Int) < (d.size : Int) := by omega
            have hjaz' : (a : Int) < (jp : Int) + 1 := by omega
            have z0 : (0 : Int) ≤ (jp : Int) + 1 := by omega
            have e0 : ((jp : Int) + 1).toNat = jp + 1 := by omega
            go_region_held3 (fun wx => wx.cell? ⟨B, off + (jp + 1) * 3, none⟩ = some (.int .i64 x.f) ∧ wx.cell? ⟨B, off + (jp + 1) * 3 + 1, none⟩ = some (.int .i64 x.t) ∧ wx.cell? ⟨B, off + (jp + 1) * 3 + 2, none⟩ = some (.int .i64 x.n) ∧ wx.cell? ⟨B, off + jp * 3, none⟩ = some (.int .i64 y.f) ∧ wx.cell? ⟨B, off + jp * 3 + 1, none⟩ = some (.int .i64 y.t) ∧ wx.cell? ⟨B, off + jp * 3 + 2, none⟩ = some (.int .i64 y.n)) (first | with_reducible exact ⟨s0, s1, s2, s3, s4, s5⟩ | with_reducible exact ⟨k0, k1, k2, k3, k4, k5⟩) (first | (go_at_call 58; refine (hcmp x y _ HPX.out HPY.out (grownBy_more HGJ.out.1 (more_drew wr))).mono ?_; rintro e w1 ⟨rfl, hl1⟩; have hw1 := hl1.1; have k0 := hw1.cell s0; have k1 := hw1.cell s1; have k2 := hw1.cell s2; have k3 := hw1.cell s3; have k4 := hw1.cell s4; have k5 := hw1.cell s5))
            clear hwp e0
            have g0 := more_frozen hw1 (o := off + (jp + 1) * 3) hBr f0
            have g1 := more_frozen hw1 (o := off + (jp + 1) * 3 + 1) hBr f1
            have g2 := more_frozen hw1 (o := off + (jp + 1) * 3 + 2) hBr f2
            have g3 := more_frozen hw1 (o := off + jp * 3) hBr f3
            have g4 := more_frozen hw1 (o := off + jp * 3 + 1) hBr f4
            have g5 := more_frozen hw1 (o := off + jp * 3 + 2) hBr f5
            have hN2 := HN.out w1 (hw1.block hBr)
            rw [show mC x = [.int .i64 x.f, .int .i64 x.t, .int .i64 x.n] from rfl, show mC y = [.int .i64 y.f, .int .i64 y.t, .int .i64 y.n] from rfl, setC3, setC3] at hN2
            have HN2 := Lib.hid hN2.drew
            have hG2 := grownBy_trans (grownBy_more (grownBy_more HGJ.out.1 (more_drew wr)) hw1) (setC2_grown w1 B (off + (jp + 1) * 3) (off + jp * 3) [.int .i64 y.f, .int .i64 y.t, .int .i64 y.n] [.int .i64 x.f, .int .i64 x.t, .int .i64 x.n])
            rw [setC3, setC3] at hG2
            have hD2 : w.drawn ≤ w1.drawn := Nat.le_trans HGJ.out.2 (Nat.le_trans (Nat.le_succ _) hl1.2)
            have HG2 := Lib.hid (show GD w _ (some B) from ⟨grownBy_more hG2 (more_drew _), by rw [drawn_drew]; simp only [drawn_set]; exact Nat.le_succ_of_le hD2⟩)
            have HS2 := Lib.hid (show ((swp dj (jp + 1) jp).size = d.size ∧ insOuter (ltOf cf) a b (i + 1) (insInner (ltOf cf) a jp (swp dj (jp + 1) jp)) = insertionSort (ltOf cf) d a b) ∧ ∀ i, i < (swp dj (jp + 1) jp).size → P (swp dj (jp + 1) jp)[i]! from ⟨⟨by rw [size_swp]; exact HEJ.out.1.1, by rw [← HX.out.1 HC.out]; exact HEJ.out.1.2⟩, HPS.out⟩)
            clear hw1 hl1 hD2 hN2 hG2 p0 p1 p2 q0 q1 q2 s0 s1 s2 s3 s4 s5 f0 f1 f2 f3 f4 f5
            go_wp2_with fail
            go_region
            go_wp2_with fail
            go_roundw
            case rel => exact ⟨jp, swp dj (jp + 1) jp, by go_num, by omega, by omega, HG2, HN2, HS2⟩
            case measure => simp [intOf]
          · have t1 : decide (cf x y < 0) = false := decide_eq_false hc
            have HC := Lib.hid (show ltOf cf x y = false by unfold ltOf; exact t1)
            clear hc
            have s0 : wr.drew.cell? ⟨B, off + (jp + 1) * 3, none⟩ = some (.int .i64 x.f) := p0
            have s1 : wr.drew.cell? ⟨B, off + (jp + 1) * 3 + 1, none⟩ = some (.int .i64 x.t) := p1
            have s2 : wr.drew.cell? ⟨B, off + (jp + 1) * 3 + 2, none⟩ = some (.int .i64 x.n) := p2
            have s3 : wr.drew.cell? ⟨B, off + jp * 3, none⟩ = some (.int .i64 y.f) := q0
            have s4 : wr.drew.cell? ⟨B, off + jp * 3 + 1, none⟩ = some (.int .i64 y.t) := q1
            have s5 : wr.drew.cell? ⟨B, off + jp * 3 + 2, none⟩ = some (.int .i64 y.n) := q2
            go_wp2_with fail
            have hwp : IntKind.i64.wrap (jp : Int) = (jp : Int) := by rw [IntKind.wrap_i64]; omega
            have jz1 : (jp : Int) < (d.size : Int) := by omega
            have hjaz' : (a : Int) < (jp : Int) + 1 := by omega
            have z0 : (0 : Int) ≤ (jp : Int) + 1 := by omega
            have e0 : ((jp : Int) + 1).toNat = jp + 1 := by omega
            go_region_held3 (fun wx => wx.cell? ⟨B, off + (jp + 1) * 3, none⟩ = some (.int .i64 x.f) ∧ wx.cell? ⟨B, off + (jp + 1) * 3 + 1, none⟩ = some (.int .i64 x.t) ∧ wx.cell? ⟨B, off + (jp + 1) * 3 + 2, none⟩ = some (.int .i64 x.n) ∧ wx.cell? ⟨B, off + jp * 3, none⟩ = some (.int .i64 y.f) ∧ wx.cell? ⟨B, off + jp * 3 + 1, none⟩ = some (.int .i64 y.t) ∧ wx.cell? ⟨B, off + jp * 3 + 2, none⟩ = some (.int .i64 y.n)) (first | with_reducible exact ⟨s0, s1, s2, s3, s4, s5⟩ | with_reducible exact ⟨k0, k1, k2, k3, k4, k5⟩) (first | (go_at_call 58; refine (hcmp x y _ HPX.out HPY.out (grownBy_more HGJ.out.1 (more_drew wr))).mono ?_; rintro e w1 ⟨rfl, hl1⟩; have hw1 := hl1.1; have k0 := hw1.cell s0; have k1 := hw1.cell s1; have k2 := hw1.cell s2; have k3 := hw1.cell s3; have k4 := hw1.cell s4; have k5 := hw1.cell s5))
            clear hwp e0
            have HG2 := Lib.hid (show GD w w1 (some B) from ⟨grownBy_more (grownBy_more HGJ.out.1 (more_drew wr)) hw1, Nat.le_trans HGJ.out.2 (Nat.le_trans (Nat.le_succ _) hl1.2)⟩)
            have HN2 := Lib.hid (HJ.out.keep (hw1.block hBr))
            have HS2 := Lib.hid (show (dj.size = d.size ∧ insOuter (ltOf cf) a b (i + 1) dj = insertionSort (ltOf cf) d a b) ∧ ∀ i, i < dj.size → P dj[i]! from ⟨⟨HEJ.out.1.1, by rw [← HEJ.out.1.2, HX.out.2 HC.out]⟩, HEJ.out.2⟩)
            clear hw1 hl1 p0 p1 p2 q0 q1 q2 s0 s1 s2 s3 s4 s5 f0 f1 f2 f3 f4 f5 k0 k1 k2 k3 k4 k5
            go_wp2_with fail
            go_roundw
            case rel => exact ⟨i + 1, dj, by go_num, by omega, by omega, HG2, HN2, HS2⟩
            case measure => simp [intOf]; omega
        · have t0 : decide (a < j) = false := by simpa using hja
          have HS2 := Lib.hid (show (dj.size = d.size ∧ insOuter (ltOf cf) a b (i + 1) dj = insertionSort (ltOf cf) d a b) ∧ ∀ i, i < dj.size → P dj[i]! from ⟨⟨HEJ.out.1.1, by rw [← HEJ.out.1.2, insInner_no a j dj hja]⟩, HEJ.out.2⟩)
          go_wp2_with fail
          go_quiet (fail)
          go_wp2_with fail
          go_roundw
          case rel => exact ⟨i + 1, dj, by go_num, by omega, by omega, Lib.hid ⟨grownBy_trans HGJ.out.1 (grownBy_drewN _ _ _), Nat.le_trans HGJ.out.2 (Nat.le_add_right _ _)⟩, Lib.hid (HJ.out.keep rfl), HS2⟩
          case measure => simp [intOf]; omega
    · have hE : dk = insertionSort (ltOf cf) d a b := by rw [← HE.out.1.2, insOuter_stop a b i dk hlt]
      have HE' := Lib.hid hE; clear hE
      go_wp2_with fail
      go_end0
      exact ⟨rfl, HG.out, by rw [← HE'.out]; exact HK.out⟩
end Go.Proofs.YtemeppfikpafbaaGreat

/- A run of an operation never takes draws back; an append that says so. -/
namespace Go.Proofs.YtemeppfikpafbaaGreat
open Go.RowKit
theorem ask_drawn {α : Type} (q : Ask α) : ∀ w : World, w.drawn ≤ (w.ask q).2.drawn := by
  induction q with
  | done a => intro w; exact Nat.le_refl _
  | ask what range k ih =>
    intro w
    unfold World.ask
    dsimp only
    split
    · exact ih _ _
    · refine Nat.le_trans ?_ (ih _ _)
      exact Nat.le_succ w.drawn
theorem sys_drawn (w : World) (c : Sys) : w.drawn ≤ (w.sys c).2.drawn := by
  have h := ask_drawn (Kernel.perform c w.os) w
  unfold World.sys
  split
  · exact Nat.le_refl _
  · rename_i heq
    rw [heq] at h
    exact h
theorem viewStore_drawn {p : Program} {w w' : World} {x k : Addr} {u : TypeId} {v : Value} {b : Bool} {r : List Addr} (h : w.viewStore p x u k v b = .ok (w', r)) : w.drawn = w'.drawn := by
  unfold World.viewStore at h
  simp only [bind, Except.bind, pure, Except.pure] at h
  repeat' split at h
  all_goals first | (cases h; done) | (cases h; rfl) | (simp only [Except.ok.injEq, Prod.mk.injEq] at h; rw [← h.1])
theorem farStore_drawn {p : Program} {w w' : World} {a : Addr} {v : Value} {b : Bool} {r : List Addr} (h : w.farStore p a v b = .ok (w', r)) : w.drawn = w'.drawn := by
  unfold World.farStore at h
  split at h
  · split at h
    · rename_i heq
      cases h
      exact viewStore_drawn heq
    · cases h
  · cases h
theorem freeze_drawn (w : World) (a : Addr) (n : Nat) : (w.freeze a n).drawn = w.drawn := by
  unfold World.freeze
  split <;> rfl
theorem run_drawn {α : Type} (p : Program) (s : Sem α) : ∀ (w : World) {v : α} {w' : World}, s.run p w = .ok v w' → w.drawn ≤ w'.drawn := by
  induction s with
  | pure a => intro w v w' h; cases h; exact Nat.le_refl _
  | load m a k ih =>
    intro w v w' h
    unfold Sem.run at h
    split at h
    · exact ih _ _ h
    · split at h
      · exact ih _ _ h
      · cases h
  | store m a x k ih =>
    intro w v w' h
    cases x with
    | agg _ => cases h
    | tuple _ => cases h
    | _ =>
      simp only [Sem.run] at h
      split at h
      · split at h
        · cases h
        · have h2 := ih _ h
          exact h2
      · split at h
        · rename_i heq
          rw [farStore_drawn heq]
          exact ih _ h
        · cases h
  | new o k ih => intro w v w' h; have h2 := ih _ _ h; exact h2
  | shape r k ih => intro w v w' h; exact ih _ _ h
  | freeze a n k ih => intro w v w' h; have := ih _ h; rw [freeze_drawn] at this; exact this
  | frozen a k ih => intro w v w' h; exact ih _ _ h
  | getObj r k ih =>
    intro w v w' h
    unfold Sem.run at h
    split at h
    · cases h
    · exact ih _ _ h
    · cases h
  | setObj r o k ih =>
    intro w v w' h
    unfold Sem.run at h
    split at h
    · cases h
    · have h2 := ih _ h
      exact h2
    · cases h
  | choose q k ih =>
    intro w v w' h
    unfold Sem.run at h
    split at h
    · exact ih _ _ h
    · have h2 := ih _ _ h
      exact Nat.le_trans (Nat.le_succ _) h2
  | sys c k ih => intro w v w' h; exact Nat.le_trans (sys_drawn w c) (ih _ _ h)
  | program k ih => intro w v w' h; exact ih _ _ h
  | mark m k ih => intro w v w' h; exact ih _ h
  | halt x => intro w v w' h; cases h
/-- An append to a row of the call's own, with the count of draws. -/
theorem wpList_append_ownD {P : Program} (w : World) {ops : Array Oper} {rest : List Oper} {o : Oper} {a : Act} {Q : Exit → Act → World → Prop} (hgd : o.guard = none) (s x : Operand) (t : TypeId)
    (ho : o.op = .call { callee := .builtin .append, args := #[s, x], argTypes := #[t, t] })
    (base : Nat) (e : TypeId) (i : TypeInfo) (z : Value) (size bytes : Nat) (ht : P.underlying t = some (.slice e)) (hi : P.info? e = some i) (hz : i.zero = some z)
    (hsize : i.size = size) (hby : i.bytes = bytes) (hzs : z.cells.size = size) (hsz : 0 < size)
    (v : Value) (n : Nat) (xs : List Value) (hs : a.eval s = v) (hown : w.ownsRow base e size v n xs)
    (ad : Addr) (m c : Nat) (news : List Value) (hx : a.eval x = .slice (some ad) m c) (hl : news.length = m * size) (hnews : ∀ j u, news[j]? = some u → w.cell? (ad.add j) = some u) (h1 : ∀ u ∈ news, u.oneCell' = true)
    (h63 : n + m ≤ maxLen) (hbytes : (n + m) * bytes ≤ 140737488355328) (hbase : base ≤ w.heap.size)
    (h : ∀ v' w', w'.ownsRow base e size v' (n + m) (xs ++ news) → GD w w' v.ownBlock → (v' = .slice none 0 0 ↔ v = .slice none 0 0 ∧ m = 0) → wpList P ops Q rest (a.put o.dst v') w') : wpList P ops Q (o :: rest) a w := by
  refine wpList_plain hgd fun K hK => ?_
  obtain ⟨v', w', hr, h2, h3, h4⟩ := run_append_own (P := P) w base t o.type e i z size bytes ht hi hz hsize hby hzs hsz v n xs hown ad m c news hl hnews h1 h63 hbytes hbase
  have hd := run_drawn P _ w hr
  unfold Oper.wp execOp
  simp only [ho, resolve, invoke, builtin, Sem.run_bind, Sem.run_pure, Result.andThen_ok, List.map_toArray, List.map_cons, List.map_nil, hs, hx, hr]
  exact hK _ _ (h v' w' h2 ⟨h3, hd⟩ h4)
end Go.Proofs.YtemeppfikpafbaaGreat

