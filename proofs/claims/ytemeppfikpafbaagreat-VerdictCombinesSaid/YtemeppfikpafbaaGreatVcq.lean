/- Texts InsT, VclT, StT, VTold, laid together. -/
import Derived.Deep.RegionHeld3
import Derived.Deep.QuietTactic
import Derived.BigQuiet
import Derived.StillTailTactics
import Derived.Test.YtemeppfikpafbaaGreatVcb
import Derived.Test.YtemeppfikpafbaaGreatVcd
import Derived.Test.YtemeppfikpafbaaGreatVcj
import Derived.Test.YtemeppfikpafbaaGreatVcp
/- slices.insertionSortCmpFunc at causes with a status (222). -/
namespace Go.Proofs.YtemeppfikpafbaaGreat
open Go.RowKit Go.Sort
/-- A cause with its status, in memory. -/
structure Tld where
  c : Cau
  ua : Option Addr
  un : Nat
  uc : Nat
  ha : Option Addr
  hn : Nat
  hc : Nat
  s : Int
  i : Int
  o : Int
instance : Inhabited Tld := ⟨⟨default, none, 0, 0, none, 0, 0, 0, 0, 0⟩⟩
def tC (x : Tld) : List Value := [.slice x.ua x.un x.uc, .slice x.ha x.hn x.hc, .int .u8 x.s, .int .i64 x.i, .int .i64 x.o]
theorem tC_len (x : Tld) : (tC x).length = 5 := rfl
set_option maxHeartbeats 4000000 in
set_option maxRecDepth 100000 in
theorem insT_any (CP : Nat) (P : Tld → Prop) (cf : Tld → Tld → Int) (d : Array Tld) (B off cap a b : Nat) (w : World) (hab : a ≤ b) (hb : b ≤ d.size) (hsz : d.size < 4294967296) (hH : HoldC tC 5 w B off d) (hP : ∀ i, i < d.size → P d[i]!)
    (hcmp : ∀ (x y : Tld) (W : World), P x → P y → w.grownBy W (some B) → Calls Tryz.prog 36 #[.agg #[.slice x.ua x.un x.uc, .slice x.ha x.hn x.hc, .int .u8 x.s, .int .i64 x.i, .int .i64 x.o], .agg #[.slice y.ua y.un y.uc, .slice y.ha y.hn y.hc, .int .u8 y.s, .int .i64 y.i, .int .i64 y.o], .pointer (some ⟨CP, 0, none⟩)] W fun e w' => e = .returned (.int .i64 (cf x y)) ∧ More W w') :
    Calls Tryz.prog 86 #[.slice (some ⟨B, off, none⟩) d.size cap, .int .i64 a, .int .i64 b, .func (.func 36) #[] #[.pointer (some ⟨CP, 0, none⟩)]] w fun e w' => e = .returned (.tuple #[]) ∧ w.grownBy w' (some B) ∧ HoldC tC 5 w' B off (insertionSort (ltOf cf) d a b) := by
  have HH := Lib.hid hH; clear hH
  have HPD := Lib.hid hP; clear hP
  go_enter Tryz.func86, Tryz.ntmps86
  go_wp2_with fail
  go_loopw [8] (fun vi wr => ∃ (i : Nat) (dk : Array Tld), vi = .int .i64 i ∧ a < i ∧ i ≤ b + 1 ∧ Hid (w.grownBy wr (some B)) ∧ Hid (HoldC tC 5 wr B off dk) ∧ Hid ((dk.size = d.size ∧ insOuter (ltOf cf) a b i dk = insertionSort (ltOf cf) d a b) ∧ ∀ i, i < dk.size → P dk[i]!)) (fun i _ => b - (intOf i).toNat)
  case atStart => exact ⟨a + 1, d, by go_num, by omega, by omega, Lib.hid (World.grownBy.refl _ _), HH, Lib.hid ⟨⟨rfl, rfl⟩, HPD.out⟩⟩
  case round =>
    obtain ⟨i, dk, rfl, hai, hib, HG, HK, HE⟩ := hrel
    obtain ⟨wo, rfl⟩ : ∃ wo : World, wo = wr := ⟨_, rfl⟩
    by_cases hlt : i < b
    · go_wp2_with fail
      go_loopw [9] (fun vj wr => ∃ (j : Nat) (dj : Array Tld), vj = .int .i64 j ∧ a ≤ j ∧ j ≤ i ∧ Hid (w.grownBy wr (some B)) ∧ Hid (HoldC tC 5 wr B off dj) ∧ Hid ((dj.size = d.size ∧ insOuter (ltOf cf) a b (i + 1) (insInner (ltOf cf) a j dj) = insertionSort (ltOf cf) d a b) ∧ ∀ i, i < dj.size → P dj[i]!)) (fun j _ => (intOf j).toNat)
      case atStart => exact ⟨i, dk, rfl, by omega, Nat.le_refl _, HG, HK, Lib.hid ⟨⟨HE.out.1.1, by rw [← HE.out.1.2, insOuter_go a b i dk hlt]⟩, HE.out.2⟩⟩
      case round =>
        obtain ⟨j, dj, rfl, haj, hji, HGJ, HJ, HEJ⟩ := hrel
        by_cases hja : a < j
        · obtain ⟨jp, rfl⟩ : ∃ jp, j = jp + 1 := ⟨j - 1, by omega⟩
          have hs := HEJ.out.1.1
          have c1 := HJ.out (jp + 1) (by omega)
          have c2 := HJ.out jp (by omega)
          have HPX := Lib.hid (HEJ.out.2 (jp + 1) (by omega))
          have HPY := Lib.hid (HEJ.out.2 jp (by omega))
          have HPS := Lib.hid (insSort_mem (P := P) HEJ.out.2 (i := jp + 1) (j := jp) (by omega) (by omega))
          have HN := Lib.hid (fun (w' : World) (h : w'.heap[B]? = wr.heap[B]?) => (HJ.out.keep h).swap tC_len (i := jp + 1) (j := jp) (by omega) (by omega))
          have HX := Lib.hid (show (ltOf cf dj[jp + 1]! dj[jp]! = true → insInner (ltOf cf) a (jp + 1) dj = insInner (ltOf cf) a jp (swp dj (jp + 1) jp)) ∧ (ltOf cf dj[jp + 1]! dj[jp]! = false → insInner (ltOf cf) a (jp + 1) dj = dj) from ⟨insInner_go a jp dj hja, insInner_stop a jp dj⟩)
          clear hs
          generalize hx : dj[jp + 1]! = x at *
          generalize hy : dj[jp]! = y at *
          clear hx hy
          obtain ⟨p0, f0⟩ := c1 0 (.slice x.ua x.un x.uc) rfl
          obtain ⟨p1, f1⟩ := c1 1 (.slice x.ha x.hn x.hc) rfl
          obtain ⟨p2, f2⟩ := c1 2 (.int .u8 x.s) rfl
          obtain ⟨p3, f3⟩ := c1 3 (.int .i64 x.i) rfl
          obtain ⟨p4, f4⟩ := c1 4 (.int .i64 x.o) rfl
          obtain ⟨q0, f5⟩ := c2 0 (.slice y.ua y.un y.uc) rfl
          obtain ⟨q1, f6⟩ := c2 1 (.slice y.ha y.hn y.hc) rfl
          obtain ⟨q2, f7⟩ := c2 2 (.int .u8 y.s) rfl
          obtain ⟨q3, f8⟩ := c2 3 (.int .i64 y.i) rfl
          obtain ⟨q4, f9⟩ := c2 4 (.int .i64 y.o) rfl
          have hsz' : (jp : Int) + 1 < d.size := by omega
          have hBr : B < wr.heap.size := cell_lt p0
          clear c1 c2
          by_cases hc : cf x y < 0
          · have t1 : decide (cf x y < 0) = true := decide_eq_true hc
            have HC := Lib.hid (show ltOf cf x y = true by unfold ltOf; exact t1)
            clear hc
            have s0 : wr.drew.cell? ⟨B, off + (jp + 1) * 5, none⟩ = some (.slice x.ua x.un x.uc) := p0
            have s1 : wr.drew.cell? ⟨B, off + (jp + 1) * 5 + 1, none⟩ = some (.slice x.ha x.hn x.hc) := p1
            have s2 : wr.drew.cell? ⟨B, off + (jp + 1) * 5 + 2, none⟩ = some (.int .u8 x.s) := p2
            have s3 : wr.drew.cell? ⟨B, off + (jp + 1) * 5 + 3, none⟩ = some (.int .i64 x.i) := p3
            have s4 : wr.drew.cell? ⟨B, off + (jp + 1) * 5 + 4, none⟩ = some (.int .i64 x.o) := p4
            have s5 : wr.drew.cell? ⟨B, off + jp * 5, none⟩ = some (.slice y.ua y.un y.uc) := q0
            have s6 : wr.drew.cell? ⟨B, off + jp * 5 + 1, none⟩ = some (.slice y.ha y.hn y.hc) := q1
            have s7 : wr.drew.cell? ⟨B, off + jp * 5 + 2, none⟩ = some (.int .u8 y.s) := q2
            have s8 : wr.drew.cell? ⟨B, off + jp * 5 + 3, none⟩ = some (.int .i64 y.i) := q3
            have s9 : wr.drew.cell? ⟨B, off + jp * 5 + 4, none⟩ = some (.int .i64 y.o) := q4
            go_wp2_with fail
            have hwp : IntKind.i64.wrap (jp : Int) = (jp : Int) := by rw [IntKind.wrap_i64]; omega
            have jz1 : (jp : Int) < (d.size : Int) := by omega
            have hjaz' : (a : Int) < (jp : Int) + 1 := by omega
            have z0 : (0 : Int) ≤ (jp : Int) + 1 := by omega
            have e0 : ((jp : Int) + 1).toNat = jp + 1 := by omega
            go_region_held3 (fun wx => wx.cell? ⟨B, off + (jp + 1) * 5, none⟩ = some (.slice x.ua x.un x.uc) ∧ wx.cell? ⟨B, off + (jp + 1) * 5 + 1, none⟩ = some (.slice x.ha x.hn x.hc) ∧ wx.cell? ⟨B, off + (jp + 1) * 5 + 2, none⟩ = some (.int .u8 x.s) ∧ wx.cell? ⟨B, off + (jp + 1) * 5 + 3, none⟩ = some (.int .i64 x.i) ∧ wx.cell? ⟨B, off + (jp + 1) * 5 + 4, none⟩ = some (.int .i64 x.o) ∧ wx.cell? ⟨B, off + jp * 5, none⟩ = some (.slice y.ua y.un y.uc) ∧ wx.cell? ⟨B, off + jp * 5 + 1, none⟩ = some (.slice y.ha y.hn y.hc) ∧ wx.cell? ⟨B, off + jp * 5 + 2, none⟩ = some (.int .u8 y.s) ∧ wx.cell? ⟨B, off + jp * 5 + 3, none⟩ = some (.int .i64 y.i) ∧ wx.cell? ⟨B, off + jp * 5 + 4, none⟩ = some (.int .i64 y.o)) (first | with_reducible exact ⟨s0, s1, s2, s3, s4, s5, s6, s7, s8, s9⟩ | with_reducible exact ⟨k0, k1, k2, k3, k4, k5, k6, k7, k8, k9⟩) (first | (go_at_call 36; refine (hcmp x y _ HPX.out HPY.out (grownBy_more HGJ.out (more_drew wr))).mono ?_; rintro e w1 ⟨rfl, hw1⟩; have k0 := hw1.cell s0; have k1 := hw1.cell s1; have k2 := hw1.cell s2; have k3 := hw1.cell s3; have k4 := hw1.cell s4; have k5 := hw1.cell s5; have k6 := hw1.cell s6; have k7 := hw1.cell s7; have k8 := hw1.cell s8; have k9 := hw1.cell s9))
            clear hwp e0
            have g0 := more_frozen hw1 (o := off + (jp + 1) * 5) hBr f0
            have g1 := more_frozen hw1 (o := off + (jp + 1) * 5 + 1) hBr f1
            have g2 := more_frozen hw1 (o := off + (jp + 1) * 5 + 2) hBr f2
            have g3 := more_frozen hw1 (o := off + (jp + 1) * 5 + 3) hBr f3
            have g4 := more_frozen hw1 (o := off + (jp + 1) * 5 + 4) hBr f4
            have g5 := more_frozen hw1 (o := off + jp * 5) hBr f5
            have g6 := more_frozen hw1 (o := off + jp * 5 + 1) hBr f6
            have g7 := more_frozen hw1 (o := off + jp * 5 + 2) hBr f7
            have g8 := more_frozen hw1 (o := off + jp * 5 + 3) hBr f8
            have g9 := more_frozen hw1 (o := off + jp * 5 + 4) hBr f9
            have hN2 := HN.out w1 (hw1.block hBr)
            rw [show tC x = [.slice x.ua x.un x.uc, .slice x.ha x.hn x.hc, .int .u8 x.s, .int .i64 x.i, .int .i64 x.o] from rfl, show tC y = [.slice y.ua y.un y.uc, .slice y.ha y.hn y.hc, .int .u8 y.s, .int .i64 y.i, .int .i64 y.o] from rfl, setC5, setC5] at hN2
            have HN2 := Lib.hid hN2.drew
            have hG2 := grownBy_trans (grownBy_more (grownBy_more HGJ.out (more_drew wr)) hw1) (setC2_grown w1 B (off + (jp + 1) * 5) (off + jp * 5) [.slice y.ua y.un y.uc, .slice y.ha y.hn y.hc, .int .u8 y.s, .int .i64 y.i, .int .i64 y.o] [.slice x.ua x.un x.uc, .slice x.ha x.hn x.hc, .int .u8 x.s, .int .i64 x.i, .int .i64 x.o])
            rw [setC5, setC5] at hG2
            have HG2 := Lib.hid (grownBy_more hG2 (more_drew _))
            have HS2 := Lib.hid (show ((swp dj (jp + 1) jp).size = d.size ∧ insOuter (ltOf cf) a b (i + 1) (insInner (ltOf cf) a jp (swp dj (jp + 1) jp)) = insertionSort (ltOf cf) d a b) ∧ ∀ i, i < (swp dj (jp + 1) jp).size → P (swp dj (jp + 1) jp)[i]! from ⟨⟨by rw [size_swp]; exact HEJ.out.1.1, by rw [← HX.out.1 HC.out]; exact HEJ.out.1.2⟩, HPS.out⟩)
            clear hw1 hN2 hG2 p0 p1 p2 p3 p4 q0 q1 q2 q3 q4 s0 s1 s2 s3 s4 s5 s6 s7 s8 s9 f0 f1 f2 f3 f4 f5 f6 f7 f8 f9
            go_wp2_with fail
            go_region
            go_wp2_with fail
            go_roundw
            case rel => exact ⟨jp, swp dj (jp + 1) jp, by go_num, by omega, by omega, HG2, HN2, HS2⟩
            case measure => simp [intOf]
          · have t1 : decide (cf x y < 0) = false := decide_eq_false hc
            have HC := Lib.hid (show ltOf cf x y = false by unfold ltOf; exact t1)
            clear hc
            have s0 : wr.drew.cell? ⟨B, off + (jp + 1) * 5, none⟩ = some (.slice x.ua x.un x.uc) := p0
            have s1 : wr.drew.cell? ⟨B, off + (jp + 1) * 5 + 1, none⟩ = some (.slice x.ha x.hn x.hc) := p1
            have s2 : wr.drew.cell? ⟨B, off + (jp + 1) * 5 + 2, none⟩ = some (.int .u8 x.s) := p2
            have s3 : wr.drew.cell? ⟨B, off + (jp + 1) * 5 + 3, none⟩ = some (.int .i64 x.i) := p3
            have s4 : wr.drew.cell? ⟨B, off + (jp + 1) * 5 + 4, none⟩ = some (.int .i64 x.o) := p4
            have s5 : wr.drew.cell? ⟨B, off + jp * 5, none⟩ = some (.slice y.ua y.un y.uc) := q0
            have s6 : wr.drew.cell? ⟨B, off + jp * 5 + 1, none⟩ = some (.slice y.ha y.hn y.hc) := q1
            have s7 : wr.drew.cell? ⟨B, off + jp * 5 + 2, none⟩ = some (.int .u8 y.s) := q2
            have s8 : wr.drew.cell? ⟨B, off + jp * 5 + 3, none⟩ = some (.int .i64 y.i) := q3
            have s9 : wr.drew.cell? ⟨B, off + jp * 5 + 4, none⟩ = some (.int .i64 y.o) := q4
            go_wp2_with fail
            have hwp : IntKind.i64.wrap (jp : Int) = (jp : Int) := by rw [IntKind.wrap_i64]; omega
            have jz1 : (jp : Int) < (d.size : Int) := by omega
            have hjaz' : (a : Int) < (jp : Int) + 1 := by omega
            have z0 : (0 : Int) ≤ (jp : Int) + 1 := by omega
            have e0 : ((jp : Int) + 1).toNat = jp + 1 := by omega
            go_region_held3 (fun wx => wx.cell? ⟨B, off + (jp + 1) * 5, none⟩ = some (.slice x.ua x.un x.uc) ∧ wx.cell? ⟨B, off + (jp + 1) * 5 + 1, none⟩ = some (.slice x.ha x.hn x.hc) ∧ wx.cell? ⟨B, off + (jp + 1) * 5 + 2, none⟩ = some (.int .u8 x.s) ∧ wx.cell? ⟨B, off + (jp + 1) * 5 + 3, none⟩ = some (.int .i64 x.i) ∧ wx.cell? ⟨B, off + (jp + 1) * 5 + 4, none⟩ = some (.int .i64 x.o) ∧ wx.cell? ⟨B, off + jp * 5, none⟩ = some (.slice y.ua y.un y.uc) ∧ wx.cell? ⟨B, off + jp * 5 + 1, none⟩ = some (.slice y.ha y.hn y.hc) ∧ wx.cell? ⟨B, off + jp * 5 + 2, none⟩ = some (.int .u8 y.s) ∧ wx.cell? ⟨B, off + jp * 5 + 3, none⟩ = some (.int .i64 y.i) ∧ wx.cell? ⟨B, off + jp * 5 + 4, none⟩ = some (.int .i64 y.o)) (first | with_reducible exact ⟨s0, s1, s2, s3, s4, s5, s6, s7, s8, s9⟩ | with_reducible exact ⟨k0, k1, k2, k3, k4, k5, k6, k7, k8, k9⟩) (first | (go_at_call 36; refine (hcmp x y _ HPX.out HPY.out (grownBy_more HGJ.out (more_drew wr))).mono ?_; rintro e w1 ⟨rfl, hw1⟩; have k0 := hw1.cell s0; have k1 := hw1.cell s1; have k2 := hw1.cell s2; have k3 := hw1.cell s3; have k4 := hw1.cell s4; have k5 := hw1.cell s5; have k6 := hw1.cell s6; have k7 := hw1.cell s7; have k8 := hw1.cell s8; have k9 := hw1.cell s9))
            clear hwp e0
            have HG2 := Lib.hid (grownBy_more (grownBy_more HGJ.out (more_drew wr)) hw1)
            have HN2 := Lib.hid (HJ.out.keep (hw1.block hBr))
            have HS2 := Lib.hid (show (dj.size = d.size ∧ insOuter (ltOf cf) a b (i + 1) dj = insertionSort (ltOf cf) d a b) ∧ ∀ i, i < dj.size → P dj[i]! from ⟨⟨HEJ.out.1.1, by rw [← HEJ.out.1.2, HX.out.2 HC.out]⟩, HEJ.out.2⟩)
            clear hw1 p0 p1 p2 p3 p4 q0 q1 q2 q3 q4 s0 s1 s2 s3 s4 s5 s6 s7 s8 s9 f0 f1 f2 f3 f4 f5 f6 f7 f8 f9 k0 k1 k2 k3 k4 k5 k6 k7 k8 k9
            go_wp2_with fail
            go_roundw
            case rel => exact ⟨i + 1, dj, by go_num, by omega, by omega, HG2, HN2, HS2⟩
            case measure => simp [intOf]; omega
        · have t0 : decide (a < j) = false := by simpa using hja
          have HS2 := Lib.hid (show (dj.size = d.size ∧ insOuter (ltOf cf) a b (i + 1) dj = insertionSort (ltOf cf) d a b) ∧ ∀ i, i < dj.size → P dj[i]! from ⟨⟨HEJ.out.1.1, by rw [← HEJ.out.1.2, insInner_no a j dj hja]⟩, HEJ.out.2⟩)
          go_wp2_with fail
          go_quiet (fail)
          go_wp2_with fail
          go_roundw
          case rel => exact ⟨i + 1, dj, by go_num, by omega, by omega, Lib.hid (grownBy_trans HGJ.out (grownBy_drewN _ _ _)), Lib.hid (HJ.out.keep rfl), HS2⟩
          case measure => simp [intOf]; omega
    · have hE : dk = insertionSort (ltOf cf) d a b := by rw [← HE.out.1.2, insOuter_stop a b i dk hlt]
      have HE' := Lib.hid hE; clear hE
      go_wp2_with fail
      go_end0
      exact ⟨rfl, HG.out, by rw [← HE'.out]; exact HK.out⟩
end Go.Proofs.YtemeppfikpafbaaGreat

/- Combine's second closure (140); slices.SortFunc (139, 184) of at most 12 causes with a status, as verdict.Combine calls it. -/
namespace Go.Proofs.YtemeppfikpafbaaGreat
open Go.RowKit Go.Sort Go.Shelf
def cfT (x y : Tld) : Int := orI [cmpI x.s y.s, cmpI y.i x.i, sgnC x.c y.c]
def TldAt (w : World) (x : Tld) : Prop := CauAt w x.c (.slice x.ua x.un x.uc) (.slice x.ha x.hn x.hc)
set_option maxRecDepth 100000 in
set_option maxHeartbeats 8000000 in
theorem combine140_lay (x y : Tld) (CP PB : Nat) (w : World) (hx : TldAt w x) (hy : TldAt w y) (hp : w.heap[PB]? = some (.cells #[.func (.func 27) #[] #[]] 30)) (hcp : w.heap[CP]? = some (.cells #[.func (.func 61) #[] #[.pointer (some ⟨PB, 0, none⟩)]] 71)) :
    Calls Tryz.prog 36 #[.agg #[.slice x.ua x.un x.uc, .slice x.ha x.hn x.hc, .int .u8 x.s, .int .i64 x.i, .int .i64 x.o], .agg #[.slice y.ua y.un y.uc, .slice y.ha y.hn y.hc, .int .u8 y.s, .int .i64 y.i, .int .i64 y.o], .pointer (some ⟨CP, 0, none⟩)] w fun e w' => e = .returned (.int .i64 (cfT x y)) ∧ Lay w w' := by
  have H1 := Lib.hid (fun W (hW : More w W) => compare182_lay x.c y.c _ _ _ _ PB W (CauAt.more hx hW) (CauAt.more hy hW) ((hW.block (blk_lt hp)).trans hp))
  have HCP := Lib.hid hcp
  have HE := Lib.hid (show cfT x y = orI [cmpI x.s y.s, cmpI y.i x.i, sgnC x.c y.c] from rfl)
  rw [HE.out]
  clear hx hy hp hcp HE
  generalize sgnC x.c y.c = r at *
  obtain ⟨xc, xua, xun, xuc, xha, xhn, xhc, xs, xi, xo⟩ := x
  obtain ⟨yc, yua, yun, yuc, yha, yhn, yhc, ys, yi, yo⟩ := y
  dsimp only at *
  clear xc yc
  have HOR := Lib.hid (show ∀ (w : World) (ty : TypeId), Calls Tryz.prog 37 #[.slice (some ⟨w.heap.size, 0, none⟩) 3 3] (w.alloc (.cells #[.int .i64 (cmpI xs ys), .int .i64 (cmpI yi xi), .int .i64 r] ty)) fun e w' => e = .returned (.int .i64 (orI [cmpI xs ys, cmpI yi xi, r])) ∧ w' = w.alloc (.cells #[.int .i64 (cmpI xs ys), .int .i64 (cmpI yi xi), .int .i64 r] ty) from fun w ty => or_any (fun _ => True) [cmpI xs ys, cmpI yi xi, r] _ _ (show 3 ≤ 1000000 by decide) (row_lit trivial rfl))
  have HCS := Lib.hid (fun W => cmpS_any xs ys W)
  have HCI := Lib.hid (fun W => cmpN_any yi xi W)
  generalize orI [cmpI xs ys, cmpI yi xi, r] = z at *
  generalize cmpI xs ys = z1 at *
  generalize cmpI yi xi = z2 at *
  go_enter Tryz.func36, Tryz.ntmps36
  go_upto_region 1 with (fail)
  obtain ⟨b1, b2, hm⟩ := boxed2 w (.cells #[.slice xua xun xuc, .slice xha xhn xhc, .int .u8 xs, .int .i64 xi, .int .i64 xo] 81) (.cells #[.slice yua yun yuc, .slice yha yhn yhc, .int .u8 ys, .int .i64 yi, .int .i64 yo] 81)
  generalize (w.alloc (.cells #[.slice xua xun xuc, .slice xha xhn xhc, .int .u8 xs, .int .i64 xi, .int .i64 xo] 81)).alloc (.cells #[.slice yua yun yuc, .slice yha yhn yhc, .int .u8 ys, .int .i64 yi, .int .i64 yo] 81) = w2 at *
  have HM2 := Lib.hid hm
  have HAB := Lib.hid b1
  have HBB := Lib.hid b2
  have HCP2 := Lib.hid ((hm.1.block (blk_lt HCP.out)).trans HCP.out)
  clear b1 b2 hm
  obtain ⟨BB, HBE⟩ : ∃ BB, Hid (BB = w.heap.size + 1) := ⟨_, Lib.hid rfl⟩
  rw [← HBE.out] at HBB ⊢
  obtain ⟨AB, HAE⟩ : ∃ AB, Hid (AB = w.heap.size) := ⟨_, Lib.hid rfl⟩
  rw [← HAE.out] at HAB ⊢
  have HCC := Lib.hid (fun W (hW : More w2 W) => H1.out W (more_trans HM2.out.1 hW))
  have HK := Lib.hid (show ∀ W, More w2 W → (W.cell? ⟨AB, 2, none⟩ = some (.int .u8 xs) ∧ W.cell? ⟨BB, 2, none⟩ = some (.int .u8 ys) ∧ W.cell? ⟨AB, 3, none⟩ = some (.int .i64 xi) ∧ W.cell? ⟨BB, 3, none⟩ = some (.int .i64 yi) ∧ W.cell? ⟨AB, 0, none⟩ = some (.slice xua xun xuc) ∧ W.cell? ⟨AB, 1, none⟩ = some (.slice xha xhn xhc) ∧ W.cell? ⟨BB, 0, none⟩ = some (.slice yua yun yuc) ∧ W.cell? ⟨BB, 1, none⟩ = some (.slice yha yhn yhc) ∧ W.cell? ⟨CP, 0, none⟩ = some (.func (.func 61) #[] #[.pointer (some ⟨PB, 0, none⟩)])) from fun W h => ⟨h.cell (cell_of_blk HAB.out rfl), h.cell (cell_of_blk HBB.out rfl), h.cell (cell_of_blk HAB.out rfl), h.cell (cell_of_blk HBB.out rfl), h.cell (cell_of_blk HAB.out rfl), h.cell (cell_of_blk HAB.out rfl), h.cell (cell_of_blk HBB.out rfl), h.cell (cell_of_blk HBB.out rfl), h.cell (cell_of_blk HCP2.out rfl)⟩)
  have HL := Lib.hid (Lay.drew w2)
  go_region_held3 (fun W => W.cell? ⟨AB, 2, none⟩ = some (.int .u8 xs) ∧ W.cell? ⟨BB, 2, none⟩ = some (.int .u8 ys) ∧ W.cell? ⟨AB, 3, none⟩ = some (.int .i64 xi) ∧ W.cell? ⟨BB, 3, none⟩ = some (.int .i64 yi) ∧ W.cell? ⟨AB, 0, none⟩ = some (.slice xua xun xuc) ∧ W.cell? ⟨AB, 1, none⟩ = some (.slice xha xhn xhc) ∧ W.cell? ⟨BB, 0, none⟩ = some (.slice yua yun yuc) ∧ W.cell? ⟨BB, 1, none⟩ = some (.slice yha yhn yhc) ∧ W.cell? ⟨CP, 0, none⟩ = some (.func (.func 61) #[] #[.pointer (some ⟨PB, 0, none⟩)])) (first | with_reducible exact HK.out _ HL.out.more | with_reducible exact HK.out _ (more_trans HL.out.more (more_alloc _ _))) (first | (go_at_call 38; refine (HCS.out _).mono ?_; rintro e w6 ⟨rfl, hw6⟩; rw [hw6]; clear hw6 w6) | (go_at_call 39; refine (HCI.out _).mono ?_; rintro e w6 ⟨rfl, hw6⟩; rw [hw6]; clear hw6 w6) | (go_at_call 61; refine (HCC.out _ HL.out.more).mono ?_; rintro e w6 ⟨rfl, hm6⟩; have HL := Lib.hid (HL.out.trans hm6); clear hm6) | (go_at_call 37; refine (HOR.out _ _).mono ?_; rintro e w6 ⟨rfl, hw6⟩; rw [hw6]; clear hw6 w6))
  all_goals
    go_wp2_with fail
    go_ret
    exact ⟨rfl, HM2.out.trans (HL.out.trans (Lay.alloc _ _))⟩
theorem combine140_any (x y : Tld) (CP PB : Nat) (w : World) (hx : TldAt w x) (hy : TldAt w y) (hp : w.heap[PB]? = some (.cells #[.func (.func 27) #[] #[]] 30)) (hcp : w.heap[CP]? = some (.cells #[.func (.func 61) #[] #[.pointer (some ⟨PB, 0, none⟩)]] 71)) :
    Calls Tryz.prog 36 #[.agg #[.slice x.ua x.un x.uc, .slice x.ha x.hn x.hc, .int .u8 x.s, .int .i64 x.i, .int .i64 x.o], .agg #[.slice y.ua y.un y.uc, .slice y.ha y.hn y.hc, .int .u8 y.s, .int .i64 y.i, .int .i64 y.o], .pointer (some ⟨CP, 0, none⟩)] w fun e w' => e = .returned (.int .i64 (cfT x y)) ∧ More w w' := (combine140_lay x y CP PB w hx hy hp hcp).mono fun _ _ h => ⟨h.1, h.2.1⟩
end Go.Proofs.YtemeppfikpafbaaGreat

/- slices.SortFunc (139, 184) of at most 12 causes with a status, as verdict.Combine calls it. -/
namespace Go.Proofs.YtemeppfikpafbaaGreat
open Go.RowKit Go.Sort Go.Shelf
set_option maxRecDepth 100000 in
set_option maxHeartbeats 4000000 in
theorem sortT_any (d : Array Tld) (B cap PB CP : Nat) (w : World) (hn : d.size ≤ 12) (hH : HoldC tC 5 w B 0 d) (hP : ∀ i, i < d.size → ∀ W, w.grownBy W (some B) → TldAt W d[i]!)
    (hp : w.heap[PB]? = some (.cells #[.func (.func 27) #[] #[]] 30)) (hcp : w.heap[CP]? = some (.cells #[.func (.func 61) #[] #[.pointer (some ⟨PB, 0, none⟩)]] 71)) (h1 : PB ≠ B) (h2 : CP ≠ B) :
    Calls Tryz.prog 35 #[.slice (some ⟨B, 0, none⟩) d.size cap, .func (.func 36) #[] #[.pointer (some ⟨CP, 0, none⟩)]] w fun e w' => e = .returned (.tuple #[]) ∧ w.grownBy w' (some B) ∧ HoldC tC 5 w' B 0 (insertionSort (ltOf cfT) d 0 d.size) := by
  have HI := Lib.hid (insT_any CP (fun x => ∀ W, w.grownBy W (some B) → TldAt W x) cfT d B 0 cap 0 d.size w (Nat.zero_le _) (Nat.le_refl _) (by omega) hH hP (fun x y W hx hy hW =>
    combine140_any x y CP PB W (hx W hW) (hy W hW) ((hW.block PB (blk_lt hp) (fun e => h1 (Option.some.inj e))).trans hp) ((hW.block CP (blk_lt hcp) (fun e => h2 (Option.some.inj e))).trans hcp)))
  have HS : ∀ (lim : Int) (W : World), W = w → Calls Tryz.prog 63 #[.slice (some ⟨B, 0, none⟩) d.size cap, .int .i64 0, .int .i64 d.size, .int .i64 lim, .func (.func 36) #[] #[.pointer (some ⟨CP, 0, none⟩)]] W fun e w' => e = .returned (.tuple #[]) ∧ w.grownBy w' (some B) ∧ HoldC tC 5 w' B 0 (insertionSort (ltOf cfT) d 0 d.size) := by
    rintro lim W rfl
    clear hH hP hp hcp h1 h2
    have t12 : decide ((d.size : Int) ≤ 12) = true := by simp; omega
    generalize hD : insertionSort (ltOf cfT) d 0 d.size = D at *
    clear hD
    generalize d.size = n at *
    go_enter Tryz.func63, Tryz.ntmps63
    go_wp2_with fail
    refine wp_loop_rounds 1 ?_
    rw [rounds_succ]
    go_wp2_with fail
    refine HI.out.mono ?_
    rintro e w1 ⟨rfl, hh1⟩
    have HH1 := Lib.hid hh1
    clear hh1
    go_wp2_with fail
    (try simp only [Exit.inBlock, Exit.then]); refine bodyPost_ret (results_none rfl _ _ _) rfl ?_
    exact ⟨rfl, HH1.out⟩
  have HS2 := Lib.hid (fun lim => HS lim w rfl)
  have HL := Lib.hid (show ∀ W, Calls Tryz.prog 64 #[.int .u64 (d.size : Int)] W fun e w' => e = .returned (.int .i64 (Lib.bitLen d.size : Nat)) ∧ w' = W from fun W => Any.bits_Len (SlLaysF0.n15.bits (P := Tryz.prog) (ρ := Tryz.sortTold_ren) { Tryz.sortTold with }) d.size W (by omega) (by omega))
  clear HS HI hH hP hp hcp h1 h2
  generalize hD : insertionSort (ltOf cfT) d 0 d.size = D at *
  clear hD
  generalize d.size = n at *
  go_enter Tryz.func35, Tryz.ntmps35
  go_wp2_with fail
  refine (HL.out _).mono ?_
  rintro e w1 ⟨rfl, hw1⟩
  subst w1
  go_wp2_with fail
  refine (HS2.out _).mono ?_
  rintro e w2 ⟨rfl, hh2⟩
  have HH2 := Lib.hid hh2
  clear hh2
  go_wp2_with fail
  go_end0
  exact ⟨rfl, HH2.out⟩
end Go.Proofs.YtemeppfikpafbaaGreat

/- What verdict.Combine tells of the sorted causes: plain. -/
namespace Go.Proofs.YtemeppfikpafbaaGreat
open Go.RowKit Go.Sort
section
variable {α : Type} [Inhabited α] {lt : α → α → Bool}
theorem insInner_mem {P : α → Prop} (a : Nat) : ∀ (j : Nat) (d : Array α), j < d.size → (∀ i, i < d.size → P d[i]!) → (insInner lt a j d).size = d.size ∧ ∀ i, i < (insInner lt a j d).size → P (insInner lt a j d)[i]!
  | 0, d, _, h => ⟨rfl, h⟩
  | j + 1, d, hj, h => by
    by_cases h1 : a < j + 1
    · cases h2 : lt d[j + 1]! d[j]! with
      | true =>
        rw [Go.Proofs.YtemeppfikpafbaaGreat.insInner_go a j d h1 h2]
        obtain ⟨r1, r2⟩ := insInner_mem a j (swp d (j + 1) j) (by rw [size_swp]; omega) (insSort_mem h (by omega) (by omega))
        exact ⟨by rw [r1, size_swp], r2⟩
      | false => rw [Go.Proofs.YtemeppfikpafbaaGreat.insInner_stop a j d h2]; exact ⟨rfl, h⟩
    · rw [insInner_no a (j + 1) d h1]; exact ⟨rfl, h⟩
theorem insOuter_mem {P : α → Prop} (a b : Nat) : ∀ (n i : Nat) (d : Array α), b - i = n → b ≤ d.size → (∀ i, i < d.size → P d[i]!) → (insOuter lt a b i d).size = d.size ∧ ∀ q, q < (insOuter lt a b i d).size → P (insOuter lt a b i d)[q]!
  | 0, i, d, hn, _, h => by rw [Go.Proofs.YtemeppfikpafbaaGreat.insOuter_stop a b i d (by omega)]; exact ⟨rfl, h⟩
  | n + 1, i, d, hn, hb, h => by
    rw [Go.Proofs.YtemeppfikpafbaaGreat.insOuter_go a b i d (by omega)]
    obtain ⟨r1, r2⟩ := insInner_mem (lt := lt) (P := P) a i d (by omega) h
    obtain ⟨q1, q2⟩ := insOuter_mem (P := P) a b n (i + 1) (insInner lt a i d) (by omega) (by rw [r1]; exact hb) r2
    exact ⟨by rw [q1, r1], q2⟩
theorem insSort_all {P : α → Prop} {d : Array α} (h : ∀ i, i < d.size → P d[i]!) : (insertionSort lt d 0 d.size).size = d.size ∧ ∀ i, i < (insertionSort lt d 0 d.size).size → P (insertionSort lt d 0 d.size)[i]! :=
  insOuter_mem 0 d.size _ _ d rfl (Nat.le_refl _) h
end
/-- A told cause. -/
def mkT (o : Int) (x : Fnd) (i : Int) : Tld := ⟨x.c, x.ua, x.un, x.uc, x.ha, x.hn, x.hc, 0, i, o⟩
def bumpL : List Tld → List Tld
  | [] => []
  | [t] => [{ t with i := t.i + 1 }]
  | t :: u :: r => t :: bumpL (u :: r)
theorem bumpL_snoc (R : List Tld) (t : Tld) : bumpL (R ++ [t]) = R ++ [{ t with i := t.i + 1 }] := by
  induction R with
  | nil => rfl
  | cons a r ih =>
    cases r with
    | nil => rfl
    | cons b r' =>
      show a :: bumpL (b :: r' ++ [t]) = _
      rw [ih]; rfl
theorem bumpL_len (T : List Tld) : (bumpL T).length = T.length := by
  rcases List.eq_nil_or_concat T with rfl | ⟨R, t, rfl⟩
  · rfl
  · rw [List.concat_eq_append, bumpL_snoc]; simp
def sameB (D : List Fnd) : Nat → Bool
  | 0 => false
  | k + 1 => decide (cmpCau D[k]!.c D[k + 1]!.c = 0)
def difB (D : List Fnd) : Nat → Bool
  | 0 => true
  | k + 1 => decide (D[k]!.n ≠ D[k + 1]!.n)
/-- What is told of the first causes of a sorted list. -/
def told1 (o : Int) (D : List Fnd) (T : List Tld) (j : Nat) : List Tld := if sameB D j then T else T ++ [mkT o D[j]! 0]
def told2 (D : List Fnd) (T1 : List Tld) (j : Nat) : List Tld := if !sameB D j || difB D j then bumpL T1 else T1
def toldN (o : Int) (D : List Fnd) : Nat → List Tld
  | 0 => []
  | j + 1 => told2 D (told1 o D (toldN o D j) j) j
theorem told1_len (o : Int) (D : List Fnd) (T : List Tld) (j : Nat) (h : 0 < j → 0 < T.length) : T.length ≤ (told1 o D T j).length ∧ (told1 o D T j).length ≤ T.length + 1 ∧ 0 < (told1 o D T j).length := by
  unfold told1
  cases hs : sameB D j with
  | true =>
    have hj : 0 < j := by
      rcases Nat.eq_zero_or_pos j with rfl | h
      · cases hs
      · exact h
    have := h hj
    simp; omega
  | false => simp
theorem told2_len (D : List Fnd) (T : List Tld) (j : Nat) : (told2 D T j).length = T.length := by
  unfold told2; split
  · exact bumpL_len T
  · rfl
theorem toldN_len (o : Int) (D : List Fnd) : ∀ n, (toldN o D n).length ≤ n ∧ (0 < n → 0 < (toldN o D n).length)
  | 0 => ⟨Nat.le_refl _, fun h => absurd h (Nat.lt_irrefl 0)⟩
  | j + 1 => by
    obtain ⟨h1, h2⟩ := toldN_len o D j
    obtain ⟨h3, h4, h5⟩ := told1_len o D (toldN o D j) j h2
    have h6 : (toldN o D (j + 1)).length = (told1 o D (toldN o D j) j).length := told2_len D _ j
    exact ⟨by omega, fun _ => by omega⟩
theorem bumpL_mem {P Q : Tld → Prop} (hPQ : ∀ t, P t → Q t ∧ Q { t with i := t.i + 1 }) (T : List Tld) (h : ∀ t ∈ T, P t) : ∀ t ∈ bumpL T, Q t := by
  rcases List.eq_nil_or_concat T with rfl | ⟨R, u, rfl⟩
  · intro t ht; simp [bumpL] at ht
  · rw [List.concat_eq_append] at h ⊢
    rw [bumpL_snoc]
    intro t ht
    rcases List.mem_append.1 ht with h1 | h1
    · exact (hPQ t (h t (List.mem_append_left _ h1))).1
    · rw [List.mem_singleton] at h1
      subst h1
      exact (hPQ u (h u (by simp))).2
theorem toldN_all {P : Nat → Tld → Prop} (o : Int) (D : List Fnd) (hs : ∀ j t, P j t → P (j + 1) t ∧ P (j + 1) { t with i := t.i + 1 }) (hD : ∀ j, j < D.length → P j (mkT o D[j]! 0)) :
    ∀ n, n ≤ D.length → ∀ t ∈ toldN o D n, P n t
  | 0, _, t, ht => by simp [toldN] at ht
  | j + 1, hn, t, ht => by
    have ih := toldN_all (P := P) o D hs hD j (by omega)
    have h1 : ∀ t ∈ told1 o D (toldN o D j) j, P j t := fun t ht => by
      unfold told1 at ht
      split at ht
      · exact ih t ht
      · rcases List.mem_append.1 ht with h | h
        · exact ih t h
        · rw [List.mem_singleton] at h
          subst h
          exact hD j (by omega)
    have ht' : t ∈ told2 D (told1 o D (toldN o D j) j) j := ht
    unfold told2 at ht'
    split at ht'
    · exact bumpL_mem (P := P j) (Q := P (j + 1)) (hs j) _ h1 t ht'
    · exact (hs j t (h1 t ht')).1
theorem told1_all {P : Nat → Tld → Prop} (o : Int) (D : List Fnd) (T : List Tld) (j : Nat) (hT : ∀ t ∈ T, P j t) (hD : P j (mkT o D[j]! 0)) : ∀ t ∈ told1 o D T j, P j t := fun t ht => by
  unfold told1 at ht
  split at ht
  · exact hT t ht
  · rcases List.mem_append.1 ht with h | h
    · exact hT t h
    · rw [List.mem_singleton] at h
      subst h
      exact hD
/-- The numbers of lists are small. -/
theorem toldN_i (o : Int) (D : List Fnd) (n : Nat) (hn : n ≤ D.length) : ∀ t ∈ toldN o D n, 0 ≤ t.i ∧ t.i ≤ n :=
  toldN_all (P := fun j t => 0 ≤ t.i ∧ t.i ≤ j) o D (fun j t h => by
    obtain ⟨h1, h2⟩ := h
    exact ⟨⟨h1, by omega⟩, ⟨by show 0 ≤ t.i + 1; omega, by show t.i + 1 ≤ ((j + 1 : Nat) : Int); omega⟩⟩) (fun j _ => ⟨Int.le_refl _, by show (0 : Int) ≤ j; omega⟩) n hn
/-- Its causes are those of the list. -/
theorem toldN_at (w : World) (o : Int) (D : List Fnd) (hD : ∀ j, j < D.length → FndAt w D[j]!) (n : Nat) (hn : n ≤ D.length) : ∀ t ∈ toldN o D n, TldAt w t :=
  toldN_all (P := fun _ t => TldAt w t) o D (fun _ _ h => ⟨h, h⟩) (fun j hj => hD j hj) n hn
/-- With the statuses. -/
def setSt (cb : Bool) (o : Int) (t : Tld) : Tld := { t with s := if decide (t.i = o) then (if cb then 1 else 3) else 2 }
/-- A cell of one element is set. -/
theorem flatC_setT {R S : List Tld} {t t' : Tld} {r : Nat} {u : Value} (hr : r < 5) (he : (tC t).set r u = tC t') : (flatC tC (R ++ t :: S)).set (R.length * 5 + r) u = flatC tC (R ++ t' :: S) := by
  have hl : (flatC tC R).length = R.length * 5 := flatC_len tC_len R
  rw [flatC_append, flatC_append, List.set_append, if_neg (by omega), hl, show R.length * 5 + r - R.length * 5 = r by omega]
  congr 1
  show ((tC t) ++ flatC tC S).set r u = (tC t') ++ flatC tC S
  rw [List.set_append, if_pos (by rw [tC_len]; exact hr), he]
end Go.Proofs.YtemeppfikpafbaaGreat

