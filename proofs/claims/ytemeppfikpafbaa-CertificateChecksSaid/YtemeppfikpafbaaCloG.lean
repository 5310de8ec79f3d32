/- choice.clone (100) on any choice. -/
import Derived.Test.YtemeppfikpafbaaChkG
import Derived.Deep.CutBlock
namespace Go.Proofs.Ytemeppfikpafbaa
open Go.RowKit
/-- A choice stored whole into a block of its own. -/
theorem set7 {w : World} {Q : Nat} {T : TypeId} {x0 x1 x2 x3 x4 x5 x6 y0 y1 y2 y3 y4 y5 y6 : Value} (h : w.heap[Q]? = some (.cells #[y0, y1, y2, y3, y4, y5, y6] T)) {W : World}
    (hW : W = ((((((w.setCell ⟨Q, 0, none⟩ x0).setCell ⟨Q, 1, none⟩ x1).setCell ⟨Q, 2, none⟩ x2).setCell ⟨Q, 3, none⟩ x3).setCell ⟨Q, 4, none⟩ x4).setCell ⟨Q, 5, none⟩ x5).setCell ⟨Q, 6, none⟩ x6) :
    W.heap[Q]? = some (.cells #[x0, x1, x2, x3, x4, x5, x6] T) ∧ (∀ z, z ≠ Q → W.heap[z]? = w.heap[z]?) ∧ ∀ M w0, Below M w0 w → M ≤ Q → Below M w0 W := by
  subst hW
  have h0 := setCell_heap (o := 0) (v := x0) h
  have h1 := setCell_heap (o := 1) (v := x1) h0
  have h2 := setCell_heap (o := 2) (v := x2) h1
  have h3 := setCell_heap (o := 3) (v := x3) h2
  have h4 := setCell_heap (o := 4) (v := x4) h3
  have h5 := setCell_heap (o := 5) (v := x5) h4
  have h6 := setCell_heap (o := 6) (v := x6) h5
  refine ⟨by simpa using h6, fun z hz => ?_, fun M w0 hb hM => ((((((hb.setCell (p := ⟨Q, 0, none⟩) hM _).setCell (p := ⟨Q, 1, none⟩) hM _).setCell (p := ⟨Q, 2, none⟩) hM _).setCell (p := ⟨Q, 3, none⟩) hM _).setCell (p := ⟨Q, 4, none⟩) hM _).setCell (p := ⟨Q, 5, none⟩) hM _).setCell (p := ⟨Q, 6, none⟩) hM _⟩
  have e := fun (W : World) (o : Nat) (v : Value) => Below.heap_setCell W ⟨Q, o, none⟩ v z hz
  rw [e, e, e, e, e, e, e]
set_option maxRecDepth 100000 in
set_option maxHeartbeats 4000000 in
theorem clone100_gen (p : GV) (w : World) (hg : GArg anyB w p) (hl : p.2.l.length ≤ maxLen) (hl2 : p.2.l.length ≤ 1000000) : Calls Try.prog 100 #[gA p] w fun e w' => (∃ a c, e = .returned (gA (.slice a p.2.l.length c, p.2)) ∧ GArg (fun b => w.heap.size ≤ b) w' (.slice a p.2.l.length c, p.2)) ∧ Below w.heap.size w w' := by
  obtain ⟨v, ⟨⟨kd, a, b, n⟩, t, d, l⟩⟩ := p
  have hrow := hg.row
  have hnil := hg.nil
  clear hg
  unfold gA
  dsimp only at *
  obtain ⟨sa, sc, rfl, _⟩ := hrow.shape
  obtain ⟨i1, hi1, hy0, hy1, hy2⟩ := info_parts infoN
  obtain ⟨ln, HLN⟩ : ∃ ln, Hid (l.length = ln) := ⟨_, Lib.hid rfl⟩
  rw [HLN.out] at hrow hnil hl2 ⊢
  have hm := (boxed2 w (.cells #[.int .u8 kd, .int .i64 a, .int .i64 b, .int .i64 n, .int .i64 t, .int .i64 d, .slice sa ln sc] 113) (.cells #[.int .u8 0, .int .i64 0, .int .i64 0, .int .i64 0, .int .i64 0, .int .i64 0, .slice none 0 0] 113))
  have HP := Lib.hid hm.1
  have HQ := Lib.hid hm.2.1
  have HM := Lib.hid hm.2.2.1
  have HR := Lib.hid (hrow.below HM.out.below)
  have HN := Lib.hid hnil
  have HL2 := Lib.hid hl2
  clear hm hrow hnil hl hl2
  go_enter Try.func100, Try.ntmps100
  go_upto_region 1 with (fail)
  generalize (w.alloc (.cells #[.int .u8 kd, .int .i64 a, .int .i64 b, .int .i64 n, .int .i64 t, .int .i64 d, .slice sa ln sc] 113)).alloc (.cells #[.int .u8 0, .int .i64 0, .int .i64 0, .int .i64 0, .int .i64 0, .int .i64 0, .slice none 0 0] 113) = w1 at *
  obtain ⟨PB, HPB⟩ : ∃ PB, Hid (PB = w.heap.size) := ⟨_, Lib.hid rfl⟩
  rw [← HPB.out] at HP HQ ⊢
  obtain ⟨QB, HQB⟩ : ∃ QB, Hid (QB = PB + 1) := ⟨_, Lib.hid rfl⟩
  rw [← HQB.out] at HQ ⊢
  have c6 : w1.cell? ⟨PB, 6, none⟩ = some (.slice sa ln sc) := cell_of_blk HP.out rfl
  have hlt := cell_lt c6
  have hn : ln ≤ 1000000 := HL2.out
  go_upto_region 2 with (at_builtin; refine wpList_append_rowC rfl _ _ 111 rfl w1.heap.size 2 i1 _ 1 8 Try.underlying111 hi1 hy0 hy1 hy2 rfl (by omega) (.slice none 0 0) 0 [] rfl (World.ownsRow_nil _ _ _ _) (.slice sa ln sc) ln (flatC nC l) rfl HR.out HN.out (nC_one _) (by unfold maxLen; omega) (by omega) (Nat.le_refl _) ?_; intro v2 w2 hown hgrow; rw [Nat.zero_add] at hown; obtain ⟨ga, gc, rfl, _⟩ := owns_shape hown; have HM2 := Lib.hid (show More w1 w2 from hgrow); have HP2 := Lib.hid ((HM2.out.block (blk_lt HP.out)).trans HP.out); have z6 : w2.cell? ⟨PB, 6, none⟩ = some (.slice sa ln sc) := cell_of_blk HP2.out rfl; have f6 := thaw HP2.out 6; have hbz := cell_lt z6)
  have HOW := Lib.hid hown
  have HQ2 := Lib.hid ((HM2.out.block (blk_lt HQ.out)).trans HQ.out)
  have HP3 := Lib.hid (show (w2.setCell ⟨PB, 6, none⟩ (.slice ga ln gc)).heap[PB]? = some (.cells #[.int .u8 kd, .int .i64 a, .int .i64 b, .int .i64 n, .int .i64 t, .int .i64 d, .slice ga ln gc] 113) from setCell_heap HP2.out)
  have HQ3 := Lib.hid (show (w2.setCell ⟨PB, 6, none⟩ (.slice ga ln gc)).heap[QB]? = _ from (Below.heap_setCell _ _ _ _ (show QB ≠ PB by have := HQB.out; omega)).trans HQ2.out)
  have HO3 := Lib.hid (owns_keep (w' := w2.setCell ⟨PB, 6, none⟩ (.slice ga ln gc)) HOW.out (fun z hz => Below.heap_setCell _ _ _ _ (show z ≠ PB from by have := (HOW.out.lt z hz).1; have := blk_lt HP.out; omega)))
  have HB3 := Lib.hid (show Below PB w (w2.setCell ⟨PB, 6, none⟩ (.slice ga ln gc)) from by
    have h1 := (more_trans HM.out HM2.out).below
    rw [← HPB.out] at h1
    exact h1.setCell (p := ⟨PB, 6, none⟩) (Nat.le_refl _) _)
  have HS1 := Lib.hid (show QB < w1.heap.size from blk_lt HQ.out)
  clear hown hgrow z6 f6 hbz c6 hlt
  generalize w2.setCell ⟨PB, 6, none⟩ (.slice ga ln gc) = w3 at *
  have k0 : w3.cell? ⟨PB, 0, none⟩ = some (.int .u8 kd) := cell_of_blk HP3.out rfl
  have k1 : w3.cell? ⟨PB, 1, none⟩ = some (.int .i64 a) := cell_of_blk HP3.out rfl
  have k2 : w3.cell? ⟨PB, 2, none⟩ = some (.int .i64 b) := cell_of_blk HP3.out rfl
  have k3 : w3.cell? ⟨PB, 3, none⟩ = some (.int .i64 n) := cell_of_blk HP3.out rfl
  have k4 : w3.cell? ⟨PB, 4, none⟩ = some (.int .i64 t) := cell_of_blk HP3.out rfl
  have k5 : w3.cell? ⟨PB, 5, none⟩ = some (.int .i64 d) := cell_of_blk HP3.out rfl
  have k6 : w3.cell? ⟨PB, 6, none⟩ = some (.slice ga ln gc) := cell_of_blk HP3.out rfl
  have z0 : w3.cell? ⟨QB, 0, none⟩ = some (.int .u8 0) := cell_of_blk HQ3.out rfl
  have z1 : w3.cell? ⟨QB, 1, none⟩ = some (.int .i64 0) := cell_of_blk HQ3.out rfl
  have z2 : w3.cell? ⟨QB, 2, none⟩ = some (.int .i64 0) := cell_of_blk HQ3.out rfl
  have z3 : w3.cell? ⟨QB, 3, none⟩ = some (.int .i64 0) := cell_of_blk HQ3.out rfl
  have z4 : w3.cell? ⟨QB, 4, none⟩ = some (.int .i64 0) := cell_of_blk HQ3.out rfl
  have z5 : w3.cell? ⟨QB, 5, none⟩ = some (.int .i64 0) := cell_of_blk HQ3.out rfl
  have z6 : w3.cell? ⟨QB, 6, none⟩ = some (.slice none 0 0) := cell_of_blk HQ3.out rfl
  have f0 := thaw HQ3.out 0
  have f1 := thaw HQ3.out 1
  have f2 := thaw HQ3.out 2
  have f3 := thaw HQ3.out 3
  have f4 := thaw HQ3.out 4
  have f5 := thaw HQ3.out 5
  have f6 := thaw HQ3.out 6
  have hbk := cell_lt k0
  have hbz := cell_lt z0
  go_wp2_with fail
  generalize hw4 : (((((w3.setCell ⟨QB, 0, none⟩ (.int .u8 kd)).setCell ⟨QB, 1, none⟩ (.int .i64 a)).setCell ⟨QB, 2, none⟩ (.int .i64 b)).setCell ⟨QB, 3, none⟩ (.int .i64 n)).setCell ⟨QB, 4, none⟩ (.int .i64 t)).setCell ⟨QB, 5, none⟩ (.int .i64 d) = w3b
  generalize hw5 : w3b.setCell ⟨QB, 6, none⟩ (.slice ga ln gc) = w4
  obtain ⟨HQ4, HZ4, HB4⟩ := set7 HQ3.out (W := w4) (by rw [← hw5, ← hw4])
  clear hw4 hw5 k0 k1 k2 k3 k4 k5 k6 z0 z1 z2 z3 z4 z5 z6 f0 f1 f2 f3 f4 f5 f6 hbk hbz
  have c0 : w4.cell? ⟨QB, 0, none⟩ = some (.int .u8 kd) := cell_of_blk HQ4 rfl
  have c1 : w4.cell? ⟨QB, 1, none⟩ = some (.int .i64 a) := cell_of_blk HQ4 rfl
  have c2 : w4.cell? ⟨QB, 2, none⟩ = some (.int .i64 b) := cell_of_blk HQ4 rfl
  have c3 : w4.cell? ⟨QB, 3, none⟩ = some (.int .i64 n) := cell_of_blk HQ4 rfl
  have c4 : w4.cell? ⟨QB, 4, none⟩ = some (.int .i64 t) := cell_of_blk HQ4 rfl
  have c5 : w4.cell? ⟨QB, 5, none⟩ = some (.int .i64 d) := cell_of_blk HQ4 rfl
  have c6 : w4.cell? ⟨QB, 6, none⟩ = some (.slice ga ln gc) := cell_of_blk HQ4 rfl
  have HO4 := owns_keep (w' := w4) HO3.out (fun z hz => HZ4 z (by have h1 := (HOW.out.lt z hz).1; have h2 := HS1.out; omega))
  refine bodyPost_ret (v := .agg #[.int .u8 kd, .int .i64 a, .int .i64 b, .int .i64 n, .int .i64 t, .int .i64 d, .slice ga ln gc]) (by simp [results, Try.results100, go_sem, c0, c1, c2, c3, c4, c5, c6]) rfl ⟨⟨ga, gc, rfl, ?_, ?_⟩, ?_⟩
  · show Row _ w4 1 l.length _ _
    rw [HLN.out]
    exact (Row.of_owns HO4).mono (fun z hz => by have h1 : w1.heap.size ≤ z := hz; have h2 := HS1.out; have h3 := HQB.out; have h4 := HPB.out; omega) (fun _ _ _ _ h => h)
  · exact owns_nil HO4
  · rw [← HPB.out]
    exact HB4 _ _ HB3.out (by have := HQB.out; omega)
end Go.Proofs.Ytemeppfikpafbaa
