/- Combine's second closure (140); slices.SortFunc (139, 184) of at most 12 causes with a status, as verdict.Combine calls it. -/
import Derived.Test.YtemeppfikpafbaaVclC
import Derived.Test.YtemeppfikpafbaaInsT
import Derived.Deep.RegionHeld3
namespace Go.Proofs.Ytemeppfikpafbaa
open Go.RowKit Go.Sort Go.Shelf
def cfT (x y : Tld) : Int := orI [cmpI x.s y.s, cmpI y.i x.i, sgnC x.c y.c]
def TldAt (w : World) (x : Tld) : Prop := CauAt w x.c (.slice x.ua x.un x.uc) (.slice x.ha x.hn x.hc)
set_option maxRecDepth 100000 in
set_option maxHeartbeats 8000000 in
theorem combine140_any (x y : Tld) (CP PB : Nat) (w : World) (hx : TldAt w x) (hy : TldAt w y) (hp : w.heap[PB]? = some (.cells #[.func (.func 135) #[] #[]] 157)) (hcp : w.heap[CP]? = some (.cells #[.func (.func 182) #[] #[.pointer (some ⟨PB, 0, none⟩)]] 215)) :
    Calls Try.prog 140 #[.agg #[.slice x.ua x.un x.uc, .slice x.ha x.hn x.hc, .int .u8 x.s, .int .i64 x.i, .int .i64 x.o], .agg #[.slice y.ua y.un y.uc, .slice y.ha y.hn y.hc, .int .u8 y.s, .int .i64 y.i, .int .i64 y.o], .pointer (some ⟨CP, 0, none⟩)] w fun e w' => e = .returned (.int .i64 (cfT x y)) ∧ More w w' := by
  have H1 := Lib.hid (fun W (hW : More w W) => compare182_any x.c y.c _ _ _ _ PB W (CauAt.more hx hW) (CauAt.more hy hW) ((hW.block (blk_lt hp)).trans hp))
  have HCP := Lib.hid hcp
  have HE := Lib.hid (show cfT x y = orI [cmpI x.s y.s, cmpI y.i x.i, sgnC x.c y.c] from rfl)
  rw [HE.out]
  clear hx hy hp hcp HE
  generalize sgnC x.c y.c = r at *
  obtain ⟨xc, xua, xun, xuc, xha, xhn, xhc, xs, xi, xo⟩ := x
  obtain ⟨yc, yua, yun, yuc, yha, yhn, yhc, ys, yi, yo⟩ := y
  dsimp only at *
  clear xc yc
  have HOR := Lib.hid (show ∀ (w : World) (ty : TypeId), Calls Try.prog 68 #[.slice (some ⟨w.heap.size, 0, none⟩) 3 3] (w.alloc (.cells #[.int .i64 (cmpI xs ys), .int .i64 (cmpI yi xi), .int .i64 r] ty)) fun e w' => e = .returned (.int .i64 (orI [cmpI xs ys, cmpI yi xi, r])) ∧ w' = w.alloc (.cells #[.int .i64 (cmpI xs ys), .int .i64 (cmpI yi xi), .int .i64 r] ty) from fun w ty => or_any (fun _ => True) [cmpI xs ys, cmpI yi xi, r] _ _ (show 3 ≤ 1000000 by decide) (row_lit trivial rfl))
  have HCS := Lib.hid (fun W => cmpS_any xs ys W)
  have HCI := Lib.hid (fun W => cmpN_any yi xi W)
  generalize orI [cmpI xs ys, cmpI yi xi, r] = z at *
  generalize cmpI xs ys = z1 at *
  generalize cmpI yi xi = z2 at *
  go_enter Try.func140, Try.ntmps140
  go_upto_region 1 with (fail)
  obtain ⟨b1, b2, hm⟩ := boxed2 w (.cells #[.slice xua xun xuc, .slice xha xhn xhc, .int .u8 xs, .int .i64 xi, .int .i64 xo] 159) (.cells #[.slice yua yun yuc, .slice yha yhn yhc, .int .u8 ys, .int .i64 yi, .int .i64 yo] 159)
  generalize (w.alloc (.cells #[.slice xua xun xuc, .slice xha xhn xhc, .int .u8 xs, .int .i64 xi, .int .i64 xo] 159)).alloc (.cells #[.slice yua yun yuc, .slice yha yhn yhc, .int .u8 ys, .int .i64 yi, .int .i64 yo] 159) = w2 at *
  have HM2 := Lib.hid hm.1
  have HAB := Lib.hid b1
  have HBB := Lib.hid b2
  have HCP2 := Lib.hid ((hm.1.block (blk_lt HCP.out)).trans HCP.out)
  clear b1 b2 hm
  obtain ⟨BB, HBE⟩ : ∃ BB, Hid (BB = w.heap.size + 1) := ⟨_, Lib.hid rfl⟩
  rw [← HBE.out] at HBB ⊢
  obtain ⟨AB, HAE⟩ : ∃ AB, Hid (AB = w.heap.size) := ⟨_, Lib.hid rfl⟩
  rw [← HAE.out] at HAB ⊢
  have HCC := Lib.hid (fun W (hW : More w2 W) => H1.out W (more_trans HM2.out hW))
  have HK := Lib.hid (show ∀ W, More w2 W → (W.cell? ⟨AB, 2, none⟩ = some (.int .u8 xs) ∧ W.cell? ⟨BB, 2, none⟩ = some (.int .u8 ys) ∧ W.cell? ⟨AB, 3, none⟩ = some (.int .i64 xi) ∧ W.cell? ⟨BB, 3, none⟩ = some (.int .i64 yi) ∧ W.cell? ⟨AB, 0, none⟩ = some (.slice xua xun xuc) ∧ W.cell? ⟨AB, 1, none⟩ = some (.slice xha xhn xhc) ∧ W.cell? ⟨BB, 0, none⟩ = some (.slice yua yun yuc) ∧ W.cell? ⟨BB, 1, none⟩ = some (.slice yha yhn yhc) ∧ W.cell? ⟨CP, 0, none⟩ = some (.func (.func 182) #[] #[.pointer (some ⟨PB, 0, none⟩)])) from fun W h => ⟨h.cell (cell_of_blk HAB.out rfl), h.cell (cell_of_blk HBB.out rfl), h.cell (cell_of_blk HAB.out rfl), h.cell (cell_of_blk HBB.out rfl), h.cell (cell_of_blk HAB.out rfl), h.cell (cell_of_blk HAB.out rfl), h.cell (cell_of_blk HBB.out rfl), h.cell (cell_of_blk HBB.out rfl), h.cell (cell_of_blk HCP2.out rfl)⟩)
  have HL := Lib.hid (more_drew w2)
  go_region_held3 (fun W => W.cell? ⟨AB, 2, none⟩ = some (.int .u8 xs) ∧ W.cell? ⟨BB, 2, none⟩ = some (.int .u8 ys) ∧ W.cell? ⟨AB, 3, none⟩ = some (.int .i64 xi) ∧ W.cell? ⟨BB, 3, none⟩ = some (.int .i64 yi) ∧ W.cell? ⟨AB, 0, none⟩ = some (.slice xua xun xuc) ∧ W.cell? ⟨AB, 1, none⟩ = some (.slice xha xhn xhc) ∧ W.cell? ⟨BB, 0, none⟩ = some (.slice yua yun yuc) ∧ W.cell? ⟨BB, 1, none⟩ = some (.slice yha yhn yhc) ∧ W.cell? ⟨CP, 0, none⟩ = some (.func (.func 182) #[] #[.pointer (some ⟨PB, 0, none⟩)])) (first | with_reducible exact HK.out _ HL.out | with_reducible exact HK.out _ (more_trans HL.out (more_alloc _ _))) (first | (go_at_call 141; refine (HCS.out _).mono ?_; rintro e w6 ⟨rfl, hw6⟩; rw [hw6]; clear hw6 w6) | (go_at_call 123; refine (HCI.out _).mono ?_; rintro e w6 ⟨rfl, hw6⟩; rw [hw6]; clear hw6 w6) | (go_at_call 182; refine (HCC.out _ HL.out).mono ?_; rintro e w6 ⟨rfl, hm6⟩; have HL := Lib.hid (more_trans HL.out hm6); clear hm6) | (go_at_call 68; refine (HOR.out _ _).mono ?_; rintro e w6 ⟨rfl, hw6⟩; rw [hw6]; clear hw6 w6))
  all_goals
    go_wp2_with fail
    go_ret
    exact ⟨rfl, more_trans HM2.out (more_trans HL.out (more_alloc _ _))⟩
end Go.Proofs.Ytemeppfikpafbaa
