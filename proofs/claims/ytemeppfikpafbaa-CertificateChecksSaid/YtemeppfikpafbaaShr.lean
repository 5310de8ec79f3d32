/- Shares: the comparison of rank.Degrees (67). -/
import Derived.Test.YtemeppfikpafbaaRCmp
import Derived.Test.YtemeppfikpafbaaRankQ
import Derived.Test.YtemeppfikpafbaaSortF
namespace Go.Proofs.Ytemeppfikpafbaa
open Go.RowKit Go.Sort Go.Shelf
def sC (x : Shr) : List Value := [.int .u8 x.1.kind, .int .i64 x.1.a, .int .i64 x.1.b, .int .i64 x.1.n, .int .i64 (degR x.2.val).1, .int .i64 (degR x.2.val).2]
theorem sC_len (x : Shr) : (sC x).length = 6 := rfl
theorem sC_one (x : Shr) : ∀ v ∈ sC x, v.oneCell' = true := by intro v hv; simp [sC] at hv; rcases hv with rfl | rfl | rfl | rfl | rfl | rfl <;> rfl
/-- Two boxes of shares. -/
structure SBox (w : World) (b : Nat) (k : K4) (p q : Int) : Prop where
  c0 : w.cell? ⟨b, 0, none⟩ = some (.int .u8 k.kind)
  c1 : w.cell? ⟨b, 1, none⟩ = some (.int .i64 k.a)
  c2 : w.cell? ⟨b, 2, none⟩ = some (.int .i64 k.b)
  c3 : w.cell? ⟨b, 3, none⟩ = some (.int .i64 k.n)
  c4 : w.cell? ⟨b, 4, none⟩ = some (.int .i64 p)
  c5 : w.cell? ⟨b, 5, none⟩ = some (.int .i64 q)
theorem SBox.lay {w w' : World} {b : Nat} {k : K4} {p q : Int} (h : SBox w b k p q) (hl : Lay w w') : SBox w' b k p q := ⟨hl.1.cell h.c0, hl.1.cell h.c1, hl.1.cell h.c2, hl.1.cell h.c3, hl.1.cell h.c4, hl.1.cell h.c5⟩
set_option maxRecDepth 100000 in
set_option maxHeartbeats 2000000 in
theorem cmpShare_any : CmpSaid 67 sC cfS := by
  intro x y w
  have HC := Lib.hid (fun w => cmpR_any (degR y.2.val) (degR x.2.val) w (degR_ok (by have := y.2.isLt; omega)) (degR_ok (by have := x.2.isLt; omega)))
  have HD := Lib.hid (fun w => compareKeys_any x.1 y.1 w)
  have HO := Lib.hid (show orI [cmpR (degR y.2.val) (degR x.2.val), sgnK x.1 y.1] = cfS x y from rfl)
  unfold sC rA kA at *
  generalize cmpR (degR y.2.val) (degR x.2.val) = c1 at *
  generalize sgnK x.1 y.1 = c2 at *
  generalize cfS x y = c at *
  generalize (degR x.2.val).1 = p at *
  generalize (degR x.2.val).2 = q at *
  generalize (degR y.2.val).1 = p' at *
  generalize (degR y.2.val).2 = q' at *
  generalize x.1 = k at *
  generalize y.1 = k' at *
  clear x y
  go_enter Try.func67, Try.ntmps67
  go_wp2_with fail
  obtain ⟨h1, h2, hm⟩ := boxed2 w (.cells #[.int .u8 k.kind, .int .i64 k.a, .int .i64 k.b, .int .i64 k.n, .int .i64 p, .int .i64 q] 50) (.cells #[.int .u8 k'.kind, .int .i64 k'.a, .int .i64 k'.b, .int .i64 k'.n, .int .i64 p', .int .i64 q'] 50)
  generalize (w.alloc (.cells #[.int .u8 k.kind, .int .i64 k.a, .int .i64 k.b, .int .i64 k.n, .int .i64 p, .int .i64 q] 50)).alloc (.cells #[.int .u8 k'.kind, .int .i64 k'.a, .int .i64 k'.b, .int .i64 k'.n, .int .i64 p', .int .i64 q'] 50) = w2 at *
  have HA := Lib.hid (show SBox w2 w.heap.size k p q from ⟨cell_of_blk h1 rfl, cell_of_blk h1 rfl, cell_of_blk h1 rfl, cell_of_blk h1 rfl, cell_of_blk h1 rfl, cell_of_blk h1 rfl⟩)
  have HB := Lib.hid (show SBox w2 (w.heap.size + 1) k' p' q' from ⟨cell_of_blk h2 rfl, cell_of_blk h2 rfl, cell_of_blk h2 rfl, cell_of_blk h2 rfl, cell_of_blk h2 rfl, cell_of_blk h2 rfl⟩)
  have HM := Lib.hid (hm.trans (Lay.drew w2))
  have HL := Lib.hid (Lay.drew w2)
  clear h1 h2 hm
  obtain ⟨a0, a1, a2, a3, a4, a5⟩ := HA.out
  obtain ⟨b0, b1, b2, b3, b4, b5⟩ := HB.out
  have HK := Lib.hid (show ∀ W, Lay w2 W → W.cell? ⟨w.heap.size, 0, none⟩ = some (.int .u8 k.kind) ∧ W.cell? ⟨w.heap.size, 1, none⟩ = some (.int .i64 k.a) ∧ W.cell? ⟨w.heap.size, 2, none⟩ = some (.int .i64 k.b) ∧ W.cell? ⟨w.heap.size, 3, none⟩ = some (.int .i64 k.n) ∧ W.cell? ⟨w.heap.size, 4, none⟩ = some (.int .i64 p) ∧ W.cell? ⟨w.heap.size, 5, none⟩ = some (.int .i64 q)
    ∧ W.cell? ⟨w.heap.size + 1, 0, none⟩ = some (.int .u8 k'.kind) ∧ W.cell? ⟨w.heap.size + 1, 1, none⟩ = some (.int .i64 k'.a) ∧ W.cell? ⟨w.heap.size + 1, 2, none⟩ = some (.int .i64 k'.b) ∧ W.cell? ⟨w.heap.size + 1, 3, none⟩ = some (.int .i64 k'.n) ∧ W.cell? ⟨w.heap.size + 1, 4, none⟩ = some (.int .i64 p') ∧ W.cell? ⟨w.heap.size + 1, 5, none⟩ = some (.int .i64 q') from fun W hl => by
      obtain ⟨a0, a1, a2, a3, a4, a5⟩ := HA.out.lay hl
      obtain ⟨b0, b1, b2, b3, b4, b5⟩ := HB.out.lay hl
      exact ⟨a0, a1, a2, a3, a4, a5, b0, b1, b2, b3, b4, b5⟩)
  clear a0 a1 a2 a3 a4 a5 b0 b1 b2 b3 b4 b5
  go_region_held3 (fun W => W.cell? ⟨w.heap.size, 0, none⟩ = some (.int .u8 k.kind) ∧ W.cell? ⟨w.heap.size, 1, none⟩ = some (.int .i64 k.a) ∧ W.cell? ⟨w.heap.size, 2, none⟩ = some (.int .i64 k.b) ∧ W.cell? ⟨w.heap.size, 3, none⟩ = some (.int .i64 k.n) ∧ W.cell? ⟨w.heap.size, 4, none⟩ = some (.int .i64 p) ∧ W.cell? ⟨w.heap.size, 5, none⟩ = some (.int .i64 q)
    ∧ W.cell? ⟨w.heap.size + 1, 0, none⟩ = some (.int .u8 k'.kind) ∧ W.cell? ⟨w.heap.size + 1, 1, none⟩ = some (.int .i64 k'.a) ∧ W.cell? ⟨w.heap.size + 1, 2, none⟩ = some (.int .i64 k'.b) ∧ W.cell? ⟨w.heap.size + 1, 3, none⟩ = some (.int .i64 k'.n) ∧ W.cell? ⟨w.heap.size + 1, 4, none⟩ = some (.int .i64 p') ∧ W.cell? ⟨w.heap.size + 1, 5, none⟩ = some (.int .i64 q'))
    (first | (with_reducible exact HK.out _ HL.out) | (with_reducible exact HK.out _ (HL.out.trans (Lay.alloc _ _))))
    (first
      | (go_at_call 30; refine (HC.out _).mono ?_; rintro e w3 ⟨rfl, hl⟩; have HM := Lib.hid (HM.out.trans hl); have HL := Lib.hid (HL.out.trans hl); clear hl)
      | (go_at_call 69; refine (HD.out _).mono ?_; rintro e w3 ⟨rfl, hl⟩; have HM := Lib.hid (HM.out.trans hl); have HL := Lib.hid (HL.out.trans hl); clear hl)
      | (go_at_call 68; refine (or_any (fun _ => True) [c1, c2] _ _ (show 2 ≤ 1000000 by decide) (row_lit trivial rfl)).mono ?_; rintro e w3 ⟨rfl, hw3⟩; subst hw3))
  all_goals
    rw [HO.out]
    go_wp2_with fail
    go_ret
    exact ⟨rfl, HM.out.trans (Lay.alloc _ _)⟩
end Go.Proofs.Ytemeppfikpafbaa
