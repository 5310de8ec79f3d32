/- The reference: contains (73), Size (24), Joint (29); the law's degree (23). -/
import Derived.Test.YtemeppfikpafbaaGreatSortK
namespace Go.Proofs.YtemeppfikpafbaaGreat
open Go.RowKit
theorem fst_two {w : World} {o : Obj} {b i : Nat} {v : Value} (h : w.cell? ⟨b, i, none⟩ = some v) : (w.alloc o).cell? ⟨b, i, none⟩ = some v := alloc_cell o h
theorem sortK_len (l : List K4) : (sortS ltKb l).length = (nd l).length := sortS_len ltKb_iff ltK_irrefl (fun _ _ _ => ltK_trans) (fun _ _ => ltK_tri) l
theorem sortM_len (l : List M3) : (sortS ltMb l).length = (nd l).length := sortS_len ltMb_iff ltM_irrefl (fun _ _ _ => ltM_trans) (fun _ _ => ltM_tri) l
set_option maxRecDepth 100000 in
set_option maxHeartbeats 1000000 in
theorem size24_any (c : Cau) (vu vh : Value) (w : World) (hok : c.Ok) (hu : Row anyB w 4 c.undo.length vu (flatC kC c.undo)) (hh : Row anyB w 3 c.hold.length vh (flatC mC c.hold)) :
    Calls Tryz.prog 24 #[.agg #[vu, vh]] w fun e w' => e = .returned (.int .i64 c.size) ∧ More w w' := by
  obtain ⟨ua, uc, rfl, _⟩ := hu.shape
  obtain ⟨ha, hc, rfl, _⟩ := hh.shape
  have HSU := Lib.hid (sortK_len c.undo)
  have HSH := Lib.hid (sortM_len c.hold)
  have HSZ := Lib.hid (show (((nd c.undo).length : Int) + ((nd c.hold).length : Int)) = (c.size : Int) by unfold Cau.size; omega)
  have HLE := Lib.hid (Cau.size_le hok)
  have HU := Lib.hid (fun W (hW : More w W) => sortK_any anyB c.undo _ W (by have := hok.lu; omega) (hu.below hW.below))
  have HH := Lib.hid (fun W (hW : More w W) => sortM_any anyB c.hold _ W (by have := hok.lh; omega) (hh.below hW.below))
  rw [HSU.out] at HU
  rw [HSH.out] at HH
  have HNU := Lib.hid (nd_len c.undo)
  have HNH := Lib.hid (nd_len c.hold)
  have HLU := Lib.hid hok.lu
  have HLH := Lib.hid hok.lh
  clear hu hh hok
  go_enter Tryz.func24, Tryz.ntmps24
  go_wp2_with fail
  have HL := Lib.hid (Lay.alloc w (.cells #[.slice ua c.undo.length uc, .slice ha c.hold.length hc] 66)).1
  have HC := Lib.hid (alloc_last w (.cells #[.slice ua c.undo.length uc, .slice ha c.hold.length hc] 66))
  generalize w.alloc (.cells #[.slice ua c.undo.length uc, .slice ha c.hold.length hc] 66) = w1 at *
  have HK := Lib.hid (show ∀ W, More w1 W → W.cell? ⟨w.heap.size, 0, none⟩ = some (.slice ua c.undo.length uc) ∧ W.cell? ⟨w.heap.size, 1, none⟩ = some (.slice ha c.hold.length hc) from fun W h => ⟨h.cell (cell_of_blk HC.out rfl), h.cell (cell_of_blk HC.out rfl)⟩)
  have HM := Lib.hid (more_drew w1)
  obtain ⟨k0, k1⟩ := HK.out _ HM.out
  have hsum := HSZ.out
  have hb1 : ((nd c.undo).length : Int) ≤ 400 := by have := HNU.out; have := HLU.out; omega
  have hb2 : ((nd c.hold).length : Int) ≤ 400 := by have := HNH.out; have := HLH.out; omega
  go_region_held3 (fun W => W.cell? ⟨w.heap.size, 0, none⟩ = some (.slice ua c.undo.length uc) ∧ W.cell? ⟨w.heap.size, 1, none⟩ = some (.slice ha c.hold.length hc)) (exact HK.out _ HM.out)
    (first
      | (go_at_call 49; refine (HU.out _ (more_trans HL.out HM.out)).mono ?_; rintro e w3 ⟨v3, rfl, ho3, hb3⟩; have HM := Lib.hid (more_trans HM.out (more_of hb3)); obtain ⟨a3, c3, rfl, _⟩ := owns_shape ho3; clear ho3 hb3)
      | (go_at_call 50; refine (HH.out _ (more_trans HL.out HM.out)).mono ?_; rintro e w3 ⟨v3, rfl, ho3, hb3⟩; have HM := Lib.hid (more_trans HM.out (more_of hb3)); obtain ⟨a3, c3, rfl, _⟩ := owns_shape ho3; clear ho3 hb3))
  all_goals
    go_wp2_with fail
    go_ret
    exact ⟨by rw [show IntKind.i64.wrap (c.size : Int) = (c.size : Int) by rw [IntKind.wrap_i64]; have := HLE.out; omega]; rfl, more_trans HL.out HM.out⟩
set_option maxRecDepth 100000 in
theorem degree23_any (n : Nat) (w : World) (hn : n ≤ 1000000) : Calls Tryz.prog 19 #[.int .i64 n] w fun e w' => e = .returned (rA (degR n)) ∧ More w w' := by
  have hb := Lay.alloc w (.cells #[.int .i64 0, .int .i64 0] 61)
  have h1 := alloc_last w (.cells #[.int .i64 0, .int .i64 0] 61)
  have k0 : (w.alloc (.cells #[.int .i64 0, .int .i64 0] 61)).cell? ⟨w.heap.size, 0, none⟩ = some (.int .i64 0) := cell_of_blk h1 rfl
  have k1 : (w.alloc (.cells #[.int .i64 0, .int .i64 0] 61)).cell? ⟨w.heap.size, 1, none⟩ = some (.int .i64 0) := cell_of_blk h1 rfl
  by_cases h0 : n = 0
  · subst h0
    rw [show degR 0 = (0, 1) from rfl]
    clear h1 k0 k1
    go_enter Tryz.func19, Tryz.ntmps19
    go_wp2_with fail
    have h := alloc_last w (.cells #[.int .i64 0, .int .i64 1] 61)
    have c0 : (w.alloc (.cells #[.int .i64 0, .int .i64 1] 61)).cell? ⟨w.heap.size, 0, none⟩ = some (.int .i64 0) := cell_of_blk h rfl
    have c1 : (w.alloc (.cells #[.int .i64 0, .int .i64 1] 61)).cell? ⟨w.heap.size, 1, none⟩ = some (.int .i64 1) := cell_of_blk h rfl
    exact bodyPost_ret (v := .agg #[.int .i64 0, .int .i64 1]) (by simp [results, Tryz.results19, go_sem, c0, c1]) rfl ⟨rfl, (Lay.alloc _ _).1⟩
  · rw [show degR n = (1, (n : Int)) by unfold degR; rw [if_neg h0]]
    have t1 : ((n : Int) == 0) = false := by rw [beq_eq_false_iff_ne]; omega
    clear h1 k0 k1 h0
    go_enter Tryz.func19, Tryz.ntmps19
    go_wp2_with fail
    have h := alloc_last w (.cells #[.int .i64 1, .int .i64 n] 61)
    have c0 : (w.alloc (.cells #[.int .i64 1, .int .i64 n] 61)).cell? ⟨w.heap.size, 0, none⟩ = some (.int .i64 1) := cell_of_blk h rfl
    have c1 : (w.alloc (.cells #[.int .i64 1, .int .i64 n] 61)).cell? ⟨w.heap.size, 1, none⟩ = some (.int .i64 n) := cell_of_blk h rfl
    exact bodyPost_ret (v := .agg #[.int .i64 1, .int .i64 n]) (by simp [results, Tryz.results19, go_sem, c0, c1]) rfl ⟨rfl, (Lay.alloc _ _).1⟩
end Go.Proofs.YtemeppfikpafbaaGreat
