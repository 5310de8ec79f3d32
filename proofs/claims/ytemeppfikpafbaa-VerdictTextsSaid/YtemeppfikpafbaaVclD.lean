/- verdict.clone (133). -/
import Derived.Test.YtemeppfikpafbaaCauS
import Derived.Deep.RegionHeld3
namespace Go.Proofs.Ytemeppfikpafbaa
open Go.RowKit Go.Sort
set_option maxRecDepth 100000 in
set_option maxHeartbeats 4000000 in
theorem clone133_any (c : Cau) (cu ch : Value) (w : World) (hc : CauAt w c cu ch) :
    Calls Try.prog 133 #[.agg #[cu, ch]] w fun e w' => (∃ ua uc ha hc', e = .returned (.agg #[.slice ua c.undo.length uc, .slice ha c.hold.length hc']) ∧ CauS (fun b => w.heap.size ≤ b) w' c (.slice ua c.undo.length uc) (.slice ha c.hold.length hc')) ∧ Below w.heap.size w w' := by
  have HC0 := Lib.hid hc
  obtain ⟨cua, cuc, rfl, _⟩ := hc.ru.shape
  obtain ⟨cha, chc, rfl, _⟩ := hc.rh.shape
  have HCK0 := Lib.hid (fun W (hW : More w W) => cloneK_own c.undo _ W (by have := hc.lu; omega) (hc.more hW).ru hc.nu)
  have HCM0 := Lib.hid (fun W (hW : More w W) => cloneM_own c.hold _ W (by have := hc.lh; omega) (hc.more hW).rh hc.nh)
  have HLU := Lib.hid (And.intro hc.lu hc.lh)
  clear hc HC0
  generalize hX1 : flatC kC c.undo = X1 at *
  generalize hX2 : flatC mC c.hold = X2 at *
  have HX := Lib.hid (And.intro hX1 hX2)
  clear hX1 hX2
  generalize hn1 : c.undo.length = n1 at *
  generalize hn2 : c.hold.length = n2 at *
  have HN := Lib.hid (And.intro hn1 hn2)
  clear hn1 hn2
  go_enter Try.func133, Try.ntmps133
  go_upto_region 1 with (fail)
  obtain ⟨b1, b2, hm⟩ := boxed2 w (.cells #[.slice cua n1 cuc, .slice cha n2 chc] 30) (.cells #[.slice none 0 0, .slice none 0 0] 30)
  generalize (w.alloc (.cells #[.slice cua n1 cuc, .slice cha n2 chc] 30)).alloc (.cells #[.slice none 0 0, .slice none 0 0] 30) = w2 at *
  have HM2 := Lib.hid hm.1
  have HAB := Lib.hid b1
  have HRB := Lib.hid b2
  clear b1 b2 hm
  obtain ⟨RB, HRE⟩ : ∃ RB, Hid (RB = w.heap.size + 1) := ⟨_, Lib.hid rfl⟩
  rw [← HRE.out] at HRB ⊢
  obtain ⟨AB, HAE⟩ : ∃ AB, Hid (AB = w.heap.size) := ⟨_, Lib.hid rfl⟩
  rw [← HAE.out] at HAB ⊢
  have HCK := Lib.hid (fun W (hW : More w2 W) => HCK0.out W (more_trans HM2.out hW))
  have HCM := Lib.hid (fun W (hW : More w2 W) => HCM0.out W (more_trans HM2.out hW))
  have HK := Lib.hid (show ∀ W, More w2 W → (W.cell? ⟨AB, 0, none⟩ = some (.slice cua n1 cuc) ∧ W.cell? ⟨AB, 1, none⟩ = some (.slice cha n2 chc)) from fun W h => ⟨h.cell (cell_of_blk HAB.out rfl), h.cell (cell_of_blk HAB.out rfl)⟩)
  have HL := Lib.hid (more_drew w2)
  have HRBW := Lib.hid (show w.heap.size ≤ RB by rw [HRE.out]; omega)
  have HRBL := Lib.hid (blk_lt HRB.out)
  have HKR := Lib.hid (show ∀ W, More w2 W → W.cell? ⟨RB, 0, none⟩ = some (.slice none 0 0) ∧ W.cell? ⟨RB, 1, none⟩ = some (.slice none 0 0) ∧ W.frozen? ⟨RB, 0, none⟩ = false ∧ W.frozen? ⟨RB, 1, none⟩ = false from fun W h => by
    have hb := (h.block (blk_lt HRB.out)).trans HRB.out
    exact ⟨cell_of_blk hb rfl, cell_of_blk hb rfl, thaw hb 0, thaw hb 1⟩)
  have HAR := Lib.hid (show AB ≠ RB by rw [HRE.out, HAE.out]; omega)
  go_region_held3 (fun W => W.cell? ⟨AB, 0, none⟩ = some (.slice cua n1 cuc) ∧ W.cell? ⟨AB, 1, none⟩ = some (.slice cha n2 chc)) (first | with_reducible exact HK.out _ HL.out | with_reducible exact HKZ.out) (first | (go_at_call 80; refine (HCK.out _ HL.out).mono ?_; rintro e w6 ⟨⟨v6, rfl, ho6⟩, hb6⟩; have HNU := Lib.hid (owns_nil ho6); obtain ⟨ua, uc, rfl, HZU0⟩ := owns_shape ho6; have HZU := Lib.hid (fun z hz => Nat.le_trans HL.out.size (HZU0 z hz).1); have HRU := Lib.hid (owns_base ho6 (Nat.le_trans HM2.out.size HL.out.size)); have HL := Lib.hid (more_trans HL.out (more_of hb6)); clear ho6 hb6 HZU0) | (go_at_call 81; refine (HCM.out _ HL.out).mono ?_; rintro e w6 ⟨⟨v6, rfl, ho6⟩, hb6⟩; have HNH := Lib.hid (owns_nil ho6); obtain ⟨ha, hc, rfl, HZH0⟩ := owns_shape ho6; have HZH := Lib.hid (fun z hz => Nat.le_trans HL.out.size (HZH0 z hz).1); have HRU := Lib.hid (owns_keep HRU.out (fun z hz => hb6.block z ((owns_shape HRU.out).choose_spec.choose_spec.2 z hz).2)); have HRH := Lib.hid (owns_base ho6 (Nat.le_trans HM2.out.size HL.out.size)); have HL := Lib.hid (more_trans HL.out (more_of hb6)); obtain ⟨k0, k1, f0, f1⟩ := HKR.out _ HL.out; have HKZ := Lib.hid (And.intro ((World.cell?_of_block (Below.heap_setCell _ ⟨RB, 1, none⟩ (.slice ha n2 hc) AB HAR.out)).trans ((World.cell?_of_block (Below.heap_setCell _ ⟨RB, 0, none⟩ (.slice ua n1 uc) AB HAR.out)).trans (HK.out _ HL.out).1)) ((World.cell?_of_block (Below.heap_setCell _ ⟨RB, 1, none⟩ (.slice ha n2 hc) AB HAR.out)).trans ((World.cell?_of_block (Below.heap_setCell _ ⟨RB, 0, none⟩ (.slice ua n1 uc) AB HAR.out)).trans (HK.out _ HL.out).2))); clear ho6 hb6 HZH0))
  all_goals
    have HRB6 := Lib.hid ((HL.out.block (blk_lt HRB.out)).trans HRB.out)
    have HF := Lib.hid (setCell_heap (o := 1) (v := .slice ha n2 hc) (setCell_heap (o := 0) (v := .slice ua n1 uc) HRB6.out))
    have HU6 := Lib.hid (owns_keep (w' := (w6.setCell ⟨RB, 0, none⟩ (.slice ua n1 uc)).setCell ⟨RB, 1, none⟩ (.slice ha n2 hc)) HRU.out (fun z hz => by have hz1 := HZU.out z hz; have hz2 := HRBL.out; exact (Below.heap_setCell _ _ _ _ (show z ≠ RB by omega)).trans (Below.heap_setCell _ _ _ _ (show z ≠ RB by omega))))
    have HH6 := Lib.hid (owns_keep (w' := (w6.setCell ⟨RB, 0, none⟩ (.slice ua n1 uc)).setCell ⟨RB, 1, none⟩ (.slice ha n2 hc)) HRH.out (fun z hz => by have hz1 := HZH.out z hz; have hz2 := HRBL.out; exact (Below.heap_setCell _ _ _ _ (show z ≠ RB by omega)).trans (Below.heap_setCell _ _ _ _ (show z ≠ RB by omega))))
    have HB6 := Lib.hid (show Below w.heap.size w ((w6.setCell ⟨RB, 0, none⟩ (.slice ua n1 uc)).setCell ⟨RB, 1, none⟩ (.slice ha n2 hc)) from (((more_trans HM2.out HL.out).below).setCell (p := ⟨RB, 0, none⟩) HRBW.out _).setCell (p := ⟨RB, 1, none⟩) HRBW.out _)
    clear k0 k1 f0 f1
    generalize (w6.setCell ⟨RB, 0, none⟩ (.slice ua n1 uc)).setCell ⟨RB, 1, none⟩ (.slice ha n2 hc) = w9 at *
    go_wp2_with fail
    have c0 : w9.cell? ⟨RB, 0, none⟩ = some (.slice ua n1 uc) := cell_of_blk HF.out rfl
    have c1 : w9.cell? ⟨RB, 1, none⟩ = some (.slice ha n2 hc) := cell_of_blk HF.out rfl
    refine bodyPost_ret (v := .agg #[.slice ua n1 uc, .slice ha n2 hc]) (by simp [results, Try.results133, go_sem, c0, c1]) rfl ⟨⟨ua, uc, ha, hc, rfl, ?_⟩, HB6.out⟩
    exact ⟨by rw [HN.out.1, HX.out.1]; exact Row.of_owns HU6.out, by rw [HN.out.2, HX.out.2]; exact Row.of_owns HH6.out, HNU.out, HNH.out, by rw [HN.out.1]; exact HLU.out.1, by rw [HN.out.2]; exact HLU.out.2⟩
end Go.Proofs.Ytemeppfikpafbaa
