/- cause.compareCause (142), Less (135), Equal (90). -/
import Derived.Test.YtemeppfikpafbaaGreatCmpC
import Derived.Test.YtemeppfikpafbaaGreatDegree
import Derived.Deep.DeepCutAuto
import Derived.Deep.RegionHeld3
namespace Go.Proofs.YtemeppfikpafbaaGreat
open Go.RowKit Go.Sort
/-- The order of causes. -/
def cmpCau (c d : Cau) : Int := if cmpL sgnK (srtSK c.undo) (srtSK d.undo) = 0 then cmpL sgnM (srtSM c.hold) (srtSM d.hold) else cmpL sgnK (srtSK c.undo) (srtSK d.undo)
/-- A cause in memory. -/
structure CauAt (w : World) (c : Cau) (u h : Value) : Prop where
  ru : Row anyB w 4 c.undo.length u (flatC kC c.undo)
  rh : Row anyB w 3 c.hold.length h (flatC mC c.hold)
  nu : NilA u
  nh : NilA h
  lu : c.undo.length ≤ 12
  lh : c.hold.length ≤ 12
theorem CauAt.more {w w' : World} {c : Cau} {u h : Value} (k : CauAt w c u h) (hm : More w w') : CauAt w' c u h := ⟨k.ru.below hm.below, k.rh.below hm.below, k.nu, k.nh, k.lu, k.lh⟩
set_option maxRecDepth 100000 in
set_option maxHeartbeats 8000000 in
theorem compareCause_any (c d : Cau) (cu ch du dh : Value) (w : World) (hc : CauAt w c cu ch) (hd : CauAt w d du dh) :
    Calls Tryz.prog 25 #[.agg #[cu, ch], .agg #[du, dh]] w fun e w' => e = .returned (.int .i64 (cmpCau c d)) ∧ More w w' := by
  obtain ⟨cua, cuc, rfl, _⟩ := hc.ru.shape
  obtain ⟨cha, chc, rfl, _⟩ := hc.rh.shape
  obtain ⟨dua, duc, rfl, _⟩ := hd.ru.shape
  obtain ⟨dha, dhc, rfl, _⟩ := hd.rh.shape
  have HC := Lib.hid hc; clear hc
  have HD := Lib.hid hd; clear hd
  have HE := Lib.hid (show cmpCau c d = if cmpL sgnK (srtSK c.undo) (srtSK d.undo) = 0 then cmpL sgnM (srtSM c.hold) (srtSM d.hold) else cmpL sgnK (srtSK c.undo) (srtSK d.undo) from rfl)
  rw [HE.out]
  clear HE
  have HSA0 := Lib.hid (fun W (hW : More w W) => sortedK_any c.undo _ W HC.out.lu (HC.out.more hW).ru HC.out.nu)
  have HSB0 := Lib.hid (fun W (hW : More w W) => sortedK_any d.undo _ W HD.out.lu (HD.out.more hW).ru HD.out.nu)
  have HSC0 := Lib.hid (fun W (hW : More w W) => sortedM_any c.hold _ W HC.out.lh (HC.out.more hW).rh HC.out.nh)
  have HSD0 := Lib.hid (fun W (hW : More w W) => sortedM_any d.hold _ W HD.out.lh (HD.out.more hW).rh HD.out.nh)
  have HCK := Lib.hid (fun v u W (h1 : Row anyB W 4 c.undo.length v (flatC kC (srtSK c.undo))) (h2 : Row anyB W 4 d.undo.length u (flatC kC (srtSK d.undo))) => compareListK_any (srtSK c.undo) (srtSK d.undo) v u W (by rw [srtSK_len]; have := HC.out.lu; omega) (by rw [srtSK_len]; have := HD.out.lu; omega) (by rw [srtSK_len]; exact h1) (by rw [srtSK_len]; exact h2))
  have HCM := Lib.hid (fun v u W (h1 : Row anyB W 3 c.hold.length v (flatC mC (srtSM c.hold))) (h2 : Row anyB W 3 d.hold.length u (flatC mC (srtSM d.hold))) => compareListM_any (srtSM c.hold) (srtSM d.hold) v u W (by rw [srtSM_len]; have := HC.out.lh; omega) (by rw [srtSM_len]; have := HD.out.lh; omega) (by rw [srtSM_len]; exact h1) (by rw [srtSM_len]; exact h2))
  generalize cmpL sgnK (srtSK c.undo) (srtSK d.undo) = r1 at *
  generalize cmpL sgnM (srtSM c.hold) (srtSM d.hold) = r2 at *
  clear HC HD
  generalize flatC kC (srtSK c.undo) = X1 at *
  generalize flatC kC (srtSK d.undo) = X2 at *
  generalize flatC mC (srtSM c.hold) = X3 at *
  generalize flatC mC (srtSM d.hold) = X4 at *
  generalize c.undo.length = n1 at *
  generalize c.hold.length = n2 at *
  generalize d.undo.length = n3 at *
  generalize d.hold.length = n4 at *
  go_enter Tryz.func25, Tryz.ntmps25
  go_upto_region 1 with (fail)
  obtain ⟨b1, b2, hm⟩ := boxed2 w (.cells #[.slice cua n1 cuc, .slice cha n2 chc] 34) (.cells #[.slice dua n3 duc, .slice dha n4 dhc] 34)
  have HAB := Lib.hid b1
  have HBB := Lib.hid b2
  have HM2 := Lib.hid hm.1
  clear b1 b2 hm
  obtain ⟨BB, HBE⟩ : ∃ BB, Hid (BB = w.heap.size + 1) := ⟨_, Lib.hid rfl⟩
  rw [← HBE.out] at HBB ⊢
  obtain ⟨AB, HAE⟩ : ∃ AB, Hid (AB = w.heap.size) := ⟨_, Lib.hid rfl⟩
  rw [← HAE.out] at HAB ⊢
  generalize (w.alloc (.cells #[.slice cua n1 cuc, .slice cha n2 chc] 34)).alloc (.cells #[.slice dua n3 duc, .slice dha n4 dhc] 34) = w2 at *
  go_cut [5] (fun t wx => t = .int .i64 r1 ∧ Hid (More w2 wx))
  case first =>
    have HSA := Lib.hid (fun W (hW : More w2 W) => HSA0.out W (more_trans HM2.out hW))
    have HSB := Lib.hid (fun W (hW : More w2 W) => HSB0.out W (more_trans HM2.out hW))
    have HCL := HCK
    have HK := Lib.hid (show ∀ W, More w2 W → (W.cell? ⟨AB, 0, none⟩ = some (.slice cua n1 cuc) ∧ W.cell? ⟨BB, 0, none⟩ = some (.slice dua n3 duc)) from fun W h => ⟨h.cell (cell_of_blk HAB.out rfl), h.cell (cell_of_blk HBB.out rfl)⟩)
    have HL := Lib.hid (more_drew w2)
    have HNA := trivial
    go_region_held3 (fun W => W.cell? ⟨AB, 0, none⟩ = some (.slice cua n1 cuc) ∧ W.cell? ⟨BB, 0, none⟩ = some (.slice dua n3 duc)) (first | with_reducible exact HK.out _ HL.out) (first | (go_at_call 52; refine (keys187_any _).mono ?_; rintro e w6 ⟨rfl, hl6⟩; (try have HRA := Lib.hid (HRA.out.below hl6.1.below)); (try have HRB := Lib.hid (HRB.out.below hl6.1.below)); have HL := Lib.hid (more_trans HL.out hl6.1); clear hl6) | (go_at_call 53; clear HNA; refine (HSA.out _ HL.out).mono ?_; rintro e w6 ⟨⟨v6, rfl, hr6⟩, hm6⟩; obtain ⟨sa, sc, rfl, _⟩ := hr6.shape; have HRA := Lib.hid (hr6.mono (S' := anyB) (fun _ _ => trivial) (fun _ _ _ _ h => h)); have HL := Lib.hid (more_trans HL.out hm6); clear hr6 hm6) | (go_at_call 53; refine (HSB.out _ HL.out).mono ?_; rintro e w6 ⟨⟨v6, rfl, hr6⟩, hm6⟩; obtain ⟨ta, tc, rfl, _⟩ := hr6.shape; have HRB := Lib.hid (hr6.mono (S' := anyB) (fun _ _ => trivial) (fun _ _ _ _ h => h)); (try have HRA := Lib.hid (HRA.out.below hm6.below)); have HL := Lib.hid (more_trans HL.out hm6); clear hr6 hm6) | (go_at_call 51; refine (HCL.out _ _ _ HRA.out HRB.out).mono ?_; rintro e w6 ⟨rfl, hm6⟩; have HL := Lib.hid (more_trans HL.out hm6); clear hm6))
    all_goals (go_wp2_with fail; go_meet; exact ⟨rfl, HL⟩)
  case rest =>
    obtain ⟨rfl, HM3⟩ := hcut
    obtain ⟨w3, rfl⟩ : ∃ w3 : World, w3 = wc := ⟨_, rfl⟩
    by_cases hz : r1 = 0
    · subst hz
      have HSA := Lib.hid (fun W (hW : More w3 W) => HSC0.out W (more_trans HM2.out (more_trans HM3.out hW)))
      have HSB := Lib.hid (fun W (hW : More w3 W) => HSD0.out W (more_trans HM2.out (more_trans HM3.out hW)))
      have HCL := HCM
      have HK := Lib.hid (show ∀ W, More w3 W → (W.cell? ⟨AB, 1, none⟩ = some (.slice cha n2 chc) ∧ W.cell? ⟨BB, 1, none⟩ = some (.slice dha n4 dhc)) from fun W h => ⟨(more_trans HM3.out h).cell (cell_of_blk HAB.out rfl), (more_trans HM3.out h).cell (cell_of_blk HBB.out rfl)⟩)
      have HL := Lib.hid (more_drew w3)
      have HNA := trivial
      go_upto_region 4 with (fail)
      go_region_held3 (fun W => W.cell? ⟨AB, 1, none⟩ = some (.slice cha n2 chc) ∧ W.cell? ⟨BB, 1, none⟩ = some (.slice dha n4 dhc)) (first | with_reducible exact HK.out _ HL.out) (first | (go_at_call 56; refine (messages191_any _).mono ?_; rintro e w6 ⟨rfl, hl6⟩; (try have HRA := Lib.hid (HRA.out.below hl6.1.below)); (try have HRB := Lib.hid (HRB.out.below hl6.1.below)); have HL := Lib.hid (more_trans HL.out hl6.1); clear hl6) | (go_at_call 57; clear HNA; refine (HSA.out _ HL.out).mono ?_; rintro e w6 ⟨⟨v6, rfl, hr6⟩, hm6⟩; obtain ⟨sa, sc, rfl, _⟩ := hr6.shape; have HRA := Lib.hid (hr6.mono (S' := anyB) (fun _ _ => trivial) (fun _ _ _ _ h => h)); have HL := Lib.hid (more_trans HL.out hm6); clear hr6 hm6) | (go_at_call 57; refine (HSB.out _ HL.out).mono ?_; rintro e w6 ⟨⟨v6, rfl, hr6⟩, hm6⟩; obtain ⟨ta, tc, rfl, _⟩ := hr6.shape; have HRB := Lib.hid (hr6.mono (S' := anyB) (fun _ _ => trivial) (fun _ _ _ _ h => h)); (try have HRA := Lib.hid (HRA.out.below hm6.below)); have HL := Lib.hid (more_trans HL.out hm6); clear hr6 hm6) | (go_at_call 55; refine (HCL.out _ _ _ HRA.out HRB.out).mono ?_; rintro e w6 ⟨rfl, hm6⟩; have HL := Lib.hid (more_trans HL.out hm6); clear hm6))
      all_goals (go_wp2_with fail; go_ret; exact ⟨by simp, more_trans HM2.out (more_trans HM3.out HL.out)⟩)
    · have hzb : (r1 == 0) = false := by simpa using hz
      go_wp2_with fail
      go_ret
      exact ⟨rfl, more_trans HM2.out HM3.out⟩
set_option maxRecDepth 100000 in
set_option maxHeartbeats 2000000 in
theorem lessCause_any (c d : Cau) (cu ch du dh : Value) (w : World) (hc : CauAt w c cu ch) (hd : CauAt w d du dh) :
    Calls Tryz.prog 27 #[.agg #[cu, ch], .agg #[du, dh]] w fun e w' => e = .returned (.bool (decide (cmpCau c d < 0))) ∧ More w w' := by
  have HCC := Lib.hid (fun W (hW : More w W) => compareCause_any c d cu ch du dh W (hc.more hW) (hd.more hW))
  obtain ⟨cua, cuc, rfl, _⟩ := hc.ru.shape
  obtain ⟨cha, chc, rfl, _⟩ := hc.rh.shape
  obtain ⟨dua, duc, rfl, _⟩ := hd.ru.shape
  obtain ⟨dha, dhc, rfl, _⟩ := hd.rh.shape
  clear hc hd
  generalize cmpCau c d = z at *
  generalize c.undo.length = n1 at *
  generalize c.hold.length = n2 at *
  generalize d.undo.length = n3 at *
  generalize d.hold.length = n4 at *
  go_enter Tryz.func27, Tryz.ntmps27
  go_upto_region 1 with (fail)
  obtain ⟨b1, b2, hm⟩ := boxed2 w (.cells #[.slice cua n1 cuc, .slice cha n2 chc] 34) (.cells #[.slice dua n3 duc, .slice dha n4 dhc] 34)
  generalize (w.alloc (.cells #[.slice cua n1 cuc, .slice cha n2 chc] 34)).alloc (.cells #[.slice dua n3 duc, .slice dha n4 dhc] 34) = w2 at *
  have HM2 := Lib.hid hm.1
  have a0 : w2.cell? ⟨w.heap.size, 0, none⟩ = some (.slice cua n1 cuc) := cell_of_blk b1 rfl
  have a1 : w2.cell? ⟨w.heap.size, 1, none⟩ = some (.slice cha n2 chc) := cell_of_blk b1 rfl
  have c0 : w2.cell? ⟨w.heap.size + 1, 0, none⟩ = some (.slice dua n3 duc) := cell_of_blk b2 rfl
  have c1 : w2.cell? ⟨w.heap.size + 1, 1, none⟩ = some (.slice dha n4 dhc) := cell_of_blk b2 rfl
  have ha := cell_lt a0
  have hb := cell_lt c0
  clear b1 b2 hm
  go_wp2_with fail
  refine (HCC.out _ HM2.out).mono ?_
  rintro e w3 ⟨rfl, hm3⟩
  have HM3 := Lib.hid (more_trans HM2.out hm3)
  clear hm3 a0 a1 c0 c1 ha hb
  go_wp2_with fail
  go_ret
  exact ⟨rfl, HM3.out⟩
set_option maxRecDepth 100000 in
set_option maxHeartbeats 2000000 in
theorem equalCause_any (c d : Cau) (cu ch du dh : Value) (w : World) (hc : CauAt w c cu ch) (hd : CauAt w d du dh) :
    Calls Tryz.prog 10 #[.agg #[cu, ch], .agg #[du, dh]] w fun e w' => e = .returned (.bool (decide (cmpCau c d = 0))) ∧ More w w' := by
  have HCC := Lib.hid (fun W (hW : More w W) => compareCause_any c d cu ch du dh W (hc.more hW) (hd.more hW))
  obtain ⟨cua, cuc, rfl, _⟩ := hc.ru.shape
  obtain ⟨cha, chc, rfl, _⟩ := hc.rh.shape
  obtain ⟨dua, duc, rfl, _⟩ := hd.ru.shape
  obtain ⟨dha, dhc, rfl, _⟩ := hd.rh.shape
  clear hc hd
  generalize cmpCau c d = z at *
  generalize c.undo.length = n1 at *
  generalize c.hold.length = n2 at *
  generalize d.undo.length = n3 at *
  generalize d.hold.length = n4 at *
  go_enter Tryz.func10, Tryz.ntmps10
  go_upto_region 1 with (fail)
  obtain ⟨b1, b2, hm⟩ := boxed2 w (.cells #[.slice cua n1 cuc, .slice cha n2 chc] 34) (.cells #[.slice dua n3 duc, .slice dha n4 dhc] 34)
  generalize (w.alloc (.cells #[.slice cua n1 cuc, .slice cha n2 chc] 34)).alloc (.cells #[.slice dua n3 duc, .slice dha n4 dhc] 34) = w2 at *
  have HM2 := Lib.hid hm.1
  have a0 : w2.cell? ⟨w.heap.size, 0, none⟩ = some (.slice cua n1 cuc) := cell_of_blk b1 rfl
  have a1 : w2.cell? ⟨w.heap.size, 1, none⟩ = some (.slice cha n2 chc) := cell_of_blk b1 rfl
  have c0 : w2.cell? ⟨w.heap.size + 1, 0, none⟩ = some (.slice dua n3 duc) := cell_of_blk b2 rfl
  have c1 : w2.cell? ⟨w.heap.size + 1, 1, none⟩ = some (.slice dha n4 dhc) := cell_of_blk b2 rfl
  have ha := cell_lt a0
  have hb := cell_lt c0
  clear b1 b2 hm
  go_wp2_with fail
  refine (HCC.out _ HM2.out).mono ?_
  rintro e w3 ⟨rfl, hm3⟩
  have HM3 := Lib.hid (more_trans HM2.out hm3)
  clear hm3 a0 a1 c0 c1 ha hb
  go_wp2_with fail
  go_ret
  exact ⟨by congr 2, HM3.out⟩
end Go.Proofs.YtemeppfikpafbaaGreat
