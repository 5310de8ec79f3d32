/- Texts CauC, VclC, StF, CauS, VclD, VAll, laid together. -/
import Derived.Deep.DeepCutAuto
import Derived.Deep.RegionHeld3
import Derived.Laws.EntriesVeiled
import Derived.Test.YtemeppfikpafbaaGreatVcd
import Derived.Test.YtemeppfikpafbaaGreatVco
/- cause.compareCause (142), Less (135), Equal (90). -/
namespace Go.Proofs.YtemeppfikpafbaaGreat
theorem Lay.more {a b : World} (h : Lay a b) : More a b := h.1
open Go.RowKit Go.Sort
/-- The order of causes. -/
def cmpCau (c d : Cau) : Int := if cmpL sgnK (srtSK c.undo) (srtSK d.undo) = 0 then cmpL sgnM (srtSM c.hold) (srtSM d.hold) else cmpL sgnK (srtSK c.undo) (srtSK d.undo)
/-- A cause in memory. -/
structure CauAt (w : World) (c : Cau) (u h : Value) : Prop where
  ru : Row anyB w 4 c.undo.length u (flatC kC c.undo)
  rh : Row anyB w 3 c.hold.length h (flatC mC c.hold)
  nu : NilA u
  nh : NilA h
  lu : c.undo.length ≤ 12
  lh : c.hold.length ≤ 12
theorem CauAt.more {w w' : World} {c : Cau} {u h : Value} (k : CauAt w c u h) (hm : More w w') : CauAt w' c u h := ⟨k.ru.below hm.below, k.rh.below hm.below, k.nu, k.nh, k.lu, k.lh⟩
set_option maxRecDepth 100000 in
set_option maxHeartbeats 8000000 in
theorem compareCause_lay (c d : Cau) (cu ch du dh : Value) (w : World) (hc : CauAt w c cu ch) (hd : CauAt w d du dh) :
    Calls Tryz.prog 25 #[.agg #[cu, ch], .agg #[du, dh]] w fun e w' => e = .returned (.int .i64 (cmpCau c d)) ∧ Lay w w' := by
  obtain ⟨cua, cuc, rfl, _⟩ := hc.ru.shape
  obtain ⟨cha, chc, rfl, _⟩ := hc.rh.shape
  obtain ⟨dua, duc, rfl, _⟩ := hd.ru.shape
  obtain ⟨dha, dhc, rfl, _⟩ := hd.rh.shape
  have HC := Lib.hid hc; clear hc
  have HD := Lib.hid hd; clear hd
  have HE := Lib.hid (show cmpCau c d = if cmpL sgnK (srtSK c.undo) (srtSK d.undo) = 0 then cmpL sgnM (srtSM c.hold) (srtSM d.hold) else cmpL sgnK (srtSK c.undo) (srtSK d.undo) from rfl)
  rw [HE.out]
  clear HE
  have HSA0 := Lib.hid (fun W (hW : More w W) => sortedK_any c.undo _ W HC.out.lu (HC.out.more hW).ru HC.out.nu)
  have HSB0 := Lib.hid (fun W (hW : More w W) => sortedK_any d.undo _ W HD.out.lu (HD.out.more hW).ru HD.out.nu)
  have HSC0 := Lib.hid (fun W (hW : More w W) => sortedM_any c.hold _ W HC.out.lh (HC.out.more hW).rh HC.out.nh)
  have HSD0 := Lib.hid (fun W (hW : More w W) => sortedM_any d.hold _ W HD.out.lh (HD.out.more hW).rh HD.out.nh)
  have HCK := Lib.hid (fun v u W (h1 : Row anyB W 4 c.undo.length v (flatC kC (srtSK c.undo))) (h2 : Row anyB W 4 d.undo.length u (flatC kC (srtSK d.undo))) => compareListK_any (srtSK c.undo) (srtSK d.undo) v u W (by rw [srtSK_len]; have := HC.out.lu; omega) (by rw [srtSK_len]; have := HD.out.lu; omega) (by rw [srtSK_len]; exact h1) (by rw [srtSK_len]; exact h2))
  have HCM := Lib.hid (fun v u W (h1 : Row anyB W 3 c.hold.length v (flatC mC (srtSM c.hold))) (h2 : Row anyB W 3 d.hold.length u (flatC mC (srtSM d.hold))) => compareListM_any (srtSM c.hold) (srtSM d.hold) v u W (by rw [srtSM_len]; have := HC.out.lh; omega) (by rw [srtSM_len]; have := HD.out.lh; omega) (by rw [srtSM_len]; exact h1) (by rw [srtSM_len]; exact h2))
  generalize cmpL sgnK (srtSK c.undo) (srtSK d.undo) = r1 at *
  generalize cmpL sgnM (srtSM c.hold) (srtSM d.hold) = r2 at *
  clear HC HD
  generalize flatC kC (srtSK c.undo) = X1 at *
  generalize flatC kC (srtSK d.undo) = X2 at *
  generalize flatC mC (srtSM c.hold) = X3 at *
  generalize flatC mC (srtSM d.hold) = X4 at *
  generalize c.undo.length = n1 at *
  generalize c.hold.length = n2 at *
  generalize d.undo.length = n3 at *
  generalize d.hold.length = n4 at *
  go_enter Tryz.func25, Tryz.ntmps25
  go_upto_region 1 with (fail)
  obtain ⟨b1, b2, hm⟩ := boxed2 w (.cells #[.slice cua n1 cuc, .slice cha n2 chc] 34) (.cells #[.slice dua n3 duc, .slice dha n4 dhc] 34)
  have HAB := Lib.hid b1
  have HBB := Lib.hid b2
  have HM2 := Lib.hid hm
  clear b1 b2 hm
  obtain ⟨BB, HBE⟩ : ∃ BB, Hid (BB = w.heap.size + 1) := ⟨_, Lib.hid rfl⟩
  rw [← HBE.out] at HBB ⊢
  obtain ⟨AB, HAE⟩ : ∃ AB, Hid (AB = w.heap.size) := ⟨_, Lib.hid rfl⟩
  rw [← HAE.out] at HAB ⊢
  generalize (w.alloc (.cells #[.slice cua n1 cuc, .slice cha n2 chc] 34)).alloc (.cells #[.slice dua n3 duc, .slice dha n4 dhc] 34) = w2 at *
  go_cut [5] (fun t wx => t = .int .i64 r1 ∧ Hid (Lay w2 wx))
  case first =>
    have HSA := Lib.hid (fun W (hW : More w2 W) => HSA0.out W (more_trans HM2.out.1 hW))
    have HSB := Lib.hid (fun W (hW : More w2 W) => HSB0.out W (more_trans HM2.out.1 hW))
    have HCL := HCK
    have HK := Lib.hid (show ∀ W, More w2 W → (W.cell? ⟨AB, 0, none⟩ = some (.slice cua n1 cuc) ∧ W.cell? ⟨BB, 0, none⟩ = some (.slice dua n3 duc)) from fun W h => ⟨h.cell (cell_of_blk HAB.out rfl), h.cell (cell_of_blk HBB.out rfl)⟩)
    have HL := Lib.hid (Lay.drew w2)
    have HNA := trivial
    go_region_held3 (fun W => W.cell? ⟨AB, 0, none⟩ = some (.slice cua n1 cuc) ∧ W.cell? ⟨BB, 0, none⟩ = some (.slice dua n3 duc)) (first | with_reducible exact HK.out _ HL.out.more) (first | (go_at_call 52; refine (keys187_any _).mono ?_; rintro e w6 ⟨rfl, hl6⟩; (try have HRA := Lib.hid (HRA.out.below hl6.1.below)); (try have HRB := Lib.hid (HRB.out.below hl6.1.below)); have HL := Lib.hid (HL.out.trans hl6); clear hl6) | (go_at_call 53; clear HNA; refine (HSA.out _ HL.out.1).mono ?_; rintro e w6 ⟨⟨v6, rfl, hr6⟩, hm6⟩; obtain ⟨sa, sc, rfl, _⟩ := hr6.shape; have HRA := Lib.hid (hr6.mono (S' := anyB) (fun _ _ => trivial) (fun _ _ _ _ h => h)); have HL := Lib.hid (HL.out.trans hm6); clear hr6 hm6) | (go_at_call 53; refine (HSB.out _ HL.out.1).mono ?_; rintro e w6 ⟨⟨v6, rfl, hr6⟩, hm6⟩; obtain ⟨ta, tc, rfl, _⟩ := hr6.shape; have HRB := Lib.hid (hr6.mono (S' := anyB) (fun _ _ => trivial) (fun _ _ _ _ h => h)); (try have HRA := Lib.hid (HRA.out.below hm6.1.below)); have HL := Lib.hid (HL.out.trans hm6); clear hr6 hm6) | (go_at_call 51; refine (HCL.out _ _ _ HRA.out HRB.out).mono ?_; rintro e w6 ⟨rfl, hm6⟩; have HL := Lib.hid (HL.out.trans hm6); clear hm6))
    all_goals (go_wp2_with fail; go_meet; exact ⟨rfl, HL⟩)
  case rest =>
    obtain ⟨rfl, HM3⟩ := hcut
    obtain ⟨w3, rfl⟩ : ∃ w3 : World, w3 = wc := ⟨_, rfl⟩
    by_cases hz : r1 = 0
    · subst hz
      have HSA := Lib.hid (fun W (hW : More w3 W) => HSC0.out W (more_trans HM2.out.1 (more_trans HM3.out.1 hW)))
      have HSB := Lib.hid (fun W (hW : More w3 W) => HSD0.out W (more_trans HM2.out.1 (more_trans HM3.out.1 hW)))
      have HCL := HCM
      have HK := Lib.hid (show ∀ W, More w3 W → (W.cell? ⟨AB, 1, none⟩ = some (.slice cha n2 chc) ∧ W.cell? ⟨BB, 1, none⟩ = some (.slice dha n4 dhc)) from fun W h => ⟨(more_trans HM3.out.1 h).cell (cell_of_blk HAB.out rfl), (more_trans HM3.out.1 h).cell (cell_of_blk HBB.out rfl)⟩)
      have HL := Lib.hid (Lay.drew w3)
      have HNA := trivial
      go_upto_region 4 with (fail)
      go_region_held3 (fun W => W.cell? ⟨AB, 1, none⟩ = some (.slice cha n2 chc) ∧ W.cell? ⟨BB, 1, none⟩ = some (.slice dha n4 dhc)) (first | with_reducible exact HK.out _ HL.out.more) (first | (go_at_call 56; refine (messages191_any _).mono ?_; rintro e w6 ⟨rfl, hl6⟩; (try have HRA := Lib.hid (HRA.out.below hl6.1.below)); (try have HRB := Lib.hid (HRB.out.below hl6.1.below)); have HL := Lib.hid (HL.out.trans hl6); clear hl6) | (go_at_call 57; clear HNA; refine (HSA.out _ HL.out.1).mono ?_; rintro e w6 ⟨⟨v6, rfl, hr6⟩, hm6⟩; obtain ⟨sa, sc, rfl, _⟩ := hr6.shape; have HRA := Lib.hid (hr6.mono (S' := anyB) (fun _ _ => trivial) (fun _ _ _ _ h => h)); have HL := Lib.hid (HL.out.trans hm6); clear hr6 hm6) | (go_at_call 57; refine (HSB.out _ HL.out.1).mono ?_; rintro e w6 ⟨⟨v6, rfl, hr6⟩, hm6⟩; obtain ⟨ta, tc, rfl, _⟩ := hr6.shape; have HRB := Lib.hid (hr6.mono (S' := anyB) (fun _ _ => trivial) (fun _ _ _ _ h => h)); (try have HRA := Lib.hid (HRA.out.below hm6.1.below)); have HL := Lib.hid (HL.out.trans hm6); clear hr6 hm6) | (go_at_call 55; refine (HCL.out _ _ _ HRA.out HRB.out).mono ?_; rintro e w6 ⟨rfl, hm6⟩; have HL := Lib.hid (HL.out.trans hm6); clear hm6))
      all_goals (go_wp2_with fail; go_ret; exact ⟨by simp, HM2.out.trans (HM3.out.trans HL.out)⟩)
    · have hzb : (r1 == 0) = false := by simpa using hz
      go_wp2_with fail
      go_ret
      exact ⟨rfl, HM2.out.trans HM3.out⟩
set_option maxRecDepth 100000 in
set_option maxHeartbeats 2000000 in
theorem lessCause_lay (c d : Cau) (cu ch du dh : Value) (w : World) (hc : CauAt w c cu ch) (hd : CauAt w d du dh) :
    Calls Tryz.prog 27 #[.agg #[cu, ch], .agg #[du, dh]] w fun e w' => e = .returned (.bool (decide (cmpCau c d < 0))) ∧ Lay w w' := by
  have HCC := Lib.hid (fun W (hW : More w W) => compareCause_lay c d cu ch du dh W (hc.more hW) (hd.more hW))
  obtain ⟨cua, cuc, rfl, _⟩ := hc.ru.shape
  obtain ⟨cha, chc, rfl, _⟩ := hc.rh.shape
  obtain ⟨dua, duc, rfl, _⟩ := hd.ru.shape
  obtain ⟨dha, dhc, rfl, _⟩ := hd.rh.shape
  clear hc hd
  generalize cmpCau c d = z at *
  generalize c.undo.length = n1 at *
  generalize c.hold.length = n2 at *
  generalize d.undo.length = n3 at *
  generalize d.hold.length = n4 at *
  go_enter Tryz.func27, Tryz.ntmps27
  go_upto_region 1 with (fail)
  obtain ⟨b1, b2, hm⟩ := boxed2 w (.cells #[.slice cua n1 cuc, .slice cha n2 chc] 34) (.cells #[.slice dua n3 duc, .slice dha n4 dhc] 34)
  generalize (w.alloc (.cells #[.slice cua n1 cuc, .slice cha n2 chc] 34)).alloc (.cells #[.slice dua n3 duc, .slice dha n4 dhc] 34) = w2 at *
  have HM2 := Lib.hid hm
  have a0 : w2.cell? ⟨w.heap.size, 0, none⟩ = some (.slice cua n1 cuc) := cell_of_blk b1 rfl
  have a1 : w2.cell? ⟨w.heap.size, 1, none⟩ = some (.slice cha n2 chc) := cell_of_blk b1 rfl
  have c0 : w2.cell? ⟨w.heap.size + 1, 0, none⟩ = some (.slice dua n3 duc) := cell_of_blk b2 rfl
  have c1 : w2.cell? ⟨w.heap.size + 1, 1, none⟩ = some (.slice dha n4 dhc) := cell_of_blk b2 rfl
  have ha := cell_lt a0
  have hb := cell_lt c0
  clear b1 b2 hm
  go_wp2_with fail
  refine (HCC.out _ HM2.out.1).mono ?_
  rintro e w3 ⟨rfl, hm3⟩
  have HM3 := Lib.hid (HM2.out.trans hm3)
  clear hm3 a0 a1 c0 c1 ha hb
  go_wp2_with fail
  go_ret
  exact ⟨rfl, HM3.out⟩
set_option maxRecDepth 100000 in
set_option maxHeartbeats 2000000 in
theorem equalCause_lay (c d : Cau) (cu ch du dh : Value) (w : World) (hc : CauAt w c cu ch) (hd : CauAt w d du dh) :
    Calls Tryz.prog 10 #[.agg #[cu, ch], .agg #[du, dh]] w fun e w' => e = .returned (.bool (decide (cmpCau c d = 0))) ∧ Lay w w' := by
  have HCC := Lib.hid (fun W (hW : More w W) => compareCause_lay c d cu ch du dh W (hc.more hW) (hd.more hW))
  obtain ⟨cua, cuc, rfl, _⟩ := hc.ru.shape
  obtain ⟨cha, chc, rfl, _⟩ := hc.rh.shape
  obtain ⟨dua, duc, rfl, _⟩ := hd.ru.shape
  obtain ⟨dha, dhc, rfl, _⟩ := hd.rh.shape
  clear hc hd
  generalize cmpCau c d = z at *
  generalize c.undo.length = n1 at *
  generalize c.hold.length = n2 at *
  generalize d.undo.length = n3 at *
  generalize d.hold.length = n4 at *
  go_enter Tryz.func10, Tryz.ntmps10
  go_upto_region 1 with (fail)
  obtain ⟨b1, b2, hm⟩ := boxed2 w (.cells #[.slice cua n1 cuc, .slice cha n2 chc] 34) (.cells #[.slice dua n3 duc, .slice dha n4 dhc] 34)
  generalize (w.alloc (.cells #[.slice cua n1 cuc, .slice cha n2 chc] 34)).alloc (.cells #[.slice dua n3 duc, .slice dha n4 dhc] 34) = w2 at *
  have HM2 := Lib.hid hm
  have a0 : w2.cell? ⟨w.heap.size, 0, none⟩ = some (.slice cua n1 cuc) := cell_of_blk b1 rfl
  have a1 : w2.cell? ⟨w.heap.size, 1, none⟩ = some (.slice cha n2 chc) := cell_of_blk b1 rfl
  have c0 : w2.cell? ⟨w.heap.size + 1, 0, none⟩ = some (.slice dua n3 duc) := cell_of_blk b2 rfl
  have c1 : w2.cell? ⟨w.heap.size + 1, 1, none⟩ = some (.slice dha n4 dhc) := cell_of_blk b2 rfl
  have ha := cell_lt a0
  have hb := cell_lt c0
  clear b1 b2 hm
  go_wp2_with fail
  refine (HCC.out _ HM2.out.1).mono ?_
  rintro e w3 ⟨rfl, hm3⟩
  have HM3 := Lib.hid (HM2.out.trans hm3)
  clear hm3 a0 a1 c0 c1 ha hb
  go_wp2_with fail
  go_ret
  exact ⟨by congr 2, HM3.out⟩
theorem compareCause_any (c d : Cau) (cu ch du dh : Value) (w : World) (hc : CauAt w c cu ch) (hd : CauAt w d du dh) :
    Calls Tryz.prog 25 #[.agg #[cu, ch], .agg #[du, dh]] w fun e w' => e = .returned (.int .i64 (cmpCau c d)) ∧ More w w' := (compareCause_lay c d cu ch du dh w hc hd).mono fun _ _ h => ⟨h.1, h.2.1⟩
theorem lessCause_any (c d : Cau) (cu ch du dh : Value) (w : World) (hc : CauAt w c cu ch) (hd : CauAt w d du dh) :
    Calls Tryz.prog 27 #[.agg #[cu, ch], .agg #[du, dh]] w fun e w' => e = .returned (.bool (decide (cmpCau c d < 0))) ∧ More w w' := (lessCause_lay c d cu ch du dh w hc hd).mono fun _ _ h => ⟨h.1, h.2.1⟩
theorem equalCause_any (c d : Cau) (cu ch du dh : Value) (w : World) (hc : CauAt w c cu ch) (hd : CauAt w d du dh) :
    Calls Tryz.prog 10 #[.agg #[cu, ch], .agg #[du, dh]] w fun e w' => e = .returned (.bool (decide (cmpCau c d = 0))) ∧ More w w' := (equalCause_lay c d cu ch du dh w hc hd).mono fun _ _ h => ⟨h.1, h.2.1⟩
end Go.Proofs.YtemeppfikpafbaaGreat

/- verdict.compare (134), its closure (182), Combine's first closure (137), status (138), Status.Text (47). -/
namespace Go.Proofs.YtemeppfikpafbaaGreat
open Go.RowKit Go.Sort
/-- The comparison of causes. -/
def sgnC (c d : Cau) : Int := if cmpCau c d < 0 then -1 else if cmpCau d c < 0 then 1 else 0
set_option maxRecDepth 100000 in
theorem compare134_any (w : World) : Calls Tryz.prog 31 #[.func (.func 27) #[] #[]] w fun e w' => e = .returned (.func (.func 61) #[] #[.pointer (some ⟨w.heap.size, 0, none⟩)]) ∧ w' = w.alloc (.cells #[.func (.func 27) #[] #[]] 30) := by
  go_enter Tryz.func31, Tryz.ntmps31
  go_wp2_with fail
  go_ret
  exact ⟨rfl, rfl⟩
set_option maxRecDepth 100000 in
set_option maxHeartbeats 4000000 in
theorem compare182_lay (c d : Cau) (cu ch du dh : Value) (PB : Nat) (w : World) (hc : CauAt w c cu ch) (hd : CauAt w d du dh) (hp : w.heap[PB]? = some (.cells #[.func (.func 27) #[] #[]] 30)) :
    Calls Tryz.prog 61 #[.agg #[cu, ch], .agg #[du, dh], .pointer (some ⟨PB, 0, none⟩)] w fun e w' => e = .returned (.int .i64 (sgnC c d)) ∧ Lay w w' := by
  have H1 := Lib.hid (fun W (hW : More w W) => lessCause_lay c d cu ch du dh W (hc.more hW) (hd.more hW))
  have H2 := Lib.hid (fun W (hW : More w W) => lessCause_lay d c du dh cu ch W (hd.more hW) (hc.more hW))
  have HS := Lib.hid (show sgnC c d = if decide (cmpCau c d < 0) = true then -1 else if decide (cmpCau d c < 0) = true then 1 else 0 by unfold sgnC; simp)
  rw [HS.out]
  clear HS
  generalize decide (cmpCau c d < 0) = q1 at *
  generalize decide (cmpCau d c < 0) = q2 at *
  obtain ⟨cua, cuc, rfl, _⟩ := hc.ru.shape
  obtain ⟨cha, chc, rfl, _⟩ := hc.rh.shape
  obtain ⟨dua, duc, rfl, _⟩ := hd.ru.shape
  obtain ⟨dha, dhc, rfl, _⟩ := hd.rh.shape
  have HP := Lib.hid hp
  clear hc hd hp
  generalize c.undo.length = n1 at *
  generalize c.hold.length = n2 at *
  generalize d.undo.length = n3 at *
  generalize d.hold.length = n4 at *
  go_enter Tryz.func61, Tryz.ntmps61
  go_upto_region 1 with (fail)
  obtain ⟨b1, b2, hm⟩ := boxed2 w (.cells #[.slice cua n1 cuc, .slice cha n2 chc] 34) (.cells #[.slice dua n3 duc, .slice dha n4 dhc] 34)
  generalize (w.alloc (.cells #[.slice cua n1 cuc, .slice cha n2 chc] 34)).alloc (.cells #[.slice dua n3 duc, .slice dha n4 dhc] 34) = w2 at *
  have HM2 := Lib.hid hm
  have HAB := Lib.hid b1
  have HBB := Lib.hid b2
  clear b1 b2 hm
  obtain ⟨BB, HBE⟩ : ∃ BB, Hid (BB = w.heap.size + 1) := ⟨_, Lib.hid rfl⟩
  rw [← HBE.out] at HBB ⊢
  obtain ⟨AB, HAE⟩ : ∃ AB, Hid (AB = w.heap.size) := ⟨_, Lib.hid rfl⟩
  rw [← HAE.out] at HAB ⊢
  have HP2 := Lib.hid ((HM2.out.1.block (blk_lt HP.out)).trans HP.out)
  have a0 : w2.cell? ⟨AB, 0, none⟩ = some (.slice cua n1 cuc) := cell_of_blk HAB.out rfl
  have a1 : w2.cell? ⟨AB, 1, none⟩ = some (.slice cha n2 chc) := cell_of_blk HAB.out rfl
  have c0 : w2.cell? ⟨BB, 0, none⟩ = some (.slice dua n3 duc) := cell_of_blk HBB.out rfl
  have c1 : w2.cell? ⟨BB, 1, none⟩ = some (.slice dha n4 dhc) := cell_of_blk HBB.out rfl
  have p0 : w2.cell? ⟨PB, 0, none⟩ = some (.func (.func 27) #[] #[]) := cell_of_blk HP2.out rfl
  have ha := cell_lt a0
  have hb := cell_lt c0
  have hpb := cell_lt p0
  go_wp2_with fail
  refine (H1.out _ HM2.out.1).mono ?_
  rintro e w3 ⟨rfl, hm3⟩
  have HM3 := Lib.hid (HM2.out.trans hm3)
  have HAB3 := Lib.hid ((hm3.1.block (blk_lt HAB.out)).trans HAB.out)
  have HBB3 := Lib.hid ((hm3.1.block (blk_lt HBB.out)).trans HBB.out)
  have HP3 := Lib.hid ((hm3.1.block (blk_lt HP2.out)).trans HP2.out)
  clear hm3 a0 a1 c0 c1 p0 ha hb hpb
  cases q1 with
  | true =>
    go_wp2_with fail
    go_ret
    exact ⟨rfl, HM3.out⟩
  | false =>
    have a0 : w3.cell? ⟨AB, 0, none⟩ = some (.slice cua n1 cuc) := cell_of_blk HAB3.out rfl
    have a1 : w3.cell? ⟨AB, 1, none⟩ = some (.slice cha n2 chc) := cell_of_blk HAB3.out rfl
    have c0 : w3.cell? ⟨BB, 0, none⟩ = some (.slice dua n3 duc) := cell_of_blk HBB3.out rfl
    have c1 : w3.cell? ⟨BB, 1, none⟩ = some (.slice dha n4 dhc) := cell_of_blk HBB3.out rfl
    have p0 : w3.cell? ⟨PB, 0, none⟩ = some (.func (.func 27) #[] #[]) := cell_of_blk HP3.out rfl
    have ha := cell_lt a0
    have hb := cell_lt c0
    have hpb := cell_lt p0
    go_wp2_with fail
    refine (H2.out _ HM3.out.1).mono ?_
    rintro e w4 ⟨rfl, hm4⟩
    have HM4 := Lib.hid (HM3.out.trans hm4)
    clear hm4 a0 a1 c0 c1 p0 ha hb hpb
    cases q2 with
    | true =>
      go_wp2_with fail
      go_ret
      exact ⟨rfl, HM4.out⟩
    | false =>
      go_wp2_with fail
      go_ret
      exact ⟨rfl, HM4.out⟩
theorem compare182_any (c d : Cau) (cu ch du dh : Value) (PB : Nat) (w : World) (hc : CauAt w c cu ch) (hd : CauAt w d du dh) (hp : w.heap[PB]? = some (.cells #[.func (.func 27) #[] #[]] 30)) :
    Calls Tryz.prog 61 #[.agg #[cu, ch], .agg #[du, dh], .pointer (some ⟨PB, 0, none⟩)] w fun e w' => e = .returned (.int .i64 (sgnC c d)) ∧ More w w' := (compare182_lay c d cu ch du dh PB w hc hd hp).mono fun _ _ h => ⟨h.1, h.2.1⟩
/-- A found cause whose elements lie where it says. -/
def FndAt (w : World) (x : Fnd) : Prop := CauAt w x.c (.slice x.ua x.un x.uc) (.slice x.ha x.hn x.hc)
set_option maxRecDepth 100000 in
set_option maxHeartbeats 4000000 in
theorem combine137_any (x y : Fnd) (CP PB : Nat) (w : World) (hx : FndAt w x) (hy : FndAt w y) (hp : w.heap[PB]? = some (.cells #[.func (.func 27) #[] #[]] 30)) (hcp : w.heap[CP]? = some (.cells #[.func (.func 61) #[] #[.pointer (some ⟨PB, 0, none⟩)]] 71)) :
    Calls Tryz.prog 33 #[.agg #[.slice x.ua x.un x.uc, .slice x.ha x.hn x.hc, .int .i64 x.n], .agg #[.slice y.ua y.un y.uc, .slice y.ha y.hn y.hc, .int .i64 y.n], .pointer (some ⟨CP, 0, none⟩)] w fun e w' => e = .returned (.int .i64 (sgnC x.c y.c)) ∧ More w w' := by
  have H1 := Lib.hid (fun W (hW : More w W) => compare182_any x.c y.c _ _ _ _ PB W (CauAt.more hx hW) (CauAt.more hy hW) ((hW.block (blk_lt hp)).trans hp))
  have HCP := Lib.hid hcp
  clear hx hy hp hcp
  generalize sgnC x.c y.c = r at *
  obtain ⟨xc, xua, xun, xuc, xha, xhn, xhc, xn⟩ := x
  obtain ⟨yc, yua, yun, yuc, yha, yhn, yhc, yn⟩ := y
  dsimp only at *
  clear xc yc
  go_enter Tryz.func33, Tryz.ntmps33
  go_upto_region 1 with (fail)
  obtain ⟨b1, b2, hm⟩ := boxed2 w (.cells #[.slice xua xun xuc, .slice xha xhn xhc, .int .i64 xn] 85) (.cells #[.slice yua yun yuc, .slice yha yhn yhc, .int .i64 yn] 85)
  generalize (w.alloc (.cells #[.slice xua xun xuc, .slice xha xhn xhc, .int .i64 xn] 85)).alloc (.cells #[.slice yua yun yuc, .slice yha yhn yhc, .int .i64 yn] 85) = w2 at *
  have HM2 := Lib.hid hm.1
  have HCP2 := Lib.hid ((hm.1.block (blk_lt HCP.out)).trans HCP.out)
  have a0 : w2.cell? ⟨w.heap.size, 0, none⟩ = some (.slice xua xun xuc) := cell_of_blk b1 rfl
  have a1 : w2.cell? ⟨w.heap.size, 1, none⟩ = some (.slice xha xhn xhc) := cell_of_blk b1 rfl
  have c0 : w2.cell? ⟨w.heap.size + 1, 0, none⟩ = some (.slice yua yun yuc) := cell_of_blk b2 rfl
  have c1 : w2.cell? ⟨w.heap.size + 1, 1, none⟩ = some (.slice yha yhn yhc) := cell_of_blk b2 rfl
  have p0 : w2.cell? ⟨CP, 0, none⟩ = some (.func (.func 61) #[] #[.pointer (some ⟨PB, 0, none⟩)]) := cell_of_blk HCP2.out rfl
  have ha := cell_lt a0
  have hb := cell_lt c0
  have hpb := cell_lt p0
  clear b1 b2 hm
  go_wp2_with fail
  refine (H1.out _ HM2.out).mono ?_
  rintro e w3 ⟨rfl, hm3⟩
  have HM3 := Lib.hid (more_trans HM2.out hm3)
  clear hm3 a0 a1 c0 c1 p0 ha hb hpb
  go_wp2_with fail
  go_ret
  exact ⟨rfl, HM3.out⟩
theorem status138_any (a b : Bool) (w : World) : Calls Tryz.prog 34 #[.bool a, .bool b] w fun e w' => e = .returned (.int .u8 (if a then (if b then 1 else 3) else 2)) ∧ w' = w := by
  go_enter Tryz.func34, Tryz.ntmps34
  cases a <;> cases b
  all_goals
    go_wp2_with fail
    go_ret
    exact ⟨rfl, rfl⟩
end Go.Proofs.YtemeppfikpafbaaGreat

/- slices.SortStableFunc (136, 183) of at most 19 found causes, as verdict.Combine calls it. -/
namespace Go.Proofs.YtemeppfikpafbaaGreat
open Go.RowKit Go.Sort
def cfF (x y : Fnd) : Int := sgnC x.c y.c
set_option maxRecDepth 100000 in
set_option maxHeartbeats 4000000 in
theorem stableF_any (d : Array Fnd) (B cap PB CP : Nat) (w : World) (hn : d.size ≤ 19) (hH : HoldC fC 3 w B 0 d) (hP : ∀ i, i < d.size → ∀ W, w.grownBy W (some B) → FndAt W d[i]!)
    (hp : w.heap[PB]? = some (.cells #[.func (.func 27) #[] #[]] 30)) (hcp : w.heap[CP]? = some (.cells #[.func (.func 61) #[] #[.pointer (some ⟨PB, 0, none⟩)]] 71)) (h1 : PB ≠ B) (h2 : CP ≠ B) :
    Calls Tryz.prog 32 #[.slice (some ⟨B, 0, none⟩) d.size cap, .func (.func 33) #[] #[.pointer (some ⟨CP, 0, none⟩)]] w fun e w' => e = .returned (.tuple #[]) ∧ w.grownBy w' (some B) ∧ HoldC fC 3 w' B 0 (insertionSort (ltOf cfF) d 0 d.size) := by
  have HI := Lib.hid (insF_any CP (fun x => ∀ W, w.grownBy W (some B) → FndAt W x) cfF d B 0 cap 0 d.size w (Nat.zero_le _) (Nat.le_refl _) (by omega) hH hP (fun x y W hx hy hW =>
    combine137_any x y CP PB W (hx W hW) (hy W hW) ((hW.block PB (blk_lt hp) (fun e => h1 (Option.some.inj e))).trans hp) ((hW.block CP (blk_lt hcp) (fun e => h2 (Option.some.inj e))).trans hcp)))
  have HS : ∀ W : World, W = w → Calls Tryz.prog 62 #[.slice (some ⟨B, 0, none⟩) d.size cap, .int .i64 d.size, .func (.func 33) #[] #[.pointer (some ⟨CP, 0, none⟩)]] W fun e w' => e = .returned (.tuple #[]) ∧ w.grownBy w' (some B) ∧ HoldC fC 3 w' B 0 (insertionSort (ltOf cfF) d 0 d.size) := by
    rintro W rfl
    clear hH hP hp hcp h1 h2
    generalize hD : insertionSort (ltOf cfF) d 0 d.size = D at *
    clear hD
    generalize d.size = n at *
    go_enter Tryz.func62, Tryz.ntmps62
    go_wp2_with fail
    refine wp_loop_rounds 1 ?_
    rw [rounds_succ]
    go_wp2_with fail
    refine HI.out.mono ?_
    rintro e w1 ⟨rfl, hg1, hh1⟩
    have HG1 := Lib.hid hg1
    have HH1 := Lib.hid hh1
    clear hg1 hh1
    go_wp2_with fail
    refine wp_loop_rounds 1 ?_
    rw [rounds_succ]
    go_wp2_with fail
    go_end0
    exact ⟨rfl, HG1.out, HH1.out⟩
  have HS2 := Lib.hid (HS w rfl)
  clear HS HI hH hP hp hcp h1 h2
  generalize hD : insertionSort (ltOf cfF) d 0 d.size = D at *
  clear hD
  generalize d.size = n at *
  go_enter Tryz.func32, Tryz.ntmps32
  go_wp2_with fail
  refine HS2.out.mono ?_
  rintro e w1 ⟨rfl, hg1, hh1⟩
  have HG1 := Lib.hid hg1
  have HH1 := Lib.hid hh1
  clear hg1 hh1
  go_wp2_with fail
  go_end0
  exact ⟨rfl, HG1.out, HH1.out⟩
end Go.Proofs.YtemeppfikpafbaaGreat

/- A cause in memory, in blocks of a set. -/
namespace Go.Proofs.YtemeppfikpafbaaGreat
open Go.RowKit
/-- A cause in memory, in blocks of S. -/
structure CauS (S : Nat → Prop) (w : World) (c : Cau) (u h : Value) : Prop where
  ru : Row S w 4 c.undo.length u (flatC kC c.undo)
  rh : Row S w 3 c.hold.length h (flatC mC c.hold)
  nu : NilA u
  nh : NilA h
  lu : c.undo.length ≤ 12
  lh : c.hold.length ≤ 12
theorem CauS.at {S : Nat → Prop} {w : World} {c : Cau} {u h : Value} (k : CauS S w c u h) : CauAt w c u h :=
  ⟨k.ru.mono (fun _ _ => trivial) (fun _ _ _ _ h => h), k.rh.mono (fun _ _ => trivial) (fun _ _ _ _ h => h), k.nu, k.nh, k.lu, k.lh⟩
theorem CauS.mono {S S' : Nat → Prop} {w w' : World} {c : Cau} {u h : Value} (k : CauS S w c u h) (hS : ∀ b, S b → b < w.heap.size → S' b) (hw : ∀ b, S b → b < w.heap.size → w'.heap[b]? = w.heap[b]?) : CauS S' w' c u h := by
  have key : ∀ {n sz : Nat} {v : Value} {xs : List Value}, 0 < sz → Row S w sz n v xs → Row S' w' sz n v xs := fun hz r => (r.lt hz).mono (fun b hb => hS b hb.1 hb.2) (fun b off x hb hc => by
    rw [← hc]
    exact World.cell?_of_block (w := w) (a := ⟨b, off, none⟩) (hw b hb.1 hb.2))
  exact ⟨key (by omega) k.ru, key (by omega) k.rh, k.nu, k.nh, k.lu, k.lh⟩
end Go.Proofs.YtemeppfikpafbaaGreat

/- verdict.clone (133). -/
namespace Go.Proofs.YtemeppfikpafbaaGreat
open Go.RowKit Go.Sort
set_option maxRecDepth 100000 in
set_option maxHeartbeats 4000000 in
theorem clone133_any (c : Cau) (cu ch : Value) (w : World) (hc : CauAt w c cu ch) :
    Calls Tryz.prog 30 #[.agg #[cu, ch]] w fun e w' => (∃ ua uc ha hc', e = .returned (.agg #[.slice ua c.undo.length uc, .slice ha c.hold.length hc']) ∧ CauS (fun b => w.heap.size ≤ b) w' c (.slice ua c.undo.length uc) (.slice ha c.hold.length hc')) ∧ Below w.heap.size w w' := by
  have HC0 := Lib.hid hc
  obtain ⟨cua, cuc, rfl, _⟩ := hc.ru.shape
  obtain ⟨cha, chc, rfl, _⟩ := hc.rh.shape
  have HCK0 := Lib.hid (fun W (hW : More w W) => cloneK_own c.undo _ W (by have := hc.lu; omega) (hc.more hW).ru hc.nu)
  have HCM0 := Lib.hid (fun W (hW : More w W) => cloneM_own c.hold _ W (by have := hc.lh; omega) (hc.more hW).rh hc.nh)
  have HLU := Lib.hid (And.intro hc.lu hc.lh)
  clear hc HC0
  generalize hX1 : flatC kC c.undo = X1 at *
  generalize hX2 : flatC mC c.hold = X2 at *
  have HX := Lib.hid (And.intro hX1 hX2)
  clear hX1 hX2
  generalize hn1 : c.undo.length = n1 at *
  generalize hn2 : c.hold.length = n2 at *
  have HN := Lib.hid (And.intro hn1 hn2)
  clear hn1 hn2
  go_enter Tryz.func30, Tryz.ntmps30
  go_upto_region 1 with (fail)
  obtain ⟨b1, b2, hm⟩ := boxed2 w (.cells #[.slice cua n1 cuc, .slice cha n2 chc] 34) (.cells #[.slice none 0 0, .slice none 0 0] 34)
  generalize (w.alloc (.cells #[.slice cua n1 cuc, .slice cha n2 chc] 34)).alloc (.cells #[.slice none 0 0, .slice none 0 0] 34) = w2 at *
  have HM2 := Lib.hid hm.1
  have HAB := Lib.hid b1
  have HRB := Lib.hid b2
  clear b1 b2 hm
  obtain ⟨RB, HRE⟩ : ∃ RB, Hid (RB = w.heap.size + 1) := ⟨_, Lib.hid rfl⟩
  rw [← HRE.out] at HRB ⊢
  obtain ⟨AB, HAE⟩ : ∃ AB, Hid (AB = w.heap.size) := ⟨_, Lib.hid rfl⟩
  rw [← HAE.out] at HAB ⊢
  have HCK := Lib.hid (fun W (hW : More w2 W) => HCK0.out W (more_trans HM2.out hW))
  have HCM := Lib.hid (fun W (hW : More w2 W) => HCM0.out W (more_trans HM2.out hW))
  have HK := Lib.hid (show ∀ W, More w2 W → (W.cell? ⟨AB, 0, none⟩ = some (.slice cua n1 cuc) ∧ W.cell? ⟨AB, 1, none⟩ = some (.slice cha n2 chc)) from fun W h => ⟨h.cell (cell_of_blk HAB.out rfl), h.cell (cell_of_blk HAB.out rfl)⟩)
  have HL := Lib.hid (more_drew w2)
  have HRBW := Lib.hid (show w.heap.size ≤ RB by rw [HRE.out]; omega)
  have HRBL := Lib.hid (blk_lt HRB.out)
  have HKR := Lib.hid (show ∀ W, More w2 W → W.cell? ⟨RB, 0, none⟩ = some (.slice none 0 0) ∧ W.cell? ⟨RB, 1, none⟩ = some (.slice none 0 0) ∧ W.frozen? ⟨RB, 0, none⟩ = false ∧ W.frozen? ⟨RB, 1, none⟩ = false from fun W h => by
    have hb := (h.block (blk_lt HRB.out)).trans HRB.out
    exact ⟨cell_of_blk hb rfl, cell_of_blk hb rfl, thaw hb 0, thaw hb 1⟩)
  have HAR := Lib.hid (show AB ≠ RB by rw [HRE.out, HAE.out]; omega)
  go_region_held3 (fun W => W.cell? ⟨AB, 0, none⟩ = some (.slice cua n1 cuc) ∧ W.cell? ⟨AB, 1, none⟩ = some (.slice cha n2 chc)) (first | with_reducible exact HK.out _ HL.out | with_reducible exact HKZ.out) (first | (go_at_call 22; refine (HCK.out _ HL.out).mono ?_; rintro e w6 ⟨⟨v6, rfl, ho6⟩, hb6⟩; have HNU := Lib.hid (owns_nil ho6); obtain ⟨ua, uc, rfl, HZU0⟩ := owns_shape ho6; have HZU := Lib.hid (fun z hz => Nat.le_trans HL.out.size (HZU0 z hz).1); have HRU := Lib.hid (owns_base ho6 (Nat.le_trans HM2.out.size HL.out.size)); have HL := Lib.hid (more_trans HL.out (more_of hb6)); clear ho6 hb6 HZU0) | (go_at_call 23; refine (HCM.out _ HL.out).mono ?_; rintro e w6 ⟨⟨v6, rfl, ho6⟩, hb6⟩; have HNH := Lib.hid (owns_nil ho6); obtain ⟨ha, hc, rfl, HZH0⟩ := owns_shape ho6; have HZH := Lib.hid (fun z hz => Nat.le_trans HL.out.size (HZH0 z hz).1); have HRU := Lib.hid (owns_keep HRU.out (fun z hz => hb6.block z ((owns_shape HRU.out).choose_spec.choose_spec.2 z hz).2)); have HRH := Lib.hid (owns_base ho6 (Nat.le_trans HM2.out.size HL.out.size)); have HL := Lib.hid (more_trans HL.out (more_of hb6)); obtain ⟨k0, k1, f0, f1⟩ := HKR.out _ HL.out; have HKZ := Lib.hid (And.intro ((World.cell?_of_block (Below.heap_setCell _ ⟨RB, 1, none⟩ (.slice ha n2 hc) AB HAR.out)).trans ((World.cell?_of_block (Below.heap_setCell _ ⟨RB, 0, none⟩ (.slice ua n1 uc) AB HAR.out)).trans (HK.out _ HL.out).1)) ((World.cell?_of_block (Below.heap_setCell _ ⟨RB, 1, none⟩ (.slice ha n2 hc) AB HAR.out)).trans ((World.cell?_of_block (Below.heap_setCell _ ⟨RB, 0, none⟩ (.slice ua n1 uc) AB HAR.out)).trans (HK.out _ HL.out).2))); clear ho6 hb6 HZH0))
  all_goals
    have HRB6 := Lib.hid ((HL.out.block (blk_lt HRB.out)).trans HRB.out)
    have HF := Lib.hid (setCell_heap (o := 1) (v := .slice ha n2 hc) (setCell_heap (o := 0) (v := .slice ua n1 uc) HRB6.out))
    have HU6 := Lib.hid (owns_keep (w' := (w6.setCell ⟨RB, 0, none⟩ (.slice ua n1 uc)).setCell ⟨RB, 1, none⟩ (.slice ha n2 hc)) HRU.out (fun z hz => by have hz1 := HZU.out z hz; have hz2 := HRBL.out; exact (Below.heap_setCell _ _ _ _ (show z ≠ RB by omega)).trans (Below.heap_setCell _ _ _ _ (show z ≠ RB by omega))))
    have HH6 := Lib.hid (owns_keep (w' := (w6.setCell ⟨RB, 0, none⟩ (.slice ua n1 uc)).setCell ⟨RB, 1, none⟩ (.slice ha n2 hc)) HRH.out (fun z hz => by have hz1 := HZH.out z hz; have hz2 := HRBL.out; exact (Below.heap_setCell _ _ _ _ (show z ≠ RB by omega)).trans (Below.heap_setCell _ _ _ _ (show z ≠ RB by omega))))
    have HB6 := Lib.hid (show Below w.heap.size w ((w6.setCell ⟨RB, 0, none⟩ (.slice ua n1 uc)).setCell ⟨RB, 1, none⟩ (.slice ha n2 hc)) from (((more_trans HM2.out HL.out).below).setCell (p := ⟨RB, 0, none⟩) HRBW.out _).setCell (p := ⟨RB, 1, none⟩) HRBW.out _)
    clear k0 k1 f0 f1
    generalize (w6.setCell ⟨RB, 0, none⟩ (.slice ua n1 uc)).setCell ⟨RB, 1, none⟩ (.slice ha n2 hc) = w9 at *
    go_wp2_with fail
    have c0 : w9.cell? ⟨RB, 0, none⟩ = some (.slice ua n1 uc) := cell_of_blk HF.out rfl
    have c1 : w9.cell? ⟨RB, 1, none⟩ = some (.slice ha n2 hc) := cell_of_blk HF.out rfl
    refine bodyPost_ret (v := .agg #[.slice ua n1 uc, .slice ha n2 hc]) (by simp [results, Tryz.results30, go_sem, c0, c1]) rfl ⟨⟨ua, uc, ha, hc, rfl, ?_⟩, HB6.out⟩
    exact ⟨by rw [HN.out.1, HX.out.1]; exact Row.of_owns HU6.out, by rw [HN.out.2, HX.out.2]; exact Row.of_owns HH6.out, HNU.out, HNH.out, by rw [HN.out.1]; exact HLU.out.1, by rw [HN.out.2]; exact HLU.out.2⟩
end Go.Proofs.YtemeppfikpafbaaGreat

/- The list of found causes that verdict.Combine builds: its own row, and elements in blocks other than the row's. -/
namespace Go.Proofs.YtemeppfikpafbaaGreat
open Go.RowKit Go.Sort
def FndS (S : Nat → Prop) (w : World) (x : Fnd) : Prop := CauS S w x.c (.slice x.ua x.un x.uc) (.slice x.ha x.hn x.hc)
structure AllF (N : Nat) (w : World) (v : Value) (F : List Fnd) : Prop where
  own : w.ownsRow N 85 3 v F.length (flatC fC F)
  ent : ∀ f ∈ F, FndS (fun b => v.ownBlock ≠ some b) w f
theorem AllF.nil (N : Nat) (w : World) : AllF N w (.slice none 0 0) [] := ⟨World.ownsRow_nil _ _ _ _, fun f h => by simp at h⟩
theorem AllF.more {N : Nat} {w w' : World} {v : Value} {F : List Fnd} (h : AllF N w v F) (hm : More w w') : AllF N w' v F :=
  ⟨owns_keep h.own (fun z hz => hm.block ((owns_shape h.own).choose_spec.choose_spec.2 z hz).2), fun f hf => CauS.mono (h.ent f hf) (fun _ hb _ => hb) (fun _b _ hl => hm.block hl)⟩
/-- Another found cause. -/
theorem AllF.push {N : Nat} {w w' : World} {v v' : Value} {F : List Fnd} (h : AllF N w v F) {f : Fnd} (hf : FndS (fun b => v.ownBlock ≠ some b) w f)
    (hown : w'.ownsRow N 85 3 v' (F.length + 1) (flatC fC F ++ fC f)) (hg : w.grownBy w' v.ownBlock) (hv : ∀ z, v'.ownBlock = some z → v.ownBlock = some z ∨ w.heap.size ≤ z) : AllF N w' v' (F ++ [f]) := by
  have key : ∀ x, FndS (fun b => v.ownBlock ≠ some b) w x → FndS (fun b => v'.ownBlock ≠ some b) w' x := fun x hx => CauS.mono hx (fun b hb hl e => by
    rcases hv b e with h1 | h1
    · exact hb h1
    · omega) (fun b hb hl => hg.block b hl (fun e => hb e.symm))
  refine ⟨by rw [List.length_append, List.length_singleton, flatC_push]; exact hown, fun x hx => ?_⟩
  rcases List.mem_append.1 hx with h1 | h1
  · exact key x (h.ent x h1)
  · rw [List.mem_singleton] at h1; subst h1; exact key x hf
/-- Elements stay, whatever is written into the row. -/
theorem AllF.keep {N : Nat} {w : World} {B : Nat} {n cap : Nat} {F : List Fnd} (h : AllF N w (.slice (some ⟨B, 0, none⟩) n cap) F) : ∀ f ∈ F, ∀ W, w.grownBy W (some B) → FndAt W f := fun f hf W hW =>
  (CauS.mono (S' := fun _ => True) (h.ent f hf) (fun _ _ _ => trivial) (fun b hb hl => hW.block b hl (fun e => hb (by rw [Option.some.inj e]; rfl)))).at
end Go.Proofs.YtemeppfikpafbaaGreat

