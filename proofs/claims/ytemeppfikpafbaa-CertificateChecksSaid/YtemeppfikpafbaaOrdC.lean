/- intervene.compareMessage (194), LessMessage (145); the orders of keys and of messages: compare (189, 193), keys (187), messages (191). -/
import Derived.Test.YtemeppfikpafbaaCho2
import Derived.Laws.EntriesVeiled
namespace Go.Proofs.Ytemeppfikpafbaa
open Go.RowKit Go.Sort Go.Shelf
set_option maxRecDepth 100000 in
theorem cmpMsg194 : CmpSaid 194 mC cmpM3 := by
  intro x y w
  unfold mC
  have H := Lib.hid (show orI [cmpI x.f y.f, cmpI x.t y.t, cmpI x.n y.n] = cmpM3 x y from rfl)
  go_enter Try.func194, Try.ntmps194
  go_wp2_with fail
  obtain ⟨h1, h2, hm⟩ := boxed2 w (.cells #[.int .i64 x.f, .int .i64 x.t, .int .i64 x.n] 54) (.cells #[.int .i64 y.f, .int .i64 y.t, .int .i64 y.n] 54)
  generalize (w.alloc (.cells #[.int .i64 x.f, .int .i64 x.t, .int .i64 x.n] 54)).alloc (.cells #[.int .i64 y.f, .int .i64 y.t, .int .i64 y.n] 54) = w2 at *
  have a0 : w2.cell? ⟨w.heap.size, 0, none⟩ = some (.int .i64 x.f) := cell_of_blk h1 rfl
  have a1 : w2.cell? ⟨w.heap.size, 1, none⟩ = some (.int .i64 x.t) := cell_of_blk h1 rfl
  have a2 : w2.cell? ⟨w.heap.size, 2, none⟩ = some (.int .i64 x.n) := cell_of_blk h1 rfl
  have b0 : w2.cell? ⟨w.heap.size + 1, 0, none⟩ = some (.int .i64 y.f) := cell_of_blk h2 rfl
  have b1 : w2.cell? ⟨w.heap.size + 1, 1, none⟩ = some (.int .i64 y.t) := cell_of_blk h2 rfl
  have b2 : w2.cell? ⟨w.heap.size + 1, 2, none⟩ = some (.int .i64 y.n) := cell_of_blk h2 rfl
  have HM := Lib.hid hm
  clear h1 h2 hm
  have ha := cell_lt a0
  have hb := cell_lt b0
  refine wp_region_still_tail 15 (by kernel_rfl) (by kernel_rfl) ?_
  simp only [List.take_succ_cons, List.take_zero, List.drop_succ_cons, List.drop_zero]
  repeat still_step
  still_call (cmpN_any _ _ _)
  repeat still_step
  still_call (cmpN_any _ _ _)
  repeat still_step
  still_call (cmpN_any _ _ _)
  refine wpStill_nil ?_
  change wpList _ _ _ _ _ w2.drew
  generalize hw3 : w2.drew = w3
  have HM3 := Lib.hid (show Lay w w3 by rw [← hw3]; exact HM.out.trans (Lay.drew _))
  clear a0 a1 a2 b0 b1 b2 ha hb hw3
  go_wp2_with fail
  refine (or_any (fun _ => True) [cmpI x.f y.f, cmpI x.t y.t, cmpI x.n y.n] _ _ (show 3 ≤ 1000000 by decide) (row_lit trivial rfl)).mono ?_
  rw [H.out]
  rintro e w' ⟨rfl, hw'⟩
  rw [hw']
  clear hw' w'
  go_wp2_with fail
  go_ret
  exact ⟨rfl, HM3.out.trans (Lay.alloc _ _)⟩
set_option maxRecDepth 100000 in
theorem lessM145 (x y : M3) (w : World) : Calls Try.prog 145 #[mA x, mA y] w fun e w' => e = .returned (.bool (decide (cmpM3 x y < 0))) ∧ Lay w w' := by
  have HC := Lib.hid (fun w => cmpMsg194 x y w)
  unfold mA mC at *
  generalize hz : cmpM3 x y = z at *
  clear hz
  go_enter Try.func145, Try.ntmps145
  go_wp2_with fail
  obtain ⟨h1, h2, hm⟩ := boxed2 w (.cells #[.int .i64 x.f, .int .i64 x.t, .int .i64 x.n] 54) (.cells #[.int .i64 y.f, .int .i64 y.t, .int .i64 y.n] 54)
  generalize (w.alloc (.cells #[.int .i64 x.f, .int .i64 x.t, .int .i64 x.n] 54)).alloc (.cells #[.int .i64 y.f, .int .i64 y.t, .int .i64 y.n] 54) = w2 at *
  have a0 : w2.cell? ⟨w.heap.size, 0, none⟩ = some (.int .i64 x.f) := cell_of_blk h1 rfl
  have a1 : w2.cell? ⟨w.heap.size, 1, none⟩ = some (.int .i64 x.t) := cell_of_blk h1 rfl
  have a2 : w2.cell? ⟨w.heap.size, 2, none⟩ = some (.int .i64 x.n) := cell_of_blk h1 rfl
  have b0 : w2.cell? ⟨w.heap.size + 1, 0, none⟩ = some (.int .i64 y.f) := cell_of_blk h2 rfl
  have b1 : w2.cell? ⟨w.heap.size + 1, 1, none⟩ = some (.int .i64 y.t) := cell_of_blk h2 rfl
  have b2 : w2.cell? ⟨w.heap.size + 1, 2, none⟩ = some (.int .i64 y.n) := cell_of_blk h2 rfl
  have HM := Lib.hid hm
  clear h1 h2 hm
  go_wp2_with fail
  refine (HC.out w2).mono ?_
  rintro e w3 ⟨rfl, hm3⟩
  have HM3 := Lib.hid (HM.out.trans hm3)
  clear a0 a1 a2 b0 b1 b2 hm3
  go_wp2_with fail
  go_ret
  exact ⟨rfl, HM3.out⟩
/-- What the order of messages answers. -/
def sgnM (x y : M3) : Int := if cmpM3 x y < 0 then -1 else if cmpM3 y x < 0 then 1 else 0
set_option maxRecDepth 100000 in
set_option maxHeartbeats 2000000 in
theorem orderK_any (x y : K4) (w : World) : Calls Try.prog 189 #[.agg #[.func (.func 32) #[] #[]], .agg #[.int .u8 x.kind, .int .i64 x.a, .int .i64 x.b, .int .i64 x.n], .agg #[.int .u8 y.kind, .int .i64 y.a, .int .i64 y.b, .int .i64 y.n]] w fun e w' => e = .returned (.int .i64 (sgnK x y)) ∧ Lay w w' := by
  have HC := Lib.hid (show ∀ w, Calls Try.prog 32 #[.agg #[.int .u8 x.kind, .int .i64 x.a, .int .i64 x.b, .int .i64 x.n], .agg #[.int .u8 y.kind, .int .i64 y.a, .int .i64 y.b, .int .i64 y.n]] w fun e w' => e = .returned (.bool (decide (cmpK4 x y < 0))) ∧ Lay w w' from fun w => lessK_any x y w)
  have HD := Lib.hid (show ∀ w, Calls Try.prog 32 #[.agg #[.int .u8 y.kind, .int .i64 y.a, .int .i64 y.b, .int .i64 y.n], .agg #[.int .u8 x.kind, .int .i64 x.a, .int .i64 x.b, .int .i64 x.n]] w fun e w' => e = .returned (.bool (decide (cmpK4 y x < 0))) ∧ Lay w w' from fun w => lessK_any y x w)
  have HS := Lib.hid (show sgnK x y = if decide (cmpK4 x y < 0) = true then -1 else if decide (cmpK4 y x < 0) = true then 1 else 0 by unfold sgnK; simp)
  rw [HS.out]
  clear HS
  generalize decide (cmpK4 x y < 0) = q1 at *
  generalize decide (cmpK4 y x < 0) = q2 at *
  go_enter Try.func189, Try.ntmps189
  go_upto_region 1 with (fail)
  obtain ⟨b1, b2, hm⟩ := boxed2 w (.cells #[.func (.func 32) #[] #[]] 266) (.cells #[.int .u8 x.kind, .int .i64 x.a, .int .i64 x.b, .int .i64 x.n] 48)
  have HM := Lib.hid (hm.trans (Lay.alloc _ (.cells #[.int .u8 y.kind, .int .i64 y.a, .int .i64 y.b, .int .i64 y.n] 48)))
  have HR := Lib.hid (((more_alloc _ (.cells #[.int .u8 y.kind, .int .i64 y.a, .int .i64 y.b, .int .i64 y.n] 48)).block (blk_lt b1)).trans b1)
  have HX := Lib.hid (((more_alloc _ (.cells #[.int .u8 y.kind, .int .i64 y.a, .int .i64 y.b, .int .i64 y.n] 48)).block (blk_lt b2)).trans b2)
  have HY := Lib.hid (alloc_last ((w.alloc (.cells #[.func (.func 32) #[] #[]] 266)).alloc (.cells #[.int .u8 x.kind, .int .i64 x.a, .int .i64 x.b, .int .i64 x.n] 48)) (.cells #[.int .u8 y.kind, .int .i64 y.a, .int .i64 y.b, .int .i64 y.n] 48))
  have hsz : ((w.alloc (.cells #[.func (.func 32) #[] #[]] 266)).alloc (.cells #[.int .u8 x.kind, .int .i64 x.a, .int .i64 x.b, .int .i64 x.n] 48)).heap.size = w.heap.size + 1 + 1 := by simp
  rw [hsz] at HY
  clear b1 b2 hm hsz
  generalize ((w.alloc (.cells #[.func (.func 32) #[] #[]] 266)).alloc (.cells #[.int .u8 x.kind, .int .i64 x.a, .int .i64 x.b, .int .i64 x.n] 48)).alloc (.cells #[.int .u8 y.kind, .int .i64 y.a, .int .i64 y.b, .int .i64 y.n] 48) = w2 at *
  obtain ⟨YB, HYE⟩ : ∃ YB, Hid (YB = w.heap.size + 1 + 1) := ⟨_, Lib.hid rfl⟩
  rw [← HYE.out] at HY ⊢
  obtain ⟨XB, HXE⟩ : ∃ XB, Hid (XB = w.heap.size + 1) := ⟨_, Lib.hid rfl⟩
  rw [← HXE.out] at HX ⊢
  obtain ⟨RB, HRE⟩ : ∃ RB, Hid (RB = w.heap.size) := ⟨_, Lib.hid rfl⟩
  rw [← HRE.out] at HR ⊢
  have a0 : w2.cell? ⟨XB, 0, none⟩ = some (.int .u8 x.kind) := cell_of_blk HX.out rfl
  have a1 : w2.cell? ⟨XB, 1, none⟩ = some (.int .i64 x.a) := cell_of_blk HX.out rfl
  have a2 : w2.cell? ⟨XB, 2, none⟩ = some (.int .i64 x.b) := cell_of_blk HX.out rfl
  have a3 : w2.cell? ⟨XB, 3, none⟩ = some (.int .i64 x.n) := cell_of_blk HX.out rfl
  have b0 : w2.cell? ⟨YB, 0, none⟩ = some (.int .u8 y.kind) := cell_of_blk HY.out rfl
  have b1 : w2.cell? ⟨YB, 1, none⟩ = some (.int .i64 y.a) := cell_of_blk HY.out rfl
  have b2 : w2.cell? ⟨YB, 2, none⟩ = some (.int .i64 y.b) := cell_of_blk HY.out rfl
  have b3 : w2.cell? ⟨YB, 3, none⟩ = some (.int .i64 y.n) := cell_of_blk HY.out rfl
  have f0 : w2.cell? ⟨RB, 0, none⟩ = some (.func (.func 32) #[] #[]) := cell_of_blk HR.out rfl
  have ha := cell_lt a0
  have hb := cell_lt b0
  have hf := cell_lt f0
  go_wp2_with fail
  refine (HC.out _).mono ?_
  rintro e w3 ⟨rfl, hl3⟩
  have HM3 := Lib.hid (HM.out.trans hl3)
  have HR3 := Lib.hid ((hl3.1.block (blk_lt HR.out)).trans HR.out)
  have HX3 := Lib.hid ((hl3.1.block (blk_lt HX.out)).trans HX.out)
  have HY3 := Lib.hid ((hl3.1.block (blk_lt HY.out)).trans HY.out)
  clear hl3 a0 b0 a1 b1 a2 b2 a3 b3 f0 ha hb hf
  cases q1 with
  | true =>
    go_wp2_with fail
    go_ret
    exact ⟨rfl, HM3.out⟩
  | false =>
    have a0 : w3.cell? ⟨XB, 0, none⟩ = some (.int .u8 x.kind) := cell_of_blk HX3.out rfl
    have a1 : w3.cell? ⟨XB, 1, none⟩ = some (.int .i64 x.a) := cell_of_blk HX3.out rfl
    have a2 : w3.cell? ⟨XB, 2, none⟩ = some (.int .i64 x.b) := cell_of_blk HX3.out rfl
    have a3 : w3.cell? ⟨XB, 3, none⟩ = some (.int .i64 x.n) := cell_of_blk HX3.out rfl
    have b0 : w3.cell? ⟨YB, 0, none⟩ = some (.int .u8 y.kind) := cell_of_blk HY3.out rfl
    have b1 : w3.cell? ⟨YB, 1, none⟩ = some (.int .i64 y.a) := cell_of_blk HY3.out rfl
    have b2 : w3.cell? ⟨YB, 2, none⟩ = some (.int .i64 y.b) := cell_of_blk HY3.out rfl
    have b3 : w3.cell? ⟨YB, 3, none⟩ = some (.int .i64 y.n) := cell_of_blk HY3.out rfl
    have f0 : w3.cell? ⟨RB, 0, none⟩ = some (.func (.func 32) #[] #[]) := cell_of_blk HR3.out rfl
    have ha := cell_lt a0
    have hb := cell_lt b0
    have hf := cell_lt f0
    go_wp2_with fail
    refine (HD.out _).mono ?_
    rintro e w4 ⟨rfl, hl4⟩
    have HM4 := Lib.hid (HM3.out.trans hl4)
    clear hl4 a0 b0 a1 b1 a2 b2 a3 b3 f0 ha hb hf
    cases q2 with
    | true =>
      go_wp2_with fail
      go_ret
      exact ⟨rfl, HM4.out⟩
    | false =>
      go_wp2_with fail
      go_ret
      exact ⟨rfl, HM4.out⟩
set_option maxRecDepth 100000 in
set_option maxHeartbeats 2000000 in
theorem orderM_any (x y : M3) (w : World) : Calls Try.prog 193 #[.agg #[.func (.func 145) #[] #[]], .agg #[.int .i64 x.f, .int .i64 x.t, .int .i64 x.n], .agg #[.int .i64 y.f, .int .i64 y.t, .int .i64 y.n]] w fun e w' => e = .returned (.int .i64 (sgnM x y)) ∧ Lay w w' := by
  have HC := Lib.hid (show ∀ w, Calls Try.prog 145 #[.agg #[.int .i64 x.f, .int .i64 x.t, .int .i64 x.n], .agg #[.int .i64 y.f, .int .i64 y.t, .int .i64 y.n]] w fun e w' => e = .returned (.bool (decide (cmpM3 x y < 0))) ∧ Lay w w' from fun w => lessM145 x y w)
  have HD := Lib.hid (show ∀ w, Calls Try.prog 145 #[.agg #[.int .i64 y.f, .int .i64 y.t, .int .i64 y.n], .agg #[.int .i64 x.f, .int .i64 x.t, .int .i64 x.n]] w fun e w' => e = .returned (.bool (decide (cmpM3 y x < 0))) ∧ Lay w w' from fun w => lessM145 y x w)
  have HS := Lib.hid (show sgnM x y = if decide (cmpM3 x y < 0) = true then -1 else if decide (cmpM3 y x < 0) = true then 1 else 0 by unfold sgnM; simp)
  rw [HS.out]
  clear HS
  generalize decide (cmpM3 x y < 0) = q1 at *
  generalize decide (cmpM3 y x < 0) = q2 at *
  go_enter Try.func193, Try.ntmps193
  go_upto_region 1 with (fail)
  obtain ⟨b1, b2, hm⟩ := boxed2 w (.cells #[.func (.func 145) #[] #[]] 270) (.cells #[.int .i64 x.f, .int .i64 x.t, .int .i64 x.n] 54)
  have HM := Lib.hid (hm.trans (Lay.alloc _ (.cells #[.int .i64 y.f, .int .i64 y.t, .int .i64 y.n] 54)))
  have HR := Lib.hid (((more_alloc _ (.cells #[.int .i64 y.f, .int .i64 y.t, .int .i64 y.n] 54)).block (blk_lt b1)).trans b1)
  have HX := Lib.hid (((more_alloc _ (.cells #[.int .i64 y.f, .int .i64 y.t, .int .i64 y.n] 54)).block (blk_lt b2)).trans b2)
  have HY := Lib.hid (alloc_last ((w.alloc (.cells #[.func (.func 145) #[] #[]] 270)).alloc (.cells #[.int .i64 x.f, .int .i64 x.t, .int .i64 x.n] 54)) (.cells #[.int .i64 y.f, .int .i64 y.t, .int .i64 y.n] 54))
  have hsz : ((w.alloc (.cells #[.func (.func 145) #[] #[]] 270)).alloc (.cells #[.int .i64 x.f, .int .i64 x.t, .int .i64 x.n] 54)).heap.size = w.heap.size + 1 + 1 := by simp
  rw [hsz] at HY
  clear b1 b2 hm hsz
  generalize ((w.alloc (.cells #[.func (.func 145) #[] #[]] 270)).alloc (.cells #[.int .i64 x.f, .int .i64 x.t, .int .i64 x.n] 54)).alloc (.cells #[.int .i64 y.f, .int .i64 y.t, .int .i64 y.n] 54) = w2 at *
  obtain ⟨YB, HYE⟩ : ∃ YB, Hid (YB = w.heap.size + 1 + 1) := ⟨_, Lib.hid rfl⟩
  rw [← HYE.out] at HY ⊢
  obtain ⟨XB, HXE⟩ : ∃ XB, Hid (XB = w.heap.size + 1) := ⟨_, Lib.hid rfl⟩
  rw [← HXE.out] at HX ⊢
  obtain ⟨RB, HRE⟩ : ∃ RB, Hid (RB = w.heap.size) := ⟨_, Lib.hid rfl⟩
  rw [← HRE.out] at HR ⊢
  have a0 : w2.cell? ⟨XB, 0, none⟩ = some (.int .i64 x.f) := cell_of_blk HX.out rfl
  have a1 : w2.cell? ⟨XB, 1, none⟩ = some (.int .i64 x.t) := cell_of_blk HX.out rfl
  have a2 : w2.cell? ⟨XB, 2, none⟩ = some (.int .i64 x.n) := cell_of_blk HX.out rfl
  have b0 : w2.cell? ⟨YB, 0, none⟩ = some (.int .i64 y.f) := cell_of_blk HY.out rfl
  have b1 : w2.cell? ⟨YB, 1, none⟩ = some (.int .i64 y.t) := cell_of_blk HY.out rfl
  have b2 : w2.cell? ⟨YB, 2, none⟩ = some (.int .i64 y.n) := cell_of_blk HY.out rfl
  have f0 : w2.cell? ⟨RB, 0, none⟩ = some (.func (.func 145) #[] #[]) := cell_of_blk HR.out rfl
  have ha := cell_lt a0
  have hb := cell_lt b0
  have hf := cell_lt f0
  go_wp2_with fail
  refine (HC.out _).mono ?_
  rintro e w3 ⟨rfl, hl3⟩
  have HM3 := Lib.hid (HM.out.trans hl3)
  have HR3 := Lib.hid ((hl3.1.block (blk_lt HR.out)).trans HR.out)
  have HX3 := Lib.hid ((hl3.1.block (blk_lt HX.out)).trans HX.out)
  have HY3 := Lib.hid ((hl3.1.block (blk_lt HY.out)).trans HY.out)
  clear hl3 a0 b0 a1 b1 a2 b2 f0 ha hb hf
  cases q1 with
  | true =>
    go_wp2_with fail
    go_ret
    exact ⟨rfl, HM3.out⟩
  | false =>
    have a0 : w3.cell? ⟨XB, 0, none⟩ = some (.int .i64 x.f) := cell_of_blk HX3.out rfl
    have a1 : w3.cell? ⟨XB, 1, none⟩ = some (.int .i64 x.t) := cell_of_blk HX3.out rfl
    have a2 : w3.cell? ⟨XB, 2, none⟩ = some (.int .i64 x.n) := cell_of_blk HX3.out rfl
    have b0 : w3.cell? ⟨YB, 0, none⟩ = some (.int .i64 y.f) := cell_of_blk HY3.out rfl
    have b1 : w3.cell? ⟨YB, 1, none⟩ = some (.int .i64 y.t) := cell_of_blk HY3.out rfl
    have b2 : w3.cell? ⟨YB, 2, none⟩ = some (.int .i64 y.n) := cell_of_blk HY3.out rfl
    have f0 : w3.cell? ⟨RB, 0, none⟩ = some (.func (.func 145) #[] #[]) := cell_of_blk HR3.out rfl
    have ha := cell_lt a0
    have hb := cell_lt b0
    have hf := cell_lt f0
    go_wp2_with fail
    refine (HD.out _).mono ?_
    rintro e w4 ⟨rfl, hl4⟩
    have HM4 := Lib.hid (HM3.out.trans hl4)
    clear hl4 a0 b0 a1 b1 a2 b2 f0 ha hb hf
    cases q2 with
    | true =>
      go_wp2_with fail
      go_ret
      exact ⟨rfl, HM4.out⟩
    | false =>
      go_wp2_with fail
      go_ret
      exact ⟨rfl, HM4.out⟩
set_option maxRecDepth 100000 in
theorem keys187_any (w : World) : Calls Try.prog 187 #[] w fun e w' => e = .returned (.agg #[.func (.func 32) #[] #[]]) ∧ Lay w w' := by
  go_enter Try.func187, Try.ntmps187
  go_wp2_with fail

  have h := alloc_last w (.cells #[.func (.func 32) #[] #[]] 266)
  have c0 : (w.alloc (.cells #[.func (.func 32) #[] #[]] 266)).cell? ⟨w.heap.size, 0, none⟩ = some (.func (.func 32) #[] #[]) := cell_of_blk h rfl
  exact bodyPost_ret (v := .agg #[.func (.func 32) #[] #[]]) (by simp [results, Try.results187, go_sem, c0]) rfl ⟨rfl, Lay.alloc _ _⟩
set_option maxRecDepth 100000 in
theorem messages191_any (w : World) : Calls Try.prog 191 #[] w fun e w' => e = .returned (.agg #[.func (.func 145) #[] #[]]) ∧ Lay w w' := by
  go_enter Try.func191, Try.ntmps191
  go_wp2_with fail

  have h := alloc_last w (.cells #[.func (.func 145) #[] #[]] 270)
  have c0 : (w.alloc (.cells #[.func (.func 145) #[] #[]] 270)).cell? ⟨w.heap.size, 0, none⟩ = some (.func (.func 145) #[] #[]) := cell_of_blk h rfl
  exact bodyPost_ret (v := .agg #[.func (.func 145) #[] #[]]) (by simp [results, Try.results191, go_sem, c0]) rfl ⟨rfl, Lay.alloc _ _⟩
end Go.Proofs.Ytemeppfikpafbaa
