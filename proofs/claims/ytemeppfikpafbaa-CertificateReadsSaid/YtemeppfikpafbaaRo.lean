/- Texts OrdC, HolG, HelG, laid together. -/
import Derived.Laws.EntriesVeiled
import Derived.Test.YtemeppfikpafbaaRl
import Derived.Test.YtemeppfikpafbaaRn
/- intervene.compareMessage (194), LessMessage (145); the orders of keys and of messages: compare (189, 193), keys (187), messages (191). -/
namespace Go.Proofs.Ytemeppfikpafbaa
open Go.RowKit Go.Sort Go.Shelf
set_option maxRecDepth 100000 in
theorem cmpMsg194 : CmpSaid 194 mC cmpM3 := by
  intro x y w
  unfold mC
  have H := Lib.hid (show orI [cmpI x.f y.f, cmpI x.t y.t, cmpI x.n y.n] = cmpM3 x y from rfl)
  go_enter Try.func194, Try.ntmps194
  go_wp2_with fail
  obtain ⟨h1, h2, hm⟩ := boxed2 w (.cells #[.int .i64 x.f, .int .i64 x.t, .int .i64 x.n] 54) (.cells #[.int .i64 y.f, .int .i64 y.t, .int .i64 y.n] 54)
  generalize (w.alloc (.cells #[.int .i64 x.f, .int .i64 x.t, .int .i64 x.n] 54)).alloc (.cells #[.int .i64 y.f, .int .i64 y.t, .int .i64 y.n] 54) = w2 at *
  have a0 : w2.cell? ⟨w.heap.size, 0, none⟩ = some (.int .i64 x.f) := cell_of_blk h1 rfl
  have a1 : w2.cell? ⟨w.heap.size, 1, none⟩ = some (.int .i64 x.t) := cell_of_blk h1 rfl
  have a2 : w2.cell? ⟨w.heap.size, 2, none⟩ = some (.int .i64 x.n) := cell_of_blk h1 rfl
  have b0 : w2.cell? ⟨w.heap.size + 1, 0, none⟩ = some (.int .i64 y.f) := cell_of_blk h2 rfl
  have b1 : w2.cell? ⟨w.heap.size + 1, 1, none⟩ = some (.int .i64 y.t) := cell_of_blk h2 rfl
  have b2 : w2.cell? ⟨w.heap.size + 1, 2, none⟩ = some (.int .i64 y.n) := cell_of_blk h2 rfl
  have HM := Lib.hid hm
  clear h1 h2 hm
  have ha := cell_lt a0
  have hb := cell_lt b0
  refine wp_region_still_tail 15 (by kernel_rfl) (by kernel_rfl) ?_
  simp only [List.take_succ_cons, List.take_zero, List.drop_succ_cons, List.drop_zero]
  repeat still_step
  still_call (cmpN_any _ _ _)
  repeat still_step
  still_call (cmpN_any _ _ _)
  repeat still_step
  still_call (cmpN_any _ _ _)
  refine wpStill_nil ?_
  change wpList _ _ _ _ _ w2.drew
  generalize hw3 : w2.drew = w3
  have HM3 := Lib.hid (show Lay w w3 by rw [← hw3]; exact HM.out.trans (Lay.drew _))
  clear a0 a1 a2 b0 b1 b2 ha hb hw3
  go_wp2_with fail
  refine (or_any (fun _ => True) [cmpI x.f y.f, cmpI x.t y.t, cmpI x.n y.n] _ _ (show 3 ≤ 1000000 by decide) (row_lit trivial rfl)).mono ?_
  rw [H.out]
  rintro e w' ⟨rfl, hw'⟩
  rw [hw']
  clear hw' w'
  go_wp2_with fail
  go_ret
  exact ⟨rfl, HM3.out.trans (Lay.alloc _ _)⟩
set_option maxRecDepth 100000 in
theorem lessM145 (x y : M3) (w : World) : Calls Try.prog 145 #[mA x, mA y] w fun e w' => e = .returned (.bool (decide (cmpM3 x y < 0))) ∧ Lay w w' := by
  have HC := Lib.hid (fun w => cmpMsg194 x y w)
  unfold mA mC at *
  generalize hz : cmpM3 x y = z at *
  clear hz
  go_enter Try.func145, Try.ntmps145
  go_wp2_with fail
  obtain ⟨h1, h2, hm⟩ := boxed2 w (.cells #[.int .i64 x.f, .int .i64 x.t, .int .i64 x.n] 54) (.cells #[.int .i64 y.f, .int .i64 y.t, .int .i64 y.n] 54)
  generalize (w.alloc (.cells #[.int .i64 x.f, .int .i64 x.t, .int .i64 x.n] 54)).alloc (.cells #[.int .i64 y.f, .int .i64 y.t, .int .i64 y.n] 54) = w2 at *
  have a0 : w2.cell? ⟨w.heap.size, 0, none⟩ = some (.int .i64 x.f) := cell_of_blk h1 rfl
  have a1 : w2.cell? ⟨w.heap.size, 1, none⟩ = some (.int .i64 x.t) := cell_of_blk h1 rfl
  have a2 : w2.cell? ⟨w.heap.size, 2, none⟩ = some (.int .i64 x.n) := cell_of_blk h1 rfl
  have b0 : w2.cell? ⟨w.heap.size + 1, 0, none⟩ = some (.int .i64 y.f) := cell_of_blk h2 rfl
  have b1 : w2.cell? ⟨w.heap.size + 1, 1, none⟩ = some (.int .i64 y.t) := cell_of_blk h2 rfl
  have b2 : w2.cell? ⟨w.heap.size + 1, 2, none⟩ = some (.int .i64 y.n) := cell_of_blk h2 rfl
  have HM := Lib.hid hm
  clear h1 h2 hm
  go_wp2_with fail
  refine (HC.out w2).mono ?_
  rintro e w3 ⟨rfl, hm3⟩
  have HM3 := Lib.hid (HM.out.trans hm3)
  clear a0 a1 a2 b0 b1 b2 hm3
  go_wp2_with fail
  go_ret
  exact ⟨rfl, HM3.out⟩
/-- What the order of messages answers. -/
def sgnM (x y : M3) : Int := if cmpM3 x y < 0 then -1 else if cmpM3 y x < 0 then 1 else 0
set_option maxRecDepth 100000 in
set_option maxHeartbeats 2000000 in
theorem orderK_any (x y : K4) (w : World) : Calls Try.prog 189 #[.agg #[.func (.func 32) #[] #[]], .agg #[.int .u8 x.kind, .int .i64 x.a, .int .i64 x.b, .int .i64 x.n], .agg #[.int .u8 y.kind, .int .i64 y.a, .int .i64 y.b, .int .i64 y.n]] w fun e w' => e = .returned (.int .i64 (sgnK x y)) ∧ Lay w w' := by
  have HC := Lib.hid (show ∀ w, Calls Try.prog 32 #[.agg #[.int .u8 x.kind, .int .i64 x.a, .int .i64 x.b, .int .i64 x.n], .agg #[.int .u8 y.kind, .int .i64 y.a, .int .i64 y.b, .int .i64 y.n]] w fun e w' => e = .returned (.bool (decide (cmpK4 x y < 0))) ∧ Lay w w' from fun w => lessK_any x y w)
  have HD := Lib.hid (show ∀ w, Calls Try.prog 32 #[.agg #[.int .u8 y.kind, .int .i64 y.a, .int .i64 y.b, .int .i64 y.n], .agg #[.int .u8 x.kind, .int .i64 x.a, .int .i64 x.b, .int .i64 x.n]] w fun e w' => e = .returned (.bool (decide (cmpK4 y x < 0))) ∧ Lay w w' from fun w => lessK_any y x w)
  have HS := Lib.hid (show sgnK x y = if decide (cmpK4 x y < 0) = true then -1 else if decide (cmpK4 y x < 0) = true then 1 else 0 by unfold sgnK; simp)
  rw [HS.out]
  clear HS
  generalize decide (cmpK4 x y < 0) = q1 at *
  generalize decide (cmpK4 y x < 0) = q2 at *
  go_enter Try.func189, Try.ntmps189
  go_upto_region 1 with (fail)
  obtain ⟨b1, b2, hm⟩ := boxed2 w (.cells #[.func (.func 32) #[] #[]] 266) (.cells #[.int .u8 x.kind, .int .i64 x.a, .int .i64 x.b, .int .i64 x.n] 48)
  have HM := Lib.hid (hm.trans (Lay.alloc _ (.cells #[.int .u8 y.kind, .int .i64 y.a, .int .i64 y.b, .int .i64 y.n] 48)))
  have HR := Lib.hid (((more_alloc _ (.cells #[.int .u8 y.kind, .int .i64 y.a, .int .i64 y.b, .int .i64 y.n] 48)).block (blk_lt b1)).trans b1)
  have HX := Lib.hid (((more_alloc _ (.cells #[.int .u8 y.kind, .int .i64 y.a, .int .i64 y.b, .int .i64 y.n] 48)).block (blk_lt b2)).trans b2)
  have HY := Lib.hid (alloc_last ((w.alloc (.cells #[.func (.func 32) #[] #[]] 266)).alloc (.cells #[.int .u8 x.kind, .int .i64 x.a, .int .i64 x.b, .int .i64 x.n] 48)) (.cells #[.int .u8 y.kind, .int .i64 y.a, .int .i64 y.b, .int .i64 y.n] 48))
  have hsz : ((w.alloc (.cells #[.func (.func 32) #[] #[]] 266)).alloc (.cells #[.int .u8 x.kind, .int .i64 x.a, .int .i64 x.b, .int .i64 x.n] 48)).heap.size = w.heap.size + 1 + 1 := by simp
  rw [hsz] at HY
  clear b1 b2 hm hsz
  generalize ((w.alloc (.cells #[.func (.func 32) #[] #[]] 266)).alloc (.cells #[.int .u8 x.kind, .int .i64 x.a, .int .i64 x.b, .int .i64 x.n] 48)).alloc (.cells #[.int .u8 y.kind, .int .i64 y.a, .int .i64 y.b, .int .i64 y.n] 48) = w2 at *
  obtain ⟨YB, HYE⟩ : ∃ YB, Hid (YB = w.heap.size + 1 + 1) := ⟨_, Lib.hid rfl⟩
  rw [← HYE.out] at HY ⊢
  obtain ⟨XB, HXE⟩ : ∃ XB, Hid (XB = w.heap.size + 1) := ⟨_, Lib.hid rfl⟩
  rw [← HXE.out] at HX ⊢
  obtain ⟨RB, HRE⟩ : ∃ RB, Hid (RB = w.heap.size) := ⟨_, Lib.hid rfl⟩
  rw [← HRE.out] at HR ⊢
  have a0 : w2.cell? ⟨XB, 0, none⟩ = some (.int .u8 x.kind) := cell_of_blk HX.out rfl
  have a1 : w2.cell? ⟨XB, 1, none⟩ = some (.int .i64 x.a) := cell_of_blk HX.out rfl
  have a2 : w2.cell? ⟨XB, 2, none⟩ = some (.int .i64 x.b) := cell_of_blk HX.out rfl
  have a3 : w2.cell? ⟨XB, 3, none⟩ = some (.int .i64 x.n) := cell_of_blk HX.out rfl
  have b0 : w2.cell? ⟨YB, 0, none⟩ = some (.int .u8 y.kind) := cell_of_blk HY.out rfl
  have b1 : w2.cell? ⟨YB, 1, none⟩ = some (.int .i64 y.a) := cell_of_blk HY.out rfl
  have b2 : w2.cell? ⟨YB, 2, none⟩ = some (.int .i64 y.b) := cell_of_blk HY.out rfl
  have b3 : w2.cell? ⟨YB, 3, none⟩ = some (.int .i64 y.n) := cell_of_blk HY.out rfl
  have f0 : w2.cell? ⟨RB, 0, none⟩ = some (.func (.func 32) #[] #[]) := cell_of_blk HR.out rfl
  have ha := cell_lt a0
  have hb := cell_lt b0
  have hf := cell_lt f0
  go_wp2_with fail
  refine (HC.out _).mono ?_
  rintro e w3 ⟨rfl, hl3⟩
  have HM3 := Lib.hid (HM.out.trans hl3)
  have HR3 := Lib.hid ((hl3.1.block (blk_lt HR.out)).trans HR.out)
  have HX3 := Lib.hid ((hl3.1.block (blk_lt HX.out)).trans HX.out)
  have HY3 := Lib.hid ((hl3.1.block (blk_lt HY.out)).trans HY.out)
  clear hl3 a0 b0 a1 b1 a2 b2 a3 b3 f0 ha hb hf
  cases q1 with
  | true =>
    go_wp2_with fail
    go_ret
    exact ⟨rfl, HM3.out⟩
  | false =>
    have a0 : w3.cell? ⟨XB, 0, none⟩ = some (.int .u8 x.kind) := cell_of_blk HX3.out rfl
    have a1 : w3.cell? ⟨XB, 1, none⟩ = some (.int .i64 x.a) := cell_of_blk HX3.out rfl
    have a2 : w3.cell? ⟨XB, 2, none⟩ = some (.int .i64 x.b) := cell_of_blk HX3.out rfl
    have a3 : w3.cell? ⟨XB, 3, none⟩ = some (.int .i64 x.n) := cell_of_blk HX3.out rfl
    have b0 : w3.cell? ⟨YB, 0, none⟩ = some (.int .u8 y.kind) := cell_of_blk HY3.out rfl
    have b1 : w3.cell? ⟨YB, 1, none⟩ = some (.int .i64 y.a) := cell_of_blk HY3.out rfl
    have b2 : w3.cell? ⟨YB, 2, none⟩ = some (.int .i64 y.b) := cell_of_blk HY3.out rfl
    have b3 : w3.cell? ⟨YB, 3, none⟩ = some (.int .i64 y.n) := cell_of_blk HY3.out rfl
    have f0 : w3.cell? ⟨RB, 0, none⟩ = some (.func (.func 32) #[] #[]) := cell_of_blk HR3.out rfl
    have ha := cell_lt a0
    have hb := cell_lt b0
    have hf := cell_lt f0
    go_wp2_with fail
    refine (HD.out _).mono ?_
    rintro e w4 ⟨rfl, hl4⟩
    have HM4 := Lib.hid (HM3.out.trans hl4)
    clear hl4 a0 b0 a1 b1 a2 b2 a3 b3 f0 ha hb hf
    cases q2 with
    | true =>
      go_wp2_with fail
      go_ret
      exact ⟨rfl, HM4.out⟩
    | false =>
      go_wp2_with fail
      go_ret
      exact ⟨rfl, HM4.out⟩
set_option maxRecDepth 100000 in
set_option maxHeartbeats 2000000 in
theorem orderM_any (x y : M3) (w : World) : Calls Try.prog 193 #[.agg #[.func (.func 145) #[] #[]], .agg #[.int .i64 x.f, .int .i64 x.t, .int .i64 x.n], .agg #[.int .i64 y.f, .int .i64 y.t, .int .i64 y.n]] w fun e w' => e = .returned (.int .i64 (sgnM x y)) ∧ Lay w w' := by
  have HC := Lib.hid (show ∀ w, Calls Try.prog 145 #[.agg #[.int .i64 x.f, .int .i64 x.t, .int .i64 x.n], .agg #[.int .i64 y.f, .int .i64 y.t, .int .i64 y.n]] w fun e w' => e = .returned (.bool (decide (cmpM3 x y < 0))) ∧ Lay w w' from fun w => lessM145 x y w)
  have HD := Lib.hid (show ∀ w, Calls Try.prog 145 #[.agg #[.int .i64 y.f, .int .i64 y.t, .int .i64 y.n], .agg #[.int .i64 x.f, .int .i64 x.t, .int .i64 x.n]] w fun e w' => e = .returned (.bool (decide (cmpM3 y x < 0))) ∧ Lay w w' from fun w => lessM145 y x w)
  have HS := Lib.hid (show sgnM x y = if decide (cmpM3 x y < 0) = true then -1 else if decide (cmpM3 y x < 0) = true then 1 else 0 by unfold sgnM; simp)
  rw [HS.out]
  clear HS
  generalize decide (cmpM3 x y < 0) = q1 at *
  generalize decide (cmpM3 y x < 0) = q2 at *
  go_enter Try.func193, Try.ntmps193
  go_upto_region 1 with (fail)
  obtain ⟨b1, b2, hm⟩ := boxed2 w (.cells #[.func (.func 145) #[] #[]] 270) (.cells #[.int .i64 x.f, .int .i64 x.t, .int .i64 x.n] 54)
  have HM := Lib.hid (hm.trans (Lay.alloc _ (.cells #[.int .i64 y.f, .int .i64 y.t, .int .i64 y.n] 54)))
  have HR := Lib.hid (((more_alloc _ (.cells #[.int .i64 y.f, .int .i64 y.t, .int .i64 y.n] 54)).block (blk_lt b1)).trans b1)
  have HX := Lib.hid (((more_alloc _ (.cells #[.int .i64 y.f, .int .i64 y.t, .int .i64 y.n] 54)).block (blk_lt b2)).trans b2)
  have HY := Lib.hid (alloc_last ((w.alloc (.cells #[.func (.func 145) #[] #[]] 270)).alloc (.cells #[.int .i64 x.f, .int .i64 x.t, .int .i64 x.n] 54)) (.cells #[.int .i64 y.f, .int .i64 y.t, .int .i64 y.n] 54))
  have hsz : ((w.alloc (.cells #[.func (.func 145) #[] #[]] 270)).alloc (.cells #[.int .i64 x.f, .int .i64 x.t, .int .i64 x.n] 54)).heap.size = w.heap.size + 1 + 1 := by simp
  rw [hsz] at HY
  clear b1 b2 hm hsz
  generalize ((w.alloc (.cells #[.func (.func 145) #[] #[]] 270)).alloc (.cells #[.int .i64 x.f, .int .i64 x.t, .int .i64 x.n] 54)).alloc (.cells #[.int .i64 y.f, .int .i64 y.t, .int .i64 y.n] 54) = w2 at *
  obtain ⟨YB, HYE⟩ : ∃ YB, Hid (YB = w.heap.size + 1 + 1) := ⟨_, Lib.hid rfl⟩
  rw [← HYE.out] at HY ⊢
  obtain ⟨XB, HXE⟩ : ∃ XB, Hid (XB = w.heap.size + 1) := ⟨_, Lib.hid rfl⟩
  rw [← HXE.out] at HX ⊢
  obtain ⟨RB, HRE⟩ : ∃ RB, Hid (RB = w.heap.size) := ⟨_, Lib.hid rfl⟩
  rw [← HRE.out] at HR ⊢
  have a0 : w2.cell? ⟨XB, 0, none⟩ = some (.int .i64 x.f) := cell_of_blk HX.out rfl
  have a1 : w2.cell? ⟨XB, 1, none⟩ = some (.int .i64 x.t) := cell_of_blk HX.out rfl
  have a2 : w2.cell? ⟨XB, 2, none⟩ = some (.int .i64 x.n) := cell_of_blk HX.out rfl
  have b0 : w2.cell? ⟨YB, 0, none⟩ = some (.int .i64 y.f) := cell_of_blk HY.out rfl
  have b1 : w2.cell? ⟨YB, 1, none⟩ = some (.int .i64 y.t) := cell_of_blk HY.out rfl
  have b2 : w2.cell? ⟨YB, 2, none⟩ = some (.int .i64 y.n) := cell_of_blk HY.out rfl
  have f0 : w2.cell? ⟨RB, 0, none⟩ = some (.func (.func 145) #[] #[]) := cell_of_blk HR.out rfl
  have ha := cell_lt a0
  have hb := cell_lt b0
  have hf := cell_lt f0
  go_wp2_with fail
  refine (HC.out _).mono ?_
  rintro e w3 ⟨rfl, hl3⟩
  have HM3 := Lib.hid (HM.out.trans hl3)
  have HR3 := Lib.hid ((hl3.1.block (blk_lt HR.out)).trans HR.out)
  have HX3 := Lib.hid ((hl3.1.block (blk_lt HX.out)).trans HX.out)
  have HY3 := Lib.hid ((hl3.1.block (blk_lt HY.out)).trans HY.out)
  clear hl3 a0 b0 a1 b1 a2 b2 f0 ha hb hf
  cases q1 with
  | true =>
    go_wp2_with fail
    go_ret
    exact ⟨rfl, HM3.out⟩
  | false =>
    have a0 : w3.cell? ⟨XB, 0, none⟩ = some (.int .i64 x.f) := cell_of_blk HX3.out rfl
    have a1 : w3.cell? ⟨XB, 1, none⟩ = some (.int .i64 x.t) := cell_of_blk HX3.out rfl
    have a2 : w3.cell? ⟨XB, 2, none⟩ = some (.int .i64 x.n) := cell_of_blk HX3.out rfl
    have b0 : w3.cell? ⟨YB, 0, none⟩ = some (.int .i64 y.f) := cell_of_blk HY3.out rfl
    have b1 : w3.cell? ⟨YB, 1, none⟩ = some (.int .i64 y.t) := cell_of_blk HY3.out rfl
    have b2 : w3.cell? ⟨YB, 2, none⟩ = some (.int .i64 y.n) := cell_of_blk HY3.out rfl
    have f0 : w3.cell? ⟨RB, 0, none⟩ = some (.func (.func 145) #[] #[]) := cell_of_blk HR3.out rfl
    have ha := cell_lt a0
    have hb := cell_lt b0
    have hf := cell_lt f0
    go_wp2_with fail
    refine (HD.out _).mono ?_
    rintro e w4 ⟨rfl, hl4⟩
    have HM4 := Lib.hid (HM3.out.trans hl4)
    clear hl4 a0 b0 a1 b1 a2 b2 f0 ha hb hf
    cases q2 with
    | true =>
      go_wp2_with fail
      go_ret
      exact ⟨rfl, HM4.out⟩
    | false =>
      go_wp2_with fail
      go_ret
      exact ⟨rfl, HM4.out⟩
set_option maxRecDepth 100000 in
theorem keys187_any (w : World) : Calls Try.prog 187 #[] w fun e w' => e = .returned (.agg #[.func (.func 32) #[] #[]]) ∧ Lay w w' := by
  go_enter Try.func187, Try.ntmps187
  go_wp2_with fail

  have h := alloc_last w (.cells #[.func (.func 32) #[] #[]] 266)
  have c0 : (w.alloc (.cells #[.func (.func 32) #[] #[]] 266)).cell? ⟨w.heap.size, 0, none⟩ = some (.func (.func 32) #[] #[]) := cell_of_blk h rfl
  exact bodyPost_ret (v := .agg #[.func (.func 32) #[] #[]]) (by simp [results, Try.results187, go_sem, c0]) rfl ⟨rfl, Lay.alloc _ _⟩
set_option maxRecDepth 100000 in
theorem messages191_any (w : World) : Calls Try.prog 191 #[] w fun e w' => e = .returned (.agg #[.func (.func 145) #[] #[]]) ∧ Lay w w' := by
  go_enter Try.func191, Try.ntmps191
  go_wp2_with fail

  have h := alloc_last w (.cells #[.func (.func 145) #[] #[]] 270)
  have c0 : (w.alloc (.cells #[.func (.func 145) #[] #[]] 270)).cell? ⟨w.heap.size, 0, none⟩ = some (.func (.func 145) #[] #[]) := cell_of_blk h rfl
  exact bodyPost_ret (v := .agg #[.func (.func 145) #[] #[]]) (by simp [results, Try.results191, go_sem, c0]) rfl ⟨rfl, Lay.alloc _ _⟩
end Go.Proofs.Ytemeppfikpafbaa

/- Holds: message and arrivals; network.component (233), network.valid (195). -/
namespace Go.Proofs.Ytemeppfikpafbaa
open Go.RowKit
structure Ar where
  tk : Int
  hd : Int
  l : List Int
instance : Inhabited Ar := ⟨⟨0, 0, []⟩⟩
abbrev AV := Value × Ar
def aC (p : AV) : List Value := [.int .i64 p.2.tk, .int .i64 p.2.hd, p.1]
theorem aC_len (p : AV) : (aC p).length = 3 := rfl
structure Ho where
  m : M3
  al : List AV
instance : Inhabited Ho := ⟨⟨⟨0, 0, 0⟩, []⟩⟩
abbrev HV := Value × Ho
def hC (p : HV) : List Value := [.int .i64 p.2.m.f, .int .i64 p.2.m.t, .int .i64 p.2.m.n, p.1]
theorem hC_len (p : HV) : (hC p).length = 4 := rfl
def hA (p : HV) : Value := .agg #[.int .i64 p.2.m.f, .int .i64 p.2.m.t, .int .i64 p.2.m.n, p.1]
/-- A hold in memory: its arrivals, and their arguments. -/
structure HAt (S : Nat → Prop) (w : World) (p : HV) : Prop where
  row : Row S w 3 p.2.al.length p.1 (flatC aC p.2.al)
  arg : ∀ q ∈ p.2.al, Row S w 1 q.2.l.length q.1 (flatC nC q.2.l) ∧ NilA q.1
  nil : NilA p.1
  len : p.2.al.length ≤ maxLen
  lens : ∀ q ∈ p.2.al, q.2.l.length ≤ maxLen
theorem HAt.mono {S S' : Nat → Prop} {w w' : World} {p : HV} (h : HAt S w p) (hS : ∀ b, S b → b < w.heap.size → S' b) (hw : ∀ b, S b → b < w.heap.size → w'.heap[b]? = w.heap[b]?) : HAt S' w' p :=
  ⟨(h.row.lt (by omega)).mono (fun b hb => hS b hb.1 hb.2) (fun b off x hb hc => by
    rw [← hc]; exact World.cell?_of_block (w := w) (a := ⟨b, off, none⟩) (hw b hb.1 hb.2)), fun q hq => ⟨((h.arg q hq).1.lt (by omega)).mono (fun b hb => hS b hb.1 hb.2) (fun b off x hb hc => by
    rw [← hc]; exact World.cell?_of_block (w := w) (a := ⟨b, off, none⟩) (hw b hb.1 hb.2)), (h.arg q hq).2⟩, h.nil, h.len, h.lens⟩
theorem HAt.more {S : Nat → Prop} {w w' : World} {p : HV} (h : HAt S w p) (hm : More w w') : HAt S w' p := h.mono (fun _ hb _ => hb) (fun _ _ hl => hm.block hl)
/-- The form of arrivals, and of a hold. -/
def arOkb : Int → List AV → Bool
  | _, [] => true
  | last, a :: r => if a.2.tk < last ∨ a.2.hd < 0 ∨ 8 ≤ a.2.hd ∨ 4 < a.2.l.length then false else arOkb a.2.tk r
def msgOkb (m : M3) : Bool := decide (0 ≤ m.f ∧ m.f < 8) && (decide (0 ≤ m.t ∧ m.t < 8) && decide (0 ≤ m.n ∧ m.n ≤ 65535))
def hoOkb (h : Ho) : Bool := msgOkb h.m && (decide (h.al.length ≤ 2) && arOkb 1 h.al)
theorem comp233_any (c : Int) (w : World) : Calls Try.prog 233 #[.int .i64 c] w fun e w' => e = .returned (.bool (decide (0 ≤ c ∧ c < 8))) ∧ w' = w := by
  by_cases h0 : 0 ≤ c
  · by_cases h1 : c < 8
    · rw [decide_eq_true (And.intro h0 h1)]
      go_enter Try.func233, Try.ntmps233
      go_wp2_with fail
      go_ret
      exact ⟨rfl, rfl⟩
    · rw [decide_eq_false (fun h => h1 h.2)]
      have h2 : decide (c < 8) = false := decide_eq_false h1
      clear h1
      go_enter Try.func233, Try.ntmps233
      go_wp2_with fail
      go_ret
      exact ⟨rfl, rfl⟩
  · rw [decide_eq_false (fun h => h0 h.1)]
    have h2 : decide (0 ≤ c) = false := decide_eq_false h0
    clear h0
    go_enter Try.func233, Try.ntmps233
    go_wp2_with fail
    go_ret
    exact ⟨rfl, rfl⟩
set_option maxRecDepth 100000 in
set_option maxHeartbeats 4000000 in
theorem valid195_any (p : HV) (w : World) (hp : HAt anyB w p) : Calls Try.prog 195 #[hA p] w fun e w' => e = .returned (.bool (hoOkb p.2)) ∧ Below w.heap.size w w' := by
  obtain ⟨v, ⟨⟨mf, mt, mn⟩, al⟩⟩ := p
  have hrow := hp.row
  have hlen := hp.len
  have HAR := Lib.hid (fun q (hq : q ∈ al) => And.intro (hp.arg q hq).1 (hp.lens q hq))
  clear hp
  unfold hA
  dsimp only at *
  obtain ⟨sa, sc, rfl, _⟩ := hrow.shape
  have HR := Lib.hid hrow; clear hrow
  unfold maxLen at hlen
  have HCO := Lib.hid (fun (c : Int) (W : World) => comp233_any c W)
  obtain ⟨E, HE⟩ : ∃ E, Hid (E = hoOkb ⟨⟨mf, mt, mn⟩, al⟩) := ⟨_, Lib.hid rfl⟩
  rw [← HE.out]
  unfold hoOkb msgOkb at HE
  dsimp only at HE
  obtain ⟨ln, HLN⟩ : ∃ ln, Hid (al.length = ln) := ⟨_, Lib.hid rfl⟩
  rw [HLN.out] at HR hlen HE ⊢
  have HB1 := Lib.hid (alloc_last w (.cells #[.int .i64 mf, .int .i64 mt, .int .i64 mn, .slice sa ln sc] 166))
  have HM1 := Lib.hid (more_alloc w (.cells #[.int .i64 mf, .int .i64 mt, .int .i64 mn, .slice sa ln sc] 166))
  obtain ⟨N, HN⟩ : ∃ N, Hid (N = w.heap.size) := ⟨_, Lib.hid rfl⟩
  rw [← HN.out] at HB1 ⊢
  go_enter Try.func195, Try.ntmps195
  go_upto_region 1 with (fail)
  rw [← HN.out]
  generalize w.alloc (.cells #[.int .i64 mf, .int .i64 mt, .int .i64 mn, .slice sa ln sc] 166) = w1 at *
  have c0 : w1.cell? ⟨N, 0, none⟩ = some (.int .i64 mf) := cell_of_blk HB1.out rfl
  have c1 : w1.cell? ⟨N, 1, none⟩ = some (.int .i64 mt) := cell_of_blk HB1.out rfl
  have c2 : w1.cell? ⟨N, 2, none⟩ = some (.int .i64 mn) := cell_of_blk HB1.out rfl
  have hbc := cell_lt c0
  have HB2 := Lib.hid (alloc_last w1 (.cells #[.int .i64 mf, .int .i64 mt, .int .i64 mn] 54))
  have HM2 := Lib.hid (more_alloc w1 (.cells #[.int .i64 mf, .int .i64 mt, .int .i64 mn] 54))
  go_upto_region 2 with (fail)
  have HB1b := Lib.hid ((HM2.out.block (blk_lt HB1.out)).trans HB1.out)
  generalize w1.alloc (.cells #[.int .i64 mf, .int .i64 mt, .int .i64 mn] 54) = w2 at *
  generalize w1.heap.size = MB at *
  clear c0 c1 c2 hbc
  have m0 : w2.cell? ⟨MB, 0, none⟩ = some (.int .i64 mf) := cell_of_blk HB2.out rfl
  have m1 : w2.cell? ⟨MB, 1, none⟩ = some (.int .i64 mt) := cell_of_blk HB2.out rfl
  have m2 : w2.cell? ⟨MB, 2, none⟩ = some (.int .i64 mn) := cell_of_blk HB2.out rfl
  have c3 : w2.cell? ⟨N, 3, none⟩ = some (.slice sa ln sc) := cell_of_blk HB1b.out rfl
  have hbm := cell_lt m0
  have hbc := cell_lt c3
  have HBE := Lib.hid (show Below N w w2 from by rw [HN.out]; exact (more_trans HM1.out HM2.out).below)
  go_wp2_with fail
  refine (HCO.out _ _).mono ?_
  rintro e wA ⟨rfl, hwA⟩
  have hwA := hwA.symm
  subst hwA
  obtain ⟨q1, HQ1⟩ : ∃ q1, Hid (decide (0 ≤ mf ∧ mf < 8) = q1) := ⟨_, Lib.hid rfl⟩
  rw [HQ1.out]
  rw [HQ1.out] at HE
  cases q1 with
  | false =>
    go_wp2_with fail
    go_ret
    exact ⟨by rw [HE.out]; rfl, HBE.out⟩
  | true =>
    go_wp2_with fail
    refine (HCO.out _ _).mono ?_
    rintro e wA ⟨rfl, hwA⟩
    have hwA := hwA.symm
    subst hwA
    obtain ⟨q2, HQ2⟩ : ∃ q2, Hid (decide (0 ≤ mt ∧ mt < 8) = q2) := ⟨_, Lib.hid rfl⟩
    rw [HQ2.out]
    rw [HQ2.out] at HE
    cases q2 with
    | false =>
      go_wp2_with fail
      go_ret
      exact ⟨by rw [HE.out]; rfl, HBE.out⟩
    | true =>
      by_cases hn0 : mn < 0
      · rw [decide_eq_false (fun h : 0 ≤ mn ∧ mn ≤ 65535 => by omega)] at HE
        go_wp2_with fail
        go_ret
        exact ⟨by rw [HE.out]; rfl, HBE.out⟩
      · by_cases hn1 : 65535 < mn
        · rw [decide_eq_false (fun h : 0 ≤ mn ∧ mn ≤ 65535 => by omega)] at HE
          have hd0 : decide (mn < 0) = false := decide_eq_false hn0
          go_wp2_with fail
          go_ret
          exact ⟨by rw [HE.out]; rfl, HBE.out⟩
        · rw [decide_eq_true (show 0 ≤ mn ∧ mn ≤ 65535 by omega)] at HE
          by_cases hl2 : 2 < ln
          · rw [decide_eq_false (fun h : ln ≤ 2 => by omega)] at HE
            have hd0 : decide (mn < 0) = false := decide_eq_false hn0
            have hd1 : decide (65535 < mn) = false := decide_eq_false hn1
            have hl3 : (2 : Int) < ln := by omega
            go_wp2_with fail
            go_ret
            exact ⟨by rw [HE.out]; rfl, HBE.out⟩
          · rw [decide_eq_true (show ln ≤ 2 by omega)] at HE
            have hd0 : decide (mn < 0) = false := decide_eq_false hn0
            have hd1 : decide (65535 < mn) = false := decide_eq_false hn1
            have hd2 : decide ((2 : Int) < ln) = false := decide_eq_false (by omega)
            have HL2 := Lib.hid (show ln ≤ 2 by omega)
            clear hn0 hn1 hl2 hlen
            go_wp2_with fail
            clear m0 m1 m2 c3 hbm hbc hd0 hd1 hd2
            go_loopw [4, 38] (fun u i wr => ∃ (j : Nat) (last : Int), j ≤ ln ∧ i = .int .i64 j ∧ u = .int .i64 last ∧ Hid (More w2 wr) ∧ Hid (arOkb last (al.drop j) = E)) (fun _ i _ => ln - (intOf i).toNat)
            case atStart => exact ⟨0, 1, Nat.zero_le _, rfl, rfl, Lib.hid (World.grownBy.refl _ _), Lib.hid (by rw [HE.out]; rfl)⟩
            case round =>
              obtain ⟨j, last, hj, rfl, rfl, HM, HEQ⟩ := hrel
              have HMW := Lib.hid (show More w wr from more_trans (more_trans HM1.out HM2.out) HM.out)
              have HBW := Lib.hid (show Below N w wr from by rw [HN.out]; exact HMW.out.below)
              have hln2 := HL2.out
              by_cases hlt : j < ln
              · have hjl : j < al.length := by rw [HLN.out]; exact hlt
                have hrw := HR.out
                rw [← HLN.out] at hrw
                obtain ⟨b, off, rfl, _, hc⟩ := hrw.atC aC_len hjl
                have g0 := HMW.out.cell (hc 0 (.int .i64 al[j].2.tk) rfl)
                have g1 := HMW.out.cell (hc 1 (.int .i64 al[j].2.hd) rfl)
                have g2 := HMW.out.cell (hc 2 al[j].1 rfl)
                rw [Nat.add_zero] at g0
                clear hc hrw
                obtain ⟨xa, xc, hxv, _⟩ := (HAR.out _ (List.getElem_mem hjl)).1.shape
                have hxl := (HAR.out _ (List.getElem_mem hjl)).2
                rw [hxv] at g2
                rw [List.drop_eq_getElem_cons hjl] at HEQ
                have HLT := Lib.hid hlt
                generalize al[j] = x at *
                clear hxv hjl
                unfold maxLen at hxl
                have hbg := cell_lt g0
                have HMO := Lib.hid (more_alloc wr (.cells #[.int .i64 x.2.tk, .int .i64 x.2.hd, .slice xa x.2.l.length xc] 177))
                have HXB := Lib.hid (alloc_last wr (.cells #[.int .i64 x.2.tk, .int .i64 x.2.hd, .slice xa x.2.l.length xc] 177))
                go_upto_region 8 with (fail)
                clear g0 g1 g2 hbg
                have HB9 := Lib.hid (show Below N w _ from HBW.out.trans (HMO.out.below.mono (by rw [HN.out]; exact HMW.out.size)))
                generalize wr.alloc (.cells #[.int .i64 x.2.tk, .int .i64 x.2.hd, .slice xa x.2.l.length xc] 177) = w5 at *
                generalize wr.heap.size = XB at *
                have x0 : w5.cell? ⟨XB, 0, none⟩ = some (.int .i64 x.2.tk) := cell_of_blk HXB.out rfl
                have x1 : w5.cell? ⟨XB, 1, none⟩ = some (.int .i64 x.2.hd) := cell_of_blk HXB.out rfl
                have x2 : w5.cell? ⟨XB, 2, none⟩ = some (.slice xa x.2.l.length xc) := cell_of_blk HXB.out rfl
                have hbx := cell_lt x0
                by_cases hbad : x.2.tk < last ∨ x.2.hd < 0 ∨ 8 ≤ x.2.hd ∨ 4 < x.2.l.length
                · have HF := Lib.hid (show false = E by rw [← HEQ.out, arOkb, if_pos hbad])
                  by_cases h1 : x.2.tk < last
                  · go_wp2_with fail
                    go_ret
                    exact ⟨by rw [← HF.out]; rfl, HB9.out⟩
                  · have e1 : decide (x.2.tk < last) = false := decide_eq_false h1
                    by_cases h2 : x.2.hd < 0
                    · go_wp2_with fail
                      go_ret
                      exact ⟨by rw [← HF.out]; rfl, HB9.out⟩
                    · have e2 : decide (x.2.hd < 0) = false := decide_eq_false h2
                      by_cases h3 : 8 ≤ x.2.hd
                      · go_wp2_with fail
                        go_ret
                        exact ⟨by rw [← HF.out]; rfl, HB9.out⟩
                      · have e3 : decide (8 ≤ x.2.hd) = false := decide_eq_false h3
                        have h4 : (4 : Int) < x.2.l.length := by omega
                        clear hbad h1 h2 h3
                        go_wp2_with fail
                        go_ret
                        exact ⟨by rw [← HF.out]; rfl, HB9.out⟩
                · have HF := Lib.hid (show arOkb x.2.tk (al.drop (j + 1)) = E by rw [← HEQ.out, arOkb, if_neg hbad])
                  have e1 : decide (x.2.tk < last) = false := decide_eq_false (by omega)
                  have e2 : decide (x.2.hd < 0) = false := decide_eq_false (by omega)
                  have e3 : decide (8 ≤ x.2.hd) = false := decide_eq_false (by omega)
                  have e4 : decide ((4 : Int) < x.2.l.length) = false := decide_eq_false (by omega)
                  clear hbad
                  have hlt9 := HLT.out
                  go_wp2_with fail
                  go_roundw
                  case rel => exact ⟨j + 1, x.2.tk, by omega, by go_num, rfl, Lib.hid (more_trans HM.out HMO.out), HF⟩
                  case measure => have := HLT.out; simp [intOf]; omega
              · obtain rfl : j = ln := by omega
                rw [List.drop_of_length_le (by rw [HLN.out]; exact Nat.le_refl _)] at HEQ
                go_wp2_with fail
                go_ret
                exact ⟨by rw [← HEQ.out]; rfl, HBW.out⟩
end Go.Proofs.Ytemeppfikpafbaa

/- slices.IndexFunc, slices.ContainsFunc at holds (249, 234), the closure of held (235), held (196), cloneArrival (197). -/
namespace Go.Proofs.Ytemeppfikpafbaa
open Go.RowKit
set_option maxRecDepth 100000 in
set_option maxHeartbeats 1000000 in
theorem indexH_any (l : List HV) (p : HV → Bool) (v : Value) (B : Addr) (w : World) (hl : l.length < 1000000) (h : Row anyB w 4 l.length v (flatC hC l))
    (hcl : ∀ x ∈ l, ∀ W, More w W → Calls Try.prog 235 #[.agg #[.int .i64 x.2.m.f, .int .i64 x.2.m.t, .int .i64 x.2.m.n, x.1], .pointer (some B)] W fun e w' => e = .returned (.bool (p x)) ∧ More W w') :
    Calls Try.prog 249 #[v, .func (.func 235) #[] #[.pointer (some B)]] w fun e w' => (∃ i : Int, e = .returned (.int .i64 i) ∧ decide (0 ≤ i) = l.any p) ∧ More w w' := by
  obtain ⟨a, cap, rfl, _⟩ := h.shape
  have HR := Lib.hid h; clear h
  have HCL := Lib.hid hcl; clear hcl
  go_enter Try.func249, Try.ntmps249
  go_wp2_with fail
  go_loopw [8] (fun i wr => ∃ j : Nat, j ≤ l.length ∧ i = .int .i64 j ∧ Hid (More w wr) ∧ Hid ((l.take j).any p = false)) (fun i _ => l.length - (intOf i).toNat)
  case atStart => exact ⟨0, Nat.zero_le _, rfl, Lib.hid (World.grownBy.refl _ _), Lib.hid (by simp)⟩
  case round =>
    obtain ⟨j, hj, rfl, HM, HN⟩ := hrel
    by_cases hlt : j < l.length
    · obtain ⟨b, off, rfl, _, hc⟩ := HR.out.atC hC_len hlt
      have g0 := HM.out.cell (hc 0 (.int .i64 l[j].2.m.f) rfl)
      have g1 := HM.out.cell (hc 1 (.int .i64 l[j].2.m.t) rfl)
      have g2 := HM.out.cell (hc 2 (.int .i64 l[j].2.m.n) rfl)
      have g3 := HM.out.cell (hc 3 (l[j].1) rfl)
      rw [Nat.add_zero] at g0
      clear hc
      have HT := Lib.hid (show l.take (j + 1) = l.take j ++ [l[j]] from List.take_succ_eq_append_getElem hlt)
      have HX := Lib.hid (HCL.out l[j] (List.getElem_mem hlt))
      have HANY := Lib.hid (show p l[j] = true → l.any p = true from fun h => List.any_eq_true.2 ⟨_, List.getElem_mem hlt, h⟩)
      generalize l[j] = x at *
      obtain ⟨q, HQ⟩ : ∃ q, Hid (p x = q) := ⟨_, Lib.hid rfl⟩
      rw [HQ.out] at HX HANY
      have hbg := cell_lt g0
      go_wp2_with fail
      refine (HX.out _ HM.out).mono ?_
      rintro e w2 ⟨rfl, hm2⟩
      have HM2 := Lib.hid (more_trans HM.out hm2)
      clear hm2 g0 g1 g2 g3 hbg
      cases q with
      | true =>
        go_wp2_with fail
        go_ret
        exact ⟨⟨j, rfl, by rw [HANY.out (by simp), decide_eq_true_iff]; omega⟩, HM2.out⟩
      | false =>
        go_wp2_with fail
        go_roundw
        case rel => exact ⟨j + 1, by omega, by go_num, HM2, Lib.hid (by rw [HT.out, List.any_append, HN.out]; simp [HQ.out])⟩
        case measure => simp [intOf]; omega
    · obtain rfl : j = l.length := by omega
      rw [List.take_of_length_le (Nat.le_refl _)] at HN
      go_wp2_with fail
      go_ret
      exact ⟨⟨-1, rfl, by rw [HN.out]; rfl⟩, HM.out⟩
set_option maxRecDepth 100000 in
theorem containsH_any (l : List HV) (p : HV → Bool) (v : Value) (B : Addr) (w : World) (hl : l.length < 1000000) (h : Row anyB w 4 l.length v (flatC hC l))
    (hcl : ∀ x ∈ l, ∀ W, More w W → Calls Try.prog 235 #[.agg #[.int .i64 x.2.m.f, .int .i64 x.2.m.t, .int .i64 x.2.m.n, x.1], .pointer (some B)] W fun e w' => e = .returned (.bool (p x)) ∧ More W w') :
    Calls Try.prog 234 #[v, .func (.func 235) #[] #[.pointer (some B)]] w fun e w' => e = .returned (.bool (l.any p)) ∧ More w w' := by
  obtain ⟨a, cap, rfl, _⟩ := h.shape
  have HI := Lib.hid (indexH_any l p _ B w hl h hcl)
  clear h hcl
  go_enter Try.func234, Try.ntmps234
  go_wp2_with fail
  refine HI.out.mono ?_
  rintro e w2 ⟨⟨i, rfl, hi⟩, hm⟩
  have HM := Lib.hid hm
  have HD := Lib.hid hi
  clear hm hi
  go_wp2_with fail
  go_ret
  exact ⟨by rw [← HD.out]; rfl, HM.out⟩
set_option maxRecDepth 100000 in
theorem held235_any (x : HV) (m : M3) (B : Nat) (w : World) (hx : ∃ a n c, x.1 = .slice a n c) (hB : w.heap[B]? = some (.cells #[.int .i64 m.f, .int .i64 m.t, .int .i64 m.n] 54)) :
    Calls Try.prog 235 #[.agg #[.int .i64 x.2.m.f, .int .i64 x.2.m.t, .int .i64 x.2.m.n, x.1], .pointer (some ⟨B, 0, none⟩)] w fun e w' => e = .returned (.bool (decide (x.2.m = m))) ∧ More w w' := by
  obtain ⟨xa, xn, xc, hxv⟩ := hx
  rw [hxv]
  clear hxv
  have heq := fun W => run_eqM x.2.m m W
  generalize decide (x.2.m = m) = q at *
  have HX := Lib.hid (alloc_last w (.cells #[.int .i64 x.2.m.f, .int .i64 x.2.m.t, .int .i64 x.2.m.n, .slice xa xn xc] 166))
  have HM := Lib.hid (more_alloc w (.cells #[.int .i64 x.2.m.f, .int .i64 x.2.m.t, .int .i64 x.2.m.n, .slice xa xn xc] 166))
  have HBB := Lib.hid ((HM.out.block (blk_lt hB)).trans hB)
  clear hB
  go_enter Try.func235, Try.ntmps235
  go_upto_region 1 with (fail)
  generalize w.alloc (.cells #[.int .i64 x.2.m.f, .int .i64 x.2.m.t, .int .i64 x.2.m.n, .slice xa xn xc] 166) = w1 at *
  generalize w.heap.size = XB at *
  have x0 : w1.cell? ⟨XB, 0, none⟩ = some (.int .i64 x.2.m.f) := cell_of_blk HX.out rfl
  have x1 : w1.cell? ⟨XB, 1, none⟩ = some (.int .i64 x.2.m.t) := cell_of_blk HX.out rfl
  have x2 : w1.cell? ⟨XB, 2, none⟩ = some (.int .i64 x.2.m.n) := cell_of_blk HX.out rfl
  have b0 : w1.cell? ⟨B, 0, none⟩ = some (.int .i64 m.f) := cell_of_blk HBB.out rfl
  have b1 : w1.cell? ⟨B, 1, none⟩ = some (.int .i64 m.t) := cell_of_blk HBB.out rfl
  have b2 : w1.cell? ⟨B, 2, none⟩ = some (.int .i64 m.n) := cell_of_blk HBB.out rfl
  have hbx := cell_lt x0
  have hbb := cell_lt b0
  go_wp2_with fail
  go_ret
  exact ⟨rfl, HM.out⟩
set_option maxRecDepth 100000 in
theorem held196_any (l : List HV) (m : M3) (NB : Nat) (hv : Value) (w : World) (hl : l.length < 1000000) (hs : ∀ x ∈ l, ∃ a n c, x.1 = .slice a n c) (hc : w.cell? ⟨NB, 1, none⟩ = some hv) (hr : Row anyB w 4 l.length hv (flatC hC l)) :
    Calls Try.prog 196 #[.pointer (some ⟨NB, 0, none⟩), .agg #[.int .i64 m.f, .int .i64 m.t, .int .i64 m.n]] w fun e w' => e = .returned (.bool (l.any fun x => decide (x.2.m = m))) ∧ More w w' := by
  obtain ⟨a, cap, rfl, _⟩ := hr.shape
  have HX := Lib.hid (alloc_last w (.cells #[.int .i64 m.f, .int .i64 m.t, .int .i64 m.n] 54))
  have HM := Lib.hid (more_alloc w (.cells #[.int .i64 m.f, .int .i64 m.t, .int .i64 m.n] 54))
  have HR := Lib.hid (hr.below HM.out.below)
  have HC := Lib.hid (HM.out.cell hc)
  have HS := Lib.hid hs
  clear hr hc hs
  generalize hq : (l.any fun x => decide (x.2.m = m)) = q
  have HQ := Lib.hid hq; clear hq
  go_enter Try.func196, Try.ntmps196
  go_upto_region 1 with (fail)
  generalize w.alloc (.cells #[.int .i64 m.f, .int .i64 m.t, .int .i64 m.n] 54) = w1 at *
  generalize w.heap.size = B at *
  have HCC := Lib.hid (containsH_any l (fun x => decide (x.2.m = m)) _ ⟨B, 0, none⟩ w1 hl HR.out (fun x hx W hW => held235_any x m B W (HS.out x hx) ((hW.block (blk_lt HX.out)).trans HX.out)))
  rw [HQ.out] at HCC
  have c1 : w1.cell? ⟨NB, 1, none⟩ = some (.slice a l.length cap) := HC.out
  have hbc := cell_lt c1
  go_wp2_with fail
  refine HCC.out.mono ?_
  rintro e w2 ⟨rfl, hm2⟩
  have HM2 := Lib.hid (more_trans HM.out hm2)
  clear hm2
  go_wp2_with fail
  go_ret
  exact ⟨rfl, HM2.out⟩
end Go.Proofs.Ytemeppfikpafbaa

