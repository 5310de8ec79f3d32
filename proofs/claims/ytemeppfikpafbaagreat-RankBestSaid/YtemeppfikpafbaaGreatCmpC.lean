/- slices.CompareFunc (230, 232), cause.compareList (186, 190) under the orders' compare. -/
import Derived.Test.YtemeppfikpafbaaGreatSrtC
namespace Go.Proofs.YtemeppfikpafbaaGreat
open Go.RowKit Go.Sort
/-- The first comparison that is not zero. -/
def firstNZ {α : Type} (cf : α → α → Int) : List α → List α → Int
  | x :: l, y :: m => if cf x y = 0 then firstNZ cf l m else cf x y
  | _, _ => 0
theorem firstNZ_step {α : Type} (cf : α → α → Int) {l m : List α} {j : Nat} (h1 : j < l.length) (h2 : j < m.length) : firstNZ cf (l.drop j) (m.drop j) = if cf l[j] m[j] = 0 then firstNZ cf (l.drop (j + 1)) (m.drop (j + 1)) else cf l[j] m[j] := by
  rw [List.drop_eq_getElem_cons h1, List.drop_eq_getElem_cons h2]
  rfl
theorem firstNZ_end {α : Type} (cf : α → α → Int) (l m : List α) : firstNZ cf (l.drop l.length) m = 0 := by
  rw [List.drop_length]; cases m <;> rfl
/-- Two lists: by their lengths, then element by element. -/
def cmpL {α : Type} (cf : α → α → Int) (l m : List α) : Int := if l.length = m.length then firstNZ cf l m else (l.length : Int) - m.length
set_option maxRecDepth 100000 in
set_option maxHeartbeats 4000000 in
theorem compareFuncK_any (l m : List K4) (v u : Value) (w : World) (hll : l.length ≤ 100000) (hlm : l.length = m.length) (h : Row anyB w 4 l.length v (flatC kC l)) (k : Row anyB w 4 m.length u (flatC kC m)) :
    Calls Tryz.prog 77 #[v, u, .func (.func 54) #[.agg #[.func (.func 73) #[] #[]]] #[]] w fun e w' => e = .returned (.int .i64 (firstNZ sgnK l m)) ∧ More w w' := by
  obtain ⟨a, cap, rfl, _⟩ := h.shape
  obtain ⟨a', cap', rfl, _⟩ := k.shape
  have HR := Lib.hid h; clear h
  have HS := Lib.hid k; clear k
  have HO := Lib.hid (show ∀ (x y : K4) (W : World), Calls Tryz.prog 54 #[.agg #[.func (.func 73) #[] #[]], .agg #[.int .u8 x.kind, .int .i64 x.a, .int .i64 x.b, .int .i64 x.n], .agg #[.int .u8 y.kind, .int .i64 y.a, .int .i64 y.b, .int .i64 y.n]] W fun e w' => e = .returned (.int .i64 (sgnK x y)) ∧ Lay W w' from fun x y W => orderK_any x y W)
  have HLM := Lib.hid hlm
  clear hlm
  go_enter Tryz.func77, Tryz.ntmps77
  go_wp2_with fail
  go_loopw [13] (fun i wr => ∃ j : Nat, j ≤ l.length ∧ i = .int .i64 j ∧ Hid (More w wr) ∧ Hid (firstNZ sgnK l m = firstNZ sgnK (l.drop j) (m.drop j))) (fun i _ => l.length - (intOf i).toNat)
  case atStart => exact ⟨0, Nat.zero_le _, rfl, Lib.hid (World.grownBy.refl _ _), Lib.hid rfl⟩
  case round =>
    obtain ⟨j, hj, rfl, HMr, HF⟩ := hrel
    by_cases hlt : j < l.length
    · have hlt2 : j < m.length := by have := HLM.out; omega
      obtain ⟨b, off, rfl, _, hc⟩ := HR.out.atC kC_len hlt
      have g0 := HMr.out.cell (hc 0 (.int .u8 l[j].kind) rfl)
      have g1 := HMr.out.cell (hc 1 (.int .i64 l[j].a) rfl)
      have g2 := HMr.out.cell (hc 2 (.int .i64 l[j].b) rfl)
      have g3 := HMr.out.cell (hc 3 (.int .i64 l[j].n) rfl)
      rw [Nat.add_zero] at g0
      clear hc
      obtain ⟨b', off', rfl, _, hc⟩ := HS.out.atC kC_len hlt2
      have e0 := HMr.out.cell (hc 0 (.int .u8 m[j].kind) rfl)
      have e1 := HMr.out.cell (hc 1 (.int .i64 m[j].a) rfl)
      have e2 := HMr.out.cell (hc 2 (.int .i64 m[j].b) rfl)
      have e3 := HMr.out.cell (hc 3 (.int .i64 m[j].n) rfl)
      rw [Nat.add_zero] at e0
      clear hc
      have HST := Lib.hid (firstNZ_step sgnK hlt hlt2)
      generalize l[j] = x at *
      generalize m[j] = y at *
      have hbg := cell_lt g0
      have hbe := cell_lt e0
      have e0a := alloc_cell (.cells #[.int .u8 x.kind, .int .i64 x.a, .int .i64 x.b, .int .i64 x.n] 54) e0
      have e1a := alloc_cell (.cells #[.int .u8 x.kind, .int .i64 x.a, .int .i64 x.b, .int .i64 x.n] 54) e1
      have e2a := alloc_cell (.cells #[.int .u8 x.kind, .int .i64 x.a, .int .i64 x.b, .int .i64 x.n] 54) e2
      have e3a := alloc_cell (.cells #[.int .u8 x.kind, .int .i64 x.a, .int .i64 x.b, .int .i64 x.n] 54) e3
      obtain ⟨b1, b2, hm⟩ := boxed2 wr (.cells #[.int .u8 x.kind, .int .i64 x.a, .int .i64 x.b, .int .i64 x.n] 54) (.cells #[.int .u8 y.kind, .int .i64 y.a, .int .i64 y.b, .int .i64 y.n] 54)
      have HX := Lib.hid b1
      have HY := Lib.hid b2
      have HM5 := Lib.hid hm.1
      clear b1 b2 hm
      have hlt' := hlt
      go_upto_region 7 with (fail)
      clear g0 e0 e0a g1 e1 e1a g2 e2 e2a g3 e3 e3a hbg hbe
      obtain ⟨YB, HYE⟩ : ∃ YB, Hid (YB = wr.heap.size + 1) := ⟨_, Lib.hid rfl⟩
      rw [← HYE.out] at HY ⊢
      obtain ⟨XB, HXE⟩ : ∃ XB, Hid (XB = wr.heap.size) := ⟨_, Lib.hid rfl⟩
      rw [← HXE.out] at HX ⊢
      generalize (wr.alloc (.cells #[.int .u8 x.kind, .int .i64 x.a, .int .i64 x.b, .int .i64 x.n] 54)).alloc (.cells #[.int .u8 y.kind, .int .i64 y.a, .int .i64 y.b, .int .i64 y.n] 54) = w5 at *
      have c0 : w5.cell? ⟨XB, 0, none⟩ = some (.int .u8 x.kind) := cell_of_blk HX.out rfl
      have c1 : w5.cell? ⟨XB, 1, none⟩ = some (.int .i64 x.a) := cell_of_blk HX.out rfl
      have c2 : w5.cell? ⟨XB, 2, none⟩ = some (.int .i64 x.b) := cell_of_blk HX.out rfl
      have c3 : w5.cell? ⟨XB, 3, none⟩ = some (.int .i64 x.n) := cell_of_blk HX.out rfl
      have d0 : w5.cell? ⟨YB, 0, none⟩ = some (.int .u8 y.kind) := cell_of_blk HY.out rfl
      have d1 : w5.cell? ⟨YB, 1, none⟩ = some (.int .i64 y.a) := cell_of_blk HY.out rfl
      have d2 : w5.cell? ⟨YB, 2, none⟩ = some (.int .i64 y.b) := cell_of_blk HY.out rfl
      have d3 : w5.cell? ⟨YB, 3, none⟩ = some (.int .i64 y.n) := cell_of_blk HY.out rfl
      have hxb := cell_lt c0
      have hyb := cell_lt d0
      go_wp2_with fail
      refine (HO.out x y _).mono ?_
      rintro e w6 ⟨rfl, hl6⟩
      have HM6 := Lib.hid (more_trans HMr.out (more_trans HM5.out hl6.1))
      clear hl6 c0 d0 c1 d1 c2 d2 c3 d3 hxb hyb
      by_cases hz : sgnK x y = 0
      · have HN := Lib.hid (show firstNZ sgnK l m = firstNZ sgnK (l.drop (j + 1)) (m.drop (j + 1)) by rw [HF.out, HST.out, if_pos hz])
        rw [hz]
        go_wp2_with fail
        go_roundw
        case rel => exact ⟨j + 1, by omega, by go_num, HM6, HN⟩
        case measure => simp [intOf]; omega
      · have HN := Lib.hid (show firstNZ sgnK l m = sgnK x y by rw [HF.out, HST.out, if_neg hz])
        generalize sgnK x y = z at *
        have hzb : (z == 0) = false := by simpa using hz
        go_wp2_with fail
        go_ret
        rw [HN.out]
        exact ⟨rfl, HM6.out⟩
    · obtain rfl : j = l.length := by omega
      have HN := Lib.hid (show firstNZ sgnK l m = 0 by rw [HF.out]; exact firstNZ_end _ _ _)
      clear hlt hj
      have hle : m.length ≤ l.length := Nat.le_of_eq HLM.out.symm
      go_wp2_with fail
      go_ret
      rw [HN.out]
      exact ⟨rfl, HMr.out⟩
set_option maxRecDepth 100000 in
set_option maxHeartbeats 4000000 in
theorem compareListK_any (l m : List K4) (v u : Value) (w : World) (hll : l.length ≤ 100000) (hlm : m.length ≤ 100000) (h : Row anyB w 4 l.length v (flatC kC l)) (k : Row anyB w 4 m.length u (flatC kC m)) :
    Calls Tryz.prog 51 #[v, u, .func (.func 54) #[.agg #[.func (.func 73) #[] #[]]] #[]] w fun e w' => e = .returned (.int .i64 (cmpL sgnK l m)) ∧ More w w' := by
  by_cases he : l.length = m.length
  · have HC := Lib.hid (compareFuncK_any l m v u w hll he h k)
    have HE := Lib.hid (show cmpL sgnK l m = firstNZ sgnK l m by unfold cmpL; rw [if_pos he])
    rw [HE.out]
    obtain ⟨a, cap, rfl, _⟩ := h.shape
    obtain ⟨a', cap', rfl, _⟩ := k.shape
    clear h k HE
    rw [he] at HC ⊢
    generalize firstNZ sgnK l m = r at *
    clear he hll
    generalize m.length = n at *
    go_enter Tryz.func51, Tryz.ntmps51
    go_wp2_with fail
    refine HC.out.mono ?_
    rintro e w1 ⟨rfl, hm1⟩
    have HM := Lib.hid hm1
    clear hm1
    go_wp2_with fail
    go_ret
    exact ⟨rfl, HM.out⟩
  · have HE := Lib.hid (show cmpL sgnK l m = (l.length : Int) - m.length by unfold cmpL; rw [if_neg he])
    rw [HE.out]
    obtain ⟨a, cap, rfl, _⟩ := h.shape
    obtain ⟨a', cap', rfl, _⟩ := k.shape
    have hne : ((l.length : Int) == (m.length : Int)) = false := by simp; omega
    clear h k HE he
    generalize l.length = n1 at *
    generalize m.length = n2 at *
    have hw : IntKind.i64.wrap ((n1 : Int) - (n2 : Int)) = (n1 : Int) - (n2 : Int) := by rw [IntKind.wrap_i64]; omega
    go_enter Tryz.func51, Tryz.ntmps51
    go_wp2_with fail
    go_ret
    exact ⟨rfl, World.grownBy.refl _ _⟩
set_option maxRecDepth 100000 in
set_option maxHeartbeats 4000000 in
theorem compareFuncM_any (l m : List M3) (v u : Value) (w : World) (hll : l.length ≤ 100000) (hlm : l.length = m.length) (h : Row anyB w 3 l.length v (flatC mC l)) (k : Row anyB w 3 m.length u (flatC mC m)) :
    Calls Tryz.prog 79 #[v, u, .func (.func 58) #[.agg #[.func (.func 80) #[] #[]]] #[]] w fun e w' => e = .returned (.int .i64 (firstNZ sgnM l m)) ∧ More w w' := by
  obtain ⟨a, cap, rfl, _⟩ := h.shape
  obtain ⟨a', cap', rfl, _⟩ := k.shape
  have HR := Lib.hid h; clear h
  have HS := Lib.hid k; clear k
  have HO := Lib.hid (show ∀ (x y : M3) (W : World), Calls Tryz.prog 58 #[.agg #[.func (.func 80) #[] #[]], .agg #[.int .i64 x.f, .int .i64 x.t, .int .i64 x.n], .agg #[.int .i64 y.f, .int .i64 y.t, .int .i64 y.n]] W fun e w' => e = .returned (.int .i64 (sgnM x y)) ∧ Lay W w' from fun x y W => orderM_any x y W)
  have HLM := Lib.hid hlm
  clear hlm
  go_enter Tryz.func79, Tryz.ntmps79
  go_wp2_with fail
  go_loopw [13] (fun i wr => ∃ j : Nat, j ≤ l.length ∧ i = .int .i64 j ∧ Hid (More w wr) ∧ Hid (firstNZ sgnM l m = firstNZ sgnM (l.drop j) (m.drop j))) (fun i _ => l.length - (intOf i).toNat)
  case atStart => exact ⟨0, Nat.zero_le _, rfl, Lib.hid (World.grownBy.refl _ _), Lib.hid rfl⟩
  case round =>
    obtain ⟨j, hj, rfl, HMr, HF⟩ := hrel
    by_cases hlt : j < l.length
    · have hlt2 : j < m.length := by have := HLM.out; omega
      obtain ⟨b, off, rfl, _, hc⟩ := HR.out.atC mC_len hlt
      have g0 := HMr.out.cell (hc 0 (.int .i64 l[j].f) rfl)
      have g1 := HMr.out.cell (hc 1 (.int .i64 l[j].t) rfl)
      have g2 := HMr.out.cell (hc 2 (.int .i64 l[j].n) rfl)
      rw [Nat.add_zero] at g0
      clear hc
      obtain ⟨b', off', rfl, _, hc⟩ := HS.out.atC mC_len hlt2
      have e0 := HMr.out.cell (hc 0 (.int .i64 m[j].f) rfl)
      have e1 := HMr.out.cell (hc 1 (.int .i64 m[j].t) rfl)
      have e2 := HMr.out.cell (hc 2 (.int .i64 m[j].n) rfl)
      rw [Nat.add_zero] at e0
      clear hc
      have HST := Lib.hid (firstNZ_step sgnM hlt hlt2)
      generalize l[j] = x at *
      generalize m[j] = y at *
      have hbg := cell_lt g0
      have hbe := cell_lt e0
      have e0a := alloc_cell (.cells #[.int .i64 x.f, .int .i64 x.t, .int .i64 x.n] 57) e0
      have e1a := alloc_cell (.cells #[.int .i64 x.f, .int .i64 x.t, .int .i64 x.n] 57) e1
      have e2a := alloc_cell (.cells #[.int .i64 x.f, .int .i64 x.t, .int .i64 x.n] 57) e2
      obtain ⟨b1, b2, hm⟩ := boxed2 wr (.cells #[.int .i64 x.f, .int .i64 x.t, .int .i64 x.n] 57) (.cells #[.int .i64 y.f, .int .i64 y.t, .int .i64 y.n] 57)
      have HX := Lib.hid b1
      have HY := Lib.hid b2
      have HM5 := Lib.hid hm.1
      clear b1 b2 hm
      have hlt' := hlt
      go_upto_region 7 with (fail)
      clear g0 e0 e0a g1 e1 e1a g2 e2 e2a hbg hbe
      obtain ⟨YB, HYE⟩ : ∃ YB, Hid (YB = wr.heap.size + 1) := ⟨_, Lib.hid rfl⟩
      rw [← HYE.out] at HY ⊢
      obtain ⟨XB, HXE⟩ : ∃ XB, Hid (XB = wr.heap.size) := ⟨_, Lib.hid rfl⟩
      rw [← HXE.out] at HX ⊢
      generalize (wr.alloc (.cells #[.int .i64 x.f, .int .i64 x.t, .int .i64 x.n] 57)).alloc (.cells #[.int .i64 y.f, .int .i64 y.t, .int .i64 y.n] 57) = w5 at *
      have c0 : w5.cell? ⟨XB, 0, none⟩ = some (.int .i64 x.f) := cell_of_blk HX.out rfl
      have c1 : w5.cell? ⟨XB, 1, none⟩ = some (.int .i64 x.t) := cell_of_blk HX.out rfl
      have c2 : w5.cell? ⟨XB, 2, none⟩ = some (.int .i64 x.n) := cell_of_blk HX.out rfl
      have d0 : w5.cell? ⟨YB, 0, none⟩ = some (.int .i64 y.f) := cell_of_blk HY.out rfl
      have d1 : w5.cell? ⟨YB, 1, none⟩ = some (.int .i64 y.t) := cell_of_blk HY.out rfl
      have d2 : w5.cell? ⟨YB, 2, none⟩ = some (.int .i64 y.n) := cell_of_blk HY.out rfl
      have hxb := cell_lt c0
      have hyb := cell_lt d0
      go_wp2_with fail
      refine (HO.out x y _).mono ?_
      rintro e w6 ⟨rfl, hl6⟩
      have HM6 := Lib.hid (more_trans HMr.out (more_trans HM5.out hl6.1))
      clear hl6 c0 d0 c1 d1 c2 d2 hxb hyb
      by_cases hz : sgnM x y = 0
      · have HN := Lib.hid (show firstNZ sgnM l m = firstNZ sgnM (l.drop (j + 1)) (m.drop (j + 1)) by rw [HF.out, HST.out, if_pos hz])
        rw [hz]
        go_wp2_with fail
        go_roundw
        case rel => exact ⟨j + 1, by omega, by go_num, HM6, HN⟩
        case measure => simp [intOf]; omega
      · have HN := Lib.hid (show firstNZ sgnM l m = sgnM x y by rw [HF.out, HST.out, if_neg hz])
        generalize sgnM x y = z at *
        have hzb : (z == 0) = false := by simpa using hz
        go_wp2_with fail
        go_ret
        rw [HN.out]
        exact ⟨rfl, HM6.out⟩
    · obtain rfl : j = l.length := by omega
      have HN := Lib.hid (show firstNZ sgnM l m = 0 by rw [HF.out]; exact firstNZ_end _ _ _)
      clear hlt hj
      have hle : m.length ≤ l.length := Nat.le_of_eq HLM.out.symm
      go_wp2_with fail
      go_ret
      rw [HN.out]
      exact ⟨rfl, HMr.out⟩
set_option maxRecDepth 100000 in
set_option maxHeartbeats 4000000 in
theorem compareListM_any (l m : List M3) (v u : Value) (w : World) (hll : l.length ≤ 100000) (hlm : m.length ≤ 100000) (h : Row anyB w 3 l.length v (flatC mC l)) (k : Row anyB w 3 m.length u (flatC mC m)) :
    Calls Tryz.prog 55 #[v, u, .func (.func 58) #[.agg #[.func (.func 80) #[] #[]]] #[]] w fun e w' => e = .returned (.int .i64 (cmpL sgnM l m)) ∧ More w w' := by
  by_cases he : l.length = m.length
  · have HC := Lib.hid (compareFuncM_any l m v u w hll he h k)
    have HE := Lib.hid (show cmpL sgnM l m = firstNZ sgnM l m by unfold cmpL; rw [if_pos he])
    rw [HE.out]
    obtain ⟨a, cap, rfl, _⟩ := h.shape
    obtain ⟨a', cap', rfl, _⟩ := k.shape
    clear h k HE
    rw [he] at HC ⊢
    generalize firstNZ sgnM l m = r at *
    clear he hll
    generalize m.length = n at *
    go_enter Tryz.func55, Tryz.ntmps55
    go_wp2_with fail
    refine HC.out.mono ?_
    rintro e w1 ⟨rfl, hm1⟩
    have HM := Lib.hid hm1
    clear hm1
    go_wp2_with fail
    go_ret
    exact ⟨rfl, HM.out⟩
  · have HE := Lib.hid (show cmpL sgnM l m = (l.length : Int) - m.length by unfold cmpL; rw [if_neg he])
    rw [HE.out]
    obtain ⟨a, cap, rfl, _⟩ := h.shape
    obtain ⟨a', cap', rfl, _⟩ := k.shape
    have hne : ((l.length : Int) == (m.length : Int)) = false := by simp; omega
    clear h k HE he
    generalize l.length = n1 at *
    generalize m.length = n2 at *
    have hw : IntKind.i64.wrap ((n1 : Int) - (n2 : Int)) = (n1 : Int) - (n2 : Int) := by rw [IntKind.wrap_i64]; omega
    go_enter Tryz.func55, Tryz.ntmps55
    go_wp2_with fail
    go_ret
    exact ⟨rfl, World.grownBy.refl _ _⟩
end Go.Proofs.YtemeppfikpafbaaGreat
