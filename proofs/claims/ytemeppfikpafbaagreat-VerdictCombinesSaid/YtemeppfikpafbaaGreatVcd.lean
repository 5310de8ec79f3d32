/- Texts Ratio, Degree, InsF, NilB, HolF, FSwp, laid together. -/
import Derived.Deep.DeepCutAuto
import Derived.Deep.RegionHeld3
import Derived.Deep.QuietTactic
import Derived.BigQuiet
import Derived.Test.YtemeppfikpafbaaGreatVcb
import Derived.Test.YtemeppfikpafbaaGreatVcc
/- package ratio at degrees: size (76), gcd (78), one (74), Valid (31), times (75), order (77), Cmp (30). -/
namespace Go.Proofs.YtemeppfikpafbaaGreat
open Go.RowKit
theorem size_any (v : Int) (w : World) (h0 : 0 ≤ v) (h1 : v ≤ 1000000) : Calls Tryz.prog 70 #[.int .i64 v] w fun e w' => e = .returned (.int .u64 v) ∧ w' = w := by
  have t1 : decide (v < 0) = false := by simpa using h0
  go_enter Tryz.func70, Tryz.ntmps70
  go_wp2_with fail
  go_ret
  exact ⟨rfl, rfl⟩
theorem gcd0_any (w : World) : Calls Tryz.prog 96 #[.int .u64 0, .int .u64 1] w fun e w' => e = .returned (.int .u64 1) ∧ w' = w := by
  go_enter Tryz.func96, Tryz.ntmps96
  go_wp2_with fail
  refine wp_loop_rounds 1 ?_
  rw [rounds_succ]
  go_wp2_with fail
  go_ret
  exact ⟨rfl, rfl⟩
theorem gcd1_any (n : Int) (w : World) (_h0 : 1 ≤ n) (_h1 : n ≤ 1000000) : Calls Tryz.prog 96 #[.int .u64 1, .int .u64 n] w fun e w' => e = .returned (.int .u64 1) ∧ w' = w := by
  have hm : n % 1 = 0 := by omega
  go_enter Tryz.func96, Tryz.ntmps96
  go_wp2_with fail
  refine wp_loop_rounds 2 ?_
  rw [rounds_succ]
  go_wp2_with fail
  rw [rounds_succ]
  go_wp2_with fail
  go_ret
  exact ⟨rfl, rfl⟩
/-- A degree: 0 of 0 (none), 0 of 1, or 1 of n. -/
def OkR (x : Int × Int) : Prop := x = (0, 0) ∨ x = (0, 1) ∨ (x.1 = 1 ∧ 1 ≤ x.2 ∧ x.2 ≤ 1000)
def rA (x : Int × Int) : Value := .agg #[.int .i64 x.1, .int .i64 x.2]
def oneR (x : Int × Int) : Int × Int := if x = (0, 0) then (0, 1) else x
set_option maxRecDepth 100000 in
theorem one_any (x : Int × Int) (w : World) (h : OkR x) : Calls Tryz.prog 68 #[rA x] w fun e w' => e = .returned (rA (oneR x)) ∧ Lay w w' := by
  obtain ⟨p, q⟩ := x
  unfold rA
  by_cases hz : p = 0 ∧ q = 0
  · obtain ⟨rfl, rfl⟩ := hz
    go_enter Tryz.func68, Tryz.ntmps68
    go_wp2_with fail
    have h := alloc_at (w.alloc (.cells #[.int .i64 0, .int .i64 0] 61)) (.cells #[.int .i64 0, .int .i64 1] 61) (n := w.heap.size + 1) (by simp)
    have c0 : ((w.alloc (.cells #[.int .i64 0, .int .i64 0] 61)).alloc (.cells #[.int .i64 0, .int .i64 1] 61)).cell? ⟨w.heap.size + 1, 0, none⟩ = some (.int .i64 0) := cell_of_blk h rfl
    have c1 : ((w.alloc (.cells #[.int .i64 0, .int .i64 0] 61)).alloc (.cells #[.int .i64 0, .int .i64 1] 61)).cell? ⟨w.heap.size + 1, 1, none⟩ = some (.int .i64 1) := cell_of_blk h rfl
    exact bodyPost_ret (v := .agg #[.int .i64 0, .int .i64 1]) (by simp [results, Tryz.results68, go_sem, c0, c1]) rfl ⟨rfl, (Lay.alloc _ _).trans (Lay.alloc _ _)⟩
  · have HO := Lib.hid (show oneR (p, q) = (p, q) by unfold oneR; rw [if_neg (by simpa using hz)])
    rw [HO.out]
    have hb : -9223372036854775808 ≤ p ∧ p ≤ 9223372036854775807 ∧ -9223372036854775808 ≤ q ∧ q ≤ 9223372036854775807 := by
      rcases h with h | h | h
      · cases h; omega
      · cases h; omega
      · simp only at h; omega
    clear h HO
    by_cases hp : p = 0
    · subst hp
      have hq : ¬ q = 0 := fun e => hz ⟨rfl, e⟩
      clear hz
      go_enter Tryz.func68, Tryz.ntmps68
      go_wp2_with fail
      have h := alloc_at (w.alloc (.cells #[.int .i64 0, .int .i64 q] 61)) (.cells #[.int .i64 0, .int .i64 q] 61) (n := w.heap.size + 1) (by simp)
      have c0 : ((w.alloc (.cells #[.int .i64 0, .int .i64 q] 61)).alloc (.cells #[.int .i64 0, .int .i64 q] 61)).cell? ⟨w.heap.size + 1, 0, none⟩ = some (.int .i64 0) := cell_of_blk h rfl
      have c1 : ((w.alloc (.cells #[.int .i64 0, .int .i64 q] 61)).alloc (.cells #[.int .i64 0, .int .i64 q] 61)).cell? ⟨w.heap.size + 1, 1, none⟩ = some (.int .i64 q) := cell_of_blk h rfl
      exact bodyPost_ret (v := .agg #[.int .i64 0, .int .i64 q]) (by simp [results, Tryz.results68, go_sem, c0, c1]) rfl ⟨rfl, (Lay.alloc _ _).trans (Lay.alloc _ _)⟩
    · clear hz
      go_enter Tryz.func68, Tryz.ntmps68
      go_wp2_with fail
      have h := alloc_at (w.alloc (.cells #[.int .i64 p, .int .i64 q] 61)) (.cells #[.int .i64 p, .int .i64 q] 61) (n := w.heap.size + 1) (by simp)
      have c0 : ((w.alloc (.cells #[.int .i64 p, .int .i64 q] 61)).alloc (.cells #[.int .i64 p, .int .i64 q] 61)).cell? ⟨w.heap.size + 1, 0, none⟩ = some (.int .i64 p) := cell_of_blk h rfl
      have c1 : ((w.alloc (.cells #[.int .i64 p, .int .i64 q] 61)).alloc (.cells #[.int .i64 p, .int .i64 q] 61)).cell? ⟨w.heap.size + 1, 1, none⟩ = some (.int .i64 q) := cell_of_blk h rfl
      exact bodyPost_ret (v := .agg #[.int .i64 p, .int .i64 q]) (by simp [results, Tryz.results68, go_sem, c0, c1]) rfl ⟨rfl, (Lay.alloc _ _).trans (Lay.alloc _ _)⟩
theorem gcdR_any (x : Int × Int) (w : World) (h : OkR x) (hz : x ≠ (0, 0)) : Calls Tryz.prog 96 #[.int .u64 x.1, .int .u64 x.2] w fun e w' => e = .returned (.int .u64 1) ∧ w' = w := by
  rcases h with h | h | ⟨h1, h2, h3⟩
  · exact absurd h hz
  · rw [h]; exact gcd0_any w
  · rw [h1]; exact gcd1_any x.2 w h2 (by omega)
set_option maxRecDepth 100000 in
theorem valid_any (x : Int × Int) (w : World) (h : OkR x) : Calls Tryz.prog 67 #[rA x] w fun e w' => e = .returned (.bool true) ∧ Lay w w' := by
  obtain ⟨p, q⟩ := x
  unfold rA
  rcases h with h | h | ⟨h1, h2, h3⟩
  · cases h
    go_enter Tryz.func67, Tryz.ntmps67
    go_wp2_with fail
    go_quiet (fail)
    go_wp2_with fail
    go_ret
    exact ⟨rfl, (Lay.alloc _ _).trans (Lay.drewN _ _)⟩
  · cases h
    go_enter Tryz.func67, Tryz.ntmps67
    go_wp2_with fail
    go_quiet (first | (go_at_call 70; exact Calls.quiet_of_same (size_any _ _ (by omega) (by omega))) | (go_at_call 96; exact Calls.quiet_of_same (gcd0_any _)))
    go_wp2_with fail
    go_ret
    exact ⟨rfl, (Lay.alloc _ _).trans (Lay.drewN _ _)⟩
  · simp only at h1 h2 h3
    subst h1
    have t1 : decide (0 < q) = true := by simp; omega
    have hq0 : 0 ≤ q := by omega
    have hq1 : q ≤ 1000000 := by omega
    go_enter Tryz.func67, Tryz.ntmps67
    go_wp2_with fail
    go_quiet (first | (go_at_call 70; exact Calls.quiet_of_same (size_any _ _ (by omega) (by omega))) | (go_at_call 96; exact Calls.quiet_of_same (gcd1_any q _ h2 hq1)))
    go_wp2_with fail
    go_ret
    exact ⟨rfl, (Lay.alloc _ _).trans (Lay.drewN _ _)⟩
theorem mul_any (x y : Int) (w : World) (h0 : 0 ≤ x) (h1 : x ≤ 1000) (h2 : 0 ≤ y) (h3 : y ≤ 1000) : Calls Tryz.prog 97 #[.int .u64 x, .int .u64 y] w fun e w' => e = .returned (.tuple #[.int .u64 0, .int .u64 (x * y)]) ∧ w' = w := by
  obtain ⟨a, rfl⟩ : ∃ a : Nat, x = a := ⟨x.toNat, by omega⟩
  obtain ⟨b, rfl⟩ : ∃ b : Nat, y = b := ⟨y.toNat, by omega⟩
  have hab : a * b ≤ 1000 * 1000 := Nat.mul_le_mul (by omega) (by omega)
  have h := Any.bits_Mul64 Tryz.lays264 a b (by omega) (by omega) w
  rw [Nat.div_eq_of_lt (by omega), Nat.mod_eq_of_lt (by omega)] at h
  refine h.mono ?_
  rintro e w' ⟨rfl, rfl⟩
  exact ⟨by simp, rfl⟩
set_option maxRecDepth 100000 in
theorem times_any (v n : Int) (w : World) (h0 : 0 ≤ v) (h1 : v ≤ 1000) (h2 : 0 ≤ n) (h3 : n ≤ 1000) : Calls Tryz.prog 69 #[.int .i64 v, .int .u64 n] w fun e w' => e = .returned (.agg #[.bool false, .int .u64 0, .int .u64 (v * n)]) ∧ Lay w w' := by
  have t1 : decide (v < 0) = false := by simpa using h0
  have HM := Lib.hid (fun w => mul_any v n w h0 h1 h2 h3)
  obtain ⟨p, hp⟩ : ∃ p, v * n = p := ⟨_, rfl⟩
  rw [hp] at HM
  rw [hp]
  have hv1 : v ≤ 1000000 := by omega
  clear hp
  go_enter Tryz.func69, Tryz.ntmps69
  go_wp2_with fail
  refine (size_any v _ h0 hv1).mono ?_
  rintro e w' ⟨rfl, hw'⟩
  rw [hw']; clear hw' w'
  go_wp2_with fail
  refine (HM.out _).mono ?_
  rintro e w' ⟨rfl, hw'⟩
  rw [hw']; clear hw' w'
  go_wp2_with fail
  have h := alloc_last w (.cells #[.bool false, .int .u64 0, .int .u64 p] 127)
  have c0 : (w.alloc (.cells #[.bool false, .int .u64 0, .int .u64 p] 127)).cell? ⟨w.heap.size, 0, none⟩ = some (.bool false) := cell_of_blk h rfl
  have c1 : (w.alloc (.cells #[.bool false, .int .u64 0, .int .u64 p] 127)).cell? ⟨w.heap.size, 1, none⟩ = some (.int .u64 0) := cell_of_blk h rfl
  have c2 : (w.alloc (.cells #[.bool false, .int .u64 0, .int .u64 p] 127)).cell? ⟨w.heap.size, 2, none⟩ = some (.int .u64 p) := cell_of_blk h rfl
  exact bodyPost_ret (v := .agg #[.bool false, .int .u64 0, .int .u64 p]) (by simp [results, Tryz.results69, go_sem, c0, c1, c2]) rfl ⟨rfl, Lay.alloc _ _⟩
def wA (x : Int) : Value := .agg #[.bool false, .int .u64 0, .int .u64 x]
set_option maxRecDepth 100000 in
theorem order_any (x y : Int) (w : World) : Calls Tryz.prog 71 #[wA x, wA y] w fun e w' => e = .returned (.int .i64 (cmpI x y)) ∧ Lay w w' := by
  unfold wA
  by_cases h1 : x < y
  · have t1 : decide (x < y) = true := by simp [h1]
    rw [show cmpI x y = -1 by unfold cmpI; rw [if_pos h1]]
    clear h1
    go_enter Tryz.func71, Tryz.ntmps71
    go_wp2_with fail
    go_ret
    exact ⟨rfl, (Lay.alloc _ _).trans (Lay.alloc _ _)⟩
  · have t1 : decide (x < y) = false := by simp [h1]
    by_cases h2 : y < x
    · rw [show cmpI x y = 1 by unfold cmpI; rw [if_neg h1, if_pos h2]]
      have h3 : ¬ x = y := by omega
      clear h1 h2
      go_enter Tryz.func71, Tryz.ntmps71
      go_wp2_with fail
      go_ret
      exact ⟨rfl, (Lay.alloc _ _).trans (Lay.alloc _ _)⟩
    · obtain rfl : x = y := by omega
      rw [show cmpI x x = 0 by unfold cmpI; rw [if_neg h1, if_neg h1]]
      clear h1 h2
      go_enter Tryz.func71, Tryz.ntmps71
      go_wp2_with fail
      go_ret
      exact ⟨rfl, (Lay.alloc _ _).trans (Lay.alloc _ _)⟩
end Go.Proofs.YtemeppfikpafbaaGreat

/- rank.zero (63), rank.Degree (22). -/
namespace Go.Proofs.YtemeppfikpafbaaGreat
open Go.RowKit
/-- A cause: its choices and its messages. -/
structure Cau where
  undo : List K4
  hold : List M3
instance : Inhabited Cau := ⟨⟨[], []⟩⟩
structure Cau.Ok (c : Cau) : Prop where
  undo : ∀ x ∈ c.undo, x.Ok
  hold : ∀ x ∈ c.hold, x.Ok
  lu : c.undo.length ≤ 400
  lh : c.hold.length ≤ 400
def Cau.size (c : Cau) : Nat := (nd c.undo).length + (nd c.hold).length
theorem nd_len {α : Type} [DecidableEq α] (l : List α) : (nd l).length ≤ l.length := by
  have h : ∀ (l acc : List α), (l.foldl ndStep acc).length ≤ acc.length + l.length := by
    intro l
    induction l with
    | nil => intro acc; simp
    | cons x r ih =>
      intro acc
      have h1 := ih (ndStep acc x)
      have h2 : (ndStep acc x).length ≤ acc.length + 1 := by unfold ndStep; split <;> simp
      simp only [List.foldl_cons, List.length_cons]; omega
  have := h l []
  unfold nd
  simpa using this
theorem Cau.size_le {c : Cau} (h : c.Ok) : c.size ≤ 800 := by
  have h1 := nd_len c.undo
  have h2 := nd_len c.hold
  have := h.lu; have := h.lh
  unfold Cau.size; omega
def degR (n : Nat) : Int × Int := if n = 0 then (0, 1) else (1, n)
theorem zero_any (w : World) : Calls Tryz.prog 44 #[] w fun e w' => e = .returned (.agg #[.int .i64 0, .int .i64 1]) ∧ Lay w w' := by
  go_enter Tryz.func44, Tryz.ntmps44
  go_wp2_with fail
  have h := alloc_last w (.cells #[.int .i64 0, .int .i64 1] 61)
  have c0 : (w.alloc (.cells #[.int .i64 0, .int .i64 1] 61)).cell? ⟨w.heap.size, 0, none⟩ = some (.int .i64 0) := cell_of_blk h rfl
  have c1 : (w.alloc (.cells #[.int .i64 0, .int .i64 1] 61)).cell? ⟨w.heap.size, 1, none⟩ = some (.int .i64 1) := cell_of_blk h rfl
  exact bodyPost_ret (v := .agg #[.int .i64 0, .int .i64 1]) (by simp [results, Tryz.results44, go_sem, c0, c1]) rfl ⟨rfl, Lay.alloc _ _⟩
set_option maxRecDepth 100000 in
set_option maxHeartbeats 1000000 in
theorem degree_any (S S' : Nat → Prop) (c : Cau) (vu vh : Value) (w : World) (hok : c.Ok) (hu : Row S w 4 c.undo.length vu (flatC kC c.undo)) (hh : Row S' w 3 c.hold.length vh (flatC mC c.hold)) :
    Calls Tryz.prog 21 #[.agg #[vu, vh]] w fun e w' => e = .returned (rA (degR c.size)) ∧ More w w' := by
  obtain ⟨ua, uc, rfl, _⟩ := hu.shape
  obtain ⟨ha, hc, rfl, _⟩ := hh.shape
  have HU := Lib.hid hu; clear hu
  have HH := Lib.hid hh; clear hh
  have HOK := Lib.hid hok; clear hok
  have HSZ := Lib.hid (show ((nd c.undo).length : Int) + ((nd c.hold).length : Int) = (c.size : Int) by unfold Cau.size; omega)
  have HLE := Lib.hid (Cau.size_le HOK.out)
  have HLU := Lib.hid (nd_len c.undo)
  have HLH := Lib.hid (nd_len c.hold)
  go_enter Tryz.func21, Tryz.ntmps21
  go_wp2_with fail
  obtain ⟨h1, h2, hl⟩ := boxed2 w (.cells #[.slice ua c.undo.length uc, .slice ha c.hold.length hc] 34) (.cells #[.int .i64 0, .int .i64 0] 61)
  generalize (w.alloc (.cells #[.slice ua c.undo.length uc, .slice ha c.hold.length hc] 34)).alloc (.cells #[.int .i64 0, .int .i64 0] 61) = w2 at *
  have HM2 := Lib.hid hl.1
  have H1 := Lib.hid h1
  have H2 := Lib.hid h2
  have K0 : w2.drew.cell? ⟨w.heap.size, 0, none⟩ = some (.slice ua c.undo.length uc) ∧ w2.drew.cell? ⟨w.heap.size, 1, none⟩ = some (.slice ha c.hold.length hc) := ⟨cell_of_blk h1 rfl, cell_of_blk h1 rfl⟩
  clear h1 h2 hl
  go_cut [3] (fun s wx => s = .int .i64 c.size ∧ Hid (More w2 wx))
  case first =>
    have HM := Lib.hid (more_drew w2)
    have HKEEP := Lib.hid (show ∀ W, More w2 W → W.cell? ⟨w.heap.size, 0, none⟩ = some (.slice ua c.undo.length uc) ∧ W.cell? ⟨w.heap.size, 1, none⟩ = some (.slice ha c.hold.length hc) from fun W h => ⟨h.cell K0.1, h.cell K0.2⟩)
    have hb1 : ((nd c.undo).length : Int) ≤ 400 := by have := HLU.out; have := HOK.out.lu; omega
    have hb2 : ((nd c.hold).length : Int) ≤ 400 := by have := HLH.out; have := HOK.out.lh; omega
    have hsum := HSZ.out
    go_region_held3 (fun W => W.cell? ⟨w.heap.size, 0, none⟩ = some (.slice ua c.undo.length uc) ∧ W.cell? ⟨w.heap.size, 1, none⟩ = some (.slice ha c.hold.length hc)) (exact HKEEP.out _ HM.out) (first | (go_at_call 47; refine (distinctK_any S c.undo _ _ (by have := HOK.out.lu; omega) HOK.out.undo (HU.out.below (more_trans HM2.out HM.out).below)).mono ?_; rintro e w3 ⟨rfl, hm⟩; have HM := Lib.hid (more_trans HM.out (more_of hm)); clear hm) | (go_at_call 48; refine (distinctM_any S' c.hold _ _ (by have := HOK.out.lh; omega) HOK.out.hold (HH.out.below (more_trans HM2.out HM.out).below)).mono ?_; rintro e w3 ⟨rfl, hm⟩; have HM := Lib.hid (more_trans HM.out (more_of hm)); clear hm))
    all_goals (go_wp2_with fail; go_meet)
    all_goals exact ⟨by have := HLE.out; rw [show IntKind.i64.wrap (c.size : Int) = (c.size : Int) by rw [IntKind.wrap_i64]; omega], HM⟩
  case rest =>
    obtain ⟨rfl, HM⟩ := hcut
    have HLW := Lib.hid (show w.heap.size + 1 < w2.heap.size from (Array.getElem?_eq_some_iff.1 H2.out).1)
    have hle := HLE.out
    obtain ⟨n, hnc⟩ : ∃ n, c.size = n := ⟨_, rfl⟩
    rw [hnc] at hle
    rw [hnc]
    have HNE := Lib.hid hnc
    clear hnc
    by_cases hn : n = 0
    · have t1 : ((n : Int) == 0) = true := by simp [hn]
      have HD := Lib.hid (show degR n = (0, 1) by unfold degR; rw [if_pos hn])
      clear hn
      go_wp2_with fail
      refine (zero_any _).mono ?_
      rintro e w4 ⟨rfl, hl4⟩
      have h2 := ((more_trans HM.out hl4.1).block HLW.out).trans H2.out
      have k0 : w4.cell? ⟨w.heap.size + 1, 0, none⟩ = some (.int .i64 0) := cell_of_blk h2 rfl
      have k1 : w4.cell? ⟨w.heap.size + 1, 1, none⟩ = some (.int .i64 0) := cell_of_blk h2 rfl
      have f0 := thaw h2 0
      have f1 := thaw h2 1
      have HM4 := Lib.hid (more_trans HM2.out (more_trans HM.out hl4.1))
      clear h2 hl4
      go_wp2_with fail
      have c0 : ((w4.setCell ⟨w.heap.size + 1, 0, none⟩ (.int .i64 0)).setCell ⟨w.heap.size + 1, 1, none⟩ (.int .i64 1)).cell? ⟨w.heap.size + 1, 0, none⟩ = some (.int .i64 0) := by rw [setCell_neq (by omega)]; exact setCell_eq k0
      have c1 : ((w4.setCell ⟨w.heap.size + 1, 0, none⟩ (.int .i64 0)).setCell ⟨w.heap.size + 1, 1, none⟩ (.int .i64 1)).cell? ⟨w.heap.size + 1, 1, none⟩ = some (.int .i64 1) := setCell_eq (v := .int .i64 0) (by rw [setCell_neq (by omega)]; exact k1)
      exact bodyPost_ret (v := .agg #[.int .i64 0, .int .i64 1]) (by simp [results, Tryz.results21, go_sem, c0, c1]) rfl ⟨by rw [HNE.out, HD.out]; rfl, more_of ((HM4.out.below.setCell (Nat.le_succ _) _).setCell (Nat.le_succ _) _)⟩
    · have t1 : ((n : Int) == 0) = false := by rw [beq_eq_false_iff_ne]; omega
      have HD := Lib.hid (show degR n = (1, (n : Int)) by unfold degR; rw [if_neg hn])
      clear hn
      have h2 := (HM.out.block HLW.out).trans H2.out
      have k0 : wc.cell? ⟨w.heap.size + 1, 0, none⟩ = some (.int .i64 0) := cell_of_blk h2 rfl
      have k1 : wc.cell? ⟨w.heap.size + 1, 1, none⟩ = some (.int .i64 0) := cell_of_blk h2 rfl
      have f0 := thaw h2 0
      have f1 := thaw h2 1
      have HM4 := Lib.hid (more_trans HM2.out HM.out)
      clear h2
      go_wp2_with fail
      have c0 : ((wc.setCell ⟨w.heap.size + 1, 0, none⟩ (.int .i64 1)).setCell ⟨w.heap.size + 1, 1, none⟩ (.int .i64 n)).cell? ⟨w.heap.size + 1, 0, none⟩ = some (.int .i64 1) := by rw [setCell_neq (by omega)]; exact setCell_eq k0
      have c1 : ((wc.setCell ⟨w.heap.size + 1, 0, none⟩ (.int .i64 1)).setCell ⟨w.heap.size + 1, 1, none⟩ (.int .i64 n)).cell? ⟨w.heap.size + 1, 1, none⟩ = some (.int .i64 n) := setCell_eq (v := .int .i64 0) (by rw [setCell_neq (by omega)]; exact k1)
      exact bodyPost_ret (v := .agg #[.int .i64 1, .int .i64 n]) (by simp [results, Tryz.results21, go_sem, c0, c1]) rfl ⟨by rw [HNE.out, HD.out]; rfl, more_of ((HM4.out.below.setCell (Nat.le_succ _) _).setCell (Nat.le_succ _) _)⟩
end Go.Proofs.YtemeppfikpafbaaGreat

/- slices.insertionSortCmpFunc at found causes (220). -/
namespace Go.Proofs.YtemeppfikpafbaaGreat
open Go.RowKit Go.Sort
/-- A cause that was found, and in which list: where its elements lie. -/
structure Fnd where
  c : Cau
  ua : Option Addr
  un : Nat
  uc : Nat
  ha : Option Addr
  hn : Nat
  hc : Nat
  n : Int
instance : Inhabited Fnd := ⟨⟨default, none, 0, 0, none, 0, 0, 0⟩⟩
def fC (x : Fnd) : List Value := [.slice x.ua x.un x.uc, .slice x.ha x.hn x.hc, .int .i64 x.n]
theorem fC_len (x : Fnd) : (fC x).length = 3 := rfl
set_option maxHeartbeats 4000000 in
set_option maxRecDepth 100000 in
theorem insF_any (CP : Nat) (P : Fnd → Prop) (cf : Fnd → Fnd → Int) (d : Array Fnd) (B off cap a b : Nat) (w : World) (hab : a ≤ b) (hb : b ≤ d.size) (hsz : d.size < 4294967296) (hH : HoldC fC 3 w B off d) (hP : ∀ i, i < d.size → P d[i]!)
    (hcmp : ∀ (x y : Fnd) (W : World), P x → P y → w.grownBy W (some B) → Calls Tryz.prog 33 #[.agg #[.slice x.ua x.un x.uc, .slice x.ha x.hn x.hc, .int .i64 x.n], .agg #[.slice y.ua y.un y.uc, .slice y.ha y.hn y.hc, .int .i64 y.n], .pointer (some ⟨CP, 0, none⟩)] W fun e w' => e = .returned (.int .i64 (cf x y)) ∧ More W w') :
    Calls Tryz.prog 84 #[.slice (some ⟨B, off, none⟩) d.size cap, .int .i64 a, .int .i64 b, .func (.func 33) #[] #[.pointer (some ⟨CP, 0, none⟩)]] w fun e w' => e = .returned (.tuple #[]) ∧ w.grownBy w' (some B) ∧ HoldC fC 3 w' B off (insertionSort (ltOf cf) d a b) := by
  have HH := Lib.hid hH; clear hH
  have HPD := Lib.hid hP; clear hP
  go_enter Tryz.func84, Tryz.ntmps84
  go_wp2_with fail
  go_loopw [8] (fun vi wr => ∃ (i : Nat) (dk : Array Fnd), vi = .int .i64 i ∧ a < i ∧ i ≤ b + 1 ∧ Hid (w.grownBy wr (some B)) ∧ Hid (HoldC fC 3 wr B off dk) ∧ Hid ((dk.size = d.size ∧ insOuter (ltOf cf) a b i dk = insertionSort (ltOf cf) d a b) ∧ ∀ i, i < dk.size → P dk[i]!)) (fun i _ => b - (intOf i).toNat)
  case atStart => exact ⟨a + 1, d, by go_num, by omega, by omega, Lib.hid (World.grownBy.refl _ _), HH, Lib.hid ⟨⟨rfl, rfl⟩, HPD.out⟩⟩
  case round =>
    obtain ⟨i, dk, rfl, hai, hib, HG, HK, HE⟩ := hrel
    obtain ⟨wo, rfl⟩ : ∃ wo : World, wo = wr := ⟨_, rfl⟩
    by_cases hlt : i < b
    · go_wp2_with fail
      go_loopw [9] (fun vj wr => ∃ (j : Nat) (dj : Array Fnd), vj = .int .i64 j ∧ a ≤ j ∧ j ≤ i ∧ Hid (w.grownBy wr (some B)) ∧ Hid (HoldC fC 3 wr B off dj) ∧ Hid ((dj.size = d.size ∧ insOuter (ltOf cf) a b (i + 1) (insInner (ltOf cf) a j dj) = insertionSort (ltOf cf) d a b) ∧ ∀ i, i < dj.size → P dj[i]!)) (fun j _ => (intOf j).toNat)
      case atStart => exact ⟨i, dk, rfl, by omega, Nat.le_refl _, HG, HK, Lib.hid ⟨⟨HE.out.1.1, by rw [← HE.out.1.2, insOuter_go a b i dk hlt]⟩, HE.out.2⟩⟩
      case round =>
        obtain ⟨j, dj, rfl, haj, hji, HGJ, HJ, HEJ⟩ := hrel
        by_cases hja : a < j
        · obtain ⟨jp, rfl⟩ : ∃ jp, j = jp + 1 := ⟨j - 1, by omega⟩
          have hs := HEJ.out.1.1
          have c1 := HJ.out (jp + 1) (by omega)
          have c2 := HJ.out jp (by omega)
          have HPX := Lib.hid (HEJ.out.2 (jp + 1) (by omega))
          have HPY := Lib.hid (HEJ.out.2 jp (by omega))
          have HPS := Lib.hid (insSort_mem (P := P) HEJ.out.2 (i := jp + 1) (j := jp) (by omega) (by omega))
          have HN := Lib.hid (fun (w' : World) (h : w'.heap[B]? = wr.heap[B]?) => (HJ.out.keep h).swap fC_len (i := jp + 1) (j := jp) (by omega) (by omega))
          have HX := Lib.hid (show (ltOf cf dj[jp + 1]! dj[jp]! = true → insInner (ltOf cf) a (jp + 1) dj = insInner (ltOf cf) a jp (swp dj (jp + 1) jp)) ∧ (ltOf cf dj[jp + 1]! dj[jp]! = false → insInner (ltOf cf) a (jp + 1) dj = dj) from ⟨insInner_go a jp dj hja, insInner_stop a jp dj⟩)
          clear hs
          generalize hx : dj[jp + 1]! = x at *
          generalize hy : dj[jp]! = y at *
          clear hx hy
          obtain ⟨p0, f0⟩ := c1 0 (.slice x.ua x.un x.uc) rfl
          obtain ⟨p1, f1⟩ := c1 1 (.slice x.ha x.hn x.hc) rfl
          obtain ⟨p2, f2⟩ := c1 2 (.int .i64 x.n) rfl
          obtain ⟨q0, f3⟩ := c2 0 (.slice y.ua y.un y.uc) rfl
          obtain ⟨q1, f4⟩ := c2 1 (.slice y.ha y.hn y.hc) rfl
          obtain ⟨q2, f5⟩ := c2 2 (.int .i64 y.n) rfl
          have hsz' : (jp : Int) + 1 < d.size := by omega
          have hBr : B < wr.heap.size := cell_lt p0
          clear c1 c2
          by_cases hc : cf x y < 0
          · have t1 : decide (cf x y < 0) = true := decide_eq_true hc
            have HC := Lib.hid (show ltOf cf x y = true by unfold ltOf; exact t1)
            clear hc
            have s0 : wr.drew.cell? ⟨B, off + (jp + 1) * 3, none⟩ = some (.slice x.ua x.un x.uc) := p0
            have s1 : wr.drew.cell? ⟨B, off + (jp + 1) * 3 + 1, none⟩ = some (.slice x.ha x.hn x.hc) := p1
            have s2 : wr.drew.cell? ⟨B, off + (jp + 1) * 3 + 2, none⟩ = some (.int .i64 x.n) := p2
            have s3 : wr.drew.cell? ⟨B, off + jp * 3, none⟩ = some (.slice y.ua y.un y.uc) := q0
            have s4 : wr.drew.cell? ⟨B, off + jp * 3 + 1, none⟩ = some (.slice y.ha y.hn y.hc) := q1
            have s5 : wr.drew.cell? ⟨B, off + jp * 3 + 2, none⟩ = some (.int .i64 y.n) := q2
            go_wp2_with fail
            have hwp : IntKind.i64.wrap (jp : Int) = (jp : Int) := by rw [IntKind.wrap_i64]; omega
            have jz1 : (jp : Int) < (d.size : Int) := by omega
            have hjaz' : (a : Int) < (jp : Int) + 1 := by omega
            have z0 : (0 : Int) ≤ (jp : Int) + 1 := by omega
            have e0 : ((jp : Int) + 1).toNat = jp + 1 := by omega
            go_region_held3 (fun wx => wx.cell? ⟨B, off + (jp + 1) * 3, none⟩ = some (.slice x.ua x.un x.uc) ∧ wx.cell? ⟨B, off + (jp + 1) * 3 + 1, none⟩ = some (.slice x.ha x.hn x.hc) ∧ wx.cell? ⟨B, off + (jp + 1) * 3 + 2, none⟩ = some (.int .i64 x.n) ∧ wx.cell? ⟨B, off + jp * 3, none⟩ = some (.slice y.ua y.un y.uc) ∧ wx.cell? ⟨B, off + jp * 3 + 1, none⟩ = some (.slice y.ha y.hn y.hc) ∧ wx.cell? ⟨B, off + jp * 3 + 2, none⟩ = some (.int .i64 y.n)) (first | with_reducible exact ⟨s0, s1, s2, s3, s4, s5⟩ | with_reducible exact ⟨k0, k1, k2, k3, k4, k5⟩) (first | (go_at_call 33; refine (hcmp x y _ HPX.out HPY.out (grownBy_more HGJ.out (more_drew wr))).mono ?_; rintro e w1 ⟨rfl, hw1⟩; have k0 := hw1.cell s0; have k1 := hw1.cell s1; have k2 := hw1.cell s2; have k3 := hw1.cell s3; have k4 := hw1.cell s4; have k5 := hw1.cell s5))
            clear hwp e0
            have g0 := more_frozen hw1 (o := off + (jp + 1) * 3) hBr f0
            have g1 := more_frozen hw1 (o := off + (jp + 1) * 3 + 1) hBr f1
            have g2 := more_frozen hw1 (o := off + (jp + 1) * 3 + 2) hBr f2
            have g3 := more_frozen hw1 (o := off + jp * 3) hBr f3
            have g4 := more_frozen hw1 (o := off + jp * 3 + 1) hBr f4
            have g5 := more_frozen hw1 (o := off + jp * 3 + 2) hBr f5
            have hN2 := HN.out w1 (hw1.block hBr)
            rw [show fC x = [.slice x.ua x.un x.uc, .slice x.ha x.hn x.hc, .int .i64 x.n] from rfl, show fC y = [.slice y.ua y.un y.uc, .slice y.ha y.hn y.hc, .int .i64 y.n] from rfl, setC3, setC3] at hN2
            have HN2 := Lib.hid hN2.drew
            have hG2 := grownBy_trans (grownBy_more (grownBy_more HGJ.out (more_drew wr)) hw1) (setC2_grown w1 B (off + (jp + 1) * 3) (off + jp * 3) [.slice y.ua y.un y.uc, .slice y.ha y.hn y.hc, .int .i64 y.n] [.slice x.ua x.un x.uc, .slice x.ha x.hn x.hc, .int .i64 x.n])
            rw [setC3, setC3] at hG2
            have HG2 := Lib.hid (grownBy_more hG2 (more_drew _))
            have HS2 := Lib.hid (show ((swp dj (jp + 1) jp).size = d.size ∧ insOuter (ltOf cf) a b (i + 1) (insInner (ltOf cf) a jp (swp dj (jp + 1) jp)) = insertionSort (ltOf cf) d a b) ∧ ∀ i, i < (swp dj (jp + 1) jp).size → P (swp dj (jp + 1) jp)[i]! from ⟨⟨by rw [size_swp]; exact HEJ.out.1.1, by rw [← HX.out.1 HC.out]; exact HEJ.out.1.2⟩, HPS.out⟩)
            clear hw1 hN2 hG2 p0 p1 p2 q0 q1 q2 s0 s1 s2 s3 s4 s5 f0 f1 f2 f3 f4 f5
            go_wp2_with fail
            go_region
            go_wp2_with fail
            go_roundw
            case rel => exact ⟨jp, swp dj (jp + 1) jp, by go_num, by omega, by omega, HG2, HN2, HS2⟩
            case measure => simp [intOf]
          · have t1 : decide (cf x y < 0) = false := decide_eq_false hc
            have HC := Lib.hid (show ltOf cf x y = false by unfold ltOf; exact t1)
            clear hc
            have s0 : wr.drew.cell? ⟨B, off + (jp + 1) * 3, none⟩ = some (.slice x.ua x.un x.uc) := p0
            have s1 : wr.drew.cell? ⟨B, off + (jp + 1) * 3 + 1, none⟩ = some (.slice x.ha x.hn x.hc) := p1
            have s2 : wr.drew.cell? ⟨B, off + (jp + 1) * 3 + 2, none⟩ = some (.int .i64 x.n) := p2
            have s3 : wr.drew.cell? ⟨B, off + jp * 3, none⟩ = some (.slice y.ua y.un y.uc) := q0
            have s4 : wr.drew.cell? ⟨B, off + jp * 3 + 1, none⟩ = some (.slice y.ha y.hn y.hc) := q1
            have s5 : wr.drew.cell? ⟨B, off + jp * 3 + 2, none⟩ = some (.int .i64 y.n) := q2
            go_wp2_with fail
            have hwp : IntKind.i64.wrap (jp : Int) = (jp : Int) := by rw [IntKind.wrap_i64]; omega
            have jz1 : (jp : Int) < (d.size : Int) := by omega
            have hjaz' : (a : Int) < (jp : Int) + 1 := by omega
            have z0 : (0 : Int) ≤ (jp : Int) + 1 := by omega
            have e0 : ((jp : Int) + 1).toNat = jp + 1 := by omega
            go_region_held3 (fun wx => wx.cell? ⟨B, off + (jp + 1) * 3, none⟩ = some (.slice x.ua x.un x.uc) ∧ wx.cell? ⟨B, off + (jp + 1) * 3 + 1, none⟩ = some (.slice x.ha x.hn x.hc) ∧ wx.cell? ⟨B, off + (jp + 1) * 3 + 2, none⟩ = some (.int .i64 x.n) ∧ wx.cell? ⟨B, off + jp * 3, none⟩ = some (.slice y.ua y.un y.uc) ∧ wx.cell? ⟨B, off + jp * 3 + 1, none⟩ = some (.slice y.ha y.hn y.hc) ∧ wx.cell? ⟨B, off + jp * 3 + 2, none⟩ = some (.int .i64 y.n)) (first | with_reducible exact ⟨s0, s1, s2, s3, s4, s5⟩ | with_reducible exact ⟨k0, k1, k2, k3, k4, k5⟩) (first | (go_at_call 33; refine (hcmp x y _ HPX.out HPY.out (grownBy_more HGJ.out (more_drew wr))).mono ?_; rintro e w1 ⟨rfl, hw1⟩; have k0 := hw1.cell s0; have k1 := hw1.cell s1; have k2 := hw1.cell s2; have k3 := hw1.cell s3; have k4 := hw1.cell s4; have k5 := hw1.cell s5))
            clear hwp e0
            have HG2 := Lib.hid (grownBy_more (grownBy_more HGJ.out (more_drew wr)) hw1)
            have HN2 := Lib.hid (HJ.out.keep (hw1.block hBr))
            have HS2 := Lib.hid (show (dj.size = d.size ∧ insOuter (ltOf cf) a b (i + 1) dj = insertionSort (ltOf cf) d a b) ∧ ∀ i, i < dj.size → P dj[i]! from ⟨⟨HEJ.out.1.1, by rw [← HEJ.out.1.2, HX.out.2 HC.out]⟩, HEJ.out.2⟩)
            clear hw1 p0 p1 p2 q0 q1 q2 s0 s1 s2 s3 s4 s5 f0 f1 f2 f3 f4 f5 k0 k1 k2 k3 k4 k5
            go_wp2_with fail
            go_roundw
            case rel => exact ⟨i + 1, dj, by go_num, by omega, by omega, HG2, HN2, HS2⟩
            case measure => simp [intOf]; omega
        · have t0 : decide (a < j) = false := by simpa using hja
          have HS2 := Lib.hid (show (dj.size = d.size ∧ insOuter (ltOf cf) a b (i + 1) dj = insertionSort (ltOf cf) d a b) ∧ ∀ i, i < dj.size → P dj[i]! from ⟨⟨HEJ.out.1.1, by rw [← HEJ.out.1.2, insInner_no a j dj hja]⟩, HEJ.out.2⟩)
          go_wp2_with fail
          go_quiet (fail)
          go_wp2_with fail
          go_roundw
          case rel => exact ⟨i + 1, dj, by go_num, by omega, by omega, Lib.hid (grownBy_trans HGJ.out (grownBy_drewN _ _ _)), Lib.hid (HJ.out.keep rfl), HS2⟩
          case measure => simp [intOf]; omega
    · have hE : dk = insertionSort (ltOf cf) d a b := by rw [← HE.out.1.2, insOuter_stop a b i dk hlt]
      have HE' := Lib.hid hE; clear hE
      go_wp2_with fail
      go_end0
      exact ⟨rfl, HG.out, by rw [← HE'.out]; exact HK.out⟩
end Go.Proofs.YtemeppfikpafbaaGreat

/- Small facts on rows: nil slices, appended rows, worlds that grow. -/
namespace Go.Proofs.YtemeppfikpafbaaGreat
open Go.RowKit
theorem more_alloc (w : World) (o : Obj) : More w (w.alloc o) := (Lay.alloc w o).1
def NilA (v : Value) : Prop := ∀ n c, v = .slice none n c → c = 0
theorem ownsRow_empty (w : World) (e : TypeId) (size : Nat) : (w.alloc (.cells #[] e)).ownsRow w.heap.size e size (.slice (some ⟨w.heap.size, 0, none⟩) 0 0) 0 [] :=
  World.ownsRow_made (base := w.heap.size) (e := e) (size := size) w #[] 0 (Nat.le_refl _) (by unfold maxLen; omega) (by simp)
theorem owns_nil {w : World} {B : Nat} {e : TypeId} {n size : Nat} {v : Value} {xs : List Value} (h : w.ownsRow B e size v n xs) : NilA v := by
  obtain ⟨_, h | ⟨g, cap, cur, rfl, _⟩⟩ := h
  · rw [h.1]; intro n c e; cases e; rfl
  · intro n c e; cases e
theorem mC_one (l : List M3) : ∀ u ∈ flatC mC l, u.oneCell' = true := by
  intro u hu
  unfold flatC at hu
  obtain ⟨x, _, hx⟩ := List.mem_flatMap.1 hu
  simp [mC] at hx
  rcases hx with rfl | rfl | rfl <;> rfl
theorem Row.lt {S : Nat → Prop} {w : World} {size n : Nat} {v : Value} {xs : List Value} (hs : 0 < size) (h : Row S w size n v xs) : Row (fun b => S b ∧ b < w.heap.size) w size n v xs :=
  h.mono2 hs fun _ _ _ hb hc => ⟨⟨hb, cell_lt hc⟩, hc⟩
theorem moreGrown {w w1 w2 : World} {B : Option Nat} (h : More w w1) (g : w1.grownBy w2 B) (hB : ∀ b, B = some b → w.heap.size ≤ b) : More w w2 :=
  ⟨g.os.trans h.os, g.tape.trans h.tape, g.output.trans h.output, Nat.le_trans h.size g.size, fun k hk _ => (g.block k (Nat.lt_of_lt_of_le hk h.size) (fun e => by have := hB k e.symm; omega)).trans (h.block hk)⟩
theorem row_news {S : Nat → Prop} {α : Type} {c : α → List Value} {k : Nat} (_hk : ∀ x, (c x).length = k) {w : World} {l : List α} {ta : Addr} {cap : Nat} (h : Row S w k l.length (.slice (some ta) l.length cap) (flatC c l)) : ∀ i u, (flatC c l)[i]? = some u → w.cell? (ta.add i) = some u := fun i u hu => by
  have hne : l.length ≠ 0 := by
    intro e
    have : l = [] := List.length_eq_zero_iff.1 e
    rw [this] at hu; simp [flatC] at hu
  obtain ⟨b2, off2, he, _, _, hc2⟩ := h.at hne
  cases he
  rw [Addr.add_lit]
  exact hc2 i u hu
end Go.Proofs.YtemeppfikpafbaaGreat

/- Found causes in a row, by their ranks and numbers. -/
namespace Go.Proofs.YtemeppfikpafbaaGreat
open Go.RowKit Go.Sort
def gC (G : Int × Int → Fnd) (p : Int × Int) : List Value := fC (G p)
theorem gC_len (G : Int × Int → Fnd) (p : Int × Int) : (gC G p).length = 3 := rfl
/-- The elements lie in block B; each is one of V; the comparison compares their ranks in whatever world that differs in B and has more blocks. -/
structure HoldF (CP : Nat) (V : Int × Int → Prop) (G : Int × Int → Fnd) (w : World) (B off : Nat) (d : Array (Int × Int)) : Prop where
  cells : HoldC (gC G) 3 w B off d
  mem : ∀ i, i < d.size → V d[i]!
  cmp : ∀ (x y : Int × Int) (W : World), V x → V y → w.grownBy W (some B) → Calls Tryz.prog 33 #[.agg #[.slice (G x).ua (G x).un (G x).uc, .slice (G x).ha (G x).hn (G x).hc, .int .i64 (G x).n], .agg #[.slice (G y).ua (G y).un (G y).uc, .slice (G y).ha (G y).hn (G y).hc, .int .i64 (G y).n], .pointer (some ⟨CP, 0, none⟩)] W fun e w' => e = .returned (.int .i64 (cmpI x.1 y.1)) ∧ More W w'
def swW3 (w : World) (B off i j : Nat) (x y : Fnd) : World :=
  ((((((w.setCell ⟨B, off + i * 3, none⟩ (.slice y.ua y.un y.uc)).setCell ⟨B, off + i * 3 + 1, none⟩ (.slice y.ha y.hn y.hc)).setCell ⟨B, off + i * 3 + 2, none⟩ (.int .i64 y.n)).setCell ⟨B, off + j * 3, none⟩ (.slice x.ua x.un x.uc)).setCell ⟨B, off + j * 3 + 1, none⟩ (.slice x.ha x.hn x.hc)).setCell ⟨B, off + j * 3 + 2, none⟩ (.int .i64 x.n)).drew
section
variable {CP : Nat} {V : Int × Int → Prop} {G : Int × Int → Fnd} {w w' : World} {B off : Nat} {d : Array (Int × Int)}
theorem HoldF.at (h : HoldF CP V G w B off d) (i : Nat) (hi : i < d.size) :
    w.cell? ⟨B, off + i * 3, none⟩ = some (.slice (G d[i]!).ua (G d[i]!).un (G d[i]!).uc) ∧ w.cell? ⟨B, off + i * 3 + 1, none⟩ = some (.slice (G d[i]!).ha (G d[i]!).hn (G d[i]!).hc) ∧ w.cell? ⟨B, off + i * 3 + 2, none⟩ = some (.int .i64 (G d[i]!).n) ∧
      w.frozen? ⟨B, off + i * 3, none⟩ = false ∧ w.frozen? ⟨B, off + i * 3 + 1, none⟩ = false ∧ w.frozen? ⟨B, off + i * 3 + 2, none⟩ = false := by
  obtain ⟨a0, b0⟩ := h.cells i hi 0 _ rfl
  obtain ⟨a1, b1⟩ := h.cells i hi 1 _ rfl
  obtain ⟨a2, b2⟩ := h.cells i hi 2 _ rfl
  exact ⟨a0, a1, a2, b0, b1, b2⟩
theorem HoldF.turn (h : HoldF CP V G w B off d) (hg : w.grownBy w' (some B)) {d' : Array (Int × Int)} (hc : HoldC (gC G) 3 w' B off d') (hm : ∀ i, i < d'.size → V d'[i]!) : HoldF CP V G w' B off d' :=
  ⟨hc, hm, fun x y W hx hy hW => h.cmp x y W hx hy (grownBy_trans hg hW)⟩
theorem HoldF.more (h : HoldF CP V G w B off d) (hm : More w w') (hb : B < w.heap.size) : HoldF CP V G w' B off d :=
  h.turn (grownBy_more (World.grownBy.refl _ _) hm) (h.cells.keep (hm.block hb)) h.mem
theorem HoldF.drewN (h : HoldF CP V G w B off d) (n : Nat) : HoldF CP V G (w.drewN n) B off d := h.turn (grownBy_drewN w n _) (h.cells.keep rfl) h.mem
theorem swW3_set (w : World) (B off i j : Nat) (x y : Fnd) : swW3 w B off i j x y = (setC (setC w B (off + i * 3) (fC y)) B (off + j * 3) (fC x)).drew := rfl
theorem swW3_own (w : World) (B off i j : Nat) (x y : Fnd) : w.grownBy (swW3 w B off i j x y) (some B) := by
  rw [swW3_set]
  exact grownBy_trans (setC2_grown w B _ _ _ _) (grownBy_drewN _ 1 _)
theorem swW3_grown {w0 : World} (h : w0.grownBy w (some B)) (off i j : Nat) (x y : Fnd) : w0.grownBy (swW3 w B off i j x y) (some B) := grownBy_trans h (swW3_own w B off i j x y)
theorem swW3_holds (h : HoldF CP V G w B off d) {i j : Nat} (hi : i < d.size) (hj : j < d.size) : HoldF CP V G (swW3 w B off i j (G d[i]!) (G d[j]!)) B off (swp d i j) :=
  h.turn (swW3_own _ _ _ _ _ _ _) (by rw [swW3_set]; exact (h.cells.swap (gC_len G) hi hj).drew) (insSort_mem h.mem hi hj)
end
end Go.Proofs.YtemeppfikpafbaaGreat

/- slices.swapRangeCmpFunc (158). -/
namespace Go.Proofs.YtemeppfikpafbaaGreat
open Go.RowKit Go.Sort
variable {CP : Nat} {V : Int × Int → Prop} {G : Int × Int → Fnd}

set_option maxHeartbeats 1000000 in
theorem swapR_any (X P Y Q Z : List (Int × Int)) (B off cap a b n N : Nat) (fv : Value) (w : World) (hX : X.length = a) (hP : P.length = n) (hQ : Q.length = n) (hb : a + n + Y.length = b) (hN : (X ++ P ++ Y ++ Q ++ Z).length = N) (hsz : N < 4294967296)
    (hH : HoldF CP V G w B off (X ++ P ++ Y ++ Q ++ Z).toArray) :
    Calls Tryz.prog 136 #[.slice (some ⟨B, off, none⟩) N cap, .int .i64 a, .int .i64 b, .int .i64 n, fv] w fun e w' => e = .returned (.tuple #[]) ∧ w.grownBy w' (some B) ∧ HoldF CP V G w' B off (X ++ Q ++ Y ++ P ++ Z).toArray := by
  have hbn : b + n ≤ N := by simp only [List.length_append] at hN; omega
  have han : a + n ≤ b := by omega
  have HH := Lib.hid (show HoldF CP V G w B off (swL X P Y Q Z 0).toArray by rw [swL_zero]; exact hH)
  have HL := Lib.hid (And.intro hX (And.intro hP (And.intro hQ (And.intro hb hN))))
  clear hX hP hQ hb hN hH
  go_enter Tryz.func136, Tryz.ntmps136
  go_wp2_with fail
  go_loopw [10] (fun i wr => ∃ k : Nat, k ≤ n ∧ i = .int .i64 k ∧ Hid (w.grownBy wr (some B)) ∧ Hid (HoldF CP V G wr B off (swL X P Y Q Z k).toArray)) (fun i _ => n - (intOf i).toNat)
  case atStart => exact ⟨0, Nat.zero_le _, rfl, Lib.hid (World.grownBy.refl _ _), HH⟩
  case round =>
    obtain ⟨k, hk, rfl, HG, HK⟩ := hrel
    by_cases hlt : k < n
    · obtain ⟨p, q, hp, hq, hs⟩ := swL_step X P Y Q Z k n a b hlt HL.out.1 HL.out.2.1 HL.out.2.2.1 HL.out.2.2.2.1
      have hlen : (swL X P Y Q Z k).toArray.size = N := by simp only [List.size_toArray]; rw [swL_len]; exact HL.out.2.2.2.2
      have c1 := HK.out.at (a + k) (by omega)
      have c2 := HK.out.at (b + k) (by omega)
      have HN := Lib.hid (show HoldF CP V G (swW3 wr B off (a + k) (b + k) (G p) (G q)) B off (swL X P Y Q Z (k + 1)).toArray by
        have := swW3_holds HK.out (i := a + k) (j := b + k) (by omega) (by omega)
        rw [hp, hq, hs] at this
        exact this)
      rw [hp] at c1
      rw [hq] at c2
      obtain ⟨p0, p1, p2, f0, f1, f2⟩ := c1
      obtain ⟨q0, q1, q2, f3, f4, f5⟩ := c2
      have HN2 := Lib.hid (swW3_grown HG.out off (a + k) (b + k) (G p) (G q))
      clear hp hq hs hlen HK HG HH
      have b1 : (a : Int) + k < N := by omega
      have b2 : (b : Int) + k < N := by omega
      go_wp2_with fail
      go_region
      go_wp2_with fail
      go_roundw
      case rel => exact ⟨k + 1, by omega, by go_num, HN2, HN⟩
      case measure => simp [intOf]; omega
    · have hkk : k = n := by omega
      subst hkk
      go_wp2_with fail
      go_end0
      refine ⟨rfl, HG.out, ?_⟩
      have := HK.out
      rwa [swL_end X P Y Q Z k HL.out.2.1 HL.out.2.2.1] at this
end Go.Proofs.YtemeppfikpafbaaGreat

