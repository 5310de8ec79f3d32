/- package ratio at degrees: size (76), gcd (78), one (74), Valid (31), times (75), order (77), Cmp (30). -/
import Derived.Test.YtemeppfikpafbaaKeys
import Derived.Test.YtemeppfikpafbaaShelfB
namespace Go.Proofs.Ytemeppfikpafbaa
open Go.RowKit
theorem size_any (v : Int) (w : World) (h0 : 0 ≤ v) (h1 : v ≤ 1000000) : Calls Try.prog 76 #[.int .i64 v] w fun e w' => e = .returned (.int .u64 v) ∧ w' = w := by
  have t1 : decide (v < 0) = false := by simpa using h0
  go_enter Try.func76, Try.ntmps76
  go_wp2_with fail
  go_ret
  exact ⟨rfl, rfl⟩
theorem gcd0_any (w : World) : Calls Try.prog 78 #[.int .u64 0, .int .u64 1] w fun e w' => e = .returned (.int .u64 1) ∧ w' = w := by
  go_enter Try.func78, Try.ntmps78
  go_wp2_with fail
  refine wp_loop_rounds 1 ?_
  rw [rounds_succ]
  go_wp2_with fail
  go_ret
  exact ⟨rfl, rfl⟩
theorem gcd1_any (n : Int) (w : World) (_h0 : 1 ≤ n) (_h1 : n ≤ 1000000) : Calls Try.prog 78 #[.int .u64 1, .int .u64 n] w fun e w' => e = .returned (.int .u64 1) ∧ w' = w := by
  have hm : n % 1 = 0 := by omega
  go_enter Try.func78, Try.ntmps78
  go_wp2_with fail
  refine wp_loop_rounds 2 ?_
  rw [rounds_succ]
  go_wp2_with fail
  rw [rounds_succ]
  go_wp2_with fail
  go_ret
  exact ⟨rfl, rfl⟩
/-- A degree: 0 of 0 (none), 0 of 1, or 1 of n. -/
def OkR (x : Int × Int) : Prop := x = (0, 0) ∨ x = (0, 1) ∨ (x.1 = 1 ∧ 1 ≤ x.2 ∧ x.2 ≤ 1000)
def rA (x : Int × Int) : Value := .agg #[.int .i64 x.1, .int .i64 x.2]
def oneR (x : Int × Int) : Int × Int := if x = (0, 0) then (0, 1) else x
set_option maxRecDepth 100000 in
theorem one_any (x : Int × Int) (w : World) (h : OkR x) : Calls Try.prog 74 #[rA x] w fun e w' => e = .returned (rA (oneR x)) ∧ Lay w w' := by
  obtain ⟨p, q⟩ := x
  unfold rA
  by_cases hz : p = 0 ∧ q = 0
  · obtain ⟨rfl, rfl⟩ := hz
    go_enter Try.func74, Try.ntmps74
    go_wp2_with fail
    have h := alloc_at (w.alloc (.cells #[.int .i64 0, .int .i64 0] 32)) (.cells #[.int .i64 0, .int .i64 1] 32) (n := w.heap.size + 1) (by simp)
    have c0 : ((w.alloc (.cells #[.int .i64 0, .int .i64 0] 32)).alloc (.cells #[.int .i64 0, .int .i64 1] 32)).cell? ⟨w.heap.size + 1, 0, none⟩ = some (.int .i64 0) := cell_of_blk h rfl
    have c1 : ((w.alloc (.cells #[.int .i64 0, .int .i64 0] 32)).alloc (.cells #[.int .i64 0, .int .i64 1] 32)).cell? ⟨w.heap.size + 1, 1, none⟩ = some (.int .i64 1) := cell_of_blk h rfl
    exact bodyPost_ret (v := .agg #[.int .i64 0, .int .i64 1]) (by simp [results, Try.results74, go_sem, c0, c1]) rfl ⟨rfl, (Lay.alloc _ _).trans (Lay.alloc _ _)⟩
  · have HO := Lib.hid (show oneR (p, q) = (p, q) by unfold oneR; rw [if_neg (by simpa using hz)])
    rw [HO.out]
    have hb : -9223372036854775808 ≤ p ∧ p ≤ 9223372036854775807 ∧ -9223372036854775808 ≤ q ∧ q ≤ 9223372036854775807 := by
      rcases h with h | h | h
      · cases h; omega
      · cases h; omega
      · simp only at h; omega
    clear h HO
    by_cases hp : p = 0
    · subst hp
      have hq : ¬ q = 0 := fun e => hz ⟨rfl, e⟩
      clear hz
      go_enter Try.func74, Try.ntmps74
      go_wp2_with fail
      have h := alloc_at (w.alloc (.cells #[.int .i64 0, .int .i64 q] 32)) (.cells #[.int .i64 0, .int .i64 q] 32) (n := w.heap.size + 1) (by simp)
      have c0 : ((w.alloc (.cells #[.int .i64 0, .int .i64 q] 32)).alloc (.cells #[.int .i64 0, .int .i64 q] 32)).cell? ⟨w.heap.size + 1, 0, none⟩ = some (.int .i64 0) := cell_of_blk h rfl
      have c1 : ((w.alloc (.cells #[.int .i64 0, .int .i64 q] 32)).alloc (.cells #[.int .i64 0, .int .i64 q] 32)).cell? ⟨w.heap.size + 1, 1, none⟩ = some (.int .i64 q) := cell_of_blk h rfl
      exact bodyPost_ret (v := .agg #[.int .i64 0, .int .i64 q]) (by simp [results, Try.results74, go_sem, c0, c1]) rfl ⟨rfl, (Lay.alloc _ _).trans (Lay.alloc _ _)⟩
    · clear hz
      go_enter Try.func74, Try.ntmps74
      go_wp2_with fail
      have h := alloc_at (w.alloc (.cells #[.int .i64 p, .int .i64 q] 32)) (.cells #[.int .i64 p, .int .i64 q] 32) (n := w.heap.size + 1) (by simp)
      have c0 : ((w.alloc (.cells #[.int .i64 p, .int .i64 q] 32)).alloc (.cells #[.int .i64 p, .int .i64 q] 32)).cell? ⟨w.heap.size + 1, 0, none⟩ = some (.int .i64 p) := cell_of_blk h rfl
      have c1 : ((w.alloc (.cells #[.int .i64 p, .int .i64 q] 32)).alloc (.cells #[.int .i64 p, .int .i64 q] 32)).cell? ⟨w.heap.size + 1, 1, none⟩ = some (.int .i64 q) := cell_of_blk h rfl
      exact bodyPost_ret (v := .agg #[.int .i64 p, .int .i64 q]) (by simp [results, Try.results74, go_sem, c0, c1]) rfl ⟨rfl, (Lay.alloc _ _).trans (Lay.alloc _ _)⟩
theorem gcdR_any (x : Int × Int) (w : World) (h : OkR x) (hz : x ≠ (0, 0)) : Calls Try.prog 78 #[.int .u64 x.1, .int .u64 x.2] w fun e w' => e = .returned (.int .u64 1) ∧ w' = w := by
  rcases h with h | h | ⟨h1, h2, h3⟩
  · exact absurd h hz
  · rw [h]; exact gcd0_any w
  · rw [h1]; exact gcd1_any x.2 w h2 (by omega)
set_option maxRecDepth 100000 in
theorem valid_any (x : Int × Int) (w : World) (h : OkR x) : Calls Try.prog 31 #[rA x] w fun e w' => e = .returned (.bool true) ∧ Lay w w' := by
  obtain ⟨p, q⟩ := x
  unfold rA
  rcases h with h | h | ⟨h1, h2, h3⟩
  · cases h
    go_enter Try.func31, Try.ntmps31
    go_wp2_with fail
    go_quiet (fail)
    go_wp2_with fail
    go_ret
    exact ⟨rfl, (Lay.alloc _ _).trans (Lay.drewN _ _)⟩
  · cases h
    go_enter Try.func31, Try.ntmps31
    go_wp2_with fail
    go_quiet (first | (go_at_call 76; exact Calls.quiet_of_same (size_any _ _ (by omega) (by omega))) | (go_at_call 78; exact Calls.quiet_of_same (gcd0_any _)))
    go_wp2_with fail
    go_ret
    exact ⟨rfl, (Lay.alloc _ _).trans (Lay.drewN _ _)⟩
  · simp only at h1 h2 h3
    subst h1
    have t1 : decide (0 < q) = true := by simp; omega
    have hq0 : 0 ≤ q := by omega
    have hq1 : q ≤ 1000000 := by omega
    go_enter Try.func31, Try.ntmps31
    go_wp2_with fail
    go_quiet (first | (go_at_call 76; exact Calls.quiet_of_same (size_any _ _ (by omega) (by omega))) | (go_at_call 78; exact Calls.quiet_of_same (gcd1_any q _ h2 hq1)))
    go_wp2_with fail
    go_ret
    exact ⟨rfl, (Lay.alloc _ _).trans (Lay.drewN _ _)⟩
theorem mul_any (x y : Int) (w : World) (h0 : 0 ≤ x) (h1 : x ≤ 1000) (h2 : 0 ≤ y) (h3 : y ≤ 1000) : Calls Try.prog 121 #[.int .u64 x, .int .u64 y] w fun e w' => e = .returned (.tuple #[.int .u64 0, .int .u64 (x * y)]) ∧ w' = w := by
  obtain ⟨a, rfl⟩ : ∃ a : Nat, x = a := ⟨x.toNat, by omega⟩
  obtain ⟨b, rfl⟩ : ∃ b : Nat, y = b := ⟨y.toNat, by omega⟩
  have hab : a * b ≤ 1000 * 1000 := Nat.mul_le_mul (by omega) (by omega)
  have h := Any.bits_Mul64 Try.lays264 a b (by omega) (by omega) w
  rw [Nat.div_eq_of_lt (by omega), Nat.mod_eq_of_lt (by omega)] at h
  refine h.mono ?_
  rintro e w' ⟨rfl, rfl⟩
  exact ⟨by simp, rfl⟩
set_option maxRecDepth 100000 in
theorem times_any (v n : Int) (w : World) (h0 : 0 ≤ v) (h1 : v ≤ 1000) (h2 : 0 ≤ n) (h3 : n ≤ 1000) : Calls Try.prog 75 #[.int .i64 v, .int .u64 n] w fun e w' => e = .returned (.agg #[.bool false, .int .u64 0, .int .u64 (v * n)]) ∧ Lay w w' := by
  have t1 : decide (v < 0) = false := by simpa using h0
  have HM := Lib.hid (fun w => mul_any v n w h0 h1 h2 h3)
  obtain ⟨p, hp⟩ : ∃ p, v * n = p := ⟨_, rfl⟩
  rw [hp] at HM
  rw [hp]
  have hv1 : v ≤ 1000000 := by omega
  clear hp
  go_enter Try.func75, Try.ntmps75
  go_wp2_with fail
  refine (size_any v _ h0 hv1).mono ?_
  rintro e w' ⟨rfl, hw'⟩
  rw [hw']; clear hw' w'
  go_wp2_with fail
  refine (HM.out _).mono ?_
  rintro e w' ⟨rfl, hw'⟩
  rw [hw']; clear hw' w'
  go_wp2_with fail
  have h := alloc_last w (.cells #[.bool false, .int .u64 0, .int .u64 p] 139)
  have c0 : (w.alloc (.cells #[.bool false, .int .u64 0, .int .u64 p] 139)).cell? ⟨w.heap.size, 0, none⟩ = some (.bool false) := cell_of_blk h rfl
  have c1 : (w.alloc (.cells #[.bool false, .int .u64 0, .int .u64 p] 139)).cell? ⟨w.heap.size, 1, none⟩ = some (.int .u64 0) := cell_of_blk h rfl
  have c2 : (w.alloc (.cells #[.bool false, .int .u64 0, .int .u64 p] 139)).cell? ⟨w.heap.size, 2, none⟩ = some (.int .u64 p) := cell_of_blk h rfl
  exact bodyPost_ret (v := .agg #[.bool false, .int .u64 0, .int .u64 p]) (by simp [results, Try.results75, go_sem, c0, c1, c2]) rfl ⟨rfl, Lay.alloc _ _⟩
def wA (x : Int) : Value := .agg #[.bool false, .int .u64 0, .int .u64 x]
set_option maxRecDepth 100000 in
theorem order_any (x y : Int) (w : World) : Calls Try.prog 77 #[wA x, wA y] w fun e w' => e = .returned (.int .i64 (cmpI x y)) ∧ Lay w w' := by
  unfold wA
  by_cases h1 : x < y
  · have t1 : decide (x < y) = true := by simp [h1]
    rw [show cmpI x y = -1 by unfold cmpI; rw [if_pos h1]]
    clear h1
    go_enter Try.func77, Try.ntmps77
    go_wp2_with fail
    go_ret
    exact ⟨rfl, (Lay.alloc _ _).trans (Lay.alloc _ _)⟩
  · have t1 : decide (x < y) = false := by simp [h1]
    by_cases h2 : y < x
    · rw [show cmpI x y = 1 by unfold cmpI; rw [if_neg h1, if_pos h2]]
      have h3 : ¬ x = y := by omega
      clear h1 h2
      go_enter Try.func77, Try.ntmps77
      go_wp2_with fail
      go_ret
      exact ⟨rfl, (Lay.alloc _ _).trans (Lay.alloc _ _)⟩
    · obtain rfl : x = y := by omega
      rw [show cmpI x x = 0 by unfold cmpI; rw [if_neg h1, if_neg h1]]
      clear h1 h2
      go_enter Try.func77, Try.ntmps77
      go_wp2_with fail
      go_ret
      exact ⟨rfl, (Lay.alloc _ _).trans (Lay.alloc _ _)⟩
end Go.Proofs.Ytemeppfikpafbaa
