/- cmp.Compare at kinds (122, 177), ints (123, 178) and statuses (141, 185); cmp.Or (68). -/
import Derived.Test.YtemeppfikpafbaaK0
namespace Go.Proofs.Ytemeppfikpafbaa
open Go.RowKit
/-- What cmp.Compare answers. -/
def cmpI (x y : Int) : Int := if x < y then -1 else if y < x then 1 else 0
theorem cmpI_neg {x y : Int} : cmpI x y < 0 ↔ x < y := by unfold cmpI; split <;> (try split) <;> simp_all <;> omega
theorem cmpI_zero {x y : Int} : cmpI x y = 0 ↔ x = y := by unfold cmpI; split <;> (try split) <;> simp_all <;> omega
theorem cmpI_bounds (x y : Int) : -1 ≤ cmpI x y ∧ cmpI x y ≤ 1 := by unfold cmpI; split <;> (try split) <;> simp
theorem cmpI_swap (x y : Int) : cmpI y x = - cmpI x y := by unfold cmpI; split <;> (try split) <;> (try split) <;> omega

theorem nanK_any (x : Int) (w : World) : Calls Try.prog 177 #[.int .u8 x] w fun e w' => e = .returned (.bool false) ∧ w' = w := by
  go_enter Try.func177, Try.ntmps177
  go_wp2_with fail
  go_ret
  simp
theorem cmpK_any (x y : Int) (w : World) : Calls Try.prog 122 #[.int .u8 x, .int .u8 y] w fun e w' => e = .returned (.int .i64 (cmpI x y)) ∧ w' = w := by
  go_enter Try.func122, Try.ntmps122
  by_cases h1 : x < y
  · have t1 : decide (x < y) = true := by simp [h1]
    have hc : cmpI x y = -1 := by simp [cmpI, h1]
    have HC := Lib.hid hc; clear hc h1
    go_wp2_with fail
    refine (nanK_any _ _).mono ?_
    rintro e w1 ⟨rfl, rfl⟩
    go_wp2_with fail
    refine (nanK_any _ _).mono ?_
    rintro e w1 ⟨rfl, rfl⟩
    go_wp2_with fail
    go_ret
    rw [HC.out]
    exact ⟨rfl, rfl⟩
  · have t1 : decide (x < y) = false := by simp [h1]
    by_cases h2 : y < x
    · have t2 : decide (y < x) = true := by simp [h2]
      have hc : cmpI x y = 1 := by simp [cmpI, h1, h2]
      have HC := Lib.hid hc; clear hc h1 h2
      go_wp2_with fail
      refine (nanK_any _ _).mono ?_
      rintro e w1 ⟨rfl, rfl⟩
      go_wp2_with fail
      refine (nanK_any _ _).mono ?_
      rintro e w1 ⟨rfl, rfl⟩
      go_wp2_with fail
      go_ret
      rw [HC.out]
      exact ⟨rfl, rfl⟩
    · have t2 : decide (y < x) = false := by simp [h2]
      have hc : cmpI x y = 0 := by simp [cmpI, h1, h2]
      have HC := Lib.hid hc; clear hc h1 h2
      go_wp2_with fail
      refine (nanK_any _ _).mono ?_
      rintro e w1 ⟨rfl, rfl⟩
      go_wp2_with fail
      refine (nanK_any _ _).mono ?_
      rintro e w1 ⟨rfl, rfl⟩
      go_wp2_with fail
      go_ret
      rw [HC.out]
      exact ⟨rfl, rfl⟩

theorem nanN_any (x : Int) (w : World) : Calls Try.prog 178 #[.int .i64 x] w fun e w' => e = .returned (.bool false) ∧ w' = w := by
  go_enter Try.func178, Try.ntmps178
  go_wp2_with fail
  go_ret
  simp
theorem cmpN_any (x y : Int) (w : World) : Calls Try.prog 123 #[.int .i64 x, .int .i64 y] w fun e w' => e = .returned (.int .i64 (cmpI x y)) ∧ w' = w := by
  go_enter Try.func123, Try.ntmps123
  by_cases h1 : x < y
  · have t1 : decide (x < y) = true := by simp [h1]
    have hc : cmpI x y = -1 := by simp [cmpI, h1]
    have HC := Lib.hid hc; clear hc h1
    go_wp2_with fail
    refine (nanN_any _ _).mono ?_
    rintro e w1 ⟨rfl, rfl⟩
    go_wp2_with fail
    refine (nanN_any _ _).mono ?_
    rintro e w1 ⟨rfl, rfl⟩
    go_wp2_with fail
    go_ret
    rw [HC.out]
    exact ⟨rfl, rfl⟩
  · have t1 : decide (x < y) = false := by simp [h1]
    by_cases h2 : y < x
    · have t2 : decide (y < x) = true := by simp [h2]
      have hc : cmpI x y = 1 := by simp [cmpI, h1, h2]
      have HC := Lib.hid hc; clear hc h1 h2
      go_wp2_with fail
      refine (nanN_any _ _).mono ?_
      rintro e w1 ⟨rfl, rfl⟩
      go_wp2_with fail
      refine (nanN_any _ _).mono ?_
      rintro e w1 ⟨rfl, rfl⟩
      go_wp2_with fail
      go_ret
      rw [HC.out]
      exact ⟨rfl, rfl⟩
    · have t2 : decide (y < x) = false := by simp [h2]
      have hc : cmpI x y = 0 := by simp [cmpI, h1, h2]
      have HC := Lib.hid hc; clear hc h1 h2
      go_wp2_with fail
      refine (nanN_any _ _).mono ?_
      rintro e w1 ⟨rfl, rfl⟩
      go_wp2_with fail
      refine (nanN_any _ _).mono ?_
      rintro e w1 ⟨rfl, rfl⟩
      go_wp2_with fail
      go_ret
      rw [HC.out]
      exact ⟨rfl, rfl⟩

theorem nanS_any (x : Int) (w : World) : Calls Try.prog 185 #[.int .u8 x] w fun e w' => e = .returned (.bool false) ∧ w' = w := by
  go_enter Try.func185, Try.ntmps185
  go_wp2_with fail
  go_ret
  simp
theorem cmpS_any (x y : Int) (w : World) : Calls Try.prog 141 #[.int .u8 x, .int .u8 y] w fun e w' => e = .returned (.int .i64 (cmpI x y)) ∧ w' = w := by
  go_enter Try.func141, Try.ntmps141
  by_cases h1 : x < y
  · have t1 : decide (x < y) = true := by simp [h1]
    have hc : cmpI x y = -1 := by simp [cmpI, h1]
    have HC := Lib.hid hc; clear hc h1
    go_wp2_with fail
    refine (nanS_any _ _).mono ?_
    rintro e w1 ⟨rfl, rfl⟩
    go_wp2_with fail
    refine (nanS_any _ _).mono ?_
    rintro e w1 ⟨rfl, rfl⟩
    go_wp2_with fail
    go_ret
    rw [HC.out]
    exact ⟨rfl, rfl⟩
  · have t1 : decide (x < y) = false := by simp [h1]
    by_cases h2 : y < x
    · have t2 : decide (y < x) = true := by simp [h2]
      have hc : cmpI x y = 1 := by simp [cmpI, h1, h2]
      have HC := Lib.hid hc; clear hc h1 h2
      go_wp2_with fail
      refine (nanS_any _ _).mono ?_
      rintro e w1 ⟨rfl, rfl⟩
      go_wp2_with fail
      refine (nanS_any _ _).mono ?_
      rintro e w1 ⟨rfl, rfl⟩
      go_wp2_with fail
      go_ret
      rw [HC.out]
      exact ⟨rfl, rfl⟩
    · have t2 : decide (y < x) = false := by simp [h2]
      have hc : cmpI x y = 0 := by simp [cmpI, h1, h2]
      have HC := Lib.hid hc; clear hc h1 h2
      go_wp2_with fail
      refine (nanS_any _ _).mono ?_
      rintro e w1 ⟨rfl, rfl⟩
      go_wp2_with fail
      refine (nanS_any _ _).mono ?_
      rintro e w1 ⟨rfl, rfl⟩
      go_wp2_with fail
      go_ret
      rw [HC.out]
      exact ⟨rfl, rfl⟩

/-- The first that is not 0. -/
def orI : List Int → Int
  | [] => 0
  | x :: r => if x = 0 then orI r else x
def iV (l : List Int) : List Value := l.map fun x => .int .i64 x
theorem iV_get (l : List Int) (j : Nat) (h : j < l.length) : (iV l)[j]? = some (.int .i64 l[j]) := by simp [iV, h]
set_option maxRecDepth 100000 in
theorem or_any (S : Nat → Prop) (l : List Int) (v : Value) (w : World) (hl : l.length ≤ 1000000) (h : Row S w 1 l.length v (iV l)) :
    Calls Try.prog 68 #[v] w fun e w' => e = .returned (.int .i64 (orI l)) ∧ w' = w := by
  obtain ⟨a, cap, rfl, _⟩ := h.shape
  have HR := Lib.hid h; clear h
  go_enter Try.func68, Try.ntmps68
  go_wp2_with fail
  go_loop [8] (fun i => ∃ j : Nat, j ≤ l.length ∧ i = .int .i64 j ∧ Hid (orI (l.drop j) = orI l)) (fun i => l.length - (intOf i).toNat)
  case atStart => exact ⟨0, Nat.zero_le _, rfl, Lib.hid rfl⟩
  case round =>
    obtain ⟨j, hj, rfl, HE⟩ := hrel
    by_cases hlt : j < l.length
    · obtain ⟨b, off, rfl, _, _, hc⟩ := HR.out.at (by omega)
      have g0 := hc _ _ (iV_get l j hlt)
      clear hc
      have HDR := Lib.hid (List.drop_eq_getElem_cons hlt)
      generalize l[j] = x at *
      by_cases hx : x = 0
      · have t1 : (x != 0) = false := by simp [hx]
        have HE1 := Lib.hid (show orI (l.drop (j + 1)) = orI l by rw [← HE.out, HDR.out, orI, if_pos hx])
        clear hx
        go_wp2_with fail
        go_round
        case rel => exact ⟨j + 1, by omega, by go_num, HE1⟩
        case measure => simp [intOf]; omega
      · have t1 : (x != 0) = true := by simpa using hx
        have HE1 := Lib.hid (show x = orI l by rw [← HE.out, HDR.out, orI, if_neg hx])
        clear hx
        go_wp2_with fail
        go_ret
        exact ⟨by rw [← HE1.out]; rfl, rfl⟩
    · have HE1 := Lib.hid (show 0 = orI l by rw [← HE.out, List.drop_of_length_le (by omega)]; rfl)
      go_wp2_with fail
      go_ret
      exact ⟨by rw [← HE1.out]; rfl, rfl⟩
end Go.Proofs.Ytemeppfikpafbaa
