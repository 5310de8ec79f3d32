/- The reference's operators: the contracts of ref10.one, magnitude, quotient, Unary and Binary, in the terms of the program's own (unV, binV). -/
import Derived.Test.YtekhoanjpnjaeaaOps
import Derived.Test.YtekhoanjpnjaeaaArith
namespace Go.Proofs.Ytekhoanjpnjaeaa
open Go.RowKit
theorem one_any (b : Bool) (w : World) : Calls Try.prog 64 #[.bool b] w fun e w' => e = .returned (.int .i64 (tr b)) ∧ w = w' := by
  cases b
  all_goals
    go_enter Try.func64, Try.ntmps64
    go_wp2
    go_ret
    exact ⟨rfl, rfl⟩
theorem ret_int {k : IntKind} {a b : Int} (h : a = b) : Ending.returned (.int k a) = .returned (.int k b) := by rw [h]
theorem ret_ints {k k' : IntKind} {a b a' b' : Int} (h : a = b) (h' : a' = b') : Ending.returned (.tuple #[.int k a, .int k' a']) = .returned (.tuple #[.int k b, .int k' b']) := by rw [h, h']
theorem mag_any (a : Int) (w : World) (h0 : -9223372036854775808 ≤ a) (h1 : a ≤ 9223372036854775807) : Calls Try.prog 108 #[.int .i64 a] w fun e w' => e = .returned (.int .u64 a.natAbs) ∧ w = w' := by
  have H0 := Lib.hid h0; have H1 := Lib.hid h1; clear h0 h1
  go_enter Try.func108, Try.ntmps108
  go_wp2
  all_goals go_ret
  all_goals refine ⟨ret_int ?_, rfl⟩
  all_goals (have := H0.out; have := H1.out; simp [IntKind.wrap, IntKind.bits, IntKind.signed]; omega)
theorem div12 (a b : Int) (hb : b ≠ 0) : divV 12 a b = wrap64 (a.tdiv b) := by
  unfold divV; rw [if_neg hb]
  by_cases h1 : b = -1
  · subst h1; simp
  · rw [if_neg h1]; rfl
theorem div13 (a b : Int) (hb : b ≠ 0) : divV 13 a b = a.tmod b := by
  unfold divV; rw [if_neg hb]
  by_cases h1 : b = -1
  · subst h1; simp
  · rw [if_neg h1]; rfl
theorem quot_same (a b : Int) (hb : b ≠ 0) (h : (!decide (a < 0) == decide (b < 0)) = false) : wrap64 (IntKind.u64.wrap (↑a.natAbs / ↑b.natAbs)) = divV 12 a b := by
  rw [div12 a b hb, tdiv_cases, w64_u64]
  simp at h; simp [h]
theorem quot_opp (a b : Int) (hb : b ≠ 0) (h : (!decide (a < 0) == decide (b < 0)) = true) : wrap64 (IntKind.u64.wrap (-(IntKind.u64.wrap (↑a.natAbs / ↑b.natAbs)))) = divV 12 a b := by
  rw [div12 a b hb, tdiv_cases, w64_neg]
  simp at h; simp [h]
theorem quot_any (a b : Int) (w : World) (h0 : -9223372036854775808 ≤ a) (h1 : a ≤ 9223372036854775807) (g0 : -9223372036854775808 ≤ b) (g1 : b ≤ 9223372036854775807) : Calls Try.prog 66 #[.int .i64 a, .int .i64 b] w fun e w' => e = .returned (.int .i64 (divV 12 a b)) ∧ w = w' := by
  have H := Lib.hid (And.intro (And.intro h0 h1) (And.intro g0 g1)); clear h0 h1 g0 g1
  by_cases hb : b = 0
  · subst hb
    go_enter Try.func66, Try.ntmps66
    go_wp2
    go_ret
    exact ⟨rfl, rfl⟩
  · have hb0 : (b == 0) = false := by simpa using hb
    generalize hV : divV 12 a b = V
    have HV := Lib.hid hV; clear hV
    go_enter Try.func66, Try.ntmps66
    go_wp2_with fail
    refine (mag_any _ _ H.out.1.1 H.out.1.2).mono ?_; rintro e w' ⟨rfl, rfl⟩
    go_wp2_with fail
    refine (mag_any _ _ H.out.2.1 H.out.2.2).mono ?_; rintro e w' ⟨rfl, rfl⟩
    go_wp2
    all_goals go_ret
    · exact ⟨ret_int (by rw [← HV.out]; exact quot_opp a b hb ‹_›), rfl⟩
    · exact ⟨ret_int (by rw [← HV.out]; exact quot_same a b hb ‹_›), rfl⟩
theorem runary_any (op a : Int) (w : World) : Calls Try.prog 21 #[.int .i64 op, .int .i64 a] w fun e w' => e = .returned (.tuple #[.int .i64 (unV op a).1, .int .i64 (unV op a).2]) ∧ w = w' := by
  generalize hV : unV op a = V
  have HV := Lib.hid hV; clear hV
  go_enter Try.func21, Try.ntmps21
  go_wp2_with (go_at_call 64; refine (one_any _ _).mono ?_; rintro e w' ⟨rfl, rfl⟩)
  all_goals go_ret2
  all_goals refine ⟨ret_ints ?_ ?_, rfl⟩
  all_goals (rw [← HV.out]; simp_all [unV, w64_neg])
theorem rmod_eq (a b : Int) (hb : b ≠ 0) (g0 : -9223372036854775808 ≤ b) (g1 : b ≤ 9223372036854775807) : wrap64 (IntKind.u64.wrap (IntKind.u64.wrap a - IntKind.u64.wrap (IntKind.u64.wrap b * IntKind.u64.wrap (divV 12 a b)))) = divV 13 a b := by
  rw [div12 a b hb, div13 a b hb, w64_u64, u64w, u64w, u64w, u64w]
  have hm := tmod_abs a b hb
  have e : a.tmod b = wrap64 (a.tmod b) := (w64_in (by omega) (by omega)).symm
  rw [e]
  have e2 : a.tmod b = a - b * a.tdiv b := by have := Int.mul_tdiv_add_tmod a b; omega
  rw [e2]
  apply w64_congr
  have e3 : (b % 18446744073709551616 * (wrap64 (a.tdiv b) % 18446744073709551616)) % 18446744073709551616 = (b * a.tdiv b) % 18446744073709551616 := by
    rw [show wrap64 (a.tdiv b) % 18446744073709551616 = a.tdiv b % 18446744073709551616 by unfold wrap64; omega]
    exact (Int.mul_emod _ _ _).symm
  omega

set_option maxHeartbeats 400000 in
theorem rbinary_any (op a b : Int) (w : World) (h0 : -9223372036854775808 ≤ a) (h1 : a ≤ 9223372036854775807) (g0 : -9223372036854775808 ≤ b) (g1 : b ≤ 9223372036854775807) : Calls Try.prog 23 #[.int .i64 op, .int .i64 a, .int .i64 b] w fun e w' => e = .returned (.tuple #[.int .i64 (binV op a b).1, .int .i64 (binV op a b).2]) ∧ w = w' := by
  have H := Lib.hid (And.intro (And.intro h0 h1) (And.intro g0 g1)); clear h0 h1 g0 g1
  rcases bin_cases op with rfl | rfl | rfl | rfl | rfl | rfl | rfl | rfl | rfl | rfl | rfl | h | h | h
  · go_enter Try.func23, Try.ntmps23
    go_wp2
    go_ret2
    exact ⟨ret_ints (w64_mul a b) rfl, rfl⟩
  · go_enter Try.func23, Try.ntmps23
    go_wp2_with fail
    refine (quot_any _ _ _ H.out.1.1 H.out.1.2 H.out.2.1 H.out.2.2).mono ?_; rintro e w' ⟨rfl, rfl⟩
    go_wp2
    go_ret2
    exact ⟨rfl, rfl⟩
  · by_cases hb : b = 0
    · subst hb
      go_enter Try.func23, Try.ntmps23
      go_wp2
      go_ret2
      exact ⟨rfl, rfl⟩
    · have hb0 : (b == 0) = false := by simpa using hb
      go_enter Try.func23, Try.ntmps23
      go_wp2_with fail
      refine (quot_any _ _ _ H.out.1.1 H.out.1.2 H.out.2.1 H.out.2.2).mono ?_; rintro e w' ⟨rfl, rfl⟩
      go_wp2
      go_ret2
      exact ⟨ret_ints (rmod_eq a b hb H.out.2.1 H.out.2.2) rfl, rfl⟩
  · go_enter Try.func23, Try.ntmps23
    go_wp2
    go_ret2
    exact ⟨ret_ints (w64_add a b) rfl, rfl⟩
  · go_enter Try.func23, Try.ntmps23
    go_wp2
    go_ret2
    exact ⟨ret_ints (w64_sub a b) rfl, rfl⟩
  iterate 6
    · go_enter Try.func23, Try.ntmps23
      go_wp2_with ((go_at_call 64; refine (one_any _ _).mono ?_; rintro e w' ⟨rfl, rfl⟩))
      go_ret2
      exact ⟨rfl, rfl⟩
  · by_cases ha : a = 0
    · subst ha h
      go_enter Try.func23, Try.ntmps23
      go_wp2_with ((go_at_call 64; refine (one_any _ _).mono ?_; rintro e w' ⟨rfl, rfl⟩))
      go_ret2
      exact ⟨rfl, rfl⟩
    · have ha0 : (a == 0) = false := by simpa using ha
      have ha1 : (a != 0) = true := by simpa using ha
      subst h
      have HV := Lib.hid (show binV 22 a b = (tr (b != 0), 0) by simp [binV, ha1])
      rw [HV.out]
      go_enter Try.func23, Try.ntmps23
      go_wp2_with ((go_at_call 64; refine (one_any _ _).mono ?_; rintro e w' ⟨rfl, rfl⟩))
      go_ret2
      exact ⟨rfl, rfl⟩
  · by_cases ha : a = 0
    · subst ha h
      go_enter Try.func23, Try.ntmps23
      go_wp2_with ((go_at_call 64; refine (one_any _ _).mono ?_; rintro e w' ⟨rfl, rfl⟩))
      go_ret2
      exact ⟨rfl, rfl⟩
    · have ha0 : (a == 0) = false := by simpa using ha
      have ha1 : (a != 0) = true := by simpa using ha
      subst h
      have HV := Lib.hid (show binV 23 a b = (1, 0) by simp [binV, ha1, tr])
      rw [HV.out]
      go_enter Try.func23, Try.ntmps23
      go_wp2_with ((go_at_call 64; refine (one_any _ _).mono ?_; rintro e w' ⟨rfl, rfl⟩))
      go_ret2
      exact ⟨rfl, rfl⟩
  · rw [binV_out h]
    obtain ⟨h1, h2, h3, h4, h5, h6, h7, h8, h9, h10, h11, h12, h13⟩ := h
    go_enter Try.func23, Try.ntmps23
    go_wp2
    go_ret2
    exact ⟨rfl, rfl⟩
end Go.Proofs.Ytekhoanjpnjaeaa
