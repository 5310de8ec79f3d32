/- trial -/
import Derived.Test.YtekhoanjpnjaeaaProg
import Derived.WalkKit
import Derived.WalkLawsBesides
import Derived.WalkSpells
import Derived.Outline
import Derived.Lib.Hide
namespace Go.Proofs.Ytekhoanjpnjaeaa
open Go.RowKit

def tr (b : Bool) : Int := if b then 1 else 0
def unV (op a : Int) : Int × Int := if op = 9 then (wrap64 (-a), 0) else if op = 10 then (tr (a == 0), 0) else (0, 1)
def divV (op a b : Int) : Int :=
  if b = 0 then 0 else if b = -1 then (if op = 12 then wrap64 (-a) else 0) else if op = 12 then wrap64 (a.tdiv b) else a.tmod b
def binV (op a b : Int) : Int × Int :=
  if op = 11 then (wrap64 (a * b), 0) else if op = 12 then (divV 12 a b, 0) else if op = 13 then (divV 13 a b, 0)
  else if op = 14 then (wrap64 (a + b), 0) else if op = 15 then (wrap64 (a - b), 0) else if op = 16 then (tr (a == b), 0)
  else if op = 17 then (tr (a != b), 0) else if op = 18 then (tr (decide (a < b)), 0) else if op = 19 then (tr (decide (a ≤ b)), 0)
  else if op = 20 then (tr (decide (b < a)), 0) else if op = 21 then (tr (decide (b ≤ a)), 0)
  else if op = 22 then (tr (a != 0 && b != 0), 0) else if op = 23 then (tr (a != 0 || b != 0), 0) else (0, 1)

theorem truth_any (b : Bool) (w : World) : Calls Try.prog 63 #[.bool b] w fun e w' => e = .returned (.int .i64 (tr b)) ∧ w = w' := by
  cases b
  all_goals
    go_enter Try.func63, Try.ntmps63
    go_wp2
    go_ret
    exact ⟨rfl, rfl⟩

theorem unary_any (op a : Int) (w : World) : Calls Try.prog 20 #[.int .u8 op, .int .i64 a] w fun e w' => e = .returned (.tuple #[.int .i64 (unV op a).1, .int .i64 (unV op a).2]) ∧ w = w' := by
  generalize hV : unV op a = V
  have HV := Lib.hid hV; clear hV
  go_enter Try.func20, Try.ntmps20
  go_wp2_with (go_at_call 63; refine (truth_any _ _).mono ?_; rintro e w' ⟨rfl, rfl⟩)
  all_goals go_ret2
  all_goals refine ⟨?_, rfl⟩
  all_goals (rw [← HV.out]; simp_all [unV])


theorem divide_any (op a b : Int) (w : World) : Calls Try.prog 65 #[.int .u8 op, .int .i64 a, .int .i64 b] w fun e w' => e = .returned (.int .i64 (divV op a b)) ∧ w = w' := by
  generalize hV : divV op a b = V
  have HV := Lib.hid hV; clear hV
  by_cases hb : b = 0
  · subst hb
    go_enter Try.func65, Try.ntmps65
    go_wp2
    go_ret
    exact ⟨by rw [← HV.out]; rfl, rfl⟩
  · have hb0 : (b == 0) = false := by simpa using hb
    go_enter Try.func65, Try.ntmps65
    go_wp2
    all_goals go_ret
    all_goals refine ⟨?_, rfl⟩
    all_goals (rw [← HV.out]; simp_all [divV])


def binOut (op : Int) : Prop := (op == 11) = false ∧ (op == 12) = false ∧ (op == 13) = false ∧ (op == 14) = false ∧ (op == 15) = false ∧ (op == 16) = false ∧ (op == 17) = false ∧ (op == 18) = false ∧ (op == 19) = false ∧ (op == 20) = false ∧ (op == 21) = false ∧ (op == 22) = false ∧ (op == 23) = false
theorem bin_cases (op : Int) : op = 11 ∨ op = 12 ∨ op = 13 ∨ op = 14 ∨ op = 15 ∨ op = 16 ∨ op = 17 ∨ op = 18 ∨ op = 19 ∨ op = 20 ∨ op = 21 ∨ op = 22 ∨ op = 23 ∨ binOut op := by
  unfold binOut; simp only [beq_eq_false_iff_ne]; omega
theorem binV_out {op : Int} (h : binOut op) (a b : Int) : binV op a b = (0, 1) := by
  obtain ⟨h1, h2, h3, h4, h5, h6, h7, h8, h9, h10, h11, h12, h13⟩ := h
  simp only [beq_eq_false_iff_ne] at *
  simp only [binV, if_neg h1, if_neg h2, if_neg h3, if_neg h4, if_neg h5, if_neg h6, if_neg h7, if_neg h8, if_neg h9, if_neg h10, if_neg h11, if_neg h12, if_neg h13]

set_option maxHeartbeats 400000 in
theorem binary_any (op a b : Int) (w : World) : Calls Try.prog 22 #[.int .u8 op, .int .i64 a, .int .i64 b] w fun e w' => e = .returned (.tuple #[.int .i64 (binV op a b).1, .int .i64 (binV op a b).2]) ∧ w = w' := by
  rcases bin_cases op with rfl | rfl | rfl | rfl | rfl | rfl | rfl | rfl | rfl | rfl | rfl | h | h | h
  · go_enter Try.func22, Try.ntmps22
    go_wp2
    go_ret2
    exact ⟨rfl, rfl⟩
  · go_enter Try.func22, Try.ntmps22
    go_wp2_with ((go_at_call 65; refine (divide_any _ _ _ _).mono ?_; rintro e w' ⟨rfl, rfl⟩))
    go_ret2
    exact ⟨rfl, rfl⟩
  · go_enter Try.func22, Try.ntmps22
    go_wp2_with ((go_at_call 65; refine (divide_any _ _ _ _).mono ?_; rintro e w' ⟨rfl, rfl⟩))
    go_ret2
    exact ⟨rfl, rfl⟩
  iterate 2
    · go_enter Try.func22, Try.ntmps22
      go_wp2
      go_ret2
      exact ⟨rfl, rfl⟩
  iterate 6
    · go_enter Try.func22, Try.ntmps22
      go_wp2_with ((go_at_call 63; refine (truth_any _ _).mono ?_; rintro e w' ⟨rfl, rfl⟩))
      go_ret2
      exact ⟨rfl, rfl⟩
  · by_cases ha : a = 0
    · subst ha h
      go_enter Try.func22, Try.ntmps22
      go_wp2_with ((go_at_call 63; refine (truth_any _ _).mono ?_; rintro e w' ⟨rfl, rfl⟩))
      go_ret2
      exact ⟨rfl, rfl⟩
    · have ha0 : (a == 0) = false := by simpa using ha
      have ha1 : (a != 0) = true := by simpa using ha
      subst h
      have HV := Lib.hid (show binV 22 a b = (tr (b != 0), 0) by simp [binV, ha1])
      rw [HV.out]
      go_enter Try.func22, Try.ntmps22
      go_wp2_with ((go_at_call 63; refine (truth_any _ _).mono ?_; rintro e w' ⟨rfl, rfl⟩))
      go_ret2
      exact ⟨rfl, rfl⟩
  · by_cases ha : a = 0
    · subst ha h
      go_enter Try.func22, Try.ntmps22
      go_wp2_with ((go_at_call 63; refine (truth_any _ _).mono ?_; rintro e w' ⟨rfl, rfl⟩))
      go_ret2
      exact ⟨rfl, rfl⟩
    · have ha0 : (a == 0) = false := by simpa using ha
      have ha1 : (a != 0) = true := by simpa using ha
      subst h
      have HV := Lib.hid (show binV 23 a b = (1, 0) by simp [binV, ha1, tr])
      rw [HV.out]
      go_enter Try.func22, Try.ntmps22
      go_wp2_with ((go_at_call 63; refine (truth_any _ _).mono ?_; rintro e w' ⟨rfl, rfl⟩))
      go_ret2
      exact ⟨rfl, rfl⟩
  · rw [binV_out h]
    obtain ⟨h1, h2, h3, h4, h5, h6, h7, h8, h9, h10, h11, h12, h13⟩ := h
    go_enter Try.func22, Try.ntmps22
    go_wp2
    go_ret2
    exact ⟨rfl, rfl⟩
end Go.Proofs.Ytekhoanjpnjaeaa
