/- The law's messages (39), keys (40). -/
import Derived.Test.YtemeppfikpafbaaGreatCho1
namespace Go.Proofs.YtemeppfikpafbaaGreat
open Go.RowKit
theorem ord16_len (t : Bool) : (ord16 t).length = 16 := by cases t <;> rfl
theorem ord16_get (t : Bool) (j : Nat) (h : j < (ord16 t).length) : (ord16 t)[j] = if t then 15 - j else j := by
  rw [ord16_len] at h
  cases t
  · have : ∀ j, (h : j < 16) → up16[j]'(by simp [up16]; omega) = j := by decide
    exact this j h
  · have : ∀ j, (h : j < 16) → down16[j]'(by simp [down16]; omega) = 15 - j := by decide
    exact this j h
theorem pick_step (o : List Nat) (b j : Nat) (h : j < o.length) : pick (o.take (j + 1)) b = pick (o.take j) b ++ if b.testBit o[j] then [o[j]] else [] := by
  unfold pick
  rw [List.take_succ_eq_append_getElem h, List.filter_append]
  congr 1
  by_cases e : b.testBit o[j] = true <;> simp [e]
theorem bit_tmod (b k : Nat) : Int.tmod ((b : Int) / 2 ^ k) 2 = if b.testBit k = true then 1 else 0 := by
  have e : ((b : Int) / 2 ^ k) = ((b / 2 ^ k : Nat) : Int) := by simp
  rw [e, Int.tmod_eq_emod_of_nonneg (Int.natCast_nonneg _), Nat.testBit_eq_decide_div_mod_eq]
  have : b / 2 ^ k % 2 = 0 ∨ b / 2 ^ k % 2 = 1 := by omega
  rcases this with h | h
  · rw [if_neg (by simp [h])]; omega
  · rw [if_pos (by simp [h])]; omega
end Go.Proofs.YtemeppfikpafbaaGreat
