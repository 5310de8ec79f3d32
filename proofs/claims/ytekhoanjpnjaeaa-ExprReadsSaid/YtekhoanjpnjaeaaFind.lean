/- slices.BinarySearchFunc at table's entries (116), find (76), Len (33), Get (31). -/
import Derived.Test.YtekhoanjpnjaeaaCmp
namespace Go.Proofs.Ytekhoanjpnjaeaa
open Go.RowKit

/-- Keys ascend. -/
def Asc (l : List (Int × Int)) : Prop := l.Pairwise fun x y => x.1 < y.1
/-- p is the place of the key k. -/
def PlaceOf (l : List (Int × Int)) (k : Int) (p : Nat) : Prop := p ≤ l.length ∧ (∀ i (h : i < l.length), i < p → l[i].1 < k) ∧ ∀ i (h : i < l.length), p ≤ i → k ≤ l[i].1

set_option maxRecDepth 100000 in
theorem search_any (S : Nat → Prop) (l : List (Int × Int)) (k : Int) (v : Value) (w : World) (hl : l.length < 4294967296) (hasc : Asc l) (h : Row S w 2 l.length v (flat2 l)) :
    Calls Try.prog 116 #[v, .int .i64 k, .func (.func 117) #[] #[]] w fun e w' => Below w.heap.size w w' ∧ ∃ p, PlaceOf l k p ∧ e = .returned (.tuple #[.int .i64 p, .bool (l[p]?.map (·.1) == some k)]) := by
  obtain ⟨a, cap, rfl, hcap⟩ := h.shape
  have HR := Lib.hid h; clear h
  have HA := Lib.hid hasc; clear hasc
  go_enter Try.func116, Try.ntmps116
  go_wp2_with fail
  go_loopw [9, 10] (fun i j wr => ∃ lo hi : Nat, lo ≤ hi ∧ hi ≤ l.length ∧ i = .int .i64 lo ∧ j = .int .i64 hi ∧ Hid (Below w.heap.size w wr) ∧ Hid ((∀ i (h : i < l.length), i < lo → l[i].1 < k) ∧ ∀ i (h : i < l.length), hi ≤ i → k ≤ l[i].1)) (fun i j _ => (intOf j).toNat - (intOf i).toNat)
  case atStart => exact ⟨0, l.length, Nat.zero_le _, Nat.le_refl _, rfl, rfl, Lib.hid (Below.refl _ _), Lib.hid ⟨fun _ _ h => absurd h (Nat.not_lt_zero _), fun i h h' => by omega⟩⟩
  case round =>
    obtain ⟨lo, hi, hlo, hhi, rfl, rfl, HB, HP⟩ := hrel
    by_cases hlt : lo < hi
    · obtain ⟨m, hm⟩ : ∃ m : Nat, ((lo : Int) + hi) / 2 = m := ⟨(lo + hi) / 2, by omega⟩
      have hml : m < l.length := by omega
      have hm1 : lo ≤ m := by omega
      have hm2 : m < hi := by omega
      go_wp2_with fail
      clear hm
      obtain ⟨b, off, rfl, _, _, hc⟩ := HR.out.at (by omega)
      have g0 := below_cell HB.out (hc _ _ (flat2_get l m hml).1)
      have g1 := below_cell HB.out (hc _ _ (flat2_get l m hml).2)
      rw [← Nat.add_assoc] at g1
      clear hc
      have HM := Lib.hid (show l[m] = l[m] from rfl)
      go_wp2_with fail
      refine (key_any _ _ _ _).mono ?_
      rintro e w1 ⟨rfl, hw1⟩
      have HB1 := Lib.hid (show Below w.heap.size w w1 by rw [hw1]; exact HB.out.alloc HB.out.size _); clear hw1
      by_cases hk : l[m].1 < k
      · have t1 : decide (cmpI l[m].1 k < 0) = true := by simp [cmpI_neg, hk]
        have HK := Lib.hid hk; clear hk
        go_wp2_with fail
        go_roundw
        case rel => exact ⟨m + 1, hi, by omega, hhi, by go_num, rfl, HB1, Lib.hid ⟨fun i h h' => by
          by_cases e : i = m
          · subst e; exact HK.out
          · have := List.pairwise_iff_getElem.1 HA.out i m h hml (by omega); have := HK.out; omega, HP.out.2⟩⟩
        case measure => simp [intOf]; omega
      · have t1 : decide (cmpI l[m].1 k < 0) = false := by simp [cmpI_neg, hk]
        have HK := Lib.hid hk; clear hk
        go_wp2_with fail
        go_roundw
        case rel => exact ⟨lo, m, hm1, by omega, rfl, rfl, HB1, Lib.hid ⟨HP.out.1, fun i h h' => by
          by_cases e : i = m
          · subst e; have := HK.out; omega
          · have := List.pairwise_iff_getElem.1 HA.out m i hml h (by omega); have := HK.out; omega⟩⟩
        case measure => simp [intOf]; omega
    · obtain rfl : hi = lo := by omega
      by_cases hin : hi < l.length
      · obtain ⟨b, off, rfl, _, _, hc⟩ := HR.out.at (by omega)
        have g0 := below_cell HB.out (hc _ _ (flat2_get l hi hin).1)
        have g1 := below_cell HB.out (hc _ _ (flat2_get l hi hin).2)
        rw [← Nat.add_assoc] at g1
        clear hc
        have HE := Lib.hid (show (l[hi]?.map (·.1) == some k) = decide (cmpI l[hi].1 k = 0) by rw [List.getElem?_eq_getElem hin]; simp only [Option.map_some, cmpI_zero]; exact Bool.eq_iff_iff.2 (by simp))
        go_wp2_with fail
        refine (key_any _ _ _ _).mono ?_
        rintro e w1 ⟨rfl, hw1⟩
        have HB1 := Lib.hid (show Below w.heap.size w w1 by rw [hw1]; exact HB.out.alloc HB.out.size _); clear hw1
        go_wp2_with fail
        go_ret2
        exact ⟨HB1.out, hi, ⟨hhi, HP.out⟩, by rw [HE.out]; rfl⟩
      · have HE := Lib.hid (show (l[hi]?.map (·.1) == some k) = false by rw [List.getElem?_eq_none (by omega)]; rfl)
        go_wp2_with fail
        go_ret2
        exact ⟨HB.out, hi, ⟨hhi, HP.out⟩, by rw [HE.out]; rfl⟩
end Go.Proofs.Ytekhoanjpnjaeaa
