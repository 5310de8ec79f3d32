/- slices.swapRangeCmpFunc (158). -/
import Derived.Test.YtekhoanjpnjaeaaHoldE
import Derived.Test.YtekhoanjpnjaeaaRotP
namespace Go.Proofs.Ytekhoanjpnjaeaa
open Go.RowKit Go.Sort

set_option maxHeartbeats 1000000 in
theorem swapR_any (X P Y Q Z : List (Int × Int)) (B off cap a b n N : Nat) (fv : Value) (w : World) (hX : X.length = a) (hP : P.length = n) (hQ : Q.length = n) (hb : a + n + Y.length = b) (hN : (X ++ P ++ Y ++ Q ++ Z).length = N) (hsz : N < 4294967296)
    (hH : HoldE w B off (X ++ P ++ Y ++ Q ++ Z).toArray) :
    Calls Try.prog 158 #[.slice (some ⟨B, off, none⟩) N cap, .int .i64 a, .int .i64 b, .int .i64 n, fv] w fun e w' => e = .returned (.tuple #[]) ∧ w.grownBy w' (some B) ∧ HoldE w' B off (X ++ Q ++ Y ++ P ++ Z).toArray := by
  have hbn : b + n ≤ N := by simp only [List.length_append] at hN; omega
  have han : a + n ≤ b := by omega
  have HH := Lib.hid (show HoldE w B off (swL X P Y Q Z 0).toArray by rw [swL_zero]; exact hH)
  have HL := Lib.hid (And.intro hX (And.intro hP (And.intro hQ (And.intro hb hN))))
  clear hX hP hQ hb hN hH
  go_enter Try.func158, Try.ntmps158
  go_wp2_with fail
  go_loopw [10] (fun i wr => ∃ k : Nat, k ≤ n ∧ i = .int .i64 k ∧ Hid (w.grownBy wr (some B)) ∧ Hid (HoldE wr B off (swL X P Y Q Z k).toArray)) (fun i _ => n - (intOf i).toNat)
  case atStart => exact ⟨0, Nat.zero_le _, rfl, Lib.hid (World.grownBy.refl _ _), HH⟩
  case round =>
    obtain ⟨k, hk, rfl, HG, HK⟩ := hrel
    by_cases hlt : k < n
    · obtain ⟨p, q, hp, hq, hs⟩ := swL_step X P Y Q Z k n a b hlt HL.out.1 HL.out.2.1 HL.out.2.2.1 HL.out.2.2.2.1
      have hlen : (swL X P Y Q Z k).toArray.size = N := by simp only [List.size_toArray]; rw [swL_len]; exact HL.out.2.2.2.2
      have c1 := HK.out (a + k) (by omega)
      have c2 := HK.out (b + k) (by omega)
      have HN := Lib.hid (show HoldE (swW wr B off (a + k) (b + k) p q) B off (swL X P Y Q Z (k + 1)).toArray by
        have := swW_holds HK.out (i := a + k) (j := b + k) (by omega) (by omega)
        rw [hp, hq, hs] at this
        exact this)
      rw [hp] at c1
      rw [hq] at c2
      obtain ⟨p0, p1, f0, f1⟩ := c1
      obtain ⟨q0, q1, f2, f3⟩ := c2
      have HN2 := Lib.hid (swW_grown HG.out off (a + k) (b + k) p q)
      clear hp hq hs hlen HK HG HH
      have b1 : (a : Int) + k < N := by omega
      have b2 : (b : Int) + k < N := by omega
      go_wp2_with fail
      go_region
      go_wp2_with fail
      go_roundw
      case rel => exact ⟨k + 1, by omega, by go_num, HN2, HN⟩
      case measure => simp [intOf]; omega
    · have hkk : k = n := by omega
      subst hkk
      go_wp2_with fail
      go_end0
      refine ⟨rfl, HG.out, ?_⟩
      have := HK.out
      rwa [swL_end X P Y Q Z k HL.out.2.1 HL.out.2.2.1] at this
end Go.Proofs.Ytekhoanjpnjaeaa
