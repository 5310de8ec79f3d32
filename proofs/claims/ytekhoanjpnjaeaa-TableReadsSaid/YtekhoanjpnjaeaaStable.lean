/- slices.stableCmpFunc (118) and slices.SortStableFunc (77) at no more than 20 entries. -/
import Derived.Test.YtekhoanjpnjaeaaInsert
namespace Go.Proofs.Ytekhoanjpnjaeaa
open Go.RowKit Go.Sort
theorem insert_none (d : Array (Int × Int)) (a b : Nat) (h : b ≤ a + 1) : insertionSort keyLt d a b = d := by
  unfold insertionSort
  exact insOuter_stop a b (a + 1) d (by omega)

theorem insert_at (d : Array (Int × Int)) (B off cap a b N : Nat) (w : World) (hN : d.size = N) (hab : a ≤ b) (hb : b ≤ N) (hsz : N < 4294967296) (hB : B < w.heap.size) (hH : HoldE w B off d) :
    Calls Try.prog 134 #[.slice (some ⟨B, off, none⟩) N cap, .int .i64 a, .int .i64 b, .func (.func 78) #[] #[]] w fun e w' => e = .returned (.tuple #[]) ∧ w.grownBy w' (some B) ∧ HoldE w' B off (insertionSort keyLt d a b) := by
  subst hN
  exact insert_any d B off cap a b w hab hb hsz hB hH

set_option maxHeartbeats 1000000 in
set_option maxRecDepth 100000 in
theorem stable_small (d : Array (Int × Int)) (B off cap : Nat) (w : World) (hsz : d.size ≤ 20) (hB : B < w.heap.size) (hH : HoldE w B off d) :
    Calls Try.prog 118 #[.slice (some ⟨B, off, none⟩) d.size cap, .int .i64 d.size, .func (.func 78) #[] #[]] w fun e w' => e = .returned (.tuple #[]) ∧ w.grownBy w' (some B) ∧ HoldE w' B off (insertionSort keyLt d 0 d.size) := by
  have HH := Lib.hid hH; clear hH
  go_enter Try.func118, Try.ntmps118
  go_wp2_with fail
  go_loopw [7, 8] (fun va vb wr => ∃ (c a : Nat) (dk : Array (Int × Int)), va = .int .i64 a ∧ vb = .int .i64 (a + 20) ∧ a ≤ d.size ∧ Hid (w.grownBy wr (some B)) ∧ Hid (HoldE wr B off dk) ∧ Hid (dk.size = d.size ∧ insertionSort keyLt dk a d.size = insertionSort keyLt d 0 d.size)) (fun va _ _ => d.size - (intOf va).toNat)
  case atStart => exact ⟨0, 0, d, rfl, rfl, Nat.zero_le _, Lib.hid (World.grownBy.refl _ _), HH, Lib.hid ⟨rfl, rfl⟩⟩
  case round =>
    obtain ⟨c, a, dk, rfl, rfl, ha, HG, HK, HE⟩ := hrel
    have hBw : B < wr.heap.size := Nat.lt_of_lt_of_le hB HG.out.size
    have hs := HE.out.1
    have HS := Lib.hid hs; clear hs
    by_cases hlt : a + 20 ≤ d.size
    · have ha0 : a = 0 := by omega
      subst ha0
      go_wp2_with fail
      refine (insert_at dk B off cap 0 20 d.size wr HS.out (by omega) (by omega) (by omega) hBw HK.out).mono ?_
      rintro e w1 ⟨rfl, hg1, hh1⟩
      have hs1 := (insertion_stab dk 0 20 (by omega) (by rw [HS.out]; omega)).2.1
      have HR := Lib.hid (show (insertionSort keyLt dk 0 20).size = d.size ∧ insertionSort keyLt (insertionSort keyLt dk 0 20) 20 d.size = insertionSort keyLt d 0 d.size by
        have h20 : d.size = 20 := by omega
        refine ⟨by rw [hs1]; exact HS.out, ?_⟩
        have h2 := HE.out.2
        rw [h20] at h2 ⊢
        rw [h2]
        exact insert_none _ 20 20 (by omega))
      have HG1 := Lib.hid (grownBy_trans HG.out hg1)
      have HH1 := Lib.hid hh1
      clear hg1 hh1 hs1
      go_wp2_with fail
      go_roundw
      case rel => exact ⟨0, 20, _, by first | rfl | go_num, by first | rfl | go_num, by omega, HG1, HH1, HR⟩
      case measure => simp [intOf]; omega
    · go_wp2_with fail
      refine (insert_at dk B off cap a d.size d.size wr HS.out (by omega) (by omega) (by omega) hBw HK.out).mono ?_
      rintro e w1 ⟨rfl, hg1, hh1⟩
      have HG1 := Lib.hid (grownBy_trans HG.out hg1)
      have HH1 := Lib.hid (show HoldE w1 B off (insertionSort keyLt d 0 d.size) by rw [← HE.out.2]; exact hh1)
      clear hg1 hh1 
      go_wp2_with fail
      refine wp_loop_rounds 1 ?_
      rw [rounds_succ]
      go_wp2_with fail
      go_end0
      exact ⟨rfl, HG1.out, HH1.out⟩

theorem sort_small (d : Array (Int × Int)) (B off cap : Nat) (w : World) (hsz : d.size ≤ 20) (hB : B < w.heap.size) (hH : HoldE w B off d) :
    Calls Try.prog 77 #[.slice (some ⟨B, off, none⟩) d.size cap, .func (.func 78) #[] #[]] w fun e w' => e = .returned (.tuple #[]) ∧ w.grownBy w' (some B) ∧ HoldE w' B off (insertionSort keyLt d 0 d.size) := by
  have HH := Lib.hid hH; clear hH
  go_enter Try.func77, Try.ntmps77
  go_wp2_with fail
  refine (stable_small d B off cap w hsz hB HH.out).mono ?_
  rintro e w1 ⟨rfl, hg1, hh1⟩
  have HG1 := Lib.hid hg1
  have HH1 := Lib.hid hh1
  clear hg1 hh1
  go_wp2_with fail
  go_end0
  exact ⟨rfl, HG1.out, HH1.out⟩
end Go.Proofs.Ytekhoanjpnjaeaa
