/- Status.Text (47); the walk of VerdictTexts (15), from its awake. -/
import Derived.Test.YtemeppfikpafbaaVclC
namespace Go.Proofs.Ytemeppfikpafbaa
open Go.RowKit
def wordT (s : Int) : ByteArray := if s = 1 then ⟨#[99, 101, 114, 116, 97, 105, 110]⟩ else if s = 2 then ⟨#[112, 111, 115, 115, 105, 98, 108, 101]⟩ else if s = 3 then ⟨#[117, 110, 100, 101, 99, 105, 100, 101, 100]⟩ else ⟨#[]⟩
set_option maxRecDepth 100000 in
theorem text47_any (s : Int) (w : World) : Calls Try.prog 47 #[.int .u8 s] w fun e w' => e = .returned (.string (wordT s)) ∧ w' = w := by
  by_cases h1 : s = 1
  · subst h1
    go_enter Try.func47, Try.ntmps47
    go_wp2_with fail
    go_ret
    exact ⟨rfl, rfl⟩
  · by_cases h2 : s = 2
    · subst h2
      go_enter Try.func47, Try.ntmps47
      go_wp2_with fail
      go_ret
      exact ⟨rfl, rfl⟩
    · by_cases h3 : s = 3
      · subst h3
        go_enter Try.func47, Try.ntmps47
        go_wp2_with fail
        go_ret
        exact ⟨rfl, rfl⟩
      · have HW := Lib.hid (show wordT s = ⟨#[]⟩ by unfold wordT; rw [if_neg h1, if_neg h2, if_neg h3])
        have b1 : (s == 1) = false := by simpa using h1
        have b2 : (s == 2) = false := by simpa using h2
        have b3 : (s == 3) = false := by simpa using h3
        rw [HW.out]
        clear h1 h2 h3
        go_enter Try.func47, Try.ntmps47
        go_wp2_with fail
        go_ret
        exact ⟨rfl, rfl⟩
set_option maxRecDepth 100000 in
theorem verdictTexts_of (HAW0 : ∀ W, Calls Try.prog 46 #[] W fun e w' => e = .returned (.bool true) ∧ Below W.heap.size W w') (s : Int) (w : World) : Calls Try.prog 15 #[.int .u8 s] w fun e w' => e = .returned (.bool true) ∧ Below w.heap.size w w' := by
  have HAW := Lib.hid HAW0
  clear HAW0
  have HT := Lib.hid (fun W => text47_any s W)
  by_cases h1 : s = 1
  · subst h1
    have HT1 := Lib.hid (show ∀ W, Calls Try.prog 47 #[.int .u8 1] W fun e w' => e = .returned (.string ⟨#[99, 101, 114, 116, 97, 105, 110]⟩) ∧ w' = W from fun W => HT.out W)
    go_enter Try.func15, Try.ntmps15
    go_wp2_with fail
    refine (HAW.out _).mono ?_
    rintro e w1 ⟨rfl, hb1⟩
    have HB := Lib.hid hb1
    clear hb1
    go_wp2_with fail
    refine (HT1.out _).mono ?_
    rintro e w2 ⟨rfl, hw⟩
    subst w2
    go_wp2_with fail
    go_ret
    exact ⟨rfl, HB.out⟩
  · by_cases h2 : s = 2
    · subst h2
      have HT1 := Lib.hid (show ∀ W, Calls Try.prog 47 #[.int .u8 2] W fun e w' => e = .returned (.string ⟨#[112, 111, 115, 115, 105, 98, 108, 101]⟩) ∧ w' = W from fun W => HT.out W)
      go_enter Try.func15, Try.ntmps15
      go_wp2_with fail
      refine (HAW.out _).mono ?_
      rintro e w1 ⟨rfl, hb1⟩
      have HB := Lib.hid hb1
      clear hb1
      go_wp2_with fail
      refine (HT1.out _).mono ?_
      rintro e w2 ⟨rfl, hw⟩
      subst w2
      go_wp2_with fail
      go_ret
      exact ⟨rfl, HB.out⟩
    · by_cases h3 : s = 3
      · subst h3
        have HT1 := Lib.hid (show ∀ W, Calls Try.prog 47 #[.int .u8 3] W fun e w' => e = .returned (.string ⟨#[117, 110, 100, 101, 99, 105, 100, 101, 100]⟩) ∧ w' = W from fun W => HT.out W)
        go_enter Try.func15, Try.ntmps15
        go_wp2_with fail
        refine (HAW.out _).mono ?_
        rintro e w1 ⟨rfl, hb1⟩
        have HB := Lib.hid hb1
        clear hb1
        go_wp2_with fail
        refine (HT1.out _).mono ?_
        rintro e w2 ⟨rfl, hw⟩
        subst w2
        go_wp2_with fail
        go_ret
        exact ⟨rfl, HB.out⟩
      · have HT1 := Lib.hid (show ∀ W, Calls Try.prog 47 #[.int .u8 s] W fun e w' => e = .returned (.string ⟨#[]⟩) ∧ w' = W from fun W => by
          have := HT.out W
          rw [show wordT s = ⟨#[]⟩ by unfold wordT; rw [if_neg h1, if_neg h2, if_neg h3]] at this
          exact this)
        have b1 : (s == 1) = false := by simpa using h1
        have b2 : (s == 2) = false := by simpa using h2
        have b3 : (s == 3) = false := by simpa using h3
        clear h1 h2 h3
        go_enter Try.func15, Try.ntmps15
        go_wp2_with fail
        refine (HAW.out _).mono ?_
        rintro e w1 ⟨rfl, hb1⟩
        have HB := Lib.hid hb1
        clear hb1
        go_wp2_with fail
        refine (HT1.out _).mono ?_
        rintro e w2 ⟨rfl, hw⟩
        subst w2
        go_wp2_with fail
        go_ret
        exact ⟨rfl, HB.out⟩
end Go.Proofs.Ytemeppfikpafbaa
