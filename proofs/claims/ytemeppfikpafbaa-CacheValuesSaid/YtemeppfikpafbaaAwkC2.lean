/- The cache laws' awake (35): the walk. -/
import Derived.Test.YtemeppfikpafbaaAwkC
namespace Go.Proofs.Ytemeppfikpafbaa
open Go.RowKit
abbrev S1 : Nat → Prop := fun _ => True
set_option maxRecDepth 100000 in
set_option maxHeartbeats 4000000 in
theorem awakeC_any (w : World) : Calls Try.prog 35 #[] w fun e w' => e = .returned (.bool true) ∧ Below w.heap.size w w' := by
  have HNEW := Lib.hid (show ∀ W, Calls Try.prog 36 #[.int .i64 5] W fun e w' => e = .returned (.pointer (some ⟨W.heap.size, 0, none⟩)) ∧ w' = W.alloc (.cells #[.int .i64 5, .slice none 0 0, .int .i64 0] 146) from fun W => newCache_any 5 W)
  have HS7 := Lib.hid (show ∀ W, Calls Try.prog 38 #[.int .u16 7] W fun e w' => (∃ v, e = .returned (.agg #[v]) ∧ Row (fun x => W.heap.size ≤ x) w' 7 (setCh 7).length v (flatC chC (setCh 7))) ∧ Below W.heap.size W w' from fun W => set_row 7 W)
  have HS3 := Lib.hid (show ∀ W, Calls Try.prog 38 #[.int .u16 3] W fun e w' => (∃ v, e = .returned (.agg #[v]) ∧ Row (fun x => W.heap.size ≤ x) w' 7 (setCh 3).length v (flatC chC (setCh 3))) ∧ Below W.heap.size W w' from fun W => set_row 3 W)
  have HS1 := Lib.hid (show ∀ W, Calls Try.prog 38 #[.int .u16 1] W fun e w' => (∃ v, e = .returned (.agg #[v]) ∧ Row (fun x => W.heap.size ≤ x) w' 7 (setCh 1).length v (flatC chC (setCh 1))) ∧ Below W.heap.size W w' from fun W => set_row 1 W)
  have HS6 := Lib.hid (show ∀ W, Calls Try.prog 38 #[.int .u16 6] W fun e w' => (∃ v, e = .returned (.agg #[v]) ∧ Row (fun x => W.heap.size ≤ x) w' 7 (setCh 6).length v (flatC chC (setCh 6))) ∧ Below W.heap.size W w' from fun W => set_row 6 W)
  have HK1 := Lib.hid (show ∀ W, Calls Try.prog 40 #[.int .u16 1, .bool false] W fun e w' => (∃ v, e = .returned v ∧ w'.ownsRow W.heap.size 48 4 v (pick (ord16 false) 1).length (flatC kC ((pick (ord16 false) 1).map keyI))) ∧ Below W.heap.size W w' from fun W => keys_any 1 false W)
  go_enter Try.func35, Try.ntmps35
  go_wp2_with fail
  refine (HNEW.out _).mono ?_
  rintro e w1 ⟨rfl, hw1⟩
  have HC1 := Lib.hid (show CState S1 w1 w.heap.size 5 0 [] (w.heap.size + 1) (.slice none 0 0) [] by rw [hw1]; exact CState.start _ _ _)
  have HB1 := Lib.hid (show Below w.heap.size w w1 by rw [hw1]; exact (Below.refl _ _).alloc (Nat.le_refl _) _)
  have HZ1 := Lib.hid (show w.heap.size + 1 ≤ w1.heap.size by rw [hw1, World.size_alloc]; exact Nat.le_refl _)
  clear hw1
  obtain ⟨CB, HCB⟩ : ∃ CB, Hid (CB = w.heap.size) := ⟨_, Lib.hid rfl⟩
  rw [← HCB.out] at HC1 HB1 HZ1 ⊢
  go_wp2_with fail
  refine (HS7.out _).mono ?_
  rintro e w2 ⟨⟨v2, rfl, hr2⟩, hb2⟩
  obtain ⟨a2, c2, rfl, _⟩ := hr2.shape
  have HR2 := Lib.hid hr2
  have HC2 := Lib.hid (HC1.out.below hb2)
  have HB2 := Lib.hid (HB1.out.trans (hb2.mono (Nat.le_of_succ_le HZ1.out)))
  have HZ2 := Lib.hid (Nat.le_trans HZ1.out hb2.size)
  clear hr2 hb2
  go_wp2_with fail
  refine (HK1.out _).mono ?_
  rintro e w3 ⟨⟨v3, rfl, ho3⟩, hb3⟩
  obtain ⟨a3, c3, rfl, _⟩ := owns_shape ho3
  have HKR := Lib.hid (show Row anyB w3 4 ((pick (ord16 false) 1).map keyI).length (.slice a3 (pick (ord16 false) 1).length c3) (flatC kC ((pick (ord16 false) 1).map keyI)) by rw [List.length_map]; exact (Row.of_owns ho3).mono (fun _ _ => trivial) (fun _ _ _ _ h => h))
  have HC3 := Lib.hid (HC2.out.below hb3)
  have HB3 := Lib.hid (HB2.out.trans (hb3.mono (Nat.le_of_succ_le HZ2.out)))
  have HZ3 := Lib.hid (Nat.le_trans HZ2.out hb3.size)
  have HR3 := Lib.hid ((HR2.out.below hb3).mono (S' := fun b => CB + 1 ≤ b ∧ S1 b) (fun b hb => ⟨Nat.le_trans HZ1.out hb, trivial⟩) (fun _ _ _ _ h => h))
  clear ho3 hb3
  have HPUT := Lib.hid (put_bits S1 CB 5 0 [] (CB + 1) _ _ 7 0 1 false false (.slice a2 (setCh 7).length c2) (.slice none 0 0) (.slice a3 (pick (ord16 false) 1).length c3) true w3 HC3.out HZ3.out (fun _ _ => trivial) HR3.out (row_none3 false w3) nil_none HKR.out (by decide) (by decide) (by decide))
  clear HR2 HC1 HC2
  generalize (setCh 7).length = n7 at *
  generalize (pick (ord16 false) 1).length = n1 at *
  go_wp2_with fail
  refine HPUT.out.mono ?_
  rintro e w4 ⟨⟨rfl, cv, raw, hc4⟩, hb4⟩
  have HC4 := Lib.hid (show CState S1 w4 CB 5 0 exE w4.heap.size cv raw from hc4)
  have HB4 := Lib.hid (HB3.out.trans hb4)
  clear hc4 hb4 HPUT HC3 HR3 HKR
  go_wp2_with fail
  refine (HS3.out _).mono ?_
  rintro e w5 ⟨⟨v5, rfl, hr5⟩, hb5⟩
  obtain ⟨a5, c5, rfl, _⟩ := hr5.shape
  have HC5 := Lib.hid (HC4.out.below hb5)
  have HB5 := Lib.hid (HB4.out.trans (hb5.mono (Nat.le_of_lt (blk_lt HC4.out.blk))))
  have HG5 := Lib.hid (show Calls Try.prog 42 #[.pointer (some ⟨CB, 0, none⟩), .agg #[.slice a5 (setCh 3).length c5], .slice none 0 0] w5 fun e w' => (e = .returned (.tuple #[.bool true, .bool true]) ∧ CState S1 w' CB 5 1 exE w4.heap.size cv raw) ∧ Below CB w5 w' from by
    have := get_bits S1 CB 5 0 exE w4.heap.size cv raw 3 0 false (.slice a5 (setCh 3).length c5) (.slice none 0 0) w5 HC5.out (hr5.mono (fun _ _ => trivial) (fun _ _ _ _ h => h)) (row_none3 false w5) nil_none (by decide) (by decide)
    rw [ex3] at this
    exact this)
  clear hr5 hb5
  generalize (setCh 3).length = n5 at *
  go_wp2_with fail
  refine HG5.out.mono ?_
  rintro e w6 ⟨⟨rfl, hc6⟩, hb6⟩
  have HC6 := Lib.hid hc6
  have HB6 := Lib.hid (HB5.out.trans hb6)
  clear hc6 hb6 HG5
  go_wp2_with fail
  refine (HS1.out _).mono ?_
  rintro e w7 ⟨⟨v7, rfl, hr7⟩, hb7⟩
  obtain ⟨a7, c7, rfl, _⟩ := hr7.shape
  have HC7 := Lib.hid (HC6.out.below hb7)
  have HB7 := Lib.hid (HB6.out.trans (hb7.mono (Nat.le_of_lt (blk_lt HC6.out.blk))))
  have HG7 := Lib.hid (show Calls Try.prog 42 #[.pointer (some ⟨CB, 0, none⟩), .agg #[.slice a7 (setCh 1).length c7], .slice none 0 0] w7 fun e w' => (e = .returned (.tuple #[.bool true, .bool true]) ∧ CState S1 w' CB 5 2 exE w4.heap.size cv raw) ∧ Below CB w7 w' from by
    have := get_bits S1 CB 5 1 exE w4.heap.size cv raw 1 0 false (.slice a7 (setCh 1).length c7) (.slice none 0 0) w7 HC7.out (hr7.mono (fun _ _ => trivial) (fun _ _ _ _ h => h)) (row_none3 false w7) nil_none (by decide) (by decide)
    rw [ex1] at this
    exact this)
  clear hr7 hb7
  generalize (setCh 1).length = n7 at *
  go_wp2_with fail
  refine HG7.out.mono ?_
  rintro e w8 ⟨⟨rfl, hc8⟩, hb8⟩
  have HC8 := Lib.hid hc8
  have HB8 := Lib.hid (HB7.out.trans hb8)
  clear hc8 hb8 HG7
  go_wp2_with fail
  refine (HS6.out _).mono ?_
  rintro e w9 ⟨⟨v9, rfl, hr9⟩, hb9⟩
  obtain ⟨a9, c9, rfl, _⟩ := hr9.shape
  have HC9 := Lib.hid (HC8.out.below hb9)
  have HB9 := Lib.hid (HB8.out.trans (hb9.mono (Nat.le_of_lt (blk_lt HC8.out.blk))))
  have HG9 := Lib.hid (show Calls Try.prog 42 #[.pointer (some ⟨CB, 0, none⟩), .agg #[.slice a9 (setCh 6).length c9], .slice none 0 0] w9 fun e w' => (e = .returned (.tuple #[.bool false, .bool false]) ∧ CState S1 w' CB 5 2 exE w4.heap.size cv raw) ∧ Below CB w9 w' from by
    have := get_bits S1 CB 5 2 exE w4.heap.size cv raw 6 0 false (.slice a9 (setCh 6).length c9) (.slice none 0 0) w9 HC9.out (hr9.mono (fun _ _ => trivial) (fun _ _ _ _ h => h)) (row_none3 false w9) nil_none (by decide) (by decide)
    rw [ex6] at this
    exact this)
  clear hr9 hb9
  generalize (setCh 6).length = n9 at *
  go_wp2_with fail
  refine HG9.out.mono ?_
  rintro e w10 ⟨⟨rfl, hc10⟩, hb10⟩
  have HC10 := Lib.hid hc10
  have HB10 := Lib.hid (HB9.out.trans hb10)
  clear hc10 hb10 HG9
  go_wp2_with fail
  refine (hits_any CB 2 _ _ w10 HC10.out.blk).mono ?_
  rintro e w11 ⟨rfl, hw11⟩
  subst hw11
  go_wp2_with fail
  have HLN := Lib.hid (show Calls Try.prog 44 #[.pointer (some ⟨CB, 0, none⟩)] w11 fun e w' => e = .returned (.int .i64 1) ∧ w' = w11 from by
    obtain ⟨ea, ec, hcv⟩ := HC10.out.shape
    have hbk := HC10.out.blk
    rw [hcv] at hbk
    exact len_any CB ea exE.length ec _ _ w11 hbk)
  refine HLN.out.mono ?_
  rintro e w12 ⟨rfl, hw12⟩
  subst hw12
  go_wp2_with fail
  go_ret
  exact ⟨rfl, by rw [← HCB.out]; exact HB10.out⟩
end Go.Proofs.Ytemeppfikpafbaa
