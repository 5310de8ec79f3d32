/- The walk of CacheHolds (12). -/
import Derived.Test.YtemeppfikpafbaaAwkC2
namespace Go.Proofs.Ytemeppfikpafbaa
open Go.RowKit
theorem holds_ask {a b : Nat} (ha : a < 65536) (hb : b < 65536) : getR (getE [entB 3 a 0 false true] (setCh 2) (holdM b)) = .tuple #[.bool (decide (a = b)), .bool (decide (a = b))] := by
  have := app_bits (c := 3) (u := 0) (a := 2) (h := a) (k := b) false true (by decide) (by decide) (by decide) ha hb
  rw [show decide (2 &&& 3 = 2) = true from by decide, show decide (0 &&& 2 = 0) = true from by decide, Bool.and_true, Bool.and_true] at this
  unfold getE
  rw [List.reverse_singleton, List.find?_cons, this]
  cases decide (a = b) <;> rfl
set_option maxRecDepth 100000 in
set_option maxHeartbeats 4000000 in
theorem cacheHolds_walk (a b : Nat) (t : Bool) (w : World) (ha : a < 65536) (hb : b < 65536) : Calls Try.prog 12 #[.int .u16 a, .int .u16 b, .bool t] w fun e w' => e = .returned (.bool true) ∧ Below w.heap.size w w' := by
  have HAW := Lib.hid (fun W => awakeC_any W)
  have HNEW := Lib.hid (show ∀ W, Calls Try.prog 36 #[.int .i64 2] W fun e w' => e = .returned (.pointer (some ⟨W.heap.size, 0, none⟩)) ∧ w' = W.alloc (.cells #[.int .i64 2, .slice none 0 0, .int .i64 0] 146) from fun W => newCache_any 2 W)
  have HS3 := Lib.hid (show ∀ W, Calls Try.prog 38 #[.int .u16 3] W fun e w' => (∃ v, e = .returned (.agg #[v]) ∧ Row (fun x => W.heap.size ≤ x) w' 7 (setCh 3).length v (flatC chC (setCh 3))) ∧ Below W.heap.size W w' from fun W => set_row 3 W)
  have HS2 := Lib.hid (show ∀ W, Calls Try.prog 38 #[.int .u16 2] W fun e w' => (∃ v, e = .returned (.agg #[v]) ∧ Row (fun x => W.heap.size ≤ x) w' 7 (setCh 2).length v (flatC chC (setCh 2))) ∧ Below W.heap.size W w' from fun W => set_row 2 W)
  have HMA := Lib.hid (fun W => messages_any a false W)
  have HMB := Lib.hid (fun W => messages_any b t W)
  have HMC := Lib.hid (fun W => messages_any a t W)
  obtain ⟨q, HQ⟩ : ∃ q, Hid (decide (a = b) = q) := ⟨_, Lib.hid rfl⟩
  have HG1 := Lib.hid (holds_ask ha hb)
  have HG2 := Lib.hid (holds_ask ha ha)
  rw [HQ.out] at HG1
  rw [decide_eq_true (rfl : a = a)] at HG2
  have HQE := Lib.hid (show ((a : Int) == (b : Int)) = q by rw [← HQ.out, Bool.eq_iff_iff]; simp; omega)
  clear ha hb
  go_enter Try.func12, Try.ntmps12
  go_wp2_with fail
  refine (HAW.out _).mono ?_
  rintro e w0 ⟨rfl, hb1⟩
  have HB0 := Lib.hid hb1
  clear hb1 HAW
  go_wp2_with fail
  refine (HNEW.out _).mono ?_
  rintro e w1 ⟨rfl, hw1⟩
  obtain ⟨CB, HCB⟩ : ∃ CB, Hid (CB = w0.heap.size) := ⟨_, Lib.hid rfl⟩
  have HC1 := Lib.hid (show CState S1 w1 CB 2 0 [] (CB + 1) (.slice none 0 0) [] by rw [hw1, HCB.out]; exact CState.start _ _ _)
  have HB1 := Lib.hid (show Below CB w0 w1 by rw [hw1, HCB.out]; exact (Below.refl _ _).alloc (Nat.le_refl _) _)
  have HZ1 := Lib.hid (show CB + 1 ≤ w1.heap.size by rw [hw1, World.size_alloc, HCB.out]; exact Nat.le_refl _)
  rw [← HCB.out]
  clear hw1
  go_wp2_with fail
  refine (HS3.out _).mono ?_
  rintro e w2 ⟨⟨v2, rfl, hr2⟩, hb2⟩
  obtain ⟨sa, sc, rfl, _⟩ := hr2.shape
  have HC2 := Lib.hid (HC1.out.below hb2)
  have HB2 := Lib.hid (HB1.out.trans (hb2.mono (Nat.le_of_lt (blk_lt HC1.out.blk))))
  have HZ2 := Lib.hid (Nat.le_trans HZ1.out hb2.size)
  have HRs_2 := Lib.hid (show Row (fun x => CB + 1 ≤ x ∧ S1 x) w2 7 (setCh 3).length (.slice sa (setCh 3).length sc) (flatC chC (setCh 3)) from hr2.mono (fun x hx => ⟨Nat.le_trans HZ1.out hx, trivial⟩) (fun _ _ _ _ h => h))
  clear hr2 hb2
  go_wp2_with fail
  refine (HMA.out _).mono ?_
  rintro e w3 ⟨⟨v3, rfl, ho3⟩, hb3⟩
  have HNm := Lib.hid (owns_nil ho3)
  obtain ⟨ma, mc, rfl, _⟩ := owns_shape ho3
  have HC3 := Lib.hid (HC2.out.below hb3)
  have HB3 := Lib.hid (HB2.out.trans (hb3.mono (Nat.le_of_lt (blk_lt HC2.out.blk))))
  have HZ3 := Lib.hid (Nat.le_trans HZ2.out hb3.size)
  have HRs_3 := Lib.hid (HRs_2.out.below hb3)
  clear HRs_2
  have HRm_3 := Lib.hid (show Row anyB w3 3 ((pick (ord16 false) a).map msgI).length (.slice ma (pick (ord16 false) a).length mc) (flatC mC ((pick (ord16 false) a).map msgI)) by rw [List.length_map]; exact (Row.of_owns ho3).mono (fun _ _ => trivial) (fun _ _ _ _ h => h))
  clear ho3 hb3
  have HPUT := Lib.hid (put_bits S1 CB 2 0 [] (CB + 1) _ _ 3 a 0 false false (.slice sa (setCh 3).length sc) (.slice ma (pick (ord16 false) a).length mc) (.slice none 0 0) true w3 HC3.out HZ3.out (fun _ _ => trivial) HRs_3.out HRm_3.out HNm.out (row_none4 false w3) (by decide) (by decide) (by decide))
  generalize (setCh 3).length = ns at HPUT ⊢
  generalize (pick (ord16 false) a).length = nm at HPUT ⊢
  go_wp2_with fail
  refine HPUT.out.mono ?_
  rintro e w4 ⟨⟨rfl, cv, raw, hc4⟩, hb4⟩
  have HC4 := Lib.hid (show CState S1 w4 CB 2 0 [entB 3 a 0 false true] w4.heap.size cv raw from hc4)
  have HZ4 := Lib.hid (Nat.le_refl w4.heap.size)
  have HB4 := Lib.hid (HB3.out.trans hb4)
  clear hc4 hb4 HPUT
  go_wp2_with fail
  refine (HS2.out _).mono ?_
  rintro e w5 ⟨⟨v5, rfl, hr5⟩, hb5⟩
  obtain ⟨xa, xc, rfl, _⟩ := hr5.shape
  have HC5 := Lib.hid (HC4.out.below hb5)
  have HB5 := Lib.hid (HB4.out.trans (hb5.mono (Nat.le_of_lt (blk_lt HC4.out.blk))))
  have HZ5 := Lib.hid (Nat.le_trans HZ4.out hb5.size)
  have HRx_5 := Lib.hid (show Row (fun x => w4.heap.size ≤ x ∧ S1 x) w5 7 (setCh 2).length (.slice xa (setCh 2).length xc) (flatC chC (setCh 2)) from hr5.mono (fun x hx => ⟨Nat.le_trans HZ4.out hx, trivial⟩) (fun _ _ _ _ h => h))
  clear hr5 hb5
  go_wp2_with fail
  refine (HMB.out _).mono ?_
  rintro e w6 ⟨⟨v6, rfl, ho6⟩, hb6⟩
  have HNy := Lib.hid (owns_nil ho6)
  obtain ⟨ya, yc, rfl, _⟩ := owns_shape ho6
  have HC6 := Lib.hid (HC5.out.below hb6)
  have HB6 := Lib.hid (HB5.out.trans (hb6.mono (Nat.le_of_lt (blk_lt HC5.out.blk))))
  have HZ6 := Lib.hid (Nat.le_trans HZ5.out hb6.size)
  have HRx_6 := Lib.hid (HRx_5.out.below hb6)
  clear HRx_5
  have HRy_6 := Lib.hid (show Row anyB w6 3 ((pick (ord16 t) b).map msgI).length (.slice ya (pick (ord16 t) b).length yc) (flatC mC ((pick (ord16 t) b).map msgI)) by rw [List.length_map]; exact (Row.of_owns ho6).mono (fun _ _ => trivial) (fun _ _ _ _ h => h))
  clear ho6 hb6
  have HGET := Lib.hid (show Calls Try.prog 42 #[.pointer (some ⟨CB, 0, none⟩), .agg #[.slice xa (setCh 2).length xc], .slice ya (pick (ord16 t) b).length yc] w6 fun e w' => (e = .returned (.tuple #[.bool q, .bool q]) ∧ ∃ hits, CState S1 w' CB 2 hits [entB 3 a 0 false true] w4.heap.size cv raw ∧ 0 ≤ hits ∧ hits ≤ 1) ∧ Below CB w6 w' from by
    have := get_bits S1 CB 2 0 [entB 3 a 0 false true] w4.heap.size cv raw 2 b t (.slice xa (setCh 2).length xc) (.slice ya (pick (ord16 t) b).length yc) w6 HC6.out (HRx_6.out.mono (fun _ _ => trivial) (fun _ _ _ _ h => h)) HRy_6.out HNy.out (by simp) (by decide)
    rw [HG1.out] at this
    exact this.mono fun _ _ h => ⟨⟨h.1.1, _, h.1.2, by unfold getH; split <;> omega, by unfold getH; split <;> omega⟩, h.2⟩)
  generalize (setCh 2).length = nx at HGET ⊢
  generalize (pick (ord16 t) b).length = ny at HGET ⊢
  go_wp2_with fail
  refine HGET.out.mono ?_
  rintro e w7 ⟨⟨rfl, hits7, hc7, hh7⟩, hb7⟩
  have HC7 := Lib.hid hc7
  have HZ7 := Lib.hid (Nat.le_trans HZ6.out hb7.size)
  have HH7 := Lib.hid hh7
  have HB7 := Lib.hid (HB6.out.trans hb7)
  clear hc7 hb7 hh7 HGET
  go_wp2_with fail
  refine (HS2.out _).mono ?_
  rintro e w8 ⟨⟨v8, rfl, hr8⟩, hb8⟩
  obtain ⟨za, zc, rfl, _⟩ := hr8.shape
  have HC8 := Lib.hid (HC7.out.below hb8)
  have HB8 := Lib.hid (HB7.out.trans (hb8.mono (Nat.le_of_lt (blk_lt HC7.out.blk))))
  have HZ8 := Lib.hid (Nat.le_trans HZ7.out hb8.size)
  have HRz_8 := Lib.hid (show Row (fun x => w4.heap.size ≤ x ∧ S1 x) w8 7 (setCh 2).length (.slice za (setCh 2).length zc) (flatC chC (setCh 2)) from hr8.mono (fun x hx => ⟨Nat.le_trans HZ7.out hx, trivial⟩) (fun _ _ _ _ h => h))
  clear hr8 hb8
  go_wp2_with fail
  refine (HMC.out _).mono ?_
  rintro e w9 ⟨⟨v9, rfl, ho9⟩, hb9⟩
  have HNu := Lib.hid (owns_nil ho9)
  obtain ⟨ua, uc, rfl, _⟩ := owns_shape ho9
  have HC9 := Lib.hid (HC8.out.below hb9)
  have HB9 := Lib.hid (HB8.out.trans (hb9.mono (Nat.le_of_lt (blk_lt HC8.out.blk))))
  have HZ9 := Lib.hid (Nat.le_trans HZ8.out hb9.size)
  have HRz_9 := Lib.hid (HRz_8.out.below hb9)
  clear HRz_8
  have HRu_9 := Lib.hid (show Row anyB w9 3 ((pick (ord16 t) a).map msgI).length (.slice ua (pick (ord16 t) a).length uc) (flatC mC ((pick (ord16 t) a).map msgI)) by rw [List.length_map]; exact (Row.of_owns ho9).mono (fun _ _ => trivial) (fun _ _ _ _ h => h))
  clear ho9 hb9
  have HGET := Lib.hid (show Calls Try.prog 42 #[.pointer (some ⟨CB, 0, none⟩), .agg #[.slice za (setCh 2).length zc], .slice ua (pick (ord16 t) a).length uc] w9 fun e w' => (e = .returned (.tuple #[.bool true, .bool true]) ∧ ∃ hits, CState S1 w' CB 2 hits [entB 3 a 0 false true] w4.heap.size cv raw ∧ 0 ≤ hits ∧ hits ≤ 2) ∧ Below CB w9 w' from by
    have := get_bits S1 CB 2 hits7 [entB 3 a 0 false true] w4.heap.size cv raw 2 a t (.slice za (setCh 2).length zc) (.slice ua (pick (ord16 t) a).length uc) w9 HC9.out (HRz_9.out.mono (fun _ _ => trivial) (fun _ _ _ _ h => h)) HRu_9.out HNu.out (by simp) (by have := HH7.out; omega)
    rw [HG2.out] at this
    exact this.mono fun _ _ h => ⟨⟨h.1.1, _, h.1.2, by have hz := HH7.out; unfold getH; split <;> omega, by have hz := HH7.out; unfold getH; split <;> omega⟩, h.2⟩)
  generalize (setCh 2).length = nz at HGET ⊢
  generalize (pick (ord16 t) a).length = nu at HGET ⊢
  go_wp2_with fail
  refine HGET.out.mono ?_
  rintro e w10 ⟨⟨rfl, hits10, hc10, hh10⟩, hb10⟩
  have HC10 := Lib.hid hc10
  have HZ10 := Lib.hid (Nat.le_trans HZ9.out hb10.size)
  have HH10 := Lib.hid hh10
  have HB10 := Lib.hid (HB9.out.trans hb10)
  clear hc10 hb10 hh10 HGET
  have HBZ := Lib.hid (show Below w.heap.size w w10 from (more_trans (more_of HB0.out) (show More w0 w10 from by have := HB10.out; rw [HCB.out] at this; exact more_of this)).below)
  have hq := HQE.out
  cases q <;> (go_wp2_with fail; go_ret; exact ⟨rfl, HBZ.out⟩)
end Go.Proofs.Ytemeppfikpafbaa
