/- The walk of CacheValues (17). -/
import Derived.Test.YtemeppfikpafbaaWithW
import Derived.Test.YtemeppfikpafbaaAwkC2
namespace Go.Proofs.Ytemeppfikpafbaa
open Go.RowKit
theorem outC_len (s : List Ch) (ks : List K4) : (outC s ks).length ≤ s.length := List.length_filter_le _ _
theorem getC_out (s : List Ch) (k : K4) : getC (outC s [k]) k = none := by
  unfold getC
  rw [List.find?_eq_none]
  intro x hx
  have := (mem_outC.1 hx).2
  simp at this
  simpa using this
set_option maxRecDepth 100000 in
set_option maxHeartbeats 8000000 in
theorem cacheValues_walk (b0 i0 a0 : Nat) (w : World) (hb : b0 < 65536) (ha : a0 < 256) : Calls Try.prog 17 #[.int .u16 b0, .int .u8 i0, .int .u8 a0] w fun e w' => e = .returned (.bool true) ∧ Below w.heap.size w w' := by
  have HAW := Lib.hid (fun W => awakeC_any W)
  obtain ⟨i, hii⟩ : ∃ i, i0 % 16 = i := ⟨_, rfl⟩
  have hi16 : i < 16 := by omega
  have hr1 : ((i0 : Int).tmod 16) = (i : Int) := by rw [Int.tmod_eq_emod_of_nonneg (Int.natCast_nonneg _)]; omega
  obtain ⟨t0, htt⟩ : ∃ t0, a0 % 200 = t0 := ⟨_, rfl⟩
  have hr2 : ((a0 : Int).tmod 200) = (t0 : Int) := by rw [Int.tmod_eq_emod_of_nonneg (Int.natCast_nonneg _)]; omega
  have ht200 : t0 < 200 := by omega
  obtain ⟨b2, hb2⟩ : ∃ b2 : Nat, b2 = 2 ^ i := ⟨_, rfl⟩
  have hb2l : b2 < 65536 := by rw [hb2]; exact two_lt hi16
  have hsh : IntKind.u16.wrap ((2 : Int) ^ i) = (b2 : Int) := by
    have e : ((2 : Int) ^ i) = ((2 ^ i : Nat) : Int) := by simp
    rw [e, ← hb2]
    simp only [IntKind.wrap, show IntKind.u16.bits = 16 from rfl, show IntKind.u16.signed = false from rfl, Bool.false_and, Bool.false_eq_true, if_false]
    omega
  have hor := or_bits hb hb2l
  obtain ⟨c, hc⟩ : ∃ c : Nat, c = b0 ||| b2 := ⟨_, rfl⟩
  rw [← hc] at hor
  have HBT := Lib.hid (show c.testBit i = true by rw [hc, hb2, Nat.testBit_or, Nat.testBit_two_pow_self, Bool.or_true])
  clear hc hb2 hb2l hii htt hb
  have HNEW := Lib.hid (show ∀ W, Calls Try.prog 36 #[.int .i64 3] W fun e w' => e = .returned (.pointer (some ⟨W.heap.size, 0, none⟩)) ∧ w' = W.alloc (.cells #[.int .i64 3, .slice none 0 0, .int .i64 0] 146) from fun W => newCache_any 3 W)
  have HSC := Lib.hid (fun W => set_row c W)
  have HSO := Lib.hid (fun W => set_any c W)
  obtain ⟨p, hp⟩ : ∃ p : Nat, i % 4 = p := ⟨_, rfl⟩
  obtain ⟨q, hq⟩ : ∃ q : Nat, i / 4 = q := ⟨_, rfl⟩
  have HKI := Lib.hid (show keyI i = ⟨4, p, 0, q⟩ by unfold keyI; rw [hp, hq])
  have HKC := Lib.hid (show ∀ W, Calls Try.prog 54 #[.int .i64 i] W fun e w' => e = .returned (.agg #[.int .u8 4, .int .i64 p, .int .i64 0, .int .i64 q]) ∧ Lay W w' from fun W => by
    have := key54_any i W hi16
    rw [show kA (keyI i) = .agg #[.int .u8 4, .int .i64 p, .int .i64 0, .int .i64 q] by unfold kA; rw [HKI.out]] at this
    exact this)
  obtain ⟨T, hT⟩ : ∃ T : Int, (t0 : Int) + 1 = T := ⟨_, rfl⟩
  have HTT := Lib.hid (show 0 ≤ T ∧ T ≤ 200 by omega)
  have hwt : IntKind.i64.wrap T = T := by rw [IntKind.wrap_i64]; omega
  have hwa : IntKind.i64.wrap (a0 : Int) = a0 := by rw [IntKind.wrap_i64]; omega
  clear hp hq
  go_enter Try.func17, Try.ntmps17
  go_wp2_with fail
  refine (HAW.out _).mono ?_
  rintro e w0 ⟨rfl, hb1⟩
  have HB0 := Lib.hid hb1
  clear hb1 HAW
  go_wp2_with fail
  refine (HNEW.out _).mono ?_
  rintro e w1 ⟨rfl, hw1⟩
  obtain ⟨CB, HCB⟩ : ∃ CB, Hid (CB = w0.heap.size) := ⟨_, Lib.hid rfl⟩
  have HC1 := Lib.hid (show CState S1 w1 CB 3 0 [] (CB + 1) (.slice none 0 0) [] by rw [hw1, HCB.out]; exact CState.start _ _ _)
  have HB1 := Lib.hid (show Below CB w0 w1 by rw [hw1, HCB.out]; exact (Below.refl _ _).alloc (Nat.le_refl _) _)
  have HZ1 := Lib.hid (show CB + 1 ≤ w1.heap.size by rw [hw1, World.size_alloc, HCB.out]; exact Nat.le_refl _)
  rw [← HCB.out]
  clear hw1
  go_wp2_with fail
  refine (HSC.out _).mono ?_
  rintro e w2 ⟨⟨v2, rfl, hr2'⟩, hb2⟩
  obtain ⟨a2, c2, rfl, _⟩ := hr2'.shape
  have HR2 := Lib.hid (hr2'.mono (S' := fun x => CB + 1 ≤ x ∧ S1 x) (fun x hx => ⟨Nat.le_trans HZ1.out hx, trivial⟩) (fun _ _ _ _ h => h))
  have HC2 := Lib.hid (HC1.out.below hb2)
  have HB2 := Lib.hid (HB1.out.trans (hb2.mono (Nat.le_of_succ_le HZ1.out)))
  have HZ2 := Lib.hid (Nat.le_trans HZ1.out hb2.size)
  clear hr2' hb2
  have HPUT := Lib.hid (put_bits S1 CB 3 0 [] (CB + 1) _ _ c 0 0 false false (.slice a2 (setCh c).length c2) (.slice none 0 0) (.slice none 0 0) true w2 HC2.out HZ2.out (fun _ _ => trivial) HR2.out (row_none3 false w2) nil_none (row_none4 false w2) (Nat.zero_and c) (by decide) (by decide))
  clear HR2 HC1
  generalize (setCh c).length = n2 at HPUT ⊢
  go_wp2_with fail
  refine HPUT.out.mono ?_
  rintro e w4 ⟨⟨rfl, cv, raw, hc4⟩, hb4⟩
  have HC4 := Lib.hid (show CState S1 w4 CB 3 0 [entB c 0 0 false true] w4.heap.size cv raw from hc4)
  have HB4 := Lib.hid (HB2.out.trans hb4)
  clear hc4 hb4 HPUT HC2
  go_wp2_with fail
  refine (HSO.out _).mono ?_
  rintro e w5 ⟨⟨v5, rfl, ho5⟩, hb5⟩
  obtain ⟨a5, c5, rfl, _⟩ := owns_shape ho5
  have HR5 := Lib.hid ((Row.of_owns ho5).mono (S' := anyB) (fun _ _ => trivial) (fun _ _ _ _ h => h))
  have HC5 := Lib.hid (HC4.out.below hb5)
  have HB5 := Lib.hid (HB4.out.trans (hb5.mono (Nat.le_of_lt (blk_lt HC4.out.blk))))
  clear ho5 hb5
  go_wp2_with fail
  refine (HKC.out _).mono ?_
  rintro e w6 ⟨rfl, hl6⟩
  have HM7 := Lib.hid (more_trans hl6.1 (more_alloc w6 (.cells #[.int .u8 4, .int .i64 p, .int .i64 0, .int .i64 q] 48)))
  have HK7 := Lib.hid (show Row anyB (w6.alloc (.cells #[.int .u8 4, .int .i64 p, .int .i64 0, .int .i64 q] 48)) 4 ([keyI i] : List K4).length (.slice (some ⟨w6.heap.size, 0, none⟩) 1 1) (flatC kC [keyI i]) by
    have e : flatC kC [keyI i] = [.int .u8 4, .int .i64 p, .int .i64 0, .int .i64 q] := by rw [HKI.out]; rfl
    rw [e]
    exact Row.of_blk1 (alloc_last w6 _))
  have HR7 := Lib.hid (HR5.out.below HM7.out.below)
  have HC7 := Lib.hid (HC5.out.below HM7.out.below)
  have HB7 := Lib.hid (HB5.out.trans (HM7.out.below.mono (Nat.le_of_lt (blk_lt HC5.out.blk))))
  have HWO := Lib.hid (without_any (setCh c) [keyI i] (.slice a5 (setCh c).length c5) (.slice (some ⟨w6.heap.size, 0, none⟩) 1 1) (w6.alloc (.cells #[.int .u8 4, .int .i64 p, .int .i64 0, .int .i64 q] 48)) (by have := setCh_len c; omega) (setCh_asc c) HR7.out HK7.out (by simp))
  clear hl6 HM7 HR5 HC5 HB5
  go_wp2_with fail
  refine HWO.out.mono ?_
  rintro e w8 ⟨⟨v8, rfl, ho8⟩, hb8⟩
  have HN8 := Lib.hid (owns_nil ho8)
  obtain ⟨a8, c8, rfl, _⟩ := owns_shape ho8
  have HR8 := Lib.hid ((Row.of_owns ho8).mono (S' := anyB) (fun _ _ => trivial) (fun _ _ _ _ h => h))
  have HC8 := Lib.hid (HC7.out.below hb8)
  have HB8 := Lib.hid (HB7.out.trans (hb8.mono (Nat.le_of_lt (blk_lt HC7.out.blk))))
  clear ho8 hb8 HWO HR7 HK7 HC7 HB7
  go_wp2_with fail
  refine (HKC.out _).mono ?_
  rintro e w9 ⟨rfl, hl9⟩
  have HR9 := Lib.hid (HR8.out.below hl9.1.below)
  have HC9 := Lib.hid (HC8.out.below hl9.1.below)
  have HB9 := Lib.hid (HB8.out.trans (hl9.1.below.mono (Nat.le_of_lt (blk_lt HC8.out.blk))))
  have HOL := Lib.hid (show (outC (setCh c) [keyI i]).length ≤ 16 from Nat.le_trans (outC_len _ _) (setCh_len c))
  have HWI := Lib.hid (show Calls Try.prog 55 #[.agg #[.slice a8 (outC (setCh c) [keyI i]).length c8], .agg #[.int .u8 4, .int .i64 p, .int .i64 0, .int .i64 q, .int .i64 T, .int .i64 0, .slice none 0 0]] w9 fun e w' => (∃ pp v, PlaceC (outC (setCh c) [keyI i]) (keyI i) pp ∧ e = .returned (.tuple #[.agg #[v], .int .i64 0]) ∧ w'.ownsRow w9.heap.size 113 7 v (insC (outC (setCh c) [keyI i]) pp ⟨keyI i, T⟩).length (flatC chC (insC (outC (setCh c) [keyI i]) pp ⟨keyI i, T⟩))) ∧ Below w9.heap.size w9 w' from by
    have hko := keyI_ok i hi16
    have := with_any (outC (setCh c) [keyI i]) ⟨keyI i, T⟩ (.slice a8 (outC (setCh c) [keyI i]).length c8) w9 (by have := HOL.out; omega) (outC_asc (setCh_asc c) _) (by
      have h1 : i % 4 < 4 := Nat.mod_lt _ (by omega)
      have h2 : i / 4 < 4 := by omega
      have hTT := HTT.out
      constructor <;> simp only [keyI] <;> omega) (getC_out _ _) HR9.out HN8.out
    have e : ((4 : Int) = (keyI i).kind) ∧ ((p : Int) = (keyI i).a) ∧ ((0 : Int) = (keyI i).b) ∧ ((q : Int) = (keyI i).n) := by rw [HKI.out]; exact ⟨rfl, rfl, rfl, rfl⟩
    obtain ⟨e1, e2, e3, e4⟩ := e
    dsimp only at this
    rw [← e1, ← e2, ← e3, ← e4] at this
    exact this)
  clear hl9 HR8 HC8 HB8
  generalize (outC (setCh c) [keyI i]).length = n8 at HWI ⊢
  go_wp2_with fail
  refine HWI.out.mono ?_
  rintro e w10 ⟨⟨pp, v10, hpp, rfl, ho10⟩, hb10⟩
  have HN10 := Lib.hid (owns_nil ho10)
  obtain ⟨a10, c10, rfl, _⟩ := owns_shape ho10
  have HR10 := Lib.hid ((Row.of_owns ho10).mono (S' := anyB) (fun _ _ => trivial) (fun _ _ _ _ h => h))
  have HC10 := Lib.hid (HC9.out.below hb10)
  have HB10 := Lib.hid (HB9.out.trans (hb10.mono (Nat.le_of_lt (blk_lt HC9.out.blk))))
  have HASC := Lib.hid (insC_asc (outC_asc (setCh_asc c) [keyI i]) (c := ⟨keyI i, T⟩) hpp (getC_none' (getC_out _ _)))
  have HMEM := Lib.hid (show ∀ x, x ∈ insC (outC (setCh c) [keyI i]) pp ⟨keyI i, T⟩ ↔ x = ⟨keyI i, T⟩ ∨ (x ∈ setCh c ∧ x.k ≠ keyI i) from fun x => by rw [mem_insC, mem_outC]; simp)
  have HLI := Lib.hid (show (insC (outC (setCh c) [keyI i]) pp ⟨keyI i, T⟩).length ≤ 100 by rw [insC_len hpp.1]; have := HOL.out; omega)
  clear ho10 hb10 HWI HR9 HC9 HB9 hpp
  generalize insC (outC (setCh c) [keyI i]) pp ⟨keyI i, T⟩ = O at *
  have HGA := Lib.hid (get_other hi16 HBT.out HMEM.out)
  have hqe : (T == (i : Int)) = decide (T = (i : Int)) := by rw [Bool.eq_iff_iff]; simp
  obtain ⟨z, HZ⟩ : ∃ z, Hid (decide (T = (i : Int)) = z) := ⟨_, Lib.hid rfl⟩
  rw [HZ.out] at HGA hqe
  have HXB := Lib.hid (alloc_last w10 (.cells #[.slice a10 O.length c10] 73))
  have HM11 := Lib.hid (more_alloc w10 (.cells #[.slice a10 O.length c10] 73))
  go_upto_region 11 with (fail)
  obtain ⟨XB, HXE⟩ : ∃ XB, Hid (XB = w10.heap.size) := ⟨_, Lib.hid rfl⟩
  rw [← HXE.out] at HXB ⊢
  generalize w10.alloc (.cells #[.slice a10 O.length c10] 73) = w11 at *
  have HR11 := Lib.hid (HR10.out.below HM11.out.below)
  have HC11 := Lib.hid (HC10.out.below HM11.out.below)
  have HB11 := Lib.hid (HB10.out.trans (HM11.out.below.mono (Nat.le_of_lt (blk_lt HC10.out.blk))))
  have x0 : w11.cell? ⟨XB, 0, none⟩ = some (.slice a10 O.length c10) := cell_of_blk HXB.out rfl
  have hxb := cell_lt x0
  have HGET := Lib.hid (show Calls Try.prog 42 #[.pointer (some ⟨CB, 0, none⟩), .agg #[.slice a10 O.length c10], .slice none 0 0] w11 fun e w' => e = .returned (.tuple #[.bool z, .bool z]) ∧ Below CB w11 w' from by
    have := get42_any S1 CB 3 0 [entB c 0 0 false true] w4.heap.size cv raw O [] (.slice a10 O.length c10) (.slice none 0 0) w11 HC11.out HASC.out HR11.out HLI.out (Row.nil _ _ _ _ _) nil_none (by simp) (fun j h => by rw [srtM_nil] at h; simp at h) (by simp) (by decide)
    rw [srtM_nil, ← holdM_zero, HGA.out] at this
    exact this.mono fun _ _ h => ⟨h.1.1, h.2⟩)
  generalize O.length = nO at *
  go_wp2_with fail
  refine HGET.out.mono ?_
  rintro e w12 ⟨rfl, hb12⟩
  have HBZ := Lib.hid (show Below w.heap.size w w12 from (more_trans (more_of HB0.out) (show More w0 w12 from by have := HB11.out.trans hb12; rw [HCB.out] at this; exact more_of this)).below)
  clear hb12 x0 hxb
  cases z <;> (go_wp2_with fail; go_ret; exact ⟨rfl, HBZ.out⟩)
end Go.Proofs.Ytemeppfikpafbaa
