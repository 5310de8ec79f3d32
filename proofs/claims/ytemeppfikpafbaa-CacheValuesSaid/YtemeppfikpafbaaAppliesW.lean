/- The walk of CacheApplies (10). -/
import Derived.Test.YtemeppfikpafbaaAwkC2
namespace Go.Proofs.Ytemeppfikpafbaa
open Go.RowKit
theorem and_bits {x y : Nat} (hx : x < 65536) (hy : y < 65536) : bits .and .u16 (x : Int) (y : Int) = ((x &&& y : Nat) : Int) := by
  have hz : x &&& y < 65536 := Nat.lt_of_le_of_lt Nat.and_le_left hx
  have e1 : (BitVec.ofInt 16 (x : Int)).toNat = x := by rw [BitVec.ofInt_natCast, BitVec.toNat_ofNat]; exact Nat.mod_eq_of_lt hx
  have e2 : (BitVec.ofInt 16 (y : Int)).toNat = y := by rw [BitVec.ofInt_natCast, BitVec.toNat_ofNat]; exact Nat.mod_eq_of_lt hy
  unfold bits
  dsimp only
  rw [BitVec.toNat_and, show IntKind.u16.bits = 16 from rfl, e1, e2]
  simp only [IntKind.wrap, show IntKind.u16.bits = 16 from rfl, show IntKind.u16.signed = false from rfl, Bool.false_and, Bool.false_eq_true, if_false]
  omega
theorem or_bits {x y : Nat} (hx : x < 65536) (hy : y < 65536) : bits .or .u16 (x : Int) (y : Int) = ((x ||| y : Nat) : Int) := by
  have hz : x ||| y < 65536 := Nat.or_lt_two_pow (n := 16) hx hy
  have e1 : (BitVec.ofInt 16 (x : Int)).toNat = x := by rw [BitVec.ofInt_natCast, BitVec.toNat_ofNat]; exact Nat.mod_eq_of_lt hx
  have e2 : (BitVec.ofInt 16 (y : Int)).toNat = y := by rw [BitVec.ofInt_natCast, BitVec.toNat_ofNat]; exact Nat.mod_eq_of_lt hy
  unfold bits
  dsimp only
  rw [BitVec.toNat_or, show IntKind.u16.bits = 16 from rfl, e1, e2]
  simp only [IntKind.wrap, show IntKind.u16.bits = 16 from rfl, show IntKind.u16.signed = false from rfl, Bool.false_and, Bool.false_eq_true, if_false]
  omega
theorem or_and {a c : Nat} : a ||| c = c ↔ a &&& c = a := by
  constructor
  · intro h
    apply Nat.eq_of_testBit_eq
    intro i
    have := congrArg (fun n => n.testBit i) h
    simp only [Nat.testBit_or] at this
    rw [Nat.testBit_and]
    cases e1 : a.testBit i <;> cases e2 : c.testBit i <;> simp_all
  · intro h
    apply Nat.eq_of_testBit_eq
    intro i
    have := congrArg (fun n => n.testBit i) h
    simp only [Nat.testBit_and] at this
    rw [Nat.testBit_or]
    cases e1 : a.testBit i <;> cases e2 : c.testBit i <;> simp_all
set_option maxRecDepth 100000 in
set_option maxHeartbeats 4000000 in
theorem cacheApplies_walk (c u0 a : Nat) (w : World) (hc : c < 65536) (hu : u0 < 65536) (ha : a < 65536) : Calls Try.prog 10 #[.int .u16 c, .int .u16 u0, .int .u16 a] w fun e w' => e = .returned (.bool true) ∧ Below w.heap.size w w' := by
  have HAW := Lib.hid (fun W => awakeC_any W)
  have hb0 := and_bits hu hc
  have HSUB := Lib.hid (show (u0 &&& c) &&& c = u0 &&& c by rw [Nat.and_assoc, Nat.and_self])
  have HUL := Lib.hid (show u0 &&& c < 65536 from Nat.lt_of_le_of_lt Nat.and_le_left hu)
  generalize u0 &&& c = u at *
  have HNEW := Lib.hid (show ∀ W, Calls Try.prog 36 #[.int .i64 1] W fun e w' => e = .returned (.pointer (some ⟨W.heap.size, 0, none⟩)) ∧ w' = W.alloc (.cells #[.int .i64 1, .slice none 0 0, .int .i64 0] 146) from fun W => newCache_any 1 W)
  have HSC := Lib.hid (fun W => set_row c W)
  have HSA := Lib.hid (fun W => set_row a W)
  have HKU := Lib.hid (fun W => keys_any u true W)
  have hbo := or_bits ha hc
  have hba := and_bits ha HUL.out
  obtain ⟨q, HQ⟩ : ∃ q, Hid ((decide (a &&& c = a) && decide (u &&& a = u)) = q) := ⟨_, Lib.hid rfl⟩
  have HOA := Lib.hid (show decide (a ||| c = c) = decide (a &&& c = a) from decide_eq_decide.2 or_and)
  have HAC := Lib.hid (show decide (a &&& u = u) = decide (u &&& a = u) by rw [Nat.and_comm])
  go_enter Try.func10, Try.ntmps10
  go_wp2_with fail
  refine (HAW.out _).mono ?_
  rintro e w0 ⟨rfl, hb1⟩
  have HB0 := Lib.hid hb1
  clear hb1 HAW
  go_wp2_with fail
  refine (HNEW.out _).mono ?_
  rintro e w1 ⟨rfl, hw1⟩
  obtain ⟨CB, HCB⟩ : ∃ CB, Hid (CB = w0.heap.size) := ⟨_, Lib.hid rfl⟩
  have HC1 := Lib.hid (show CState S1 w1 CB 1 0 [] (CB + 1) (.slice none 0 0) [] by rw [hw1, HCB.out]; exact CState.start _ _ _)
  have HB1 := Lib.hid (show Below CB w0 w1 by rw [hw1, HCB.out]; exact (Below.refl _ _).alloc (Nat.le_refl _) _)
  have HZ1 := Lib.hid (show CB + 1 ≤ w1.heap.size by rw [hw1, World.size_alloc, HCB.out]; exact Nat.le_refl _)
  rw [← HCB.out]
  clear hw1
  go_wp2_with fail
  refine (HSC.out _).mono ?_
  rintro e w2 ⟨⟨v2, rfl, hr2⟩, hb2⟩
  obtain ⟨a2, c2, rfl, _⟩ := hr2.shape
  have HR2 := Lib.hid hr2
  have HC2 := Lib.hid (HC1.out.below hb2)
  have HB2 := Lib.hid (HB1.out.trans (hb2.mono (Nat.le_of_succ_le HZ1.out)))
  have HZ2 := Lib.hid (Nat.le_trans HZ1.out hb2.size)
  clear hr2 hb2
  go_wp2_with fail
  refine (HKU.out _).mono ?_
  rintro e w3 ⟨⟨v3, rfl, ho3⟩, hb3⟩
  obtain ⟨a3, c3, rfl, _⟩ := owns_shape ho3
  have HKR := Lib.hid (show Row anyB w3 4 ((pick (ord16 true) u).map keyI).length (.slice a3 (pick (ord16 true) u).length c3) (flatC kC ((pick (ord16 true) u).map keyI)) by rw [List.length_map]; exact (Row.of_owns ho3).mono (fun _ _ => trivial) (fun _ _ _ _ h => h))
  have HC3 := Lib.hid (HC2.out.below hb3)
  have HB3 := Lib.hid (HB2.out.trans (hb3.mono (Nat.le_of_succ_le HZ2.out)))
  have HZ3 := Lib.hid (Nat.le_trans HZ2.out hb3.size)
  have HR3 := Lib.hid ((HR2.out.below hb3).mono (S' := fun b => CB + 1 ≤ b ∧ S1 b) (fun b hb => ⟨Nat.le_trans HZ1.out hb, trivial⟩) (fun _ _ _ _ h => h))
  clear ho3 hb3
  have HPUT := Lib.hid (put_bits S1 CB 1 0 [] (CB + 1) _ _ c 0 u false true (.slice a2 (setCh c).length c2) (.slice none 0 0) (.slice a3 (pick (ord16 true) u).length c3) true w3 HC3.out HZ3.out (fun _ _ => trivial) HR3.out (row_none3 false w3) nil_none HKR.out HSUB.out (by decide) (by decide))
  clear HR2 HC1 HC2
  generalize (setCh c).length = n7 at *
  generalize (pick (ord16 true) u).length = n1 at *
  go_wp2_with fail
  refine HPUT.out.mono ?_
  rintro e w4 ⟨⟨rfl, cv, raw, hc4⟩, hb4⟩
  have HC4 := Lib.hid (show CState S1 w4 CB 1 0 [entB c 0 u true true] w4.heap.size cv raw from hc4)
  have HB4 := Lib.hid (HB3.out.trans hb4)
  clear hc4 hb4 HPUT HC3 HR3 HKR
  go_wp2_with fail
  refine (HSA.out _).mono ?_
  rintro e w5 ⟨⟨v5, rfl, hr5⟩, hb5⟩
  obtain ⟨a5, c5, rfl, _⟩ := hr5.shape
  have HC5 := Lib.hid (HC4.out.below hb5)
  have HB5 := Lib.hid (HB4.out.trans (hb5.mono (Nat.le_of_lt (blk_lt HC4.out.blk))))
  have HGE := Lib.hid (show getR (getE [entB c 0 u true true] (setCh a) (holdM 0)) = .tuple #[.bool q, .bool q] by
    have := app_bits (c := c) (u := u) (a := a) (h := 0) (k := 0) true true HSUB.out HUL.out ha (by decide) (by decide)
    rw [decide_eq_true rfl, Bool.true_and, HQ.out] at this
    unfold getE
    rw [List.reverse_singleton, List.find?_cons, this]
    cases q <;> rfl)
  have HG5 := Lib.hid (show Calls Try.prog 42 #[.pointer (some ⟨CB, 0, none⟩), .agg #[.slice a5 (setCh a).length c5], .slice none 0 0] w5 fun e w' => e = .returned (.tuple #[.bool q, .bool q]) ∧ Below CB w5 w' from by
    have := get_bits S1 CB 1 0 [entB c 0 u true true] w4.heap.size cv raw a 0 false (.slice a5 (setCh a).length c5) (.slice none 0 0) w5 HC5.out (hr5.mono (fun _ _ => trivial) (fun _ _ _ _ h => h)) (row_none3 false w5) nil_none (by simp) (by decide)
    rw [HGE.out] at this
    exact this.mono fun _ _ h => ⟨h.1.1, h.2⟩)
  clear hr5 hb5
  generalize (setCh a).length = n5 at *
  go_wp2_with fail
  refine HG5.out.mono ?_
  rintro e w6 ⟨rfl, hb6⟩
  have HB6 := Lib.hid (show Below w.heap.size w w6 from (more_trans (more_of HB0.out) (show More w0 w6 from by have := HB5.out.trans hb6; rw [HCB.out] at this; exact more_of this)).below)
  clear hb6 HG5
  have t1 : ((((a ||| c : Nat) : Int)) == (c : Int)) = decide (a &&& c = a) := by rw [← HOA.out, Bool.eq_iff_iff]; simp; omega
  have t2 : ((((a &&& u : Nat) : Int)) == (u : Int)) = decide (u &&& a = u) := by rw [← HAC.out, Bool.eq_iff_iff]; simp; omega
  have HQ' := HQ.out
  generalize decide (a &&& c = a) = p1 at *
  generalize decide (u &&& a = u) = p2 at *
  generalize hA : ((a ||| c : Nat) : Int) = A at *
  generalize hB : ((a &&& u : Nat) : Int) = B at *
  clear hA hB
  cases p1 <;> cases p2 <;> simp only [Bool.and_false, Bool.and_true] at HQ' <;> subst HQ' <;> (go_wp2_with fail; go_ret; exact ⟨rfl, HB6.out⟩)
end Go.Proofs.Ytemeppfikpafbaa
