/- Choices of all kinds: within (152), timed (151), CheckKey (150), Check (99). -/
import Derived.Test.YtemeppfikpafbaaAppG
import Derived.Test.YtemeppfikpafbaaRCmp
namespace Go.Proofs.Ytemeppfikpafbaa
open Go.RowKit
def keyOkb (k : K4) : Bool := decide (1 ≤ k.kind) && decide (k.kind ≤ 9) && decide (0 ≤ k.a ∧ k.a ≤ 7) && decide (0 ≤ k.b ∧ k.b ≤ topB k.kind) && decide (0 ≤ k.n ∧ k.n ≤ 65535)
theorem keyOkb_iff (k : K4) : keyOkb k = true ↔ KeyOk k := by
  unfold keyOkb
  simp only [Bool.and_eq_true, decide_eq_true_eq]
  exact ⟨fun ⟨⟨⟨⟨h1, h2⟩, h3⟩, h4⟩, h5⟩ => ⟨h1, h2, h3.1, h3.2, h4.1, h4.2, h5.1, h5.2⟩, fun h => ⟨⟨⟨⟨h.k0, h.k1⟩, h.a0, h.a1⟩, h.b0, h.b1⟩, h.n0, h.n1⟩⟩
def topL (kd : Int) : Int := if kd = 1 then 4 else 0
def cgOkb (x : Cg) : Bool := keyOkb x.k && (decide (0 ≤ x.t ∧ x.t ≤ topT x.k.kind) && (decide (lowD x.k.kind ≤ x.d ∧ x.d ≤ topD x.k.kind) && decide ((x.l.length : Int) ≤ topL x.k.kind)))
theorem cgOkb_iff (x : Cg) : cgOkb x = true ↔ CgOk x := by
  unfold cgOkb
  simp only [Bool.and_eq_true, decide_eq_true_eq, keyOkb_iff]
  have hl : (x.l.length : Int) ≤ topL x.k.kind ↔ x.l.length ≤ (if x.k.kind = 1 then 4 else 0) := by
    unfold topL; split <;> omega
  rw [hl]
  exact ⟨fun ⟨h1, h2, h3, h4⟩ => ⟨h1, h2.1, h2.2, h3.1, h3.2, h4⟩, fun h => ⟨h.key, ⟨h.t0, h.t1⟩, ⟨h.d0, h.d1⟩, h.l⟩⟩
theorem within_gen (v lo hi : Int) (w : World) : Calls Try.prog 152 #[.int .i64 v, .int .i64 lo, .int .i64 hi] w fun e w' => e = .returned (.bool (decide (lo ≤ v ∧ v ≤ hi))) ∧ w' = w := by
  by_cases h0 : lo ≤ v
  · by_cases h1 : v ≤ hi
    · rw [decide_eq_true (And.intro h0 h1)]
      go_enter Try.func152, Try.ntmps152
      go_wp2_with fail
      go_ret
      exact ⟨rfl, rfl⟩
    · rw [decide_eq_false (fun h => h1 h.2)]
      have h2 : decide (v ≤ hi) = false := decide_eq_false h1
      clear h1
      go_enter Try.func152, Try.ntmps152
      go_wp2_with fail
      go_ret
      exact ⟨rfl, rfl⟩
  · rw [decide_eq_false (fun h => h0 h.1)]
    have h2 : decide (lo ≤ v) = false := decide_eq_false h0
    clear h0
    go_enter Try.func152, Try.ntmps152
    go_wp2_with fail
    go_ret
    exact ⟨rfl, rfl⟩
theorem timed_gen (k : Int) (w : World) (h0 : 1 ≤ k) (h9 : k ≤ 9) : Calls Try.prog 151 #[.int .u8 k] w fun e w' => e = .returned (.bool (decide (k ≤ 4))) ∧ w' = w := by
  have hk : k = 1 ∨ k = 2 ∨ k = 3 ∨ k = 4 ∨ k = 5 ∨ k = 6 ∨ k = 7 ∨ k = 8 ∨ k = 9 := by omega
  clear h0 h9
  rcases hk with rfl | rfl | rfl | rfl | rfl | rfl | rfl | rfl | rfl
  all_goals
    go_enter Try.func151, Try.ntmps151
    go_wp2_with fail
    go_ret
    exact ⟨rfl, rfl⟩
set_option maxRecDepth 100000 in
set_option maxHeartbeats 4000000 in
theorem checkKey_gen (k : K4) (w : World) (h0 : 0 ≤ k.kind) (h1 : k.kind ≤ 255) : Calls Try.prog 150 #[.agg #[.int .u8 k.kind, .int .i64 k.a, .int .i64 k.b, .int .i64 k.n]] w fun e w' => e = .returned (.int .i64 (if keyOkb k then 0 else 1)) ∧ Lay w w' := by
  obtain ⟨kd, a, b, n⟩ := k
  dsimp only at *
  have HWI := Lib.hid (fun (v lo hi : Int) (W : World) => within_gen v lo hi W)
  have hb := alloc_last w (.cells #[.int .u8 kd, .int .i64 a, .int .i64 b, .int .i64 n] 48)
  have HM := Lib.hid (Lay.alloc w (.cells #[.int .u8 kd, .int .i64 a, .int .i64 b, .int .i64 n] 48))
  by_cases hlo : kd < 1
  · have hz : kd = 0 := by omega
    subst hz
    have HE := Lib.hid (show keyOkb ⟨0, a, b, n⟩ = false by simp [keyOkb])
    rw [HE.out]
    go_enter Try.func150, Try.ntmps150
    go_upto_region 1 with (fail)
    generalize w.alloc (.cells #[.int .u8 0, .int .i64 a, .int .i64 b, .int .i64 n] 48) = w1 at *
    have c0 : w1.cell? ⟨w.heap.size, 0, none⟩ = some (.int .u8 0) := cell_of_blk hb rfl
    have hlt := cell_lt c0
    clear hb
    go_wp2_with fail
    go_ret
    exact ⟨rfl, HM.out⟩
  · by_cases hhi : 9 < kd
    · have HE := Lib.hid (show keyOkb ⟨kd, a, b, n⟩ = false by
        have h2 : decide (kd ≤ 9) = false := decide_eq_false (by omega)
        simp [keyOkb, h2])
      rw [HE.out]
      have hd1 : decide (kd < 1) = false := decide_eq_false hlo
      go_enter Try.func150, Try.ntmps150
      go_upto_region 1 with (fail)
      generalize w.alloc (.cells #[.int .u8 kd, .int .i64 a, .int .i64 b, .int .i64 n] 48) = w1 at *
      have c0 : w1.cell? ⟨w.heap.size, 0, none⟩ = some (.int .u8 kd) := cell_of_blk hb rfl
      have hlt := cell_lt c0
      clear hb
      go_wp2_with fail
      go_ret
      exact ⟨rfl, HM.out⟩
    · have hk : kd = 1 ∨ kd = 2 ∨ kd = 3 ∨ kd = 4 ∨ kd = 5 ∨ kd = 6 ∨ kd = 7 ∨ kd = 8 ∨ kd = 9 := by omega
      have HE : ∀ z, kd = z → (1 ≤ z ∧ z ≤ 9) → keyOkb ⟨kd, a, b, n⟩ = (decide (0 ≤ a ∧ a ≤ 7) && decide (0 ≤ b ∧ b ≤ topB z) && decide (0 ≤ n ∧ n ≤ 65535)) := by
        intro z hz hzz
        subst hz
        unfold keyOkb
        dsimp only
        rw [decide_eq_true hzz.1, decide_eq_true hzz.2, Bool.true_and, Bool.true_and]
      obtain ⟨E, HEE⟩ : ∃ E : Int, Hid (E = if keyOkb ⟨kd, a, b, n⟩ = true then 0 else 1) := ⟨_, Lib.hid rfl⟩
      rw [← HEE.out]
      rcases hk with rfl | rfl | rfl | rfl | rfl | rfl | rfl | rfl | rfl
      all_goals
        have HE2 := Lib.hid (HE _ rfl (by decide))
        clear HE hlo hhi h0 h1
        rw [HE2.out] at HEE
        clear HE2
        simp (config := { decide := true }) only [topB, if_true, if_false] at HEE
        go_enter Try.func150, Try.ntmps150
        go_upto_region 1 with (fail)
        generalize hw1 : w.alloc _ = w1 at *
        clear hw1
        have c0 := cell_of_blk (j := 0) hb rfl
        have c1 : w1.cell? ⟨w.heap.size, 1, none⟩ = some (.int .i64 a) := cell_of_blk hb rfl
        have c2 : w1.cell? ⟨w.heap.size, 2, none⟩ = some (.int .i64 b) := cell_of_blk hb rfl
        have c3 : w1.cell? ⟨w.heap.size, 3, none⟩ = some (.int .i64 n) := cell_of_blk hb rfl
        have hlt := cell_lt c1
        clear hb
        go_wp2_with fail
        refine (HWI.out _ _ _ _).mono ?_
        rintro e wA ⟨rfl, hwA⟩
        have hwA := hwA.symm
        subst hwA
        obtain ⟨q1, HQ1⟩ : ∃ q1, Hid (decide (0 ≤ a ∧ a ≤ 7) = q1) := ⟨_, Lib.hid rfl⟩
        rw [HQ1.out]
        rw [HQ1.out] at HEE
        cases q1 with
        | false =>
          go_wp2_with fail
          go_ret
          exact ⟨by rw [HEE.out]; rfl, HM.out⟩
        | true =>
          go_wp2_with fail
          refine (HWI.out _ _ _ _).mono ?_
          rintro e wA ⟨rfl, hwA⟩
          have hwA := hwA.symm
          subst hwA
          generalize hq2 : decide (0 ≤ b ∧ b ≤ _) = q2 at *
          clear hq2
          cases q2 with
          | false =>
            go_wp2_with fail
            go_ret
            exact ⟨by rw [HEE.out]; rfl, HM.out⟩
          | true =>
            go_wp2_with fail
            refine (HWI.out _ _ _ _).mono ?_
            rintro e wA ⟨rfl, hwA⟩
            have hwA := hwA.symm
            subst hwA
            generalize hq3 : decide (0 ≤ n ∧ n ≤ 65535) = q3 at *
            clear hq3
            cases q3 with
            | false =>
              go_wp2_with fail
              go_ret
              exact ⟨by rw [HEE.out]; rfl, HM.out⟩
            | true =>
              go_wp2_with fail
              go_ret
              exact ⟨by rw [HEE.out]; rfl, HM.out⟩
set_option maxRecDepth 100000 in
set_option maxHeartbeats 8000000 in
theorem check99_gen (p : GV) (w : World) (h0 : 0 ≤ p.2.k.kind) (h1 : p.2.k.kind ≤ 255) (hsh : ∃ a c, p.1 = .slice a p.2.l.length c) (hl : p.2.l.length ≤ maxLen) : Calls Try.prog 99 #[gA p] w fun e w' => e = .returned (.int .i64 (if cgOkb p.2 then 0 else 1)) ∧ Lay w w' := by
  obtain ⟨v, ⟨⟨kd, a, b, n⟩, t, d, l⟩⟩ := p
  obtain ⟨sa, sc, hv⟩ := hsh
  unfold gA
  dsimp only at *
  subst hv
  unfold maxLen at hl
  have HCK := Lib.hid (fun W => checkKey_gen ⟨kd, a, b, n⟩ W h0 h1)
  obtain ⟨E, HEE⟩ : ∃ E : Int, Hid (E = if cgOkb ⟨⟨kd, a, b, n⟩, t, d, l⟩ = true then 0 else 1) := ⟨_, Lib.hid rfl⟩
  rw [← HEE.out]
  have HWI := Lib.hid (fun (v lo hi : Int) (W : World) => within_gen v lo hi W)
  unfold cgOkb at HEE
  dsimp only at *
  have hb := alloc_last w (.cells #[.int .u8 kd, .int .i64 a, .int .i64 b, .int .i64 n, .int .i64 t, .int .i64 d, .slice sa l.length sc] 113)
  have HM := Lib.hid (Lay.alloc w (.cells #[.int .u8 kd, .int .i64 a, .int .i64 b, .int .i64 n, .int .i64 t, .int .i64 d, .slice sa l.length sc] 113))
  obtain ⟨q0, HQ0⟩ : ∃ q0, Hid (keyOkb ⟨kd, a, b, n⟩ = q0) := ⟨_, Lib.hid rfl⟩
  rw [HQ0.out] at HCK HEE
  generalize hln : l.length = ln at *
  clear hln
  go_enter Try.func99, Try.ntmps99
  go_upto_region 1 with (fail)
  generalize w.alloc (.cells #[.int .u8 kd, .int .i64 a, .int .i64 b, .int .i64 n, .int .i64 t, .int .i64 d, .slice sa ln sc] 113) = w1 at *
  have c0 : w1.cell? ⟨w.heap.size, 0, none⟩ = some (.int .u8 kd) := cell_of_blk hb rfl
  have c1 : w1.cell? ⟨w.heap.size, 1, none⟩ = some (.int .i64 a) := cell_of_blk hb rfl
  have c2 : w1.cell? ⟨w.heap.size, 2, none⟩ = some (.int .i64 b) := cell_of_blk hb rfl
  have c3 : w1.cell? ⟨w.heap.size, 3, none⟩ = some (.int .i64 n) := cell_of_blk hb rfl
  have hlt := cell_lt c0
  have HB := Lib.hid hb
  clear hb
  go_wp2_with fail
  refine (HCK.out _).mono ?_
  rintro e w2 ⟨rfl, hl2⟩
  have HB2 := Lib.hid ((hl2.1.block (blk_lt HB.out)).trans HB.out)
  have HM2 := Lib.hid (HM.out.trans hl2)
  clear c0 c1 c2 c3 hlt hl2 HB HM HCK
  cases q0 with
  | false =>
    go_wp2_with fail
    go_ret
    exact ⟨by rw [HEE.out]; rfl, HM2.out⟩
  | true =>
    have HKO := (keyOkb_iff _).1 HQ0.out
    have hk : kd = 1 ∨ kd = 2 ∨ kd = 3 ∨ kd = 4 ∨ kd = 5 ∨ kd = 6 ∨ kd = 7 ∨ kd = 8 ∨ kd = 9 := by
      have h2 := HKO.k0; have h3 := HKO.k1; dsimp only at h2 h3; omega
    clear HKO HQ0 h0 h1
    rcases hk with rfl | rfl | rfl | rfl | rfl | rfl | rfl | rfl | rfl
    all_goals
      simp (config := { decide := true }) only [topT, lowD, topD, topL, if_true, if_false, Bool.true_and] at HEE
      have c0 := cell_of_blk (j := 0) HB2.out rfl
      have c4 : w2.cell? ⟨w.heap.size, 4, none⟩ = some (.int .i64 t) := cell_of_blk HB2.out rfl
      have c5 : w2.cell? ⟨w.heap.size, 5, none⟩ = some (.int .i64 d) := cell_of_blk HB2.out rfl
      have c6 : w2.cell? ⟨w.heap.size, 6, none⟩ = some (.slice sa ln sc) := cell_of_blk HB2.out rfl
      have hlt := cell_lt c4
      simp only [List.getElem_toArray, List.getElem_cons_zero] at c0
      clear HB2
      go_wp2_with fail
      refine (timed_gen _ _ (by decide) (by decide)).mono ?_
      rintro e wA ⟨rfl, hwA⟩
      have hwA := hwA.symm
      subst hwA
      simp only [Int.reduceLE, decide_true, decide_false]
      go_wp2_with fail
      refine (HWI.out _ _ _ _).mono ?_
      rintro e wA ⟨rfl, hwA⟩
      have hwA := hwA.symm
      subst hwA
      generalize hq1 : decide (0 ≤ t ∧ t ≤ _) = q1 at *
      clear hq1
      cases q1 with
      | false =>
        go_wp2_with fail
        go_ret
        exact ⟨by rw [HEE.out]; rfl, HM2.out⟩
      | true =>
        go_wp2_with fail
        refine (HWI.out _ _ _ _).mono ?_
        rintro e wA ⟨rfl, hwA⟩
        have hwA := hwA.symm
        subst hwA
        generalize hq2 : decide (_ ≤ d ∧ d ≤ _) = q2 at *
        clear hq2
        cases q2 with
        | false =>
          go_wp2_with fail
          go_ret
          exact ⟨by rw [HEE.out]; rfl, HM2.out⟩
        | true =>
          simp only [Bool.true_and] at HEE
          generalize hq3 : decide ((ln : Int) ≤ _) = q3 at HEE
          cases q3 with
          | false =>
            have hq4 := Int.not_le.1 (of_decide_eq_false hq3)
            clear hq3
            go_wp2_with fail
            go_ret
            exact ⟨by rw [HEE.out]; rfl, HM2.out⟩
          | true =>
            have hq4 := of_decide_eq_true hq3
            clear hq3
            go_wp2_with fail
            go_ret
            exact ⟨by rw [HEE.out]; rfl, HM2.out⟩
end Go.Proofs.Ytemeppfikpafbaa
