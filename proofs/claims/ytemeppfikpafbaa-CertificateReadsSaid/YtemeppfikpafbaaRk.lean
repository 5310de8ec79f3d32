/- Texts ChkG, CloG, Cho1, laid together. -/
import Derived.Deep.CutBlock
import Derived.Test.YtemeppfikpafbaaRd
import Derived.Test.YtemeppfikpafbaaRi
/- Choices of all kinds: within (152), timed (151), CheckKey (150), Check (99). -/
namespace Go.Proofs.Ytemeppfikpafbaa
open Go.RowKit
def keyOkb (k : K4) : Bool := decide (1 ≤ k.kind) && decide (k.kind ≤ 9) && decide (0 ≤ k.a ∧ k.a ≤ 7) && decide (0 ≤ k.b ∧ k.b ≤ topB k.kind) && decide (0 ≤ k.n ∧ k.n ≤ 65535)
theorem keyOkb_iff (k : K4) : keyOkb k = true ↔ KeyOk k := by
  unfold keyOkb
  simp only [Bool.and_eq_true, decide_eq_true_eq]
  exact ⟨fun ⟨⟨⟨⟨h1, h2⟩, h3⟩, h4⟩, h5⟩ => ⟨h1, h2, h3.1, h3.2, h4.1, h4.2, h5.1, h5.2⟩, fun h => ⟨⟨⟨⟨h.k0, h.k1⟩, h.a0, h.a1⟩, h.b0, h.b1⟩, h.n0, h.n1⟩⟩
def topL (kd : Int) : Int := if kd = 1 then 4 else 0
def cgOkb (x : Cg) : Bool := keyOkb x.k && (decide (0 ≤ x.t ∧ x.t ≤ topT x.k.kind) && (decide (lowD x.k.kind ≤ x.d ∧ x.d ≤ topD x.k.kind) && decide ((x.l.length : Int) ≤ topL x.k.kind)))
theorem cgOkb_iff (x : Cg) : cgOkb x = true ↔ CgOk x := by
  unfold cgOkb
  simp only [Bool.and_eq_true, decide_eq_true_eq, keyOkb_iff]
  have hl : (x.l.length : Int) ≤ topL x.k.kind ↔ x.l.length ≤ (if x.k.kind = 1 then 4 else 0) := by
    unfold topL; split <;> omega
  rw [hl]
  exact ⟨fun ⟨h1, h2, h3, h4⟩ => ⟨h1, h2.1, h2.2, h3.1, h3.2, h4⟩, fun h => ⟨h.key, ⟨h.t0, h.t1⟩, ⟨h.d0, h.d1⟩, h.l⟩⟩
theorem within_gen (v lo hi : Int) (w : World) : Calls Try.prog 152 #[.int .i64 v, .int .i64 lo, .int .i64 hi] w fun e w' => e = .returned (.bool (decide (lo ≤ v ∧ v ≤ hi))) ∧ w' = w := by
  by_cases h0 : lo ≤ v
  · by_cases h1 : v ≤ hi
    · rw [decide_eq_true (And.intro h0 h1)]
      go_enter Try.func152, Try.ntmps152
      go_wp2_with fail
      go_ret
      exact ⟨rfl, rfl⟩
    · rw [decide_eq_false (fun h => h1 h.2)]
      have h2 : decide (v ≤ hi) = false := decide_eq_false h1
      clear h1
      go_enter Try.func152, Try.ntmps152
      go_wp2_with fail
      go_ret
      exact ⟨rfl, rfl⟩
  · rw [decide_eq_false (fun h => h0 h.1)]
    have h2 : decide (lo ≤ v) = false := decide_eq_false h0
    clear h0
    go_enter Try.func152, Try.ntmps152
    go_wp2_with fail
    go_ret
    exact ⟨rfl, rfl⟩
theorem timed_gen (k : Int) (w : World) (h0 : 1 ≤ k) (h9 : k ≤ 9) : Calls Try.prog 151 #[.int .u8 k] w fun e w' => e = .returned (.bool (decide (k ≤ 4))) ∧ w' = w := by
  have hk : k = 1 ∨ k = 2 ∨ k = 3 ∨ k = 4 ∨ k = 5 ∨ k = 6 ∨ k = 7 ∨ k = 8 ∨ k = 9 := by omega
  clear h0 h9
  rcases hk with rfl | rfl | rfl | rfl | rfl | rfl | rfl | rfl | rfl
  all_goals
    go_enter Try.func151, Try.ntmps151
    go_wp2_with fail
    go_ret
    exact ⟨rfl, rfl⟩
set_option maxRecDepth 100000 in
set_option maxHeartbeats 4000000 in
theorem checkKey_gen (k : K4) (w : World) (h0 : 0 ≤ k.kind) (h1 : k.kind ≤ 255) : Calls Try.prog 150 #[.agg #[.int .u8 k.kind, .int .i64 k.a, .int .i64 k.b, .int .i64 k.n]] w fun e w' => e = .returned (.int .i64 (if keyOkb k then 0 else 1)) ∧ Lay w w' := by
  obtain ⟨kd, a, b, n⟩ := k
  dsimp only at *
  have HWI := Lib.hid (fun (v lo hi : Int) (W : World) => within_gen v lo hi W)
  have hb := alloc_last w (.cells #[.int .u8 kd, .int .i64 a, .int .i64 b, .int .i64 n] 48)
  have HM := Lib.hid (Lay.alloc w (.cells #[.int .u8 kd, .int .i64 a, .int .i64 b, .int .i64 n] 48))
  by_cases hlo : kd < 1
  · have hz : kd = 0 := by omega
    subst hz
    have HE := Lib.hid (show keyOkb ⟨0, a, b, n⟩ = false by simp [keyOkb])
    rw [HE.out]
    go_enter Try.func150, Try.ntmps150
    go_upto_region 1 with (fail)
    generalize w.alloc (.cells #[.int .u8 0, .int .i64 a, .int .i64 b, .int .i64 n] 48) = w1 at *
    have c0 : w1.cell? ⟨w.heap.size, 0, none⟩ = some (.int .u8 0) := cell_of_blk hb rfl
    have hlt := cell_lt c0
    clear hb
    go_wp2_with fail
    go_ret
    exact ⟨rfl, HM.out⟩
  · by_cases hhi : 9 < kd
    · have HE := Lib.hid (show keyOkb ⟨kd, a, b, n⟩ = false by
        have h2 : decide (kd ≤ 9) = false := decide_eq_false (by omega)
        simp [keyOkb, h2])
      rw [HE.out]
      have hd1 : decide (kd < 1) = false := decide_eq_false hlo
      go_enter Try.func150, Try.ntmps150
      go_upto_region 1 with (fail)
      generalize w.alloc (.cells #[.int .u8 kd, .int .i64 a, .int .i64 b, .int .i64 n] 48) = w1 at *
      have c0 : w1.cell? ⟨w.heap.size, 0, none⟩ = some (.int .u8 kd) := cell_of_blk hb rfl
      have hlt := cell_lt c0
      clear hb
      go_wp2_with fail
      go_ret
      exact ⟨rfl, HM.out⟩
    · have hk : kd = 1 ∨ kd = 2 ∨ kd = 3 ∨ kd = 4 ∨ kd = 5 ∨ kd = 6 ∨ kd = 7 ∨ kd = 8 ∨ kd = 9 := by omega
      have HE : ∀ z, kd = z → (1 ≤ z ∧ z ≤ 9) → keyOkb ⟨kd, a, b, n⟩ = (decide (0 ≤ a ∧ a ≤ 7) && decide (0 ≤ b ∧ b ≤ topB z) && decide (0 ≤ n ∧ n ≤ 65535)) := by
        intro z hz hzz
        subst hz
        unfold keyOkb
        dsimp only
        rw [decide_eq_true hzz.1, decide_eq_true hzz.2, Bool.true_and, Bool.true_and]
      obtain ⟨E, HEE⟩ : ∃ E : Int, Hid (E = if keyOkb ⟨kd, a, b, n⟩ = true then 0 else 1) := ⟨_, Lib.hid rfl⟩
      rw [← HEE.out]
      rcases hk with rfl | rfl | rfl | rfl | rfl | rfl | rfl | rfl | rfl
      all_goals
        have HE2 := Lib.hid (HE _ rfl (by decide))
        clear HE hlo hhi h0 h1
        rw [HE2.out] at HEE
        clear HE2
        simp (config := { decide := true }) only [topB, if_true, if_false] at HEE
        go_enter Try.func150, Try.ntmps150
        go_upto_region 1 with (fail)
        generalize hw1 : w.alloc _ = w1 at *
        clear hw1
        have c0 := cell_of_blk (j := 0) hb rfl
        have c1 : w1.cell? ⟨w.heap.size, 1, none⟩ = some (.int .i64 a) := cell_of_blk hb rfl
        have c2 : w1.cell? ⟨w.heap.size, 2, none⟩ = some (.int .i64 b) := cell_of_blk hb rfl
        have c3 : w1.cell? ⟨w.heap.size, 3, none⟩ = some (.int .i64 n) := cell_of_blk hb rfl
        have hlt := cell_lt c1
        clear hb
        go_wp2_with fail
        refine (HWI.out _ _ _ _).mono ?_
        rintro e wA ⟨rfl, hwA⟩
        have hwA := hwA.symm
        subst hwA
        obtain ⟨q1, HQ1⟩ : ∃ q1, Hid (decide (0 ≤ a ∧ a ≤ 7) = q1) := ⟨_, Lib.hid rfl⟩
        rw [HQ1.out]
        rw [HQ1.out] at HEE
        cases q1 with
        | false =>
          go_wp2_with fail
          go_ret
          exact ⟨by rw [HEE.out]; rfl, HM.out⟩
        | true =>
          go_wp2_with fail
          refine (HWI.out _ _ _ _).mono ?_
          rintro e wA ⟨rfl, hwA⟩
          have hwA := hwA.symm
          subst hwA
          generalize hq2 : decide (0 ≤ b ∧ b ≤ _) = q2 at *
          clear hq2
          cases q2 with
          | false =>
            go_wp2_with fail
            go_ret
            exact ⟨by rw [HEE.out]; rfl, HM.out⟩
          | true =>
            go_wp2_with fail
            refine (HWI.out _ _ _ _).mono ?_
            rintro e wA ⟨rfl, hwA⟩
            have hwA := hwA.symm
            subst hwA
            generalize hq3 : decide (0 ≤ n ∧ n ≤ 65535) = q3 at *
            clear hq3
            cases q3 with
            | false =>
              go_wp2_with fail
              go_ret
              exact ⟨by rw [HEE.out]; rfl, HM.out⟩
            | true =>
              go_wp2_with fail
              go_ret
              exact ⟨by rw [HEE.out]; rfl, HM.out⟩
set_option maxRecDepth 100000 in
set_option maxHeartbeats 8000000 in
theorem check99_gen (p : GV) (w : World) (h0 : 0 ≤ p.2.k.kind) (h1 : p.2.k.kind ≤ 255) (hsh : ∃ a c, p.1 = .slice a p.2.l.length c) (hl : p.2.l.length ≤ maxLen) : Calls Try.prog 99 #[gA p] w fun e w' => e = .returned (.int .i64 (if cgOkb p.2 then 0 else 1)) ∧ Lay w w' := by
  obtain ⟨v, ⟨⟨kd, a, b, n⟩, t, d, l⟩⟩ := p
  obtain ⟨sa, sc, hv⟩ := hsh
  unfold gA
  dsimp only at *
  subst hv
  unfold maxLen at hl
  have HCK := Lib.hid (fun W => checkKey_gen ⟨kd, a, b, n⟩ W h0 h1)
  obtain ⟨E, HEE⟩ : ∃ E : Int, Hid (E = if cgOkb ⟨⟨kd, a, b, n⟩, t, d, l⟩ = true then 0 else 1) := ⟨_, Lib.hid rfl⟩
  rw [← HEE.out]
  have HWI := Lib.hid (fun (v lo hi : Int) (W : World) => within_gen v lo hi W)
  unfold cgOkb at HEE
  dsimp only at *
  have hb := alloc_last w (.cells #[.int .u8 kd, .int .i64 a, .int .i64 b, .int .i64 n, .int .i64 t, .int .i64 d, .slice sa l.length sc] 113)
  have HM := Lib.hid (Lay.alloc w (.cells #[.int .u8 kd, .int .i64 a, .int .i64 b, .int .i64 n, .int .i64 t, .int .i64 d, .slice sa l.length sc] 113))
  obtain ⟨q0, HQ0⟩ : ∃ q0, Hid (keyOkb ⟨kd, a, b, n⟩ = q0) := ⟨_, Lib.hid rfl⟩
  rw [HQ0.out] at HCK HEE
  generalize hln : l.length = ln at *
  clear hln
  go_enter Try.func99, Try.ntmps99
  go_upto_region 1 with (fail)
  generalize w.alloc (.cells #[.int .u8 kd, .int .i64 a, .int .i64 b, .int .i64 n, .int .i64 t, .int .i64 d, .slice sa ln sc] 113) = w1 at *
  have c0 : w1.cell? ⟨w.heap.size, 0, none⟩ = some (.int .u8 kd) := cell_of_blk hb rfl
  have c1 : w1.cell? ⟨w.heap.size, 1, none⟩ = some (.int .i64 a) := cell_of_blk hb rfl
  have c2 : w1.cell? ⟨w.heap.size, 2, none⟩ = some (.int .i64 b) := cell_of_blk hb rfl
  have c3 : w1.cell? ⟨w.heap.size, 3, none⟩ = some (.int .i64 n) := cell_of_blk hb rfl
  have hlt := cell_lt c0
  have HB := Lib.hid hb
  clear hb
  go_wp2_with fail
  refine (HCK.out _).mono ?_
  rintro e w2 ⟨rfl, hl2⟩
  have HB2 := Lib.hid ((hl2.1.block (blk_lt HB.out)).trans HB.out)
  have HM2 := Lib.hid (HM.out.trans hl2)
  clear c0 c1 c2 c3 hlt hl2 HB HM HCK
  cases q0 with
  | false =>
    go_wp2_with fail
    go_ret
    exact ⟨by rw [HEE.out]; rfl, HM2.out⟩
  | true =>
    have HKO := (keyOkb_iff _).1 HQ0.out
    have hk : kd = 1 ∨ kd = 2 ∨ kd = 3 ∨ kd = 4 ∨ kd = 5 ∨ kd = 6 ∨ kd = 7 ∨ kd = 8 ∨ kd = 9 := by
      have h2 := HKO.k0; have h3 := HKO.k1; dsimp only at h2 h3; omega
    clear HKO HQ0 h0 h1
    rcases hk with rfl | rfl | rfl | rfl | rfl | rfl | rfl | rfl | rfl
    all_goals
      simp (config := { decide := true }) only [topT, lowD, topD, topL, if_true, if_false, Bool.true_and] at HEE
      have c0 := cell_of_blk (j := 0) HB2.out rfl
      have c4 : w2.cell? ⟨w.heap.size, 4, none⟩ = some (.int .i64 t) := cell_of_blk HB2.out rfl
      have c5 : w2.cell? ⟨w.heap.size, 5, none⟩ = some (.int .i64 d) := cell_of_blk HB2.out rfl
      have c6 : w2.cell? ⟨w.heap.size, 6, none⟩ = some (.slice sa ln sc) := cell_of_blk HB2.out rfl
      have hlt := cell_lt c4
      simp only [List.getElem_toArray, List.getElem_cons_zero] at c0
      clear HB2
      go_wp2_with fail
      refine (timed_gen _ _ (by decide) (by decide)).mono ?_
      rintro e wA ⟨rfl, hwA⟩
      have hwA := hwA.symm
      subst hwA
      simp only [Int.reduceLE, decide_true, decide_false]
      go_wp2_with fail
      refine (HWI.out _ _ _ _).mono ?_
      rintro e wA ⟨rfl, hwA⟩
      have hwA := hwA.symm
      subst hwA
      generalize hq1 : decide (0 ≤ t ∧ t ≤ _) = q1 at *
      clear hq1
      cases q1 with
      | false =>
        go_wp2_with fail
        go_ret
        exact ⟨by rw [HEE.out]; rfl, HM2.out⟩
      | true =>
        go_wp2_with fail
        refine (HWI.out _ _ _ _).mono ?_
        rintro e wA ⟨rfl, hwA⟩
        have hwA := hwA.symm
        subst hwA
        generalize hq2 : decide (_ ≤ d ∧ d ≤ _) = q2 at *
        clear hq2
        cases q2 with
        | false =>
          go_wp2_with fail
          go_ret
          exact ⟨by rw [HEE.out]; rfl, HM2.out⟩
        | true =>
          simp only [Bool.true_and] at HEE
          generalize hq3 : decide ((ln : Int) ≤ _) = q3 at HEE
          cases q3 with
          | false =>
            have hq4 := Int.not_le.1 (of_decide_eq_false hq3)
            clear hq3
            go_wp2_with fail
            go_ret
            exact ⟨by rw [HEE.out]; rfl, HM2.out⟩
          | true =>
            have hq4 := of_decide_eq_true hq3
            clear hq3
            go_wp2_with fail
            go_ret
            exact ⟨by rw [HEE.out]; rfl, HM2.out⟩
end Go.Proofs.Ytemeppfikpafbaa

/- choice.clone (100) on any choice. -/
namespace Go.Proofs.Ytemeppfikpafbaa
open Go.RowKit
/-- A choice stored whole into a block of its own. -/
theorem set7 {w : World} {Q : Nat} {T : TypeId} {x0 x1 x2 x3 x4 x5 x6 y0 y1 y2 y3 y4 y5 y6 : Value} (h : w.heap[Q]? = some (.cells #[y0, y1, y2, y3, y4, y5, y6] T)) {W : World}
    (hW : W = ((((((w.setCell ⟨Q, 0, none⟩ x0).setCell ⟨Q, 1, none⟩ x1).setCell ⟨Q, 2, none⟩ x2).setCell ⟨Q, 3, none⟩ x3).setCell ⟨Q, 4, none⟩ x4).setCell ⟨Q, 5, none⟩ x5).setCell ⟨Q, 6, none⟩ x6) :
    W.heap[Q]? = some (.cells #[x0, x1, x2, x3, x4, x5, x6] T) ∧ (∀ z, z ≠ Q → W.heap[z]? = w.heap[z]?) ∧ ∀ M w0, Below M w0 w → M ≤ Q → Below M w0 W := by
  subst hW
  have h0 := setCell_heap (o := 0) (v := x0) h
  have h1 := setCell_heap (o := 1) (v := x1) h0
  have h2 := setCell_heap (o := 2) (v := x2) h1
  have h3 := setCell_heap (o := 3) (v := x3) h2
  have h4 := setCell_heap (o := 4) (v := x4) h3
  have h5 := setCell_heap (o := 5) (v := x5) h4
  have h6 := setCell_heap (o := 6) (v := x6) h5
  refine ⟨by simpa using h6, fun z hz => ?_, fun M w0 hb hM => ((((((hb.setCell (p := ⟨Q, 0, none⟩) hM _).setCell (p := ⟨Q, 1, none⟩) hM _).setCell (p := ⟨Q, 2, none⟩) hM _).setCell (p := ⟨Q, 3, none⟩) hM _).setCell (p := ⟨Q, 4, none⟩) hM _).setCell (p := ⟨Q, 5, none⟩) hM _).setCell (p := ⟨Q, 6, none⟩) hM _⟩
  have e := fun (W : World) (o : Nat) (v : Value) => Below.heap_setCell W ⟨Q, o, none⟩ v z hz
  rw [e, e, e, e, e, e, e]
set_option maxRecDepth 100000 in
set_option maxHeartbeats 4000000 in
theorem clone100_gen (p : GV) (w : World) (hg : GArg anyB w p) (hl : p.2.l.length ≤ maxLen) (hl2 : p.2.l.length ≤ 1000000) : Calls Try.prog 100 #[gA p] w fun e w' => (∃ a c, e = .returned (gA (.slice a p.2.l.length c, p.2)) ∧ GArg (fun b => w.heap.size ≤ b) w' (.slice a p.2.l.length c, p.2)) ∧ Below w.heap.size w w' := by
  obtain ⟨v, ⟨⟨kd, a, b, n⟩, t, d, l⟩⟩ := p
  have hrow := hg.row
  have hnil := hg.nil
  clear hg
  unfold gA
  dsimp only at *
  obtain ⟨sa, sc, rfl, _⟩ := hrow.shape
  obtain ⟨i1, hi1, hy0, hy1, hy2⟩ := info_parts infoN
  obtain ⟨ln, HLN⟩ : ∃ ln, Hid (l.length = ln) := ⟨_, Lib.hid rfl⟩
  rw [HLN.out] at hrow hnil hl2 ⊢
  have hm := (boxed2 w (.cells #[.int .u8 kd, .int .i64 a, .int .i64 b, .int .i64 n, .int .i64 t, .int .i64 d, .slice sa ln sc] 113) (.cells #[.int .u8 0, .int .i64 0, .int .i64 0, .int .i64 0, .int .i64 0, .int .i64 0, .slice none 0 0] 113))
  have HP := Lib.hid hm.1
  have HQ := Lib.hid hm.2.1
  have HM := Lib.hid hm.2.2.1
  have HR := Lib.hid (hrow.below HM.out.below)
  have HN := Lib.hid hnil
  have HL2 := Lib.hid hl2
  clear hm hrow hnil hl hl2
  go_enter Try.func100, Try.ntmps100
  go_upto_region 1 with (fail)
  generalize (w.alloc (.cells #[.int .u8 kd, .int .i64 a, .int .i64 b, .int .i64 n, .int .i64 t, .int .i64 d, .slice sa ln sc] 113)).alloc (.cells #[.int .u8 0, .int .i64 0, .int .i64 0, .int .i64 0, .int .i64 0, .int .i64 0, .slice none 0 0] 113) = w1 at *
  obtain ⟨PB, HPB⟩ : ∃ PB, Hid (PB = w.heap.size) := ⟨_, Lib.hid rfl⟩
  rw [← HPB.out] at HP HQ ⊢
  obtain ⟨QB, HQB⟩ : ∃ QB, Hid (QB = PB + 1) := ⟨_, Lib.hid rfl⟩
  rw [← HQB.out] at HQ ⊢
  have c6 : w1.cell? ⟨PB, 6, none⟩ = some (.slice sa ln sc) := cell_of_blk HP.out rfl
  have hlt := cell_lt c6
  have hn : ln ≤ 1000000 := HL2.out
  go_upto_region 2 with (at_builtin; refine wpList_append_rowC rfl _ _ 111 rfl w1.heap.size 2 i1 _ 1 8 Try.underlying111 hi1 hy0 hy1 hy2 rfl (by omega) (.slice none 0 0) 0 [] rfl (World.ownsRow_nil _ _ _ _) (.slice sa ln sc) ln (flatC nC l) rfl HR.out HN.out (nC_one _) (by unfold maxLen; omega) (by omega) (Nat.le_refl _) ?_; intro v2 w2 hown hgrow; rw [Nat.zero_add] at hown; obtain ⟨ga, gc, rfl, _⟩ := owns_shape hown; have HM2 := Lib.hid (show More w1 w2 from hgrow); have HP2 := Lib.hid ((HM2.out.block (blk_lt HP.out)).trans HP.out); have z6 : w2.cell? ⟨PB, 6, none⟩ = some (.slice sa ln sc) := cell_of_blk HP2.out rfl; have f6 := thaw HP2.out 6; have hbz := cell_lt z6)
  have HOW := Lib.hid hown
  have HQ2 := Lib.hid ((HM2.out.block (blk_lt HQ.out)).trans HQ.out)
  have HP3 := Lib.hid (show (w2.setCell ⟨PB, 6, none⟩ (.slice ga ln gc)).heap[PB]? = some (.cells #[.int .u8 kd, .int .i64 a, .int .i64 b, .int .i64 n, .int .i64 t, .int .i64 d, .slice ga ln gc] 113) from setCell_heap HP2.out)
  have HQ3 := Lib.hid (show (w2.setCell ⟨PB, 6, none⟩ (.slice ga ln gc)).heap[QB]? = _ from (Below.heap_setCell _ _ _ _ (show QB ≠ PB by have := HQB.out; omega)).trans HQ2.out)
  have HO3 := Lib.hid (owns_keep (w' := w2.setCell ⟨PB, 6, none⟩ (.slice ga ln gc)) HOW.out (fun z hz => Below.heap_setCell _ _ _ _ (show z ≠ PB from by have := (HOW.out.lt z hz).1; have := blk_lt HP.out; omega)))
  have HB3 := Lib.hid (show Below PB w (w2.setCell ⟨PB, 6, none⟩ (.slice ga ln gc)) from by
    have h1 := (more_trans HM.out HM2.out).below
    rw [← HPB.out] at h1
    exact h1.setCell (p := ⟨PB, 6, none⟩) (Nat.le_refl _) _)
  have HS1 := Lib.hid (show QB < w1.heap.size from blk_lt HQ.out)
  clear hown hgrow z6 f6 hbz c6 hlt
  generalize w2.setCell ⟨PB, 6, none⟩ (.slice ga ln gc) = w3 at *
  have k0 : w3.cell? ⟨PB, 0, none⟩ = some (.int .u8 kd) := cell_of_blk HP3.out rfl
  have k1 : w3.cell? ⟨PB, 1, none⟩ = some (.int .i64 a) := cell_of_blk HP3.out rfl
  have k2 : w3.cell? ⟨PB, 2, none⟩ = some (.int .i64 b) := cell_of_blk HP3.out rfl
  have k3 : w3.cell? ⟨PB, 3, none⟩ = some (.int .i64 n) := cell_of_blk HP3.out rfl
  have k4 : w3.cell? ⟨PB, 4, none⟩ = some (.int .i64 t) := cell_of_blk HP3.out rfl
  have k5 : w3.cell? ⟨PB, 5, none⟩ = some (.int .i64 d) := cell_of_blk HP3.out rfl
  have k6 : w3.cell? ⟨PB, 6, none⟩ = some (.slice ga ln gc) := cell_of_blk HP3.out rfl
  have z0 : w3.cell? ⟨QB, 0, none⟩ = some (.int .u8 0) := cell_of_blk HQ3.out rfl
  have z1 : w3.cell? ⟨QB, 1, none⟩ = some (.int .i64 0) := cell_of_blk HQ3.out rfl
  have z2 : w3.cell? ⟨QB, 2, none⟩ = some (.int .i64 0) := cell_of_blk HQ3.out rfl
  have z3 : w3.cell? ⟨QB, 3, none⟩ = some (.int .i64 0) := cell_of_blk HQ3.out rfl
  have z4 : w3.cell? ⟨QB, 4, none⟩ = some (.int .i64 0) := cell_of_blk HQ3.out rfl
  have z5 : w3.cell? ⟨QB, 5, none⟩ = some (.int .i64 0) := cell_of_blk HQ3.out rfl
  have z6 : w3.cell? ⟨QB, 6, none⟩ = some (.slice none 0 0) := cell_of_blk HQ3.out rfl
  have f0 := thaw HQ3.out 0
  have f1 := thaw HQ3.out 1
  have f2 := thaw HQ3.out 2
  have f3 := thaw HQ3.out 3
  have f4 := thaw HQ3.out 4
  have f5 := thaw HQ3.out 5
  have f6 := thaw HQ3.out 6
  have hbk := cell_lt k0
  have hbz := cell_lt z0
  go_wp2_with fail
  generalize hw4 : (((((w3.setCell ⟨QB, 0, none⟩ (.int .u8 kd)).setCell ⟨QB, 1, none⟩ (.int .i64 a)).setCell ⟨QB, 2, none⟩ (.int .i64 b)).setCell ⟨QB, 3, none⟩ (.int .i64 n)).setCell ⟨QB, 4, none⟩ (.int .i64 t)).setCell ⟨QB, 5, none⟩ (.int .i64 d) = w3b
  generalize hw5 : w3b.setCell ⟨QB, 6, none⟩ (.slice ga ln gc) = w4
  obtain ⟨HQ4, HZ4, HB4⟩ := set7 HQ3.out (W := w4) (by rw [← hw5, ← hw4])
  clear hw4 hw5 k0 k1 k2 k3 k4 k5 k6 z0 z1 z2 z3 z4 z5 z6 f0 f1 f2 f3 f4 f5 f6 hbk hbz
  have c0 : w4.cell? ⟨QB, 0, none⟩ = some (.int .u8 kd) := cell_of_blk HQ4 rfl
  have c1 : w4.cell? ⟨QB, 1, none⟩ = some (.int .i64 a) := cell_of_blk HQ4 rfl
  have c2 : w4.cell? ⟨QB, 2, none⟩ = some (.int .i64 b) := cell_of_blk HQ4 rfl
  have c3 : w4.cell? ⟨QB, 3, none⟩ = some (.int .i64 n) := cell_of_blk HQ4 rfl
  have c4 : w4.cell? ⟨QB, 4, none⟩ = some (.int .i64 t) := cell_of_blk HQ4 rfl
  have c5 : w4.cell? ⟨QB, 5, none⟩ = some (.int .i64 d) := cell_of_blk HQ4 rfl
  have c6 : w4.cell? ⟨QB, 6, none⟩ = some (.slice ga ln gc) := cell_of_blk HQ4 rfl
  have HO4 := owns_keep (w' := w4) HO3.out (fun z hz => HZ4 z (by have h1 := (HOW.out.lt z hz).1; have h2 := HS1.out; omega))
  refine bodyPost_ret (v := .agg #[.int .u8 kd, .int .i64 a, .int .i64 b, .int .i64 n, .int .i64 t, .int .i64 d, .slice ga ln gc]) (by simp [results, Try.results100, go_sem, c0, c1, c2, c3, c4, c5, c6]) rfl ⟨⟨ga, gc, rfl, ?_, ?_⟩, ?_⟩
  · show Row _ w4 1 l.length _ _
    rw [HLN.out]
    exact (Row.of_owns HO4).mono (fun z hz => by have h1 : w1.heap.size ≤ z := hz; have h2 := HS1.out; have h3 := HQB.out; have h4 := HPB.out; omega) (fun _ _ _ _ h => h)
  · exact owns_nil HO4
  · rw [← HPB.out]
    exact HB4 _ _ HB3.out (by have := HQB.out; omega)
end Go.Proofs.Ytemeppfikpafbaa

/- Choices without number and arguments: within (152), timed (151), CheckKey (150), Check (99), key (54), clone (100), New$1 (127), slices.Equal (166), same (163), equal (132). -/
namespace Go.Proofs.Ytemeppfikpafbaa
open Go.RowKit
def chA (x : Ch) : Value := .agg #[.int .u8 x.k.kind, .int .i64 x.k.a, .int .i64 x.k.b, .int .i64 x.k.n, .int .i64 x.t, .int .i64 0, .slice none 0 0]
structure ChOk (x : Ch) : Prop where
  kind : x.k.kind = 4
  a0 : 0 ≤ x.k.a
  a1 : x.k.a ≤ 7
  b : x.k.b = 0
  n0 : 0 ≤ x.k.n
  n1 : x.k.n ≤ 65535
  t0 : 0 ≤ x.t
  t1 : x.t ≤ 200
theorem chI_ok {i : Nat} (h : i < 16) : ChOk (chI i) := by
  have h1 : i % 4 < 4 := Nat.mod_lt _ (by omega)
  have h2 : i / 4 < 4 := by omega
  constructor <;> simp only [chI, keyI] <;> omega
theorem setCh_ok (b : Nat) : ∀ x ∈ setCh b, ChOk x := by
  intro x hx
  obtain ⟨i, hi, _, rfl⟩ := mem_setCh.1 hx
  exact chI_ok hi
theorem within_any (v lo hi : Int) (w : World) (h0 : lo ≤ v) (h1 : v ≤ hi) : Calls Try.prog 152 #[.int .i64 v, .int .i64 lo, .int .i64 hi] w fun e w' => e = .returned (.bool true) ∧ w' = w := by
  go_enter Try.func152, Try.ntmps152
  go_wp2_with fail
  go_ret
  exact ⟨rfl, rfl⟩
theorem timed_any (w : World) : Calls Try.prog 151 #[.int .u8 4] w fun e w' => e = .returned (.bool true) ∧ w' = w := by
  go_enter Try.func151, Try.ntmps151
  go_wp2_with fail
  go_ret
  exact ⟨rfl, rfl⟩
set_option maxRecDepth 100000 in
theorem checkKey_any (a n : Int) (w : World) (a0 : 0 ≤ a) (a1 : a ≤ 7) (n0 : 0 ≤ n) (n1 : n ≤ 65535) : Calls Try.prog 150 #[.agg #[.int .u8 4, .int .i64 a, .int .i64 0, .int .i64 n]] w fun e w' => e = .returned (.int .i64 0) ∧ Lay w w' := by
  have HW := Lib.hid (fun w => within_any a 0 7 w a0 a1)
  have HB := Lib.hid (fun w => within_any 0 0 0 w (by omega) (by omega))
  have HN := Lib.hid (fun w => within_any n 0 65535 w n0 n1)
  clear a0 a1 n0 n1
  go_enter Try.func150, Try.ntmps150
  go_wp2_with fail
  have hb := alloc_last w (.cells #[.int .u8 4, .int .i64 a, .int .i64 0, .int .i64 n] 48)
  have HM := Lib.hid (Lay.alloc w (.cells #[.int .u8 4, .int .i64 a, .int .i64 0, .int .i64 n] 48))
  generalize w.alloc (.cells #[.int .u8 4, .int .i64 a, .int .i64 0, .int .i64 n] 48) = w1 at *
  have c0 : w1.cell? ⟨w.heap.size, 0, none⟩ = some (.int .u8 4) := cell_of_blk hb rfl
  have c1 : w1.cell? ⟨w.heap.size, 1, none⟩ = some (.int .i64 a) := cell_of_blk hb rfl
  have c2 : w1.cell? ⟨w.heap.size, 2, none⟩ = some (.int .i64 0) := cell_of_blk hb rfl
  have c3 : w1.cell? ⟨w.heap.size, 3, none⟩ = some (.int .i64 n) := cell_of_blk hb rfl
  have hlt := cell_lt c0
  clear hb
  go_wp2_with fail
  refine (HW.out _).mono ?_
  rintro e w' ⟨rfl, hw'⟩
  subst hw'
  go_wp2_with fail
  refine (HB.out _).mono ?_
  rintro e w' ⟨rfl, hw'⟩
  subst hw'
  go_wp2_with fail
  refine (HN.out _).mono ?_
  rintro e w' ⟨rfl, hw'⟩
  subst hw'
  go_wp2_with fail
  go_ret
  exact ⟨rfl, HM.out⟩
set_option maxRecDepth 100000 in
theorem checkCh_any (x : Ch) (w : World) (h : ChOk x) : Calls Try.prog 99 #[chA x] w fun e w' => e = .returned (.int .i64 0) ∧ Lay w w' := by
  obtain ⟨⟨kd, a, b, n⟩, t⟩ := x
  obtain ⟨h1, h2, h3, h4, h5, h6, h7, h8⟩ := h
  simp only at h1 h2 h3 h4 h5 h6 h7 h8
  subst h1 h4
  have HK := Lib.hid (fun w => checkKey_any a n w h2 h3 h5 h6)
  have HT := Lib.hid (fun w => within_any t 0 200 w h7 h8)
  have HD := Lib.hid (fun w => within_any 0 0 0 w (by omega) (by omega))
  have HTM := Lib.hid (fun w => timed_any w)
  clear h2 h3 h5 h6 h7 h8
  unfold chA
  dsimp only
  go_enter Try.func99, Try.ntmps99
  go_wp2_with fail
  have hb := alloc_last w (.cells #[.int .u8 4, .int .i64 a, .int .i64 0, .int .i64 n, .int .i64 t, .int .i64 0, .slice none 0 0] 113)
  have HM := Lib.hid (Lay.alloc w (.cells #[.int .u8 4, .int .i64 a, .int .i64 0, .int .i64 n, .int .i64 t, .int .i64 0, .slice none 0 0] 113))
  generalize w.alloc (.cells #[.int .u8 4, .int .i64 a, .int .i64 0, .int .i64 n, .int .i64 t, .int .i64 0, .slice none 0 0] 113) = w1 at *
  generalize w.heap.size = B at *
  have HB := Lib.hid hb
  have c0 : w1.cell? ⟨B, 0, none⟩ = some (.int .u8 4) := cell_of_blk hb rfl
  have c1 : w1.cell? ⟨B, 1, none⟩ = some (.int .i64 a) := cell_of_blk hb rfl
  have c2 : w1.cell? ⟨B, 2, none⟩ = some (.int .i64 0) := cell_of_blk hb rfl
  have c3 : w1.cell? ⟨B, 3, none⟩ = some (.int .i64 n) := cell_of_blk hb rfl
  have hlt := cell_lt c0
  clear hb
  go_wp2_with fail
  refine (HK.out _).mono ?_
  rintro e w2 ⟨rfl, hl2⟩
  have HM2 := Lib.hid (HM.out.trans hl2)
  have hb := (hl2.1.block hlt).trans HB.out
  clear c0 c1 c2 c3 hlt hl2
  have c0 : w2.cell? ⟨B, 0, none⟩ = some (.int .u8 4) := cell_of_blk hb rfl
  have c4 : w2.cell? ⟨B, 4, none⟩ = some (.int .i64 t) := cell_of_blk hb rfl
  have c5 : w2.cell? ⟨B, 5, none⟩ = some (.int .i64 0) := cell_of_blk hb rfl
  have c6 : w2.cell? ⟨B, 6, none⟩ = some (.slice none 0 0) := cell_of_blk hb rfl
  have hlt := cell_lt c0
  clear hb
  go_wp2_with fail
  refine (HTM.out _).mono ?_
  rintro e w' ⟨rfl, hw'⟩
  subst hw'
  go_wp2_with fail
  refine (HT.out _).mono ?_
  rintro e w' ⟨rfl, hw'⟩
  subst hw'
  go_wp2_with fail
  refine (HD.out _).mono ?_
  rintro e w' ⟨rfl, hw'⟩
  subst hw'
  go_wp2_with fail
  go_ret
  exact ⟨rfl, HM2.out⟩
theorem Lay.setAt {w w1 : World} (h : Lay w w1) {B o : Nat} (hB : w.heap.size ≤ B) (v : Value) : Lay w (w1.setCell ⟨B, o, none⟩ v) := h.setOwn hB v
set_option maxRecDepth 10000 in
theorem key54_any (i : Nat) (w : World) (hi : i < 16) : Calls Try.prog 54 #[.int .i64 i] w fun e w' => e = .returned (kA (keyI i)) ∧ Lay w w' := by
  obtain ⟨p, hp⟩ : ∃ p : Nat, i % 4 = p := ⟨_, rfl⟩
  obtain ⟨q, hq⟩ : ∃ q : Nat, i / 4 = q := ⟨_, rfl⟩
  have h1 : (i : Int) % 4 = p := by omega
  have h2 : (i : Int) / 4 = q := by omega
  have h3 : Int.tmod (i : Int) 4 = p := by rw [Int.tmod_eq_emod_of_nonneg (by omega)]; omega
  have h4 : Int.tdiv (i : Int) 4 = q := by rw [Int.tdiv_eq_ediv_of_nonneg (by omega)]; omega
  have HE := Lib.hid (show kA (keyI i) = .agg #[.int .u8 4, .int .i64 p, .int .i64 0, .int .i64 q] by unfold kA keyI; simp only [hp, hq])
  have hw : IntKind.i64.wrap (q : Int) = q := by rw [IntKind.wrap_i64]; omega
  rw [HE.out]
  clear hp hq
  go_enter Try.func54, Try.ntmps54
  go_wp2_with fail
  have h := alloc_last w (.cells #[.int .u8 4, .int .i64 p, .int .i64 0, .int .i64 q] 48)
  have c0 : (w.alloc (.cells #[.int .u8 4, .int .i64 p, .int .i64 0, .int .i64 q] 48)).cell? ⟨w.heap.size, 0, none⟩ = some (.int .u8 4) := cell_of_blk h rfl
  have c1 : (w.alloc (.cells #[.int .u8 4, .int .i64 p, .int .i64 0, .int .i64 q] 48)).cell? ⟨w.heap.size, 1, none⟩ = some (.int .i64 p) := cell_of_blk h rfl
  have c2 : (w.alloc (.cells #[.int .u8 4, .int .i64 p, .int .i64 0, .int .i64 q] 48)).cell? ⟨w.heap.size, 2, none⟩ = some (.int .i64 0) := cell_of_blk h rfl
  have c3 : (w.alloc (.cells #[.int .u8 4, .int .i64 p, .int .i64 0, .int .i64 q] 48)).cell? ⟨w.heap.size, 3, none⟩ = some (.int .i64 q) := cell_of_blk h rfl
  exact bodyPost_ret (v := .agg #[.int .u8 4, .int .i64 p, .int .i64 0, .int .i64 q]) (by simp [results, Try.results54, go_sem, c0, c1, c2, c3]) rfl ⟨rfl, Lay.alloc _ _⟩
set_option maxRecDepth 10000 in
theorem cloneCh_any (x : Ch) (w : World) : Calls Try.prog 100 #[chA x] w fun e w' => e = .returned (chA x) ∧ Lay w w' := by
  unfold chA
  go_enter Try.func100, Try.ntmps100
  go_wp2_with fail
  obtain ⟨_, h, hm⟩ := boxed2 w (.cells #[.int .u8 x.k.kind, .int .i64 x.k.a, .int .i64 x.k.b, .int .i64 x.k.n, .int .i64 x.t, .int .i64 0, .slice none 0 0] 113) (.cells #[.int .u8 x.k.kind, .int .i64 x.k.a, .int .i64 x.k.b, .int .i64 x.k.n, .int .i64 x.t, .int .i64 0, .slice none 0 0] 113)
  generalize (w.alloc (.cells #[.int .u8 x.k.kind, .int .i64 x.k.a, .int .i64 x.k.b, .int .i64 x.k.n, .int .i64 x.t, .int .i64 0, .slice none 0 0] 113)).alloc (.cells #[.int .u8 x.k.kind, .int .i64 x.k.a, .int .i64 x.k.b, .int .i64 x.k.n, .int .i64 x.t, .int .i64 0, .slice none 0 0] 113) = w2 at *
  have c0 : w2.cell? ⟨w.heap.size + 1, 0, none⟩ = some (.int .u8 x.k.kind) := cell_of_blk h rfl
  have c1 : w2.cell? ⟨w.heap.size + 1, 1, none⟩ = some (.int .i64 x.k.a) := cell_of_blk h rfl
  have c2 : w2.cell? ⟨w.heap.size + 1, 2, none⟩ = some (.int .i64 x.k.b) := cell_of_blk h rfl
  have c3 : w2.cell? ⟨w.heap.size + 1, 3, none⟩ = some (.int .i64 x.k.n) := cell_of_blk h rfl
  have c4 : w2.cell? ⟨w.heap.size + 1, 4, none⟩ = some (.int .i64 x.t) := cell_of_blk h rfl
  have c5 : w2.cell? ⟨w.heap.size + 1, 5, none⟩ = some (.int .i64 0) := cell_of_blk h rfl
  have c6 : w2.cell? ⟨w.heap.size + 1, 6, none⟩ = some (.slice none 0 0) := cell_of_blk h rfl
  exact bodyPost_ret (v := .agg #[.int .u8 x.k.kind, .int .i64 x.k.a, .int .i64 x.k.b, .int .i64 x.k.n, .int .i64 x.t, .int .i64 0, .slice none 0 0]) (by simp [results, Try.results100, go_sem, c0, c1, c2, c3, c4, c5, c6]) rfl ⟨rfl, hm⟩
set_option maxRecDepth 10000 in
theorem newCmp_any (f : K4 → Int) : CmpSaid 127 (fun k => chC ⟨k, f k⟩) cmpK4 := by
  intro a b w
  have HC := Lib.hid (fun w => compareK_any a b w)
  unfold chC kA at *
  dsimp only
  generalize cmpK4 a b = c at *
  generalize f a = fa
  generalize f b = fb
  go_enter Try.func127, Try.ntmps127
  go_wp2_with fail
  refine (HC.out _).mono ?_
  rintro e w2 ⟨rfl, hl2⟩
  have HM := Lib.hid (((Lay.alloc _ _).trans (Lay.alloc _ _)).trans hl2)
  clear hl2
  go_wp2_with fail
  go_ret
  exact ⟨rfl, HM.out⟩
theorem equal166_any (w : World) : Calls Try.prog 166 #[.slice none 0 0, .slice none 0 0] w fun e w' => e = .returned (.bool true) ∧ w' = w := by
  go_enter Try.func166, Try.ntmps166
  go_wp2_with fail
  go_loopw [13] (fun i wr => i = .int .i64 0 ∧ wr = w) (fun _ _ => 0)
  case atStart => exact ⟨rfl, rfl⟩
  case round =>
    obtain ⟨rfl, rfl⟩ := hrel
    go_wp2_with fail
    go_ret
    exact ⟨rfl, rfl⟩
theorem eqCh (x y : Ch) : decide (x = y) = (decide (x.k = y.k) && decide (x.t = y.t)) := by
  rw [Bool.eq_iff_iff]
  obtain ⟨a, b⟩ := x
  obtain ⟨a', b'⟩ := y
  simp
set_option maxRecDepth 10000 in
theorem sameCh_any (x y : Ch) (w : World) : Calls Try.prog 163 #[chA x, chA y] w fun e w' => e = .returned (.bool (decide (x = y))) ∧ Lay w w' := by
  have heq := fun W => run_eqK x.k y.k W
  rw [eqCh]
  have HE := Lib.hid (fun W => equal166_any W)
  unfold chA
  by_cases hk : x.k = y.k
  · rw [decide_eq_true hk] at heq ⊢
    clear hk
    by_cases ht : x.t = y.t
    · have t1 : (x.t == y.t) = true := by simp [ht]
      have HD := Lib.hid (decide_eq_true ht)
      clear ht
      go_enter Try.func163, Try.ntmps163
      go_wp2_with fail
      refine (HE.out _).mono ?_
      rintro e w2 ⟨rfl, hw2⟩
      subst hw2
      go_wp2_with fail
      go_ret
      exact ⟨by rw [HD.out]; rfl, (Lay.alloc _ _).trans (Lay.alloc _ _)⟩
    · have t1 : (x.t == y.t) = false := by simp [ht]
      have HD := Lib.hid (decide_eq_false ht)
      clear ht
      go_enter Try.func163, Try.ntmps163
      go_wp2_with fail
      go_ret
      exact ⟨by rw [HD.out]; rfl, (Lay.alloc _ _).trans (Lay.alloc _ _)⟩
  · rw [decide_eq_false hk] at heq ⊢
    clear hk
    go_enter Try.func163, Try.ntmps163
    go_wp2_with fail
    go_ret
    exact ⟨rfl, (Lay.alloc _ _).trans (Lay.alloc _ _)⟩
set_option maxRecDepth 10000 in
theorem equalCh_any (x y : Ch) (w : World) : Calls Try.prog 132 #[chA x, chA y] w fun e w' => e = .returned (.bool (decide (x = y))) ∧ Lay w w' := by
  have heq := fun W => run_eqK x.k y.k W
  rw [eqCh]
  have HE := Lib.hid (fun W => equal166_any W)
  unfold chA
  by_cases hk : x.k = y.k
  · rw [decide_eq_true hk] at heq ⊢
    clear hk
    by_cases ht : x.t = y.t
    · have t1 : (x.t == y.t) = true := by simp [ht]
      have HD := Lib.hid (decide_eq_true ht)
      clear ht
      go_enter Try.func132, Try.ntmps132
      go_wp2_with fail
      refine (HE.out _).mono ?_
      rintro e w2 ⟨rfl, hw2⟩
      subst hw2
      go_wp2_with fail
      go_ret
      exact ⟨by rw [HD.out]; rfl, (Lay.alloc _ _).trans (Lay.alloc _ _)⟩
    · have t1 : (x.t == y.t) = false := by simp [ht]
      have HD := Lib.hid (decide_eq_false ht)
      clear ht
      go_enter Try.func132, Try.ntmps132
      go_wp2_with fail
      go_ret
      exact ⟨by rw [HD.out]; rfl, (Lay.alloc _ _).trans (Lay.alloc _ _)⟩
  · rw [decide_eq_false hk] at heq ⊢
    clear hk
    go_enter Try.func132, Try.ntmps132
    go_wp2_with fail
    go_ret
    exact ⟨rfl, (Lay.alloc _ _).trans (Lay.alloc _ _)⟩
end Go.Proofs.Ytemeppfikpafbaa

