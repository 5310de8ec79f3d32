/- The example of the verdict laws (46). -/
import Derived.Test.YtemeppfikpafbaaVCom
import Derived.Test.YtemeppfikpafbaaVExP
import Derived.Test.YtemeppfikpafbaaVTextW
import Derived.Deep.RegionHeld3
namespace Go.Proofs.Ytemeppfikpafbaa
open Go.RowKit Go.Sort
theorem comb_ex (a b c : Fnd) (ha : fPair a = (xC, 0)) (hb : fPair b = (yC, 0)) (hc : fPair c = (xC, 1)) :
    combT [a, b, c] 2 true = [⟨xC, a.ua, a.un, a.uc, a.ha, a.hn, a.hc, 1, 2, 2⟩, ⟨yC, b.ua, b.un, b.uc, b.ha, b.hn, b.hc, 2, 1, 2⟩] := by
  obtain ⟨ac, aua, aun, auc, aha, ahn, ahc, an⟩ := a
  obtain ⟨bc, bua, bun, buc, bha, bhn, bhc, bn⟩ := b
  obtain ⟨cc, cua, cun, cuc, cha, chn, chc, cn⟩ := c
  unfold fPair at ha hb hc
  simp only [Prod.mk.injEq] at ha hb hc
  obtain ⟨rfl, rfl⟩ := ha
  obtain ⟨rfl, rfl⟩ := hb
  obtain ⟨rfl, rfl⟩ := hc
  unfold combT
  rw [show [(⟨xC, aua, aun, auc, aha, ahn, ahc, 0⟩ : Fnd), ⟨yC, bua, bun, buc, bha, bhn, bhc, 0⟩, ⟨xC, cua, cun, cuc, cha, chn, chc, 1⟩].length = 3 from rfl]
  have hf := found_ex (a := ⟨xC, aua, aun, auc, aha, ahn, ahc, 0⟩) (b := ⟨yC, bua, bun, buc, bha, bhn, bhc, 0⟩) (c := ⟨xC, cua, cun, cuc, cha, chn, chc, 1⟩) rfl rfl rfl
  have h1 := eq_xx
  have h2 := eq_xy
  rw [show ([(⟨xC, aua, aun, auc, aha, ahn, ahc, 0⟩ : Fnd), ⟨yC, bua, bun, buc, bha, bhn, bhc, 0⟩, ⟨xC, cua, cun, cuc, cha, chn, chc, 1⟩] : List Fnd).toArray = #[⟨xC, aua, aun, auc, aha, ahn, ahc, 0⟩, ⟨yC, bua, bun, buc, bha, bhn, bhc, 0⟩, ⟨xC, cua, cun, cuc, cha, chn, chc, 1⟩] from rfl, hf]
  simp only [toldN, told1, told2, sameB, difB, bumpL, mkT, List.getElem!_cons_zero, List.getElem!_cons_succ, Bool.false_eq_true, if_false, List.nil_append, Bool.not_false, Bool.true_or, if_true, h1, h2, Bool.not_true, Bool.false_or, List.cons_append, decide_eq_true_eq]
  simp [bumpL, setSt]
theorem alloc7 (w : World) (o0 o1 o2 o3 o4 o5 o6 : Obj) : ∀ W, W = (((((((w.alloc o0).alloc o1).alloc o2).alloc o3).alloc o4).alloc o5).alloc o6) →
    W.heap[w.heap.size]? = some o0 ∧ W.heap[w.heap.size + 1]? = some o1 ∧ W.heap[w.heap.size + 1 + 1]? = some o2 ∧ W.heap[w.heap.size + 1 + 1 + 1]? = some o3 ∧ W.heap[w.heap.size + 1 + 1 + 1 + 1]? = some o4 ∧ W.heap[w.heap.size + 1 + 1 + 1 + 1 + 1]? = some o5 ∧ W.heap[w.heap.size + 1 + 1 + 1 + 1 + 1 + 1]? = some o6 ∧ More w W := by
  rintro W rfl
  have m0 := more_alloc w o0
  have m1 := more_alloc (w.alloc o0) o1
  have m2 := more_alloc ((w.alloc o0).alloc o1) o2
  have m3 := more_alloc (((w.alloc o0).alloc o1).alloc o2) o3
  have m4 := more_alloc ((((w.alloc o0).alloc o1).alloc o2).alloc o3) o4
  have m5 := more_alloc (((((w.alloc o0).alloc o1).alloc o2).alloc o3).alloc o4) o5
  have m6 := more_alloc ((((((w.alloc o0).alloc o1).alloc o2).alloc o3).alloc o4).alloc o5) o6
  have k0 := alloc_last w o0
  have k1 := alloc_last (w.alloc o0) o1
  have k2 := alloc_last ((w.alloc o0).alloc o1) o2
  have k3 := alloc_last (((w.alloc o0).alloc o1).alloc o2) o3
  have k4 := alloc_last ((((w.alloc o0).alloc o1).alloc o2).alloc o3) o4
  have k5 := alloc_last (((((w.alloc o0).alloc o1).alloc o2).alloc o3).alloc o4) o5
  have k6 := alloc_last ((((((w.alloc o0).alloc o1).alloc o2).alloc o3).alloc o4).alloc o5) o6
  simp only [World.size_alloc] at k1 k2 k3 k4 k5 k6
  have n5 := more_trans m5 m6
  have n4 := more_trans m4 n5
  have n3 := more_trans m3 n4
  have n2 := more_trans m2 n3
  have n1 := more_trans m1 n2
  exact ⟨(n1.block (blk_lt k0)).trans k0, (n2.block (blk_lt k1)).trans k1, (n3.block (blk_lt k2)).trans k2, (n4.block (blk_lt k3)).trans k3, (n5.block (blk_lt k4)).trans k4, (m6.block (blk_lt k5)).trans k5, k6, more_trans m0 n1⟩
def exU (A : Nat) : Value := .slice (some ⟨A, 0, none⟩) 1 1
def exLs (A : Nat) : List LV := [(.slice (some ⟨A + 1 + 1 + 1 + 1, 0, none⟩) 2 2, [(exU A, .slice none 0 0, xC), (exU (A + 1), .slice none 0 0, yC)]), (.slice (some ⟨A + 1 + 1 + 1 + 1 + 1, 0, none⟩) 1 1, [(exU A, .slice none 0 0, xC)])]
theorem blk_row {α : Type} {c : α → List Value} {k : Nat} (hc : ∀ x, (c x).length = k) {w : World} {b : Nat} {arr : Array Value} {ty : TypeId} (l : List α) (h : w.heap[b]? = some (.cells arr ty)) (hx : arr.toList = flatC c l) : Row anyB w k l.length (.slice (some ⟨b, 0, none⟩) l.length l.length) (flatC c l) :=
  row_blkC hc h hx (Nat.le_refl _) trivial
theorem nilA_some (b n c : Nat) : NilA (.slice (some ⟨b, 0, none⟩) n c) := fun _ _ e => by cases e
theorem nilA_nil : NilA (.slice none 0 0) := fun _ _ e => by cases e; rfl
theorem ex_cau {W : World} {A : Nat} {n : Int} (h : W.heap[A]? = some (.cells #[.int .u8 n, .int .i64 0, .int .i64 0, .int .i64 0] 48)) : CauAt W ⟨[⟨n, 0, 0, 0⟩], []⟩ (exU A) (.slice none 0 0) :=
  ⟨blk_row kC_len [⟨n, 0, 0, 0⟩] h rfl, Row.nil _ _ _ _ _, nilA_some _ _ _, nilA_nil, by simp, by simp⟩
theorem ex_lists {W : World} {A : Nat} (h0 : W.heap[A]? = some (.cells #[.int .u8 4, .int .i64 0, .int .i64 0, .int .i64 0] 48)) (h1 : W.heap[A + 1]? = some (.cells #[.int .u8 5, .int .i64 0, .int .i64 0, .int .i64 0] 48))
    (h4 : W.heap[A + 1 + 1 + 1 + 1]? = some (.cells #[exU A, .slice none 0 0, exU (A + 1), .slice none 0 0] 30)) (h5 : W.heap[A + 1 + 1 + 1 + 1 + 1]? = some (.cells #[exU A, .slice none 0 0] 30))
    (h6 : W.heap[A + 1 + 1 + 1 + 1 + 1 + 1]? = some (.cells #[.slice (some ⟨A + 1 + 1 + 1 + 1, 0, none⟩) 2 2, .slice (some ⟨A + 1 + 1 + 1 + 1 + 1, 0, none⟩) 1 1] 25)) : ListsAt W (exLs A) (.slice (some ⟨A + 1 + 1 + 1 + 1 + 1 + 1, 0, none⟩) 2 2) := by
  refine ⟨blk_row lC_len (exLs A) h6 rfl, ?_, ?_, by simp [exLs], ?_⟩
  · intro p hp
    simp only [exLs, List.mem_cons, List.not_mem_nil, or_false] at hp
    rcases hp with rfl | rfl
    · exact blk_row qC_len _ h4 rfl
    · exact blk_row qC_len _ h5 rfl
  · intro p hp q hq
    simp only [exLs, List.mem_cons, List.not_mem_nil, or_false] at hp
    rcases hp with rfl | rfl
    · simp only [List.mem_cons, List.not_mem_nil, or_false] at hq
      rcases hq with rfl | rfl
      · exact ex_cau h0
      · exact ex_cau h1
    · simp only [List.mem_cons, List.not_mem_nil, or_false] at hq
      subst hq
      exact ex_cau h0
  · intro p hp
    simp only [exLs, List.mem_cons, List.not_mem_nil, or_false] at hp
    rcases hp with rfl | rfl <;> simp
/-- What Combine returns at the example. -/
theorem ex_comb {A : Nat} {e : Ending} {w : World} (h : CombE (exLs A) true e w) : ∃ (B cap : Nat) (ua ha : Option Addr) (un uc hn hc : Nat), e = .returned (.slice (some ⟨B, 0, none⟩) 2 cap) ∧ CauAt w xC (.slice ua un uc) (.slice ha hn hc) ∧
    w.cell? ⟨B, 0, none⟩ = some (.slice ua un uc) ∧ w.cell? ⟨B, 1, none⟩ = some (.slice ha hn hc) ∧ w.cell? ⟨B, 2, none⟩ = some (.int .u8 1) ∧ w.cell? ⟨B, 3, none⟩ = some (.int .i64 2) ∧ w.cell? ⟨B, 7, none⟩ = some (.int .u8 2) ∧ w.cell? ⟨B, 8, none⟩ = some (.int .i64 1) ∧ w.cell? ⟨B, 9, none⟩ = some (.int .i64 2) := by
  obtain ⟨F, B, cap, hF, rfl, hH, hT⟩ := h
  rw [show fndL (exLs A) 0 = [(xC, 0), (yC, 0), (xC, 1)] from rfl] at hF
  obtain ⟨a, r1, rfl, ha, hF⟩ := List.map_eq_cons_iff.1 hF
  obtain ⟨b, r2, rfl, hb, hF⟩ := List.map_eq_cons_iff.1 hF
  obtain ⟨c, r3, rfl, hc, hF⟩ := List.map_eq_cons_iff.1 hF
  obtain rfl := List.map_eq_nil_iff.1 hF
  have e := comb_ex a b c ha hb hc
  rw [show ((exLs A).length : Int) = 2 from rfl] at *
  unfold combR at hH
  rw [e] at hH hT ⊢
  have hH : HoldC tC 5 w B 0 (insertionSort (ltOf cfT) #[⟨xC, a.ua, a.un, a.uc, a.ha, a.hn, a.hc, 1, 2, 2⟩, ⟨yC, b.ua, b.un, b.uc, b.ha, b.hn, b.hc, 2, 1, 2⟩] 0 2) := hH
  rw [told_ex (a := ⟨xC, a.ua, a.un, a.uc, a.ha, a.hn, a.hc, 1, 2, 2⟩) (b := ⟨yC, b.ua, b.un, b.uc, b.ha, b.hn, b.hc, 2, 1, 2⟩) rfl rfl] at hH
  have h0 := fun r u hu => (hH 0 (show 0 < 2 by decide) r u hu).1
  have h1 := fun r u hu => (hH 1 (show 1 < 2 by decide) r u hu).1
  exact ⟨B, cap, a.ua, a.ha, a.un, a.uc, a.hn, a.hc, rfl, hT _ (List.mem_cons_self), h0 0 _ rfl, h0 1 _ rfl, h0 2 _ rfl, h0 3 _ rfl, h1 2 _ rfl, h1 3 _ rfl, h1 4 _ rfl⟩
set_option maxRecDepth 100000 in
set_option maxHeartbeats 4000000 in
theorem awake46_any (w : World) : Calls Try.prog 46 #[] w fun e w' => e = .returned (.bool true) ∧ Below w.heap.size w w' := by
  have HAL := Lib.hid (fun o4 o5 o6 => alloc7 w (.cells #[.int .u8 4, .int .i64 0, .int .i64 0, .int .i64 0] 48) (.cells #[.int .u8 5, .int .i64 0, .int .i64 0, .int .i64 0] 48) (.cells #[.slice (some ⟨w.heap.size, 0, none⟩) 1 1, .slice none 0 0] 30) (.cells #[.slice (some ⟨w.heap.size + 1, 0, none⟩) 1 1, .slice none 0 0] 30) o4 o5 o6)
  go_enter Try.func46, Try.ntmps46
  go_wp2_with fail
  obtain ⟨W, HW⟩ : ∃ W, Hid (W = ((((((w.alloc (.cells #[.int .u8 4, .int .i64 0, .int .i64 0, .int .i64 0] 48)).alloc (.cells #[.int .u8 5, .int .i64 0, .int .i64 0, .int .i64 0] 48)).alloc (.cells #[.slice (some ⟨w.heap.size, 0, none⟩) 1 1, .slice none 0 0] 30)).alloc (.cells #[.slice (some ⟨w.heap.size + 1, 0, none⟩) 1 1, .slice none 0 0] 30)).alloc (.cells #[.slice (some ⟨w.heap.size, 0, none⟩) 1 1, .slice none 0 0, .slice (some ⟨w.heap.size + 1, 0, none⟩) 1 1, .slice none 0 0] 30)).alloc (.cells #[.slice (some ⟨w.heap.size, 0, none⟩) 1 1, .slice none 0 0] 30)).alloc (.cells #[.slice (some ⟨w.heap.size + 1 + 1 + 1 + 1, 0, none⟩) 2 2, .slice (some ⟨w.heap.size + 1 + 1 + 1 + 1 + 1, 0, none⟩) 1 1] 25)) := ⟨_, Lib.hid rfl⟩
  obtain ⟨h0, h1, h2, _, h4, h5, h6, hm⟩ := HAL.out _ _ _ W HW.out
  rw [← HW.out]
  have HL := Lib.hid (ex_lists h0 h1 h4 h5 h6)
  have H0 := Lib.hid h0
  have H2 := Lib.hid h2
  have HM := Lib.hid hm
  clear h0 h1 h2 h4 h5 h6 hm HAL HW
  generalize w.heap.size = A at *
  refine (combine_any (exLs A) _ true W HL.out (show (3 : Nat) ≤ 12 by decide) (show 0 < (3 : Nat) by decide)).mono ?_
  rintro e w1 ⟨he, hb1⟩
  obtain ⟨B, cap, ua, ha, un, uc, hn, hc, rfl, hcau, b0, b1, b2, b3, b7, b8, b9⟩ := ex_comb he
  have HB := Lib.hid hb1
  have HC := Lib.hid hcau
  have HX := Lib.hid (CauAt.below (ex_cau H0.out) hb1)
  have c0 := below_cell hb1 (cell_of_blk (j := 0) H2.out rfl)
  have c1 := below_cell hb1 (cell_of_blk (j := 1) H2.out rfl)
  have HEQ := Lib.hid (fun W' (hW : More w1 W') => equalCause_any xC xC (.slice ua un uc) (.slice ha hn hc) (exU A) (.slice none 0 0) W' (CauAt.more HC.out hW) (CauAt.more HX.out hW))
  rw [show decide (cmpCau xC xC = 0) = true from eq_xx] at HEQ
  have HK := Lib.hid (show ∀ W', More w1 W' → (W'.cell? ⟨B, 0, none⟩ = some (.slice ua un uc) ∧ W'.cell? ⟨B, 1, none⟩ = some (.slice ha hn hc) ∧ W'.cell? ⟨B, 2, none⟩ = some (.int .u8 1) ∧ W'.cell? ⟨B, 3, none⟩ = some (.int .i64 2) ∧ W'.cell? ⟨B, 7, none⟩ = some (.int .u8 2) ∧ W'.cell? ⟨B, 8, none⟩ = some (.int .i64 1) ∧ W'.cell? ⟨B, 9, none⟩ = some (.int .i64 2) ∧ W'.cell? ⟨A + 1 + 1, 0, none⟩ = some (.slice (some ⟨A, 0, none⟩) 1 1) ∧ W'.cell? ⟨A + 1 + 1, 1, none⟩ = some (.slice none 0 0)) from fun W' h => ⟨h.cell b0, h.cell b1, h.cell b2, h.cell b3, h.cell b7, h.cell b8, h.cell b9, h.cell c0, h.cell c1⟩)
  clear he hcau b0 b1 b2 b3 b7 b8 b9 c0 c1 hb1
  go_upto_region 3 with (fail)
  have HL := Lib.hid (more_drew w1)
  go_region_held3 (fun W' => W'.cell? ⟨B, 0, none⟩ = some (.slice ua un uc) ∧ W'.cell? ⟨B, 1, none⟩ = some (.slice ha hn hc) ∧ W'.cell? ⟨B, 2, none⟩ = some (.int .u8 1) ∧ W'.cell? ⟨B, 3, none⟩ = some (.int .i64 2) ∧ W'.cell? ⟨B, 7, none⟩ = some (.int .u8 2) ∧ W'.cell? ⟨B, 8, none⟩ = some (.int .i64 1) ∧ W'.cell? ⟨B, 9, none⟩ = some (.int .i64 2) ∧ W'.cell? ⟨A + 1 + 1, 0, none⟩ = some (.slice (some ⟨A, 0, none⟩) 1 1) ∧ W'.cell? ⟨A + 1 + 1, 1, none⟩ = some (.slice none 0 0)) (first | with_reducible exact HK.out _ HL.out) (first | (go_at_call 90; refine (HEQ.out _ HL.out).mono ?_; rintro e w9 ⟨rfl, hm9⟩; have HL := Lib.hid (more_trans HL.out hm9); clear hm9))
  all_goals
    go_wp2_with fail
    go_ret
    exact ⟨rfl, (HM.out.below.trans (HB.out.mono HM.out.size)).trans (HL.out.below.mono (Nat.le_trans HM.out.size HB.out.size))⟩
end Go.Proofs.Ytemeppfikpafbaa
