/- (choice.Set).find (98), (choice.Set).Get (83). -/
import Derived.Test.YtemeppfikpafbaaCho4
namespace Go.Proofs.Ytemeppfikpafbaa
open Go.RowKit
def getC (l : List Ch) (k : K4) : Option Ch := l.find? fun x => decide (x.k = k)
theorem getC_some {l : List Ch} (h : AscC l) {k : K4} {p : Nat} (hp : p < l.length) (hk : l[p].k = k) : getC l k = some l[p] := by
  unfold getC
  refine find_first l _ p hp (by simp [hk]) fun i hi => ?_
  have := List.pairwise_iff_getElem.1 h i p (by omega) hp hi
  rw [decide_eq_false_iff_not]
  intro e
  unfold ltC at this
  rw [e, hk] at this
  exact ltK_irrefl _ this
theorem getC_none {l : List Ch} {k : K4} {p : Nat} (h : PlaceC l k p) (ha : AscC l) (hk : (l[p]?.map (·.k) == some k) = false) : getC l k = none := by
  unfold getC
  rw [List.find?_eq_none]
  intro x hx
  rw [decide_eq_true_iff]
  intro e
  obtain ⟨i, hi, rfl⟩ := List.getElem_of_mem hx
  have hz := (cmpK4_zero _ _).2 e
  obtain ⟨h1, h2, h3⟩ := h
  rcases Nat.lt_trichotomy i p with h4 | h4 | h4
  · have := h2 i hi h4; omega
  · subst h4
    rw [List.getElem?_eq_getElem hi] at hk
    simp [e] at hk
  · have hp : p < l.length := by omega
    have hlt := List.pairwise_iff_getElem.1 ha p i hp hi h4
    have h5 := h3 p hp (Nat.le_refl _)
    unfold ltC at hlt
    rw [e] at hlt
    have := (cmpK4_neg _ _).2 hlt
    omega
theorem getC_mem {l : List Ch} {k : K4} {x : Ch} (h : getC l k = some x) : x ∈ l ∧ x.k = k := by
  unfold getC at h
  exact ⟨List.mem_of_find?_eq_some h, by simpa using List.find?_some h⟩
set_option maxRecDepth 10000 in
theorem find_any (l : List Ch) (k : K4) (v : Value) (w : World) (hl : l.length < 4294967296) (hasc : AscC l) (h : Row anyB w 7 l.length v (flatC chC l)) :
    Calls Try.prog 98 #[.agg #[v], .agg #[.int .u8 k.kind, .int .i64 k.a, .int .i64 k.b, .int .i64 k.n]] w fun e w' => (∃ p, PlaceC l k p ∧ e = .returned (.tuple #[.int .i64 p, .bool (l[p]?.map (·.k) == some k)])) ∧ Lay w w' := by
  obtain ⟨a, cap, rfl, _⟩ := h.shape
  have HS := Lib.hid (fun W (hW : Lay w W) => search_any l k _ W hl hasc (h.below hW.1.below))
  clear h hasc hl
  go_enter Try.func98, Try.ntmps98
  go_wp2_with fail
  refine (HS.out _ ((Lay.alloc _ _).trans (Lay.alloc _ _))).mono ?_
  rintro e w3 ⟨⟨p, hp, rfl⟩, hl3⟩
  have HP := Lib.hid hp
  have HL := Lib.hid (((Lay.alloc w _).trans (Lay.alloc _ _)).trans hl3)
  clear hp hl3
  obtain ⟨z, HZ⟩ : ∃ z, Hid ((l[p]?.map (·.k) == some k) = z) := ⟨_, Lib.hid rfl⟩
  rw [HZ.out]
  go_wp2_with fail
  go_ret2
  exact ⟨⟨p, HP.out, by rw [HZ.out]; rfl⟩, HL.out⟩
/-- What Get returns. -/
def getV (o : Option Ch) : Value := match o with
  | some x => .tuple #[.agg #[.int .u8 x.k.kind, .int .i64 x.k.a, .int .i64 x.k.b, .int .i64 x.k.n, .int .i64 x.t, .int .i64 0, .slice none 0 0], .bool true]
  | none => .tuple #[.agg #[.int .u8 0, .int .i64 0, .int .i64 0, .int .i64 0, .int .i64 0, .int .i64 0, .slice none 0 0], .bool false]
set_option maxRecDepth 100000 in
set_option maxHeartbeats 1000000 in
theorem get_any (l : List Ch) (k : K4) (v : Value) (w : World) (hl : l.length < 4294967296) (hasc : AscC l) (h : Row anyB w 7 l.length v (flatC chC l)) :
    Calls Try.prog 83 #[.agg #[v], .agg #[.int .u8 k.kind, .int .i64 k.a, .int .i64 k.b, .int .i64 k.n]] w fun e w' => e = .returned (getV (getC l k)) ∧ Lay w w' := by
  obtain ⟨a, cap, rfl, _⟩ := h.shape
  have HS := Lib.hid (fun W (hW : Lay w W) => find_any l k _ W hl hasc (h.below hW.1.below))
  have HA := Lib.hid hasc
  have HR := Lib.hid h
  clear h hasc
  go_enter Try.func83, Try.ntmps83
  go_wp2_with fail
  have HSB := Lib.hid (show (((w.alloc (.cells #[.slice a l.length cap] 73)).alloc (.cells #[.int .u8 k.kind, .int .i64 k.a, .int .i64 k.b, .int .i64 k.n] 48)).alloc (.cells #[.int .u8 0, .int .i64 0, .int .i64 0, .int .i64 0, .int .i64 0, .int .i64 0, .slice none 0 0] 113)).heap[w.heap.size]? = some (.cells #[.slice a l.length cap] 73) by
    rw [Below.heap_alloc _ _ _ (by simp; omega), Below.heap_alloc _ _ _ (by simp)]; exact alloc_last _ _)
  have HRB := Lib.hid (show (((w.alloc (.cells #[.slice a l.length cap] 73)).alloc (.cells #[.int .u8 k.kind, .int .i64 k.a, .int .i64 k.b, .int .i64 k.n] 48)).alloc (.cells #[.int .u8 0, .int .i64 0, .int .i64 0, .int .i64 0, .int .i64 0, .int .i64 0, .slice none 0 0] 113)).heap[w.heap.size + 1 + 1]? = some (.cells #[.int .u8 0, .int .i64 0, .int .i64 0, .int .i64 0, .int .i64 0, .int .i64 0, .slice none 0 0] 113) from alloc_at _ _ (by simp))
  have HL3 := Lib.hid (((Lay.alloc w (.cells #[.slice a l.length cap] 73)).trans (Lay.alloc _ (.cells #[.int .u8 k.kind, .int .i64 k.a, .int .i64 k.b, .int .i64 k.n] 48))).trans (Lay.alloc _ (.cells #[.int .u8 0, .int .i64 0, .int .i64 0, .int .i64 0, .int .i64 0, .int .i64 0, .slice none 0 0] 113)))
  generalize ((w.alloc (.cells #[.slice a l.length cap] 73)).alloc (.cells #[.int .u8 k.kind, .int .i64 k.a, .int .i64 k.b, .int .i64 k.n] 48)).alloc (.cells #[.int .u8 0, .int .i64 0, .int .i64 0, .int .i64 0, .int .i64 0, .int .i64 0, .slice none 0 0] 113) = w3 at *
  refine (HS.out _ HL3.out).mono ?_
  rintro e w4 ⟨⟨p, hp, rfl⟩, hl4⟩
  have HP := Lib.hid hp
  have HL4 := Lib.hid (HL3.out.trans hl4)
  have HSB4 := Lib.hid ((hl4.1.block (blk_lt HSB.out)).trans HSB.out)
  have HRB4 := Lib.hid ((hl4.1.block (blk_lt HRB.out)).trans HRB.out)
  clear hp hl4 HSB HRB HS
  obtain ⟨z, hz⟩ : ∃ z, (l[p]?.map (·.k) == some k) = z := ⟨_, rfl⟩
  rw [hz]
  have r0 : w4.cell? ⟨w.heap.size + 1 + 1, 0, none⟩ = some (.int .u8 0) := cell_of_blk HRB4.out rfl
  have r1 : w4.cell? ⟨w.heap.size + 1 + 1, 1, none⟩ = some (.int .i64 0) := cell_of_blk HRB4.out rfl
  have r2 : w4.cell? ⟨w.heap.size + 1 + 1, 2, none⟩ = some (.int .i64 0) := cell_of_blk HRB4.out rfl
  have r3 : w4.cell? ⟨w.heap.size + 1 + 1, 3, none⟩ = some (.int .i64 0) := cell_of_blk HRB4.out rfl
  have r4 : w4.cell? ⟨w.heap.size + 1 + 1, 4, none⟩ = some (.int .i64 0) := cell_of_blk HRB4.out rfl
  have r5 : w4.cell? ⟨w.heap.size + 1 + 1, 5, none⟩ = some (.int .i64 0) := cell_of_blk HRB4.out rfl
  have r6 : w4.cell? ⟨w.heap.size + 1 + 1, 6, none⟩ = some (.slice none 0 0) := cell_of_blk HRB4.out rfl
  have f0 := thaw HRB4.out 0
  have f1 := thaw HRB4.out 1
  have f2 := thaw HRB4.out 2
  have f3 := thaw HRB4.out 3
  have f4 := thaw HRB4.out 4
  have f5 := thaw HRB4.out 5
  have f6 := thaw HRB4.out 6
  have s0 : w4.cell? ⟨w.heap.size, 0, none⟩ = some (.slice a l.length cap) := cell_of_blk HSB4.out rfl
  have hsb := cell_lt s0
  cases z with
  | false =>
    have HN := Lib.hid (getC_none HP.out HA.out hz)
    clear hz
    go_wp2_with fail
    exact bodyPost_ret (v := .tuple #[.agg #[.int .u8 0, .int .i64 0, .int .i64 0, .int .i64 0, .int .i64 0, .int .i64 0, .slice none 0 0], .bool false]) (by simp [results, Try.results83, go_sem, r0, r1, r2, r3, r4, r5, r6]) rfl ⟨by rw [HN.out]; rfl, HL4.out.setC (B := w.heap.size + 1 + 1) (o := 0) (by omega) [.int .u8 0, .int .i64 0, .int .i64 0, .int .i64 0, .int .i64 0, .int .i64 0, .slice none 0 0]⟩
  | true =>
    have hin : p < l.length := by
      by_cases h : p < l.length
      · exact h
      · rw [List.getElem?_eq_none (by omega)] at hz; simp at hz
    have hk : l[p].k = k := by rw [List.getElem?_eq_getElem hin] at hz; simpa using hz
    have HG := Lib.hid (getC_some HA.out hin hk)
    clear hz hk
    obtain ⟨b, off, rfl, _, hc⟩ := HR.out.atC chC_len hin
    have g0 := HL4.out.1.cell (hc 0 (.int .u8 l[p].k.kind) rfl)
    have g1 := HL4.out.1.cell (hc 1 (.int .i64 l[p].k.a) rfl)
    have g2 := HL4.out.1.cell (hc 2 (.int .i64 l[p].k.b) rfl)
    have g3 := HL4.out.1.cell (hc 3 (.int .i64 l[p].k.n) rfl)
    have g4 := HL4.out.1.cell (hc 4 (.int .i64 l[p].t) rfl)
    have g5 := HL4.out.1.cell (hc 5 (.int .i64 0) rfl)
    have g6 := HL4.out.1.cell (hc 6 (.slice none 0 0) rfl)
    rw [Nat.add_zero] at g0
    clear hc
    generalize l[p] = x at *
    have HC := Lib.hid (show ∀ W, Calls Try.prog 100 #[.agg #[.int .u8 x.k.kind, .int .i64 x.k.a, .int .i64 x.k.b, .int .i64 x.k.n, .int .i64 x.t, .int .i64 0, .slice none 0 0]] W fun e w' => e = .returned (.agg #[.int .u8 x.k.kind, .int .i64 x.k.a, .int .i64 x.k.b, .int .i64 x.k.n, .int .i64 x.t, .int .i64 0, .slice none 0 0]) ∧ Lay W w' from fun W => cloneCh_any x W)
    have hbg := cell_lt g0
    go_wp2_with fail
    refine (HC.out _).mono ?_
    rintro e w5 ⟨rfl, hl5⟩
    have HL5 := Lib.hid (HL4.out.trans hl5)
    have HRB5 := Lib.hid ((hl5.1.block (blk_lt HRB4.out)).trans HRB4.out)
    clear hl5 r0 r1 r2 r3 r4 r5 r6 f0 f1 f2 f3 f4 f5 f6
    have r0 : w5.cell? ⟨w.heap.size + 1 + 1, 0, none⟩ = some (.int .u8 0) := cell_of_blk HRB5.out rfl
    have r1 : w5.cell? ⟨w.heap.size + 1 + 1, 1, none⟩ = some (.int .i64 0) := cell_of_blk HRB5.out rfl
    have r2 : w5.cell? ⟨w.heap.size + 1 + 1, 2, none⟩ = some (.int .i64 0) := cell_of_blk HRB5.out rfl
    have r3 : w5.cell? ⟨w.heap.size + 1 + 1, 3, none⟩ = some (.int .i64 0) := cell_of_blk HRB5.out rfl
    have r4 : w5.cell? ⟨w.heap.size + 1 + 1, 4, none⟩ = some (.int .i64 0) := cell_of_blk HRB5.out rfl
    have r5 : w5.cell? ⟨w.heap.size + 1 + 1, 5, none⟩ = some (.int .i64 0) := cell_of_blk HRB5.out rfl
    have r6 : w5.cell? ⟨w.heap.size + 1 + 1, 6, none⟩ = some (.slice none 0 0) := cell_of_blk HRB5.out rfl
    have f0 := thaw HRB5.out 0
    have f1 := thaw HRB5.out 1
    have f2 := thaw HRB5.out 2
    have f3 := thaw HRB5.out 3
    have f4 := thaw HRB5.out 4
    have f5 := thaw HRB5.out 5
    have f6 := thaw HRB5.out 6
    go_wp2_with fail
    have c0 := setC_at [.int .u8 x.k.kind, .int .i64 x.k.a, .int .i64 x.k.b, .int .i64 x.k.n, .int .i64 x.t, .int .i64 0, .slice none 0 0] (B := w.heap.size + 1 + 1) (o := 0) (j := 0) rfl (show w5.cell? ⟨w.heap.size + 1 + 1, 0 + 0, none⟩ = _ from r0)
    simp only [setC, Nat.zero_add, Nat.reduceAdd] at c0
    have c1 := setC_at [.int .u8 x.k.kind, .int .i64 x.k.a, .int .i64 x.k.b, .int .i64 x.k.n, .int .i64 x.t, .int .i64 0, .slice none 0 0] (B := w.heap.size + 1 + 1) (o := 0) (j := 1) rfl (show w5.cell? ⟨w.heap.size + 1 + 1, 0 + 1, none⟩ = _ from r1)
    simp only [setC, Nat.zero_add, Nat.reduceAdd] at c1
    have c2 := setC_at [.int .u8 x.k.kind, .int .i64 x.k.a, .int .i64 x.k.b, .int .i64 x.k.n, .int .i64 x.t, .int .i64 0, .slice none 0 0] (B := w.heap.size + 1 + 1) (o := 0) (j := 2) rfl (show w5.cell? ⟨w.heap.size + 1 + 1, 0 + 2, none⟩ = _ from r2)
    simp only [setC, Nat.zero_add, Nat.reduceAdd] at c2
    have c3 := setC_at [.int .u8 x.k.kind, .int .i64 x.k.a, .int .i64 x.k.b, .int .i64 x.k.n, .int .i64 x.t, .int .i64 0, .slice none 0 0] (B := w.heap.size + 1 + 1) (o := 0) (j := 3) rfl (show w5.cell? ⟨w.heap.size + 1 + 1, 0 + 3, none⟩ = _ from r3)
    simp only [setC, Nat.zero_add, Nat.reduceAdd] at c3
    have c4 := setC_at [.int .u8 x.k.kind, .int .i64 x.k.a, .int .i64 x.k.b, .int .i64 x.k.n, .int .i64 x.t, .int .i64 0, .slice none 0 0] (B := w.heap.size + 1 + 1) (o := 0) (j := 4) rfl (show w5.cell? ⟨w.heap.size + 1 + 1, 0 + 4, none⟩ = _ from r4)
    simp only [setC, Nat.zero_add, Nat.reduceAdd] at c4
    have c5 := setC_at [.int .u8 x.k.kind, .int .i64 x.k.a, .int .i64 x.k.b, .int .i64 x.k.n, .int .i64 x.t, .int .i64 0, .slice none 0 0] (B := w.heap.size + 1 + 1) (o := 0) (j := 5) rfl (show w5.cell? ⟨w.heap.size + 1 + 1, 0 + 5, none⟩ = _ from r5)
    simp only [setC, Nat.zero_add, Nat.reduceAdd] at c5
    have c6 := setC_at [.int .u8 x.k.kind, .int .i64 x.k.a, .int .i64 x.k.b, .int .i64 x.k.n, .int .i64 x.t, .int .i64 0, .slice none 0 0] (B := w.heap.size + 1 + 1) (o := 0) (j := 6) rfl (show w5.cell? ⟨w.heap.size + 1 + 1, 0 + 6, none⟩ = _ from r6)
    simp only [setC, Nat.zero_add, Nat.reduceAdd] at c6
    exact bodyPost_ret (v := .tuple #[.agg #[.int .u8 x.k.kind, .int .i64 x.k.a, .int .i64 x.k.b, .int .i64 x.k.n, .int .i64 x.t, .int .i64 0, .slice none 0 0], .bool true]) (by simp [results, Try.results83, go_sem, c0, c1, c2, c3, c4, c5, c6]) rfl ⟨by rw [HG.out]; rfl, HL5.out.setC (B := w.heap.size + 1 + 1) (o := 0) (by omega) [.int .u8 x.k.kind, .int .i64 x.k.a, .int .i64 x.k.b, .int .i64 x.k.n, .int .i64 x.t, .int .i64 0, .slice none 0 0]⟩
end Go.Proofs.Ytemeppfikpafbaa
