/- rootcauselaw10.small (50). -/
import Derived.Test.YtekhoanjpnjaeaaRefEval
import Derived.Test.YtekhoanjpnjaeaaBuildTop
import Derived.Test.YtekhoanjpnjaeaaOf
namespace Go.Proofs.Ytekhoanjpnjaeaa
open Go.RowKit

/-- The environment of an argument: as EnvRep, the lengths bounded by the reading alone. -/
structure EnvRaw (S : Nat → Prop) (w : World) (e : EnvD) (c1 c2 c3 c4 : Value) : Prop where
  names : Row S w 1 e.names.length c1 (e.names.map .string)
  vals : Row S w 1 e.vals.length c2 (e.vals.map (.int .i64))
  tnames : Row S w 1 e.tnames.length c3 (e.tnames.map .string)
  tabs : ∃ ts : List Value, Row S w 1 e.tabs.length c4 ts ∧ ∀ i (h : i < e.tabs.length), ∃ tv, ts[i]? = some tv ∧ Row S w 2 e.tabs[i].length tv (flat2 e.tabs[i])
  long : e.names.length ≤ maxLen ∧ e.vals.length ≤ maxLen ∧ e.tnames.length ≤ maxLen ∧ e.tabs.length ≤ maxLen ∧ ∀ t ∈ e.tabs, t.length ≤ maxLen
  nums : In64 e.now ∧ (∀ v ∈ e.vals, In64 v) ∧ ∀ t ∈ e.tabs, ∀ x ∈ t, In64 x.1 ∧ In64 x.2
  text : (∀ x ∈ e.names, x.size ≤ maxLen) ∧ ∀ x ∈ e.tnames, x.size ≤ maxLen
def smallE (e : EnvD) : EnvD := ⟨e.names.take 8, e.vals.take 8, e.tnames.take 8, (e.tabs.take 8).map (·.take 16), e.now⟩
def cutV : Value → Value
  | .slice a n c => .slice a (min n 16) c
  | v => v

/-- A struct of the call's own whose fourth field is a slice that grows by append. -/
structure OutInv (T E : TypeId) (w : World) (c1 c2 c3 : Value) (now : Int) (xs : List Value) (wr : World) : Prop where
  below : Below w.heap.size w wr
  size : w.heap.size + 1 + 1 + 1 ≤ wr.heap.size
  res : wr.heap[w.heap.size + 1]? = some (.cells #[.slice none 0 0, .slice none 0 0, .slice none 0 0, .slice none 0 0, .int .i64 0] T)
  out : ∃ ov, wr.heap[w.heap.size + 1 + 1]? = some (.cells #[c1, c2, c3, ov, .int .i64 now] T) ∧ wr.ownsRow (w.heap.size + 1 + 1 + 1) E 1 ov xs.length xs
theorem OutInv.step {T E : TypeId} {w wr w1 w2 : World} {c1 c2 c3 ov ov' x : Value} {now : Int} {xs : List Value} {o : Obj} (hI : OutInv T E w c1 c2 c3 now xs wr)
    (hov : wr.heap[w.heap.size + 1 + 1]? = some (.cells #[c1, c2, c3, ov, .int .i64 now] T)) (h1 : More wr w1) (hg : (w1.alloc o).grownBy w2 ov.ownBlock) (ho : w2.ownsRow (w.heap.size + 1 + 1 + 1) E 1 ov' (xs.length + 1) (xs ++ [x]))
    (hon : ∀ y, ov.ownBlock = some y → w.heap.size + 1 + 1 + 1 ≤ y) (hon' : ∀ y, ov'.ownBlock = some y → w.heap.size + 1 + 1 + 1 ≤ y) : OutInv T E w c1 c2 c3 now (xs ++ [x]) (w2.setCell ⟨w.heap.size + 1 + 1, 3, none⟩ ov') := by
  have hs := hI.size
  have hs1 := h1.size
  have hs2 := hg.size
  rw [World.size_alloc] at hs2
  have e2 : ∀ y, y < w.heap.size + 1 + 1 + 1 → w2.heap[y]? = wr.heap[y]? := by
    intro y hy
    rw [hg.block y (by rw [World.size_alloc]; omega) (fun e => by have := hon y e.symm; omega), Below.heap_alloc _ _ _ (by omega)]
    exact h1.block (by omega)
  refine ⟨⟨hg.os.trans (h1.os.trans hI.below.os), hg.tape.trans (h1.tape.trans hI.below.tape), hg.output.trans (h1.output.trans hI.below.output), by have := hI.below.size; simp [World.setCell]; omega, fun y hy => ?_⟩, by simp [World.setCell]; omega, ?_, ov', ?_, ?_⟩
  · rw [Below.heap_setCell _ _ _ _ (by simp; omega), e2 y (by omega)]; exact hI.below.block y hy
  · rw [Below.heap_setCell _ _ _ _ (by simp), e2 _ (by omega)]; exact hI.res
  · exact heap_setCell_same _ _ _ _ _ _ ((e2 _ (by omega)).trans hov)
  · rw [List.length_append]
    exact owns_keep ho (fun y hy => Below.heap_setCell _ _ _ _ (by have := hon' y hy; simp; omega))
theorem OutInv.start (T E : TypeId) (w : World) (o : Obj) (c1 c2 c3 : Value) (now : Int) : OutInv T E w c1 c2 c3 now [] (((w.alloc o).alloc (.cells #[.slice none 0 0, .slice none 0 0, .slice none 0 0, .slice none 0 0, .int .i64 0] T)).alloc (.cells #[c1, c2, c3, .slice none 0 0, .int .i64 now] T)) := by
  refine ⟨(((Below.refl _ _).alloc (Nat.le_refl _) _).alloc (by simp) _).alloc (by simp; omega) _, by simp, ?_, _, alloc_at _ _ (by simp), ⟨rfl, Or.inl ⟨rfl, rfl⟩⟩⟩
  rw [Below.heap_alloc _ _ _ (by simp)]; exact alloc_at _ _ (by simp)
theorem OutInv.drew {T E : TypeId} {w wr : World} {c1 c2 c3 : Value} {now : Int} {xs : List Value} (h : OutInv T E w c1 c2 c3 now xs wr) (n : Nat) : OutInv T E w c1 c2 c3 now xs (wr.drewN n) :=
  ⟨h.below.trans (below_drewN _ _ _), h.size, h.res, h.out⟩

def set5 (w : World) (M : Nat) (a b c d e : Value) : World := ((((w.setCell ⟨M, 0, none⟩ a).setCell ⟨M, 1, none⟩ b).setCell ⟨M, 2, none⟩ c).setCell ⟨M, 3, none⟩ d).setCell ⟨M, 4, none⟩ e
theorem set5_below {B : Nat} {w0 w : World} (h : Below B w0 w) {M : Nat} (hM : B ≤ M) (a b c d e : Value) : Below B w0 (set5 w M a b c d e) :=
  ((((h.setCell (p := ⟨M, 0, none⟩) hM a).setCell (p := ⟨M, 1, none⟩) hM b).setCell (p := ⟨M, 2, none⟩) hM c).setCell (p := ⟨M, 3, none⟩) hM d).setCell (p := ⟨M, 4, none⟩) hM e
theorem set5_heap (w : World) (M : Nat) (a b c d e : Value) (x : Nat) (h : x ≠ M) : (set5 w M a b c d e).heap[x]? = w.heap[x]? := by
  unfold set5
  rw [Below.heap_setCell _ _ _ _ h, Below.heap_setCell _ _ _ _ h, Below.heap_setCell _ _ _ _ h, Below.heap_setCell _ _ _ _ h, Below.heap_setCell _ _ _ _ h]
theorem row_take8 {α : Type} {f : α → Value} {S : Nat → Prop} {w : World} {l : List α} {a : Option Addr} {k cap : Nat} (h : Row S w 1 l.length (.slice a l.length cap) (l.map f)) (hk : k = min l.length 8) : Row S w 1 (l.take 8).length (.slice a k cap) ((l.take 8).map f) := by
  have e : (l.take 8).length = k := by rw [List.length_take, hk]; omega
  have e2 : l.take 8 = l.take k := by rw [hk]; exact (List.take_eq_take_min).trans (by rw [Nat.min_comm])
  have := h.take (k := k) (by omega)
  rw [Nat.mul_one, ← List.map_take, ← e2] at this
  rw [e]; exact this
theorem flat2_take' (l : List (Int × Int)) (n : Nat) : flat2 (l.take n) = (flat2 l).take ((l.take n).length * 2) := by
  induction l generalizing n with
  | nil => simp [flat2]
  | cons x xs ih =>
    cases n with
    | zero => simp [flat2]
    | succ n =>
      rw [List.take_succ_cons, List.length_cons, show ((xs.take n).length + 1) * 2 = (xs.take n).length * 2 + 1 + 1 by omega]
      simp only [flat2, List.take_succ_cons]
      rw [ih]

theorem Try.info170 : (Try.prog.info? 170).map (fun i => (i.zero, i.size, i.bytes)) = some (some (.slice none 0 0), 1, 24) := by kernel_rfl

set_option maxHeartbeats 2000000 in
set_option maxRecDepth 100000 in
theorem small_any (S : Nat → Prop) (e : EnvD) (c1 c2 c3 c4 : Value) (w : World) (hE : EnvRaw S w e c1 c2 c3 c4) :
    Calls Try.prog 50 #[aggE e c1 c2 c3 c4] w fun r w' => Below w.heap.size w w' ∧ ∃ d1 d2 d3 d4, r = .returned (aggE (smallE e) d1 d2 d3 d4) ∧ EnvRep (fun x => S x ∨ w.heap.size ≤ x) w' (smallE e) d1 d2 d3 d4 := by
  obtain ⟨a1, cap1, rfl, hc1⟩ := hE.names.shape
  obtain ⟨a2, cap2, rfl, hc2⟩ := hE.vals.shape
  obtain ⟨a3, cap3, rfl, hc3⟩ := hE.tnames.shape
  obtain ⟨ts, hts, htv⟩ := hE.tabs
  obtain ⟨a4, cap4, rfl, hc4⟩ := hts.shape
  obtain ⟨l1, l2, l3, l4, l5⟩ := hE.long
  unfold maxLen at l1 l2 l3 l4
  have HE := Lib.hid hE; clear hE
  have HTS := Lib.hid (And.intro hts htv); clear hts htv
  have HL5 := Lib.hid l5; clear l5
  obtain ⟨k1, hk1, hk1', HK1⟩ : ∃ k : Nat, k ≤ e.names.length ∧ k ≤ 8 ∧ Hid (k = min e.names.length 8) := ⟨min e.names.length 8, by omega, by omega, Lib.hid rfl⟩
  obtain ⟨k2, hk2, hk2', HK2⟩ : ∃ k : Nat, k ≤ e.vals.length ∧ k ≤ 8 ∧ Hid (k = min e.vals.length 8) := ⟨min e.vals.length 8, by omega, by omega, Lib.hid rfl⟩
  obtain ⟨k3, hk3, hk3', HK3⟩ : ∃ k : Nat, k ≤ e.tnames.length ∧ k ≤ 8 ∧ Hid (k = min e.tnames.length 8) := ⟨min e.tnames.length 8, by omega, by omega, Lib.hid rfl⟩
  obtain ⟨k4, hk4, hk4', HK4⟩ : ∃ k : Nat, k ≤ e.tabs.length ∧ k ≤ 8 ∧ Hid (k = min e.tabs.length 8) := ⟨min e.tabs.length 8, by omega, by omega, Lib.hid rfl⟩
  have m1 : (if (8 : Int) < (e.names.length : Int) then 8 else (e.names.length : Int)) = (k1 : Int) := by have := HK1.out; split <;> omega
  have m2 : (if (8 : Int) < (e.vals.length : Int) then 8 else (e.vals.length : Int)) = (k2 : Int) := by have := HK2.out; split <;> omega
  have m3 : (if (8 : Int) < (e.tnames.length : Int) then 8 else (e.tnames.length : Int)) = (k3 : Int) := by have := HK3.out; split <;> omega
  have m4 : (if (8 : Int) < (e.tabs.length : Int) then 8 else (e.tabs.length : Int)) = (k4 : Int) := by have := HK4.out; split <;> omega
  have b1 : (0 : Int) ≤ (k1 : Int) := by omega
  have b2 : (k1 : Int) ≤ (cap1 : Int) := by omega
  have b3 : (0 : Int) ≤ (k2 : Int) := by omega
  have b4 : (k2 : Int) ≤ (cap2 : Int) := by omega
  have b5 : (0 : Int) ≤ (k3 : Int) := by omega
  have b6 : (k3 : Int) ≤ (cap3 : Int) := by omega
  unfold aggE
  go_enter Try.func50, Try.ntmps50
  go_upto_region 1 with (fail)
  generalize hw2 : (w.alloc (.cells #[.slice a1 e.names.length cap1, .slice a2 e.vals.length cap2, .slice a3 e.tnames.length cap3, .slice a4 e.tabs.length cap4, .int .i64 e.now] 93)).alloc (.cells #[.slice none 0 0, .slice none 0 0, .slice none 0 0, .slice none 0 0, .int .i64 0] 93) = w2
  have hx2 : w2.heap[w.heap.size]? = some (.cells #[.slice a1 e.names.length cap1, .slice a2 e.vals.length cap2, .slice a3 e.tnames.length cap3, .slice a4 e.tabs.length cap4, .int .i64 e.now] 93) := by rw [← hw2, Below.heap_alloc _ _ _ (by simp)]; exact alloc_last _ _
  have HW2 := Lib.hid hw2
  have hs2 : w2.heap.size = w.heap.size + 1 + 1 := by rw [← hw2]; simp
  have HS2 := Lib.hid hs2
  clear hw2 hs2
  have y0 : w2.drew.cell? ⟨w.heap.size, 0, none⟩ = some (.slice a1 e.names.length cap1) := by show w2.cell? _ = _; simp [World.cell?, hx2]
  have y1 : w2.drew.cell? ⟨w.heap.size, 1, none⟩ = some (.slice a2 e.vals.length cap2) := by show w2.cell? _ = _; simp [World.cell?, hx2]
  have y2 : w2.drew.cell? ⟨w.heap.size, 2, none⟩ = some (.slice a3 e.tnames.length cap3) := by show w2.cell? _ = _; simp [World.cell?, hx2]
  have y3 : w2.drew.cell? ⟨w.heap.size, 3, none⟩ = some (.slice a4 e.tabs.length cap4) := by show w2.cell? _ = _; simp [World.cell?, hx2]
  have y4 : w2.drew.cell? ⟨w.heap.size, 4, none⟩ = some (.int .i64 e.now) := by show w2.cell? _ = _; simp [World.cell?, hx2]
  clear hx2
  go_cut [3] (fun s wx => s = .pointer (some ⟨w.heap.size + 1 + 1, 0, none⟩) ∧ wx = (w2.alloc (.cells #[.slice a1 k1 cap1, .slice a2 k2 cap2, .slice a3 k3 cap3, .slice none 0 0, .int .i64 e.now] 93)).drew)
  case first =>
    go_region_held3 (fun wx => wx.cell? ⟨w.heap.size, 0, none⟩ = some (.slice a1 e.names.length cap1) ∧ wx.cell? ⟨w.heap.size, 1, none⟩ = some (.slice a2 e.vals.length cap2) ∧ wx.cell? ⟨w.heap.size, 2, none⟩ = some (.slice a3 e.tnames.length cap3) ∧ wx.cell? ⟨w.heap.size, 3, none⟩ = some (.slice a4 e.tabs.length cap4) ∧ wx.cell? ⟨w.heap.size, 4, none⟩ = some (.int .i64 e.now)) (first | with_reducible exact ⟨y0, y1, y2, y3, y4⟩ | exact ⟨alloc_cell _ y0, alloc_cell _ y1, alloc_cell _ y2, alloc_cell _ y3, alloc_cell _ y4⟩) (fail)
    all_goals
      go_wp2_with fail
      go_meet
      case rel => exact ⟨by rw [HS2.out], rfl⟩
  case rest =>
    obtain ⟨rfl, hwc⟩ := hcut
    have HI := Lib.hid (show OutInv 93 170 w (.slice a1 k1 cap1) (.slice a2 k2 cap2) (.slice a3 k3 cap3) e.now [] wc by
      rw [hwc, ← HW2.out]
      exact (OutInv.start 93 170 w _ _ _ _ _).drew 1)
    have hmc : More w2.drew wc := by rw [hwc]; exact World.grownBy_alloc w2.drew _ _
    have p3 := hmc.cell y3
    clear hwc hmc y0 y1 y2 y3 y4 m1 m2 m3 b1 b2 b3 b4 b5 b6 HW2
    go_wp2_with fail
    clear m4 p3
    go_loopw [38] (fun i wr => ∃ k : Nat, k ≤ k4 ∧ i = .int .i64 k ∧ Hid (OutInv 93 170 w (.slice a1 k1 cap1) (.slice a2 k2 cap2) (.slice a3 k3 cap3) e.now ((ts.take k).map cutV) wr)) (fun i _ => k4 - (intOf i).toNat)
    case atStart => exact ⟨0, Nat.zero_le _, rfl, HI⟩
    case round =>
      obtain ⟨k, hk, rfl, HI⟩ := hrel
      by_cases hlt : k < k4
      · have hke : k < e.tabs.length := by omega
        obtain ⟨b, off, rfl, _, _, hc⟩ := HTS.out.1.at (by omega)
        obtain ⟨tv, hti, htr⟩ := HTS.out.2 k hke
        obtain ⟨ta, tc, rfl, htc⟩ := htr.shape
        have g0 := below_cell HI.out.below (hc k _ hti)
        have hbg := cell_lt g0
        have hl := HL5.out _ (List.getElem_mem hke)
        unfold maxLen at hl
        obtain ⟨kk, hkk, hkk', HKK⟩ : ∃ q : Nat, q ≤ e.tabs[k].length ∧ q ≤ 16 ∧ Hid (q = min e.tabs[k].length 16) := ⟨min e.tabs[k].length 16, by omega, by omega, Lib.hid rfl⟩
        have m5 : (if (16 : Int) < (e.tabs[k].length : Int) then 16 else (e.tabs[k].length : Int)) = (kk : Int) := by have := HKK.out; split <;> omega
        have HTK := Lib.hid (show (ts.take (k + 1)).map cutV = (ts.take k).map cutV ++ [.slice ta kk tc] by
          have hkt : k < ts.length := (List.getElem?_eq_some_iff.1 hti).1
          rw [List.take_succ_eq_append_getElem hkt, List.map_append]
          have : ts[k] = .slice ta e.tabs[k].length tc := (List.getElem?_eq_some_iff.1 hti).2
          rw [this, HKK.out]; rfl)
        clear hc hti htr
        generalize e.tabs[k].length = tn at *
        obtain ⟨ov, hov, how⟩ := HI.out.out
        obtain ⟨oa, ocap, rfl, hon⟩ := owns_shape how
        have hLl : ((ts.take k).map cutV).length ≤ k := by rw [List.length_map]; exact List.length_take_le _ _
        generalize hxs : (ts.take k).map cutV = xs at *
        have HXS := Lib.hid hxs; clear hxs
        have HON := Lib.hid hon; clear hon
        have HOV := Lib.hid hov
        have HOW := Lib.hid how; clear how
        have o3 : wr.cell? ⟨w.heap.size + 1 + 1, 3, none⟩ = some (.slice oa xs.length ocap) := by simp [World.cell?, hov]
        have f3 := thaw hov 3
        have hOl := cell_lt o3
        clear hov
        have hs3 := HI.out.size
        obtain ⟨i0, hi0, hz0, hz1, hz2⟩ := info_parts Try.info170
        have hmx1 : xs.length + 1 ≤ maxLen := by unfold maxLen; omega
        have hmx2 : (xs.length + 1) * 24 ≤ 140737488355328 := by omega
        have HOW2 := Lib.hid (owns_keep (w' := wr.drew.alloc (.cells #[.slice ta kk tc] 170)) HOW.out (fun y hy => Below.heap_alloc _ _ _ (HON.out y hy).2))
        have HBS := Lib.hid (show w.heap.size + 1 + 1 + 1 ≤ (wr.drew.alloc (.cells #[.slice ta kk tc] 170)).heap.size by rw [World.size_alloc]; show _ ≤ wr.heap.size + 1; omega)
        have HNE := Lib.hid (show (Value.slice oa xs.length ocap).ownBlock ≠ some (w.heap.size + 1 + 1) from fun e => by have := (HON.out _ e).1; omega)
        have c1 : (0 : Int) ≤ (kk : Int) := by omega
        have c2 : (kk : Int) ≤ (tc : Int) := by omega
        go_wp2_with fail
        go_region_law (first | (refine step_append_lies _ (by rfl) _ _ _ (by rfl) (w.heap.size + 1 + 1 + 1) 170 i0 _ 1 24 Try.underlying91 hi0 hz0 hz1 hz2 rfl (by omega) (.slice oa xs.length ocap) xs.length xs (by rfl) HOW2.out ⟨wr.heap.size, 0, none⟩ 1 1 [.slice ta kk tc] (by rfl) (by rfl) (World.news_of_block (cs := #[.slice ta kk tc]) (t := 170) (fr := (0, 0)) (heap_alloc_new wr.drew _)) (by simp [Value.oneCell']) (by omega) hmx1 hmx2 HBS.out (wr.heap.size + 1) (by simp) ?_; intro gg cap2 w2' hown2 hgrow2 hat2 hlt2; have p5 := grown_cell hgrow2 (alloc_cell _ o3) HNE.out; have q5 := grown_thaw hgrow2 (alloc_cell _ o3) (alloc_thaw _ o3 f3) HNE.out))
        all_goals
          have HN := Lib.hid (HI.out.step (ov' := .slice (some ⟨gg, 0, none⟩) (xs.length + 1) cap2) HOV.out (more_drew wr) hgrow2 hown2 (fun y hy => (HON.out y hy).1) (fun y hy => by
            have e : gg = y := by simpa [Value.ownBlock] using hy
            rcases hat2 with h | h
            · rw [← e]; exact (HON.out _ h).1
            · omega))
          clear hown2 hgrow2 hat2 hlt2 p5 q5
          go_wp2_with fail
          go_roundw
          case rel => exact ⟨k + 1, by omega, by go_num, Lib.hid (by rw [HTK.out]; exact HN.out)⟩
          case measure => simp [intOf]; omega
      · obtain rfl : k = k4 := by omega
        obtain ⟨ov, hov, how⟩ := HI.out.out
        obtain ⟨oa, ocap, rfl, hon⟩ := owns_shape how
        have HOW := Lib.hid how; clear how
        have HON := Lib.hid hon; clear hon
        have hxl : ((ts.take k).map cutV).length = k := by
          have h1 := HTS.out.1.1
          rw [List.length_map, List.length_take]; omega
        rw [hxl] at hov HOW HON
        clear hxl
        have z := HI.out.res
        have hs3 := HI.out.size
        have o0 : wr.cell? ⟨w.heap.size + 1 + 1, 0, none⟩ = some (.slice a1 k1 cap1) := by simp [World.cell?, hov]
        have o1 : wr.cell? ⟨w.heap.size + 1 + 1, 1, none⟩ = some (.slice a2 k2 cap2) := by simp [World.cell?, hov]
        have o2 : wr.cell? ⟨w.heap.size + 1 + 1, 2, none⟩ = some (.slice a3 k3 cap3) := by simp [World.cell?, hov]
        have o3 : wr.cell? ⟨w.heap.size + 1 + 1, 3, none⟩ = some (.slice oa k ocap) := by simp [World.cell?, hov]
        have o4 : wr.cell? ⟨w.heap.size + 1 + 1, 4, none⟩ = some (.int .i64 e.now) := by simp [World.cell?, hov]
        have z0 : wr.cell? ⟨w.heap.size + 1, 0, none⟩ = some (.slice none 0 0) := by simp [World.cell?, z]
        have z1 : wr.cell? ⟨w.heap.size + 1, 1, none⟩ = some (.slice none 0 0) := by simp [World.cell?, z]
        have z2 : wr.cell? ⟨w.heap.size + 1, 2, none⟩ = some (.slice none 0 0) := by simp [World.cell?, z]
        have z3 : wr.cell? ⟨w.heap.size + 1, 3, none⟩ = some (.slice none 0 0) := by simp [World.cell?, z]
        have z4 : wr.cell? ⟨w.heap.size + 1, 4, none⟩ = some (.int .i64 0) := by simp [World.cell?, z]
        have f0 := thaw z 0
        have f1 := thaw z 1
        have f2 := thaw z 2
        have f3 := thaw z 3
        have f4 := thaw z 4
        clear z hov
        go_wp2_with fail
        refine bodyPost_ret (v := .agg #[.slice a1 k1 cap1, .slice a2 k2 cap2, .slice a3 k3 cap3, .slice oa k ocap, .int .i64 e.now]) (by simp [results, Try.results50, go_sem, z0, z1, z2, z3, z4]) rfl ?_
        have hbf := set5_below (M := w.heap.size + 1) HI.out.below (Nat.le_succ _) (.slice a1 k1 cap1) (.slice a2 k2 cap2) (.slice a3 k3 cap3) (.slice oa k ocap) (.int .i64 e.now)
        refine ⟨hbf, .slice a1 k1 cap1, .slice a2 k2 cap2, .slice a3 k3 cap3, .slice oa k ocap, rfl, ?_⟩
        refine ⟨?_, ?_, ?_, ?_, ?_, ?_⟩
        · exact ((row_take8 HE.out.names HK1.out).below hbf).mono (fun _ h => Or.inl h) (fun _ _ _ _ h => h)
        · exact ((row_take8 HE.out.vals HK2.out).below hbf).mono (fun _ h => Or.inl h) (fun _ _ _ _ h => h)
        · exact ((row_take8 HE.out.tnames HK3.out).below hbf).mono (fun _ h => Or.inl h) (fun _ _ _ _ h => h)
        · have hl4 : (smallE e).tabs.length = k := by simp only [smallE, List.length_map, List.length_take]; have := HK4.out; omega
          refine ⟨(ts.take k).map cutV, ?_, fun i hi => ?_⟩
          · rw [hl4]
            refine (Row.of_owns HOW.out).mono (fun x hx => Or.inr (by have hx' : w.heap.size + 1 + 1 + 1 ≤ x := hx; omega)) (fun x o v hx hv => ?_)
            have hx' : w.heap.size + 1 + 1 + 1 ≤ x := hx
            exact (World.cell?_of_block (w := wr) (a := ⟨x, o, none⟩) (set5_heap wr (w.heap.size + 1) (.slice a1 k1 cap1) (.slice a2 k2 cap2) (.slice a3 k3 cap3) (.slice oa k ocap) (.int .i64 e.now) x (by omega))).trans hv
          · rw [hl4] at hi
            have hie : i < e.tabs.length := by omega
            obtain ⟨tv, h1, h2⟩ := HTS.out.2 i hie
            obtain ⟨ta, tc, rfl, htc⟩ := h2.shape
            refine ⟨.slice ta (min e.tabs[i].length 16) tc, by rw [List.getElem?_map, List.getElem?_take_of_lt hi, h1]; rfl, ?_⟩
            have e1 : (smallE e).tabs[i]'(by rw [hl4]; exact hi) = e.tabs[i].take 16 := by simp [smallE]
            rw [e1]
            have e2 : (e.tabs[i].take 16).length = min e.tabs[i].length 16 := by rw [List.length_take]; omega
            rw [e2, flat2_take', e2]
            exact ((h2.take (Nat.min_le_left _ _)).below hbf).mono (fun _ h => Or.inl h) (fun _ _ _ _ h => h)
        · simp only [smallE, List.length_take, List.length_map]
          refine ⟨by omega, by omega, by omega, by omega, fun t ht => ?_⟩
          obtain ⟨y, _, rfl⟩ := List.mem_map.1 ht
          rw [List.length_take]; omega
        · obtain ⟨n1, n2, n3⟩ := HE.out.nums
          refine ⟨n1, fun v hv => n2 v (List.mem_of_mem_take hv), fun t ht x hx => ?_⟩
          obtain ⟨y, hy, rfl⟩ := List.mem_map.1 ht
          exact n3 y (List.mem_of_mem_take hy) x (List.mem_of_mem_take hx)
end Go.Proofs.Ytekhoanjpnjaeaa
