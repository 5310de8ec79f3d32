/- slices.Compact (84), whole: the length of what remains, and that it writes its own block alone. -/
import Derived.Test.YtemeppfikpafbaaCac1
import Derived.Test.YtemeppfikpafbaaClrZ
namespace Go.Proofs.Ytemeppfikpafbaa
open Go.RowKit
/-- No two neighbours are equal. -/
def NEl (l : List M3) : Prop := ∀ j (h : j + 1 < l.length), l[j + 1] ≠ l[j]
theorem info54c : (Try.prog.info? 54).map (fun i => (i.zero, i.size, i.bytes)) = some (some (.agg #[.int .i64 0, .int .i64 0, .int .i64 0]), 3, 24) := by kernel_rfl
def zM : Value := .agg #[.int .i64 0, .int .i64 0, .int .i64 0]
theorem zero54 (w : World) : (zeroValue 54).run Try.prog w = .ok zM w := by kernel_rfl
/-- The own block g holds n messages, whatever they are. -/
def MsgB (W : World) (g cap n : Nat) : Prop := ∃ cur : Array Value, W.heap[g]? = some (.cells cur 54 (0, 0)) ∧ cur.size = cap * 3 ∧ ∀ i, i < n * 3 → ∃ x : Int, cur[i]? = some (.int .i64 x)
theorem MsgB.at {W : World} {g cap n i : Nat} (h : MsgB W g cap n) (hi : i < n) : ∃ y : M3, W.cell? ⟨g, i * 3, none⟩ = some (.int .i64 y.f) ∧ W.cell? ⟨g, i * 3 + 1, none⟩ = some (.int .i64 y.t) ∧ W.cell? ⟨g, i * 3 + 2, none⟩ = some (.int .i64 y.n) := by
  obtain ⟨cur, hb, _, hc⟩ := h
  obtain ⟨x0, h0⟩ := hc (i * 3) (by omega)
  obtain ⟨x1, h1⟩ := hc (i * 3 + 1) (by omega)
  obtain ⟨x2, h2⟩ := hc (i * 3 + 2) (by omega)
  exact ⟨⟨x0, x1, x2⟩, cell_of_blk hb h0, cell_of_blk hb h1, cell_of_blk hb h2⟩
theorem MsgB.keep {W W' : World} {g cap n : Nat} (h : MsgB W g cap n) (e : W'.heap[g]? = W.heap[g]?) : MsgB W' g cap n := by
  obtain ⟨cur, hb, hs, hc⟩ := h
  exact ⟨cur, e.trans hb, hs, hc⟩
theorem MsgB.set {W : World} {g cap n o : Nat} (h : MsgB W g cap n) (x : Int) : MsgB (W.setCell ⟨g, o, none⟩ (.int .i64 x)) g cap n := by
  obtain ⟨cur, hb, hs, hc⟩ := h
  refine ⟨_, setCell_heap hb, by rw [Array.size_setIfInBounds]; exact hs, fun i hi => ?_⟩
  obtain ⟨y, hy⟩ := hc i hi
  by_cases e : i = o
  · subst e
    exact ⟨x, Array.getElem?_setIfInBounds_self_of_lt (Array.getElem?_eq_some_iff.1 hy).1⟩
  · exact ⟨y, by rw [Array.getElem?_setIfInBounds_ne (fun e' => e e'.symm)]; exact hy⟩
theorem MsgB.thaw {W : World} {g cap n : Nat} (h : MsgB W g cap n) (o : Nat) : W.frozen? ⟨g, o, none⟩ = false := by
  obtain ⟨cur, hb, _, _⟩ := h
  exact Go.Proofs.Ytemeppfikpafbaa.thaw hb o
set_option maxRecDepth 100000 in
set_option maxHeartbeats 4000000 in
theorem compact2_any (l : List M3) (v : Value) (B : Nat) (w : World) (hl : l.length ≤ 100000) (hown : w.ownsRow B 54 3 v l.length (flatC mC l)) :
    Calls Try.prog 84 #[v] w fun e w' => ∃ n a cap, e = .returned (.slice a n cap) ∧ w.grownBy w' v.ownBlock ∧ (NEl l → n = l.length) ∧ (¬ NEl l → n < l.length) := by
  by_cases hne : NEl l
  · obtain ⟨a, cap, rfl, _⟩ := owns_shape hown
    refine (compact_any l _ w hl hne ((Row.of_owns hown).mono (fun _ _ => trivial) (fun _ _ _ _ h => h))).mono ?_
    rintro e w' ⟨rfl, hl'⟩
    refine ⟨_, _, _, rfl, ?_, fun _ => rfl, fun h => absurd hne h⟩
    have h0 := hl'.1
    exact ⟨h0.os, h0.tape, h0.output, h0.size, fun k hk _ => h0.block hk⟩
  · obtain ⟨_, ⟨rfl, h0⟩ | ⟨g, cap, cur, rfl, hBg, hg, hnc, hcm, hcs, htk⟩⟩ := id hown
    · exact absurd (fun j h => by omega) hne
    have h2' : 2 ≤ l.length := by
      rcases Nat.lt_or_ge l.length 2 with h | h
      · exact absurd (fun j h' => by omega) hne
      · exact h
    have HR := Lib.hid (show Row anyB w 3 l.length (.slice (some ⟨g, 0, none⟩) l.length cap) (flatC mC l) from (Row.of_owns hown).mono (fun _ _ => trivial) (fun _ _ _ _ h => h))
    have HMB := Lib.hid (show MsgB w g cap l.length from ⟨cur, hg, hcs, fun i hi => by
      have hlen : (flatC mC l).length = l.length * 3 := flatC_len mC_len l
      have hi' : i < (flatC mC l).length := by omega
      have hu := List.getElem?_eq_getElem hi'
      have hin := List.getElem_mem hi'
      unfold flatC at hin
      obtain ⟨x, _, hx⟩ := List.mem_flatMap.1 hin
      have hx' : ∃ y : Int, (flatC mC l)[i]? = some (.int .i64 y) := by
        rw [hu]
        simp only [mC, List.mem_cons, List.not_mem_nil, or_false] at hx
        rcases hx with e | e | e
        · exact ⟨_, congrArg some e⟩
        · exact ⟨_, congrArg some e⟩
        · exact ⟨_, congrArg some e⟩
      obtain ⟨y, hy⟩ := hx'
      refine ⟨y, ?_⟩
      rw [← htk, List.getElem?_take, if_pos hi, Array.getElem?_toList] at hy
      exact hy⟩)
    have HNE := Lib.hid hne; clear hne hown hg htk
    have HLL := Lib.hid hl
    have HCS := Lib.hid (show cap ≤ maxLen from hcm)
    have t2 : decide ((l.length : Int) < 2) = false := by simp; omega
    clear hcs hcm cur hBg
    go_enter Try.func84, Try.ntmps84
    go_wp2_with fail
    go_loopw [3] (fun i wr => ∃ j : Nat, i = .int .i64 ((j + 1 : Nat) : Int) ∧ Hid (j + 1 ≤ l.length) ∧ Hid (Lay w wr) ∧ Hid (∀ i (h : i + 1 < l.length), i < j → l[i + 1] ≠ l[i])) (fun i _ => l.length - (intOf i).toNat)
    case atStart => exact ⟨0, rfl, Lib.hid (by omega), Lib.hid (Lay.refl _), Lib.hid (fun i h hi => by omega)⟩
    case round =>
    obtain ⟨j, rfl, HJ, HMy, HNJ⟩ := hrel
    by_cases hlt : j + 1 < l.length
    · have hjl : j < l.length := by omega
      obtain ⟨b, off, hab, _, hc⟩ := HR.out.atC mC_len hlt
      cases hab
      have g0 := HMy.out.1.cell (hc 0 (.int .i64 l[j + 1].f) rfl)
      have g1 := HMy.out.1.cell (hc 1 (.int .i64 l[j + 1].t) rfl)
      have g2 := HMy.out.1.cell (hc 2 (.int .i64 l[j + 1].n) rfl)
      rw [Nat.add_zero] at g0
      rw [Nat.zero_add] at g0 g1 g2
      clear hc
      obtain ⟨b', off', hab, _, hc⟩ := HR.out.atC mC_len hjl
      cases hab
      have e0 := HMy.out.1.cell (hc 0 (.int .i64 l[j].f) rfl)
      have e1 := HMy.out.1.cell (hc 1 (.int .i64 l[j].t) rfl)
      have e2 := HMy.out.1.cell (hc 2 (.int .i64 l[j].n) rfl)
      rw [Nat.add_zero] at e0
      rw [Nat.zero_add] at e0 e1 e2
      clear hc
      have HNS := Lib.hid (show l[j + 1] ≠ l[j] → ∀ i (h : i + 1 < l.length), i < j + 1 → l[i + 1] ≠ l[i] from fun hd i h hi => by
        rcases Nat.lt_or_ge i j with hij | hij
        · exact HNJ.out i h hij
        · obtain rfl : i = j := by omega
          exact hd)
      generalize l[j + 1] = x at *
      generalize l[j] = y at *
      have heq := fun W => run_eqM x y W
      have hwj : IntKind.i64.wrap (j : Int) = j := by rw [IntKind.wrap_i64]; omega
      have hbg := cell_lt g0
      by_cases hxy : x = y
      · rw [decide_eq_true hxy] at heq
        clear hxy HNS
        go_upto_region 6 with (fail)
        go_quiet (fail)
        have HMQ := Lib.hid (HMy.out.trans (Lay.drewN wr nq))
        clear g0 g1 g2 e0 e1 e2 heq hbg
        obtain ⟨wo, hwo⟩ : ∃ wo : World, wo = wr.drewN nq := ⟨_, rfl⟩
        rw [← hwo] at HMQ ⊢
        clear hwo
        have HG0 := Lib.hid (show w.grownBy wo (some g) from ⟨HMQ.out.1.os, HMQ.out.1.tape, HMQ.out.1.output, HMQ.out.1.size, fun k hk _ => HMQ.out.1.block hk⟩)
        have HMB0 := Lib.hid (HMB.out.keep (HMQ.out.1.block (by obtain ⟨cur, hb, _⟩ := HMB.out; exact blk_lt hb)))
        have hjc : j + 1 < cap := by omega
        obtain ⟨k, hk⟩ : ∃ k, j + 1 = k := ⟨_, rfl⟩
        have hk0 : 0 < k := by omega
        rw [hk] at hlt hjc ⊢
        clear hk hwj hjl HJ HNJ
        go_wp2_with fail
        go_loopw [3, 5] (fun i i2 wr => ∃ kk q : Nat, i = .int .i64 (kk : Int) ∧ i2 = .int .i64 ((q + 1 : Nat) : Int) ∧ k + q + 1 ≤ l.length ∧ kk ≤ k + q ∧ Hid (w.grownBy wr (some g)) ∧ Hid (MsgB wr g cap l.length)) (fun _ i2 _ => l.length - (intOf i2).toNat)
        case atStart => exact ⟨k, 0, rfl, rfl, by omega, by omega, HG0, HMB0⟩
        case round =>
          obtain ⟨kk, q, rfl, rfl, hq, hkq, HG, HB⟩ := hrel
          have hwq : IntKind.i64.wrap (q : Int) = q := by rw [IntKind.wrap_i64]; omega
          by_cases hlt2 : k + q + 1 < l.length
          · obtain ⟨x, x0, x1, x2⟩ := HB.out.at (i := k + q + 1) (by omega)
            obtain ⟨y, y0, y1, y2⟩ := HB.out.at (i := k + q) (by omega)
            obtain ⟨z, z0, z1, z2⟩ := HB.out.at (i := kk) (by omega)
            rw [show (k + q + 1) * 3 = k * 3 + (q + 1) * 3 by omega] at x0 x1 x2
            rw [show (k + q) * 3 = k * 3 + q * 3 by omega] at y0 y1 y2
            have f0 := HB.out.thaw (kk * 3)
            have f1 := HB.out.thaw (kk * 3 + 1)
            have f2 := HB.out.thaw (kk * 3 + 2)
            have heq := fun W => run_neM x y W
            have hbg := cell_lt x0
            by_cases hxy : x = y
            · rw [decide_eq_true hxy] at heq
              clear hxy
              go_upto_region 11 with (fail)
              go_quiet (fail)
              go_wp2_with fail
              go_roundw
              case rel => exact ⟨kk, q + 1, rfl, by go_num, by omega, by omega, Lib.hid (grownBy_trans HG.out (grownBy_drewN wr nq _)), HB⟩
              case measure => simp [intOf]; omega
            · rw [decide_eq_false hxy] at heq
              clear hxy
              go_upto_region 11 with (fail)
              go_quiet (fail)
              go_wp2_with fail
              go_roundw
              case rel => exact ⟨kk + 1, q + 1, by go_num, by go_num, by omega, by omega, Lib.hid (grownBy_trans (b := wr.drewN nq) (grownBy_trans HG.out (grownBy_drewN wr nq _)) (setC_grown (wr.drewN nq) g (kk * 3) [.int .i64 x.f, .int .i64 x.t, .int .i64 x.n])), Lib.hid (MsgB.set (MsgB.set (MsgB.set HB.out x.f) x.t) x.n)⟩
              case measure => simp [intOf]; omega
          · obtain rfl : q = l.length - k - 1 := by omega
            obtain ⟨cur, hb, hs, hc⟩ := HB.out
            have HCUR := Lib.hid hc
            clear hc
            have hkc : kk < cap := by omega
            have hkl : kk < l.length := by omega
            have hcl : ∀ ty, (Builtin.clear_ #[28] ty #[.slice (some ⟨g, kk * 3, none⟩) (l.length - kk) (cap - kk)]).run Try.prog wr = .ok (.tuple #[]) (wr.setCells g (kk * 3) (Builtin.zeroCells zM.cells (l.length - kk)).toList) := fun ty =>
              run_clear_cells wr 28 54 ty zM Try.underlying28 zero54 3 (by simp [zM, Value.cells]) (by simp [zM, Value.cells, Value.oneCell']) g (kk * 3) (l.length - kk) (cap - kk) (by omega) (fun j hj => by
                have hj' : kk * 3 + j < cur.size := by rw [hs]; omega
                rw [cell_of_blk hb (Array.getElem?_eq_getElem hj')]; rfl) (fun j _ => thaw hb _)
            generalize (Builtin.zeroCells zM.cells (l.length - kk)).toList = zs at hcl
            clear hb hs
            go_wp2_with fail
            go_ret
            exact ⟨kk, _, _, rfl, grownBy_trans HG.out (setCells_grown _ _ _ _), fun h => absurd h HNE.out, fun _ => hkl⟩
      · rw [decide_eq_false hxy] at heq
        have HN2 := Lib.hid (HNS.out hxy)
        clear hxy HNS
        go_upto_region 6 with (fail)
        go_quiet (fail)
        go_wp2_with fail
        go_roundw
        case rel => exact ⟨j + 1, by go_num, Lib.hid (by omega), Lib.hid (HMy.out.trans (Lay.drewN wr nq)), HN2⟩
        case measure => simp [intOf]; omega
    · exact absurd (fun i h => HNJ.out i h (by omega)) HNE.out
end Go.Proofs.Ytemeppfikpafbaa
