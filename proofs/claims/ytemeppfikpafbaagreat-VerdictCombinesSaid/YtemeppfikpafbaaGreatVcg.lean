/- Texts InsG, RankP, laid together. -/
import Derived.Deep.RegionHeld3
import Derived.Deep.QuietTactic
import Derived.BigQuiet
import Derived.Test.YtemeppfikpafbaaGreatVcd
/- slices.insertionSortCmpFunc at found causes (84), by ranks. -/
namespace Go.Proofs.YtemeppfikpafbaaGreat
open Go.RowKit Go.Sort
set_option maxHeartbeats 4000000 in
set_option maxRecDepth 100000 in
theorem insG_any (CP : Nat) (G : Int × Int → Fnd) (P : Int × Int → Prop) (cf : Int × Int → Int × Int → Int) (d : Array (Int × Int)) (B off cap a b : Nat) (w : World) (hab : a ≤ b) (hb : b ≤ d.size) (hsz : d.size < 4294967296) (hH : HoldC (gC G) 3 w B off d) (hP : ∀ i, i < d.size → P d[i]!)
    (hcmp : ∀ (x y : Int × Int) (W : World), P x → P y → w.grownBy W (some B) → Calls Tryz.prog 33 #[.agg #[.slice (G x).ua (G x).un (G x).uc, .slice (G x).ha (G x).hn (G x).hc, .int .i64 (G x).n], .agg #[.slice (G y).ua (G y).un (G y).uc, .slice (G y).ha (G y).hn (G y).hc, .int .i64 (G y).n], .pointer (some ⟨CP, 0, none⟩)] W fun e w' => e = .returned (.int .i64 (cf x y)) ∧ More W w') :
    Calls Tryz.prog 84 #[.slice (some ⟨B, off, none⟩) d.size cap, .int .i64 a, .int .i64 b, .func (.func 33) #[] #[.pointer (some ⟨CP, 0, none⟩)]] w fun e w' => e = .returned (.tuple #[]) ∧ w.grownBy w' (some B) ∧ HoldC (gC G) 3 w' B off (insertionSort (ltOf cf) d a b) := by
  have HH := Lib.hid hH; clear hH
  have HPD := Lib.hid hP; clear hP
  go_enter Tryz.func84, Tryz.ntmps84
  go_wp2_with fail
  go_loopw [8] (fun vi wr => ∃ (i : Nat) (dk : Array (Int × Int)), vi = .int .i64 i ∧ a < i ∧ i ≤ b + 1 ∧ Hid (w.grownBy wr (some B)) ∧ Hid (HoldC (gC G) 3 wr B off dk) ∧ Hid ((dk.size = d.size ∧ insOuter (ltOf cf) a b i dk = insertionSort (ltOf cf) d a b) ∧ ∀ i, i < dk.size → P dk[i]!)) (fun i _ => b - (intOf i).toNat)
  case atStart => exact ⟨a + 1, d, by go_num, by omega, by omega, Lib.hid (World.grownBy.refl _ _), HH, Lib.hid ⟨⟨rfl, rfl⟩, HPD.out⟩⟩
  case round =>
    obtain ⟨i, dk, rfl, hai, hib, HG, HK, HE⟩ := hrel
    obtain ⟨wo, rfl⟩ : ∃ wo : World, wo = wr := ⟨_, rfl⟩
    by_cases hlt : i < b
    · go_wp2_with fail
      go_loopw [9] (fun vj wr => ∃ (j : Nat) (dj : Array (Int × Int)), vj = .int .i64 j ∧ a ≤ j ∧ j ≤ i ∧ Hid (w.grownBy wr (some B)) ∧ Hid (HoldC (gC G) 3 wr B off dj) ∧ Hid ((dj.size = d.size ∧ insOuter (ltOf cf) a b (i + 1) (insInner (ltOf cf) a j dj) = insertionSort (ltOf cf) d a b) ∧ ∀ i, i < dj.size → P dj[i]!)) (fun j _ => (intOf j).toNat)
      case atStart => exact ⟨i, dk, rfl, by omega, Nat.le_refl _, HG, HK, Lib.hid ⟨⟨HE.out.1.1, by rw [← HE.out.1.2, insOuter_go a b i dk hlt]⟩, HE.out.2⟩⟩
      case round =>
        obtain ⟨j, dj, rfl, haj, hji, HGJ, HJ, HEJ⟩ := hrel
        by_cases hja : a < j
        · obtain ⟨jp, rfl⟩ : ∃ jp, j = jp + 1 := ⟨j - 1, by omega⟩
          have hs := HEJ.out.1.1
          have c1 := HJ.out (jp + 1) (by omega)
          have c2 := HJ.out jp (by omega)
          have HPX := Lib.hid (HEJ.out.2 (jp + 1) (by omega))
          have HPY := Lib.hid (HEJ.out.2 jp (by omega))
          have HPS := Lib.hid (insSort_mem (P := P) HEJ.out.2 (i := jp + 1) (j := jp) (by omega) (by omega))
          have HN := Lib.hid (fun (w' : World) (h : w'.heap[B]? = wr.heap[B]?) => (HJ.out.keep h).swap (gC_len G) (i := jp + 1) (j := jp) (by omega) (by omega))
          have HX := Lib.hid (show (ltOf cf dj[jp + 1]! dj[jp]! = true → insInner (ltOf cf) a (jp + 1) dj = insInner (ltOf cf) a jp (swp dj (jp + 1) jp)) ∧ (ltOf cf dj[jp + 1]! dj[jp]! = false → insInner (ltOf cf) a (jp + 1) dj = dj) from ⟨insInner_go a jp dj hja, insInner_stop a jp dj⟩)
          clear hs
          generalize hx : dj[jp + 1]! = x at *
          generalize hy : dj[jp]! = y at *
          clear hx hy
          obtain ⟨p0, f0⟩ := c1 0 (.slice (G x).ua (G x).un (G x).uc) rfl
          obtain ⟨p1, f1⟩ := c1 1 (.slice (G x).ha (G x).hn (G x).hc) rfl
          obtain ⟨p2, f2⟩ := c1 2 (.int .i64 (G x).n) rfl
          obtain ⟨q0, f3⟩ := c2 0 (.slice (G y).ua (G y).un (G y).uc) rfl
          obtain ⟨q1, f4⟩ := c2 1 (.slice (G y).ha (G y).hn (G y).hc) rfl
          obtain ⟨q2, f5⟩ := c2 2 (.int .i64 (G y).n) rfl
          have hsz' : (jp : Int) + 1 < d.size := by omega
          have hBr : B < wr.heap.size := cell_lt p0
          clear c1 c2
          by_cases hc : cf x y < 0
          · have t1 : decide (cf x y < 0) = true := decide_eq_true hc
            have HC := Lib.hid (show ltOf cf x y = true by unfold ltOf; exact t1)
            clear hc
            have s0 : wr.drew.cell? ⟨B, off + (jp + 1) * 3, none⟩ = some (.slice (G x).ua (G x).un (G x).uc) := p0
            have s1 : wr.drew.cell? ⟨B, off + (jp + 1) * 3 + 1, none⟩ = some (.slice (G x).ha (G x).hn (G x).hc) := p1
            have s2 : wr.drew.cell? ⟨B, off + (jp + 1) * 3 + 2, none⟩ = some (.int .i64 (G x).n) := p2
            have s3 : wr.drew.cell? ⟨B, off + jp * 3, none⟩ = some (.slice (G y).ua (G y).un (G y).uc) := q0
            have s4 : wr.drew.cell? ⟨B, off + jp * 3 + 1, none⟩ = some (.slice (G y).ha (G y).hn (G y).hc) := q1
            have s5 : wr.drew.cell? ⟨B, off + jp * 3 + 2, none⟩ = some (.int .i64 (G y).n) := q2
            go_wp2_with fail
            have hwp : IntKind.i64.wrap (jp : Int) = (jp : Int) := by rw [IntKind.wrap_i64]; omega
            have jz1 : (jp : Int) < (d.size : Int) := by omega
            have hjaz' : (a : Int) < (jp : Int) + 1 := by omega
            have z0 : (0 : Int) ≤ (jp : Int) + 1 := by omega
            have e0 : ((jp : Int) + 1).toNat = jp + 1 := by omega
            go_region_held3 (fun wx => wx.cell? ⟨B, off + (jp + 1) * 3, none⟩ = some (.slice (G x).ua (G x).un (G x).uc) ∧ wx.cell? ⟨B, off + (jp + 1) * 3 + 1, none⟩ = some (.slice (G x).ha (G x).hn (G x).hc) ∧ wx.cell? ⟨B, off + (jp + 1) * 3 + 2, none⟩ = some (.int .i64 (G x).n) ∧ wx.cell? ⟨B, off + jp * 3, none⟩ = some (.slice (G y).ua (G y).un (G y).uc) ∧ wx.cell? ⟨B, off + jp * 3 + 1, none⟩ = some (.slice (G y).ha (G y).hn (G y).hc) ∧ wx.cell? ⟨B, off + jp * 3 + 2, none⟩ = some (.int .i64 (G y).n)) (first | with_reducible exact ⟨s0, s1, s2, s3, s4, s5⟩ | with_reducible exact ⟨k0, k1, k2, k3, k4, k5⟩) (first | (go_at_call 33; refine (hcmp x y _ HPX.out HPY.out (grownBy_more HGJ.out (more_drew wr))).mono ?_; rintro e w1 ⟨rfl, hw1⟩; have k0 := hw1.cell s0; have k1 := hw1.cell s1; have k2 := hw1.cell s2; have k3 := hw1.cell s3; have k4 := hw1.cell s4; have k5 := hw1.cell s5))
            clear hwp e0
            have g0 := more_frozen hw1 (o := off + (jp + 1) * 3) hBr f0
            have g1 := more_frozen hw1 (o := off + (jp + 1) * 3 + 1) hBr f1
            have g2 := more_frozen hw1 (o := off + (jp + 1) * 3 + 2) hBr f2
            have g3 := more_frozen hw1 (o := off + jp * 3) hBr f3
            have g4 := more_frozen hw1 (o := off + jp * 3 + 1) hBr f4
            have g5 := more_frozen hw1 (o := off + jp * 3 + 2) hBr f5
            have hN2 := HN.out w1 (hw1.block hBr)
            rw [show gC G x = [.slice (G x).ua (G x).un (G x).uc, .slice (G x).ha (G x).hn (G x).hc, .int .i64 (G x).n] from rfl, show gC G y = [.slice (G y).ua (G y).un (G y).uc, .slice (G y).ha (G y).hn (G y).hc, .int .i64 (G y).n] from rfl, setC3, setC3] at hN2
            have HN2 := Lib.hid hN2.drew
            have hG2 := grownBy_trans (grownBy_more (grownBy_more HGJ.out (more_drew wr)) hw1) (setC2_grown w1 B (off + (jp + 1) * 3) (off + jp * 3) [.slice (G y).ua (G y).un (G y).uc, .slice (G y).ha (G y).hn (G y).hc, .int .i64 (G y).n] [.slice (G x).ua (G x).un (G x).uc, .slice (G x).ha (G x).hn (G x).hc, .int .i64 (G x).n])
            rw [setC3, setC3] at hG2
            have HG2 := Lib.hid (grownBy_more hG2 (more_drew _))
            have HS2 := Lib.hid (show ((swp dj (jp + 1) jp).size = d.size ∧ insOuter (ltOf cf) a b (i + 1) (insInner (ltOf cf) a jp (swp dj (jp + 1) jp)) = insertionSort (ltOf cf) d a b) ∧ ∀ i, i < (swp dj (jp + 1) jp).size → P (swp dj (jp + 1) jp)[i]! from ⟨⟨by rw [size_swp]; exact HEJ.out.1.1, by rw [← HX.out.1 HC.out]; exact HEJ.out.1.2⟩, HPS.out⟩)
            clear hw1 hN2 hG2 p0 p1 p2 q0 q1 q2 s0 s1 s2 s3 s4 s5 f0 f1 f2 f3 f4 f5
            go_wp2_with fail
            go_region
            go_wp2_with fail
            go_roundw
            case rel => exact ⟨jp, swp dj (jp + 1) jp, by go_num, by omega, by omega, HG2, HN2, HS2⟩
            case measure => simp [intOf]
          · have t1 : decide (cf x y < 0) = false := decide_eq_false hc
            have HC := Lib.hid (show ltOf cf x y = false by unfold ltOf; exact t1)
            clear hc
            have s0 : wr.drew.cell? ⟨B, off + (jp + 1) * 3, none⟩ = some (.slice (G x).ua (G x).un (G x).uc) := p0
            have s1 : wr.drew.cell? ⟨B, off + (jp + 1) * 3 + 1, none⟩ = some (.slice (G x).ha (G x).hn (G x).hc) := p1
            have s2 : wr.drew.cell? ⟨B, off + (jp + 1) * 3 + 2, none⟩ = some (.int .i64 (G x).n) := p2
            have s3 : wr.drew.cell? ⟨B, off + jp * 3, none⟩ = some (.slice (G y).ua (G y).un (G y).uc) := q0
            have s4 : wr.drew.cell? ⟨B, off + jp * 3 + 1, none⟩ = some (.slice (G y).ha (G y).hn (G y).hc) := q1
            have s5 : wr.drew.cell? ⟨B, off + jp * 3 + 2, none⟩ = some (.int .i64 (G y).n) := q2
            go_wp2_with fail
            have hwp : IntKind.i64.wrap (jp : Int) = (jp : Int) := by rw [IntKind.wrap_i64]; omega
            have jz1 : (jp : Int) < (d.size : Int) := by omega
            have hjaz' : (a : Int) < (jp : Int) + 1 := by omega
            have z0 : (0 : Int) ≤ (jp : Int) + 1 := by omega
            have e0 : ((jp : Int) + 1).toNat = jp + 1 := by omega
            go_region_held3 (fun wx => wx.cell? ⟨B, off + (jp + 1) * 3, none⟩ = some (.slice (G x).ua (G x).un (G x).uc) ∧ wx.cell? ⟨B, off + (jp + 1) * 3 + 1, none⟩ = some (.slice (G x).ha (G x).hn (G x).hc) ∧ wx.cell? ⟨B, off + (jp + 1) * 3 + 2, none⟩ = some (.int .i64 (G x).n) ∧ wx.cell? ⟨B, off + jp * 3, none⟩ = some (.slice (G y).ua (G y).un (G y).uc) ∧ wx.cell? ⟨B, off + jp * 3 + 1, none⟩ = some (.slice (G y).ha (G y).hn (G y).hc) ∧ wx.cell? ⟨B, off + jp * 3 + 2, none⟩ = some (.int .i64 (G y).n)) (first | with_reducible exact ⟨s0, s1, s2, s3, s4, s5⟩ | with_reducible exact ⟨k0, k1, k2, k3, k4, k5⟩) (first | (go_at_call 33; refine (hcmp x y _ HPX.out HPY.out (grownBy_more HGJ.out (more_drew wr))).mono ?_; rintro e w1 ⟨rfl, hw1⟩; have k0 := hw1.cell s0; have k1 := hw1.cell s1; have k2 := hw1.cell s2; have k3 := hw1.cell s3; have k4 := hw1.cell s4; have k5 := hw1.cell s5))
            clear hwp e0
            have HG2 := Lib.hid (grownBy_more (grownBy_more HGJ.out (more_drew wr)) hw1)
            have HN2 := Lib.hid (HJ.out.keep (hw1.block hBr))
            have HS2 := Lib.hid (show (dj.size = d.size ∧ insOuter (ltOf cf) a b (i + 1) dj = insertionSort (ltOf cf) d a b) ∧ ∀ i, i < dj.size → P dj[i]! from ⟨⟨HEJ.out.1.1, by rw [← HEJ.out.1.2, HX.out.2 HC.out]⟩, HEJ.out.2⟩)
            clear hw1 p0 p1 p2 q0 q1 q2 s0 s1 s2 s3 s4 s5 f0 f1 f2 f3 f4 f5 k0 k1 k2 k3 k4 k5
            go_wp2_with fail
            go_roundw
            case rel => exact ⟨i + 1, dj, by go_num, by omega, by omega, HG2, HN2, HS2⟩
            case measure => simp [intOf]; omega
        · have t0 : decide (a < j) = false := by simpa using hja
          have HS2 := Lib.hid (show (dj.size = d.size ∧ insOuter (ltOf cf) a b (i + 1) dj = insertionSort (ltOf cf) d a b) ∧ ∀ i, i < dj.size → P dj[i]! from ⟨⟨HEJ.out.1.1, by rw [← HEJ.out.1.2, insInner_no a j dj hja]⟩, HEJ.out.2⟩)
          go_wp2_with fail
          go_quiet (fail)
          go_wp2_with fail
          go_roundw
          case rel => exact ⟨i + 1, dj, by go_num, by omega, by omega, Lib.hid (grownBy_trans HGJ.out (grownBy_drewN _ _ _)), Lib.hid (HJ.out.keep rfl), HS2⟩
          case measure => simp [intOf]; omega
    · have hE : dk = insertionSort (ltOf cf) d a b := by rw [← HE.out.1.2, insOuter_stop a b i dk hlt]
      have HE' := Lib.hid hE; clear hE
      go_wp2_with fail
      go_end0
      exact ⟨rfl, HG.out, by rw [← HE'.out]; exact HK.out⟩
end Go.Proofs.YtemeppfikpafbaaGreat

/- Plain laws of ranks: the least size of a cause that has a key; the sorted shares. -/
namespace Go.Proofs.YtemeppfikpafbaaGreat
open Go.RowKit Go.Sort Go.Shelf
/-- What ratio.Cmp answers. -/
def cmpR (x y : Int × Int) : Int := cmpI ((oneR x).1 * (oneR y).2) ((oneR y).1 * (oneR x).2)
theorem degR_ok {n : Nat} (h : n ≤ 1000) : OkR (degR n) := by
  unfold degR OkR
  split
  · right; left; rfl
  · right; right
    refine ⟨rfl, ?_, ?_⟩
    · show (1 : Int) ≤ n; omega
    · show (n : Int) ≤ 1000; omega
theorem oneR_deg (n : Nat) : oneR (degR n) = degR n := by
  unfold degR oneR
  split <;> simp
theorem degR_inj {m n : Nat} (h : degR m = degR n) : m = n := by
  unfold degR at h
  split at h <;> split at h <;> simp at h <;> omega
/-- The order of degrees is the one of their denominators, turned; 0 is the least degree. -/
theorem cmpR_pos (m n : Nat) : 0 < cmpR (degR m) (degR n) ↔ 0 < m ∧ (n = 0 ∨ m < n) := by
  unfold cmpR
  rw [oneR_deg, oneR_deg]
  unfold degR cmpI
  by_cases hm : m = 0 <;> by_cases hn : n = 0 <;> simp [hm, hn]
  · omega
  · split
    · omega
    · split <;> omega
theorem cmpR_zero (m n : Nat) : cmpR (degR m) (degR n) = 0 ↔ m = n := by
  unfold cmpR
  rw [oneR_deg, oneR_deg]
  unfold degR cmpI
  by_cases hm : m = 0 <;> by_cases hn : n = 0 <;> simp [hm, hn]
  · omega
  · split
    · omega
    · split <;> omega
theorem cmpR_neg (m n : Nat) : cmpR (degR m) (degR n) < 0 ↔ 0 < n ∧ (m = 0 ∨ n < m) := by
  unfold cmpR
  rw [oneR_deg, oneR_deg]
  unfold degR cmpI
  by_cases hm : m = 0 <;> by_cases hn : n = 0 <;> simp [hm, hn]
  · omega
  · split
    · omega
    · split <;> omega
theorem cmpR_none (m : Nat) : cmpR (degR m) (0, 0) = cmpR (degR m) (degR 0) := by
  unfold cmpR
  rw [show oneR (0, 0) = oneR (degR 0) from rfl]
/-- Two ascending lists with the same elements are one. -/
theorem asc_unique {α : Type} {lt : α → α → Prop} (hi : ∀ x, ¬ lt x x) (ht : ∀ x y z, lt x y → lt y z → lt x z) : ∀ {l m : List α}, l.Pairwise lt → m.Pairwise lt → (∀ x, x ∈ l ↔ x ∈ m) → l = m
  | [], [], _, _, _ => rfl
  | [], y :: m, _, _, h => by have := (h y).2 (by simp); simp at this
  | x :: l, [], _, _, h => by have := (h x).1 (by simp); simp at this
  | x :: l, y :: m, hl, hm, h => by
    rw [List.pairwise_cons] at hl hm
    have hxy : x = y := by
      rcases List.mem_cons.1 ((h x).1 (by simp)) with e | e
      · exact e
      · rcases List.mem_cons.1 ((h y).2 (by simp)) with e' | e'
        · exact e'.symm
        · exact absurd (ht _ _ _ (hm.1 x e) (hl.1 y e')) (hi _)
    subst hxy
    rw [asc_unique hi ht hl.2 hm.2 (fun z => ?_)]
    constructor
    · intro hz
      rcases List.mem_cons.1 ((h z).1 (List.mem_cons_of_mem _ hz)) with e | e
      · subst e; exact absurd (hl.1 z hz) (hi _)
      · exact e
    · intro hz
      rcases List.mem_cons.1 ((h z).2 (List.mem_cons_of_mem _ hz)) with e | e
      · subst e; exact absurd (hm.1 z hz) (hi _)
      · exact e
/-- An element is put in its place, unless it is there. -/
def insS {α : Type} [DecidableEq α] (lt : α → α → Bool) (k : α) : List α → List α
  | [] => [k]
  | x :: r => if x = k then x :: r else if lt k x then k :: x :: r else x :: insS lt k r
/-- One step of the loop that does so: what has been appended, whether k has its place. -/
def stS {α : Type} [DecidableEq α] (lt : α → α → Bool) (k : α) (s : List α × Bool) (x : α) : List α × Bool :=
  if s.2 = true ∨ x = k then (s.1 ++ [x], true) else if lt k x then (s.1 ++ [k, x], true) else (s.1 ++ [x], false)
theorem stS_done {α : Type} [DecidableEq α] (lt : α → α → Bool) (k : α) : ∀ (l n : List α), l.foldl (stS lt k) (n, true) = (n ++ l, true)
  | [], n => by simp
  | x :: r, n => by
    rw [List.foldl_cons, show stS lt k (n, true) x = (n ++ [x], true) by unfold stS; simp, stS_done]
    simp
theorem stS_ins {α : Type} [DecidableEq α] (lt : α → α → Bool) (k : α) : ∀ (l n : List α), (if (l.foldl (stS lt k) (n, false)).2 then (l.foldl (stS lt k) (n, false)).1 else (l.foldl (stS lt k) (n, false)).1 ++ [k]) = n ++ insS lt k l
  | [], n => by simp [insS]
  | x :: r, n => by
    rw [List.foldl_cons]
    unfold insS
    by_cases h1 : x = k
    · rw [show stS lt k (n, false) x = (n ++ [x], true) by unfold stS; simp [h1], stS_done, if_pos h1]
      simp
    · by_cases h2 : lt k x = true
      · rw [show stS lt k (n, false) x = (n ++ [k, x], true) by unfold stS; simp [h1, h2], stS_done, if_neg h1, if_pos h2]
        simp
      · rw [show stS lt k (n, false) x = (n ++ [x], false) by unfold stS; simp [h1, h2], stS_ins lt k r, if_neg h1, if_neg h2]
        simp
theorem mem_insS {α : Type} [DecidableEq α] {lt : α → α → Bool} {k : α} : ∀ (l : List α) (x : α), x ∈ insS lt k l ↔ x = k ∨ x ∈ l
  | [], x => by simp [insS]
  | y :: r, x => by
    unfold insS
    split
    · rename_i h; subst h; simp
    · split
      · simp
      · rw [List.mem_cons, mem_insS r x, List.mem_cons]
        constructor
        · rintro (h | h | h)
          · exact Or.inr (Or.inl h)
          · exact Or.inl h
          · exact Or.inr (Or.inr h)
        · rintro (h | h | h)
          · exact Or.inr (Or.inl h)
          · exact Or.inl h
          · exact Or.inr (Or.inr h)
theorem insS_asc {α : Type} [DecidableEq α] {lt : α → α → Bool} {L : α → α → Prop} (hL : ∀ x y, lt x y = true ↔ L x y) (ht : ∀ x y z, L x y → L y z → L x z) (tri : ∀ x y, ¬ L x y → ¬ L y x → x = y) {k : α} : ∀ {l : List α}, l.Pairwise L → (insS lt k l).Pairwise L
  | [], _ => by simp [insS]
  | y :: r, h => by
    unfold insS
    rw [List.pairwise_cons] at h
    split
    · exact List.pairwise_cons.2 h
    · rename_i hne
      split
      · rename_i hlt
        refine List.pairwise_cons.2 ⟨fun z hz => ?_, List.pairwise_cons.2 h⟩
        rcases List.mem_cons.1 hz with e | e
        · rw [e]; exact (hL _ _).1 hlt
        · exact ht _ _ _ ((hL _ _).1 hlt) (h.1 z e)
      · rename_i hnl
        refine List.pairwise_cons.2 ⟨fun z hz => ?_, insS_asc hL ht tri h.2⟩
        rcases (mem_insS r z).1 hz with e | e
        · subst e
          by_cases hy : L y z
          · exact hy
          · exact absurd (tri _ _ hy (fun e => hnl ((hL _ _).2 e))) hne
        · exact h.1 z e
/-- The reference's sorted keys, each once. -/
def sortS {α : Type} [DecidableEq α] (lt : α → α → Bool) (l : List α) : List α := l.foldl (fun out k => insS lt k out) []
theorem sortS_push {α : Type} [DecidableEq α] (lt : α → α → Bool) (l : List α) (x : α) : sortS lt (l ++ [x]) = insS lt x (sortS lt l) := by unfold sortS; rw [List.foldl_append]; rfl
theorem sortS_take {α : Type} [DecidableEq α] (lt : α → α → Bool) (l : List α) (j : Nat) (h : j < l.length) : sortS lt (l.take (j + 1)) = insS lt l[j] (sortS lt (l.take j)) := by rw [List.take_succ_eq_append_getElem h, sortS_push]
theorem mem_sortS {α : Type} [DecidableEq α] (lt : α → α → Bool) (l : List α) (x : α) : x ∈ sortS lt l ↔ x ∈ l := by
  have h : ∀ (l out : List α), x ∈ l.foldl (fun out k => insS lt k out) out ↔ x ∈ out ∨ x ∈ l := by
    intro l
    induction l with
    | nil => intro out; simp
    | cons k r ih =>
      intro out
      rw [List.foldl_cons, ih, mem_insS, List.mem_cons]
      constructor
      · rintro ((h | h) | h)
        · exact Or.inr (Or.inl h)
        · exact Or.inl h
        · exact Or.inr (Or.inr h)
      · rintro (h | h | h)
        · exact Or.inl (Or.inr h)
        · exact Or.inl (Or.inl h)
        · exact Or.inr h
  unfold sortS
  rw [h]; simp
theorem sortS_asc {α : Type} [DecidableEq α] {lt : α → α → Bool} {L : α → α → Prop} (hL : ∀ x y, lt x y = true ↔ L x y) (ht : ∀ x y z, L x y → L y z → L x z) (tri : ∀ x y, ¬ L x y → ¬ L y x → x = y) (l : List α) : (sortS lt l).Pairwise L := by
  have h : ∀ (l out : List α), out.Pairwise L → (l.foldl (fun out k => insS lt k out) out).Pairwise L := by
    intro l
    induction l with
    | nil => intro out h; exact h
    | cons k r ih => intro out h; rw [List.foldl_cons]; exact ih _ (insS_asc hL ht tri h)
  exact h l [] List.Pairwise.nil
theorem asc_nodup {α : Type} {L : α → α → Prop} (hi : ∀ x, ¬ L x x) {l : List α} (h : l.Pairwise L) : l.Nodup := List.Pairwise.imp (S := fun a b => a ≠ b) (fun {a b} hab => by intro e; subst e; exact hi _ hab) h
theorem len_of_mem {α : Type} [DecidableEq α] : ∀ {l m : List α}, l.Nodup → m.Nodup → (∀ x, x ∈ l ↔ x ∈ m) → l.length = m.length
  | _l, _m, hl, hm, h => (List.perm_ext_iff_of_nodup hl hm |>.2 h).length_eq
theorem sortS_len {α : Type} [DecidableEq α] {lt : α → α → Bool} {L : α → α → Prop} (hL : ∀ x y, lt x y = true ↔ L x y) (hi : ∀ x, ¬ L x x) (ht : ∀ x y z, L x y → L y z → L x z) (tri : ∀ x y, ¬ L x y → ¬ L y x → x = y) (l : List α) : (sortS lt l).length = (nd l).length :=
  len_of_mem (asc_nodup hi (sortS_asc hL ht tri l)) (nodup_nd l) (fun x => by rw [mem_sortS, mem_nd])
end Go.Proofs.YtemeppfikpafbaaGreat

