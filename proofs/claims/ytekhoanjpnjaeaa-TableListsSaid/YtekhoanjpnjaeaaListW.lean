/- The walk of TableLists (7). -/
import Derived.Test.YtekhoanjpnjaeaaOpenP
import Derived.Test.YtekhoanjpnjaeaaAwake9
import Derived.Test.YtekhoanjpnjaeaaRefTab
import Derived.OpenShut
import Derived.Deep.DeepCutAuto
namespace Go.Proofs.Ytekhoanjpnjaeaa
open Go.RowKit

set_option maxRecDepth 100000 in
theorem few_nil (S : Nat → Prop) (l : List (Int × Int)) (v : Value) (w : World) (hnil : NilA v) (h : Row S w 2 l.length v (flat2 l)) :
    Calls Try.prog 36 #[v] w fun e w' => w' = w ∧ ∃ a' cap', e = .returned (.slice a' (l.take 40).length cap') ∧ (a' = none → cap' = 0) ∧ Row S w 2 (l.take 40).length (.slice a' (l.take 40).length cap') (flat2 (l.take 40)) := by
  obtain ⟨a, cap, rfl, hcap⟩ := h.shape
  have HT := Lib.hid (show Row S w 2 (l.take 40).length (.slice a (l.take 40).length cap) (flat2 (l.take 40)) by
    have hle : (l.take 40).length ≤ l.length := by rw [List.length_take]; exact Nat.min_le_right _ _
    have := h.take hle
    rwa [← flat2_take'] at this)
  clear h
  have hle : (l.take 40).length ≤ l.length := by rw [List.length_take]; exact Nat.min_le_right _ _
  have hsl := slice57 a l.length cap (l.take 40).length hle hcap (hnil _ _ _ rfl)
  have HN := Lib.hid (hnil _ _ _ rfl)
  have hmn : min (l.length : Int) 40 = ((l.take 40).length : Int) := by rw [List.length_take]; omega
  generalize l.length = n at *
  generalize (l.take 40).length = p at *
  clear hnil
  go_enter Try.func36, Try.ntmps36
  go_wp2_with fail
  go_ret
  exact ⟨rfl, _, _, rfl, HN.out, HT.out⟩
/-- The second numbers of n entries in the block g can be written. -/
def SecI (w : World) (g n : Nat) : Prop := ∀ i, i < n → ∃ x : Int, w.cell? ⟨g, i * 2 + 1, none⟩ = some (.int .i64 x) ∧ w.frozen? ⟨g, i * 2 + 1, none⟩ = false
theorem SecI.set {w : World} {g n j : Nat} (h : SecI w g n) (y : Int) : SecI (w.setCell ⟨g, j * 2 + 1, none⟩ (.int .i64 y)).drew g n := by
  intro i hi
  obtain ⟨x, hx, hf⟩ := h i hi
  have hf2 : (w.setCell ⟨g, j * 2 + 1, none⟩ (.int .i64 y)).drew.frozen? ⟨g, i * 2 + 1, none⟩ = false := by
    show (w.setCell ⟨g, j * 2 + 1, none⟩ (.int .i64 y)).frozen? ⟨g, i * 2 + 1, none⟩ = false
    rw [World.frozen?_setCell]; exact hf
  by_cases e : j = i
  · subst e
    exact ⟨y, setCell_eq hx, hf2⟩
  · exact ⟨x, (setCell_neq (by omega)).trans hx, hf2⟩
theorem SecI.of_owns {w : World} {B g cap : Nat} {l : List (Int × Int)} (h : w.ownsRow B 66 2 (.slice (some ⟨g, 0, none⟩) l.length cap) l.length (flat2 l)) : SecI w g l.length := by
  intro i hi
  obtain ⟨g', cap', e, _, hc⟩ := owns_cell h (flat2_get l i hi).2
  cases e
  refine ⟨_, hc, ?_⟩
  obtain ⟨_, h0 | ⟨g', cap', cur, e, _, hb, _⟩⟩ := h
  · cases h0.1
  · cases e
    exact thaw hb _
theorem SecI.more {w w' : World} {g n : Nat} (h : SecI w g n) (hm : More w w') : SecI w' g n := by
  intro i hi
  obtain ⟨x, hx, hf⟩ := h i hi
  exact ⟨x, hm.cell hx, hm.frozen (cell_lt hx) hf⟩
theorem set_grown {w : World} {g o : Nat} (y : Value) : w.grownBy (w.setCell ⟨g, o, none⟩ y).drew (some g) :=
  ⟨rfl, rfl, rfl, by simp [World.setCell, World.drew], fun k _ hne => by
    have hk : k ≠ g := fun e => hne (by rw [e])
    show (w.setCell ⟨g, o, none⟩ y).heap[k]? = _
    rw [Below.heap_setCell _ _ _ _ hk]⟩
theorem TabV.grown {S : Nat → Prop} {w w' : World} {g : Nat} {l : List (Int × Int)} {v : Value} (h : TabV S w l v) (hg : w.grownBy w' (some g)) (hS : ∀ b, S b → b ≠ g) : TabV S w' l v := by
  obtain ⟨a, cap, rfl, hr, hp⟩ := h
  exact ⟨a, cap, rfl, hr.mono (fun _ h => h) (fun b _ _ hb hu => grown_none hg (hS b hb) hu), hp⟩

set_option maxRecDepth 100000 in
set_option maxHeartbeats 2000000 in
theorem lists_walk (hs40 : SortSaid 40) (l : List (Int × Int)) (v : Value) (k : Int) (w : World) (hnil : NilA v) (h : Row (fun _ => True) w 2 l.length v (flat2 l)) :
    Calls Try.prog 7 #[v, .int .i64 k] w fun e w' => e = .returned (.bool true) ∧ Below w.heap.size w w' := by
  obtain ⟨va, vc, rfl, hcap⟩ := h.shape
  have HR := Lib.hid h; clear h hcap
  have HL40 := Lib.hid (show (l.take 40).length ≤ 40 from List.length_take_le 40 l)
  obtain ⟨i0, hi0, hz0, hz1, hz2⟩ := info_parts Try.info66
  go_enter Try.func7, Try.ntmps7
  go_wp2_with fail
  refine (awake9_any _).mono ?_
  rintro e w1 ⟨rfl, hm1⟩
  have HM1 := Lib.hid hm1
  clear hm1
  have hl40 := HL40.out
  generalize hl4e : l.take 40 = l4 at *
  have HL4E := Lib.hid hl4e; clear hl4e hl40
  go_upto_region 3 with (fail)
  go_cut [0] (fun s wx => ∃ a g cap, s = .slice a l4.length cap ∧ Hid (More w wx) ∧ Hid (w.heap.size ≤ g ∧ wx.ownsRow w.heap.size 66 2 (.slice a l4.length cap) l4.length (flat2 l4) ∧ SecI wx g l4.length ∧ g < wx.heap.size ∧ (0 < l4.length → a = some ⟨g, 0, none⟩)))
  case first =>
    go_wp2_with fail
    have hma := World.grownBy_alloc w1 (.cells #[] 66) none
    have hs1 := HM1.out.size
    have HW1 := Lib.hid (show (w1.alloc (.cells #[] 66)).ownsRow w.heap.size 66 2 (.slice (some ⟨w1.heap.size, 0, none⟩) 0 0) 0 [] from ⟨rfl, Or.inr ⟨w1.heap.size, 0, #[], rfl, hs1, alloc_last _ _, Nat.le_refl _, by unfold maxLen; omega, rfl, rfl⟩⟩)
    have HMA := Lib.hid (more_trans HM1.out hma)
    clear hma hs1
    refine (few_nil (fun _ => True) l _ _ hnil (HR.out.below HMA.out.below)).mono ?_
    rintro e w2 ⟨hw2, fa, fc, rfl, hfn, hr2⟩
    rw [← hw2] at HW1 HMA hr2
    have HR2 := Lib.hid hr2
    have HFN := Lib.hid hfn
    clear hr2 hw2 hfn
    generalize w1.heap.size = EB at *
    rw [HL4E.out] at HR2
    rw [HL4E.out]
    have hl4 := HL40.out
    clear hnil HR HM1
    have hbs := HMA.out.size
    have HEB := Lib.hid (show w.heap.size ≤ EB ∧ EB < w2.heap.size by
      obtain ⟨_, h0 | ⟨g', cap', cur, e, hg, hb, _⟩⟩ := HW1.out
      · cases h0.1
      · cases e
        exact ⟨hg, (Array.getElem?_eq_some_iff.1 hb).1⟩)
    cases fa with
    | none =>
      obtain rfl := HFN.out rfl
      have hT : l4 = [] := by
        cases l4 with
        | nil => rfl
        | cons x r => obtain ⟨_, _, he, _⟩ := HR2.out.at (by simp); cases he
      subst hT
      go_wp2_with (at_builtin; refine wpList_append_own_none rfl _ _ _ rfl w.heap.size 66 i0 2 Try.underlying57 hi0 (.slice (some ⟨EB, 0, none⟩) 0 0) 0 [] rfl HW1.out rfl ?_)
      go_wp2_with fail
      go_meet
      case rel => exact ⟨some ⟨EB, 0, none⟩, EB, 0, rfl, HMA, Lib.hid (by
        obtain ⟨_, h0 | ⟨g', cap', cur, e, hg, hb, _⟩⟩ := HW1.out
        · cases h0.1
        · cases e
          exact ⟨hg, HW1.out, fun i hi => absurd hi (Nat.not_lt_zero _), (Array.getElem?_eq_some_iff.1 hb).1, fun h => absurd h (Nat.not_lt_zero _)⟩)⟩
    | some ta =>
      have HNEW := Lib.hid (show ∀ i u, (flat2 l4)[i]? = some u → w2.cell? (ta.add i) = some u from fun i u hu => by
        have hne : l4.length ≠ 0 := by
          intro e
          have : l4 = [] := List.length_eq_zero_iff.1 e
          subst this; simp [flat2] at hu
        obtain ⟨b2, off2, he, _, _, hc2⟩ := HR2.out.at hne
        cases he
        rw [Addr.add_lit]
        exact hc2 i u hu)
      have hm1 : 0 + l4.length ≤ maxLen := by unfold maxLen; omega
      have hm2 : (0 + l4.length) * 16 ≤ 140737488355328 := by omega
      have HF1 := Lib.hid (flat2_length l4)
      have HF2 := Lib.hid (flat2_one l4)
      have HBS := Lib.hid hbs; clear hbs
      have HOB := Lib.hid (owns_shape HW1.out)
      go_wp2_with (at_builtin; refine wpList_append_own _ rfl _ _ _ rfl w.heap.size 66 i0 _ 2 16 Try.underlying57 hi0 hz0 hz1 hz2 rfl (by omega) (.slice (some ⟨EB, 0, none⟩) 0 0) 0 [] rfl HW1.out ta l4.length fc (flat2 l4) rfl HF1.out HNEW.out HF2.out hm1 hm2 HBS.out ?_; intro v2 w3 hown2 hgrow2 hold2; rw [Nat.zero_add, List.nil_append] at hown2)
      obtain ⟨oa, ocap, rfl, hoo⟩ := owns_shape hown2
      have HO2 := Lib.hid hown2
      have HG2 := Lib.hid hgrow2
      have HOO2 := Lib.hid hoo
      clear hown2 hgrow2 hold2 hoo
      go_wp2_with fail
      go_meet
      case rel =>
        obtain ⟨a1, c1, _, hoo1⟩ := HOB.out
        have hM3 : More w w3 := more_of (HMA.out.below.grown HG2.out HBS.out (fun y hy => (hoo1 y hy).1))
        cases oa with
        | none =>
          have hz : l4.length = 0 := by
            obtain ⟨_, h0 | ⟨g', cap', cur, e, hg, hb, _⟩⟩ := HO2.out
            · exact h0.2
            · cases e
          exact ⟨none, EB, ocap, rfl, Lib.hid hM3, Lib.hid ⟨HEB.out.1, HO2.out, fun i hi => absurd hi (by omega), Nat.lt_of_lt_of_le HEB.out.2 HG2.out.size, fun h => absurd h (by omega)⟩⟩
        | some ad =>
          obtain ⟨g, he, hg1, hg2⟩ : ∃ g, ad = ⟨g, 0, none⟩ ∧ w.heap.size ≤ g ∧ g < w3.heap.size := by
            obtain ⟨_, h0 | ⟨g', cap', cur, e, hg, hb, _⟩⟩ := HO2.out
            · cases h0.1
            · cases e
              exact ⟨g', rfl, hg, (Array.getElem?_eq_some_iff.1 hb).1⟩
          subst he
          exact ⟨_, g, ocap, rfl, Lib.hid hM3, Lib.hid ⟨hg1, HO2.out, SecI.of_owns HO2.out, hg2, fun _ => rfl⟩⟩
  case rest =>
    obtain ⟨a, g, cap, rfl, HM2, HC⟩ := hcut
    have hl4 := HL40.out
    clear HR HM1 hnil
    go_wp2_with fail
    refine (rof_any (fun x => w.heap.size ≤ x) l4 _ wc (by omega) (Row.of_owns HC.out.2.1)).mono ?_
    rintro e w3 ⟨hb3, wv, rfl, hw3⟩
    obtain ⟨wa, wcap, rfl, _⟩ := hw3.shape
    have HM3 := Lib.hid (more_of hb3)
    have HW3 := Lib.hid hw3
    clear hb3 hw3
    go_wp2_with fail
    refine (of_tab hs40 (fun x => w.heap.size ≤ x) l4 _ w3 HL40.out (by omega) ((Row.of_owns HC.out.2.1).below HM3.out.below)).mono ?_
    rintro e w4 ⟨hb4, tv, rfl, ht4⟩
    have HM4 := Lib.hid (more_of hb4)
    have HT4 := Lib.hid ht4
    have HA := Lib.hid (asc_of l4)
    have htl : (ofL l4).length ≤ 40 := by have := ofL_len l4; omega
    clear hb4 ht4
    generalize ofL l4 = t at *
    obtain ⟨ta, tc, rfl, _⟩ : ∃ ta tc, tv = .slice ta t.length tc ∧ True := by obtain ⟨a, c, e, _⟩ := HT4.out; exact ⟨a, c, e, trivial⟩
    have hcT : (w4.alloc (.cells #[.slice ta t.length tc] 54)).cell? ⟨w4.heap.size, 0, none⟩ = some (.slice ta t.length tc) := by go_simp
    have HM5 := Lib.hid (show More w4 (w4.alloc (.cells #[.slice ta t.length tc] 54)) from World.grownBy_alloc _ _ _)
    have HCT := Lib.hid hcT; clear hcT
    have HG := Lib.hid (show g < wc.heap.size ∧ wc.heap.size ≤ w3.heap.size ∧ w3.heap.size ≤ w4.heap.size from ⟨HC.out.2.2.2.1, HM3.out.size, HM4.out.size⟩)
    go_wp2_with fail
    generalize w4.alloc (.cells #[.slice ta t.length tc] 54) = w5 at *
    have HTB := Lib.hid (show g ≠ w4.heap.size by have := HG.out; omega)
    generalize w4.heap.size = TB at *
    go_loopw [24] (fun i wr => ∃ j : Nat, j ≤ l4.length ∧ i = .int .i64 j ∧ Hid (w5.grownBy wr (some g)) ∧ Hid (SecI wr g l4.length)) (fun i _ => l4.length - (intOf i).toNat)
    case atStart => exact ⟨0, Nat.zero_le _, rfl, Lib.hid (World.grownBy.refl _ _), Lib.hid (HC.out.2.2.1.more (more_trans HM3.out (more_trans HM4.out HM5.out)))⟩
    case round =>
      obtain ⟨j, hj, rfl, HGR, HSR⟩ := hrel
      by_cases hlt : j < l4.length
      · obtain rfl := HC.out.2.2.2.2 (by omega)
        obtain ⟨x, hx, hf⟩ := HSR.out j hlt
        have hbx := cell_lt hx
        have p0 : (0 : Int) ≤ (j : Int) := by omega
        have p1 : (j : Int) < (l4.length : Int) := by omega
        go_wp2_with fail
        go_region
        all_goals
          go_wp2_with fail
          go_roundw
          case rel => exact ⟨j + 1, by omega, by go_num, Lib.hid (grownBy_trans HGR.out (set_grown _)), Lib.hid (HSR.out.set _)⟩
          case measure => simp [intOf]; omega
      · have cT := grown_none HGR.out (Ne.symm HTB.out) HCT.out
        have HTr := Lib.hid (show TV wr t (.slice ta t.length tc) from TV.any ((HT4.out.below HM5.out.below).grown HGR.out (fun b hb => by have := HG.out; have h3 : w3.heap.size ≤ b := hb; omega)))
        have HWr := Lib.hid (show Row (fun _ => True) wr 2 t.length (.slice wa t.length wcap) (flat2 t) from (HW3.out.below (more_trans HM4.out HM5.out).below).mono (fun _ _ => trivial) (fun b _ _ hb hu => grown_none HGR.out (by have := HG.out; have h3 : wc.heap.size ≤ b := hb; omega) hu))
        have HMF := Lib.hid (show Below w.heap.size w wr from (more_trans HM2.out (more_trans HM3.out (more_trans HM4.out HM5.out))).below.grown HGR.out (more_trans HM2.out (more_trans HM3.out (more_trans HM4.out HM5.out))).size (fun y hy => by cases hy; exact HC.out.1))
        have HSF := Lib.hid (show w.heap.size ≤ wr.heap.size from HMF.out.size)
        clear HTB HCT HT4 HW3 HM5 HM4 HM3 HG HGR HSR HC HM2
        have HLt := Lib.hid (show t.length < 1000000 by omega)
        go_wp2_with fail
        refine (get_tv t k _ wr HLt.out HA.out HTr.out).mono ?_
        rintro e w6 ⟨hm6, rfl⟩
        have c6 := hm6.cell cT
        have HM6 := Lib.hid hm6
        clear hm6 cT
        go_wp2_with fail
        refine (rget_any (fun _ => True) t k _ w6 (by omega) (HWr.out.below HM6.out.below)).mono ?_
        rintro e w7 ⟨hb7, rfl⟩
        have c7 := (more_of hb7).cell c6
        have HM7 := Lib.hid (more_trans HM6.out (more_of hb7))
        clear hb7 c6
        obtain ⟨gv, hgv⟩ : ∃ gv, (getL t k).getD 0 = gv := ⟨_, rfl⟩
        obtain ⟨gs, hgs⟩ : ∃ gs, (getL t k).isSome = gs := ⟨_, rfl⟩
        rw [hgv, hgs]
        clear hgv hgs
        go_wp2_with fail
        refine (told_tv t _ w7 HLt.out (HTr.out.more HM7.out)).mono ?_
        rintro e w8 ⟨hm8, tv8, rfl, hr8⟩
        obtain ⟨a8, c8', rfl, _⟩ := hr8.shape
        have c8 := hm8.cell c7
        have HM8 := Lib.hid (more_trans HM7.out hm8)
        have HR8 := Lib.hid hr8
        clear hm8 hr8 c7
        go_wp2_with fail
        refine (rsame_any (fun _ => True) (fun _ => True) t t _ _ w8 (by omega) (by omega) HR8.out (HWr.out.below HM8.out.below)).mono ?_
        rw [decide_eq_true (rfl : t = t)]
        rintro e w9 ⟨rfl, n9, hn9⟩
        have hm9 : More w8 w9 := by subst hn9; exact more_drewN _ _
        have c9 := hm9.cell c8
        have HM9 := Lib.hid (more_trans HM8.out hm9)
        clear hn9 hm9 c8
        go_wp2_with fail
        refine (len_tv t _ w9 (HTr.out.more HM9.out)).mono ?_
        rintro e w10 ⟨hm10, rfl⟩
        have HM10 := Lib.hid (more_trans HM9.out hm10)
        clear hm10 c9
        go_wp2_with fail
        go_ret
        exact ⟨rfl, HMF.out.trans (HM10.out.below.mono HSF.out)⟩
end Go.Proofs.Ytekhoanjpnjaeaa

