/- slices.stableCmpFunc (118) and slices.SortStableFunc (77) at no more than 40 entries. -/
import Derived.Test.YtekhoanjpnjaeaaSym
import Derived.Test.YtekhoanjpnjaeaaOfT
namespace Go.Proofs.Ytekhoanjpnjaeaa
open Go.RowKit Go.Sort

theorem srt_take {d : Array (Int × Int)} {m : Nat} (h : SortedIn keyLt 0 m d) (hm : m ≤ d.size) : Srt (d.toList.take m) := by
  unfold Srt
  rw [List.pairwise_iff_getElem]
  intro i j hi hj hij
  have hj' : j < m := by simp only [List.length_take, Array.length_toList] at hj; omega
  have := h i j (Nat.zero_le _) hij hj'
  rw [getElem!_pos d j (by omega), getElem!_pos d i (by omega)] at this
  simp only [keyLt, decide_eq_false_iff_not] at this
  simp only [List.getElem_take, Array.getElem_toList]
  omega
theorem srt_drop {d : Array (Int × Int)} {m : Nat} (h : SortedIn keyLt m d.size d) : Srt (d.toList.drop m) := by
  unfold Srt
  rw [List.pairwise_iff_getElem]
  intro i j hi hj hij
  have hj' : m + j < d.size := by simp only [List.length_drop, Array.length_toList] at hj; omega
  have := h (m + i) (m + j) (by omega) (by omega) hj'
  rw [getElem!_pos d (m + j) (by omega), getElem!_pos d (m + i) (by omega)] at this
  simp only [keyLt, decide_eq_false_iff_not] at this
  simp only [List.getElem_drop, Array.getElem_toList]
  omega

/-- What stands behind the runs of insertion sort. -/
structure Half (d0 : Array (Int × Int)) (N : Nat) (d : Array (Int × Int)) : Prop where
  size : d.size = N
  stab : Stab d0.toList d.toList
  left : SortedIn keyLt 0 20 d
  right : SortedIn keyLt 20 N d
/-- What stands behind the merge. -/
structure Whole (d0 : Array (Int × Int)) (N : Nat) (d : Array (Int × Int)) : Prop where
  size : d.size = N
  stab : Stab d0.toList d.toList
  srt : Srt d.toList

theorem merge_half (d0 d : Array (Int × Int)) (B off cap N : Nat) (w : World) (h : Half d0 N d) (h20 : 20 < N) (hN : N ≤ 40) (hH : HoldE w B off d) :
    Calls Try.prog 135 #[.slice (some ⟨B, off, none⟩) N cap, .int .i64 0, .int .i64 20, .int .i64 N, .func (.func 78) #[] #[]] w fun e w' => e = .returned (.tuple #[]) ∧ w.grownBy w' (some B) ∧ ∃ d', Whole d0 N d' ∧ HoldE w' B off d' := by
  have hs := h.size
  have e : d = ([] ++ d.toList.take 20 ++ d.toList.drop 20 ++ []).toArray := by simp
  have l1 : (d.toList.take 20).length = 20 := by rw [List.length_take, Array.length_toList]; omega
  have l2 : (d.toList.drop 20).length = N - 20 := by rw [List.length_drop, Array.length_toList]; omega
  refine (sym_any N [] (d.toList.take 20) (d.toList.drop 20) [] B off cap 0 20 N N w (by omega) rfl (by omega) (by omega) (by omega) h20 (by simp; omega) (by omega) (srt_take h.left (by omega)) (srt_drop (by rw [hs]; exact h.right)) (by rw [← e]; exact hH)).mono ?_
  rintro e' w' ⟨rfl, hg, R, hm, hh⟩
  refine ⟨rfl, hg, R.toArray, ⟨?_, ?_, ?_⟩, by simpa using hh⟩
  · have := hm.len; rw [List.size_toArray]; omega
  · have := hm.stab; rw [List.take_append_drop] at this; exact h.stab.trans this
  · exact hm.srt

theorem merge_40 (d0 d : Array (Int × Int)) (B off cap N : Nat) (w : World) (h : Half d0 N d) (hN : N = 40) (hH : HoldE w B off d) :
    Calls Try.prog 135 #[.slice (some ⟨B, off, none⟩) N cap, .int .i64 0, .int .i64 20, .int .i64 40, .func (.func 78) #[] #[]] w fun e w' => e = .returned (.tuple #[]) ∧ w.grownBy w' (some B) ∧ ∃ d', Whole d0 N d' ∧ HoldE w' B off d' := by
  subst hN
  exact merge_half d0 d B off cap 40 w h (by omega) (by omega) hH

/-- The runs of insertion sort at 21 to 40 entries. -/
def Runs (d0 : Array (Int × Int)) (N a : Nat) (d : Array (Int × Int)) : Prop :=
  d.size = N ∧ Stab d0.toList d.toList ∧ (a = 0 ∨ a = 20 ∧ SortedIn keyLt 0 20 d ∨ a = 40 ∧ N = 40 ∧ SortedIn keyLt 0 20 d ∧ SortedIn keyLt 20 40 d)
theorem sorted_keep {d d' : Array (Int × Int)} {a b : Nat} (h : SortedIn keyLt a b d) (he : ∀ i, i < b → d'[i]! = d[i]!) : SortedIn keyLt a b d' := fun i j h1 h2 h3 => by
  rw [he i (by omega), he j h3]; exact h i j h1 h2 h3
theorem run0 {d0 d : Array (Int × Int)} {N : Nat} (h : Runs d0 N 0 d) (hN : 20 < N) : Runs d0 N 20 (insertionSort keyLt d 0 20) := by
  obtain ⟨h1, h2, h3, h4⟩ := insertion_stab d 0 20 (by omega) (by have := h.1; omega)
  exact ⟨by rw [h2]; exact h.1, h.2.1.trans h1, Or.inr (Or.inl ⟨rfl, h4⟩)⟩
theorem run20 {d0 d : Array (Int × Int)} {N : Nat} (h : Runs d0 N 20 d) (hN : 20 < N) (hN' : N ≤ 40) : Half d0 N (insertionSort keyLt d 20 N) := by
  obtain ⟨h1, h2, h3, h4⟩ := insertion_stab d 20 N (by omega) (by have := h.1; omega)
  have hl : SortedIn keyLt 0 20 d := by
    rcases h.2.2 with h | h | h
    · cases h
    · exact h.2
    · exact h.2.2.1
  exact ⟨by rw [h2]; exact h.1, h.2.1.trans h1, sorted_keep hl (fun i hi => h3 i (Or.inl hi)), h4⟩

set_option maxHeartbeats 2000000 in
set_option maxRecDepth 100000 in
theorem stable40 (d : Array (Int × Int)) (B off cap N : Nat) (w : World) (hN : d.size = N) (h20 : 20 < N) (h40 : N ≤ 40) (hB : B < w.heap.size) (hH : HoldE w B off d) :
    Calls Try.prog 118 #[.slice (some ⟨B, off, none⟩) N cap, .int .i64 N, .func (.func 78) #[] #[]] w fun e w' => e = .returned (.tuple #[]) ∧ w.grownBy w' (some B) ∧ ∃ d', Whole d N d' ∧ HoldE w' B off d' := by
  have HH := Lib.hid hH; clear hH
  have HS := Lib.hid hN; clear hN
  go_enter Try.func118, Try.ntmps118
  go_wp2_with fail
  go_loopw [7, 8] (fun va vb wr => ∃ (a : Nat) (dk : Array (Int × Int)), va = .int .i64 a ∧ vb = .int .i64 (a + 20) ∧ (a = 0 ∨ a = 20 ∨ a = 40 ∧ N = 40) ∧ Hid (w.grownBy wr (some B)) ∧ Hid (HoldE wr B off dk) ∧ Hid (Runs d N a dk)) (fun va _ _ => 100 - (intOf va).toNat)
  case atStart => exact ⟨0, d, rfl, rfl, Or.inl rfl, Lib.hid (World.grownBy.refl _ _), HH, Lib.hid ⟨HS.out, Stab.refl _, Or.inl rfl⟩⟩
  case round =>
    obtain ⟨a, dk, rfl, rfl, ha, HG, HK, HE⟩ := hrel
    have hBw : B < wr.heap.size := Nat.lt_of_lt_of_le hB HG.out.size
    rcases ha with rfl | rfl | ha
    · have tl : (20 : Int) ≤ (N : Int) := by omega
      go_wp2_with fail
      refine (insert_at dk B off cap 0 20 N wr HE.out.1 (by omega) (by omega) (by omega) hBw HK.out).mono ?_
      rintro e w1 ⟨rfl, hg1, hh1⟩
      have HG1 := Lib.hid (grownBy_trans HG.out hg1)
      have HH1 := Lib.hid hh1
      have HR := Lib.hid (run0 HE.out h20)
      clear hg1 hh1
      go_wp2_with fail
      go_roundw
      case rel => exact ⟨20, _, by first | rfl | go_num, by first | rfl | go_num, Or.inr (Or.inl rfl), HG1, HH1, HR⟩
      case measure => simp [intOf]
    · by_cases hN : N = 40
      · have HN := Lib.hid hN
        have tl : (40 : Int) ≤ (N : Int) := by omega
        clear hN
        go_wp2_with fail
        refine (insert_at dk B off cap 20 40 N wr HE.out.1 (by omega) (by omega) (by omega) hBw HK.out).mono ?_
        rintro e w1 ⟨rfl, hg1, hh1⟩
        have HG1 := Lib.hid (grownBy_trans HG.out hg1)
        have HH1 := Lib.hid hh1
        have HR := Lib.hid (show Half d N (insertionSort keyLt dk 20 40) by have := run20 HE.out h20 h40; rw [HN.out] at this ⊢; exact this)
        clear hg1 hh1
        go_wp2_with fail
        go_roundw
        case rel => exact ⟨40, _, by first | rfl | go_num, by first | rfl | go_num, Or.inr (Or.inr ⟨rfl, HN.out⟩), HG1, HH1, Lib.hid ⟨HR.out.size, HR.out.stab, Or.inr (Or.inr ⟨rfl, HN.out, HR.out.left, by have := HR.out.right; rw [HN.out] at this; exact this⟩)⟩⟩
        case measure => simp [intOf]
      · have tl : ¬ (40 : Int) ≤ (N : Int) := by omega
        go_wp2_with fail
        refine (insert_at dk B off cap 20 N N wr HE.out.1 (by omega) (by omega) (by omega) hBw HK.out).mono ?_
        rintro e w1 ⟨rfl, hg1, hh1⟩
        have HG1 := Lib.hid (grownBy_trans HG.out hg1)
        have HH1 := Lib.hid hh1
        have HR := Lib.hid (run20 HE.out h20 h40)
        clear hg1 hh1
        have t2 : (20 : Int) < (N : Int) := by omega
        go_wp2_with fail
        go_loopw [6] (fun vb wr => (vb = .int .i64 20 ∧ wr = w1) ∨ (vb = .int .i64 40 ∧ Hid (w.grownBy wr (some B)) ∧ ∃ d', Hid (Whole d N d') ∧ Hid (HoldE wr B off d'))) (fun vb _ => 100 - (intOf vb).toNat)
        case atStart => exact Or.inl ⟨by first | rfl | go_num, rfl⟩
        case round =>
          rcases hrel with ⟨rfl, rfl⟩ | ⟨rfl, HG2, d', HW, HH2⟩
          · obtain ⟨wo, rfl⟩ : ∃ wo : World, wo = wr := ⟨_, rfl⟩
            go_wp2_with fail
            refine wp_loop_rounds 1 ?_
            rw [rounds_succ]
            go_wp2_with fail
            refine (merge_half d _ B off cap N wo HR.out h20 h40 HH1.out).mono ?_
            rintro e w2 ⟨rfl, hg2, d', hw, hh2⟩
            have HG2 := Lib.hid (grownBy_trans HG1.out hg2)
            have HH2 := Lib.hid hh2
            have HW := Lib.hid hw
            clear hg2 hh2 hw
            go_wp2_with fail
            go_roundw
            case rel => exact Or.inr ⟨by first | rfl | go_num, HG2, d', HW, HH2⟩
            case measure => simp [intOf]
          · have t3 : ¬ (40 : Int) < (N : Int) := by omega
            go_wp2_with fail
            go_end0
            exact ⟨rfl, HG2.out, d', HW.out, HH2.out⟩
    · obtain ⟨rfl, hN⟩ := ha
      have HN := Lib.hid hN
      have t60 : ¬ (60 : Int) ≤ (N : Int) := by omega
      have t60' : ¬ (60 : Int) < (N : Int) := by omega
      have t80 : ¬ (80 : Int) ≤ (N : Int) := by omega
      have t40 : ¬ (40 : Int) < (N : Int) := by omega
      have t40' : (40 : Int) ≤ (N : Int) := by omega
      have t20 : (20 : Int) < (N : Int) := by omega
      clear hN
      go_wp2_with fail
      refine (insert_at dk B off cap 40 N N wr HE.out.1 (by omega) (by omega) (by omega) hBw HK.out).mono ?_
      rintro e w1 ⟨rfl, hg1, hh1⟩
      rw [insert_none dk 40 N (by have := HN.out; omega)] at hh1
      have HG1 := Lib.hid (grownBy_trans HG.out hg1)
      have HH1 := Lib.hid hh1
      have HR := Lib.hid (show Half d N dk from ⟨HE.out.1, HE.out.2.1, by rcases HE.out.2.2 with h | h | h; cases h; cases h.1; exact h.2.2.1, by rcases HE.out.2.2 with h | h | h; cases h; cases h.1; rw [HN.out]; exact h.2.2.2⟩)
      clear hg1 hh1
      go_wp2_with fail
      go_loopw [6] (fun vb wr => (vb = .int .i64 20 ∧ wr = w1) ∨ (vb = .int .i64 40 ∧ Hid (w.grownBy wr (some B)) ∧ ∃ d', Hid (Whole d N d') ∧ Hid (HoldE wr B off d'))) (fun vb _ => 100 - (intOf vb).toNat)
      case atStart => exact Or.inl ⟨by first | rfl | go_num, rfl⟩
      case round =>
        rcases hrel with ⟨rfl, rfl⟩ | ⟨rfl, HG2, d', HW, HH2⟩
        · obtain ⟨wo, rfl⟩ : ∃ wo : World, wo = wr := ⟨_, rfl⟩
          go_wp2_with fail
          go_loopw [7, 8] (fun va vb wr => (va = .int .i64 0 ∧ vb = .int .i64 40 ∧ wr = wo) ∨ (va = .int .i64 40 ∧ vb = .int .i64 80 ∧ Hid (w.grownBy wr (some B)) ∧ ∃ d', Hid (Whole d N d') ∧ Hid (HoldE wr B off d'))) (fun va _ _ => 100 - (intOf va).toNat)
          case atStart => exact Or.inl ⟨by first | rfl | go_num, by first | rfl | go_num, rfl⟩
          case round =>
            rcases hrel with ⟨rfl, rfl, rfl⟩ | ⟨rfl, rfl, HG2, d', HW, HH2⟩
            · go_wp2_with fail
              refine (merge_40 d _ B off cap N wr HR.out HN.out HH1.out).mono ?_
              rintro e w2 ⟨rfl, hg2, d', hw, hh2⟩
              have HG2 := Lib.hid (grownBy_trans HG1.out hg2)
              have HH2 := Lib.hid hh2
              have HW := Lib.hid hw
              clear hg2 hh2 hw
              go_wp2_with fail
              go_roundw
              case rel => exact Or.inr ⟨by first | rfl | go_num, by first | rfl | go_num, HG2, d', HW, HH2⟩
              case measure => simp [intOf]
            · go_wp2_with fail
              go_roundw
              case rel => exact Or.inr ⟨by first | rfl | go_num, HG2, d', HW, HH2⟩
              case measure => simp [intOf]
        · go_wp2_with fail
          go_end0
          exact ⟨rfl, HG2.out, d', HW.out, HH2.out⟩

theorem sort40 : SortSaid 40 := fun d B off cap N w h1 h2 h3 h4 => by
  by_cases h20 : N ≤ 20
  · exact sort_any d B off cap N w h1 h20 h3 h4
  have HH := Lib.hid h4; clear h4
  have HC := Lib.hid (fun w (hB : B < w.heap.size) (h : HoldE w B off d) => stable40 d B off cap N w h1 (by omega) h2 hB h)
  clear h1
  go_enter Try.func77, Try.ntmps77
  go_wp2_with fail
  refine (HC.out w h3 HH.out).mono ?_
  rintro e w1 ⟨rfl, hg1, d', hw, hh1⟩
  have HG1 := Lib.hid hg1
  have HH1 := Lib.hid hh1
  have HW := Lib.hid hw
  clear hg1 hh1 hw
  go_wp2_with fail
  go_end0
  exact ⟨rfl, HG1.out, d', HW.out.size, HW.out.stab, HW.out.srt, HH1.out⟩
end Go.Proofs.Ytekhoanjpnjaeaa
