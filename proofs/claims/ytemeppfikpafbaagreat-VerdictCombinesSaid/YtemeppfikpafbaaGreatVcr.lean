/- Texts FSt, CauP, CombP, laid together. -/
import Derived.Test.YtemeppfikpafbaaGreatVcf
import Derived.Test.YtemeppfikpafbaaGreatVcg
import Derived.Test.YtemeppfikpafbaaGreatVcp
import Derived.Test.YtemeppfikpafbaaGreatVcq
/- slices.stableCmpFunc (62) and slices.SortStableFunc (32) of at most 40 found causes. -/
namespace Go.Proofs.YtemeppfikpafbaaGreat
open Go.RowKit Go.Sort
variable {CP : Nat} {V : Int × Int → Prop} {G : Int × Int → Fnd}

theorem ltOf_rank : ltOf (fun x y : Int × Int => cmpI x.1 y.1) = keyLt := by
  funext x y
  unfold ltOf keyLt
  exact decide_eq_decide.2 cmpI_neg
theorem insert_none (d : Array (Int × Int)) (a b : Nat) (h : ¬ a + 1 < b) : insertionSort keyLt d a b = d := by
  unfold insertionSort
  exact insOuter_stop a b (a + 1) d h
theorem insG_at (d : Array (Int × Int)) (B off cap a b N : Nat) (w : World) (hs : d.size = N) (hab : a ≤ b) (hb : b ≤ N) (hN : N < 4294967296) (h : HoldF CP V G w B off d) :
    Calls Tryz.prog 84 #[.slice (some ⟨B, off, none⟩) N cap, .int .i64 a, .int .i64 b, .func (.func 33) #[] #[.pointer (some ⟨CP, 0, none⟩)]] w fun e w' => e = .returned (.tuple #[]) ∧ w.grownBy w' (some B) ∧ HoldF CP V G w' B off (insertionSort keyLt d a b) := by
  subst hs
  refine (insG_any CP G V (fun x y => cmpI x.1 y.1) d B off cap a b w hab hb hN h.cells h.mem (fun x y W hx hy hW => h.cmp x y W hx hy hW)).mono ?_
  rintro e w' ⟨rfl, hg, hh⟩
  rw [ltOf_rank] at hh
  exact ⟨rfl, hg, h.turn hg hh (insOuter_mem (P := V) a b _ _ d rfl hb h.mem).2⟩
theorem srt_take {d : Array (Int × Int)} {m : Nat} (h : SortedIn keyLt 0 m d) (hm : m ≤ d.size) : Srt (d.toList.take m) := by
  unfold Srt
  rw [List.pairwise_iff_getElem]
  intro i j hi hj hij
  have hj' : j < m := by simp only [List.length_take, Array.length_toList] at hj; omega
  have := h i j (Nat.zero_le _) hij hj'
  rw [getElem!_pos d j (by omega), getElem!_pos d i (by omega)] at this
  simp only [keyLt, decide_eq_false_iff_not] at this
  simp only [List.getElem_take, Array.getElem_toList]
  omega
theorem srt_drop {d : Array (Int × Int)} {m : Nat} (h : SortedIn keyLt m d.size d) : Srt (d.toList.drop m) := by
  unfold Srt
  rw [List.pairwise_iff_getElem]
  intro i j hi hj hij
  have hj' : m + j < d.size := by simp only [List.length_drop, Array.length_toList] at hj; omega
  have := h (m + i) (m + j) (by omega) (by omega) hj'
  rw [getElem!_pos d (m + j) (by omega), getElem!_pos d (m + i) (by omega)] at this
  simp only [keyLt, decide_eq_false_iff_not] at this
  simp only [List.getElem_drop, Array.getElem_toList]
  omega

/-- What stands behind the runs of insertion sort. -/
structure Half (d0 : Array (Int × Int)) (N : Nat) (d : Array (Int × Int)) : Prop where
  size : d.size = N
  stab : Stab d0.toList d.toList
  left : SortedIn keyLt 0 20 d
  right : SortedIn keyLt 20 N d
/-- What stands behind the merge. -/
structure Whole (d0 : Array (Int × Int)) (N : Nat) (d : Array (Int × Int)) : Prop where
  size : d.size = N
  stab : Stab d0.toList d.toList
  srt : Srt d.toList

theorem merge_half (d0 d : Array (Int × Int)) (B off cap N : Nat) (w : World) (h : Half d0 N d) (h20 : 20 < N) (hN : N ≤ 40) (hH : HoldF CP V G w B off d) :
    Calls Tryz.prog 85 #[.slice (some ⟨B, off, none⟩) N cap, .int .i64 0, .int .i64 20, .int .i64 N, .func (.func 33) #[] #[.pointer (some ⟨CP, 0, none⟩)]] w fun e w' => e = .returned (.tuple #[]) ∧ w.grownBy w' (some B) ∧ ∃ d', Whole d0 N d' ∧ HoldF CP V G w' B off d' := by
  have hs := h.size
  have e : d = ([] ++ d.toList.take 20 ++ d.toList.drop 20 ++ []).toArray := by simp
  have l1 : (d.toList.take 20).length = 20 := by rw [List.length_take, Array.length_toList]; omega
  have l2 : (d.toList.drop 20).length = N - 20 := by rw [List.length_drop, Array.length_toList]; omega
  refine (sym_any N [] (d.toList.take 20) (d.toList.drop 20) [] B off cap 0 20 N N w (by omega) rfl (by omega) (by omega) (by omega) h20 (by simp; omega) (by omega) (srt_take h.left (by omega)) (srt_drop (by rw [hs]; exact h.right)) (by rw [← e]; exact hH)).mono ?_
  rintro e' w' ⟨rfl, hg, R, hm, hh⟩
  refine ⟨rfl, hg, R.toArray, ⟨?_, ?_, ?_⟩, by simpa using hh⟩
  · have := hm.len; rw [List.size_toArray]; omega
  · have := hm.stab; rw [List.take_append_drop] at this; exact h.stab.trans this
  · exact hm.srt

theorem merge_40 (d0 d : Array (Int × Int)) (B off cap N : Nat) (w : World) (h : Half d0 N d) (hN : N = 40) (hH : HoldF CP V G w B off d) :
    Calls Tryz.prog 85 #[.slice (some ⟨B, off, none⟩) N cap, .int .i64 0, .int .i64 20, .int .i64 40, .func (.func 33) #[] #[.pointer (some ⟨CP, 0, none⟩)]] w fun e w' => e = .returned (.tuple #[]) ∧ w.grownBy w' (some B) ∧ ∃ d', Whole d0 N d' ∧ HoldF CP V G w' B off d' := by
  subst hN
  exact merge_half d0 d B off cap 40 w h (by omega) (by omega) hH

/-- The runs of insertion sort at 21 to 40 entries. -/
def Runs (d0 : Array (Int × Int)) (N a : Nat) (d : Array (Int × Int)) : Prop :=
  d.size = N ∧ Stab d0.toList d.toList ∧ (a = 0 ∨ a = 20 ∧ SortedIn keyLt 0 20 d ∨ a = 40 ∧ N = 40 ∧ SortedIn keyLt 0 20 d ∧ SortedIn keyLt 20 40 d)
theorem sorted_keep {d d' : Array (Int × Int)} {a b : Nat} (h : SortedIn keyLt a b d) (he : ∀ i, i < b → d'[i]! = d[i]!) : SortedIn keyLt a b d' := fun i j h1 h2 h3 => by
  rw [he i (by omega), he j h3]; exact h i j h1 h2 h3
theorem run0 {d0 d : Array (Int × Int)} {N : Nat} (h : Runs d0 N 0 d) (hN : 20 < N) : Runs d0 N 20 (insertionSort keyLt d 0 20) := by
  obtain ⟨h1, h2, h3, h4⟩ := insertion_stab d 0 20 (by omega) (by have := h.1; omega)
  exact ⟨by rw [h2]; exact h.1, h.2.1.trans h1, Or.inr (Or.inl ⟨rfl, h4⟩)⟩
theorem run20 {d0 d : Array (Int × Int)} {N : Nat} (h : Runs d0 N 20 d) (hN : 20 < N) (hN' : N ≤ 40) : Half d0 N (insertionSort keyLt d 20 N) := by
  obtain ⟨h1, h2, h3, h4⟩ := insertion_stab d 20 N (by omega) (by have := h.1; omega)
  have hl : SortedIn keyLt 0 20 d := by
    rcases h.2.2 with h | h | h
    · cases h
    · exact h.2
    · exact h.2.2.1
  exact ⟨by rw [h2]; exact h.1, h.2.1.trans h1, sorted_keep hl (fun i hi => h3 i (Or.inl hi)), h4⟩

set_option maxHeartbeats 2000000 in
set_option maxRecDepth 100000 in
theorem stable40 (d : Array (Int × Int)) (B off cap N : Nat) (w : World) (hN : d.size = N) (h20 : 20 < N) (h40 : N ≤ 40) (hH : HoldF CP V G w B off d) :
    Calls Tryz.prog 62 #[.slice (some ⟨B, off, none⟩) N cap, .int .i64 N, .func (.func 33) #[] #[.pointer (some ⟨CP, 0, none⟩)]] w fun e w' => e = .returned (.tuple #[]) ∧ w.grownBy w' (some B) ∧ ∃ d', Whole d N d' ∧ HoldF CP V G w' B off d' := by
  have HH := Lib.hid hH; clear hH
  have HS := Lib.hid hN; clear hN
  go_enter Tryz.func62, Tryz.ntmps62
  go_wp2_with fail
  go_loopw [7, 8] (fun va vb wr => ∃ (a : Nat) (dk : Array (Int × Int)), va = .int .i64 a ∧ vb = .int .i64 (a + 20) ∧ (a = 0 ∨ a = 20 ∨ a = 40 ∧ N = 40) ∧ Hid (w.grownBy wr (some B)) ∧ Hid (HoldF CP V G wr B off dk) ∧ Hid (Runs d N a dk)) (fun va _ _ => 100 - (intOf va).toNat)
  case atStart => exact ⟨0, d, rfl, rfl, Or.inl rfl, Lib.hid (World.grownBy.refl _ _), HH, Lib.hid ⟨HS.out, Stab.refl _, Or.inl rfl⟩⟩
  case round =>
    obtain ⟨a, dk, rfl, rfl, ha, HG, HK, HE⟩ := hrel
    rcases ha with rfl | rfl | ha
    · have tl : (20 : Int) ≤ (N : Int) := by omega
      go_wp2_with fail
      refine (insG_at dk B off cap 0 20 N wr HE.out.1 (by omega) (by omega) (by omega) HK.out).mono ?_
      rintro e w1 ⟨rfl, hg1, hh1⟩
      have HG1 := Lib.hid (grownBy_trans HG.out hg1)
      have HH1 := Lib.hid hh1
      have HR := Lib.hid (run0 HE.out h20)
      clear hg1 hh1
      go_wp2_with fail
      go_roundw
      case rel => exact ⟨20, _, by first | rfl | go_num, by first | rfl | go_num, Or.inr (Or.inl rfl), HG1, HH1, HR⟩
      case measure => simp [intOf]
    · by_cases hN : N = 40
      · have HN := Lib.hid hN
        have tl : (40 : Int) ≤ (N : Int) := by omega
        clear hN
        go_wp2_with fail
        refine (insG_at dk B off cap 20 40 N wr HE.out.1 (by omega) (by omega) (by omega) HK.out).mono ?_
        rintro e w1 ⟨rfl, hg1, hh1⟩
        have HG1 := Lib.hid (grownBy_trans HG.out hg1)
        have HH1 := Lib.hid hh1
        have HR := Lib.hid (show Half d N (insertionSort keyLt dk 20 40) by have := run20 HE.out h20 h40; rw [HN.out] at this ⊢; exact this)
        clear hg1 hh1
        go_wp2_with fail
        go_roundw
        case rel => exact ⟨40, _, by first | rfl | go_num, by first | rfl | go_num, Or.inr (Or.inr ⟨rfl, HN.out⟩), HG1, HH1, Lib.hid ⟨HR.out.size, HR.out.stab, Or.inr (Or.inr ⟨rfl, HN.out, HR.out.left, by have := HR.out.right; rw [HN.out] at this; exact this⟩)⟩⟩
        case measure => simp [intOf]
      · have tl : ¬ (40 : Int) ≤ (N : Int) := by omega
        go_wp2_with fail
        refine (insG_at dk B off cap 20 N N wr HE.out.1 (by omega) (by omega) (by omega) HK.out).mono ?_
        rintro e w1 ⟨rfl, hg1, hh1⟩
        have HG1 := Lib.hid (grownBy_trans HG.out hg1)
        have HH1 := Lib.hid hh1
        have HR := Lib.hid (run20 HE.out h20 h40)
        clear hg1 hh1
        have t2 : (20 : Int) < (N : Int) := by omega
        go_wp2_with fail
        go_loopw [6] (fun vb wr => (vb = .int .i64 20 ∧ wr = w1) ∨ (vb = .int .i64 40 ∧ Hid (w.grownBy wr (some B)) ∧ ∃ d', Hid (Whole d N d') ∧ Hid (HoldF CP V G wr B off d'))) (fun vb _ => 100 - (intOf vb).toNat)
        case atStart => exact Or.inl ⟨by first | rfl | go_num, rfl⟩
        case round =>
          rcases hrel with ⟨rfl, rfl⟩ | ⟨rfl, HG2, d', HW, HH2⟩
          · obtain ⟨wo, rfl⟩ : ∃ wo : World, wo = wr := ⟨_, rfl⟩
            go_wp2_with fail
            refine wp_loop_rounds 1 ?_
            rw [rounds_succ]
            go_wp2_with fail
            refine (merge_half d _ B off cap N wo HR.out h20 h40 HH1.out).mono ?_
            rintro e w2 ⟨rfl, hg2, d', hw, hh2⟩
            have HG2 := Lib.hid (grownBy_trans HG1.out hg2)
            have HH2 := Lib.hid hh2
            have HW := Lib.hid hw
            clear hg2 hh2 hw
            go_wp2_with fail
            go_roundw
            case rel => exact Or.inr ⟨by first | rfl | go_num, HG2, d', HW, HH2⟩
            case measure => simp [intOf]
          · have t3 : ¬ (40 : Int) < (N : Int) := by omega
            go_wp2_with fail
            go_end0
            exact ⟨rfl, HG2.out, d', HW.out, HH2.out⟩
    · obtain ⟨rfl, hN⟩ := ha
      have HN := Lib.hid hN
      have t60 : ¬ (60 : Int) ≤ (N : Int) := by omega
      have t60' : ¬ (60 : Int) < (N : Int) := by omega
      have t80 : ¬ (80 : Int) ≤ (N : Int) := by omega
      have t40 : ¬ (40 : Int) < (N : Int) := by omega
      have t40' : (40 : Int) ≤ (N : Int) := by omega
      have t20 : (20 : Int) < (N : Int) := by omega
      clear hN
      go_wp2_with fail
      refine (insG_at dk B off cap 40 N N wr HE.out.1 (by omega) (by omega) (by omega) HK.out).mono ?_
      rintro e w1 ⟨rfl, hg1, hh1⟩
      rw [insert_none dk 40 N (by have := HN.out; omega)] at hh1
      have HG1 := Lib.hid (grownBy_trans HG.out hg1)
      have HH1 := Lib.hid hh1
      have HR := Lib.hid (show Half d N dk from ⟨HE.out.1, HE.out.2.1, by rcases HE.out.2.2 with h | h | h; cases h; cases h.1; exact h.2.2.1, by rcases HE.out.2.2 with h | h | h; cases h; cases h.1; rw [HN.out]; exact h.2.2.2⟩)
      clear hg1 hh1
      go_wp2_with fail
      go_loopw [6] (fun vb wr => (vb = .int .i64 20 ∧ wr = w1) ∨ (vb = .int .i64 40 ∧ Hid (w.grownBy wr (some B)) ∧ ∃ d', Hid (Whole d N d') ∧ Hid (HoldF CP V G wr B off d'))) (fun vb _ => 100 - (intOf vb).toNat)
      case atStart => exact Or.inl ⟨by first | rfl | go_num, rfl⟩
      case round =>
        rcases hrel with ⟨rfl, rfl⟩ | ⟨rfl, HG2, d', HW, HH2⟩
        · obtain ⟨wo, rfl⟩ : ∃ wo : World, wo = wr := ⟨_, rfl⟩
          go_wp2_with fail
          go_loopw [7, 8] (fun va vb wr => (va = .int .i64 0 ∧ vb = .int .i64 40 ∧ wr = wo) ∨ (va = .int .i64 40 ∧ vb = .int .i64 80 ∧ Hid (w.grownBy wr (some B)) ∧ ∃ d', Hid (Whole d N d') ∧ Hid (HoldF CP V G wr B off d'))) (fun va _ _ => 100 - (intOf va).toNat)
          case atStart => exact Or.inl ⟨by first | rfl | go_num, by first | rfl | go_num, rfl⟩
          case round =>
            rcases hrel with ⟨rfl, rfl, rfl⟩ | ⟨rfl, rfl, HG2, d', HW, HH2⟩
            · go_wp2_with fail
              refine (merge_40 d _ B off cap N wr HR.out HN.out HH1.out).mono ?_
              rintro e w2 ⟨rfl, hg2, d', hw, hh2⟩
              have HG2 := Lib.hid (grownBy_trans HG1.out hg2)
              have HH2 := Lib.hid hh2
              have HW := Lib.hid hw
              clear hg2 hh2 hw
              go_wp2_with fail
              go_roundw
              case rel => exact Or.inr ⟨by first | rfl | go_num, by first | rfl | go_num, HG2, d', HW, HH2⟩
              case measure => simp [intOf]
            · go_wp2_with fail
              go_roundw
              case rel => exact Or.inr ⟨by first | rfl | go_num, HG2, d', HW, HH2⟩
              case measure => simp [intOf]
        · go_wp2_with fail
          go_end0
          exact ⟨rfl, HG2.out, d', HW.out, HH2.out⟩

set_option maxHeartbeats 2000000 in
set_option maxRecDepth 100000 in
theorem stable20 (d : Array (Int × Int)) (B off cap N : Nat) (w : World) (hN : d.size = N) (h20 : N ≤ 20) (hH : HoldF CP V G w B off d) :
    Calls Tryz.prog 62 #[.slice (some ⟨B, off, none⟩) N cap, .int .i64 N, .func (.func 33) #[] #[.pointer (some ⟨CP, 0, none⟩)]] w fun e w' => e = .returned (.tuple #[]) ∧ w.grownBy w' (some B) ∧ ∃ d', Whole d N d' ∧ HoldF CP V G w' B off d' := by
  have HI := Lib.hid (fun a b W (D : Array (Int × Int)) (hs : D.size = N) (hab : a ≤ b) (hb : b ≤ N) (h : HoldF CP V G W B off D) => insG_at D B off cap a b N W hs hab hb (by omega) h)
  have HH := Lib.hid hH; clear hH
  have HS := Lib.hid hN
  have HW := Lib.hid (show ∀ D : Array (Int × Int), D = insertionSort keyLt d 0 N → Whole d N D from fun D e => by
    subst e
    obtain ⟨h1, h2, h3, h4⟩ := insertion_stab d 0 N (by omega) (by omega)
    exact ⟨h2.trans hN, h1, srt_of (by rw [h2, hN]; exact h4)⟩)
  clear hN
  go_enter Tryz.func62, Tryz.ntmps62
  go_wp2_with fail
  by_cases h19 : N = 20
  · have HN := Lib.hid h19
    have tl : (20 : Int) ≤ (N : Int) := by omega
    have tl2 : ¬ (40 : Int) ≤ (N : Int) := by omega
    have tl3 : ¬ (20 : Int) < (N : Int) := by omega
    clear h19
    go_loopw [7, 8] (fun va vb wr => ∃ a : Nat, va = .int .i64 a ∧ vb = .int .i64 (a + 20) ∧ ((a = 0 ∧ wr = w) ∨ (a = 20 ∧ Hid (w.grownBy wr (some B)) ∧ Hid (HoldF CP V G wr B off (insertionSort keyLt d 0 20))))) (fun va _ _ => 100 - (intOf va).toNat)
    case atStart => exact ⟨0, rfl, rfl, Or.inl ⟨rfl, rfl⟩⟩
    case round =>
      obtain ⟨a, rfl, rfl, ⟨rfl, rfl⟩ | ⟨rfl, HG, HK⟩⟩ := hrel
      · go_wp2_with fail
        refine (HI.out 0 20 _ d HS.out (by omega) (by have := HN.out; omega) HH.out).mono ?_
        rintro e w1 ⟨rfl, hg1, hh1⟩
        have HG1 := Lib.hid hg1
        have HH1 := Lib.hid hh1
        clear hg1 hh1
        go_wp2_with fail
        go_roundw
        case rel => exact ⟨20, by first | rfl | go_num, by first | rfl | go_num, Or.inr ⟨rfl, HG1, HH1⟩⟩
        case measure => simp [intOf]
      · have HSI := Lib.hid (show (insertionSort keyLt d 0 20).size = N by have := (HW.out _ rfl).size; rw [HN.out] at this ⊢; exact this)
        go_wp2_with fail
        refine (HI.out 20 N _ _ HSI.out (by have := HN.out; omega) (by omega) HK.out).mono ?_
        rintro e w1 ⟨rfl, hg1, hh1⟩
        rw [insert_none _ 20 N (by have := HN.out; omega)] at hh1
        have HG1 := Lib.hid (grownBy_trans HG.out hg1)
        have HH1 := Lib.hid hh1
        clear hg1 hh1
        go_wp2_with fail
        refine wp_loop_rounds 1 ?_
        rw [rounds_succ]
        go_wp2_with fail
        go_end0
        exact ⟨rfl, HG1.out, _, HW.out _ (by rw [HN.out]), HH1.out⟩
  · have hlt : ¬ (20 : Int) ≤ (N : Int) := by omega
    have hlt2 : ¬ (20 : Int) < (N : Int) := by omega
    clear h19
    refine wp_loop_rounds 1 ?_
    rw [rounds_succ]
    go_wp2_with fail
    refine (HI.out 0 N _ d HS.out (by omega) (by omega) HH.out).mono ?_
    rintro e w1 ⟨rfl, hg1, hh1⟩
    have HG1 := Lib.hid hg1
    have HH1 := Lib.hid hh1
    clear hg1 hh1
    go_wp2_with fail
    refine wp_loop_rounds 1 ?_
    rw [rounds_succ]
    go_wp2_with fail
    go_end0
    exact ⟨rfl, HG1.out, _, HW.out _ rfl, HH1.out⟩
theorem sortG_any (d : Array (Int × Int)) (B off cap N : Nat) (w : World) (hN : d.size = N) (h40 : N ≤ 40) (hH : HoldF CP V G w B off d) :
    Calls Tryz.prog 32 #[.slice (some ⟨B, off, none⟩) N cap, .func (.func 33) #[] #[.pointer (some ⟨CP, 0, none⟩)]] w fun e w' => e = .returned (.tuple #[]) ∧ w.grownBy w' (some B) ∧ ∃ d', Whole d N d' ∧ HoldF CP V G w' B off d' := by
  have HC := Lib.hid (show Calls Tryz.prog 62 #[.slice (some ⟨B, off, none⟩) N cap, .int .i64 N, .func (.func 33) #[] #[.pointer (some ⟨CP, 0, none⟩)]] w fun e w' => e = .returned (.tuple #[]) ∧ w.grownBy w' (some B) ∧ ∃ d', Whole d N d' ∧ HoldF CP V G w' B off d' from by
    by_cases h20 : N ≤ 20
    · exact stable20 d B off cap N w hN h20 hH
    · exact stable40 d B off cap N w hN (by omega) h40 hH)
  clear hN hH
  go_enter Tryz.func32, Tryz.ntmps32
  go_wp2_with fail
  refine HC.out.mono ?_
  rintro e w1 ⟨rfl, hg1, hw⟩
  have HG1 := Lib.hid hg1
  have HH1 := Lib.hid hw
  clear hg1 hw
  go_wp2_with fail
  go_end0
  exact ⟨rfl, HG1.out, HH1.out⟩
end Go.Proofs.YtemeppfikpafbaaGreat

/- The order of causes, in plain words: a total order of what a cause holds, sorted. -/
namespace Go.Proofs.YtemeppfikpafbaaGreat
open Go.RowKit Go.Sort
/-- A comparison of a total order. -/
structure CmpTo {α : Type} (cf : α → α → Int) : Prop where
  zero : ∀ x y, cf x y = 0 ↔ x = y
  anti : ∀ x y, cf x y < 0 ↔ 0 < cf y x
  trans : ∀ x y z, cf x y < 0 → cf y z < 0 → cf x z < 0
theorem CmpBy.to {α : Type} {cf : α → α → Int} {lt : α → α → Prop} (h : CmpBy cf lt) (hz : ∀ x y, cf x y = 0 ↔ x = y) : CmpTo cf := by
  refine ⟨hz, fun x y => ?_, fun x y z h1 h2 => (h.neg x z).2 (h.trans _ _ _ ((h.neg x y).1 h1) ((h.neg y z).1 h2))⟩
  constructor
  · intro e
    have h1 := (h.neg x y).1 e
    have h3 : ¬ cf y x < 0 := fun e => h.irrefl _ (h.trans _ _ _ h1 ((h.neg y x).1 e))
    have h4 : cf y x ≠ 0 := fun e => by
      have := (hz y x).1 e
      subst this
      exact h.irrefl _ h1
    omega
  · intro e
    by_cases h1 : lt x y
    · exact (h.neg x y).2 h1
    · have h2 : ¬ lt y x := fun h2 => by have := (h.neg y x).2 h2; omega
      have := h.tri x y h1 h2
      subst this
      have := (hz x x).2 rfl
      omega
theorem sgnK_to : CmpTo sgnK := sgnK_by.to sgnK_zero
theorem sgnM_zero (x y : M3) : sgnM x y = 0 ↔ x = y := by
  constructor
  · intro h
    refine sgnM_by.tri x y (fun e => ?_) (fun e => ?_)
    · have := (sgnM_by.neg x y).2 e; omega
    · have h1 := (cmpM_by.neg y x).2 e
      have h2 : ¬ cmpM3 x y < 0 := fun e' => cmpM_by.irrefl _ (cmpM_by.trans _ _ _ e ((cmpM_by.neg x y).1 e'))
      unfold sgnM at h
      simp [h1, h2] at h
  · rintro rfl
    have h1 : ¬ cmpM3 x x < 0 := fun e => cmpM_by.irrefl x ((cmpM_by.neg x x).1 e)
    unfold sgnM
    simp [h1]
theorem sgnM_to : CmpTo sgnM := sgnM_by.to sgnM_zero
section
variable {α : Type} {cf : α → α → Int} (h : CmpTo cf)
include h
theorem firstNZ_zero : ∀ l m : List α, l.length = m.length → (firstNZ cf l m = 0 ↔ l = m)
  | [], [], _ => by simp [firstNZ]
  | x :: l, y :: m, e => by
    have ih := firstNZ_zero l m (by simpa using e)
    have hz := h.zero x y
    unfold firstNZ
    by_cases e1 : cf x y = 0
    · rw [if_pos e1, ih, hz.1 e1]; simp
    · rw [if_neg e1]
      constructor
      · intro e2; exact absurd e2 e1
      · intro e2; exact absurd (hz.2 (List.cons.inj e2).1) e1
  | [], _ :: _, e => by simp at e
  | _ :: _, [], e => by simp at e
theorem firstNZ_anti : ∀ l m : List α, firstNZ cf l m < 0 ↔ 0 < firstNZ cf m l
  | [], [] => by simp [firstNZ]
  | x :: l, y :: m => by
    have ih := firstNZ_anti l m
    have ha := h.anti x y
    have hz := h.zero x y
    have hz' := h.zero y x
    unfold firstNZ
    by_cases e1 : cf x y = 0
    · have e2 : cf y x = 0 := hz'.2 (hz.1 e1).symm
      rw [if_pos e1, if_pos e2, ih]
    · have e2 : cf y x ≠ 0 := fun e => e1 (hz.2 (hz'.1 e).symm)
      rw [if_neg e1, if_neg e2, ha]
  | [], _ :: _ => by simp [firstNZ]
  | _ :: _, [] => by simp [firstNZ]
theorem firstNZ_trans : ∀ l m n : List α, l.length = m.length → m.length = n.length → firstNZ cf l m < 0 → firstNZ cf m n < 0 → firstNZ cf l n < 0
  | x :: l, y :: m, z :: n, e, f, h1, h2 => by
    have ih := firstNZ_trans l m n (by simpa using e) (by simpa using f)
    unfold firstNZ at h1 h2 ⊢
    by_cases e1 : cf x y = 0
    · have e1' := (h.zero x y).1 e1
      subst e1'
      rw [if_pos e1] at h1
      by_cases e2 : cf x z = 0
      · rw [if_pos e2] at h2 ⊢
        exact ih h1 h2
      · rw [if_neg e2] at h2 ⊢
        exact h2
    · rw [if_neg e1] at h1
      by_cases e2 : cf y z = 0
      · have e2' := (h.zero y z).1 e2
        subst e2'
        rw [if_neg e1]
        exact h1
      · rw [if_neg e2] at h2
        have h3 := h.trans x y z h1 h2
        rw [if_neg (by omega)]
        exact h3
  | [], [], [], _, _, h1, _ => by simp [firstNZ] at h1
  | [], _ :: _, _, e, _, _, _ => by simp at e
  | _ :: _, [], _, e, _, _, _ => by simp at e
  | [], [], _ :: _, _, e, _, _ => by simp at e
  | _ :: _, _ :: _, [], _, e, _, _ => by simp at e
theorem cmpL_to : CmpTo (cmpL cf) := by
  refine ⟨fun l m => ?_, fun l m => ?_, fun l m n h1 h2 => ?_⟩
  · unfold cmpL
    by_cases e : l.length = m.length
    · rw [if_pos e]; exact firstNZ_zero h l m e
    · rw [if_neg e]
      constructor
      · intro e'; omega
      · intro e'; exact absurd (congrArg List.length e') e
  · unfold cmpL
    by_cases e : l.length = m.length
    · rw [if_pos e, if_pos e.symm]; exact firstNZ_anti h l m
    · rw [if_neg e, if_neg (fun e' => e e'.symm)]; omega
  · unfold cmpL at h1 h2 ⊢
    by_cases e : l.length = m.length
    · rw [if_pos e] at h1
      by_cases f : m.length = n.length
      · rw [if_pos f] at h2
        rw [if_pos (e.trans f)]
        exact firstNZ_trans h l m n e f h1 h2
      · rw [if_neg f] at h2
        rw [if_neg (by omega)]; omega
    · rw [if_neg e] at h1
      by_cases f : m.length = n.length
      · rw [if_neg (by omega)]; omega
      · rw [if_neg f] at h2
        rw [if_neg (by omega)]; omega
end
/-- What a cause holds, sorted. -/
abbrev KC := List K4 × List M3
def keyC (c : Cau) : KC := (srtSK c.undo, srtSM c.hold)
def cmpP (p q : KC) : Int := if cmpL sgnK p.1 q.1 = 0 then cmpL sgnM p.2 q.2 else cmpL sgnK p.1 q.1
theorem cmpCau_key (c d : Cau) : cmpCau c d = cmpP (keyC c) (keyC d) := rfl
theorem cmpP_to : CmpTo cmpP := by
  have H1 := cmpL_to sgnK_to
  have H2 := cmpL_to sgnM_to
  refine ⟨fun p q => ?_, fun p q => ?_, fun p q r h1 h2 => ?_⟩
  · have z1 := H1.zero p.1 q.1
    have z2 := H2.zero p.2 q.2
    unfold cmpP
    by_cases e : cmpL sgnK p.1 q.1 = 0
    · rw [if_pos e, z2, Prod.ext_iff]
      exact ⟨fun f => ⟨z1.1 e, f⟩, fun f => f.2⟩
    · rw [if_neg e]
      exact ⟨fun f => absurd f e, fun f => absurd (z1.2 (by rw [f])) e⟩
  · have z1 := H1.zero p.1 q.1
    have z2 := H1.zero q.1 p.1
    unfold cmpP
    by_cases e : cmpL sgnK p.1 q.1 = 0
    · rw [if_pos e, if_pos (z2.2 (z1.1 e).symm)]
      exact H2.anti _ _
    · rw [if_neg e, if_neg (fun f => e (z1.2 (z2.1 f).symm))]
      exact H1.anti _ _
  · obtain ⟨p1, p2⟩ := p
    obtain ⟨q1, q2⟩ := q
    obtain ⟨r1, r2⟩ := r
    unfold cmpP at h1 h2 ⊢
    dsimp only at *
    by_cases e : cmpL sgnK p1 q1 = 0
    · rw [if_pos e] at h1
      obtain rfl := (H1.zero _ _).1 e
      by_cases f : cmpL sgnK p1 r1 = 0
      · rw [if_pos f] at h2 ⊢
        exact H2.trans _ _ _ h1 h2
      · rw [if_neg f] at h2 ⊢
        exact h2
    · rw [if_neg e] at h1
      by_cases f : cmpL sgnK q1 r1 = 0
      · obtain rfl := (H1.zero _ _).1 f
        rw [if_neg e]; exact h1
      · rw [if_neg f] at h2
        have h3 := H1.trans _ _ _ h1 h2
        rw [if_neg (by omega)]
        exact h3
theorem cmpCau_zero (c d : Cau) : cmpCau c d = 0 ↔ keyC c = keyC d := by rw [cmpCau_key]; exact cmpP_to.zero _ _
theorem sgnC_neg (c d : Cau) : sgnC c d < 0 ↔ cmpP (keyC c) (keyC d) < 0 := by
  unfold sgnC
  rw [cmpCau_key, cmpCau_key]
  by_cases e : cmpP (keyC c) (keyC d) < 0
  · simp [e]
  · rw [if_neg e]
    split <;> simp [e]
theorem sgnC_zero (c d : Cau) : sgnC c d = 0 ↔ keyC c = keyC d := by
  unfold sgnC
  rw [cmpCau_key, cmpCau_key]
  have ha := cmpP_to.anti (keyC c) (keyC d)
  have hb := cmpP_to.anti (keyC d) (keyC c)
  have hz := cmpP_to.zero (keyC c) (keyC d)
  by_cases e : cmpP (keyC c) (keyC d) < 0
  · rw [if_pos e]
    constructor
    · intro f; omega
    · intro f; have := hz.2 f; omega
  · rw [if_neg e]
    by_cases f : cmpP (keyC d) (keyC c) < 0
    · rw [if_pos f]
      constructor
      · intro g; omega
      · intro g; have := hz.2 g; omega
    · rw [if_neg f]
      exact ⟨fun _ => hz.1 (by omega), fun _ => rfl⟩
end Go.Proofs.YtemeppfikpafbaaGreat

/- What verdict.Combine tells of sorted causes, in plain words: each cause once, with the number of the lists that hold it. -/
namespace Go.Proofs.YtemeppfikpafbaaGreat
open Go.RowKit Go.Sort
/-- How many numbers below o stand with a key. -/
def cardP (o : Nat) (P : List (KC × Int)) (k : KC) : Nat := ((List.range o).filter fun i : Nat => decide ((k, (i : Int)) ∈ P)).length
theorem filt_or (p : Nat → Bool) (m : Nat) : ∀ o, ((List.range o).filter fun i => p i || decide (i = m)).length = ((List.range o).filter p).length + if m < o ∧ p m = false then 1 else 0
  | 0 => by simp
  | o + 1 => by
    rw [List.range_succ, List.filter_append, List.filter_append, List.length_append, List.length_append, filt_or p m o]
    by_cases h : o = m
    · subst h
      cases hp : p o <;> simp [hp]
    · have h1 : (m < o + 1 ∧ p m = false) ↔ (m < o ∧ p m = false) := by
        constructor
        · intro e; exact ⟨by omega, e.2⟩
        · intro e; exact ⟨by omega, e.2⟩
      have h2 : [o].filter (fun i => p i || decide (i = m)) = [o].filter p := by
        rw [List.filter_cons, List.filter_cons, show (p o || decide (o = m)) = p o by simp [h]]; rfl
      rw [h2]
      by_cases h3 : m < o ∧ p m = false
      · rw [if_pos h3, if_pos (h1.2 h3)]; omega
      · rw [if_neg h3, if_neg (fun e => h3 (h1.1 e))]; omega
theorem cardP_push (o : Nat) (P : List (KC × Int)) (k k' : KC) (n : Nat) (hn : n < o) : cardP o (P ++ [(k, (n : Int))]) k' = cardP o P k' + if k' = k ∧ (k, (n : Int)) ∉ P then 1 else 0 := by
  unfold cardP
  by_cases e : k' = k
  · subst e
    have : (fun i : Nat => decide ((k', (i : Int)) ∈ P ++ [(k', (n : Int))])) = fun i : Nat => decide ((k', (i : Int)) ∈ P) || decide (i = n) := by
      funext i
      by_cases h1 : (k', (i : Int)) ∈ P <;> by_cases h2 : i = n
      all_goals simp [h1, h2, Int.natCast_inj]
    rw [this, filt_or]
    by_cases h : (k', (n : Int)) ∈ P <;> simp [h, hn]
  · rw [if_neg (fun h => e h.1), Nat.add_zero]
    congr 2
    funext i
    simp [e]
/-- What is told of the first found causes. -/
structure ToldI (o : Nat) (P : List (KC × Int)) (T : List Tld) : Prop where
  asc : T.Pairwise (fun s t => cmpP (keyC s.c) (keyC t.c) < 0)
  num : ∀ t ∈ T, t.i = cardP o P (keyC t.c)
  sub : ∀ t ∈ T, ∃ n, (keyC t.c, n) ∈ P
  all : ∀ q ∈ P, ∃ t ∈ T, keyC t.c = q.1
  of : ∀ t ∈ T, t.o = o
  last : ∀ q, P.getLast? = some q → ∃ R t, T = R ++ [t] ∧ keyC t.c = q.1
def leP (a b : KC × Int) : Prop := cmpP a.1 b.1 < 0 ∨ (a.1 = b.1 ∧ a.2 ≤ b.2)
def fK (f : Fnd) : KC × Int := (keyC f.c, f.n)
theorem cmpP_irr (k : KC) : ¬ cmpP k k < 0 := by have := (cmpP_to.zero k k).2 rfl; omega
theorem told_step (o : Nat) (D : List Fnd) (hs : (D.map fK).Pairwise leP) (hn : ∀ f ∈ D, ∃ n : Nat, f.n = n ∧ n < o) (j : Nat) (hj : j < D.length) (T : List Tld) (h : ToldI o ((D.take j).map fK) T) :
    ToldI o ((D.take (j + 1)).map fK) (told2 D (told1 o D T j) j) := by
  have hD : D[j]! = D[j] := getElem!_pos D j hj
  obtain ⟨n, hfn, hno⟩ := hn D[j] (List.getElem_mem hj)
  have hP : (D.take (j + 1)).map fK = (D.take j).map fK ++ [(keyC D[j].c, (n : Int))] := by
    rw [List.take_succ_eq_append_getElem hj, List.map_append]
    show _ ++ [fK D[j]] = _
    unfold fK; rw [hfn]
  have hs1 : ((D.take (j + 1)).map fK).Pairwise leP := by
    rw [List.map_take]; exact hs.sublist (List.take_sublist _ _)
  rw [hP] at hs1 ⊢
  obtain ⟨_, _, hs2⟩ := List.pairwise_append.1 hs1
  have hs3 : ∀ q ∈ (D.take j).map fK, leP q (keyC D[j].c, (n : Int)) := fun q hq => hs2 q hq _ (by simp)
  have card := fun k' => cardP_push o ((D.take j).map fK) (keyC D[j].c) k' n hno
  have hkey : ∀ i, keyC (mkT o D[j]! i).c = keyC D[j].c := fun i => by rw [hD]; rfl
  have hof : ∀ i, (mkT o D[j]! i).o = o := fun _ => rfl
  -- a new key
  have new : (∀ q ∈ (D.take j).map fK, q.1 ≠ keyC D[j].c) → ToldI o ((D.take j).map fK ++ [(keyC D[j].c, (n : Int))]) (T ++ [mkT o D[j]! 1]) := fun hq => by
    have hk : ∀ t ∈ T, keyC t.c ≠ keyC D[j].c := fun t ht => by obtain ⟨m, hm⟩ := h.sub t ht; exact hq _ hm
    have hnot : (keyC D[j].c, (n : Int)) ∉ (D.take j).map fK := fun e => hq _ e rfl
    have hc0 : cardP o ((D.take j).map fK) (keyC D[j].c) = 0 := by
      unfold cardP
      rw [List.length_eq_zero_iff, List.filter_eq_nil_iff]
      intro i _ e
      exact hq _ (of_decide_eq_true e) rfl
    refine ⟨?_, ?_, ?_, ?_, ?_, ?_⟩
    · refine List.pairwise_append.2 ⟨h.asc, List.pairwise_singleton _ _, fun t ht u hu => ?_⟩
      rw [List.mem_singleton] at hu
      subst hu
      obtain ⟨m, hm⟩ := h.sub t ht
      rcases hs3 _ hm with h1 | h1
      · rw [hkey]; exact h1
      · exact absurd h1.1 (hk t ht)
    · intro t ht
      rcases List.mem_append.1 ht with h1 | h1
      · rw [card, if_neg (fun e => hk t h1 e.1), Nat.add_zero]; exact h.num t h1
      · rw [List.mem_singleton] at h1
        subst h1
        rw [hkey, card, if_pos ⟨rfl, hnot⟩, hc0]; rfl
    · intro t ht
      rcases List.mem_append.1 ht with h1 | h1
      · obtain ⟨m, hm⟩ := h.sub t h1; exact ⟨m, List.mem_append_left _ hm⟩
      · rw [List.mem_singleton] at h1
        subst h1
        exact ⟨n, by rw [hkey]; simp⟩
    · intro q hq'
      rcases List.mem_append.1 hq' with h1 | h1
      · obtain ⟨t, ht, e⟩ := h.all q h1; exact ⟨t, List.mem_append_left _ ht, e⟩
      · rw [List.mem_singleton] at h1
        subst h1
        exact ⟨_, by simp, hkey 1⟩
    · intro t ht
      rcases List.mem_append.1 ht with h1 | h1
      · exact h.of t h1
      · rw [List.mem_singleton] at h1; subst h1; rfl
    · intro q hq'
      rw [List.getLast?_append, List.getLast?_singleton] at hq'
      have := Option.some.inj hq'
      subst this
      exact ⟨T, _, rfl, hkey 1⟩
  have hb1 : told2 D (T ++ [mkT o D[j]! 0]) j = if !sameB D j || difB D j then T ++ [mkT o D[j]! 1] else T ++ [mkT o D[j]! 0] := by
    unfold told2; rw [bumpL_snoc]; rfl
  rcases j with _ | k
  · have e : told2 D (told1 o D T 0) 0 = T ++ [mkT o D[0]! 1] := by
      rw [show told1 o D T 0 = T ++ [mkT o D[0]! 0] from rfl, hb1]; rfl
    rw [e]
    exact new (by simp)
  · have hk : k < D.length := by omega
    have hDk : D[k]! = D[k] := getElem!_pos D k hk
    have hlast : ((D.take (k + 1)).map fK).getLast? = some (fK D[k]) := by
      rw [List.take_succ_eq_append_getElem hk, List.map_append, List.map_singleton, List.getLast?_append, List.getLast?_singleton]; rfl
    have hlm : fK D[k] ∈ (D.take (k + 1)).map fK := List.mem_of_getLast? hlast
    obtain ⟨R, t, rfl, hkt⟩ := h.last _ hlast
    have hsame : sameB D (k + 1) = decide (keyC D[k].c = keyC D[k + 1].c) := by
      show decide (cmpCau D[k]!.c D[k + 1]!.c = 0) = _
      rw [hD, hDk]
      exact decide_eq_decide.2 (cmpCau_zero _ _)
    have hdif : difB D (k + 1) = decide (D[k].n ≠ (n : Int)) := by
      show decide (D[k]!.n ≠ D[k + 1]!.n) = _
      rw [hD, hDk, hfn]
    by_cases hsm : keyC D[k].c = keyC D[k + 1].c
    · have e1 : told1 o D (R ++ [t]) (k + 1) = R ++ [t] := by unfold told1; rw [hsame, decide_eq_true hsm]; rfl
      rw [e1]
      have hkt' : keyC t.c = keyC D[k + 1].c := hkt.trans hsm
      have hRk : ∀ u ∈ R, keyC u.c ≠ keyC D[k + 1].c := fun u hu e => by
        obtain ⟨_, _, h3⟩ := List.pairwise_append.1 h.asc
        have := h3 u hu t (by simp)
        rw [e, hkt'] at this
        exact cmpP_irr _ this
      have hlastQ : ∀ q, ((D.take (k + 1)).map fK ++ [(keyC D[k + 1].c, (n : Int))]).getLast? = some q → q = (keyC D[k + 1].c, (n : Int)) := fun q hq' => by
        rw [List.getLast?_append, List.getLast?_singleton] at hq'
        exact (Option.some.inj hq').symm
      by_cases hdf : D[k].n = (n : Int)
      · have hin : (keyC D[k + 1].c, (n : Int)) ∈ (D.take (k + 1)).map fK := by
          have := hlm; unfold fK at this ⊢; rw [hsm, hdf] at this; exact this
        have e2 : told2 D (R ++ [t]) (k + 1) = R ++ [t] := by
          unfold told2; rw [hsame, hdif, decide_eq_true hsm]; simp [hdf]
        rw [e2]
        refine ⟨h.asc, fun u hu => ?_, fun u hu => ?_, fun q hq => ?_, h.of, fun q hq => ?_⟩
        · rw [card, if_neg (fun e => e.2 hin), Nat.add_zero]; exact h.num u hu
        · obtain ⟨m, hm⟩ := h.sub u hu; exact ⟨m, List.mem_append_left _ hm⟩
        · rcases List.mem_append.1 hq with h1 | h1
          · exact h.all q h1
          · rw [List.mem_singleton] at h1; subst h1; exact h.all _ hin
        · rw [hlastQ q hq]; exact ⟨R, t, rfl, hkt'⟩
      · have hnot : (keyC D[k + 1].c, (n : Int)) ∉ (D.take (k + 1)).map fK := fun e => by
          have h1 : leP (keyC D[k + 1].c, (n : Int)) (fK D[k]) ∨ (keyC D[k + 1].c, (n : Int)) = fK D[k] := by
            have hp : ((D.take k).map fK ++ [fK D[k]]).Pairwise leP := by
              have := hs.sublist ((List.take_sublist (k + 1) D).map fK)
              rw [List.take_succ_eq_append_getElem hk, List.map_append] at this
              exact this
            rw [List.take_succ_eq_append_getElem hk, List.map_append] at e
            rcases List.mem_append.1 e with h2 | h2
            · exact Or.inl ((List.pairwise_append.1 hp).2.2 _ h2 _ (by simp))
            · exact Or.inr (List.mem_singleton.1 h2)
          have h2 := hs3 _ hlm
          rcases h1 with h1 | h1
          · rcases h1 with h1 | h1
            · have h1' : cmpP (keyC D[k + 1].c) (keyC D[k].c) < 0 := h1
              rw [hsm] at h1'; exact cmpP_irr _ h1'
            · rcases h2 with h2 | h2
              · have h2' : cmpP (keyC D[k].c) (keyC D[k + 1].c) < 0 := h2
                rw [hsm] at h2'; exact cmpP_irr _ h2'
              · have a1 : (n : Int) ≤ D[k].n := h1.2
                have a2 : D[k].n ≤ (n : Int) := h2.2
                exact hdf (by omega)
          · exact hdf (congrArg Prod.snd h1).symm
        have e2 : told2 D (R ++ [t]) (k + 1) = R ++ [{ t with i := t.i + 1 }] := by
          unfold told2; rw [hsame, hdif, decide_eq_true hsm, bumpL_snoc]; simp [hdf]
        rw [e2]
        have hsub : ∀ u ∈ R ++ [{ t with i := t.i + 1 }], ∃ u' ∈ R ++ [t], keyC u'.c = keyC u.c ∧ u'.o = u.o := fun u hu => by
          rcases List.mem_append.1 hu with h1 | h1
          · exact ⟨u, List.mem_append_left _ h1, rfl, rfl⟩
          · rw [List.mem_singleton] at h1; subst h1; exact ⟨t, by simp, rfl, rfl⟩
        refine ⟨?_, fun u hu => ?_, fun u hu => ?_, fun q hq => ?_, fun u hu => ?_, fun q hq => ?_⟩
        · obtain ⟨h1, _, h3⟩ := List.pairwise_append.1 h.asc
          refine List.pairwise_append.2 ⟨h1, List.pairwise_singleton _ _, fun u hu v hv => ?_⟩
          rw [List.mem_singleton] at hv
          subst hv
          exact h3 u hu t (by simp)
        · rcases List.mem_append.1 hu with h1 | h1
          · rw [card, if_neg (fun e => hRk u h1 e.1), Nat.add_zero]; exact h.num u (List.mem_append_left _ h1)
          · rw [List.mem_singleton] at h1
            subst h1
            have := h.num t (by simp)
            show t.i + 1 = _
            rw [card, if_pos ⟨hkt', hnot⟩, this]; rfl
        · obtain ⟨u', hu', e, _⟩ := hsub u hu
          obtain ⟨m, hm⟩ := h.sub u' hu'
          exact ⟨m, by rw [← e]; exact List.mem_append_left _ hm⟩
        · have key : ∀ q : KC × Int, (∃ u ∈ R ++ [t], keyC u.c = q.1) → ∃ u ∈ R ++ [{ t with i := t.i + 1 }], keyC u.c = q.1 := fun q ⟨u, hu, e⟩ => by
            rcases List.mem_append.1 hu with h1 | h1
            · exact ⟨u, List.mem_append_left _ h1, e⟩
            · rw [List.mem_singleton] at h1; subst h1; exact ⟨{ u with i := u.i + 1 }, by simp, e⟩
          rcases List.mem_append.1 hq with h1 | h1
          · exact key q (h.all q h1)
          · rw [List.mem_singleton] at h1; subst h1; exact key _ ⟨t, by simp, hkt'⟩
        · obtain ⟨u', hu', _, e⟩ := hsub u hu
          rw [← e]; exact h.of u' hu'
        · rw [hlastQ q hq]; exact ⟨R, _, rfl, hkt'⟩
    · have e1 : told2 D (told1 o D (R ++ [t]) (k + 1)) (k + 1) = (R ++ [t]) ++ [mkT o D[k + 1]! 1] := by
        rw [show told1 o D (R ++ [t]) (k + 1) = (R ++ [t]) ++ [mkT o D[k + 1]! 0] by unfold told1; rw [hsame, decide_eq_false hsm]; rfl, hb1, hsame, decide_eq_false hsm]; rfl
      rw [e1]
      refine new fun q hq e => ?_
      have h1 : leP q (fK D[k]) ∨ q = fK D[k] := by
        have hp : ((D.take k).map fK ++ [fK D[k]]).Pairwise leP := by
          have := hs.sublist ((List.take_sublist (k + 1) D).map fK)
          rw [List.take_succ_eq_append_getElem hk, List.map_append] at this
          exact this
        rw [List.take_succ_eq_append_getElem hk, List.map_append] at hq
        rcases List.mem_append.1 hq with h2 | h2
        · exact Or.inl ((List.pairwise_append.1 hp).2.2 _ h2 _ (by simp))
        · exact Or.inr (List.mem_singleton.1 h2)
      have h2 : cmpP (keyC D[k].c) (keyC D[k + 1].c) < 0 := by
        rcases hs3 _ hlm with h2 | h2
        · exact h2
        · exact absurd h2.1 hsm
      rcases h1 with h1 | h1
      · rcases h1 with h1 | h1
        · rw [e] at h1
          exact cmpP_irr _ (cmpP_to.trans _ _ _ h1 h2)
        · exact hsm (h1.1.symm.trans e)
      · exact hsm ((congrArg Prod.fst h1).symm.trans e)
theorem toldN_plain (o : Nat) (D : List Fnd) (hs : (D.map fK).Pairwise leP) (hn : ∀ f ∈ D, ∃ n : Nat, f.n = n ∧ n < o) : ∀ j, j ≤ D.length → ToldI o ((D.take j).map fK) (toldN o D j)
  | 0, _ => by
    rw [List.take_zero]
    exact ⟨List.Pairwise.nil, fun _ h => by simp [toldN] at h, fun _ h => by simp [toldN] at h, fun _ h => by simp at h, fun _ h => by simp [toldN] at h, fun _ h => by simp at h⟩
  | j + 1, hj => told_step o D hs hn j (by omega) _ (toldN_plain o D hs hn j (by omega))
end Go.Proofs.YtemeppfikpafbaaGreat

