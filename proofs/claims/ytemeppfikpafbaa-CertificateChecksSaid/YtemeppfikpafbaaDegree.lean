/- rank.zero (63), rank.Degree (22). -/
import Derived.Test.YtemeppfikpafbaaDistM
import Derived.Test.YtemeppfikpafbaaRatio
import Derived.Deep.DeepCutAuto
namespace Go.Proofs.Ytemeppfikpafbaa
open Go.RowKit
/-- A cause: its choices and its messages. -/
structure Cau where
  undo : List K4
  hold : List M3
instance : Inhabited Cau := ⟨⟨[], []⟩⟩
structure Cau.Ok (c : Cau) : Prop where
  undo : ∀ x ∈ c.undo, x.Ok
  hold : ∀ x ∈ c.hold, x.Ok
  lu : c.undo.length ≤ 400
  lh : c.hold.length ≤ 400
def Cau.size (c : Cau) : Nat := (nd c.undo).length + (nd c.hold).length
theorem nd_len {α : Type} [DecidableEq α] (l : List α) : (nd l).length ≤ l.length := by
  have h : ∀ (l acc : List α), (l.foldl ndStep acc).length ≤ acc.length + l.length := by
    intro l
    induction l with
    | nil => intro acc; simp
    | cons x r ih =>
      intro acc
      have h1 := ih (ndStep acc x)
      have h2 : (ndStep acc x).length ≤ acc.length + 1 := by unfold ndStep; split <;> simp
      simp only [List.foldl_cons, List.length_cons]; omega
  have := h l []
  unfold nd
  simpa using this
theorem Cau.size_le {c : Cau} (h : c.Ok) : c.size ≤ 800 := by
  have h1 := nd_len c.undo
  have h2 := nd_len c.hold
  have := h.lu; have := h.lh
  unfold Cau.size; omega
def degR (n : Nat) : Int × Int := if n = 0 then (0, 1) else (1, n)
theorem zero_any (w : World) : Calls Try.prog 63 #[] w fun e w' => e = .returned (.agg #[.int .i64 0, .int .i64 1]) ∧ Lay w w' := by
  go_enter Try.func63, Try.ntmps63
  go_wp2_with fail
  have h := alloc_last w (.cells #[.int .i64 0, .int .i64 1] 32)
  have c0 : (w.alloc (.cells #[.int .i64 0, .int .i64 1] 32)).cell? ⟨w.heap.size, 0, none⟩ = some (.int .i64 0) := cell_of_blk h rfl
  have c1 : (w.alloc (.cells #[.int .i64 0, .int .i64 1] 32)).cell? ⟨w.heap.size, 1, none⟩ = some (.int .i64 1) := cell_of_blk h rfl
  exact bodyPost_ret (v := .agg #[.int .i64 0, .int .i64 1]) (by simp [results, Try.results63, go_sem, c0, c1]) rfl ⟨rfl, Lay.alloc _ _⟩
set_option maxRecDepth 100000 in
set_option maxHeartbeats 1000000 in
theorem degree_any (S S' : Nat → Prop) (c : Cau) (vu vh : Value) (w : World) (hok : c.Ok) (hu : Row S w 4 c.undo.length vu (flatC kC c.undo)) (hh : Row S' w 3 c.hold.length vh (flatC mC c.hold)) :
    Calls Try.prog 22 #[.agg #[vu, vh]] w fun e w' => e = .returned (rA (degR c.size)) ∧ More w w' := by
  obtain ⟨ua, uc, rfl, _⟩ := hu.shape
  obtain ⟨ha, hc, rfl, _⟩ := hh.shape
  have HU := Lib.hid hu; clear hu
  have HH := Lib.hid hh; clear hh
  have HOK := Lib.hid hok; clear hok
  have HSZ := Lib.hid (show ((nd c.undo).length : Int) + ((nd c.hold).length : Int) = (c.size : Int) by unfold Cau.size; omega)
  have HLE := Lib.hid (Cau.size_le HOK.out)
  have HLU := Lib.hid (nd_len c.undo)
  have HLH := Lib.hid (nd_len c.hold)
  go_enter Try.func22, Try.ntmps22
  go_wp2_with fail
  obtain ⟨h1, h2, hl⟩ := boxed2 w (.cells #[.slice ua c.undo.length uc, .slice ha c.hold.length hc] 30) (.cells #[.int .i64 0, .int .i64 0] 32)
  generalize (w.alloc (.cells #[.slice ua c.undo.length uc, .slice ha c.hold.length hc] 30)).alloc (.cells #[.int .i64 0, .int .i64 0] 32) = w2 at *
  have HM2 := Lib.hid hl.1
  have H1 := Lib.hid h1
  have H2 := Lib.hid h2
  have K0 : w2.drew.cell? ⟨w.heap.size, 0, none⟩ = some (.slice ua c.undo.length uc) ∧ w2.drew.cell? ⟨w.heap.size, 1, none⟩ = some (.slice ha c.hold.length hc) := ⟨cell_of_blk h1 rfl, cell_of_blk h1 rfl⟩
  clear h1 h2 hl
  go_cut [3] (fun s wx => s = .int .i64 c.size ∧ Hid (More w2 wx))
  case first =>
    have HM := Lib.hid (more_drew w2)
    have HKEEP := Lib.hid (show ∀ W, More w2 W → W.cell? ⟨w.heap.size, 0, none⟩ = some (.slice ua c.undo.length uc) ∧ W.cell? ⟨w.heap.size, 1, none⟩ = some (.slice ha c.hold.length hc) from fun W h => ⟨h.cell K0.1, h.cell K0.2⟩)
    have hb1 : ((nd c.undo).length : Int) ≤ 400 := by have := HLU.out; have := HOK.out.lu; omega
    have hb2 : ((nd c.hold).length : Int) ≤ 400 := by have := HLH.out; have := HOK.out.lh; omega
    have hsum := HSZ.out
    go_region_held3 (fun W => W.cell? ⟨w.heap.size, 0, none⟩ = some (.slice ua c.undo.length uc) ∧ W.cell? ⟨w.heap.size, 1, none⟩ = some (.slice ha c.hold.length hc)) (exact HKEEP.out _ HM.out) (first | (go_at_call 61; refine (distinctK_any S c.undo _ _ (by have := HOK.out.lu; omega) HOK.out.undo (HU.out.below (more_trans HM2.out HM.out).below)).mono ?_; rintro e w3 ⟨rfl, hm⟩; have HM := Lib.hid (more_trans HM.out (more_of hm)); clear hm) | (go_at_call 62; refine (distinctM_any S' c.hold _ _ (by have := HOK.out.lh; omega) HOK.out.hold (HH.out.below (more_trans HM2.out HM.out).below)).mono ?_; rintro e w3 ⟨rfl, hm⟩; have HM := Lib.hid (more_trans HM.out (more_of hm)); clear hm))
    all_goals (go_wp2_with fail; go_meet)
    all_goals exact ⟨by have := HLE.out; rw [show IntKind.i64.wrap (c.size : Int) = (c.size : Int) by rw [IntKind.wrap_i64]; omega], HM⟩
  case rest =>
    obtain ⟨rfl, HM⟩ := hcut
    have HLW := Lib.hid (show w.heap.size + 1 < w2.heap.size from (Array.getElem?_eq_some_iff.1 H2.out).1)
    have hle := HLE.out
    obtain ⟨n, hnc⟩ : ∃ n, c.size = n := ⟨_, rfl⟩
    rw [hnc] at hle
    rw [hnc]
    have HNE := Lib.hid hnc
    clear hnc
    by_cases hn : n = 0
    · have t1 : ((n : Int) == 0) = true := by simp [hn]
      have HD := Lib.hid (show degR n = (0, 1) by unfold degR; rw [if_pos hn])
      clear hn
      go_wp2_with fail
      refine (zero_any _).mono ?_
      rintro e w4 ⟨rfl, hl4⟩
      have h2 := ((more_trans HM.out hl4.1).block HLW.out).trans H2.out
      have k0 : w4.cell? ⟨w.heap.size + 1, 0, none⟩ = some (.int .i64 0) := cell_of_blk h2 rfl
      have k1 : w4.cell? ⟨w.heap.size + 1, 1, none⟩ = some (.int .i64 0) := cell_of_blk h2 rfl
      have f0 := thaw h2 0
      have f1 := thaw h2 1
      have HM4 := Lib.hid (more_trans HM2.out (more_trans HM.out hl4.1))
      clear h2 hl4
      go_wp2_with fail
      have c0 : ((w4.setCell ⟨w.heap.size + 1, 0, none⟩ (.int .i64 0)).setCell ⟨w.heap.size + 1, 1, none⟩ (.int .i64 1)).cell? ⟨w.heap.size + 1, 0, none⟩ = some (.int .i64 0) := by rw [setCell_neq (by omega)]; exact setCell_eq k0
      have c1 : ((w4.setCell ⟨w.heap.size + 1, 0, none⟩ (.int .i64 0)).setCell ⟨w.heap.size + 1, 1, none⟩ (.int .i64 1)).cell? ⟨w.heap.size + 1, 1, none⟩ = some (.int .i64 1) := setCell_eq (v := .int .i64 0) (by rw [setCell_neq (by omega)]; exact k1)
      exact bodyPost_ret (v := .agg #[.int .i64 0, .int .i64 1]) (by simp [results, Try.results22, go_sem, c0, c1]) rfl ⟨by rw [HNE.out, HD.out]; rfl, more_of ((HM4.out.below.setCell (Nat.le_succ _) _).setCell (Nat.le_succ _) _)⟩
    · have t1 : ((n : Int) == 0) = false := by rw [beq_eq_false_iff_ne]; omega
      have HD := Lib.hid (show degR n = (1, (n : Int)) by unfold degR; rw [if_neg hn])
      clear hn
      have h2 := (HM.out.block HLW.out).trans H2.out
      have k0 : wc.cell? ⟨w.heap.size + 1, 0, none⟩ = some (.int .i64 0) := cell_of_blk h2 rfl
      have k1 : wc.cell? ⟨w.heap.size + 1, 1, none⟩ = some (.int .i64 0) := cell_of_blk h2 rfl
      have f0 := thaw h2 0
      have f1 := thaw h2 1
      have HM4 := Lib.hid (more_trans HM2.out HM.out)
      clear h2
      go_wp2_with fail
      have c0 : ((wc.setCell ⟨w.heap.size + 1, 0, none⟩ (.int .i64 1)).setCell ⟨w.heap.size + 1, 1, none⟩ (.int .i64 n)).cell? ⟨w.heap.size + 1, 0, none⟩ = some (.int .i64 1) := by rw [setCell_neq (by omega)]; exact setCell_eq k0
      have c1 : ((wc.setCell ⟨w.heap.size + 1, 0, none⟩ (.int .i64 1)).setCell ⟨w.heap.size + 1, 1, none⟩ (.int .i64 n)).cell? ⟨w.heap.size + 1, 1, none⟩ = some (.int .i64 n) := setCell_eq (v := .int .i64 0) (by rw [setCell_neq (by omega)]; exact k1)
      exact bodyPost_ret (v := .agg #[.int .i64 1, .int .i64 n]) (by simp [results, Try.results22, go_sem, c0, c1]) rfl ⟨by rw [HNE.out, HD.out]; rfl, more_of ((HM4.out.below.setCell (Nat.le_succ _) _).setCell (Nat.le_succ _) _)⟩
end Go.Proofs.Ytemeppfikpafbaa
