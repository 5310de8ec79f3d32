/- cache.sorted (82) and its comparison (125); choice.New (86). -/
import Derived.Test.YtemeppfikpafbaaBuildC
import Derived.Test.YtemeppfikpafbaaDegs
import Derived.Test.YtemeppfikpafbaaNilB
import Derived.StillTailTactics
namespace Go.Proofs.Ytemeppfikpafbaa
open Go.RowKit Go.Sort Go.Shelf
def cmpM3 (x y : M3) : Int := orI [cmpI x.f y.f, cmpI x.t y.t, cmpI x.n y.n]
theorem cmpM_by : CmpBy cmpM3 ltM where
  neg x y := by
    unfold cmpM3 ltM
    rw [orI_neg, orI_neg, orI_neg, orI_nil, cmpI_neg, cmpI_neg, cmpI_neg, cmpI_zero, cmpI_zero]
    simp
  irrefl := ltM_irrefl
  trans _ _ _ := ltM_trans
  tri _ _ := ltM_tri
set_option maxRecDepth 100000 in
theorem cmpMsg_any : CmpSaid 125 mC cmpM3 := by
  intro x y w
  unfold mC
  have H := Lib.hid (show orI [cmpI x.f y.f, cmpI x.t y.t, cmpI x.n y.n] = cmpM3 x y from rfl)
  go_enter Try.func125, Try.ntmps125
  go_wp2_with fail
  obtain ⟨h1, h2, hm⟩ := boxed2 w (.cells #[.int .i64 x.f, .int .i64 x.t, .int .i64 x.n] 54) (.cells #[.int .i64 y.f, .int .i64 y.t, .int .i64 y.n] 54)
  generalize (w.alloc (.cells #[.int .i64 x.f, .int .i64 x.t, .int .i64 x.n] 54)).alloc (.cells #[.int .i64 y.f, .int .i64 y.t, .int .i64 y.n] 54) = w2 at *
  have a0 : w2.cell? ⟨w.heap.size, 0, none⟩ = some (.int .i64 x.f) := cell_of_blk h1 rfl
  have a1 : w2.cell? ⟨w.heap.size, 1, none⟩ = some (.int .i64 x.t) := cell_of_blk h1 rfl
  have a2 : w2.cell? ⟨w.heap.size, 2, none⟩ = some (.int .i64 x.n) := cell_of_blk h1 rfl
  have b0 : w2.cell? ⟨w.heap.size + 1, 0, none⟩ = some (.int .i64 y.f) := cell_of_blk h2 rfl
  have b1 : w2.cell? ⟨w.heap.size + 1, 1, none⟩ = some (.int .i64 y.t) := cell_of_blk h2 rfl
  have b2 : w2.cell? ⟨w.heap.size + 1, 2, none⟩ = some (.int .i64 y.n) := cell_of_blk h2 rfl
  have HM := Lib.hid hm
  clear h1 h2 hm
  have ha := cell_lt a0
  have hb := cell_lt b0
  refine wp_region_still_tail 15 (by kernel_rfl) (by kernel_rfl) ?_
  simp only [List.take_succ_cons, List.take_zero, List.drop_succ_cons, List.drop_zero]
  repeat still_step
  still_call (cmpN_any _ _ _)
  repeat still_step
  still_call (cmpN_any _ _ _)
  repeat still_step
  still_call (cmpN_any _ _ _)
  refine wpStill_nil ?_
  change wpList _ _ _ _ _ w2.drew
  generalize hw3 : w2.drew = w3
  have HM3 := Lib.hid (show Lay w w3 by rw [← hw3]; exact HM.out.trans (Lay.drew _))
  clear a0 a1 a2 b0 b1 b2 ha hb hw3
  go_wp2_with fail
  refine (or_any (fun _ => True) [cmpI x.f y.f, cmpI x.t y.t, cmpI x.n y.n] _ _ (show 3 ≤ 1000000 by decide) (row_lit trivial rfl)).mono ?_
  rw [H.out]
  rintro e w' ⟨rfl, hw'⟩
  rw [hw']
  clear hw' w'
  go_wp2_with fail
  go_ret
  exact ⟨rfl, HM3.out.trans (Lay.alloc _ _)⟩
theorem agg54 : ∀ w, (isAgg (Try.sortMsg_ren.t 24)).run Try.prog w = .ok true w := fun _ => by kernel_rfl
theorem size54 : ∀ w, (Go.sizeOf (Try.sortMsg_ren.t 24)).run Try.prog w = .ok 3 w := fun _ => by kernel_rfl
theorem call125 : ∀ args w, (callFunc 125 args).run Try.prog w = .ok (.enter 125 args) w := fun _ _ => by kernel_rfl
theorem mC_one' (x : M3) : ∀ v ∈ mC x, v.oneCell' = true := by intro v hv; simp [mC] at hv; rcases hv with rfl | rfl | rfl <;> rfl
def srtM (l : List M3) : List M3 := l.mergeSort fun x y => !(ltOf cmpM3) y x
theorem sortMsg {s : List M3} (v : Value) (B : Nat) (w : World) (hl : s.length < 1000000) (hown : w.ownsRow B 54 3 v s.length (flatC mC s)) :
    Calls Try.prog 124 #[v, .func (.func 125) #[] #[]] w fun e w' => e = .returned (.tuple #[]) ∧ w.grownBy w' v.ownBlock ∧ w'.ownsRow B 54 3 v s.length (flatC mC (srtM s)) :=
  sortF (ρ := Try.sortMsg_ren) Try.sortMsg agg54 size54 mC_len (by omega) mC_one' cmpM3 cmpM_by.swo cmpM_by.total 125 call125 cmpMsg_any s v B 54 w (by omega) hown
theorem agg113 : ∀ w, (isAgg (Try.sortChoice_ren.t 24)).run Try.prog w = .ok true w := fun _ => by kernel_rfl
theorem size113 : ∀ w, (Go.sizeOf (Try.sortChoice_ren.t 24)).run Try.prog w = .ok 7 w := fun _ => by kernel_rfl
theorem call127 : ∀ args w, (callFunc 127 args).run Try.prog w = .ok (.enter 127 args) w := fun _ _ => by kernel_rfl
theorem chC_one (x : Ch) : ∀ v ∈ chC x, v.oneCell' = true := by intro v hv; simp [chC] at hv; rcases hv with rfl | rfl | rfl | rfl | rfl | rfl | rfl <;> rfl
def srtK (s : List K4) : List K4 := s.mergeSort fun x y => !(ltOf cmpK4) y x
def withT (f : K4 → Int) (s : List K4) : List Ch := s.map fun k => ⟨k, f k⟩
theorem flat_withT (f : K4 → Int) (s : List K4) : flatC (fun k => chC ⟨k, f k⟩) s = flatC chC (withT f s) := by
  unfold flatC withT
  rw [List.flatMap_map]
theorem sortChoice (f : K4 → Int) {s : List K4} (v : Value) (B : Nat) (w : World) (hl : s.length < 1000000) (hown : w.ownsRow B 113 7 v s.length (flatC chC (withT f s))) :
    Calls Try.prog 126 #[v, .func (.func 127) #[] #[]] w fun e w' => e = .returned (.tuple #[]) ∧ w.grownBy w' v.ownBlock ∧ w'.ownsRow B 113 7 v s.length (flatC chC (withT f (srtK s))) := by
  rw [← flat_withT] at hown
  have := sortF (ρ := Try.sortChoice_ren) Try.sortChoice agg113 size113 (enc := fun k => chC ⟨k, f k⟩) (fun _ => chC_len _) (by omega) (fun x => chC_one _) cmpK4 cmpK_by.swo cmpK_by.total 127 call127 (newCmp_any f) s v B 113 w (by omega) hown
  rw [flat_withT] at this
  exact this
theorem srtM_len (l : List M3) : (srtM l).length = l.length := List.length_mergeSort _
theorem mem_srtM (l : List M3) (x : M3) : x ∈ srtM l ↔ x ∈ l := List.mem_mergeSort
set_option maxRecDepth 100000 in
set_option maxHeartbeats 1000000 in
theorem cloneM_own (l : List M3) (v : Value) (w : World) (hl : l.length ≤ 1000000) (h : Row anyB w 3 l.length v (flatC mC l)) (hn : NilA v) :
    Calls Try.prog 81 #[v] w fun e w' => (∃ v', e = .returned v' ∧ w'.ownsRow w.heap.size 54 3 v' l.length (flatC mC l)) ∧ Below w.heap.size w w' := by
  obtain ⟨a, cap, rfl, _⟩ := h.shape
  obtain ⟨i0, hi0, hz0, hz1, hz2⟩ := info_parts info54
  have hq := fun W => Lib.run_eql_slice_nil (P := Try.prog) W 28 54 a l.length cap 0 0 Try.underlying28
  cases a with
  | none =>
    obtain rfl := hn _ _ rfl
    have HR := Lib.hid h; clear h
    go_enter Try.func81, Try.ntmps81
    go_wp2_with fail
    go_ret
    have e0 : l = [] := by
      cases l with
      | nil => rfl
      | cons x r => obtain ⟨_, _, he, _⟩ := HR.out.at (by simp); cases he
    subst e0
    exact ⟨⟨_, rfl, World.ownsRow_nil _ _ _ _⟩, Below.refl _ _⟩
  | some ta =>
    have HR := Lib.hid h; clear h
    have HM := Lib.hid (more_alloc w (.cells #[] 54))
    have HN := Lib.hid (row_news mC_len (HR.out.below HM.out.below))
    have HO := Lib.hid (ownsRow_empty w 54 3)
    have HB := Lib.hid ((Below.refl w.heap.size w).alloc (Nat.le_refl _) (.cells #[] 54))
    have hm1 : 0 + l.length ≤ maxLen := by unfold maxLen; omega
    have hm2 : (0 + l.length) * 24 ≤ 140737488355328 := by omega
    go_enter Try.func81, Try.ntmps81
    go_wp2_with (at_builtin; refine wpList_append_own _ rfl _ _ 28 rfl w.heap.size 54 i0 _ 3 24 Try.underlying28 hi0 hz0 hz1 hz2 rfl (by omega) (.slice (some ⟨w.heap.size, 0, none⟩) 0 0) 0 [] rfl HO.out ta l.length cap (flatC mC l) rfl (flatC_len mC_len l) HN.out (mC_one l) hm1 hm2 (by rw [World.size_alloc]; omega) ?_; intro v6 w6 hown6 hgrow6 _)
    have HB6 := Lib.hid (HB.out.grown hgrow6 (by rw [World.size_alloc]; omega) (fun z hz => by simp [Value.ownBlock] at hz; omega))
    have HO6 := Lib.hid (show w6.ownsRow w.heap.size 54 3 v6 l.length (flatC mC l) by simpa using hown6)
    clear hown6 hgrow6
    go_wp2_with fail
    go_ret
    exact ⟨⟨_, rfl, HO6.out⟩, HB6.out⟩
set_option maxRecDepth 100000 in
theorem sorted_any (l : List M3) (v : Value) (w : World) (hl : l.length ≤ 100000) (h : Row anyB w 3 l.length v (flatC mC l)) (hn : NilA v) :
    Calls Try.prog 82 #[v] w fun e w' => (∃ v', e = .returned v' ∧ w'.ownsRow w.heap.size 54 3 v' l.length (flatC mC (srtM l))) ∧ Below w.heap.size w w' := by
  have HC := Lib.hid (cloneM_own l v w (by omega) h hn)
  have HL := Lib.hid hl
  clear h hn hl
  go_enter Try.func82, Try.ntmps82
  go_wp2_with fail
  refine HC.out.mono ?_
  rintro e w2 ⟨⟨v2, rfl, ho2⟩, hb2⟩
  have HO := Lib.hid ho2
  have HB := Lib.hid hb2
  clear ho2 hb2 HC
  obtain ⟨a, cap, rfl, _⟩ := owns_shape HO.out
  go_wp2_with fail
  refine (sortMsg _ _ w2 (by have := HL.out; omega) HO.out).mono ?_
  rintro e w3 ⟨rfl, hg, ho3⟩
  have HB3 := Lib.hid (HB.out.grown hg HB.out.size (fun z hz => ((owns_shape HO.out).choose_spec.choose_spec.2 z hz).1))
  have HO3 := Lib.hid ho3
  clear hg ho3
  go_wp2_with fail
  go_ret
  exact ⟨⟨_, rfl, HO3.out⟩, HB3.out⟩
end Go.Proofs.Ytemeppfikpafbaa
