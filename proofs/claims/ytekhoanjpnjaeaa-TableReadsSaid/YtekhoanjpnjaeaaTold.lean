/- rootcauselaw09.told (35). -/
import Derived.Test.YtekhoanjpnjaeaaAll
import Derived.Test.YtekhoanjpnjaeaaRefTab
namespace Go.Proofs.Ytekhoanjpnjaeaa
open Go.RowKit Go.Shelf
attribute [local go_sem] Oper.semAt_some

set_option maxRecDepth 100000 in
set_option maxHeartbeats 4000000 in
theorem told_any (zs : List (Int × Int)) (a : Option Addr) (cap : Nat) (w : World) (hl : zs.length < 4294967296) (hR : Row (fun b => b < w.heap.size) w 2 zs.length (.slice a zs.length cap) (flat2 zs)) :
    Calls Try.prog 35 #[.agg #[.slice a zs.length cap]] w fun e w' => Below w.heap.size w w' ∧ ∃ v, e = .returned v ∧ Row (fun x => w.heap.size ≤ x) w' 2 zs.length v (flat2 zs) := by
  obtain ⟨i0, hi, hz0, hz1, hz2⟩ := info_parts Try.info66
  have HR := Lib.hid hR; clear hR
  refine (callsIn_wide (n := 3)).1 ?_
  refine callsIn_of_wp_marks Try.func35 rfl trivial ?_ rfl
  simp only [Try.ntmps35, List.size_toArray, List.length_cons, List.length_nil, Nat.reduceAdd, Nat.reduceSub, Array.replicate_succ, Array.replicate_zero, List.push_toArray, List.append_toArray, List.nil_append, List.cons_append]
  gi_wp2_with (refine ⟨trivial, ?_⟩; gi_at_call 39; refine (all_in Fence.wide (3 - 1) trivial rfl _ _ _ _).mono ?_; rintro e w' ⟨rfl, rfl⟩)
  have bO := Boxed.new (w.alloc (.cells #[.slice a zs.length cap] 54)) 58 (.slice none 0 0)
  have bN := Boxed.new ((w.alloc (.cells #[.slice a zs.length cap] 54)).alloc (.cells #[.slice none 0 0] 58)) 54 (.slice a zs.length cap)
  rw [World.size_alloc] at bO bN
  rw [World.size_alloc] at bN
  have hB0 : Below w.heap.size w (((w.alloc (.cells #[.slice a zs.length cap] 54)).alloc (.cells #[.slice none 0 0] 58)).alloc (.cells #[.slice a zs.length cap] 54)) := (((Below.refl _ w).alloc (Nat.le_refl _) _).alloc (by simp) _).alloc (by simp; omega) _
  refine wpIn_rangeFunc_ownG rfl (by decide) (gf := 80) (lb := #[.pointer (some ⟨w.heap.size + 1 + 1, 0, none⟩)]) rfl trivial (enters_of Try.func80 (by kernel_rfl) rfl)
    (all_stops Fence.wide (3 - 1) trivial rfl (by decide) (w.heap.size + 1 + 1) w.heap.size (.slice a zs.length cap) zs hl _ (by simp) (by simp; omega) bN.cell (HR.out.belowN hB0)) belowK_t (belowK_b (by simp; omega)) (Below.refl _ _) (fun _ => rfl)
    (fun pre W => (∃ v, Boxed W (w.heap.size + 1) 58 v ∧ W.ownsRow w.heap.size 66 2 v pre.length (flat2 pre) ∧ True) ∧ Below w.heap.size w W)
    (fun _ _ _ => False)
    (OwnFrom.and (Own.from (holdsRow_own w.heap.size (w.heap.size + 1) 58 66 2 (fun pre => pre.length) (fun pre => flat2 pre) (fun _ _ => True)) _) (ownFrom_below (Nat.le_refl _) (by simp; omega)))
    (fun _ _ _ _ _ hs _ _ => hs)
    ⟨⟨_, bO.alloc _, World.ownsRow_nil _ _ _ _, trivial⟩, hB0⟩
    (fun x => { tmps := #[.agg #[.slice a zs.length cap], .pointer (some ⟨w.heap.size, 0, none⟩), .slice none 0 0, .pointer (some ⟨w.heap.size + 1, 0, none⟩), .int .i64 x.1, .int .i64 x.2, .agg #[.slice a zs.length cap], .func (.func 80) #[] #[.pointer (some ⟨w.heap.size + 1 + 1, 0, none⟩)], .int .i64 x.1, .int .i64 x.2, undef, undef, undef, undef, undef, undef, undef], defers := [] }) ?assign ?body ?done ?stop
  case assign =>
    intro l x W K hK
    simp only [encE]
    gi_wp2
    exact hK
  case body =>
    rintro l pre x W ⟨⟨v, hv, hrow, _⟩, hB⟩ hlt
    have hc := hv.cell
    gi_wp2_with (gi_at_builtin; refine wpListIn_append_own _ rfl _ _ 58 rfl w.heap.size 66 i0 _ 2 16 Try.underlying58 hi hz0 hz1 hz2 rfl (by decide) _ _ _ rfl (hrow.alloc _) ⟨W.heap.size, 0, none⟩ 1 1 [.int .i64 x.1, .int .i64 x.2] rfl rfl (World.news_of_block (cs := #[.int .i64 x.1, .int .i64 x.2]) (t := 66) (fr := (0, 0)) (heap_alloc_new _ _)) (by simp [Value.oneCell']) (by unfold maxLen; omega) (by omega) (by have := hB.size; simp; omega) ?_; intro v' w1 hown' hgrow _; obtain ⟨g', cap', rfl⟩ := ownsRow_succ hown'; obtain ⟨hv1, hv2, hr2, hk2, hb2⟩ := hv.appended (by decide) hrow hB.size (by omega) hown' hgrow; have hc1 := hv1.cell; have hf1 := hv1.frozen)
    exact ⟨hk2.from _, hb2, ⟨_, hv2, by rw [flat2_push, List.length_append]; exact hr2, trivial⟩, hB.trans hb2⟩
  case done =>
    rintro D ys W hD rfl ⟨⟨v, hv, hrow, _⟩, hB⟩ hK
    have hc := hv.cell
    gi_wp2
    refine ⟨by simp, .inl ⟨_, _, rfl, run_takeDeferred hK, ?_⟩⟩
    exact ⟨_, results_tmp rfl _ _ _, hB.trans (belowK_b (w := w) (Nat.le_refl _) W D _ _ (by simp at hD; omega) hK rfl rfl), v, rfl, Row.of_owns (ownsRow_putObj hrow _ hK rfl)⟩
  case stop =>
    rintro D c pre W _ _ h _
    exact h.elim
end Go.Proofs.Ytekhoanjpnjaeaa
