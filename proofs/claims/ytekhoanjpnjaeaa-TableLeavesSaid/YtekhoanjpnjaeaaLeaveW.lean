/- The walk of TableLeaves (8). -/
import Derived.Test.YtekhoanjpnjaeaaOpenP
import Derived.Test.YtekhoanjpnjaeaaAwake9
import Derived.OpenShut
import Derived.IntWalk
namespace Go.Proofs.Ytekhoanjpnjaeaa
open Go.RowKit Go.Shelf

/-- The table without the keys of pre. -/
def delAll (zs pre : List (Int × Int)) : List (Int × Int) := pre.foldl (fun u x => delL u x.1) zs
theorem delAll_push (zs pre : List (Int × Int)) (x : Int × Int) : delAll zs (pre ++ [x]) = delL (delAll zs pre) x.1 := by
  unfold delAll; rw [List.foldl_append]; rfl
theorem asc_delAll {zs : List (Int × Int)} (h : Asc zs) (pre : List (Int × Int)) : Asc (delAll zs pre) :=
  snoc_ind (P := fun pre => Asc (delAll zs pre)) h (fun l x ih => by rw [delAll_push]; exact asc_del ih _) pre
theorem len_delAll (zs pre : List (Int × Int)) : (delAll zs pre).length ≤ zs.length :=
  snoc_ind (P := fun pre => (delAll zs pre).length ≤ zs.length) (Nat.le_refl _) (fun l x ih => by rw [delAll_push]; exact Nat.le_trans (delL_le _ _) ih) pre
theorem del_head {x : Int × Int} {r : List (Int × Int)} (h : Asc (x :: r)) : delL (x :: r) x.1 = r := by
  unfold delL
  rw [List.filter_cons]
  simp only [beq_self_eq_true, Bool.not_true, Bool.false_eq_true, if_false]
  refine List.filter_eq_self.2 fun y hy => ?_
  have := (asc_cons.1 h).1 y hy
  simp; omega
theorem asc_drop {l : List (Int × Int)} (h : Asc l) (j : Nat) : Asc (l.drop j) := h.sublist (List.drop_sublist j l)
theorem delAll_take {zs : List (Int × Int)} (h : Asc zs) : ∀ j, j ≤ zs.length → delAll zs (zs.take j) = zs.drop j
  | 0, _ => by simp [delAll]
  | j + 1, hj => by
    have hlt : j < zs.length := by omega
    rw [List.take_succ_eq_append_getElem hlt, delAll_push, delAll_take h j (by omega), List.drop_eq_getElem_cons hlt]
    exact del_head (by rw [← List.drop_eq_getElem_cons hlt]; exact asc_drop h j)
theorem delAll_pre {zs pre : List (Int × Int)} (h : Asc zs) (hp : pre <+: zs) : (delAll zs pre).length + pre.length = zs.length := by
  have e : pre = zs.take pre.length := List.prefix_iff_eq_take.1 hp
  have hl := hp.length_le
  rw [e, delAll_take h _ hl, List.length_drop, List.length_take]
  omega
/-- The last key that came. -/
def lastK (pre : List (Int × Int)) : Int := (pre.getLast?.map (·.1)).getD 0
theorem lastK_push (pre : List (Int × Int)) (x : Int × Int) : lastK (pre ++ [x]) = x.1 := by
  unfold lastK; simp
theorem pre_facts {zs pre : List (Int × Int)} {x : Int × Int} (h : Asc zs) (hp : pre ++ [x] <+: zs) : getL zs x.1 = some x.2 ∧ (0 < pre.length → lastK pre < x.1) := by
  obtain ⟨r, rfl⟩ := hp
  refine ⟨getL_of_mem h (by simp), fun hl => ?_⟩
  have hne : pre ≠ [] := by intro e; subst e; simp at hl
  have hm : pre.getLast hne ∈ pre := List.getLast_mem hne
  have : lastK pre = (pre.getLast hne).1 := by unfold lastK; rw [List.getLast?_eq_some_getLast hne]; rfl
  rw [this]
  unfold Asc at h
  rw [List.append_assoc, List.pairwise_append] at h
  exact h.2.2 _ hm x (by simp)

theorem TV.grown {W W' : World} {l : List (Int × Int)} {tv : Value} (h : TV W l tv) (hw : ∀ b off u u', W.cell? ⟨b, off, none⟩ = some u → W.cell? ⟨b, off + 1, none⟩ = some u' → W'.cell? ⟨b, off, none⟩ = some u ∧ W'.cell? ⟨b, off + 1, none⟩ = some u') : TV W' l tv := by
  obtain ⟨a, cap, rfl, hr, hp⟩ := h
  refine ⟨a, cap, rfl, ⟨hr.1, a, cap, rfl, ?_, fun hn => ?_⟩, hp⟩
  · obtain ⟨a', cap', e, hc⟩ := hr.shape; cases e; exact hc
  · obtain ⟨b, off, rfl, _, hS, hc⟩ := hr.at hn
    refine ⟨b, off, rfl, hS, fun j u hu => ?_⟩
    have hj : j / 2 < l.length := by
      have := (List.getElem?_eq_some_iff.1 hu).1
      rw [flat2_length] at this; omega
    have g := flat2_get l (j / 2) hj
    have := hw b (off + j / 2 * 2) _ _ (hc _ _ g.1) (by rw [Nat.add_assoc]; exact hc _ _ g.2)
    rcases Nat.mod_two_eq_zero_or_one j with e | e
    · have ej : j / 2 * 2 = j := by omega
      rw [ej] at g this
      rw [g.1] at hu; cases hu; exact this.1
    · have ej : j / 2 * 2 + 1 = j := by omega
      rw [ej] at g
      rw [Nat.add_assoc, ej] at this
      rw [g.2] at hu; cases hu; exact this.2
theorem TV.own {l : List (Int × Int)} {tv : Value} {W W' : World} {row : Option Nat} (h : TV W l tv) (hg : W.grownBy W' row) (hr : ∀ r, row = some r → ∃ o : Obj, W.heap[r]? = some o ∧ o.isCells = false) : TV W' l tv :=
  h.grown fun _ _ _ _ h1 h2 => ⟨cell_kept h1 hg hr, cell_kept h2 hg hr⟩
theorem TV.set {W : World} {B : Nat} {t : TypeId} {v : Value} {l : List (Int × Int)} {tv : Value} (hb : Boxed W B t v) (h : TV W l tv) (u : Value) : TV (W.setCell ⟨B, 0, none⟩ u) l tv :=
  h.grown fun b off x y h1 h2 => by
    have hne : b ≠ B := by
      intro e
      subst e
      have h3 : W.heap[b]? = some (.cells #[v] t (0, 0)) := hb
      simp [World.cell?, h3] at h2
    have e := grownBy_setCell' W B u
    exact ⟨grown_none e hne h1, grown_none e hne h2⟩

/-- What the loop's own cells hold when pre has come. -/
structure LeaveI (w : World) (T : Nat) (most : Int) (tv : Value) (zs pre : List (Int × Int)) (W : World) : Prop where
  most : W.cell? ⟨w.heap.size, 0, none⟩ = some (.int .i64 most)
  res : Boxed W (w.heap.size + 1) 4 (.bool false)
  tab : W.cell? ⟨T, 0, none⟩ = some tv
  tv : TV W zs tv
  u : ∃ a cap, Boxed W (T + 1) 54 (.slice a (delAll zs pre).length cap) ∧ TV W (delAll zs pre) (.slice a (delAll zs pre).length cap)
  n : Boxed W (T + 1 + 1) 3 (.int .i64 pre.length)
  last : Boxed W (T + 1 + 1 + 1) 2 (.int .i64 (lastK pre))
  below : Below w.heap.size w W
theorem LeaveI.own {w : World} {T B : Nat} {most : Int} {tv : Value} {zs : List (Int × Int)} (hB : w.heap.size ≤ B) : OwnFrom B (fun pre W => LeaveI w T most tv zs pre W) :=
  fun pre W W' row h hg hr => by
    have hr2 : ∀ r, row = some r → ∃ o : Obj, W.heap[r]? = some o ∧ o.isCells = false := fun r e => (hr r e).2
    obtain ⟨a, cap, hu1, hu2⟩ := h.u
    exact ⟨cell_kept h.most hg hr2, boxed_own (β := Unit) _ _ (fun _ => _) () _ _ _ h.res hg hr2, cell_kept h.tab hg hr2, h.tv.own hg hr2, ⟨a, cap, boxed_own (β := Unit) _ _ (fun _ => _) () _ _ _ hu1 hg hr2, hu2.own hg hr2⟩,
      boxed_own (β := Unit) _ _ (fun _ => _) () _ _ _ h.n hg hr2, boxed_own (β := Unit) _ _ (fun _ => _) () _ _ _ h.last hg hr2, ownFrom_below (β := Unit) (Nat.le_refl _) hB () _ _ _ h.below hg hr⟩
theorem LeaveI.more {w W W' : World} {T : Nat} {most : Int} {tv : Value} {zs pre : List (Int × Int)} (h : LeaveI w T most tv zs pre W) (hm : More W W') : LeaveI w T most tv zs pre W' := by
  obtain ⟨a, cap, hu1, hu2⟩ := h.u
  exact ⟨hm.cell h.most, h.res.kept hm (by simp), hm.cell h.tab, h.tv.more hm, ⟨a, cap, hu1.kept hm (by simp), hu2.more hm⟩, h.n.kept hm (by simp), h.last.kept hm (by simp), h.below.trans (hm.below.mono h.below.size)⟩
theorem LeaveI.step {w W W2 : World} {T : Nat} {most : Int} {tv : Value} {zs pre : List (Int × Int)} (h : LeaveI w T most tv zs pre W) (hT : w.heap.size + 1 < T) (hm : More W W2) {x : Int × Int} {a : Option Addr} {cap : Nat}
    (hu : TV W2 (delL (delAll zs pre) x.1) (.slice a (delL (delAll zs pre) x.1).length cap)) (hn : pre.length < 1000) :
    LeaveI w T most tv zs (pre ++ [x]) (((W2.setCell ⟨T + 1, 0, none⟩ (.slice a (delL (delAll zs pre) x.1).length cap)).setCell ⟨T + 1 + 1 + 1, 0, none⟩ (.int .i64 x.1)).setCell ⟨T + 1 + 1, 0, none⟩ (.int .i64 ((pre.length : Int) + 1))) := by
  have h2 := h.more hm
  obtain ⟨a0, cap0, hu1, hu2⟩ := h2.u
  have b1 := hu1.set (.slice a (delL (delAll zs pre) x.1).length cap)
  have l1 := h2.last.other (show T + 1 + 1 + 1 ≠ T + 1 by omega) (.slice a (delL (delAll zs pre) x.1).length cap)
  have n1 := h2.n.other (show T + 1 + 1 ≠ T + 1 by omega) (.slice a (delL (delAll zs pre) x.1).length cap)
  have n2 := n1.other (show T + 1 + 1 ≠ T + 1 + 1 + 1 by omega) (.int .i64 x.1)
  have l2 := l1.set (.int .i64 x.1)
  refine ⟨?_, ?_, ?_, ?_, ⟨a, cap, ?_, ?_⟩, ?_, ?_, ?_⟩
  · rw [World.cell?_setCell_other _ _ _ _ (fun e => by have := congrArg Addr.block e; simp at this; omega), World.cell?_setCell_other _ _ _ _ (fun e => by have := congrArg Addr.block e; simp at this; omega), World.cell?_setCell_other _ _ _ _ (fun e => by have := congrArg Addr.block e; simp at this; omega)]; exact h2.most
  · exact ((h2.res.other (by omega) _).other (by omega) _).other (by omega) _
  · rw [World.cell?_setCell_other _ _ _ _ (by simp), World.cell?_setCell_other _ _ _ _ (by simp), World.cell?_setCell_other _ _ _ _ (by simp)]; exact h2.tab
  · exact TV.set n2 (TV.set l1 (TV.set hu1 h2.tv _) _) _
  · rw [delAll_push]; exact (b1.other (by omega) _).other (by omega) _
  · rw [delAll_push]; exact TV.set n2 (TV.set l1 (TV.set hu1 hu _) _) _
  · have := n2.set (.int .i64 ((pre.length : Int) + 1))
    rw [List.length_append]
    exact this
  · rw [lastK_push]; exact l2.other (by omega) _
  · exact ((h2.below.setCell (p := ⟨T + 1, 0, none⟩) (by show w.heap.size ≤ T + 1; omega) _).setCell (p := ⟨T + 1 + 1 + 1, 0, none⟩) (by show w.heap.size ≤ T + 1 + 1 + 1; omega) _).setCell (p := ⟨T + 1 + 1, 0, none⟩) (by show w.heap.size ≤ T + 1 + 1; omega) _

theorem addr_ne {a b : Nat} (h : a ≠ b) : (⟨a, 0, none⟩ : Addr) ≠ ⟨b, 0, none⟩ := fun e => h (congrArg Addr.block e)
/-- The loop has been left. -/
def LeaveX (w : World) (T : Nat) (most : Int) (tv : Value) (zs : List (Int × Int)) (c : Code) (q : List (Int × Int)) (W : World) : Prop :=
  (c = .exit 0 ∧ (0 < q.length ∧ (q.length : Int) - 1 = most) ∧ LeaveI w T most tv zs q.dropLast W) ∨ (c = .ret ∧ ¬ q <+: zs)
theorem LeaveX.own {w : World} {T B : Nat} {most : Int} {tv : Value} {zs : List (Int × Int)} (c : Code) (hB : w.heap.size ≤ B) : OwnFrom B (LeaveX w T most tv zs c) :=
  fun q W W' row h hg hr => by
    rcases h with ⟨h1, h2, h3⟩ | h
    · exact Or.inl ⟨h1, h2, LeaveI.own hB _ _ _ _ h3 hg hr⟩
    · exact Or.inr h

attribute [local go_sem] Oper.semAt_some
set_option maxRecDepth 100000 in
set_option maxHeartbeats 4000000 in
theorem leaves_walk (hs40 : SortSaid 40) (l : List (Int × Int)) (v : Value) (most : Int) (w : World) (hl : l.length ≤ maxLen) (hnil : NilA v) (h : Row (fun _ => True) w 2 l.length v (flat2 l)) :
    Calls Try.prog 8 #[v, .int .i64 most] w fun e w' => e = .returned (.bool true) ∧ Below w.heap.size w w' := by
  obtain ⟨va, vc, rfl, hcap⟩ := h.shape
  have HR := Lib.hid h; clear h hcap
  have HL40 := Lib.hid (show (l.take 40).length ≤ 40 from List.length_take_le 40 l)
  refine (callsIn_wide (n := 3)).1 ?_
  refine callsIn_of_wp_marks Try.func8 rfl trivial ?_ rfl
  simp only [Try.ntmps8, List.size_toArray, List.length_cons, List.length_nil, Nat.reduceAdd, Nat.reduceSub, Array.replicate_succ, Array.replicate_zero, List.push_toArray, List.append_toArray, List.nil_append, List.cons_append]
  refine wpIn_wide.2 ?_
  go_wp2_with fail
  refine (awake9_any _).mono ?_
  rintro e w1 ⟨rfl, hm1⟩
  have HM1 := Lib.hid (more_trans (more_of (((Below.refl _ w).alloc (Nat.le_refl _) (.cells #[.int .i64 most] 3)).alloc (by simp) (.cells #[.bool false] 4))) hm1)
  have HB1 := Lib.hid (show w1.cell? ⟨w.heap.size, 0, none⟩ = some (.int .i64 most) ∧ Boxed w1 (w.heap.size + 1) 4 (.bool false) from ⟨hm1.cell (by go_simp), Boxed.kept (by have := Boxed.new (w.alloc (.cells #[.int .i64 most] 3)) 4 (.bool false); rwa [World.size_alloc] at this) hm1 (by simp)⟩)
  clear hm1
  go_wp2_with fail
  refine (few_any (fun _ => True) l _ w1 hl hnil (HR.out.below HM1.out.below)).mono ?_
  rintro e w2 ⟨hw2, fa, fc, rfl, hr2⟩
  subst hw2
  have HR2 := Lib.hid hr2; clear hr2
  generalize l.take 40 = l4 at *
  go_wp2_with fail
  refine (of_tv hs40 (fun _ => True) l4 _ _ HL40.out (by have := HL40.out; omega) HR2.out).mono ?_
  rintro e w2 ⟨hm2, tv, rfl, ht2⟩
  have HA := Lib.hid (asc_of l4)
  have htl : (ofL l4).length ≤ 40 := by have := ofL_len l4; have := HL40.out; omega
  clear HL40 HR2 HR hnil hl
  generalize ofL l4 = t at *
  obtain ⟨ta, tc, rfl⟩ := ht2.shape
  have HT2 := Lib.hid ht2
  have HM2 := Lib.hid (more_trans HM1.out hm2)
  have HB2 := Lib.hid (show w2.cell? ⟨w.heap.size, 0, none⟩ = some (.int .i64 most) ∧ Boxed w2 (w.heap.size + 1) 4 (.bool false) from ⟨hm2.cell HB1.out.1, HB1.out.2.kept hm2 (by simp)⟩)
  clear hm2 ht2 HB1 HM1
  go_wp2_with fail
  refine ((callsIn_wide (n := 3)).1 (all_in Fence.wide 3 trivial rfl _ _ _ _)).mono ?_
  rintro e w3 ⟨rfl, rfl⟩
  have bT := Boxed.new w2 54 (.slice ta t.length tc)
  have bU := Boxed.new (w2.alloc (.cells #[.slice ta t.length tc] 54)) 54 (.slice ta t.length tc)
  have bN := Boxed.new ((w2.alloc (.cells #[.slice ta t.length tc] 54)).alloc (.cells #[.slice ta t.length tc] 54)) 3 (.int .i64 0)
  have bL := Boxed.new (((w2.alloc (.cells #[.slice ta t.length tc] 54)).alloc (.cells #[.slice ta t.length tc] 54)).alloc (.cells #[.int .i64 0] 3)) 2 (.int .i64 0)
  have bC := Boxed.new ((((w2.alloc (.cells #[.slice ta t.length tc] 54)).alloc (.cells #[.slice ta t.length tc] 54)).alloc (.cells #[.int .i64 0] 3)).alloc (.cells #[.int .i64 0] 2)) 54 (.slice ta t.length tc)
  simp only [World.size_alloc] at bU bN bL bC
  have hmA : More w2 (((((w2.alloc (.cells #[.slice ta t.length tc] 54)).alloc (.cells #[.slice ta t.length tc] 54)).alloc (.cells #[.int .i64 0] 3)).alloc (.cells #[.int .i64 0] 2)).alloc (.cells #[.slice ta t.length tc] 54)) :=
    more_trans (World.grownBy_alloc _ _ _) (more_trans (World.grownBy_alloc _ _ _) (more_trans (World.grownBy_alloc _ _ _) (more_trans (World.grownBy_alloc _ _ _) (World.grownBy_alloc _ _ _))))
  have HI0 := Lib.hid (show LeaveI w w2.heap.size most (.slice ta t.length tc) t [] _ from
    { most := hmA.cell HB2.out.1, res := HB2.out.2.kept hmA (by simp), tab := ((((bT.alloc _).alloc _).alloc _).alloc _).cell, tv := HT2.out.more hmA, u := ⟨ta, tc, ((bU.alloc _).alloc _).alloc _, HT2.out.more hmA⟩, n := (bN.alloc _).alloc _, last := bL.alloc _, below := (more_trans HM2.out hmA).below })
  have HBC := Lib.hid bC
  have HSZ := Lib.hid (show (((((w2.alloc (.cells #[.slice ta t.length tc] 54)).alloc (.cells #[.slice ta t.length tc] 54)).alloc (.cells #[.int .i64 0] 3)).alloc (.cells #[.int .i64 0] 2)).alloc (.cells #[.slice ta t.length tc] 54)).heap.size = w2.heap.size + 5 by simp)
  have HTW := Lib.hid (show w.heap.size + 1 < w2.heap.size from HB2.out.2.lt)
  have HRW := Lib.hid (show Row (fun b => b < w2.heap.size) w2 2 t.length (.slice ta t.length tc) (flat2 t) by
    obtain ⟨a, c, e, hr, _⟩ := HT2.out; exact row_lt (by omega) hr)
  have HMA := Lib.hid hmA
  clear bT bU bN bL bC hmA HB2
  go_wp2_with fail
  generalize ((((w2.alloc (.cells #[.slice ta t.length tc] 54)).alloc (.cells #[.slice ta t.length tc] 54)).alloc (.cells #[.int .i64 0] 3)).alloc (.cells #[.int .i64 0] 2)).alloc (.cells #[.slice ta t.length tc] 54) = w3 at *
  refine (wpIn_wide (n := 3)).1 ?_
  have hsz := HSZ.out
  refine wpIn_rangeFunc_ownG rfl (by decide) (gf := 80) (lb := #[.pointer (some ⟨w2.heap.size + 1 + 1 + 1 + 1, 0, none⟩)]) rfl trivial (enters_of Try.func80 (by kernel_rfl) rfl)
    (all_stops Fence.wide (3 - 1) trivial rfl (by decide) (w2.heap.size + 1 + 1 + 1 + 1) w2.heap.size (.slice ta t.length tc) t (by omega) _ (by omega) (by omega) HBC.out.cell (HRW.out.below HMA.out.below)) belowK_t (belowK_b (by omega)) (Below.refl _ _) (fun _ => rfl)
    (fun pre W => LeaveI w w2.heap.size most (.slice ta t.length tc) t pre W)
    (fun c q W => LeaveX w w2.heap.size most (.slice ta t.length tc) t c q W)
    (LeaveI.own (by have := HTW.out; omega))
    (fun c => LeaveX.own c (by have := HTW.out; omega))
    HI0.out
    (fun x => { tmps := #[.slice va l.length vc, .int .i64 most, undef, .pointer (some ⟨w.heap.size, 0, none⟩), .pointer (some ⟨w.heap.size + 1, 0, none⟩), .pointer (some ⟨w2.heap.size, 0, none⟩), .pointer (some ⟨w2.heap.size + 1, 0, none⟩), .pointer (some ⟨w2.heap.size + 1 + 1, 0, none⟩), .pointer (some ⟨w2.heap.size + 1 + 1 + 1, 0, none⟩), .int .i64 x.1, .int .i64 x.2, undef, undef, .bool true, .bool false, .slice va l.length vc, .slice fa l4.length fc, .agg #[.slice ta t.length tc], .agg #[.slice ta t.length tc], .agg #[.slice ta t.length tc], .func (.func 80) #[] #[.pointer (some ⟨w2.heap.size + 1 + 1 + 1 + 1, 0, none⟩)], .int .i64 x.1, .int .i64 x.2, undef, undef, undef, undef, undef, undef, undef, undef, undef, undef, undef, undef, undef, undef, undef, undef, undef, undef, undef, undef, undef, undef, undef, undef, undef, undef, undef, undef, undef, undef, undef, undef, undef, undef, undef, undef, undef, undef, undef, undef, undef, undef, undef, undef, undef, undef, undef, undef, undef], defers := [] }) ?assign ?body ?done ?stop
  case assign =>
    intro l x W K hK
    simp only [encE]
    gi_wp2
    exact hK
  case body =>
    rintro l pre x W hI hlt
    have HI := Lib.hid hI
    have cN := hI.n.cell
    have cM := hI.most
    have cT := hI.tab
    clear hI
    by_cases hb : (pre.length : Int) = most
    · have tb : ((pre.length : Int) == most) = true := by simpa using hb
      have HB := Lib.hid hb; clear hb
      gi_wp2
      exact ⟨(KeepsOthers.refl _).from _, Or.inl ⟨rfl, ⟨by simp, by simp; exact HB.out⟩, by rw [List.dropLast_concat]; exact HI.out⟩⟩
    · have tb : ((pre.length : Int) == most) = false := by simpa using hb
      clear hb
      have HLt := Lib.hid (show t.length < 1000000 by omega)
      gi_wp2_with fail
      refine ⟨trivial, ?_⟩
      refine (CallsIn.inRound l (callsIn_wide.2 (get_tv t x.1 _ W HLt.out HA.out HI.out.tv))).mono ?_
      rintro e W1 ⟨hm1, rfl⟩
      have HI1 := Lib.hid (HI.out.more hm1)
      have HM1 := Lib.hid hm1
      clear hm1 cN cM cT tb
      have cN := HI1.out.n.cell
      have cL := HI1.out.last.cell
      have fR := HI1.out.res.frozen
      have cR := HI1.out.res.cell
      have bR := HI1.out.res.lt
      obtain ⟨og, hog⟩ : ∃ og, getL t x.1 = og := ⟨_, rfl⟩
      have HOG := Lib.hid hog
      rw [hog]
      clear hog
      have HPF := Lib.hid (fun hp : pre ++ [x] <+: t => pre_facts HA.out hp)
      cases og with
      | none =>
        gi_wp2_with fail
        exact ⟨((KeepsOthers.of_grownBy HM1.out (fun _ _ e => by cases e)).trans (KeepsOthers.setCell _ _ _)).from _, Or.inr ⟨rfl, fun hp => by have := (HPF.out hp).1; rw [HOG.out] at this; cases this⟩⟩
      | some y =>
        by_cases hy : y = x.2
        · have ty : (y != x.2) = false := by simp [hy]
          have HY := Lib.hid hy; clear hy
          have HW2S := Lib.hid (show w2.heap.size ≤ w2.heap.size + 1 by omega)
          have HWS := Lib.hid (show w2.heap.size + 1 ≤ W.heap.size by have := HI.out.n.lt; omega)
          by_cases hn : 0 < pre.length
          · by_cases hk : x.1 ≤ lastK pre
            · gi_wp2_with fail
              exact ⟨((KeepsOthers.of_grownBy HM1.out (fun _ _ e => by cases e)).trans (KeepsOthers.setCell _ _ _)).from _, Or.inr ⟨rfl, fun hp => by have := (HPF.out hp).2 hn; omega⟩⟩
            · obtain ⟨ua, uc, hu1, hu2⟩ := HI1.out.u
              have cU := hu1.cell
              have HU1 := Lib.hid hu1
              have HLU := Lib.hid (show (delAll t pre).length < 1000000 by have := len_delAll t pre; omega)
              have HU2 := Lib.hid hu2
              clear hu1 hu2
              gi_wp2_with fail
              refine ⟨trivial, ?_⟩
              refine (CallsIn.inRound l (callsIn_wide.2 (del_tab (delAll t pre) x.1 _ W1 HLU.out (asc_delAll HA.out pre) HU2.out))).mono ?_
              rintro e W2 ⟨hm2, dv, rfl, hd2⟩
              obtain ⟨da, dc, rfl⟩ := hd2.shape
              have HD2 := Lib.hid hd2
              have HM2 := Lib.hid hm2
              have HI2 := Lib.hid (HI1.out.more hm2)
              have eU := (HU1.out.kept hm2 (by simp)).cell
              have eF := (HU1.out.kept hm2 (by simp)).frozen
              have eL := HI2.out.last.cell
              have eLF := HI2.out.last.frozen
              have eN := HI2.out.n.cell
              have eNF := HI2.out.n.frozen
              clear hd2 hm2 cU cN cL fR cR bR
              gi_wp2_with fail
              exact ⟨((((KeepsOthers.of_grownBy HM1.out (fun _ _ e => by cases e)).trans (KeepsOthers.of_grownBy HM2.out (fun _ _ e => by cases e))).trans (KeepsOthers.setCell _ _ _)).trans ((KeepsOthers.setCell _ _ _).trans (KeepsOthers.setCell _ _ _))).from _, (((((more_trans HM1.out HM2.out).below.mono (Nat.le_trans HW2S.out HWS.out)).setCell (p := ⟨w2.heap.size + 1, 0, none⟩) (by show w2.heap.size ≤ w2.heap.size + 1; omega) _).setCell (p := ⟨w2.heap.size + 1 + 1 + 1, 0, none⟩) (by show w2.heap.size ≤ w2.heap.size + 1 + 1 + 1; omega) _).setCell (p := ⟨w2.heap.size + 1 + 1, 0, none⟩) (by show w2.heap.size ≤ w2.heap.size + 1 + 1; omega) _), LeaveI.step HI.out HTW.out (more_trans HM1.out HM2.out) HD2.out (by omega)⟩
          · obtain ⟨ua, uc, hu1, hu2⟩ := HI1.out.u
            have cU := hu1.cell
            have HU1 := Lib.hid hu1
            have HLU := Lib.hid (show (delAll t pre).length < 1000000 by have := len_delAll t pre; omega)
            have HU2 := Lib.hid hu2
            clear hu1 hu2
            gi_wp2_with fail
            refine ⟨trivial, ?_⟩
            refine (CallsIn.inRound l (callsIn_wide.2 (del_tab (delAll t pre) x.1 _ W1 HLU.out (asc_delAll HA.out pre) HU2.out))).mono ?_
            rintro e W2 ⟨hm2, dv, rfl, hd2⟩
            obtain ⟨da, dc, rfl⟩ := hd2.shape
            have HD2 := Lib.hid hd2
            have HM2 := Lib.hid hm2
            have HI2 := Lib.hid (HI1.out.more hm2)
            have eU := (HU1.out.kept hm2 (by simp)).cell
            have eF := (HU1.out.kept hm2 (by simp)).frozen
            have eL := HI2.out.last.cell
            have eLF := HI2.out.last.frozen
            have eN := HI2.out.n.cell
            have eNF := HI2.out.n.frozen
            clear hd2 hm2 cU cN cL fR cR bR
            gi_wp2_with fail
            exact ⟨((((KeepsOthers.of_grownBy HM1.out (fun _ _ e => by cases e)).trans (KeepsOthers.of_grownBy HM2.out (fun _ _ e => by cases e))).trans (KeepsOthers.setCell _ _ _)).trans ((KeepsOthers.setCell _ _ _).trans (KeepsOthers.setCell _ _ _))).from _, (((((more_trans HM1.out HM2.out).below.mono (Nat.le_trans HW2S.out HWS.out)).setCell (p := ⟨w2.heap.size + 1, 0, none⟩) (by show w2.heap.size ≤ w2.heap.size + 1; omega) _).setCell (p := ⟨w2.heap.size + 1 + 1 + 1, 0, none⟩) (by show w2.heap.size ≤ w2.heap.size + 1 + 1 + 1; omega) _).setCell (p := ⟨w2.heap.size + 1 + 1, 0, none⟩) (by show w2.heap.size ≤ w2.heap.size + 1 + 1; omega) _), LeaveI.step HI.out HTW.out (more_trans HM1.out HM2.out) HD2.out (by omega)⟩
        · have ty : (y != x.2) = true := by simp [hy]
          have HY := Lib.hid hy; clear hy
          gi_wp2_with fail
          exact ⟨((KeepsOthers.of_grownBy HM1.out (fun _ _ e => by cases e)).trans (KeepsOthers.setCell _ _ _)).from _, Or.inr ⟨rfl, fun hp => by have := (HPF.out hp).1; rw [HOG.out] at this; cases this; exact HY.out rfl⟩⟩
  case done =>
    rintro D p W hD hys hI hK
    have HD := Lib.hid hD
    have HK := Lib.hid hK
    clear hD hK
    have HP := Lib.hid (show p <+: t by rw [hys]; exact List.prefix_refl t)
    have HBR := Lib.hid (show (p.length : Int) = most ∨ p.length = t.length from Or.inr (by rw [hys]))
    clear hys
    gi_wp2_with fail
    obtain ⟨ua, uc, hu1, hu2⟩ := hI.u
    have HTE := Lib.hid hI.tv
    have HUE := Lib.hid hu2
    have HBE := Lib.hid hI.below
    have HXE := Lib.hid (show ∀ W', More W W' → W'.cell? ⟨w.heap.size, 0, none⟩ = some (.int .i64 most) ∧ W'.cell? ⟨w2.heap.size, 0, none⟩ = some (.slice ta t.length tc) ∧ W'.cell? ⟨w2.heap.size + 1, 0, none⟩ = some (.slice ua (delAll t p).length uc) ∧ W'.cell? ⟨w2.heap.size + 1 + 1, 0, none⟩ = some (.int .i64 p.length) from fun W' hm => ⟨hm.cell hI.most, hm.cell hI.tab, hm.cell hu1.cell, hm.cell hI.n.cell⟩)
    have HRE := Lib.hid (show ∀ W', More W W' → W'.cell? ⟨w.heap.size + 1, 0, none⟩ = some (.bool false) ∧ W'.frozen? ⟨w.heap.size + 1, 0, none⟩ = false from fun W' hm => ⟨hm.cell hI.res.cell, hm.frozen hI.res.lt hI.res.frozen⟩)
    have HSE := Lib.hid (show ∀ W', More W W' → ∀ u, (W'.setCell ⟨w.heap.size + 1, 0, none⟩ u).cell? ⟨w.heap.size, 0, none⟩ = some (.int .i64 most) ∧ (W'.setCell ⟨w.heap.size + 1, 0, none⟩ u).cell? ⟨w2.heap.size, 0, none⟩ = some (.slice ta t.length tc) ∧ (W'.setCell ⟨w.heap.size + 1, 0, none⟩ u).cell? ⟨w2.heap.size + 1, 0, none⟩ = some (.slice ua (delAll t p).length uc) ∧ (W'.setCell ⟨w.heap.size + 1, 0, none⟩ u).cell? ⟨w2.heap.size + 1 + 1, 0, none⟩ = some (.int .i64 p.length) from fun W' hm u => ⟨(World.cell?_setCell_other _ _ _ _ (addr_ne (by omega))).trans (hm.cell hI.most), (World.cell?_setCell_other _ _ _ _ (addr_ne (by have := HTW.out; omega))).trans (hm.cell hI.tab), (World.cell?_setCell_other _ _ _ _ (addr_ne (by have := HTW.out; omega))).trans (hm.cell hu1.cell), (World.cell?_setCell_other _ _ _ _ (addr_ne (by have := HTW.out; omega))).trans (hm.cell hI.n.cell)⟩)
    have HKE := Lib.hid (show ∀ W', More W W' → ∀ u, (W'.setCell ⟨w.heap.size + 1, 0, none⟩ u).heap[D]? = some (.deferred (some [])) from fun W' hm u => by rw [Below.heap_setCell _ _ _ _ (by have := HD.out; have := HTW.out; show D ≠ w.heap.size + 1; omega)]; exact (hm.block (Array.getElem?_eq_some_iff.1 HK.out).1).trans HK.out)
    have HLE := Lib.hid (delAll_pre HA.out HP.out)
    clear hI hu1 hu2
    have KDE := HXE.out W.drew (more_drew W)
    have hsub : IntKind.i64.wrap ((t.length : Int) - (p.length : Int)) = (t.length : Int) - (p.length : Int) := IntWalk.i64_in _ (by have := HLE.out; omega)
    have teq : (((delAll t p).length : Int) == (t.length : Int) - (p.length : Int)) = true := by have := HLE.out; rw [beq_iff_eq]; omega
    go_wp2_with fail
    by_cases hb : (p.length : Int) = most
    · subst hb
      refine wp_region_noPanic ?_
      refine wp_region_held_drew (S := fun W => W.cell? ⟨w.heap.size, 0, none⟩ = some (.int .i64 p.length) ∧ W.cell? ⟨w2.heap.size, 0, none⟩ = some (.slice ta t.length tc) ∧ W.cell? ⟨w2.heap.size + 1, 0, none⟩ = some (.slice ua (delAll t p).length uc) ∧ W.cell? ⟨w2.heap.size + 1 + 1, 0, none⟩ = some (.int .i64 p.length)) (by kernel_rfl) KDE (fun hHeld => ?_)
      refine wpAnyH_take (i := 0) (v := ?_) rfl (by kernel_rfl) (by kernel_rfl) (by kernel_rfl) (fun _ _ _ h => h) (Or.inl ⟨by rfl, ?_⟩) (by assumption) ?_
      rotate_left
      · intro w hSw
        (try dsimp only at hSw)
        first | (go_simp; done) | (go_simp; with_reducible rfl)
      (try simp only [Act.put, List.setIfInBounds_toArray, List.set_cons_zero, List.set_cons_succ])
      refine wpAnyH_take (i := 1) (v := ?_) rfl (by kernel_rfl) (by kernel_rfl) (by kernel_rfl) (fun _ _ _ h => h) (Or.inl ⟨by rfl, ?_⟩) (by assumption) ?_
      rotate_left
      · intro w hSw
        (try dsimp only at hSw)
        first | (go_simp; done) | (go_simp; with_reducible rfl)
      (try simp only [Act.put, List.setIfInBounds_toArray, List.set_cons_zero, List.set_cons_succ])
      refine wpAnyH_take (i := 2) (v := ?_) rfl (by kernel_rfl) (by kernel_rfl) (by kernel_rfl) (fun _ _ _ h => h) (Or.inl ⟨by rfl, ?_⟩) (by assumption) ?_
      rotate_left
      · intro w hSw
        (try dsimp only at hSw)
        first | (go_simp; done) | (go_simp; with_reducible rfl)
      (try simp only [Act.put, List.setIfInBounds_toArray, List.set_cons_zero, List.set_cons_succ])
      refine wpAnyH_take (i := 3) (v := ?_) rfl (by kernel_rfl) (by kernel_rfl) (by kernel_rfl) (fun _ _ _ h => h) (Or.inl ⟨by rfl, ?_⟩) (by assumption) ?_
      rotate_left
      · intro w hSw
        (try dsimp only at hSw)
        first | (go_simp; done) | (go_simp; with_reducible rfl)
      (try simp only [Act.put, List.setIfInBounds_toArray, List.set_cons_zero, List.set_cons_succ])
      refine wpAnyH_take (i := 4) (v := undef) rfl (by kernel_rfl) (by kernel_rfl) (by kernel_rfl) (fun _ _ _ h => h) (Or.inr ⟨by rfl, rfl⟩) (by assumption) ?_
      (try simp only [Act.put, List.setIfInBounds_toArray, List.set_cons_zero, List.set_cons_succ])
      refine wpAnyH_take (i := 5) (v := undef) rfl (by kernel_rfl) (by kernel_rfl) (by kernel_rfl) (fun _ _ _ h => h) (Or.inr ⟨by rfl, rfl⟩) (by assumption) ?_
      (try simp only [Act.put, List.setIfInBounds_toArray, List.set_cons_zero, List.set_cons_succ])
      refine wpAnyH_ready (rs := [6]) (by kernel_rfl) (by simp) ?_
      refine AllReadyH.cons rfl (fun K hK => ?_) AllReadyH.nil
      go_simp
      refine hK.out _ _ hHeld (fun hHeld => ?_)
      clear hK K
      (try simp only [Act.put, List.setIfInBounds_toArray, List.set_cons_zero, List.set_cons_succ])
      refine wpAnyH_take (i := 7) (v := undef) rfl (by kernel_rfl) (by kernel_rfl) (by kernel_rfl) (fun _ _ _ h => h) (Or.inr ⟨by rfl, rfl⟩) (by assumption) ?_
      (try simp only [Act.put, List.setIfInBounds_toArray, List.set_cons_zero, List.set_cons_succ])
      refine wpAnyH_take (i := 8) (v := ?_) rfl (by kernel_rfl) (by kernel_rfl) (by kernel_rfl) (fun _ _ _ h => h) (Or.inl ⟨by rfl, ?_⟩) (by assumption) ?_
      rotate_left
      · intro w hSw
        (try dsimp only at hSw)
        first | (go_simp; done) | (go_simp; with_reducible rfl)
      (try simp only [Act.put, List.setIfInBounds_toArray, List.set_cons_zero, List.set_cons_succ])
      refine wpAnyH_take (i := 9) (v := ?_) rfl (by kernel_rfl) (by kernel_rfl) (by kernel_rfl) (fun _ _ _ h => h) (Or.inl ⟨by rfl, ?_⟩) (by assumption) ?_
      rotate_left
      · intro w hSw
        (try dsimp only at hSw)
        first | (go_simp; done) | (go_simp; with_reducible rfl)
      (try simp only [Act.put, List.setIfInBounds_toArray, List.set_cons_zero, List.set_cons_succ])
      refine wpAnyH_take (i := 10) (v := ?_) rfl (by kernel_rfl) (by kernel_rfl) (by kernel_rfl) (fun _ _ _ h => h) (Or.inl ⟨by rfl, ?_⟩) (by assumption) ?_
      rotate_left
      · intro w hSw
        (try dsimp only at hSw)
        first | (go_simp; done) | (go_simp; with_reducible rfl)
      (try simp only [Act.put, List.setIfInBounds_toArray, List.set_cons_zero, List.set_cons_succ])
      refine wpAnyH_take (i := 12) (v := ?_) rfl (by kernel_rfl) (by kernel_rfl) (by kernel_rfl) (fun _ _ _ h => h) (Or.inl ⟨by rfl, ?_⟩) (by assumption) ?_
      rotate_left
      · intro w hSw
        (try dsimp only at hSw)
        first | (go_simp; done) | (go_simp; with_reducible rfl)
      (try simp only [Act.put, List.setIfInBounds_toArray, List.set_cons_zero, List.set_cons_succ])
      refine wpAnyH_take (i := 14) (v := ?_) rfl (by kernel_rfl) (by kernel_rfl) (by kernel_rfl) (fun _ _ _ h => h) (Or.inl ⟨by rfl, ?_⟩) (by assumption) ?_
      rotate_left
      · intro w hSw
        (try dsimp only at hSw)
        first | (go_simp; done) | (go_simp; with_reducible rfl)
      (try simp only [Act.put, List.setIfInBounds_toArray, List.set_cons_zero, List.set_cons_succ])
      refine wpAnyH_ready (rs := [11]) (by kernel_rfl) (by simp) ?_
      refine AllReadyH.cons rfl (fun K hK => ?_) AllReadyH.nil
      go_simp
      refine (len_tv (delAll t p) _ _ (HUE.out.more (more_drew W))).mono ?_
      rintro e w11 ⟨hm11, rfl⟩
      have HM11 := Lib.hid (more_trans (more_drew W) hm11)
      have K11 := HXE.out w11 HM11.out
      clear hm11
      go_wp2_with fail
      refine hK.out _ _ K11 (fun hHeld => ?_)
      clear hK K
      (try simp only [Act.put, List.setIfInBounds_toArray, List.set_cons_zero, List.set_cons_succ])
      refine wpAnyH_ready (rs := [13]) (by kernel_rfl) (by simp) ?_
      refine AllReadyH.cons rfl (fun K hK => ?_) AllReadyH.nil
      go_simp
      refine (len_tv t _ _ (HTE.out.more HM11.out)).mono ?_
      rintro e w9 ⟨hm12, rfl⟩
      have HM12 := Lib.hid (more_trans HM11.out hm12)
      have K12 := HXE.out w9 HM12.out
      have KR := HRE.out w9 HM12.out
      have KS := HSE.out w9 HM12.out
      clear hm12
      go_wp2_with fail
      refine hK.out _ _ K12 (fun hHeld => ?_)
      clear hK K
      (try simp only [Act.put, List.setIfInBounds_toArray, List.set_cons_zero, List.set_cons_succ])
      refine wpAnyH_take (i := 15) (v := ?_) rfl (by kernel_rfl) (by kernel_rfl) (by kernel_rfl) (fun _ _ _ h => h) (Or.inl ⟨by rfl, ?_⟩) (by assumption) ?_
      rotate_left
      · intro w hSw
        (try dsimp only at hSw)
        first | (go_simp; done) | (go_simp; with_reducible rfl)
      (try simp only [Act.put, List.setIfInBounds_toArray, List.set_cons_zero, List.set_cons_succ])
      refine wpAnyH_take (i := 16) (v := ?_) rfl (by kernel_rfl) (by kernel_rfl) (by kernel_rfl) (fun _ _ _ h => h) (Or.inl ⟨by rfl, ?_⟩) (by assumption) ?_
      rotate_left
      · intro w hSw
        (try dsimp only at hSw)
        first | (go_simp; done) | (go_simp; with_reducible rfl)
      (try simp only [Act.put, List.setIfInBounds_toArray, List.set_cons_zero, List.set_cons_succ])
      refine wpAnyH_take (i := 17) (v := ?_) rfl (by kernel_rfl) (by kernel_rfl) (by kernel_rfl) (fun _ _ _ h => h) (Or.inl ⟨by rfl, ?_⟩) (by assumption) ?_
      rotate_left
      · intro w hSw
        (try dsimp only at hSw)
        first | (go_simp; done) | (go_simp; with_reducible rfl)
      (try simp only [Act.put, List.setIfInBounds_toArray, List.set_cons_zero, List.set_cons_succ])
      refine wpAnyH_ready (rs := [18]) (by kernel_rfl) (by simp) ?_
      refine AllReadyH.cons rfl (fun K hK => ?_) AllReadyH.nil
      go_simp
      refine hK.out _ _ (KS _) (fun hHeld => ?_)
      clear hK K
      (try simp only [Act.put, List.setIfInBounds_toArray, List.set_cons_zero, List.set_cons_succ])
      refine wpAnyH_done (by kernel_rfl) ?_ _
      refine NoPanic.normal ?_
      go_wp2_with fail
      have hKF := HKE.out w9 HM12.out (.bool true)
      refine ⟨by simp, .inl ⟨_, _, rfl, run_takeDeferred hKF, ?_⟩⟩
      have hRF : (w9.setCell ⟨w.heap.size + 1, 0, none⟩ (.bool true)).cell? ⟨w.heap.size + 1, 0, none⟩ = some (.bool true) := setCell_eq (HRE.out w9 HM12.out).1
      have hRG := cell_kept hRF (grownBy_putObj' _ D (.deferred none)) (fun r e => by cases e; exact ⟨_, hKF, rfl⟩)
      refine ⟨_, by simp [results, Try.results8, go_sem, hRG], rfl, ?_⟩
      exact ((HBE.out.trans (HM12.out.below.mono HBE.out.size)).setCell (p := ⟨w.heap.size + 1, 0, none⟩) (by show w.heap.size ≤ w.heap.size + 1; omega) _).trans (belowK_b (w := w) (Nat.le_refl _) _ D _ _ (by have := HD.out; have := HTW.out; omega) hKF rfl rfl)
    · have tb : ((p.length : Int) == most) = false := by simpa using hb
      have tl : ((p.length : Int) == (t.length : Int)) = true := HBR.out.elim (fun h => absurd h hb) (fun h => by rw [h]; simp)
      clear hb
      go_region_held3 (fun W => W.cell? ⟨w.heap.size, 0, none⟩ = some (.int .i64 most) ∧ W.cell? ⟨w2.heap.size, 0, none⟩ = some (.slice ta t.length tc) ∧ W.cell? ⟨w2.heap.size + 1, 0, none⟩ = some (.slice ua (delAll t p).length uc) ∧ W.cell? ⟨w2.heap.size + 1 + 1, 0, none⟩ = some (.int .i64 p.length)) (first | with_reducible exact KDE | with_reducible exact KS _ | exact KDE | with_reducible exact K11 | with_reducible exact K12 | with_reducible exact K13) (first | (go_at_call 33; refine (len_tv t _ _ (HTE.out.more HM12.out)).mono ?_; rintro e w9 ⟨hm, rfl⟩; have HM13 := Lib.hid (more_trans HM12.out hm); have K13 := HXE.out w9 HM13.out; have Hm13 := Lib.hid hm; clear hm; have KR := HRE.out w9 HM13.out; have KS := HSE.out w9 HM13.out) | (go_at_call 33; refine (len_tv (delAll t p) _ _ (HUE.out.more HM11.out)).mono ?_; rintro e w12 ⟨hm, rfl⟩; have HM12 := Lib.hid (more_trans HM11.out hm); have K12 := HXE.out w12 HM12.out; have Hm12 := Lib.hid hm; clear hm) | (go_at_call 33; refine (len_tv t _ _ (HTE.out.more (more_drew W))).mono ?_; rintro e w11 ⟨hm, rfl⟩; have HM11 := Lib.hid (more_trans (more_drew W) hm); have K11 := HXE.out w11 HM11.out; have Hm11 := Lib.hid hm; clear hm))
      go_wp2_with fail
      have hKF := HKE.out w9 HM13.out (.bool true)
      refine ⟨by simp, .inl ⟨_, _, rfl, run_takeDeferred hKF, ?_⟩⟩
      have hRF : (w9.setCell ⟨w.heap.size + 1, 0, none⟩ (.bool true)).cell? ⟨w.heap.size + 1, 0, none⟩ = some (.bool true) := setCell_eq (HRE.out w9 HM13.out).1
      have hRG := cell_kept hRF (grownBy_putObj' _ D (.deferred none)) (fun r e => by cases e; exact ⟨_, hKF, rfl⟩)
      refine ⟨_, by simp [results, Try.results8, go_sem, hRG], rfl, ?_⟩
      exact ((HBE.out.trans (HM13.out.below.mono HBE.out.size)).setCell (p := ⟨w.heap.size + 1, 0, none⟩) (by show w.heap.size ≤ w.heap.size + 1; omega) _).trans (belowK_b (w := w) (Nat.le_refl _) _ D _ _ (by have := HD.out; have := HTW.out; omega) hKF rfl rfl)
  case stop =>
    rintro D c q W hD hp hX hK
    rcases hX with ⟨rfl, hX1, hX2⟩ | ⟨_, hX2⟩
    · have HD := Lib.hid hD
      have HK := Lib.hid hK
      clear hD hK
      have HP := Lib.hid (show q.dropLast <+: t from List.IsPrefix.trans (List.dropLast_prefix q) hp)
      have HBR := Lib.hid (show (q.dropLast.length : Int) = most ∨ q.dropLast.length = t.length by
        left; rw [List.length_dropLast]; have := hX1.1; have := hX1.2; omega)
      generalize q.dropLast = p at *
      clear hX1 hp
      have hI := hX2
      clear hX2
      gi_wp2_with fail
      obtain ⟨ua, uc, hu1, hu2⟩ := hI.u
      have HTE := Lib.hid hI.tv
      have HUE := Lib.hid hu2
      have HBE := Lib.hid hI.below
      have HXE := Lib.hid (show ∀ W', More W W' → W'.cell? ⟨w.heap.size, 0, none⟩ = some (.int .i64 most) ∧ W'.cell? ⟨w2.heap.size, 0, none⟩ = some (.slice ta t.length tc) ∧ W'.cell? ⟨w2.heap.size + 1, 0, none⟩ = some (.slice ua (delAll t p).length uc) ∧ W'.cell? ⟨w2.heap.size + 1 + 1, 0, none⟩ = some (.int .i64 p.length) from fun W' hm => ⟨hm.cell hI.most, hm.cell hI.tab, hm.cell hu1.cell, hm.cell hI.n.cell⟩)
      have HRE := Lib.hid (show ∀ W', More W W' → W'.cell? ⟨w.heap.size + 1, 0, none⟩ = some (.bool false) ∧ W'.frozen? ⟨w.heap.size + 1, 0, none⟩ = false from fun W' hm => ⟨hm.cell hI.res.cell, hm.frozen hI.res.lt hI.res.frozen⟩)
      have HSE := Lib.hid (show ∀ W', More W W' → ∀ u, (W'.setCell ⟨w.heap.size + 1, 0, none⟩ u).cell? ⟨w.heap.size, 0, none⟩ = some (.int .i64 most) ∧ (W'.setCell ⟨w.heap.size + 1, 0, none⟩ u).cell? ⟨w2.heap.size, 0, none⟩ = some (.slice ta t.length tc) ∧ (W'.setCell ⟨w.heap.size + 1, 0, none⟩ u).cell? ⟨w2.heap.size + 1, 0, none⟩ = some (.slice ua (delAll t p).length uc) ∧ (W'.setCell ⟨w.heap.size + 1, 0, none⟩ u).cell? ⟨w2.heap.size + 1 + 1, 0, none⟩ = some (.int .i64 p.length) from fun W' hm u => ⟨(World.cell?_setCell_other _ _ _ _ (addr_ne (by omega))).trans (hm.cell hI.most), (World.cell?_setCell_other _ _ _ _ (addr_ne (by have := HTW.out; omega))).trans (hm.cell hI.tab), (World.cell?_setCell_other _ _ _ _ (addr_ne (by have := HTW.out; omega))).trans (hm.cell hu1.cell), (World.cell?_setCell_other _ _ _ _ (addr_ne (by have := HTW.out; omega))).trans (hm.cell hI.n.cell)⟩)
      have HKE := Lib.hid (show ∀ W', More W W' → ∀ u, (W'.setCell ⟨w.heap.size + 1, 0, none⟩ u).heap[D]? = some (.deferred (some [])) from fun W' hm u => by rw [Below.heap_setCell _ _ _ _ (by have := HD.out; have := HTW.out; show D ≠ w.heap.size + 1; omega)]; exact (hm.block (Array.getElem?_eq_some_iff.1 HK.out).1).trans HK.out)
      have HLE := Lib.hid (delAll_pre HA.out HP.out)
      clear hI hu1 hu2
      have KDE := HXE.out W.drew (more_drew W)
      have hsub : IntKind.i64.wrap ((t.length : Int) - (p.length : Int)) = (t.length : Int) - (p.length : Int) := IntWalk.i64_in _ (by have := HLE.out; omega)
      have teq : (((delAll t p).length : Int) == (t.length : Int) - (p.length : Int)) = true := by have := HLE.out; rw [beq_iff_eq]; omega
      go_wp2_with fail
      by_cases hb : (p.length : Int) = most
      · subst hb
        refine wp_region_noPanic ?_
        refine wp_region_held_drew (S := fun W => W.cell? ⟨w.heap.size, 0, none⟩ = some (.int .i64 p.length) ∧ W.cell? ⟨w2.heap.size, 0, none⟩ = some (.slice ta t.length tc) ∧ W.cell? ⟨w2.heap.size + 1, 0, none⟩ = some (.slice ua (delAll t p).length uc) ∧ W.cell? ⟨w2.heap.size + 1 + 1, 0, none⟩ = some (.int .i64 p.length)) (by kernel_rfl) KDE (fun hHeld => ?_)
        refine wpAnyH_take (i := 0) (v := ?_) rfl (by kernel_rfl) (by kernel_rfl) (by kernel_rfl) (fun _ _ _ h => h) (Or.inl ⟨by rfl, ?_⟩) (by assumption) ?_
        rotate_left
        · intro w hSw
          (try dsimp only at hSw)
          first | (go_simp; done) | (go_simp; with_reducible rfl)
        (try simp only [Act.put, List.setIfInBounds_toArray, List.set_cons_zero, List.set_cons_succ])
        refine wpAnyH_take (i := 1) (v := ?_) rfl (by kernel_rfl) (by kernel_rfl) (by kernel_rfl) (fun _ _ _ h => h) (Or.inl ⟨by rfl, ?_⟩) (by assumption) ?_
        rotate_left
        · intro w hSw
          (try dsimp only at hSw)
          first | (go_simp; done) | (go_simp; with_reducible rfl)
        (try simp only [Act.put, List.setIfInBounds_toArray, List.set_cons_zero, List.set_cons_succ])
        refine wpAnyH_take (i := 2) (v := ?_) rfl (by kernel_rfl) (by kernel_rfl) (by kernel_rfl) (fun _ _ _ h => h) (Or.inl ⟨by rfl, ?_⟩) (by assumption) ?_
        rotate_left
        · intro w hSw
          (try dsimp only at hSw)
          first | (go_simp; done) | (go_simp; with_reducible rfl)
        (try simp only [Act.put, List.setIfInBounds_toArray, List.set_cons_zero, List.set_cons_succ])
        refine wpAnyH_take (i := 3) (v := ?_) rfl (by kernel_rfl) (by kernel_rfl) (by kernel_rfl) (fun _ _ _ h => h) (Or.inl ⟨by rfl, ?_⟩) (by assumption) ?_
        rotate_left
        · intro w hSw
          (try dsimp only at hSw)
          first | (go_simp; done) | (go_simp; with_reducible rfl)
        (try simp only [Act.put, List.setIfInBounds_toArray, List.set_cons_zero, List.set_cons_succ])
        refine wpAnyH_take (i := 4) (v := undef) rfl (by kernel_rfl) (by kernel_rfl) (by kernel_rfl) (fun _ _ _ h => h) (Or.inr ⟨by rfl, rfl⟩) (by assumption) ?_
        (try simp only [Act.put, List.setIfInBounds_toArray, List.set_cons_zero, List.set_cons_succ])
        refine wpAnyH_take (i := 5) (v := undef) rfl (by kernel_rfl) (by kernel_rfl) (by kernel_rfl) (fun _ _ _ h => h) (Or.inr ⟨by rfl, rfl⟩) (by assumption) ?_
        (try simp only [Act.put, List.setIfInBounds_toArray, List.set_cons_zero, List.set_cons_succ])
        refine wpAnyH_ready (rs := [6]) (by kernel_rfl) (by simp) ?_
        refine AllReadyH.cons rfl (fun K hK => ?_) AllReadyH.nil
        go_simp
        refine hK.out _ _ hHeld (fun hHeld => ?_)
        clear hK K
        (try simp only [Act.put, List.setIfInBounds_toArray, List.set_cons_zero, List.set_cons_succ])
        refine wpAnyH_take (i := 7) (v := undef) rfl (by kernel_rfl) (by kernel_rfl) (by kernel_rfl) (fun _ _ _ h => h) (Or.inr ⟨by rfl, rfl⟩) (by assumption) ?_
        (try simp only [Act.put, List.setIfInBounds_toArray, List.set_cons_zero, List.set_cons_succ])
        refine wpAnyH_take (i := 8) (v := ?_) rfl (by kernel_rfl) (by kernel_rfl) (by kernel_rfl) (fun _ _ _ h => h) (Or.inl ⟨by rfl, ?_⟩) (by assumption) ?_
        rotate_left
        · intro w hSw
          (try dsimp only at hSw)
          first | (go_simp; done) | (go_simp; with_reducible rfl)
        (try simp only [Act.put, List.setIfInBounds_toArray, List.set_cons_zero, List.set_cons_succ])
        refine wpAnyH_take (i := 9) (v := ?_) rfl (by kernel_rfl) (by kernel_rfl) (by kernel_rfl) (fun _ _ _ h => h) (Or.inl ⟨by rfl, ?_⟩) (by assumption) ?_
        rotate_left
        · intro w hSw
          (try dsimp only at hSw)
          first | (go_simp; done) | (go_simp; with_reducible rfl)
        (try simp only [Act.put, List.setIfInBounds_toArray, List.set_cons_zero, List.set_cons_succ])
        refine wpAnyH_take (i := 10) (v := ?_) rfl (by kernel_rfl) (by kernel_rfl) (by kernel_rfl) (fun _ _ _ h => h) (Or.inl ⟨by rfl, ?_⟩) (by assumption) ?_
        rotate_left
        · intro w hSw
          (try dsimp only at hSw)
          first | (go_simp; done) | (go_simp; with_reducible rfl)
        (try simp only [Act.put, List.setIfInBounds_toArray, List.set_cons_zero, List.set_cons_succ])
        refine wpAnyH_take (i := 12) (v := ?_) rfl (by kernel_rfl) (by kernel_rfl) (by kernel_rfl) (fun _ _ _ h => h) (Or.inl ⟨by rfl, ?_⟩) (by assumption) ?_
        rotate_left
        · intro w hSw
          (try dsimp only at hSw)
          first | (go_simp; done) | (go_simp; with_reducible rfl)
        (try simp only [Act.put, List.setIfInBounds_toArray, List.set_cons_zero, List.set_cons_succ])
        refine wpAnyH_take (i := 14) (v := ?_) rfl (by kernel_rfl) (by kernel_rfl) (by kernel_rfl) (fun _ _ _ h => h) (Or.inl ⟨by rfl, ?_⟩) (by assumption) ?_
        rotate_left
        · intro w hSw
          (try dsimp only at hSw)
          first | (go_simp; done) | (go_simp; with_reducible rfl)
        (try simp only [Act.put, List.setIfInBounds_toArray, List.set_cons_zero, List.set_cons_succ])
        refine wpAnyH_ready (rs := [11]) (by kernel_rfl) (by simp) ?_
        refine AllReadyH.cons rfl (fun K hK => ?_) AllReadyH.nil
        go_simp
        refine (len_tv (delAll t p) _ _ (HUE.out.more (more_drew W))).mono ?_
        rintro e w11 ⟨hm11, rfl⟩
        have HM11 := Lib.hid (more_trans (more_drew W) hm11)
        have K11 := HXE.out w11 HM11.out
        clear hm11
        go_wp2_with fail
        refine hK.out _ _ K11 (fun hHeld => ?_)
        clear hK K
        (try simp only [Act.put, List.setIfInBounds_toArray, List.set_cons_zero, List.set_cons_succ])
        refine wpAnyH_ready (rs := [13]) (by kernel_rfl) (by simp) ?_
        refine AllReadyH.cons rfl (fun K hK => ?_) AllReadyH.nil
        go_simp
        refine (len_tv t _ _ (HTE.out.more HM11.out)).mono ?_
        rintro e w9 ⟨hm12, rfl⟩
        have HM12 := Lib.hid (more_trans HM11.out hm12)
        have K12 := HXE.out w9 HM12.out
        have KR := HRE.out w9 HM12.out
        have KS := HSE.out w9 HM12.out
        clear hm12
        go_wp2_with fail
        refine hK.out _ _ K12 (fun hHeld => ?_)
        clear hK K
        (try simp only [Act.put, List.setIfInBounds_toArray, List.set_cons_zero, List.set_cons_succ])
        refine wpAnyH_take (i := 15) (v := ?_) rfl (by kernel_rfl) (by kernel_rfl) (by kernel_rfl) (fun _ _ _ h => h) (Or.inl ⟨by rfl, ?_⟩) (by assumption) ?_
        rotate_left
        · intro w hSw
          (try dsimp only at hSw)
          first | (go_simp; done) | (go_simp; with_reducible rfl)
        (try simp only [Act.put, List.setIfInBounds_toArray, List.set_cons_zero, List.set_cons_succ])
        refine wpAnyH_take (i := 16) (v := ?_) rfl (by kernel_rfl) (by kernel_rfl) (by kernel_rfl) (fun _ _ _ h => h) (Or.inl ⟨by rfl, ?_⟩) (by assumption) ?_
        rotate_left
        · intro w hSw
          (try dsimp only at hSw)
          first | (go_simp; done) | (go_simp; with_reducible rfl)
        (try simp only [Act.put, List.setIfInBounds_toArray, List.set_cons_zero, List.set_cons_succ])
        refine wpAnyH_take (i := 17) (v := ?_) rfl (by kernel_rfl) (by kernel_rfl) (by kernel_rfl) (fun _ _ _ h => h) (Or.inl ⟨by rfl, ?_⟩) (by assumption) ?_
        rotate_left
        · intro w hSw
          (try dsimp only at hSw)
          first | (go_simp; done) | (go_simp; with_reducible rfl)
        (try simp only [Act.put, List.setIfInBounds_toArray, List.set_cons_zero, List.set_cons_succ])
        refine wpAnyH_ready (rs := [18]) (by kernel_rfl) (by simp) ?_
        refine AllReadyH.cons rfl (fun K hK => ?_) AllReadyH.nil
        go_simp
        refine hK.out _ _ (KS _) (fun hHeld => ?_)
        clear hK K
        (try simp only [Act.put, List.setIfInBounds_toArray, List.set_cons_zero, List.set_cons_succ])
        refine wpAnyH_done (by kernel_rfl) ?_ _
        refine NoPanic.normal ?_
        go_wp2_with fail
        have hKF := HKE.out w9 HM12.out (.bool true)
        refine ⟨by simp, .inl ⟨_, _, rfl, run_takeDeferred hKF, ?_⟩⟩
        have hRF : (w9.setCell ⟨w.heap.size + 1, 0, none⟩ (.bool true)).cell? ⟨w.heap.size + 1, 0, none⟩ = some (.bool true) := setCell_eq (HRE.out w9 HM12.out).1
        have hRG := cell_kept hRF (grownBy_putObj' _ D (.deferred none)) (fun r e => by cases e; exact ⟨_, hKF, rfl⟩)
        refine ⟨_, by simp [results, Try.results8, go_sem, hRG], rfl, ?_⟩
        exact ((HBE.out.trans (HM12.out.below.mono HBE.out.size)).setCell (p := ⟨w.heap.size + 1, 0, none⟩) (by show w.heap.size ≤ w.heap.size + 1; omega) _).trans (belowK_b (w := w) (Nat.le_refl _) _ D _ _ (by have := HD.out; have := HTW.out; omega) hKF rfl rfl)
      · have tb : ((p.length : Int) == most) = false := by simpa using hb
        have tl : ((p.length : Int) == (t.length : Int)) = true := HBR.out.elim (fun h => absurd h hb) (fun h => by rw [h]; simp)
        clear hb
        go_region_held3 (fun W => W.cell? ⟨w.heap.size, 0, none⟩ = some (.int .i64 most) ∧ W.cell? ⟨w2.heap.size, 0, none⟩ = some (.slice ta t.length tc) ∧ W.cell? ⟨w2.heap.size + 1, 0, none⟩ = some (.slice ua (delAll t p).length uc) ∧ W.cell? ⟨w2.heap.size + 1 + 1, 0, none⟩ = some (.int .i64 p.length)) (first | with_reducible exact KDE | with_reducible exact KS _ | exact KDE | with_reducible exact K11 | with_reducible exact K12 | with_reducible exact K13) (first | (go_at_call 33; refine (len_tv t _ _ (HTE.out.more HM12.out)).mono ?_; rintro e w9 ⟨hm, rfl⟩; have HM13 := Lib.hid (more_trans HM12.out hm); have K13 := HXE.out w9 HM13.out; have Hm13 := Lib.hid hm; clear hm; have KR := HRE.out w9 HM13.out; have KS := HSE.out w9 HM13.out) | (go_at_call 33; refine (len_tv (delAll t p) _ _ (HUE.out.more HM11.out)).mono ?_; rintro e w12 ⟨hm, rfl⟩; have HM12 := Lib.hid (more_trans HM11.out hm); have K12 := HXE.out w12 HM12.out; have Hm12 := Lib.hid hm; clear hm) | (go_at_call 33; refine (len_tv t _ _ (HTE.out.more (more_drew W))).mono ?_; rintro e w11 ⟨hm, rfl⟩; have HM11 := Lib.hid (more_trans (more_drew W) hm); have K11 := HXE.out w11 HM11.out; have Hm11 := Lib.hid hm; clear hm))
        go_wp2_with fail
        have hKF := HKE.out w9 HM13.out (.bool true)
        refine ⟨by simp, .inl ⟨_, _, rfl, run_takeDeferred hKF, ?_⟩⟩
        have hRF : (w9.setCell ⟨w.heap.size + 1, 0, none⟩ (.bool true)).cell? ⟨w.heap.size + 1, 0, none⟩ = some (.bool true) := setCell_eq (HRE.out w9 HM13.out).1
        have hRG := cell_kept hRF (grownBy_putObj' _ D (.deferred none)) (fun r e => by cases e; exact ⟨_, hKF, rfl⟩)
        refine ⟨_, by simp [results, Try.results8, go_sem, hRG], rfl, ?_⟩
        exact ((HBE.out.trans (HM13.out.below.mono HBE.out.size)).setCell (p := ⟨w.heap.size + 1, 0, none⟩) (by show w.heap.size ≤ w.heap.size + 1; omega) _).trans (belowK_b (w := w) (Nat.le_refl _) _ D _ _ (by have := HD.out; have := HTW.out; omega) hKF rfl rfl)
    · exact absurd hp hX2
end Go.Proofs.Ytekhoanjpnjaeaa

