/- Texts Env, DepE, ShelfG, GrowT, RefTab, Same, Concat, Delete, DiffL, Put, Diff, Byt, MkA, HeldP, laid together. -/
import Derived.Lib.Hide
import Derived.Shelf.Spec.SlicesGrow
import Derived.Test.YtekhoanjpnjaeaaProg
import Derived.Laws.StructEq
import Derived.Laws.AppendOwnNone
import Derived.Deep.AppendLies
import Derived.Laws.IdiomStrings
import Derived.Deep.RegionHeld3
import Derived.Test.YtekhoanjpnjaeaaNc
import Derived.Test.YtekhoanjpnjaeaaNd
import Derived.Test.YtekhoanjpnjaeaaNn
import Derived.Test.YtekhoanjpnjaeaaNo
/- rootcauselaw10.Env (52). -/
namespace Go.Proofs.Ytekhoanjpnjaeaa
open Go.RowKit

structure EnvInv (w : World) (e : EnvD) (c1 c2 c3 : Value) (k : Nat) (ov : Value) (xs : List Value) (wr : World) : Prop where
  inv : OutInv 97 54 w c1 c2 c3 e.now xs wr
  hov : wr.heap[w.heap.size + 1 + 1]? = some (.cells #[c1, c2, c3, ov, .int .i64 e.now] 97)
  own : wr.ownsRow (w.heap.size + 1 + 1 + 1) 54 1 ov xs.length xs
  len : xs.length = k
  rows : ∀ i (h : i < e.tabs.length), i < k → ∃ tv, xs[i]? = some tv ∧ Row (fun x => w.heap.size + 1 + 1 + 1 ≤ x ∧ ov.ownBlock ≠ some x) wr 2 (ofL e.tabs[i]).length tv (flat2 (ofL e.tabs[i]))
theorem EnvInv.start (w : World) (o : Obj) (e : EnvD) (c1 c2 c3 : Value) : EnvInv w e c1 c2 c3 0 (.slice none 0 0) [] (((w.alloc o).alloc (.cells #[.slice none 0 0, .slice none 0 0, .slice none 0 0, .slice none 0 0, .int .i64 0] 97)).alloc (.cells #[c1, c2, c3, .slice none 0 0, .int .i64 e.now] 97)) :=
  ⟨OutInv.start 97 54 w o c1 c2 c3 e.now, alloc_at _ _ (by simp), ⟨rfl, Or.inl ⟨rfl, rfl⟩⟩, rfl, fun _ _ h => absurd h (Nat.not_lt_zero _)⟩
theorem EnvInv.step {w wr w1 w2 : World} {e : EnvD} {c1 c2 c3 ov tv : Value} {k gg cap : Nat} {xs : List Value} {o : Obj} (hI : EnvInv w e c1 c2 c3 k ov xs wr) (hk : k < e.tabs.length) (h1 : More wr w1)
    (hr : Row (fun x => wr.heap.size ≤ x) w1 2 (ofL e.tabs[k]).length tv (flat2 (ofL e.tabs[k]))) (hg : (w1.alloc o).grownBy w2 ov.ownBlock)
    (ho : w2.ownsRow (w.heap.size + 1 + 1 + 1) 54 1 (.slice (some ⟨gg, 0, none⟩) (xs.length + 1) cap) (xs.length + 1) (xs ++ [tv])) (hat : ov.ownBlock = some gg ∨ gg = w1.heap.size + 1) :
    EnvInv w e c1 c2 c3 (k + 1) (.slice (some ⟨gg, 0, none⟩) (xs.length + 1) cap) (xs ++ [tv]) (w2.setCell ⟨w.heap.size + 1 + 1, 3, none⟩ (.slice (some ⟨gg, 0, none⟩) (xs.length + 1) cap)) := by
  have hs := hI.inv.size
  have hs1 := h1.size
  have hs2 := hg.size
  rw [World.size_alloc] at hs2
  obtain ⟨oa, ocap, hov', hon⟩ := owns_shape hI.own
  have hgg : w.heap.size + 1 + 1 + 1 ≤ gg := by
    rcases hat with h | h
    · exact (hon _ h).1
    · omega
  have hown' : ∀ y, (Value.slice (some ⟨gg, 0, none⟩) (xs.length + 1) cap).ownBlock = some y → y = gg := fun y hy => by
    have : gg = y := by simpa [Value.ownBlock] using hy
    exact this.symm
  have hI2 := hI.inv.step (x := tv) hI.hov h1 hg ho (fun y hy => (hon y hy).1) (fun y hy => by rw [hown' y hy]; exact hgg)
  have cellK : ∀ x oo v, w.heap.size + 1 + 1 + 1 ≤ x → ov.ownBlock ≠ some x → x ≠ gg → w1.cell? ⟨x, oo, none⟩ = some v → (w.heap.size + 1 + 1 + 1 ≤ x ∧ (Value.slice (some ⟨gg, 0, none⟩) (xs.length + 1) cap).ownBlock ≠ some x) ∧ (w2.setCell ⟨w.heap.size + 1 + 1, 3, none⟩ (.slice (some ⟨gg, 0, none⟩) (xs.length + 1) cap)).cell? ⟨x, oo, none⟩ = some v := by
    intro x oo v hx hne hng hv
    refine ⟨⟨hx, fun e => hng (hown' x e)⟩, ?_⟩
    have hlt := cell_lt hv
    have e1 : (w2.setCell ⟨w.heap.size + 1 + 1, 3, none⟩ (.slice (some ⟨gg, 0, none⟩) (xs.length + 1) cap)).heap[x]? = w1.heap[x]? := by
      rw [Below.heap_setCell _ _ _ _ (by simp; omega), hg.block x (by rw [World.size_alloc]; omega) (fun e => hne e.symm), Below.heap_alloc _ _ _ hlt]
    exact (World.cell?_of_block (w := w1) (a := ⟨x, oo, none⟩) e1).trans hv
  refine ⟨hI2, ?_, ?_, by rw [List.length_append, hI.len]; rfl, fun i hi hik => ?_⟩
  · have e2 : w2.heap[w.heap.size + 1 + 1]? = wr.heap[w.heap.size + 1 + 1]? := by
      rw [hg.block _ (by rw [World.size_alloc]; omega) (fun e => by have := (hon _ e.symm).1; omega), Below.heap_alloc _ _ _ (by omega)]
      exact h1.block (by omega)
    exact heap_setCell_same _ _ _ _ _ _ (e2.trans hI.hov)
  · rw [List.length_append]
    exact owns_keep ho (fun y hy => Below.heap_setCell _ _ _ _ (by rw [hown' y hy]; simp; omega))
  · have hxl := hI.len
    by_cases e : i = k
    · subst e
      refine ⟨tv, by rw [List.getElem?_append_right (by omega)]; simp [hxl], hr.mono2 (by omega) (fun x oo v hx hv => ?_)⟩
      have hlt := cell_lt hv
      exact cellK x oo v (by omega) (fun e => by have := (hon _ e).2; omega) (by
        rcases hat with h | h
        · have := (hon _ h).2; omega
        · omega) hv
    · obtain ⟨tv', h2, h3⟩ := hI.rows i hi (by omega)
      refine ⟨tv', by rw [List.getElem?_append_left (by omega)]; exact h2, h3.mono2 (by omega) (fun x oo v hx hv => ?_)⟩
      have hlt := cell_lt hv
      exact cellK x oo v hx.1 hx.2 (fun e => by
        rcases hat with h | h
        · exact hx.2 (by rw [h, e])
        · omega) (h1.cell hv)

theorem Try.info54 : (Try.prog.info? 54).map (fun i => (i.zero, i.size, i.bytes)) = some (some (.agg #[.slice none 0 0]), 1, 24) := by kernel_rfl
end Go.Proofs.Ytekhoanjpnjaeaa

/- An environment of expressions that is being laid: its box, its four rows, the tables; slices.Clone at strings, numbers and tables. -/
namespace Go.Proofs.Ytekhoanjpnjaeaa
open Go.RowKit
def NilD (v : Value) : Prop := ∀ a n cap, v = .slice a n cap → a = none → cap = 0
theorem more_allocD (w : World) (o : Obj) : More w (w.alloc o) := World.grownBy_alloc w o none
theorem blk_ltD {W : World} {B : Nat} {o : Obj} (h : W.heap[B]? = some o) : B < W.heap.size := (Array.getElem?_eq_some_iff.1 h).1
theorem setCell_heapD {w : World} {B o : Nat} {v : Value} {arr : Array Value} {ty : TypeId} (h : w.heap[B]? = some (.cells arr ty)) : (w.setCell ⟨B, o, none⟩ v).heap[B]? = some (.cells (arr.setIfInBounds o v) ty) := by
  simp [World.setCell, Array.getElem?_modify, h]
theorem owns_blk {W : World} {B : Nat} {e : TypeId} {n size z : Nat} {v : Value} {xs : List Value} (h : W.ownsRow B e size v n xs) (hz : v.ownBlock = some z) : ∃ cur, W.heap[z]? = some (.cells cur e (0, 0)) := by
  rcases h.2 with ⟨rfl, _⟩ | ⟨g, cap, cur, rfl, _, hg, _⟩
  · cases hz
  · have e1 : g = z := by injection hz
    subst e1
    exact ⟨cur, hg⟩
theorem owns_ne {W : World} {B B' : Nat} {e e' : TypeId} {n n' size size' z : Nat} {v v' : Value} {xs xs' : List Value} (h : W.ownsRow B e size v n xs) (h' : W.ownsRow B' e' size' v' n' xs') (he : e ≠ e') (hz : v.ownBlock = some z) : v'.ownBlock ≠ some z := fun hz' => by
  obtain ⟨c, h1⟩ := owns_blk h hz
  obtain ⟨c', h2⟩ := owns_blk h' hz'
  rw [h1] at h2
  injection h2 with h2
  injection h2 with _ h3 _
  exact he h3
/-- The blocks in which a table may lie. -/
def TB (EB : Nat) (nv vv tv bv : Value) (b : Nat) : Prop := b ≠ EB ∧ nv.ownBlock ≠ some b ∧ vv.ownBlock ≠ some b ∧ tv.ownBlock ≠ some b ∧ bv.ownBlock ≠ some b
structure EnvB (EB : Nat) (w5 W : World) (cs : Array Value) (nv vv tv bv : Value) (ns vs ts bs : List Value) (tb : List (List (Int × Int))) : Prop where
  low : Below EB w5 W
  box : W.heap[EB]? = some (.cells cs 97)
  on : W.ownsRow (EB + 1) 9 1 nv ns.length ns
  ov : W.ownsRow (EB + 1) 2 1 vv vs.length vs
  ot : W.ownsRow (EB + 1) 9 1 tv ts.length ts
  ob : W.ownsRow (EB + 1) 54 1 bv bs.length bs
  ne : ∀ z, nv.ownBlock = some z → tv.ownBlock ≠ some z
  tl : bs.length = tb.length
  tr : ∀ i (h : i < tb.length), ∃ x, bs[i]? = some x ∧ Row (TB EB nv vv tv bv) W 2 tb[i].length x (flat2 tb[i])
section
variable {EB : Nat} {w5 W W' : World} {cs : Array Value} {nv vv tv bv : Value} {ns vs ts bs : List Value} {tb : List (List (Int × Int))}
theorem EnvB.ns' (h : EnvB EB w5 W cs nv vv tv bv ns vs ts bs tb) : EB + 1 ≤ W.heap.size := blk_ltD h.box
theorem EnvB.more (h : EnvB EB w5 W cs nv vv tv bv ns vs ts bs tb) (hm : More W W') : EnvB EB w5 W' cs nv vv tv bv ns vs ts bs tb :=
  ⟨h.low.trans (hm.below.mono (by have := h.ns'; omega)), (hm.block (blk_ltD h.box)).trans h.box, owns_keep h.on (fun z hz => hm.block (h.on.lt z hz).2), owns_keep h.ov (fun z hz => hm.block (h.ov.lt z hz).2), owns_keep h.ot (fun z hz => hm.block (h.ot.lt z hz).2), owns_keep h.ob (fun z hz => hm.block (h.ob.lt z hz).2), h.ne, h.tl, fun i hi => by
    obtain ⟨x, h1, h2⟩ := h.tr i hi
    exact ⟨x, h1, h2.mono (fun _ k => k) (fun b off u _ hc => hm.cell hc)⟩⟩
theorem EnvB.store (h : EnvB EB w5 W cs nv vv tv bv ns vs ts bs tb) (k : Nat) (u : Value) : EnvB EB w5 (W.setCell ⟨EB, k, none⟩ u) (cs.setIfInBounds k u) nv vv tv bv ns vs ts bs tb := by
  have hk : ∀ b, b ≠ EB → (W.setCell ⟨EB, k, none⟩ u).heap[b]? = W.heap[b]? := fun b hb => Below.heap_setCell _ _ _ _ hb
  exact ⟨h.low.setCell (Nat.le_refl _) _, setCell_heapD h.box, owns_keep h.on (fun z hz => hk z (by have := (h.on.lt z hz).1; omega)), owns_keep h.ov (fun z hz => hk z (by have := (h.ov.lt z hz).1; omega)), owns_keep h.ot (fun z hz => hk z (by have := (h.ot.lt z hz).1; omega)), owns_keep h.ob (fun z hz => hk z (by have := (h.ob.lt z hz).1; omega)), h.ne, h.tl, fun i hi => by
    obtain ⟨x, h1, h2⟩ := h.tr i hi
    exact ⟨x, h1, h2.mono (fun _ k => k) (fun b off u hb hc => by rw [World.cell?_of_block (a := ⟨b, off, none⟩) (hk b hb.1)]; exact hc)⟩⟩
theorem EnvB.start (hb : Below EB w5 W) (hx : W.heap[EB]? = some (.cells cs 97)) : EnvB EB w5 W cs (.slice none 0 0) (.slice none 0 0) (.slice none 0 0) (.slice none 0 0) [] [] [] [] [] :=
  ⟨hb, hx, World.ownsRow_nil _ _ _ _, World.ownsRow_nil _ _ _ _, World.ownsRow_nil _ _ _ _, World.ownsRow_nil _ _ _ _, fun z hz => (by cases hz), rfl, fun i hi => (by cases hi)⟩
/-- The environment as expr.Eval has it. -/
theorem EnvB.env (e : EnvD) {now : Int} (h : EnvB EB w5 W #[nv, vv, tv, bv, .int .i64 now] nv vv tv bv (e.names.map .string) (e.vals.map (.int .i64)) (e.tnames.map .string) bs e.tabs)
    (hs : e.names.length < 4294967296 ∧ e.vals.length < 4294967296 ∧ e.tnames.length < 4294967296 ∧ e.tabs.length < 4294967296 ∧ ∀ t ∈ e.tabs, t.length < 4294967296)
    (hn : In64 e.now ∧ (∀ v ∈ e.vals, In64 v) ∧ ∀ t ∈ e.tabs, ∀ x ∈ t, In64 x.1 ∧ In64 x.2) (ha : ∀ t ∈ e.tabs, Asc t) (ht : (∀ x ∈ e.names, x.size ≤ maxLen) ∧ ∀ x ∈ e.tnames, x.size ≤ maxLen) :
    EnvP (fun _ => True) W e nv vv tv bv := by
  have hT : ∀ {B : Nat} {e' : TypeId} {n : Nat} {v : Value} {xs : List Value}, W.ownsRow B e' 1 v n xs → Row (fun _ => True) W 1 n v xs := fun h => (Row.of_owns h).mono (fun _ _ => trivial) (fun _ _ _ _ h => h)
  refine ⟨⟨by simpa using hT h.on, by simpa using hT h.ov, by simpa using hT h.ot, ⟨bs, by have := hT h.ob; rwa [h.tl] at this, fun i hi => ?_⟩, hs, hn⟩, ha, ht⟩
  obtain ⟨x, h1, h2⟩ := h.tr i hi
  exact ⟨x, h1, h2.mono (fun _ _ => trivial) (fun _ _ _ _ h => h)⟩
end
set_option maxRecDepth 100000 in
set_option maxHeartbeats 1000000 in
theorem clone57_any (xs : List Value) (v : Value) (w : World) (S : Nat → Prop) (hl : xs.length ≤ 1000000) (h : Row S w 1 xs.length v xs) (hn : NilD v) (h1 : ∀ u ∈ xs, u.oneCell' = true) :
    Calls Try.prog 57 #[v] w fun e w' => (∃ v', e = .returned v' ∧ w'.ownsRow w.heap.size 9 1 v' xs.length xs) ∧ More w w' := by
  obtain ⟨a, cap, rfl, hcap⟩ := h.shape
  obtain ⟨i0, hi0, hz0, hz1, hz2⟩ := info_parts Try.info9s
  have hq := fun W => Lib.run_eql_slice_nil (P := Try.prog) W 90 9 a xs.length cap 0 0 Try.underlying90
  obtain ⟨n, HN⟩ : ∃ n, Hid (xs.length = n) := ⟨_, Lib.hid rfl⟩
  rw [HN.out] at hl h hq hn hcap ⊢
  have hz9 : (⟨0, 0, none⟩ : Addr) = ⟨0, 0, none⟩ := rfl
  clear hz9
  cases a with
  | none =>
    obtain rfl := hn _ _ _ rfl rfl
    have e0 : n = 0 := by omega
    subst e0
    have hx : xs = [] := List.length_eq_zero_iff.1 HN.out
    subst hx
    go_enter Try.func57, Try.ntmps57
    go_wp2_with fail
    go_ret
    exact ⟨⟨_, rfl, World.ownsRow_nil _ _ _ _⟩, more_of (Below.refl _ _)⟩
  | some ta =>
    have HR := Lib.hid h; clear h
    have HM := Lib.hid (more_allocD w (.cells #[] 9))
    have HO := Lib.hid (World.ownsRow_made (base := w.heap.size) (e := 9) (size := 1) w #[] 0 (Nat.le_refl _) (by unfold maxLen; omega) (by simp))
    have HNW := Lib.hid (show ∀ i u, xs[i]? = some u → (w.alloc (.cells #[] 9)).cell? (ta.add i) = some u from fun i u hu => by
      have hpos : 0 < n := by rw [← HN.out]; have := (List.getElem?_eq_some_iff.1 hu).1; omega
      obtain ⟨b, off, hb, _, _, hc⟩ := HR.out.at (by omega)
      cases hb
      rw [Addr.add_mid]
      exact HM.out.cell (hc i u hu))
    have H1 := Lib.hid h1; clear h1
    go_enter Try.func57, Try.ntmps57
    go_wp2_with (at_builtin; refine wpList_append_own _ rfl _ _ 90 rfl w.heap.size 9 i0 _ 1 16 Try.underlying90 hi0 hz0 hz1 hz2 rfl (by omega) (.slice (some ⟨w.heap.size, 0, none⟩) 0 0) 0 [] rfl HO.out ta n cap xs rfl (by rw [HN.out, Nat.mul_one]) HNW.out H1.out (by unfold maxLen; omega) (by omega) (by rw [World.size_alloc]; omega) ?_; intro v6 w6 hown6 hgrow6 _; obtain ⟨xa, xc, rfl, _⟩ := owns_shape hown6)
    have HM6 := Lib.hid (show More w w6 from more_of (HM.out.below.grown hgrow6 HM.out.size (fun z hz => (HO.out.lt z hz).1)))
    rw [Nat.zero_add, List.nil_append] at hown6
    try rw [Nat.zero_add]
    have HO6 := Lib.hid hown6
    clear hown6 hgrow6
    go_wp2_with fail
    go_ret
    exact ⟨⟨_, rfl, HO6.out⟩, HM6.out⟩
set_option maxRecDepth 100000 in
set_option maxHeartbeats 1000000 in
theorem clone58_any (xs : List Value) (v : Value) (w : World) (S : Nat → Prop) (hl : xs.length ≤ 1000000) (h : Row S w 1 xs.length v xs) (hn : NilD v) (h1 : ∀ u ∈ xs, u.oneCell' = true) :
    Calls Try.prog 58 #[v] w fun e w' => (∃ v', e = .returned v' ∧ w'.ownsRow w.heap.size 2 1 v' xs.length xs) ∧ More w w' := by
  obtain ⟨a, cap, rfl, hcap⟩ := h.shape
  obtain ⟨i0, hi0, hz0, hz1, hz2⟩ := info_parts Try.info2
  have hq := fun W => Lib.run_eql_slice_nil (P := Try.prog) W 73 2 a xs.length cap 0 0 Try.underlying73
  obtain ⟨n, HN⟩ : ∃ n, Hid (xs.length = n) := ⟨_, Lib.hid rfl⟩
  rw [HN.out] at hl h hq hn hcap ⊢
  have hz9 : (⟨0, 0, none⟩ : Addr) = ⟨0, 0, none⟩ := rfl
  clear hz9
  cases a with
  | none =>
    obtain rfl := hn _ _ _ rfl rfl
    have e0 : n = 0 := by omega
    subst e0
    have hx : xs = [] := List.length_eq_zero_iff.1 HN.out
    subst hx
    go_enter Try.func58, Try.ntmps58
    go_wp2_with fail
    go_ret
    exact ⟨⟨_, rfl, World.ownsRow_nil _ _ _ _⟩, more_of (Below.refl _ _)⟩
  | some ta =>
    have HR := Lib.hid h; clear h
    have HM := Lib.hid (more_allocD w (.cells #[] 2))
    have HO := Lib.hid (World.ownsRow_made (base := w.heap.size) (e := 2) (size := 1) w #[] 0 (Nat.le_refl _) (by unfold maxLen; omega) (by simp))
    have HNW := Lib.hid (show ∀ i u, xs[i]? = some u → (w.alloc (.cells #[] 2)).cell? (ta.add i) = some u from fun i u hu => by
      have hpos : 0 < n := by rw [← HN.out]; have := (List.getElem?_eq_some_iff.1 hu).1; omega
      obtain ⟨b, off, hb, _, _, hc⟩ := HR.out.at (by omega)
      cases hb
      rw [Addr.add_mid]
      exact HM.out.cell (hc i u hu))
    have H1 := Lib.hid h1; clear h1
    go_enter Try.func58, Try.ntmps58
    go_wp2_with (at_builtin; refine wpList_append_own _ rfl _ _ 73 rfl w.heap.size 2 i0 _ 1 8 Try.underlying73 hi0 hz0 hz1 hz2 rfl (by omega) (.slice (some ⟨w.heap.size, 0, none⟩) 0 0) 0 [] rfl HO.out ta n cap xs rfl (by rw [HN.out, Nat.mul_one]) HNW.out H1.out (by unfold maxLen; omega) (by omega) (by rw [World.size_alloc]; omega) ?_; intro v6 w6 hown6 hgrow6 _; obtain ⟨xa, xc, rfl, _⟩ := owns_shape hown6)
    have HM6 := Lib.hid (show More w w6 from more_of (HM.out.below.grown hgrow6 HM.out.size (fun z hz => (HO.out.lt z hz).1)))
    rw [Nat.zero_add, List.nil_append] at hown6
    try rw [Nat.zero_add]
    have HO6 := Lib.hid hown6
    clear hown6 hgrow6
    go_wp2_with fail
    go_ret
    exact ⟨⟨_, rfl, HO6.out⟩, HM6.out⟩
end Go.Proofs.Ytekhoanjpnjaeaa

/-
  DERIVED: THE SHELF's CONTRACTS AT THIS DUMP, IN PLAIN WORDS (tools/lay-plain.mjs out of 'TryShelfG.lean', which tools/lay-shelf.mjs wrote): THE SAME DECLARATIONS UNDER THE SAME NAMES: 'import', 'namespace', 'open', 'def', 'theorem' AND NOTHING ELSE: no command of the shelf's: FOR A HAND-IN. Each laying: the table of numbers ('.._ren') and one theorem, a field a fact of the dump's own or the kernel's comparison; each contract: ONE APPLICATION.
-/
namespace Go.Proofs
open Go.Shelf
end Go.Proofs

/- slices.Grow of nil at table's entries (120). -/
namespace Go.Proofs.Ytekhoanjpnjaeaa
open Go.RowKit Go.Shelf
end Go.Proofs.Ytekhoanjpnjaeaa

/- The reference's tables: ref09.Get (32), Delete (74), Put (75), Of (37), Same (34). -/
namespace Go.Proofs.Ytekhoanjpnjaeaa
open Go.RowKit

/-- Insertion ahead of the first greater key. -/
def insL : List (Int × Int) → Int → Int → List (Int × Int)
  | [], k, v => [(k, v)]
  | x :: r, k, v => if k < x.1 then (k, v) :: x :: r else x :: insL r k v
theorem insL_take : ∀ (l : List (Int × Int)) (k v : Int) (j : Nat), j ≤ l.length → (∀ i (h : i < l.length), i < j → ¬ k < l[i].1) → insL l k v = l.take j ++ insL (l.drop j) k v
  | l, k, v, 0, _, _ => by simp
  | [], k, v, j + 1, h, _ => by simp at h
  | x :: r, k, v, j + 1, h, hn => by
    have h0 := hn 0 (by simp) (by omega)
    simp only [List.getElem_cons_zero] at h0
    rw [insL, if_neg h0, insL_take r k v j (by simpa using h) (fun i hi hij => by have := hn (i + 1) (by simpa using hi) (by omega); simpa using this)]
    simp
/-- What is written of ref.Put's result after j rounds over D. -/
structure PutInv (D : List (Int × Int)) (k v : Int) (j : Nat) (done : Bool) (O : List (Int × Int)) : Prop where
  yes : done = true → O ++ D.drop j = insL D k v
  no : done = false → O = D.take j ∧ ∀ i (h : i < D.length), i < j → ¬ k < D[i].1
  len : O.length ≤ j + 1
theorem PutInv.start (D : List (Int × Int)) (k v : Int) : PutInv D k v 0 false [] := ⟨(fun h => by cases h), fun _ => ⟨rfl, fun _ _ h => absurd h (Nat.not_lt_zero _)⟩, by simp⟩
theorem PutInv.put {D O : List (Int × Int)} {k v : Int} {j : Nat} (h : PutInv D k v j false O) (hj : j < D.length) (hc : k < D[j].1) : PutInv D k v (j + 1) true (O ++ [(k, v)] ++ [D[j]]) := by
  obtain ⟨h1, h2⟩ := h.no rfl
  have hl : O.length = j := by rw [h1, List.length_take]; omega
  refine ⟨fun _ => ?_, (fun hd => by cases hd), by simp [hl]⟩
  rw [insL_take D k v j (by omega) h2, List.drop_eq_getElem_cons hj, insL, if_pos hc, h1]
  simp
theorem ofL_len (l : List (Int × Int)) : (ofL l).length ≤ l.length := by
  rw [← dist_length]; exact distL_le l
end Go.Proofs.Ytekhoanjpnjaeaa

/- ref09.Same (34); slices.Equal at entries (82); Table.Equal (43). -/
namespace Go.Proofs.Ytekhoanjpnjaeaa
open Go.RowKit

theorem u66 : Try.prog.underlying 66 = some (.array 2 2) := by kernel_rfl
theorem run_size2 (w : World) : (Go.sizeOf 2).run Try.prog w = .ok 1 w := by kernel_rfl
theorem run_part0 (a b : Value) (w : World) : (part 2 #[a, b] (0 * 1)).run Try.prog w = .ok a w := by kernel_rfl
theorem run_part1' (a b : Value) (w : World) : (part 2 #[a, b] 1).run Try.prog w = .ok b w := by kernel_rfl
theorem run_eq66 (a b c d : Int) (w : World) : (Op.equalIn 10000 66 (.agg #[.int .i64 a, .int .i64 b]) (.agg #[.int .i64 c, .int .i64 d])).run Try.prog w = .ok (a == c && b == d) w := by
  show (Op.equalIn (9998 + 1 + 1) 66 (.agg #[.int .i64 a, .int .i64 b]) (.agg #[.int .i64 c, .int .i64 d])).run Try.prog w = _
  rw [Op.equalIn]
  simp only [run_underlying u66, Sem.run_bind, Result.andThen]
  rw [run_size2]
  simp only []
  simp only [Std.Legacy.Range.forIn_eq_forIn_range']
  rw [show List.range' 0 [:2].size = [0, 1] from rfl]
  simp only [List.forIn_cons, List.forIn_nil]
  simp only [Sem.run_bind, run_part0, Result.andThen, run_equalIn_int _ _ _ _ _ _ _ Try.underlying2]
  cases h1 : (a == c) <;> cases h2 : (b == d) <;> simp [Sem.run_bind, run_part1', Result.andThen, run_equalIn_int _ _ _ _ _ _ _ Try.underlying2, h2]
attribute [local go_sem] run_eq66
end Go.Proofs.Ytekhoanjpnjaeaa

/- slices.Concat at table's entries (81). -/
namespace Go.Proofs.Ytekhoanjpnjaeaa
open Go.RowKit

/-- nil, or an address of its own. -/
def PlainA (a : Option Addr) (c : Nat) : Prop := (a = none ∧ c = 0) ∨ ∃ b off, a = some ⟨b, off, none⟩
theorem PlainA.nil {a : Option Addr} {c : Nat} (h : PlainA a c) (e : a = none) : c = 0 := by
  rcases h with h | ⟨b, off, h⟩
  · exact h.2
  · rw [h] at e; cases e

end Go.Proofs.Ytekhoanjpnjaeaa

/- Table.Delete (40). -/
namespace Go.Proofs.Ytekhoanjpnjaeaa
open Go.RowKit

end Go.Proofs.Ytekhoanjpnjaeaa

/- Put's place and the differences of two tables, in plain words. No program in sight. -/
namespace Go.Proofs.Ytekhoanjpnjaeaa
open Go.RowKit

end Go.Proofs.Ytekhoanjpnjaeaa

/- Table.Put (44). -/
namespace Go.Proofs.Ytekhoanjpnjaeaa
open Go.RowKit

theorem PlainA.zero {a : Option Addr} {c : Nat} (h : PlainA a c) : a = none → c = 0 := h.nil

theorem slice_from (a : Option Addr) (n cap p : Nat) (hp : p ≤ n) (hc : n ≤ cap) (hnil : PlainA a cap) : ∃ a', PlainA a' (cap - p) ∧
    (∀ w, (Instr.slice 52 (.slice a n cap) (some (.int .i64 (p : Int))) none none).run Try.prog w = .ok (.slice a' (n - p) (cap - p)) w) ∧
    ∀ S w (l : List (Int × Int)), l.length = n → Row S w 2 n (.slice a n cap) (flat2 l) → Row S w 2 (n - p) (.slice a' (n - p) (cap - p)) (flat2 (l.drop p)) := by
  rcases hnil with ⟨rfl, rfl⟩ | ⟨b, off, rfl⟩
  · obtain rfl : n = 0 := by omega
    obtain rfl : p = 0 := by omega
    exact ⟨none, Or.inl ⟨rfl, rfl⟩, fun w => by simp [go_sem, sliced], fun S w l _ h => by simpa using h⟩
  · by_cases e : cap = p
    · obtain rfl : n = p := by omega
      subst e
      refine ⟨some ⟨b, off, none⟩, Or.inr ⟨b, off, rfl⟩, fun w => ?_, fun S w l hl h => ?_⟩
      · simp [go_sem, sliced]
      · rw [List.drop_of_length_le (by omega), Nat.sub_self]
        exact Row.nil _ _ _ _ _
    · refine ⟨some ⟨b, off + p * 2, none⟩, Or.inr ⟨b, _, rfl⟩, fun w => ?_, fun S w l hl h => ?_⟩
      · simp [go_sem, sliced]
        rw [if_pos (by omega), if_neg e]
      · rw [← flat2_drop]; exact h.drop hp
end Go.Proofs.Ytekhoanjpnjaeaa

/- table.Diff (41). -/
namespace Go.Proofs.Ytekhoanjpnjaeaa
open Go.RowKit

/-- A slice of entries as it stands between two rounds. -/
def TabV (S : Nat → Prop) (w : World) (l : List (Int × Int)) (v : Value) : Prop := ∃ a cap, v = .slice a l.length cap ∧ Row S w 2 l.length v (flat2 l) ∧ PlainA a cap
theorem TabV.below {S : Nat → Prop} {w w' : World} {l : List (Int × Int)} {v : Value} (hB : Below w.heap.size w w') (h : TabV S w l v) : TabV S w' l v := by
  obtain ⟨a, cap, rfl, hr, hp⟩ := h
  exact ⟨a, cap, rfl, hr.below hB, hp⟩
theorem TabV.mono {S S' : Nat → Prop} {w : World} {l : List (Int × Int)} {v : Value} (hS : ∀ b, S b → S' b) (h : TabV S w l v) : TabV S' w l v := by
  obtain ⟨a, cap, rfl, hr, hp⟩ := h
  exact ⟨a, cap, rfl, hr.mono hS (fun _ _ _ _ h => h), hp⟩
/-- What a round needs of a slice that is not empty. -/
theorem TabV.cons {S : Nat → Prop} {w : World} {x : Int × Int} {r : List (Int × Int)} {v : Value} (h : TabV S w (x :: r) v) : ∃ b off cap a' n, v = .slice (some ⟨b, off, none⟩) n cap ∧ Hid (n = r.length + 1) ∧ 0 < n ∧ ((n : Int) == 0) = false ∧ n ≤ cap ∧
    w.cell? ⟨b, off, none⟩ = some (.int .i64 x.1) ∧ w.cell? ⟨b, off + 1, none⟩ = some (.int .i64 x.2) ∧
    (∀ w, (Instr.slice 52 (.slice (some ⟨b, off, none⟩) n cap) (some (.int .i64 1)) none none).run Try.prog w = .ok (.slice a' r.length (cap - 1)) w) ∧ TabV S w r (.slice a' r.length (cap - 1)) := by
  obtain ⟨a, cap, rfl, hr, hp⟩ := h
  have hcap : r.length + 1 ≤ cap := by obtain ⟨_, _, _, he, hc, _⟩ := hr; cases he; exact hc
  obtain ⟨b, off, rfl, _, _, hc⟩ := hr.at (by simp)
  obtain ⟨a', h1, h2, h3⟩ := slice_from (some ⟨b, off, none⟩) (r.length + 1) cap 1 (by omega) hcap hp
  refine ⟨b, off, cap, a', r.length + 1, rfl, Lib.hid rfl, by omega, by simp; omega, hcap, by simpa using hc 0 _ rfl, hc 1 _ rfl, h2, a', cap - 1, rfl, ?_, h1⟩
  exact h3 S w (x :: r) rfl hr
end Go.Proofs.Ytekhoanjpnjaeaa

/- Bytes: num.put (122), PutUint (84), Zigzag (123), PutInt (85). -/
namespace Go.Proofs.Ytekhoanjpnjaeaa
open Go.RowKit

def bV (O : List Int) : List Value := O.map fun k => .int .u8 k
end Go.Proofs.Ytekhoanjpnjaeaa

/- rootcauseref05: least (104), names (105), (*maker).next (140). -/
namespace Go.Proofs.Ytekhoanjpnjaeaa
open Go.RowKit
/-- The first byte modulo n, and the rest; 0 at the end. -/
def nextB (l : List Int) (n : Int) : Int × List Int := match l with | [] => (0, []) | b :: r => (b % n, r)
/-- What does not change in a maker of statements. -/
structure MkD where
  ints : Int
  tables : Int
  flags : Int
  own : Int
  ar : Value
def mkC (d : MkD) (prm : Int) (bv : Value) (left : Int) : Array Value := #[.int .i64 d.ints, .int .i64 d.tables, .int .i64 d.flags, .int .i64 d.own, d.ar, .int .i64 prm, bv, .int .i64 left]
/-- A maker in block MB, with l as what is left of its bytes. -/
structure MkAt (W : World) (MB : Nat) (d : MkD) (prm left : Int) (l : List Int) : Prop where
  ex : ∃ a cap, W.heap[MB]? = some (.cells (mkC d prm (.slice a l.length cap) left) 203) ∧ Row (fun b => b < MB) W 1 l.length (.slice a l.length cap) (bV l)
  by' : ∀ b ∈ l, 0 ≤ b ∧ b ≤ 255
  len : l.length ≤ 1000000
theorem MkAt.lt {W : World} {MB : Nat} {d : MkD} {prm left : Int} {l : List Int} (h : MkAt W MB d prm left l) : MB < W.heap.size := by
  obtain ⟨a, cap, h1, _⟩ := h.ex
  exact blk_ltD h1
theorem MkAt.more {W W' : World} {MB : Nat} {d : MkD} {prm left : Int} {l : List Int} (h : MkAt W MB d prm left l) (hm : More W W') : MkAt W' MB d prm left l := by
  obtain ⟨a, cap, h1, h2⟩ := h.ex
  exact ⟨⟨a, cap, (hm.block (blk_ltD h1)).trans h1, h2.mono (fun _ k => k) (fun b off u _ hc => hm.cell hc)⟩, h.by', h.len⟩
theorem MkAt.set {w : World} {MB c : Nat} {d : MkD} {prm left : Int} {bv : Value} {a : Option Addr} {r : List Int} (h : w.heap[MB]? = some (.cells (mkC d prm bv left) 203)) (hr : Row (fun b => b < MB) w 1 r.length (.slice a r.length c) (bV r)) (hy : ∀ b ∈ r, 0 ≤ b ∧ b ≤ 255) (hl : r.length ≤ 1000000) :
    MkAt (w.setCell ⟨MB, 6, none⟩ (.slice a r.length c)) MB d prm left r ∧ w.grownBy (w.setCell ⟨MB, 6, none⟩ (.slice a r.length c)) (some MB) := by
  have hk : ∀ b, b ≠ MB → (w.setCell ⟨MB, 6, none⟩ (.slice a r.length c)).heap[b]? = w.heap[b]? := fun b hb => Below.heap_setCell _ _ _ _ hb
  have h2 := setCell_heapD (o := 6) (v := .slice a r.length c) h
  refine ⟨⟨⟨a, c, h2, hr.mono (fun _ k => k) (fun b off u hb hc => by rw [World.cell?_of_block (a := ⟨b, off, none⟩) (hk b (Nat.ne_of_lt hb))]; exact hc)⟩, hy, hl⟩, ⟨rfl, rfl, rfl, by simp [World.setCell], fun k _ hk' => hk k (fun e => hk' (by rw [e]))⟩⟩
theorem row_tl {S : Nat → Prop} {w : World} {b off cap : Nat} {x : Int} {r : List Int} (hS : S b) (hc : ∀ j u, (bV (x :: r))[j]? = some u → w.cell? ⟨b, off + j, none⟩ = some u) (hcap : r.length ≤ cap) : Row S w 1 r.length (.slice (some ⟨b, off + 1, none⟩) r.length cap) (bV r) :=
  ⟨by unfold bV; rw [List.length_map, Nat.mul_one], _, _, rfl, hcap, fun _ => ⟨b, off + 1, rfl, hS, fun i u hi => by have := hc (i + 1) u hi; rwa [show off + 1 + i = off + (i + 1) by omega]⟩⟩
theorem least_any (a b : Int) (w : World) : Calls Try.prog 104 #[.int .i64 a, .int .i64 b] w fun e w' => e = .returned (.int .i64 (if a < b then a else b)) ∧ w' = w := by
  by_cases h : a < b
  · have t1 : decide (a < b) = true := decide_eq_true h
    go_enter Try.func104, Try.ntmps104
    go_wp2_with fail
    go_ret
    exact ⟨rfl, rfl⟩
  · have t1 : decide (a < b) = false := decide_eq_false h
    go_enter Try.func104, Try.ntmps104
    go_wp2_with fail
    go_ret
    exact ⟨rfl, rfl⟩
set_option maxRecDepth 100000 in
set_option maxHeartbeats 1000000 in
theorem next_any (MB : Nat) (d : MkD) (prm left n : Int) (l : List Int) (w : World) (h : MkAt w MB d prm left l) (hn : 0 < n) (hn2 : n ≤ 1000) :
    Calls Try.prog 140 #[.pointer (some ⟨MB, 0, none⟩), .int .i64 n] w fun e w' => e = .returned (.int .i64 (nextB l n).1) ∧ MkAt w' MB d prm left (nextB l n).2 ∧ w.grownBy w' (some MB) := by
  obtain ⟨a, cap, hb, hr⟩ := h.ex
  have HB := Lib.hid hb; clear hb
  have HR := Lib.hid hr; clear hr
  have HY := Lib.hid h.by'
  have HL := Lib.hid h.len
  have HH := Lib.hid h; clear h
  have c6 : w.cell? ⟨MB, 6, none⟩ = some (.slice a l.length cap) := by simp [World.cell?, HB.out, mkC]
  have hbs := cell_lt c6
  cases l with
  | nil =>
    go_enter Try.func140, Try.ntmps140
    go_wp2_with fail
    go_ret
    exact ⟨rfl, HH.out, more_of (Below.refl _ _) |> fun h => ⟨h.os, h.tape, h.output, h.size, fun k hk _ => rfl⟩⟩
  | cons x r =>
    have hx := HY.out x List.mem_cons_self
    obtain ⟨b, off, rfl, _, hne, hc⟩ := HR.out.at (by simp)
    have e0 : w.cell? ⟨b, off, none⟩ = some (.int .u8 x) := by have := hc 0 (.int .u8 x) rfl; simpa using this
    have hlen : r.length ≤ 1000000 := by have := HL.out; simp at this; omega
    have hrem : Int.tmod x n = x % n := Int.tmod_eq_emod_of_nonneg hx.1
    have hnz : (n == 0) = false := beq_eq_false_iff_ne.2 (by omega)
    have hw : IntKind.i64.wrap x = x := by rw [IntKind.wrap_i64]; omega
    have hw2 : IntKind.i64.wrap (x % n) = x % n := by
      have h1 := Int.emod_nonneg x (show n ≠ 0 by omega)
      have h2 := Int.emod_lt_of_pos x hn
      rw [IntKind.wrap_i64]; omega
    obtain ⟨_, _, hsh, hcap⟩ := HR.out.shape
    have f6 := thaw HB.out 6
    have hsz : (x :: r).length = r.length + 1 := rfl
    rw [hsz] at c6
    go_enter Try.func140, Try.ntmps140
    go_wp2_with fail
    · have hr0 : r = [] := List.length_eq_zero_iff.1 (by simp only [List.length_cons] at hcap; omega)
      have H9 := MkAt.set (c := 0) (r := r) (a := some ⟨b, off, none⟩) HB.out (by subst hr0; exact ⟨rfl, _, _, rfl, Nat.le_refl _, fun h => absurd rfl h⟩) (fun b hb => HY.out b (List.mem_cons_of_mem _ hb)) hlen
      go_ret
      exact ⟨rfl, H9.1, H9.2⟩
    · have H9 := MkAt.set (c := cap - 1) (r := r) (a := some ⟨b, off + 1, none⟩) HB.out (row_tl hne (fun j u hj => by have := hc j u hj; simpa using this) (by simp only [List.length_cons] at hcap; omega)) (fun b hb => HY.out b (List.mem_cons_of_mem _ hb)) hlen
      go_ret
      exact ⟨rfl, H9.1, H9.2⟩
def nmB (c j : Nat) : ByteArray := ⟨#[UInt8.ofNat c, UInt8.ofNat (48 + j)]⟩
def namesL (c n : Nat) : List ByteArray := (List.range n).map (nmB c)
theorem namesL_succ (c n : Nat) : namesL c (n + 1) = namesL c n ++ [nmB c n] := by
  unfold namesL
  rw [List.range_succ, List.map_append]
  rfl
theorem conv_nm {c j : Nat} (hc : c < 256) (hj : j ≤ 10) (W : World) (B : Nat) (h : W.heap[B]? = some (.cells #[.int .u8 (c : Nat), .int .u8 (48 + (j : Nat))] 5)) :
    (convert 80 9 (.slice (some ⟨B, 0, none⟩) 2 2)).run Try.prog W = .ok (.string (nmB c j)) W := by
  have hr := run_convert_bytes_back (P := Try.prog) W 80 9 5 ⟨B, 0, none⟩ 2 [UInt8.ofNat c, UInt8.ofNat (48 + j)] Try.underlying80 Try.underlying5 Try.underlying9 (fun k hk => by
    rw [Addr.add_mid, Nat.zero_add]
    have h1 : (UInt8.ofNat c).toNat = c := by rw [UInt8.toNat_ofNat']; omega
    have h2 : (UInt8.ofNat (48 + j)).toNat = 48 + j := by rw [UInt8.toNat_ofNat']; omega
    have hk : k = 0 ∨ k = 1 := by simp at hk; omega
    rcases hk with rfl | rfl
    · simp [World.cell?, h]; omega
    · simp [World.cell?, h]; omega)
  exact hr
set_option maxRecDepth 100000 in
set_option maxHeartbeats 1000000 in
theorem names_any (ci ni : Int) (c n : Nat) (w : World) (hci : ci = c) (hni : ni = n) (hc : c < 256) (hn : n ≤ 9) :
    Calls Try.prog 105 #[.int .u8 ci, .int .i64 ni] w fun e w' => (∃ v, e = .returned v ∧ w'.ownsRow w.heap.size 9 1 v n ((namesL c n).map .string)) ∧ More w w' := by
  subst hci hni
  obtain ⟨i0, hi0, hz0, hz1, hz2⟩ := info_parts Try.info9s
  obtain ⟨B0, HB0⟩ : ∃ B, Hid (B = w.heap.size) := ⟨_, Lib.hid rfl⟩
  rw [← HB0.out]
  go_enter Try.func105, Try.ntmps105
  go_wp2_with fail
  go_loopw [5, 6] (fun p k wr => ∃ j : Nat, j ≤ n ∧ k = .int .i64 j ∧ Hid (wr.ownsRow B0 9 1 p j ((namesL c j).map .string)) ∧ Hid (More w wr)) (fun _ k _ => n - (intOf k).toNat)
  case atStart => exact ⟨0, Nat.zero_le _, rfl, Lib.hid (World.ownsRow_nil _ _ _ _), Lib.hid (more_of (Below.refl _ _))⟩
  case round =>
    obtain ⟨j, hj, rfl, HO, HM⟩ := hrel
    obtain ⟨wo, rfl⟩ : ∃ wo : World, wo = wr := ⟨_, rfl⟩
    obtain ⟨oa, oc, rfl, _⟩ := owns_shape HO.out
    by_cases hlt : j < n
    · have hw8 : IntKind.u8.wrap (48 + (j : Int)) = 48 + j := by rw [IntKind.wrap_u8]; omega
      have HLT := Lib.hid hlt
      have HC := Lib.hid hc
      have HJ := Lib.hid (show j ≤ 10 by omega)
      have HA := Lib.hid (more_allocD wo (.cells #[.int .u8 (c : Nat), .int .u8 (48 + (j : Nat))] 5))
      have hcv := conv_nm hc (show j ≤ 10 by omega) (wo.alloc (.cells #[.int .u8 (c : Nat), .int .u8 (48 + (j : Nat))] 5)) wo.heap.size (alloc_last _ _)
      have HA2 := Lib.hid (show More wo ((wo.alloc (.cells #[.int .u8 (c : Nat), .int .u8 (48 + (j : Nat))] 5)).alloc (.cells #[.string (nmB c j)] 9)) from more_trans HA.out (more_allocD _ _))
      have HL2 := Lib.hid (show ((wo.alloc (.cells #[.int .u8 (c : Nat), .int .u8 (48 + (j : Nat))] 5)).alloc (.cells #[.string (nmB c j)] 9)).heap[wo.heap.size + 1]? = some (.cells #[.string (nmB c j)] 9) by
        have h := alloc_last (wo.alloc (.cells #[.int .u8 (c : Nat), .int .u8 (48 + (j : Nat))] 5)) (.cells #[.string (nmB c j)] 9)
        rwa [World.size_alloc] at h)
      have HO2 := Lib.hid (owns_keep HO.out (fun z hz => HA2.out.block (HO.out.lt z hz).2))
      have hm1 : j + 1 ≤ maxLen := by unfold maxLen; omega
      have hm2 : (j + 1) * 16 ≤ 140737488355328 := by omega
      have HBS := Lib.hid (show B0 ≤ ((wo.alloc (.cells #[.int .u8 (c : Nat), .int .u8 (48 + (j : Nat))] 5)).alloc (.cells #[.string (nmB c j)] 9)).heap.size by rw [HB0.out]; exact (more_trans HM.out HA2.out).size)
      go_wp2_with (at_builtin; refine wpList_append_lies _ rfl _ _ _ rfl B0 9 i0 _ 1 16 Try.underlying90 hi0 hz0 hz1 hz2 rfl (by omega) (.slice oa j oc) j ((namesL c j).map .string) rfl HO2.out ⟨wo.heap.size + 1, 0, none⟩ 1 1 [.string (nmB c j)] rfl rfl (World.news_of_block (cs := #[.string (nmB c j)]) (t := 9) (fr := (0, 0)) HL2.out) (by simp [Value.oneCell']) (by omega) hm1 hm2 HBS.out ((wo.alloc (.cells #[.int .u8 (c : Nat), .int .u8 (48 + (j : Nat))] 5)).alloc (.cells #[.string (nmB c j)] 9)).heap.size rfl ?_; intro g2 c2 w2 hown hgrow hat hlt2)
      have HO3 := Lib.hid (show w2.ownsRow B0 9 1 (.slice (some ⟨g2, 0, none⟩) (j + 1) c2) (j + 1) ((namesL c (j + 1)).map .string) by rw [namesL_succ, List.map_append]; exact hown)
      have HM3 := Lib.hid (show More w w2 from more_of ((more_trans HM.out HA2.out).below.grown hgrow (more_trans HM.out HA2.out).size (fun z hz => by have := (HO.out.lt z hz).1; have h2 := HB0.out; omega)))
      clear hown hgrow hat hlt2 hcv hw8
      have hlt9 := HLT.out
      go_wp2_with fail
      go_roundw
      case rel => exact ⟨j + 1, by have := HLT.out; omega, by go_num, HO3, HM3⟩
      case measure => have := HLT.out; simp [intOf]; omega
    · obtain rfl : j = n := by omega
      go_wp2_with fail
      go_ret
      exact ⟨⟨_, rfl, HO.out⟩, HM.out⟩
end Go.Proofs.Ytekhoanjpnjaeaa

/- A drawn region whose late stores hit cells that it loads: the loads are taken first while the first store (operation p) has not come up. -/
namespace Go.Proofs.Ytekhoanjpnjaeaa
open Go
section
variable {P : Program} {ops : Array Oper} {Q : Exit → Act → World → Prop} {md : Region.Mode} {S : World → Prop} {p : Nat}
/-- Whatever order is picked from here on; S holds behind every operation as long as operation p has not come up. -/
def wpAnyP (P : Program) (md : Region.Mode) (ops : Array Oper) (Q : Exit → Act → World → Prop) (S : World → Prop) (p : Nat) : Nat → Array Bool → Act → World → Prop
  | 0, listed, a, w => Region.ready md ops listed = [] ∧ Q .normal a w
  | fuel + 1, listed, a, w =>
    (Region.ready md ops listed = [] → Q .normal a w) ∧
    ∀ i ∈ Region.ready md ops listed, wpOp P ops Q i (fun a' w' => ((listed.setIfInBounds i true).getD p true = false → S w') ∧ wpAnyP P md ops Q S p fuel (listed.setIfInBounds i true) a' w') a w
theorem wpAny_of_heldP : ∀ (fuel : Nat) (listed : Array Bool) (a : Act) (w : World), wpAnyP P md ops Q S p fuel listed a w → wpAny P md ops Q fuel listed a w
  | 0, _, _, _, h => h
  | fuel + 1, _, _, _, h => ⟨h.1, fun i hi => wpOp_mono (fun a' w' h' => wpAny_of_heldP fuel _ a' w' h'.2) (h.2 i hi)⟩
theorem wpAnyP_first {i : Nat} {oi : Oper} {v : Value} (hi : ops[i]? = some oi) (hsel : ∀ (j : Nat) (o : Oper) cs b, ops[j]? = some o → o.op ≠ .select cs b)
    (hQ : ∀ c a w, Q (.panic c) (a.put oi.dst v) w → Q (.panic c) a w) (hpi : p ≠ i) (hp : ∀ op, ops[p]? = some op → ∃ e ∈ op.after, Region.binds md e = true ∧ e.on = i) :
    ∀ (fuel : Nat) (listed : Array Bool) (a : Act) (w : World),
      (∀ j oj, ops[j]? = some oj → j ≠ i → listed.getD j true = false → (∀ e ∈ oj.after, Region.binds md e = true → e.on ≠ i) → oi.apart ops oj = true) →
      i ∈ Region.ready md ops listed → listed.getD p true = false → YieldsIf P ops S oi v a → S w →
      wpAnyP P md ops Q S p fuel (listed.setIfInBounds i true) (a.put oi.dst v) w → wpAnyP P md ops Q S p (fuel + 1) listed a w := by
  intro fuel
  induction fuel with
  | zero =>
    intro listed a w _ hr _ hy hS H
    refine ⟨fun h => (by rw [h] at hr; cases hr), fun j hj => ?_⟩
    by_cases hji : j = i
    · subst hji; exact hy.wpOp hi hS ⟨fun _ => hS, H⟩
    · have := ready_mono hj hji
      rw [H.1] at this
      cases this
  | succ fuel ih =>
    intro listed a w hfree hr hun hy hS H
    refine ⟨fun h => (by rw [h] at hr; cases hr), fun j hj => ?_⟩
    by_cases hji : j = i
    · subst hji; exact hy.wpOp hi hS ⟨fun _ => hS, H⟩
    · have h1 := H.2 j (ready_mono hj hji)
      obtain ⟨hjun, oj, hoj, hall⟩ := mem_ready.1 hj
      have hnot : ∀ e ∈ oj.after, Region.binds md e = true → e.on ≠ i := fun e he hb heq => by
        have h1 := hall e he hb
        have h0 := (mem_ready.1 hr).1
        rw [heq] at h1
        rcases Nat.lt_or_ge i listed.size with h' | h'
        · simp [h'] at h0 h1; rw [h0] at h1; cases h1
        · simp [Array.getElem?_eq_none h'] at h1
      have hjp : j ≠ p := fun e => by
        subst e
        obtain ⟨e, he, hb, heq⟩ := hp oj hoj
        exact hnot e he hb heq
      have hunj : (listed.setIfInBounds j true).getD p true = false := by rw [getD_set_ne true hjp]; exact hun
      have hunij : ((listed.setIfInBounds i true).setIfInBounds j true).getD p true = false := by
        rw [getD_set_ne true hjp, getD_set_ne true (fun e => hpi e.symm)]; exact hun
      have h2 := wpOp_putIf hoj (hfree j oj hoj hji hjun hnot) (fun cs b => hsel i oi cs b hi) (fun cs b => hsel j oj cs b hoj) hQ hy h1
      have hfree' : ∀ k ok, ops[k]? = some ok → k ≠ i → (listed.setIfInBounds j true).getD k true = false →
          (∀ e ∈ ok.after, Region.binds md e = true → e.on ≠ i) → oi.apart ops ok = true := fun k ok hk hki hun hno => by
        refine hfree k ok hk hki ?_ hno
        by_cases hjk : j = k
        · subst hjk; exact hjun
        · rw [getD_set_ne true hjk] at hun; exact hun
      refine wpOp_mono (fun a' w' h3 => ⟨fun _ => h3.2.1 hunij, ih (listed.setIfInBounds j true) a' w' hfree' (ready_mono hr (Ne.symm hji)) hunj h3.1 (h3.2.1 hunij) ?_⟩) h2
      rw [Array.setIfInBounds_comm _ _ hji]
      exact h3.2.2
/-- Does operation p wait for operation i? -/
def Region.waits (md : Region.Mode) (ops : Array Oper) (p i : Nat) : Bool := match ops[p]? with | some o => o.after.any fun e => Region.binds md e && e.on == i | none => true
theorem Region.waits_spec {i : Nat} (h : Region.waits md ops p i = true) : ∀ op, ops[p]? = some op → ∃ e ∈ op.after, Region.binds md e = true ∧ e.on = i := fun op ho => by
  unfold Region.waits at h
  rw [ho] at h
  simp only [Array.any_eq_true', Bool.and_eq_true, beq_iff_eq] at h
  exact h
theorem wpAnyP_take {i : Nat} {oi : Oper} {v : Value} {fuel : Nat} {listed : Array Bool} {a : Act} {w : World} (hi : ops[i]? = some oi)
    (hs : Region.noSelect ops = true) (hf : Region.free md ops listed i = true) (hr : (Region.ready md ops listed).contains i = true) (hpi : (p == i) = false) (hp : Region.waits md ops p i = true) (hun : listed.getD p true = false)
    (hQ : ∀ c a w, Q (.panic c) (a.put oi.dst v) w → Q (.panic c) a w) (hy : YieldsIf P ops S oi v a) (hS : S w)
    (h : wpAnyP P md ops Q S p fuel (listed.setIfInBounds i true) (a.put oi.dst v) w) : wpAnyP P md ops Q S p (fuel + 1) listed a w :=
  wpAnyP_first hi (Region.noSelect_spec hs) hQ (beq_eq_false_iff_ne.1 hpi) (Region.waits_spec hp) fuel listed a w (Region.free_spec hi hf) (by simpa using hr) hun hy hS h
/-- As wpAnyP_first, of an operation that yields its value in whatever world. -/
theorem wpAnyP_firstW {i : Nat} {oi : Oper} {v : Value} (hi : ops[i]? = some oi) (hsel : ∀ (j : Nat) (o : Oper) cs b, ops[j]? = some o → o.op ≠ .select cs b)
    (hQ : ∀ c a w, Q (.panic c) (a.put oi.dst v) w → Q (.panic c) a w) (hpi : p ≠ i) :
    ∀ (fuel : Nat) (listed : Array Bool) (a : Act) (w : World),
      (∀ j oj, ops[j]? = some oj → j ≠ i → listed.getD j true = false → (∀ e ∈ oj.after, Region.binds md e = true → e.on ≠ i) → oi.apart ops oj = true) →
      i ∈ Region.ready md ops listed → YieldsIf P ops (fun _ => True) oi v a → (listed.getD p true = false → S w) →
      wpAnyP P md ops Q S p fuel (listed.setIfInBounds i true) (a.put oi.dst v) w → wpAnyP P md ops Q S p (fuel + 1) listed a w := by
  intro fuel
  induction fuel with
  | zero =>
    intro listed a w _ hr hy hS H
    refine ⟨fun h => (by rw [h] at hr; cases hr), fun j hj => ?_⟩
    by_cases hji : j = i
    · subst hji; exact hy.wpOp hi trivial ⟨fun h => hS (by rw [getD_set_ne true (fun e => hpi e.symm)] at h; exact h), H⟩
    · have := ready_mono hj hji
      rw [H.1] at this
      cases this
  | succ fuel ih =>
    intro listed a w hfree hr hy hS H
    refine ⟨fun h => (by rw [h] at hr; cases hr), fun j hj => ?_⟩
    by_cases hji : j = i
    · subst hji; exact hy.wpOp hi trivial ⟨fun h => hS (by rw [getD_set_ne true (fun e => hpi e.symm)] at h; exact h), H⟩
    · have h1 := H.2 j (ready_mono hj hji)
      obtain ⟨hjun, oj, hoj, hall⟩ := mem_ready.1 hj
      have hnot : ∀ e ∈ oj.after, Region.binds md e = true → e.on ≠ i := fun e he hb heq => by
        have h1 := hall e he hb
        have h0 := (mem_ready.1 hr).1
        rw [heq] at h1
        rcases Nat.lt_or_ge i listed.size with h' | h'
        · simp [h'] at h0 h1; rw [h0] at h1; cases h1
        · simp [Array.getElem?_eq_none h'] at h1
      have h2 := wpOp_putIf hoj (hfree j oj hoj hji hjun hnot) (fun cs b => hsel i oi cs b hi) (fun cs b => hsel j oj cs b hoj) hQ hy h1
      have hfree' : ∀ k ok, ops[k]? = some ok → k ≠ i → (listed.setIfInBounds j true).getD k true = false →
          (∀ e ∈ ok.after, Region.binds md e = true → e.on ≠ i) → oi.apart ops ok = true := fun k ok hk hki hun hno => by
        refine hfree k ok hk hki ?_ hno
        by_cases hjk : j = k
        · subst hjk; exact hjun
        · rw [getD_set_ne true hjk] at hun; exact hun
      have hcom : (listed.setIfInBounds i true).setIfInBounds j true = (listed.setIfInBounds j true).setIfInBounds i true := Array.setIfInBounds_comm _ _ (Ne.symm hji)
      have hg : ((listed.setIfInBounds j true).setIfInBounds i true).getD p true = (listed.setIfInBounds j true).getD p true := getD_set_ne true (fun e => hpi e.symm)
      refine wpOp_mono (fun a' w' h3 => ⟨fun h => h3.2.1 (by rw [hcom, hg]; exact h), ih (listed.setIfInBounds j true) a' w' hfree' (ready_mono hr (Ne.symm hji)) h3.1 (fun h => h3.2.1 (by rw [hcom, hg]; exact h)) ?_⟩) h2
      rw [Array.setIfInBounds_comm _ _ hji]
      exact h3.2.2
theorem wpAnyP_takeW {i : Nat} {oi : Oper} {v : Value} {fuel : Nat} {listed : Array Bool} {a : Act} {w : World} (hi : ops[i]? = some oi)
    (hs : Region.noSelect ops = true) (hf : Region.free md ops listed i = true) (hr : (Region.ready md ops listed).contains i = true) (hpi : (p == i) = false)
    (hQ : ∀ c a w, Q (.panic c) (a.put oi.dst v) w → Q (.panic c) a w) (hy : YieldsIf P ops (fun _ => True) oi v a) (hS : listed.getD p true = false → S w)
    (h : wpAnyP P md ops Q S p fuel (listed.setIfInBounds i true) (a.put oi.dst v) w) : wpAnyP P md ops Q S p (fuel + 1) listed a w :=
  wpAnyP_firstW hi (Region.noSelect_spec hs) hQ (beq_eq_false_iff_ne.1 hpi) fuel listed a w (Region.free_spec hi hf) (by simpa using hr) hy hS h
def AllReadyP (P : Program) (md : Region.Mode) (ops : Array Oper) (Q : Exit → Act → World → Prop) (S : World → Prop) (p : Nat) (fuel : Nat) (listed : Array Bool) (a : Act) (w : World) (rs : List Nat) : Prop :=
  ∀ i ∈ rs, wpOp P ops Q i (fun a' w' => ((listed.setIfInBounds i true).getD p true = false → S w') ∧ wpAnyP P md ops Q S p fuel (listed.setIfInBounds i true) a' w') a w
theorem AllReadyP.nil {fuel : Nat} {listed : Array Bool} {a : Act} {w : World} : AllReadyP P md ops Q S p fuel listed a w [] := fun _ h => by cases h
theorem AllReadyP.cons {fuel : Nat} {listed : Array Bool} {a : Act} {w : World} {i : Nat} {o : Oper} {rs : List Nat} (ho : ops[i]? = some o)
    (h : ∀ K' : Act → World → Prop, Shut (∀ a w, ((listed.setIfInBounds i true).getD p true = false → S w) → wpAnyP P md ops Q S p fuel (listed.setIfInBounds i true) a w → K' a w) → if Region.wanted o (yielded ops a.tmps) = true then Oper.wp P o a w K' Q else K' (a.put o.dst undef) w)
    (hs : AllReadyP P md ops Q S p fuel listed a w rs) : AllReadyP P md ops Q S p fuel listed a w (i :: rs) := fun j hj => by
  rcases List.mem_cons.1 hj with rfl | hj
  · exact wpOp_step ho (fun K' hK => h K' (fun a w hS hW => hK a w ⟨hS, hW⟩))
  · exact hs j hj
theorem wpAnyP_ready {rs : List Nat} {fuel : Nat} {listed : Array Bool} {a : Act} {w : World} (hr : Region.ready md ops listed = rs) (hne : rs ≠ [])
    (h : AllReadyP P md ops Q S p fuel listed a w rs) : wpAnyP P md ops Q S p (fuel + 1) listed a w := ⟨fun h0 => absurd (hr ▸ h0) hne, hr ▸ h⟩
theorem wpAnyP_done {listed : Array Bool} {a : Act} {w : World} (hr : Region.ready md ops listed = []) (h : Q .normal a w) :
    ∀ fuel, wpAnyP P md ops Q S p fuel listed a w
  | 0 => ⟨hr, h⟩
  | _ + 1 => ⟨fun _ => h, by rw [hr]; simp⟩
theorem wp_region_heldP {id : Nat} {a : Act} {w : World} (p : Nat) (hm : P.follows .mixedOrders = true) (h : wpAnyP P .any ops Q S p ops.size (Array.replicate ops.size false) a w.drew) : (Code.region id ops true).wp P Q a w :=
  wp_region_any hm (wpAny_of_heldP _ _ _ _ h)
theorem opA {α : Type} (l : List α) (i : Nat) : l.toArray[i]? = l[i]? := by simp
theorem opS {α : Type} (x : α) (l : List α) (i : Nat) : (x :: l)[i + 1]? = l[i]? := List.getElem?_cons_succ
theorem op0 {α : Type} (x : α) (l : List α) : (x :: l)[0]? = some x := List.getElem?_cons_zero
theorem ptS (b : Act) (d : Tmp) (v : Value) : b.put (some d) v = { b with tmps := b.tmps.setIfInBounds d v } := rfl
theorem ptN (b : Act) (v : Value) : b.put none v = b := rfl
theorem stA {α : Type} (l : List α) (i : Nat) (x : α) : l.toArray.setIfInBounds i x = (l.set i x).toArray := by simp
theorem stS {α : Type} (x y : α) (l : List α) (i : Nat) : (x :: l).set (i + 1) y = x :: l.set i y := List.set_cons_succ
theorem st0 {α : Type} (x y : α) (l : List α) : (x :: l).set 0 y = y :: l := List.set_cons_zero
theorem gone {p : Nat} {listed : Array Bool} {Z : Prop} (h : listed.getD p true = true) : listed.getD p true = false → Z := fun h2 => absurd (h2.symm.trans h) (by decide)
/-- Taken first: a load (tkS), what only computes (tkW). -/
theorem tkS {i : Nat} {oi : Oper} {v : Value} {fuel : Nat} {listed : Array Bool} {a : Act} {w : World} (hi : ops[i]? = some oi)
    (hb : (Region.noSelect ops && (Region.free md ops listed i && ((Region.ready md ops listed).contains i && (!(p == i) && (Region.waits md ops p i && !(listed.getD p true)))))) = true)
    (hw : Region.wanted oi (yielded ops a.tmps) = true) (hS : S w) (hy : ∀ w, S w → (execOp a.eval oi).run P w = .ok (.value v) w)
    (h : wpAnyP P md ops Q S p fuel (listed.setIfInBounds i true) (a.put oi.dst v) w)
    (hQ : ∀ c a w, Q (.panic c) (a.put oi.dst v) w → Q (.panic c) a w := by exact fun _ _ _ h => h) : wpAnyP P md ops Q S p (fuel + 1) listed a w := by
  simp only [Bool.and_eq_true, Bool.not_eq_true'] at hb
  obtain ⟨h1, h2, h3, h4, h5, h6⟩ := hb
  exact wpAnyP_take hi h1 h2 h3 h4 h5 h6 hQ (Or.inl ⟨hw, hy⟩) hS h
theorem tkW {i : Nat} {oi : Oper} {v : Value} {fuel : Nat} {listed : Array Bool} {a : Act} {w : World} (hi : ops[i]? = some oi)
    (hb : (Region.noSelect ops && (Region.free md ops listed i && ((Region.ready md ops listed).contains i && !(p == i)))) = true)
    (hw : Region.wanted oi (yielded ops a.tmps) = true) (hS : listed.getD p true = false → S w) (hy : ∀ w, True → (execOp a.eval oi).run P w = .ok (.value v) w)
    (h : wpAnyP P md ops Q S p fuel (listed.setIfInBounds i true) (a.put oi.dst v) w)
    (hQ : ∀ c a w, Q (.panic c) (a.put oi.dst v) w → Q (.panic c) a w := by exact fun _ _ _ h => h) : wpAnyP P md ops Q S p (fuel + 1) listed a w := by
  simp only [Bool.and_eq_true, Bool.not_eq_true'] at hb
  obtain ⟨h1, h2, h3, h4⟩ := hb
  exact wpAnyP_takeW hi h1 h2 h3 h4 hQ (Or.inl ⟨hw, hy⟩) hS h
end
end Go.Proofs.Ytekhoanjpnjaeaa

