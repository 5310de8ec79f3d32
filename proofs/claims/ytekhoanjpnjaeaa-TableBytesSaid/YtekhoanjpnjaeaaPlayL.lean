/- law09.play, in plain words; a list of tables in memory. -/
import Derived.Test.YtekhoanjpnjaeaaAwake9
namespace Go.Proofs.Ytekhoanjpnjaeaa
open Go.RowKit

/-- A change: of which table, a deletion or a Put, the key and the value. -/
structure OpD where
  src : Int
  del : Bool
  k : Int
  v : Int
def OpD.ok (o : OpD) : Prop := 0 ≤ o.src ∧ o.src ≤ 255 ∧ I64 o.k ∧ I64 o.v
def opC (o : OpD) : List Value := [.int .u8 o.src, .bool o.del, .int .i64 o.k, .int .i64 o.v]
abbrev Tab := List (Int × Int)
def OpD.at (o : OpD) (n : Nat) : Nat := (o.src % (n : Int)).toNat
def OpD.on (o : OpD) (t : Tab) : Tab := if o.del = true then delL t o.k else putL t o.k o.v
def stepP (ts : List Tab) (o : OpD) : List Tab := ts ++ [o.on (ts.getD (o.at ts.length) [])]
def playL (l : List OpD) : List Tab := l.foldl stepP [[]]
theorem playL_push (l : List OpD) (o : OpD) : playL (l ++ [o]) = stepP (playL l) o := by simp [playL]
theorem playL_take (l : List OpD) (j : Nat) (h : j < l.length) : playL (l.take (j + 1)) = stepP (playL (l.take j)) l[j] := by
  rw [List.take_succ_eq_append_getElem h, playL_push]
theorem playL_len (l : List OpD) : (playL l).length = l.length + 1 := by
  refine snoc_ind (P := fun l => (playL l).length = l.length + 1) rfl (fun l x h => ?_) l
  rw [playL_push, stepP, List.length_append, h, List.length_append]; rfl
theorem OpD.at_lt (o : OpD) {n : Nat} (hn : 0 < n) : o.at n < n := by
  unfold OpD.at
  have h1 := Int.emod_nonneg o.src (show (n : Int) ≠ 0 by omega)
  have h2 := Int.emod_lt_of_pos o.src (show (0 : Int) < n by omega)
  omega
theorem OpD.at_eq (o : OpD) {n : Nat} (hn : 0 < n) : o.src % (n : Int) = (o.at n : Int) := by
  unfold OpD.at
  have h1 := Int.emod_nonneg o.src (show (n : Int) ≠ 0 by omega)
  omega
/-- A table as the laws meet it. -/
structure GoodT (N : Nat) (t : Tab) : Prop where
  asc : Asc t
  wf : WfT t
  len : t.length ≤ N
theorem WfT.put {t : Tab} (h : WfT t) {k v : Int} (hk : I64 k) (hv : I64 v) : WfT (putL t k v) := fun x hx => by
  rcases mem_putL hx with rfl | h'
  · exact ⟨hk, hv⟩
  · exact h x h'
theorem WfT.del {t : Tab} (h : WfT t) (k : Int) : WfT (delL t k) := fun x hx => h x (List.mem_filter.1 hx).1
theorem GoodT.on {N : Nat} {t : Tab} (h : GoodT N t) {o : OpD} (ho : o.ok) : GoodT (N + 1) (o.on t) := by
  unfold OpD.on
  split
  · exact ⟨asc_del h.asc _, h.wf.del _, by have := delL_le t o.k; have := h.len; omega⟩
  · exact ⟨asc_put h.asc _ _, h.wf.put ho.2.2.1 ho.2.2.2, by have := putL_len t o.k o.v; have := h.len; omega⟩
theorem GoodT.mono {N M : Nat} {t : Tab} (h : GoodT N t) (hN : N ≤ M) : GoodT M t := ⟨h.asc, h.wf, Nat.le_trans h.len hN⟩
theorem GoodT.nil (N : Nat) : GoodT N [] := ⟨List.Pairwise.nil, (fun x hx => by cases hx), Nat.zero_le _⟩
theorem GoodT.getD {N : Nat} {ts : List Tab} (h : ∀ t ∈ ts, GoodT N t) (i : Nat) : GoodT N (ts.getD i []) := by
  rw [List.getD_eq_getElem?_getD]
  by_cases hi : i < ts.length
  · rw [List.getElem?_eq_getElem hi]; exact h _ (List.getElem_mem hi)
  · rw [List.getElem?_eq_none (by omega)]; exact GoodT.nil _
theorem play_good (l : List OpD) (h : ∀ o ∈ l, o.ok) : ∀ t ∈ playL l, GoodT l.length t := by
  refine snoc_ind (P := fun l => (∀ o ∈ l, o.ok) → ∀ t ∈ playL l, GoodT l.length t) (fun _ t ht => ?_) (fun l x ih hx t ht => ?_) l h
  · have : t = [] := by simpa [playL] using ht
    subst this; exact GoodT.nil _
  · have ih' := ih (fun o ho => hx o (List.mem_append_left _ ho))
    rw [playL_push, stepP] at ht
    rw [List.length_append]
    rcases List.mem_append.1 ht with h' | h'
    · exact (ih' t h').mono (by simp)
    · have : t = x.on ((playL l).getD (x.at (playL l).length) []) := by simpa using h'
      rw [this]
      exact (GoodT.getD ih' _).on (hx x (by simp))

/-- A slice that reads as a table's entries; p: and its address is plain. -/
def TabQ (p : Bool) (S : Nat → Prop) (w : World) (t : Tab) (v : Value) : Prop := ∃ a cap, v = .slice a t.length cap ∧ Row S w 2 t.length v (flat2 t) ∧ (p = true → PlainA a cap)
theorem TabQ.mono2 {p : Bool} {S S' : Nat → Prop} {w w' : World} {t : Tab} {v : Value} (hw : ∀ b off u, S b → w.cell? ⟨b, off, none⟩ = some u → S' b ∧ w'.cell? ⟨b, off, none⟩ = some u) (h : TabQ p S w t v) : TabQ p S' w' t v := by
  obtain ⟨a, cap, rfl, hr, hp⟩ := h
  exact ⟨a, cap, rfl, hr.mono2 (by omega) hw, hp⟩
theorem TabQ.tv {S : Nat → Prop} {w : World} {t : Tab} {v : Value} (h : TabQ true S w t v) : TabV S w t v := by
  obtain ⟨a, cap, rfl, hr, hp⟩ := h; exact ⟨a, cap, rfl, hr, hp rfl⟩
theorem TabQ.of_tv {S : Nat → Prop} {w : World} {t : Tab} {v : Value} (h : TabV S w t v) : TabQ true S w t v := by
  obtain ⟨a, cap, rfl, hr, hp⟩ := h; exact ⟨a, cap, rfl, hr, fun _ => hp⟩
theorem TabQ.row {p : Bool} {S : Nat → Prop} {w : World} {t : Tab} {v : Value} (h : TabQ p S w t v) : Row S w 2 t.length v (flat2 t) := by
  obtain ⟨a, cap, rfl, hr, hp⟩ := h; exact hr
theorem TabQ.of_row {S : Nat → Prop} {w : World} {t : Tab} {v : Value} (h : Row S w 2 t.length v (flat2 t)) : TabQ false S w t v := by
  obtain ⟨a, cap, rfl, _⟩ := h.shape; exact ⟨a, cap, rfl, h, fun h => by cases h⟩
theorem TabQ.shape {p : Bool} {S : Nat → Prop} {w : World} {t : Tab} {v : Value} (h : TabQ p S w t v) : ∃ a cap, v = .slice a t.length cap := by
  obtain ⟨a, cap, rfl, _⟩ := h; exact ⟨a, cap, rfl⟩
theorem TabQ.nil (p : Bool) (S : Nat → Prop) (w : World) : TabQ p S w [] (.slice none 0 0) := ⟨none, 0, rfl, Row.nil _ _ _ _ _, fun _ => Or.inl ⟨rfl, rfl⟩⟩
theorem TabQ.any {p : Bool} {S : Nat → Prop} {w : World} {t : Tab} {v : Value} (h : TabQ p S w t v) : TabQ p (fun _ => True) w t v := h.mono2 fun _ _ _ _ hu => ⟨trivial, hu⟩

/-- A list of tables that the call has made: each cell holds a slice that reads as its table. -/
def ListT (e : TypeId) (p : Bool) (B : Nat) (w : World) (S : Nat → Prop) (ts : List Tab) (v : Value) : Prop :=
  ∃ xs, w.ownsRow B e 1 v ts.length xs ∧ ∀ i (h : i < ts.length), ∃ tv, xs[i]? = some tv ∧ TabQ p S w ts[i] tv
theorem ListT.lit {e : TypeId} {p : Bool} {B b : Nat} {w : World} {S : Nat → Prop} {t : Tab} {tv : Value} (hb : w.heap[b]? = some (.cells #[tv] e)) (hB : B ≤ b) (hR : TabQ p S w t tv) : ListT e p B w S [t] (.slice (some ⟨b, 0, none⟩) 1 1) :=
  ⟨[tv], ⟨rfl, Or.inr ⟨b, 1, #[tv], rfl, hB, hb, Nat.le_refl _, by decide, rfl, rfl⟩⟩, fun i hi => by
    obtain rfl : i = 0 := by simpa using hi
    exact ⟨tv, rfl, hR⟩⟩
theorem ListT.block {e : TypeId} {p : Bool} {B g n cap : Nat} {w : World} {S : Nat → Prop} {ts : List Tab} (h : ListT e p B w S ts (.slice (some ⟨g, 0, none⟩) n cap)) : B ≤ g ∧ g < w.heap.size := by
  obtain ⟨xs, ho, _⟩ := h; exact ho.lt g rfl
theorem ListT.cap {e : TypeId} {p : Bool} {B g n cap : Nat} {w : World} {S : Nat → Prop} {ts : List Tab} (h : ListT e p B w S ts (.slice (some ⟨g, 0, none⟩) n cap)) : ts.length ≤ cap ∧ n = ts.length := by
  obtain ⟨xs, ⟨_, h | ⟨g', c, cur, he, _, _, hc, _⟩⟩, _⟩ := h
  · cases h.1
  · cases he; exact ⟨hc, rfl⟩
theorem ListT.cell {e : TypeId} {p : Bool} {B g n cap : Nat} {w : World} {S : Nat → Prop} {ts : List Tab} (h : ListT e p B w S ts (.slice (some ⟨g, 0, none⟩) n cap)) {i : Nat} (hi : i < ts.length) : ∃ tv, w.cell? ⟨g, i, none⟩ = some tv ∧ TabQ p S w ts[i] tv := by
  obtain ⟨xs, ho, hx⟩ := h
  obtain ⟨tv, h1, h2⟩ := hx i hi
  obtain ⟨b, off, he, _, _, hc⟩ := (Row.of_owns ho).at (by omega)
  cases he
  have := hc i tv h1
  rw [Nat.zero_add] at this
  exact ⟨tv, this, h2⟩
/-- The list is not the one that is written. -/
theorem ListT.kept {e : TypeId} {p : Bool} {B g n cap : Nat} {w w' : World} {S S' : Nat → Prop} {ts : List Tab} (h : ListT e p B w S ts (.slice (some ⟨g, 0, none⟩) n cap)) (hg : w'.heap[g]? = w.heap[g]?)
    (hw : ∀ b off u, S b → w.cell? ⟨b, off, none⟩ = some u → S' b ∧ w'.cell? ⟨b, off, none⟩ = some u) : ListT e p B w' S' ts (.slice (some ⟨g, 0, none⟩) n cap) := by
  obtain ⟨xs, ho, hx⟩ := h
  exact ⟨xs, owns_keep ho (fun x hx => by obtain rfl : g = x := (by simpa [Value.ownBlock] using hx); exact hg), fun i hi => by obtain ⟨tv, h1, h2⟩ := hx i hi; exact ⟨tv, h1, h2.mono2 hw⟩⟩
/-- .. or it is. -/
theorem ListT.app {e : TypeId} {p : Bool} {B g2 cap2 : Nat} {w w2 : World} {S S' : Nat → Prop} {ts : List Tab} {t : Tab} {tv : Value} {xs : List Value} (hx : ∀ i (h : i < ts.length), ∃ tv, xs[i]? = some tv ∧ TabQ p S w ts[i] tv) (hl : xs.length = ts.length) (ht : TabQ p S w t tv)
    (hown : w2.ownsRow B e 1 (.slice (some ⟨g2, 0, none⟩) (ts.length + 1) cap2) (ts.length + 1) (xs ++ [tv])) (hw : ∀ b off u, S b → w.cell? ⟨b, off, none⟩ = some u → S' b ∧ w2.cell? ⟨b, off, none⟩ = some u) : ListT e p B w2 S' (ts ++ [t]) (.slice (some ⟨g2, 0, none⟩) (ts.length + 1) cap2) := by
  refine ⟨xs ++ [tv], by rw [List.length_append]; exact hown, fun i hi => ?_⟩
  by_cases h : i < ts.length
  · obtain ⟨v, h1, h2⟩ := hx i h
    refine ⟨v, by rw [List.getElem?_append_left (by omega)]; exact h1, ?_⟩
    rw [List.getElem_append_left h]
    exact h2.mono2 hw
  · have e : i = ts.length := by rw [List.length_append] at hi; simp at hi; omega
    subst e
    refine ⟨tv, by rw [List.getElem?_append_right (by omega), hl]; simp, ?_⟩
    rw [List.getElem_append_right (Nat.le_refl _)]
    simpa using ht.mono2 hw

/-- Between two statements of play: the program's tables and the document's. -/
structure Play (w wr : World) (ts us : List Tab) (ga ca gw cw : Nat) : Prop where
  more : More w wr
  ne : ga ≠ gw
  a : ListT 54 true w.heap.size wr (fun b => b ≠ ga ∧ b ≠ gw) ts (.slice (some ⟨ga, 0, none⟩) ts.length ca)
  b : ListT 58 false w.heap.size wr (fun b => b ≠ ga ∧ b ≠ gw) us (.slice (some ⟨gw, 0, none⟩) us.length cw)
theorem Play.step {w wr wr' : World} {ts us : List Tab} {ga ca gw cw : Nat} (h : Play w wr ts us ga ca gw cw) (hm : More wr wr') : Play w wr' ts us ga ca gw cw :=
  ⟨more_trans h.more hm, h.ne, h.a.kept (hm.block h.a.block.2) (fun _ _ _ hS hu => ⟨hS, hm.cell hu⟩), h.b.kept (hm.block h.b.block.2) (fun _ _ _ hS hu => ⟨hS, hm.cell hu⟩)⟩
theorem grown_none {w w' : World} {g b o : Nat} {u : Value} (hg : w.grownBy w' (some g)) (hb : b ≠ g) (hu : w.cell? ⟨b, o, none⟩ = some u) : w'.cell? ⟨b, o, none⟩ = some u :=
  (World.cell?_of_block (w := w) (hg.block b (cell_lt hu) (fun e => hb (by cases e; rfl)))).trans hu
theorem Play.appA {w wr w2 : World} {ts us : List Tab} {ga ca gw cw g2 cap2 : Nat} {t : Tab} {tv : Value} {xs : List Value} (h : Play w wr ts us ga ca gw cw)
    (hx : ∀ i (h : i < ts.length), ∃ tv, xs[i]? = some tv ∧ TabQ true (fun b => b ≠ ga ∧ b ≠ gw) wr ts[i] tv) (hl : xs.length = ts.length) (ht : TabQ true (fun b => b ≠ ga ∧ b ≠ gw) wr t tv)
    (hown : w2.ownsRow w.heap.size 54 1 (.slice (some ⟨g2, 0, none⟩) (ts.length + 1) cap2) (ts.length + 1) (xs ++ [tv])) (hgrow : wr.grownBy w2 (some ga)) (hat : some ga = some g2 ∨ g2 = wr.heap.size) : Play w w2 (ts ++ [t]) us g2 cap2 gw cw := by
  have hla := h.a.block
  have hlw := h.b.block
  have hne := h.ne
  have hg2 : g2 = ga ∨ g2 = wr.heap.size := by rcases hat with h | h; exact Or.inl (by cases h; rfl); exact Or.inr h
  have hw : ∀ b off u, (b ≠ ga ∧ b ≠ gw) → wr.cell? ⟨b, off, none⟩ = some u → (b ≠ g2 ∧ b ≠ gw) ∧ w2.cell? ⟨b, off, none⟩ = some u := fun b off u hS hu => by
    have := cell_lt hu
    exact ⟨⟨by rcases hg2 with h | h <;> omega, hS.2⟩, grown_none hgrow hS.1 hu⟩
  refine ⟨more_of (h.more.below.grown hgrow h.more.size (fun y hy => by cases hy; exact hla.1)), by rcases hg2 with h | h <;> omega, by rw [List.length_append]; exact ListT.app hx hl ht hown hw, h.b.kept (hgrow.block gw hlw.2 (fun e => hne (by cases e; rfl))) hw⟩
theorem Play.appB {w wr w2 : World} {ts us : List Tab} {ga ca gw cw g2 cap2 : Nat} {t : Tab} {tv : Value} {xs : List Value} (h : Play w wr ts us ga ca gw cw)
    (hx : ∀ i (h : i < us.length), ∃ tv, xs[i]? = some tv ∧ TabQ false (fun b => b ≠ ga ∧ b ≠ gw) wr us[i] tv) (hl : xs.length = us.length) (ht : TabQ false (fun b => b ≠ ga ∧ b ≠ gw) wr t tv)
    (hown : w2.ownsRow w.heap.size 58 1 (.slice (some ⟨g2, 0, none⟩) (us.length + 1) cap2) (us.length + 1) (xs ++ [tv])) (hgrow : wr.grownBy w2 (some gw)) (hat : some gw = some g2 ∨ g2 = wr.heap.size) : Play w w2 ts (us ++ [t]) ga ca g2 cap2 := by
  have hla := h.a.block
  have hlw := h.b.block
  have hne := h.ne
  have hg2 : g2 = gw ∨ g2 = wr.heap.size := by rcases hat with h | h; exact Or.inl (by cases h; rfl); exact Or.inr h
  have hw : ∀ b off u, (b ≠ ga ∧ b ≠ gw) → wr.cell? ⟨b, off, none⟩ = some u → (b ≠ ga ∧ b ≠ g2) ∧ w2.cell? ⟨b, off, none⟩ = some u := fun b off u hS hu => by
    have := cell_lt hu
    exact ⟨⟨hS.1, by rcases hg2 with h | h <;> omega⟩, grown_none hgrow hS.2 hu⟩
  refine ⟨more_of (h.more.below.grown hgrow h.more.size (fun y hy => by cases hy; exact hlw.1)), by rcases hg2 with h | h <;> omega, h.a.kept (hgrow.block ga hla.2 (fun e => hne (by cases e; rfl))) hw, by rw [List.length_append]; exact ListT.app hx hl ht hown hw⟩
end Go.Proofs.Ytekhoanjpnjaeaa
