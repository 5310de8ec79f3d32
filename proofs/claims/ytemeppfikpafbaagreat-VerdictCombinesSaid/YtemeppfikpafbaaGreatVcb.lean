/- Texts InvS, InsP, PlnS, Cmps, laid together. -/
import Derived.Sort.LotA
import Derived.Test.YtemeppfikpafbaaGreatVca
/- A drawn region by one invariant, over the frame at its start; boxes that it lays and fills. -/
namespace Go.Proofs.YtemeppfikpafbaaGreat
open Go.RowKit
/-- wp_region_inv, the invariant over the frame at the region's start. -/
theorem wp_region_inv0 {P : Program} {Q : Exit → Act → World → Prop} {id : Nat} {a : Act} {w : World} {l : List Oper} (I : Act → Array Bool → Act → World → Prop) (hm : P.follows .mixedOrders = true) (hb : Region.backward .any l = true)
    (hs : ∀ listed a' w', I a listed a' w' → listed.size = l.length)
    (start : I a (Array.replicate l.length false) a w.drew)
    (steps : InvOps P .any Q l.toArray (I a) 0 l)
    (last : ∀ listed a' w', I a listed a' w' → (∀ j, j < l.length → listed.getD j false = true) → Q .normal a' w') : (Code.region id l.toArray true).wp P Q a w :=
  wp_region_inv (I a) hm hb hs start steps last
theorem InvOp.pass {P : Program} {md : Region.Mode} {Q : Exit → Act → World → Prop} {ops : Array Oper} {I : Array Bool → Act → World → Prop} {i : Nat} {o : Oper} (hg : o.guard = none)
    (h : ∀ (listed : Array Bool) (a : Act) (w : World), I listed a w → listed.getD i true = false → (∀ e ∈ o.after.toList, Region.binds md e = true → listed.getD e.on false = true) → ∀ K : Act → World → Prop, (∀ a w, I (listed.setIfInBounds i true) a w → K a w) → Oper.wp P o a w K Q) : InvOp P md Q ops I i o := by
  intro listed a w hI hl hd K hK
  rw [if_pos (by simp [Region.wanted, hg])]
  exact h listed a w hI hl hd K hK
theorem put_back {a b : Act} {d : Nat} (h : a = b) : a = b.put (some d) (b.tmps.getD d undef) := by
  subst h
  unfold Act.put
  obtain ⟨tm, r⟩ := a
  simp only [Act.mk.injEq, and_true]
  apply Array.ext_getElem?
  intro i
  rw [Array.getElem?_setIfInBounds]
  split
  · rename_i e
    subst e
    split
    · rename_i hl
      rw [Array.getElem?_eq_getElem hl]
      simp
    · rename_i hl
      rw [Array.getElem?_eq_none (by omega)]
  · rfl
/-- A block that the region has laid: a pointer to its head; it holds z, or v when it has been filled. -/
def Box (W : World) (base : Nat) (x : Value) (T : TypeId) (done : Bool) (z v : List Value) : Prop :=
  ∃ B, x = .pointer (some ⟨B, 0, none⟩) ∧ base ≤ B ∧ W.heap[B]? = some (.cells (if done then v else z).toArray T)
theorem Box.keep {W W' : World} {base : Nat} {x : Value} {T : TypeId} {done : Bool} {z v : List Value} (h : Box W base x T done z v) (hm : Lay W W') : Box W' base x T done z v := by
  obtain ⟨B, rfl, hB, hc⟩ := h
  exact ⟨B, rfl, hB, (hm.1.block (Array.getElem?_eq_some_iff.1 hc).1).trans hc⟩
theorem Box.keepM {W W' : World} {base : Nat} {x : Value} {T : TypeId} {done : Bool} {z v : List Value} (h : Box W base x T done z v) (hm : More W W') : Box W' base x T done z v := by
  obtain ⟨B, rfl, hB, hc⟩ := h
  exact ⟨B, rfl, hB, (hm.block (Array.getElem?_eq_some_iff.1 hc).1).trans hc⟩
theorem Box.start {W : World} {base : Nat} (T : TypeId) (z v : List Value) (h : base ≤ W.heap.size) : Box (W.alloc (.cells z.toArray T)) base (.pointer (some ⟨W.heap.size, 0, none⟩)) T false z v :=
  ⟨_, rfl, h, alloc_last _ _⟩
theorem setC_block (w : World) (B o : Nat) (cs : List Value) {k : Nat} (h : k ≠ B) : (setC w B o cs).heap[k]? = w.heap[k]? := by
  induction cs generalizing w o with
  | nil => rfl
  | cons c r ih => rw [setC, ih, Below.heap_setCell _ _ _ _ h]
/-- A store into another box. -/
theorem Box.other {W : World} {base : Nat} {x : Value} {T : TypeId} {done : Bool} {z v : List Value} (h : Box W base x T done z v) {B : Nat} (hx : x ≠ .pointer (some ⟨B, 0, none⟩)) (cs : List Value) : Box (setC W B 0 cs) base x T done z v := by
  obtain ⟨B', rfl, hB, hc⟩ := h
  have : B' ≠ B := fun e => hx (by rw [e])
  exact ⟨B', rfl, hB, (setC_block _ _ _ _ this).trans hc⟩
theorem moreSetC {w w1 : World} (h : More w w1) {B o : Nat} (hB : w.heap.size ≤ B) (cs : List Value) : More w (setC w1 B o cs) := by
  have hg := setC_grown w1 B o cs
  exact ⟨hg.os.trans h.os, hg.tape.trans h.tape, hg.output.trans h.output, Nat.le_trans h.size hg.size, fun k hk _ => by rw [setC_block _ _ _ _ (by omega)]; exact h.block hk⟩
theorem blk_lt {W : World} {B : Nat} {o : Obj} (h : W.heap[B]? = some o) : B < W.heap.size := (Array.getElem?_eq_some_iff.1 h).1
theorem setCell_heap {w : World} {B o : Nat} {v : Value} {arr : Array Value} {ty : TypeId} (h : w.heap[B]? = some (.cells arr ty)) : (w.setCell ⟨B, o, none⟩ v).heap[B]? = some (.cells (arr.setIfInBounds o v) ty) := by
  simp [World.setCell, Array.getElem?_modify, h]
theorem Box.at {W : World} {base : Nat} {x : Value} {T : TypeId} {done : Bool} {z v : List Value} (h : Box W base x T done z v) : ∃ B, x = .pointer (some ⟨B, 0, none⟩) ∧ base ≤ B ∧ W.heap[B]? = some (.cells (if done then v else z).toArray T) := h
theorem Box.lt {W : World} {base : Nat} {x : Value} {T : TypeId} {done : Bool} {z v : List Value} (h : Box W base x T done z v) {n : Nat} (hn : W.heap.size ≤ n) : x ≠ .pointer (some ⟨n, 0, none⟩) := by
  obtain ⟨B, rfl, hB, hc⟩ := h
  have := (Array.getElem?_eq_some_iff.1 hc).1
  intro e; cases e; omega
/-- Behind a base: the worlds since the base may have written to blocks from the base on. -/
theorem Lay.setC {w w1 : World} (h : Lay w w1) {B o : Nat} (hB : w.heap.size ≤ B) (cs : List Value) : Lay w (setC w1 B o cs) := by
  have hg := setC_grown w1 B o cs
  refine ⟨⟨hg.os.trans h.1.os, hg.tape.trans h.1.tape, hg.output.trans h.1.output, Nat.le_trans h.1.size hg.size, fun k hk _ => ?_⟩, ?_⟩
  · rw [setC_block _ _ _ _ (by omega)]; exact h.1.block hk
  · have : (YtemeppfikpafbaaGreat.setC w1 B o cs).drawn = w1.drawn := by
      induction cs generalizing w1 o with
      | nil => rfl
      | cons c r ih =>
        rw [YtemeppfikpafbaaGreat.setC]
        have h' : (w1.setCell ⟨B, o, none⟩ c).drawn = w1.drawn := rfl
        rw [← h']
        have hl : Lay w (w1.setCell ⟨B, o, none⟩ c) := ⟨⟨h.1.os, h.1.tape, h.1.output, by have := h.1.size; simp only [World.setCell]; simpa using this, fun k hk hne => by rw [Below.heap_setCell _ _ _ _ (show k ≠ B by omega)]; exact h.1.block hk⟩, h.2⟩
        exact ih hl (setC_grown _ _ _ _)
    rw [this]; exact h.2
end Go.Proofs.YtemeppfikpafbaaGreat

/- Insertion sort of structs in memory: plain steps. -/
namespace Go.Proofs.YtemeppfikpafbaaGreat
open Go.RowKit Go.Sort
section
variable {α : Type} [Inhabited α] {lt : α → α → Bool}
theorem insInner_no (a j : Nat) (d : Array α) (h : ¬ a < j) : insInner lt a j d = d := by
  cases j with
  | zero => rfl
  | succ j => unfold insInner; rw [if_neg (by simp; omega)]
theorem insInner_stop (a j : Nat) (d : Array α) (h : lt d[j + 1]! d[j]! = false) : insInner lt a (j + 1) d = d := by
  unfold insInner
  rw [if_neg (by simp [h])]
theorem insInner_go (a j : Nat) (d : Array α) (ha : a < j + 1) (h : lt d[j + 1]! d[j]! = true) : insInner lt a (j + 1) d = insInner lt a j (swp d (j + 1) j) := by
  conv => lhs; unfold insInner
  rw [if_pos (by simp [h]; omega)]
theorem insOuter_go (a b i : Nat) (d : Array α) (h : i < b) : insOuter lt a b i d = insOuter lt a b (i + 1) (insInner lt a i d) := by
  conv => lhs; unfold insOuter
  rw [if_pos h]
theorem insOuter_stop (a b i : Nat) (d : Array α) (h : ¬ i < b) : insOuter lt a b i d = d := by
  unfold insOuter
  rw [if_neg h]
theorem insSort_mem {P : α → Prop} {d : Array α} (h : ∀ i, i < d.size → P d[i]!) {i j : Nat} (hi : i < d.size) (hj : j < d.size) : ∀ q, q < (swp d i j).size → P (swp d i j)[q]! := by
  intro q hq
  rw [size_swp] at hq
  unfold swp
  by_cases e1 : q = j
  · subst e1
    have : ((d.setIfInBounds i d[q]!).setIfInBounds q d[i]!)[q]! = d[i]! := by simp [hq]
    rw [this]; exact h i hi
  · by_cases e2 : q = i
    · subst e2
      have : ((d.setIfInBounds q d[j]!).setIfInBounds j d[q]!)[q]! = d[j]! := by simp [hq, Ne.symm e1]
      rw [this]; exact h j hj
    · have : ((d.setIfInBounds i d[j]!).setIfInBounds j d[i]!)[q]! = d[q]! := by simp [hq, Ne.symm e1, Ne.symm e2]
      rw [this]; exact h q hq
theorem HoldC.swap {c : α → List Value} {k : Nat} {w : World} {B off : Nat} {d : Array α} (hc : ∀ x, (c x).length = k) (h : HoldC c k w B off d) {i j : Nat} (hi : i < d.size) (hj : j < d.size) :
    HoldC c k (setC (setC w B (off + i * k) (c d[j]!)) B (off + j * k) (c d[i]!)) B off (swp d i j) :=
  (h.set hc hi d[j]!).set hc (by simpa using hj) d[i]!
theorem HoldC.drew {c : α → List Value} {k : Nat} {w : World} {B off : Nat} {d : Array α} (h : HoldC c k w B off d) : HoldC c k w.drew B off d := h.keep rfl
theorem setC2_grown (w : World) (B o o' : Nat) (u v : List Value) : w.grownBy (setC (setC w B o u) B o' v) (some B) := grownBy_trans (setC_grown w B o u) (setC_grown _ B o' v)
end
theorem setC3 (w : World) (B o : Nat) (u0 u1 u2 : Value) : setC w B o [u0, u1, u2] = ((w.setCell ⟨B, o, none⟩ u0).setCell ⟨B, o + 1, none⟩ u1).setCell ⟨B, o + 2, none⟩ u2 := rfl
theorem setC4 (w : World) (B o : Nat) (u0 u1 u2 u3 : Value) : setC w B o [u0, u1, u2, u3] = (((w.setCell ⟨B, o, none⟩ u0).setCell ⟨B, o + 1, none⟩ u1).setCell ⟨B, o + 2, none⟩ u2).setCell ⟨B, o + 3, none⟩ u3 := rfl
theorem setC5 (w : World) (B o : Nat) (u0 u1 u2 u3 u4 : Value) : setC w B o [u0, u1, u2, u3, u4] = ((((w.setCell ⟨B, o, none⟩ u0).setCell ⟨B, o + 1, none⟩ u1).setCell ⟨B, o + 2, none⟩ u2).setCell ⟨B, o + 3, none⟩ u3).setCell ⟨B, o + 4, none⟩ u4 := rfl
theorem setC6 (w : World) (B o : Nat) (u0 u1 u2 u3 u4 u5 : Value) : setC w B o [u0, u1, u2, u3, u4, u5] = (((((w.setCell ⟨B, o, none⟩ u0).setCell ⟨B, o + 1, none⟩ u1).setCell ⟨B, o + 2, none⟩ u2).setCell ⟨B, o + 3, none⟩ u3).setCell ⟨B, o + 4, none⟩ u4).setCell ⟨B, o + 5, none⟩ u5 := rfl
theorem more_frozen {w w' : World} (h : More w w') {b o : Nat} (hb : b < w.heap.size) {q : Bool} (hf : w.frozen? ⟨b, o, none⟩ = q) : w'.frozen? ⟨b, o, none⟩ = q := (World.frozen?_of_block (w := w) (a := ⟨b, o, none⟩) (h.block hb)).trans hf
end Go.Proofs.YtemeppfikpafbaaGreat

/- Merging in plain words: lists of ranks and numbers (the plain part of the first seat's tables). -/
namespace Go.Proofs.YtemeppfikpafbaaGreat
open Go.RowKit Go.Sort
def Srt (l : List (Int × Int)) : Prop := l.Pairwise fun x y => x.1 ≤ y.1
def Stab (l l' : List (Int × Int)) : Prop := ∀ k, (l.filter fun x => x.1 == k) = l'.filter fun x => x.1 == k
theorem Stab.refl (l : List (Int × Int)) : Stab l l := fun _ => rfl
theorem Stab.trans {a b c : List (Int × Int)} (h : Stab a b) (h' : Stab b c) : Stab a c := fun k => (h k).trans (h' k)
theorem Stab.symm {a b : List (Int × Int)} (h : Stab a b) : Stab b a := fun k => (h k).symm
theorem Stab.append {a b c d : List (Int × Int)} (h : Stab a b) (h' : Stab c d) : Stab (a ++ c) (b ++ d) := fun k => by rw [List.filter_append, List.filter_append, h k, h' k]
theorem Stab.swap (a : List (Int × Int)) (x y : Int × Int) (b : List (Int × Int)) (h : x.1 ≠ y.1) : Stab (a ++ x :: y :: b) (a ++ y :: x :: b) := by
  refine (Stab.refl a).append fun k => ?_
  simp only [List.filter_cons]
  by_cases h1 : x.1 = k
  · have h2 : ¬ y.1 = k := by omega
    simp [h1, h2]
  · simp [h1]
theorem Stab.mem {a b : List (Int × Int)} (h : Stab a b) {x : Int × Int} (hx : x ∈ b) : x ∈ a := by
  have : x ∈ b.filter fun y => y.1 == x.1 := List.mem_filter.2 ⟨hx, by simp⟩
  rw [← h x.1] at this
  exact (List.mem_filter.1 this).1
def keyLt (x y : Int × Int) : Bool := decide (x.1 < y.1)
theorem keyLt_swo : SWO keyLt where
  irrefl x := by simp [keyLt]
  trans x y z := by simp only [keyLt, decide_eq_true_eq]; omega
  ntrans x y z := by simp only [keyLt, decide_eq_false_iff_not]; omega
theorem swp_list (d : Array (Int × Int)) (j : Nat) (hj : j + 1 < d.size) : ∃ a b, d.toList = a ++ d[j]! :: d[j + 1]! :: b ∧ (swp d (j + 1) j).toList = a ++ d[j + 1]! :: d[j]! :: b := by
  have h0 : d.toList[j]'(by simp; omega) = d[j]! := by rw [getElem!_pos d j (by omega)]; simp
  have h1 : d.toList[j + 1]'(by simp; omega) = d[j + 1]! := by rw [getElem!_pos d (j + 1) hj]; simp
  have e : d.toList = d.toList.take j ++ d[j]! :: d[j + 1]! :: d.toList.drop (j + 1 + 1) := by
    conv => lhs; rw [← List.take_append_drop j d.toList]
    rw [List.drop_eq_getElem_cons (i := j) (by simp; omega), List.drop_eq_getElem_cons (i := j + 1) (by simp; omega), h0, h1]
  refine ⟨d.toList.take j, d.toList.drop (j + 1 + 1), e, ?_⟩
  have hs : (swp d (j + 1) j).toList = (d.toList.set (j + 1) d[j]!).set j d[j + 1]! := by simp [swp]
  rw [hs]
  have hl : (d.toList.take j).length = j := by simp; omega
  generalize d.toList.take j = a at *
  generalize d.toList.drop (j + 1 + 1) = b at *
  generalize d[j]! = x at *
  generalize d[j + 1]! = y at *
  rw [e]
  subst hl
  simp
theorem swp_stab (d : Array (Int × Int)) (j : Nat) (hj : j + 1 < d.size) (h : d[j + 1]!.1 ≠ d[j]!.1) : Stab d.toList (swp d (j + 1) j).toList := by
  obtain ⟨a, b, h1, h2⟩ := swp_list d j hj
  rw [h2]
  have := Stab.swap a d[j]! d[j + 1]! b (fun e => h e.symm)
  rwa [← h1] at this
theorem insInner_stab (a : Nat) : ∀ (j : Nat) (d : Array (Int × Int)), j < d.size → Stab d.toList (insInner keyLt a j d).toList ∧ (insInner keyLt a j d).size = d.size
  | 0, d, _ => ⟨Stab.refl _, rfl⟩
  | j + 1, d, h => by
    unfold insInner
    split
    · rename_i c
      have c2 : d[j + 1]!.1 < d[j]!.1 := by
        have c3 := (Bool.and_eq_true _ _ ▸ c).2
        unfold keyLt at c3; exact of_decide_eq_true c3
      have ih := insInner_stab a j (swp d (j + 1) j) (by rw [size_swp]; omega)
      rw [size_swp] at ih
      exact ⟨(swp_stab d j h (by omega)).trans ih.1, ih.2⟩
    · exact ⟨Stab.refl _, rfl⟩
theorem insOuter_stab (a b : Nat) : ∀ (n i : Nat) (d : Array (Int × Int)), b - i = n → b ≤ d.size → Stab d.toList (insOuter keyLt a b i d).toList ∧ (insOuter keyLt a b i d).size = d.size
  | 0, i, d, h, _ => by
    unfold insOuter
    rw [if_neg (by omega)]
    exact ⟨Stab.refl _, rfl⟩
  | n + 1, i, d, h, hb => by
    unfold insOuter
    rw [if_pos (by omega)]
    have h1 := insInner_stab a i d (by omega)
    have h2 := insOuter_stab a b n (i + 1) (insInner keyLt a i d) (by omega) (by rw [h1.2]; exact hb)
    rw [h1.2] at h2
    exact ⟨h1.1.trans h2.1, h2.2⟩
/-- Insertion sort of a part: of each key the same entries in the same order; what lies outside stays; the part is in order. -/
theorem insertion_stab (d : Array (Int × Int)) (a b : Nat) (hab : a ≤ b) (hb : b ≤ d.size) : Stab d.toList (insertionSort keyLt d a b).toList ∧ (insertionSort keyLt d a b).size = d.size ∧ (∀ i, i < a ∨ b ≤ i → (insertionSort keyLt d a b)[i]! = d[i]!) ∧ SortedIn keyLt a b (insertionSort keyLt d a b) := by
  obtain ⟨⟨_, h2, _⟩, h4⟩ := insertionSort_holds keyLt_swo d a b hab hb
  obtain ⟨h5, h6⟩ := insOuter_stab a b _ (a + 1) d rfl hb
  exact ⟨h5, h6, h2, h4⟩
theorem srt_of {d : Array (Int × Int)} (h : SortedIn keyLt 0 d.size d) : Srt d.toList := by
  unfold Srt
  rw [List.pairwise_iff_getElem]
  intro i j hi hj hij
  have := h i j (Nat.zero_le _) hij (by simpa using hj)
  rw [getElem!_pos d j (by simpa using hj), getElem!_pos d i (by simpa using hi)] at this
  simp only [keyLt, decide_eq_false_iff_not] at this
  simp only [Array.getElem_toList]
  omega
theorem get_app (L : List (Int × Int)) (p : Int × Int) (R : List (Int × Int)) (n : Nat) (h : L.length = n) : (L ++ p :: R).toArray[n]! = p := by
  subst h
  rw [getElem!_pos _ _ (by simp)]
  simp
theorem get_app2 (L : List (Int × Int)) (p : Int × Int) (M : List (Int × Int)) (q : Int × Int) (R : List (Int × Int)) (n : Nat) (h : L.length + 1 + M.length = n) : (L ++ p :: (M ++ q :: R)).toArray[n]! = q := by
  have : L ++ p :: (M ++ q :: R) = (L ++ p :: M) ++ q :: R := by simp
  rw [this]
  exact get_app _ _ _ _ (by simp; omega)
theorem set_app (L : List (Int × Int)) (p : Int × Int) (R : List (Int × Int)) (x : Int × Int) (n : Nat) (h : L.length = n) : (L ++ p :: R).toArray.setIfInBounds n x = (L ++ x :: R).toArray := by
  subst h
  apply Array.toList_inj.1
  simp
theorem swp_app (L : List (Int × Int)) (p : Int × Int) (M : List (Int × Int)) (q : Int × Int) (R : List (Int × Int)) (i j : Nat) (hi : L.length = i) (hj : L.length + 1 + M.length = j) : swp (L ++ p :: (M ++ q :: R)).toArray i j = (L ++ q :: (M ++ p :: R)).toArray := by
  unfold swp
  rw [get_app2 L p M q R j hj, get_app L p _ i hi, set_app L p _ q i hi]
  have e : ∀ x : Int × Int, L ++ q :: (M ++ x :: R) = (L ++ q :: M) ++ x :: R := by intro x; simp
  rw [e q, set_app _ _ _ _ _ (by simp; omega), e p]
/-- k rounds of an exchange of ranges. -/
def swL (X P Y Q Z : List (Int × Int)) (k : Nat) : List (Int × Int) := X ++ Q.take k ++ P.drop k ++ Y ++ P.take k ++ Q.drop k ++ Z
theorem swL_zero (X P Y Q Z : List (Int × Int)) : swL X P Y Q Z 0 = X ++ P ++ Y ++ Q ++ Z := by simp [swL]
theorem swL_end (X P Y Q Z : List (Int × Int)) (k : Nat) (hP : P.length = k) (hQ : Q.length = k) : swL X P Y Q Z k = X ++ Q ++ Y ++ P ++ Z := by
  unfold swL
  rw [List.take_of_length_le (by omega), List.take_of_length_le (by omega), List.drop_of_length_le (by omega), List.drop_of_length_le (by omega)]; simp
theorem swL_len (X P Y Q Z : List (Int × Int)) (k : Nat) : (swL X P Y Q Z k).length = (X ++ P ++ Y ++ Q ++ Z).length := by
  unfold swL
  simp only [List.length_append, List.length_take, List.length_drop]
  omega
theorem swL_step (X P Y Q Z : List (Int × Int)) (k n a b : Nat) (hk : k < n) (hX : X.length = a) (hP : P.length = n) (hQ : Q.length = n) (hb : a + n + Y.length = b) :
    ∃ p q, (swL X P Y Q Z k).toArray[a + k]! = p ∧ (swL X P Y Q Z k).toArray[b + k]! = q ∧ swp (swL X P Y Q Z k).toArray (a + k) (b + k) = (swL X P Y Q Z (k + 1)).toArray := by
  have e : swL X P Y Q Z k = (X ++ Q.take k) ++ P[k] :: ((P.drop (k + 1) ++ Y ++ P.take k) ++ Q[k] :: (Q.drop (k + 1) ++ Z)) := by
    unfold swL
    rw [List.drop_eq_getElem_cons (l := P) (i := k) (by omega), List.drop_eq_getElem_cons (l := Q) (i := k) (by omega)]
    simp only [List.append_assoc, List.cons_append]
  have e' : swL X P Y Q Z (k + 1) = (X ++ Q.take k) ++ Q[k] :: ((P.drop (k + 1) ++ Y ++ P.take k) ++ P[k] :: (Q.drop (k + 1) ++ Z)) := by
    unfold swL
    rw [List.take_succ_eq_append_getElem (l := P) (i := k) (by omega), List.take_succ_eq_append_getElem (l := Q) (i := k) (by omega)]
    simp only [List.append_assoc, List.cons_append, List.nil_append]
  have l1 : (X ++ Q.take k).length = a + k := by simp; omega
  have l2 : (X ++ Q.take k).length + 1 + (P.drop (k + 1) ++ Y ++ P.take k).length = b + k := by simp; omega
  refine ⟨_, _, rfl, rfl, ?_⟩
  rw [e, e']
  exact swp_app _ _ _ _ _ _ _ l1 l2
structure Merged (P Q R : List (Int × Int)) : Prop where
  srt : Srt R
  stab : Stab (P ++ Q) R
  len : R.length = P.length + Q.length

theorem srt_le {Q : List (Int × Int)} (h : Srt Q) {i j : Nat} (hij : i ≤ j) (hj : j < Q.length) : (Q[i]'(by omega)).1 ≤ Q[j].1 := by
  rcases Nat.lt_or_eq_of_le hij with h1 | rfl
  · exact List.pairwise_iff_getElem.1 h i j (by omega) hj h1
  · exact Int.le_refl _
theorem take_le {Q : List (Int × Int)} (h : Srt Q) {t : Nat} {k : Int} (ht : t ≤ Q.length) (hb : t = 0 ∨ Q[t - 1]!.1 ≤ k) : ∀ y ∈ Q.take t, y.1 ≤ k := by
  intro y hy
  obtain ⟨n, hn, rfl⟩ := List.mem_iff_getElem.1 hy
  have hn' := hn
  rw [List.length_take] at hn'
  rw [List.getElem_take]
  rcases hb with rfl | hb
  · omega
  · rw [getElem!_pos Q (t - 1) (by omega)] at hb
    exact Int.le_trans (srt_le h (by omega) (by omega)) hb
theorem drop_le {Q : List (Int × Int)} (h : Srt Q) {t : Nat} {k : Int} (hb : t = Q.length ∨ k ≤ Q[t]!.1) : ∀ y ∈ Q.drop t, k ≤ y.1 := by
  intro y hy
  obtain ⟨n, hn, rfl⟩ := List.mem_iff_getElem.1 hy
  have hn' := hn
  rw [List.length_drop] at hn'
  rw [List.getElem_drop]
  rcases hb with rfl | hb
  · omega
  · rw [getElem!_pos Q t (by omega)] at hb
    exact Int.le_trans hb (srt_le h (by omega) (by omega))
theorem stab_cross {P Q : List (Int × Int)} (h : ∀ x ∈ P, ∀ y ∈ Q, y.1 < x.1) : Stab (P ++ Q) (Q ++ P) := fun k => by
  rw [List.filter_append, List.filter_append]
  by_cases hp : ∃ x ∈ P, x.1 = k
  · obtain ⟨x, hx, rfl⟩ := hp
    have : Q.filter (fun y => y.1 == x.1) = [] := List.filter_eq_nil_iff.2 fun y hy => by have := h x hx y hy; simp; omega
    rw [this]; simp
  · have : P.filter (fun y => y.1 == k) = [] := List.filter_eq_nil_iff.2 fun y hy => by
      intro e; exact hp ⟨y, hy, by simpa using e⟩
    rw [this]; simp

theorem Merged.nilL {Q : List (Int × Int)} (h : Srt Q) : Merged [] Q Q := ⟨h, Stab.refl _, by simp⟩
theorem Merged.nilR {P : List (Int × Int)} (h : Srt P) : Merged P [] P := ⟨h, by rw [List.append_nil]; exact Stab.refl _, by simp⟩
theorem Merged.id {P Q : List (Int × Int)} (hP : Srt P) (hQ : Srt Q) (h : ∀ x ∈ P, ∀ y ∈ Q, x.1 ≤ y.1) : Merged P Q (P ++ Q) := ⟨List.pairwise_append.2 ⟨hP, hQ, h⟩, Stab.refl _, by simp⟩
theorem Merged.join {P1 P2 Q1 Q2 R1 R2 : List (Int × Int)} (h1 : Merged P1 Q1 R1) (h2 : Merged P2 Q2 R2) (hP : Srt (P1 ++ P2)) (hQ : Srt (Q1 ++ Q2)) (hl : ∀ x ∈ P1, ∀ y ∈ Q2, x.1 ≤ y.1) (hs : ∀ x ∈ P2, ∀ y ∈ Q1, y.1 < x.1) : Merged (P1 ++ P2) (Q1 ++ Q2) (R1 ++ R2) := by
  refine ⟨List.pairwise_append.2 ⟨h1.srt, h2.srt, fun x hx y hy => ?_⟩, ?_, ?_⟩
  · have hx' := h1.stab.mem hx
    have hy' := h2.stab.mem hy
    rcases List.mem_append.1 hx' with a | a <;> rcases List.mem_append.1 hy' with b | b
    · exact (List.pairwise_append.1 hP).2.2 x a y b
    · exact hl x a y b
    · exact Int.le_of_lt (hs y b x a)
    · exact (List.pairwise_append.1 hQ).2.2 x a y b
  · have e : Stab (P1 ++ P2 ++ (Q1 ++ Q2)) (P1 ++ Q1 ++ (P2 ++ Q2)) := by
      have := (Stab.refl P1).append ((stab_cross hs).append (Stab.refl Q2))
      simpa [List.append_assoc] using this
    exact e.trans (h1.stab.append h2.stab)
  · have := h1.len
    have := h2.len
    simp only [List.length_append]
    omega

theorem at_P (X P Q Z : List (Int × Int)) {a t : Nat} (hX : X.length = a) (ht : t < P.length) : (X ++ P ++ Q ++ Z).toArray[a + t]! = P[t]! := by
  subst hX
  have e : (X ++ P ++ Q ++ Z)[X.length + t]? = P[t]? := by
    rw [List.append_assoc, List.append_assoc, List.getElem?_append_right (by omega), Nat.add_sub_cancel_left, List.getElem?_append_left ht]
  simp only [getElem!_def, List.getElem?_toArray, e]
theorem at_Q (X P Q Z : List (Int × Int)) {m t : Nat} (hX : X.length + P.length = m) (ht : t < Q.length) : (X ++ P ++ Q ++ Z).toArray[m + t]! = Q[t]! := by
  have := at_P (X ++ P) Q Z [] (a := m) (t := t) (by simpa using hX) ht
  simpa using this

/-- The two cuts of a merge. -/
theorem sym_split (X P Q Z : List (Int × Int)) (a m b s e : Nat) (hX : X.length = a) (hP : a + P.length = m) (hQ : m + Q.length = b) (has : a ≤ s) (hsm : s ≤ m) (hme : m ≤ e) (heb : e ≤ b)
    (c1 : s = a ∨ e = b ∨ (X ++ P ++ Q ++ Z).toArray[s - 1]!.1 ≤ (X ++ P ++ Q ++ Z).toArray[e]!.1) (c2 : s = m ∨ e = m ∨ (X ++ P ++ Q ++ Z).toArray[e - 1]!.1 < (X ++ P ++ Q ++ Z).toArray[s]!.1) (hsP : Srt P) (hsQ : Srt Q) :
    ∃ P1 P2 Q1 Q2, P = P1 ++ P2 ∧ Q = Q1 ++ Q2 ∧ a + P1.length = s ∧ m + Q1.length = e ∧ (∀ x ∈ P1, ∀ y ∈ Q2, x.1 ≤ y.1) ∧ (∀ x ∈ P2, ∀ y ∈ Q1, y.1 < x.1) := by
  refine ⟨P.take (s - a), P.drop (s - a), Q.take (e - m), Q.drop (e - m), (List.take_append_drop _ _).symm, (List.take_append_drop _ _).symm, ?_, ?_, ?_, ?_⟩
  · rw [List.length_take]; omega
  · rw [List.length_take]; omega
  · intro x hx y hy
    rcases c1 with h | h | h
    · rw [show s - a = 0 by omega] at hx; simp at hx
    · rw [List.drop_of_length_le (by omega)] at hy; simp at hy
    · by_cases hs : s = a
      · rw [show s - a = 0 by omega] at hx; simp at hx
      by_cases he : e = b
      · rw [List.drop_of_length_le (by omega)] at hy; simp at hy
      have e1 := at_Q X P Q Z (m := m) (t := e - m) (by omega) (by omega)
      have e2 := at_P X P Q Z (a := a) (t := s - a - 1) hX (by omega)
      rw [show m + (e - m) = e by omega] at e1
      rw [show a + (s - a - 1) = s - 1 by omega] at e2
      rw [e1, e2] at h
      have := take_le hsP (t := s - a) (k := P[s - a - 1]!.1) (by omega) (Or.inr (Int.le_refl _)) x hx
      have := drop_le hsQ (t := e - m) (k := Q[e - m]!.1) (Or.inr (Int.le_refl _)) y hy
      omega
  · intro x hx y hy
    rcases c2 with h | h | h
    · rw [List.drop_of_length_le (by omega)] at hx; simp at hx
    · rw [show e - m = 0 by omega] at hy; simp at hy
    · by_cases hs : s = m
      · rw [List.drop_of_length_le (by omega)] at hx; simp at hx
      by_cases he : e = m
      · rw [show e - m = 0 by omega] at hy; simp at hy
      have e1 := at_Q X P Q Z (m := m) (t := e - m - 1) (by omega) (by omega)
      have e2 := at_P X P Q Z (a := a) (t := s - a) hX (by omega)
      rw [show m + (e - m - 1) = e - 1 by omega] at e1
      rw [show a + (s - a) = s by omega] at e2
      rw [e1, e2] at h
      have := drop_le hsP (t := s - a) (k := P[s - a]!.1) (Or.inr (Int.le_refl _)) x hx
      have := take_le hsQ (t := e - m) (k := Q[e - m - 1]!.1) (by omega) (Or.inr (Int.le_refl _)) y hy
      omega
end Go.Proofs.YtemeppfikpafbaaGreat

/- cmp.Compare at kinds (122, 177), ints (123, 178) and statuses (141, 185); cmp.Or (68). -/
namespace Go.Proofs.YtemeppfikpafbaaGreat
open Go.RowKit
/-- What cmp.Compare answers. -/
def cmpI (x y : Int) : Int := if x < y then -1 else if y < x then 1 else 0
theorem cmpI_neg {x y : Int} : cmpI x y < 0 ↔ x < y := by unfold cmpI; split <;> (try split) <;> simp_all <;> omega
theorem cmpI_zero {x y : Int} : cmpI x y = 0 ↔ x = y := by unfold cmpI; split <;> (try split) <;> simp_all <;> omega
theorem cmpI_bounds (x y : Int) : -1 ≤ cmpI x y ∧ cmpI x y ≤ 1 := by unfold cmpI; split <;> (try split) <;> simp
theorem cmpI_swap (x y : Int) : cmpI y x = - cmpI x y := by unfold cmpI; split <;> (try split) <;> (try split) <;> omega

theorem nanK_any (x : Int) (w : World) : Calls Tryz.prog 139 #[.int .u8 x] w fun e w' => e = .returned (.bool false) ∧ w' = w := by
  go_enter Tryz.func139, Tryz.ntmps139
  go_wp2_with fail
  go_ret
  simp
theorem cmpK_any (x y : Int) (w : World) : Calls Tryz.prog 119 #[.int .u8 x, .int .u8 y] w fun e w' => e = .returned (.int .i64 (cmpI x y)) ∧ w' = w := by
  go_enter Tryz.func119, Tryz.ntmps119
  by_cases h1 : x < y
  · have t1 : decide (x < y) = true := by simp [h1]
    have hc : cmpI x y = -1 := by simp [cmpI, h1]
    have HC := Lib.hid hc; clear hc h1
    go_wp2_with fail
    refine (nanK_any _ _).mono ?_
    rintro e w1 ⟨rfl, rfl⟩
    go_wp2_with fail
    refine (nanK_any _ _).mono ?_
    rintro e w1 ⟨rfl, rfl⟩
    go_wp2_with fail
    go_ret
    rw [HC.out]
    exact ⟨rfl, rfl⟩
  · have t1 : decide (x < y) = false := by simp [h1]
    by_cases h2 : y < x
    · have t2 : decide (y < x) = true := by simp [h2]
      have hc : cmpI x y = 1 := by simp [cmpI, h1, h2]
      have HC := Lib.hid hc; clear hc h1 h2
      go_wp2_with fail
      refine (nanK_any _ _).mono ?_
      rintro e w1 ⟨rfl, rfl⟩
      go_wp2_with fail
      refine (nanK_any _ _).mono ?_
      rintro e w1 ⟨rfl, rfl⟩
      go_wp2_with fail
      go_ret
      rw [HC.out]
      exact ⟨rfl, rfl⟩
    · have t2 : decide (y < x) = false := by simp [h2]
      have hc : cmpI x y = 0 := by simp [cmpI, h1, h2]
      have HC := Lib.hid hc; clear hc h1 h2
      go_wp2_with fail
      refine (nanK_any _ _).mono ?_
      rintro e w1 ⟨rfl, rfl⟩
      go_wp2_with fail
      refine (nanK_any _ _).mono ?_
      rintro e w1 ⟨rfl, rfl⟩
      go_wp2_with fail
      go_ret
      rw [HC.out]
      exact ⟨rfl, rfl⟩

theorem nanN_any (x : Int) (w : World) : Calls Tryz.prog 66 #[.int .i64 x] w fun e w' => e = .returned (.bool false) ∧ w' = w := by
  go_enter Tryz.func66, Tryz.ntmps66
  go_wp2_with fail
  go_ret
  simp
theorem cmpN_any (x y : Int) (w : World) : Calls Tryz.prog 39 #[.int .i64 x, .int .i64 y] w fun e w' => e = .returned (.int .i64 (cmpI x y)) ∧ w' = w := by
  go_enter Tryz.func39, Tryz.ntmps39
  by_cases h1 : x < y
  · have t1 : decide (x < y) = true := by simp [h1]
    have hc : cmpI x y = -1 := by simp [cmpI, h1]
    have HC := Lib.hid hc; clear hc h1
    go_wp2_with fail
    refine (nanN_any _ _).mono ?_
    rintro e w1 ⟨rfl, rfl⟩
    go_wp2_with fail
    refine (nanN_any _ _).mono ?_
    rintro e w1 ⟨rfl, rfl⟩
    go_wp2_with fail
    go_ret
    rw [HC.out]
    exact ⟨rfl, rfl⟩
  · have t1 : decide (x < y) = false := by simp [h1]
    by_cases h2 : y < x
    · have t2 : decide (y < x) = true := by simp [h2]
      have hc : cmpI x y = 1 := by simp [cmpI, h1, h2]
      have HC := Lib.hid hc; clear hc h1 h2
      go_wp2_with fail
      refine (nanN_any _ _).mono ?_
      rintro e w1 ⟨rfl, rfl⟩
      go_wp2_with fail
      refine (nanN_any _ _).mono ?_
      rintro e w1 ⟨rfl, rfl⟩
      go_wp2_with fail
      go_ret
      rw [HC.out]
      exact ⟨rfl, rfl⟩
    · have t2 : decide (y < x) = false := by simp [h2]
      have hc : cmpI x y = 0 := by simp [cmpI, h1, h2]
      have HC := Lib.hid hc; clear hc h1 h2
      go_wp2_with fail
      refine (nanN_any _ _).mono ?_
      rintro e w1 ⟨rfl, rfl⟩
      go_wp2_with fail
      refine (nanN_any _ _).mono ?_
      rintro e w1 ⟨rfl, rfl⟩
      go_wp2_with fail
      go_ret
      rw [HC.out]
      exact ⟨rfl, rfl⟩

theorem nanS_any (x : Int) (w : World) : Calls Tryz.prog 65 #[.int .u8 x] w fun e w' => e = .returned (.bool false) ∧ w' = w := by
  go_enter Tryz.func65, Tryz.ntmps65
  go_wp2_with fail
  go_ret
  simp
theorem cmpS_any (x y : Int) (w : World) : Calls Tryz.prog 38 #[.int .u8 x, .int .u8 y] w fun e w' => e = .returned (.int .i64 (cmpI x y)) ∧ w' = w := by
  go_enter Tryz.func38, Tryz.ntmps38
  by_cases h1 : x < y
  · have t1 : decide (x < y) = true := by simp [h1]
    have hc : cmpI x y = -1 := by simp [cmpI, h1]
    have HC := Lib.hid hc; clear hc h1
    go_wp2_with fail
    refine (nanS_any _ _).mono ?_
    rintro e w1 ⟨rfl, rfl⟩
    go_wp2_with fail
    refine (nanS_any _ _).mono ?_
    rintro e w1 ⟨rfl, rfl⟩
    go_wp2_with fail
    go_ret
    rw [HC.out]
    exact ⟨rfl, rfl⟩
  · have t1 : decide (x < y) = false := by simp [h1]
    by_cases h2 : y < x
    · have t2 : decide (y < x) = true := by simp [h2]
      have hc : cmpI x y = 1 := by simp [cmpI, h1, h2]
      have HC := Lib.hid hc; clear hc h1 h2
      go_wp2_with fail
      refine (nanS_any _ _).mono ?_
      rintro e w1 ⟨rfl, rfl⟩
      go_wp2_with fail
      refine (nanS_any _ _).mono ?_
      rintro e w1 ⟨rfl, rfl⟩
      go_wp2_with fail
      go_ret
      rw [HC.out]
      exact ⟨rfl, rfl⟩
    · have t2 : decide (y < x) = false := by simp [h2]
      have hc : cmpI x y = 0 := by simp [cmpI, h1, h2]
      have HC := Lib.hid hc; clear hc h1 h2
      go_wp2_with fail
      refine (nanS_any _ _).mono ?_
      rintro e w1 ⟨rfl, rfl⟩
      go_wp2_with fail
      refine (nanS_any _ _).mono ?_
      rintro e w1 ⟨rfl, rfl⟩
      go_wp2_with fail
      go_ret
      rw [HC.out]
      exact ⟨rfl, rfl⟩

/-- The first that is not 0. -/
def orI : List Int → Int
  | [] => 0
  | x :: r => if x = 0 then orI r else x
def iV (l : List Int) : List Value := l.map fun x => .int .i64 x
theorem iV_get (l : List Int) (j : Nat) (h : j < l.length) : (iV l)[j]? = some (.int .i64 l[j]) := by simp [iV, h]
set_option maxRecDepth 100000 in
theorem or_any (S : Nat → Prop) (l : List Int) (v : Value) (w : World) (hl : l.length ≤ 1000000) (h : Row S w 1 l.length v (iV l)) :
    Calls Tryz.prog 37 #[v] w fun e w' => e = .returned (.int .i64 (orI l)) ∧ w' = w := by
  obtain ⟨a, cap, rfl, _⟩ := h.shape
  have HR := Lib.hid h; clear h
  go_enter Tryz.func37, Tryz.ntmps37
  go_wp2_with fail
  go_loop [8] (fun i => ∃ j : Nat, j ≤ l.length ∧ i = .int .i64 j ∧ Hid (orI (l.drop j) = orI l)) (fun i => l.length - (intOf i).toNat)
  case atStart => exact ⟨0, Nat.zero_le _, rfl, Lib.hid rfl⟩
  case round =>
    obtain ⟨j, hj, rfl, HE⟩ := hrel
    by_cases hlt : j < l.length
    · obtain ⟨b, off, rfl, _, _, hc⟩ := HR.out.at (by omega)
      have g0 := hc _ _ (iV_get l j hlt)
      clear hc
      have HDR := Lib.hid (List.drop_eq_getElem_cons hlt)
      generalize l[j] = x at *
      by_cases hx : x = 0
      · have t1 : (x != 0) = false := by simp [hx]
        have HE1 := Lib.hid (show orI (l.drop (j + 1)) = orI l by rw [← HE.out, HDR.out, orI, if_pos hx])
        clear hx
        go_wp2_with fail
        go_round
        case rel => exact ⟨j + 1, by omega, by go_num, HE1⟩
        case measure => simp [intOf]; omega
      · have t1 : (x != 0) = true := by simpa using hx
        have HE1 := Lib.hid (show x = orI l by rw [← HE.out, HDR.out, orI, if_neg hx])
        clear hx
        go_wp2_with fail
        go_ret
        exact ⟨by rw [← HE1.out]; rfl, rfl⟩
    · have HE1 := Lib.hid (show 0 = orI l by rw [← HE.out, List.drop_of_length_le (by omega)]; rfl)
      go_wp2_with fail
      go_ret
      exact ⟨by rw [← HE1.out]; rfl, rfl⟩
end Go.Proofs.YtemeppfikpafbaaGreat

