/- Texts Tab, Stab, HoldE, Places, Conv, Distinct, RefForm, RefValue, laid together. -/
import Derived.Sort.LotA
import Derived.RegionTactic
import Derived.ChangeAlike
import Derived.Laws.IdiomCopy
import Derived.Maps.OwnSet
import Derived.Maps.OwnOps
import Derived.Deep.RegionLaw
import Derived.Deep.AppendLies
import Derived.Test.YtekhoanjpnjaeaaNa
import Derived.Test.YtekhoanjpnjaeaaNb
import Derived.Test.YtekhoanjpnjaeaaNc
/- Ascending lists of keys and values: the plain facts on tables. No program in sight. -/
namespace Go.Proofs.Ytekhoanjpnjaeaa
open Go.RowKit

/-- The table in which k has the value v. -/
def putL : List (Int × Int) → Int → Int → List (Int × Int)
  | [], k, v => [(k, v)]
  | x :: r, k, v => if k < x.1 then (k, v) :: x :: r else if x.1 = k then (k, v) :: r else x :: putL r k v
/-- The table of a list. -/
def ofL (l : List (Int × Int)) : List (Int × Int) := l.foldl (fun t x => putL t x.1 x.2) []
/-- The value of a key's last entry. -/
def lastOf (l : List (Int × Int)) (k : Int) : Option Int := ((l.filter fun x => x.1 == k).getLast?).map (·.2)

theorem getL_cons (x : Int × Int) (r : List (Int × Int)) (k : Int) : getL (x :: r) k = if x.1 = k then some x.2 else getL r k := by
  unfold getL
  rw [List.find?_cons]
  by_cases h : x.1 = k
  · rw [if_pos h]; simp [h]
  · rw [if_neg h]
    have : (x.1 == k) = false := by simpa using h
    rw [this]
theorem asc_cons {x : Int × Int} {r : List (Int × Int)} : Asc (x :: r) ↔ (∀ y ∈ r, x.1 < y.1) ∧ Asc r := List.pairwise_cons
theorem getL_none_of {l : List (Int × Int)} {k : Int} (h : ∀ y ∈ l, y.1 ≠ k) : getL l k = none := by
  induction l with
  | nil => rfl
  | cons x r ih => rw [getL_cons, if_neg (h x List.mem_cons_self)]; exact ih fun y hy => h y (List.mem_cons_of_mem _ hy)
theorem getL_of_mem {l : List (Int × Int)} (ha : Asc l) {k v : Int} (h : (k, v) ∈ l) : getL l k = some v := by
  induction l with
  | nil => cases h
  | cons x r ih =>
    rw [asc_cons] at ha
    rw [getL_cons]
    rcases List.mem_cons.1 h with e | e
    · rw [← e]; simp
    · have := ha.1 _ e
      rw [if_neg (by simp only at this; omega)]
      exact ih ha.2 e
/-- A table is its contents. -/
theorem asc_ext : ∀ {a b : List (Int × Int)}, Asc a → Asc b → (∀ k, getL a k = getL b k) → a = b
  | [], [], _, _, _ => rfl
  | [], y :: s, _, _, h => by have := h y.1; rw [getL_cons, if_pos rfl] at this; cases this
  | x :: r, [], _, _, h => by have := h x.1; rw [getL_cons, if_pos rfl] at this; cases this
  | x :: r, y :: s, ha, hb, h => by
    rw [asc_cons] at ha hb
    have hk : x.1 = y.1 := by
      rcases Int.lt_trichotomy x.1 y.1 with c | c | c
      · have := h x.1
        rw [getL_cons, if_pos rfl, getL_none_of (l := y :: s)] at this
        · cases this
        · intro z hz
          rcases List.mem_cons.1 hz with e | e
          · rw [e]; omega
          · have := hb.1 z e; omega
      · exact c
      · have := h y.1
        rw [getL_cons (x := y), if_pos rfl, getL_none_of (l := x :: r)] at this
        · cases this
        · intro z hz
          rcases List.mem_cons.1 hz with e | e
          · rw [e]; omega
          · have := ha.1 z e; omega
    have hv : x.2 = y.2 := by
      have := h x.1
      rw [getL_cons, if_pos rfl, getL_cons, if_pos hk.symm] at this
      exact Option.some.inj this
    have hxy : x = y := by cases x; cases y; simp at hk hv; simp [hk, hv]
    subst hxy
    rw [asc_ext ha.2 hb.2 fun k => ?_]
    have := h k
    rw [getL_cons, getL_cons] at this
    by_cases e : x.1 = k
    · rw [getL_none_of (fun z hz => by have := ha.1 z hz; omega), getL_none_of (fun z hz => by have := hb.1 z hz; omega)]
    · rwa [if_neg e, if_neg e] at this
theorem mem_putL {t : List (Int × Int)} {k v : Int} {y : Int × Int} (h : y ∈ putL t k v) : y = (k, v) ∨ y ∈ t := by
  induction t with
  | nil => simpa [putL] using h
  | cons x r ih =>
    unfold putL at h
    split at h
    · rcases List.mem_cons.1 h with e | e
      · exact Or.inl e
      · exact Or.inr e
    · split at h
      · rcases List.mem_cons.1 h with e | e
        · exact Or.inl e
        · exact Or.inr (List.mem_cons_of_mem _ e)
      · rcases List.mem_cons.1 h with e | e
        · exact Or.inr (e ▸ List.mem_cons_self)
        · rcases ih e with e | e
          · exact Or.inl e
          · exact Or.inr (List.mem_cons_of_mem _ e)
theorem asc_put {t : List (Int × Int)} (h : Asc t) (k v : Int) : Asc (putL t k v) := by
  induction t with
  | nil => exact List.pairwise_singleton _ _
  | cons x r ih =>
    have h' := h
    rw [asc_cons] at h
    unfold putL
    split
    · rename_i c
      rw [asc_cons]
      refine ⟨fun y hy => ?_, h'⟩
      rcases List.mem_cons.1 hy with e | e
      · rw [e]; exact c
      · have := h.1 y e; show k < y.1; omega
    · split
      · rename_i c
        rw [asc_cons]
        exact ⟨fun y hy => by have := h.1 y hy; show k < y.1; omega, h.2⟩
      · rw [asc_cons]
        refine ⟨fun y hy => ?_, ih h.2⟩
        rcases mem_putL hy with e | e
        · rw [e]; show x.1 < k; omega
        · exact h.1 y e
theorem get_put {t : List (Int × Int)} (h : Asc t) (k v j : Int) : getL (putL t k v) j = if k = j then some v else getL t j := by
  induction t with
  | nil => simp only [putL]; rw [getL_cons]
  | cons x r ih =>
    rw [asc_cons] at h
    unfold putL
    split
    · rw [getL_cons]
    · split
      · rename_i c
        rw [getL_cons, getL_cons]
        simp only [c]
        split <;> rfl
      · rename_i c
        rw [getL_cons, ih h.2, getL_cons]
        by_cases e : x.1 = j
        · rw [if_pos e, if_pos e, if_neg (by omega)]
        · rw [if_neg e, if_neg e]
theorem ofL_push (l : List (Int × Int)) (x : Int × Int) : ofL (l ++ [x]) = putL (ofL l) x.1 x.2 := by simp [ofL]
theorem lastOf_push (l : List (Int × Int)) (x : Int × Int) (k : Int) : lastOf (l ++ [x]) k = if x.1 = k then some x.2 else lastOf l k := by
  unfold lastOf
  rw [List.filter_append]
  by_cases h : x.1 = k
  · rw [if_pos h, List.filter_cons, if_pos (by simp [h])]; simp
  · rw [if_neg h, List.filter_cons, if_neg (by simp [h])]; simp
theorem snoc_ind {α : Type} {P : List α → Prop} (h0 : P []) (h1 : ∀ l x, P l → P (l ++ [x])) (l : List α) : P l := by
  have : ∀ m : List α, P m.reverse := by
    intro m
    induction m with
    | nil => exact h0
    | cons x r ih => rw [List.reverse_cons]; exact h1 _ _ ih
  have := this l.reverse
  rwa [List.reverse_reverse] at this
theorem asc_of (l : List (Int × Int)) : Asc (ofL l) := by
  refine snoc_ind (P := fun l => Asc (ofL l)) ?_ (fun l x h => ?_) l
  · exact List.Pairwise.nil
  · rw [ofL_push]; exact asc_put h _ _
theorem get_of (l : List (Int × Int)) (k : Int) : getL (ofL l) k = lastOf l k := by
  refine snoc_ind (P := fun l => getL (ofL l) k = lastOf l k) ?_ (fun l x h => ?_) l
  · rfl
  · rw [ofL_push, get_put (asc_of l), lastOf_push, h]

/-- What is kept of a list in order: of each key the last entry. -/
def lastsL : List (Int × Int) → List (Int × Int)
  | [] => []
  | [x] => [x]
  | x :: y :: r => if y.1 = x.1 then lastsL (y :: r) else x :: lastsL (y :: r)
def Srt (l : List (Int × Int)) : Prop := l.Pairwise fun x y => x.1 ≤ y.1
theorem lastsL_sub : ∀ (l : List (Int × Int)) (x : Int × Int), x ∈ lastsL l → x ∈ l
  | [], _, h => h
  | [_], _, h => h
  | x :: y :: r, z, h => by
    unfold lastsL at h
    split at h
    · exact List.mem_cons_of_mem _ (lastsL_sub (y :: r) z h)
    · rcases List.mem_cons.1 h with e | e
      · exact e ▸ List.mem_cons_self
      · exact List.mem_cons_of_mem _ (lastsL_sub (y :: r) z e)
theorem asc_lasts : ∀ (l : List (Int × Int)), Srt l → Asc (lastsL l)
  | [], _ => List.Pairwise.nil
  | [x], _ => List.pairwise_singleton _ _
  | x :: y :: r, h => by
    have h2 := List.pairwise_cons.1 h
    have h3 := List.pairwise_cons.1 h2.2
    unfold lastsL
    split
    · exact asc_lasts (y :: r) h2.2
    · rename_i c
      rw [asc_cons]
      refine ⟨fun z hz => ?_, asc_lasts (y :: r) h2.2⟩
      have hz' := lastsL_sub _ _ hz
      have h4 := h2.1 y List.mem_cons_self
      rcases List.mem_cons.1 hz' with e | e
      · rw [e]; omega
      · have := h3.1 z e; omega
theorem lastOf_cons (x : Int × Int) (l : List (Int × Int)) (k : Int) : lastOf (x :: l) k = if x.1 = k then (match lastOf l k with | some v => some v | none => some x.2) else lastOf l k := by
  unfold lastOf
  by_cases h : x.1 = k
  · rw [if_pos h, List.filter_cons, if_pos (by simp [h])]
    cases hf : l.filter (fun x => x.1 == k) with
    | nil => simp
    | cons y r => rw [List.getLast?_cons_cons, List.getLast?_eq_some_getLast (by simp)]; rfl
  · rw [if_neg h, List.filter_cons, if_neg (by simp [h])]
theorem lastOf_none {l : List (Int × Int)} {k : Int} (h : ∀ y ∈ l, y.1 ≠ k) : lastOf l k = none := by
  unfold lastOf
  rw [List.filter_eq_nil_iff.2 (fun y hy => by simpa using h y hy)]; rfl
theorem lastOf_some {l : List (Int × Int)} {k : Int} (h : ∃ y ∈ l, y.1 = k) : (lastOf l k).isSome = true := by
  obtain ⟨y, hy, e⟩ := h
  unfold lastOf
  have hm : y ∈ l.filter fun x => x.1 == k := List.mem_filter.2 ⟨hy, by simpa using e⟩
  rw [List.getLast?_eq_some_getLast (List.ne_nil_of_mem hm)]; rfl
theorem get_lasts : ∀ (l : List (Int × Int)), Srt l → ∀ k, getL (lastsL l) k = lastOf l k
  | [], _, _ => rfl
  | [x], _, k => by
    unfold lastsL
    rw [getL_cons, lastOf_cons]; rfl
  | x :: y :: r, h, k => by
    have h2 := List.pairwise_cons.1 h
    have h3 := List.pairwise_cons.1 h2.2
    have h4 := h2.1 y List.mem_cons_self
    unfold lastsL
    split
    · rename_i c
      rw [get_lasts (y :: r) h2.2, lastOf_cons x]
      split
      · rename_i e
        have : (lastOf (y :: r) k).isSome = true := lastOf_some ⟨y, List.mem_cons_self, by omega⟩
        cases hq : lastOf (y :: r) k with
        | none => rw [hq] at this; cases this
        | some v => rfl
      · rfl
    · rename_i c
      rw [getL_cons, get_lasts (y :: r) h2.2, lastOf_cons x]
      split
      · rename_i e
        rw [lastOf_none]
        intro z hz
        rcases List.mem_cons.1 hz with e' | e'
        · rw [e']; omega
        · have := h3.1 z e'; omega
      · rfl

/-- Of every key the same entries in the same order. -/
def Stab (l l' : List (Int × Int)) : Prop := ∀ k, (l.filter fun x => x.1 == k) = l'.filter fun x => x.1 == k
theorem Stab.refl (l : List (Int × Int)) : Stab l l := fun _ => rfl
theorem Stab.trans {a b c : List (Int × Int)} (h : Stab a b) (h' : Stab b c) : Stab a c := fun k => (h k).trans (h' k)
theorem Stab.symm {a b : List (Int × Int)} (h : Stab a b) : Stab b a := fun k => (h k).symm
theorem Stab.append {a b c d : List (Int × Int)} (h : Stab a b) (h' : Stab c d) : Stab (a ++ c) (b ++ d) := fun k => by rw [List.filter_append, List.filter_append, h k, h' k]
theorem Stab.swap (a : List (Int × Int)) (x y : Int × Int) (b : List (Int × Int)) (h : x.1 ≠ y.1) : Stab (a ++ x :: y :: b) (a ++ y :: x :: b) := by
  refine (Stab.refl a).append fun k => ?_
  simp only [List.filter_cons]
  by_cases h1 : x.1 = k
  · have h2 : ¬ y.1 = k := by omega
    simp [h1, h2]
  · simp [h1]
theorem Stab.lastOf {a b : List (Int × Int)} (h : Stab a b) (k : Int) : lastOf a k = lastOf b k := by
  unfold Ytekhoanjpnjaeaa.lastOf; rw [h k]
/-- What is kept of a list that was brought in order is the list's table. -/
theorem lasts_of {l s : List (Int × Int)} (hs : Srt s) (h : Stab l s) : lastsL s = ofL l :=
  asc_ext (asc_lasts s hs) (asc_of l) fun k => by rw [get_lasts s hs, get_of, h.lastOf]

/-- The reference's table: of each key the last entry, in the order of the list. -/
theorem look_last : ∀ (l : List (Int × Int)) (k : Int), lookT l k = lastOf l k
  | [], _ => rfl
  | x :: r, k => by
    have ih := look_last r k
    unfold lookT at ih ⊢
    rw [lastOf_cons]
    unfold distL
    split
    · rename_i c
      rw [ih]
      split
      · rename_i e
        obtain ⟨y, hy, he⟩ := List.any_eq_true.1 c
        have : (lastOf r k).isSome = true := lastOf_some ⟨y, hy, by have := eq_of_beq he; omega⟩
        cases hq : lastOf r k with
        | none => rw [hq] at this; cases this
        | some v => rfl
      · rfl
    · rename_i c
      rw [List.find?_cons]
      by_cases e : x.1 = k
      · rw [if_pos e]
        have : (x.1 == k) = true := by simp [e]
        rw [this, lastOf_none]
        · rfl
        · intro y hy he
          exact c (List.any_eq_true.2 ⟨y, hy, by simp; omega⟩)
      · rw [if_neg e]
        have : (x.1 == k) = false := by simpa using e
        rw [this]
        exact ih
theorem nodup_dist : ∀ (l : List (Int × Int)), ((distL l).map (·.1)).Nodup
  | [] => List.nodup_nil
  | x :: r => by
    unfold distL
    split
    · exact nodup_dist r
    · rename_i c
      rw [List.map_cons, List.nodup_cons]
      refine ⟨fun h => ?_, nodup_dist r⟩
      obtain ⟨y, hy, e⟩ := List.mem_map.1 h
      exact c (List.any_eq_true.2 ⟨y, distL_sub r y hy, by simp [e]⟩)
theorem nodup_asc {l : List (Int × Int)} (h : Asc l) : (l.map (·.1)).Nodup := by
  rw [List.Nodup, List.pairwise_map]
  exact h.imp (fun h => by omega)
theorem keys_get {l : List (Int × Int)} {k : Int} : k ∈ l.map (·.1) ↔ (getL l k).isSome = true := by
  induction l with
  | nil => simp [getL]
  | cons x r ih =>
    rw [List.map_cons, List.mem_cons, getL_cons, ih]
    by_cases e : x.1 = k
    · simp [e]
    · rw [if_neg e]
      constructor
      · rintro (h | h)
        · exact absurd h.symm e
        · exact h
      · exact Or.inr
theorem dist_length (l : List (Int × Int)) : (distL l).length = (ofL l).length := by
  have h : ((distL l).map (·.1)).Perm ((ofL l).map (·.1)) := by
    rw [List.perm_ext_iff_of_nodup (nodup_dist l) (nodup_asc (asc_of l))]
    intro k
    rw [keys_get, keys_get, get_of]
    have : getL (distL l) k = lastOf l k := look_last l k
    rw [this]
  have := h.length_eq
  simpa using this
theorem mem_of {l : List (Int × Int)} {x : Int × Int} (h : x ∈ ofL l) : x ∈ l := by
  have h1 := getL_of_mem (asc_of l) (k := x.1) (v := x.2) h
  rw [get_of] at h1
  unfold lastOf at h1
  obtain ⟨y, hy, e⟩ := Option.map_eq_some_iff.1 h1
  have hm := List.mem_of_getLast? hy
  have := (List.mem_filter.1 hm)
  have e2 : y = x := by
    have h3 : y.1 = x.1 := eq_of_beq this.2
    cases y; cases x; simp at h3 e; simp [h3, e]
  rw [← e2]; exact this.1
end Go.Proofs.Ytekhoanjpnjaeaa

/- Insertion sort keeps the order of equal keys. No program in sight. -/
namespace Go.Proofs.Ytekhoanjpnjaeaa
open Go.Sort
def keyLt (x y : Int × Int) : Bool := decide (x.1 < y.1)
theorem keyLt_swo : SWO keyLt where
  irrefl x := by simp [keyLt]
  trans x y z := by simp only [keyLt, decide_eq_true_eq]; omega
  ntrans x y z := by simp only [keyLt, decide_eq_false_iff_not]; omega
theorem swp_list (d : Array (Int × Int)) (j : Nat) (hj : j + 1 < d.size) : ∃ a b, d.toList = a ++ d[j]! :: d[j + 1]! :: b ∧ (swp d (j + 1) j).toList = a ++ d[j + 1]! :: d[j]! :: b := by
  have h0 : d.toList[j]'(by simp; omega) = d[j]! := by rw [getElem!_pos d j (by omega)]; simp
  have h1 : d.toList[j + 1]'(by simp; omega) = d[j + 1]! := by rw [getElem!_pos d (j + 1) hj]; simp
  have e : d.toList = d.toList.take j ++ d[j]! :: d[j + 1]! :: d.toList.drop (j + 1 + 1) := by
    conv => lhs; rw [← List.take_append_drop j d.toList]
    rw [List.drop_eq_getElem_cons (i := j) (by simp; omega), List.drop_eq_getElem_cons (i := j + 1) (by simp; omega), h0, h1]
  refine ⟨d.toList.take j, d.toList.drop (j + 1 + 1), e, ?_⟩
  have hs : (swp d (j + 1) j).toList = (d.toList.set (j + 1) d[j]!).set j d[j + 1]! := by simp [swp]
  rw [hs]
  have hl : (d.toList.take j).length = j := by simp; omega
  generalize d.toList.take j = a at *
  generalize d.toList.drop (j + 1 + 1) = b at *
  generalize d[j]! = x at *
  generalize d[j + 1]! = y at *
  rw [e]
  subst hl
  simp
theorem swp_stab (d : Array (Int × Int)) (j : Nat) (hj : j + 1 < d.size) (h : d[j + 1]!.1 ≠ d[j]!.1) : Stab d.toList (swp d (j + 1) j).toList := by
  obtain ⟨a, b, h1, h2⟩ := swp_list d j hj
  rw [h2]
  have := Stab.swap a d[j]! d[j + 1]! b (fun e => h e.symm)
  rwa [← h1] at this
theorem insInner_stab (a : Nat) : ∀ (j : Nat) (d : Array (Int × Int)), j < d.size → Stab d.toList (insInner keyLt a j d).toList ∧ (insInner keyLt a j d).size = d.size
  | 0, d, _ => ⟨Stab.refl _, rfl⟩
  | j + 1, d, h => by
    unfold insInner
    split
    · rename_i c
      have c2 : d[j + 1]!.1 < d[j]!.1 := by
        have c3 := (Bool.and_eq_true _ _ ▸ c).2
        unfold keyLt at c3; exact of_decide_eq_true c3
      have ih := insInner_stab a j (swp d (j + 1) j) (by rw [size_swp]; omega)
      rw [size_swp] at ih
      exact ⟨(swp_stab d j h (by omega)).trans ih.1, ih.2⟩
    · exact ⟨Stab.refl _, rfl⟩
theorem insOuter_stab (a b : Nat) : ∀ (n i : Nat) (d : Array (Int × Int)), b - i = n → b ≤ d.size → Stab d.toList (insOuter keyLt a b i d).toList ∧ (insOuter keyLt a b i d).size = d.size
  | 0, i, d, h, _ => by
    unfold insOuter
    rw [if_neg (by omega)]
    exact ⟨Stab.refl _, rfl⟩
  | n + 1, i, d, h, hb => by
    unfold insOuter
    rw [if_pos (by omega)]
    have h1 := insInner_stab a i d (by omega)
    have h2 := insOuter_stab a b n (i + 1) (insInner keyLt a i d) (by omega) (by rw [h1.2]; exact hb)
    rw [h1.2] at h2
    exact ⟨h1.1.trans h2.1, h2.2⟩
/-- Insertion sort of a part: of each key the same entries in the same order; what lies outside stays; the part is in order. -/
theorem insertion_stab (d : Array (Int × Int)) (a b : Nat) (hab : a ≤ b) (hb : b ≤ d.size) : Stab d.toList (insertionSort keyLt d a b).toList ∧ (insertionSort keyLt d a b).size = d.size ∧ (∀ i, i < a ∨ b ≤ i → (insertionSort keyLt d a b)[i]! = d[i]!) ∧ SortedIn keyLt a b (insertionSort keyLt d a b) := by
  obtain ⟨⟨_, h2, _⟩, h4⟩ := insertionSort_holds keyLt_swo d a b hab hb
  obtain ⟨h5, h6⟩ := insOuter_stab a b _ (a + 1) d rfl hb
  exact ⟨h5, h6, h2, h4⟩
theorem srt_of {d : Array (Int × Int)} (h : SortedIn keyLt 0 d.size d) : Srt d.toList := by
  unfold Srt
  rw [List.pairwise_iff_getElem]
  intro i j hi hj hij
  have := h i j (Nat.zero_le _) hij (by simpa using hj)
  rw [getElem!_pos d j (by simpa using hj), getElem!_pos d i (by simpa using hi)] at this
  simp only [keyLt, decide_eq_false_iff_not] at this
  simp only [Array.getElem_toList]
  omega
end Go.Proofs.Ytekhoanjpnjaeaa

/- A row of entries in memory that is written in place; table.Of's closure (78); slices.swapRangeCmpFunc (158). -/
namespace Go.Proofs.Ytekhoanjpnjaeaa
open Go.RowKit Go.Sort

/-- The entries d lie in block B from off on, and may be written. -/
def HoldE (w : World) (B off : Nat) (d : Array (Int × Int)) : Prop :=
  ∀ i, i < d.size → w.cell? ⟨B, off + i * 2, none⟩ = some (.int .i64 d[i]!.1) ∧ w.cell? ⟨B, off + i * 2 + 1, none⟩ = some (.int .i64 d[i]!.2) ∧ w.frozen? ⟨B, off + i * 2, none⟩ = false ∧ w.frozen? ⟨B, off + i * 2 + 1, none⟩ = false
theorem HoldE.keep {w w' : World} {B off : Nat} {d : Array (Int × Int)} (h : HoldE w B off d) (hw : w'.heap[B]? = w.heap[B]?) : HoldE w' B off d := fun i hi => by
  obtain ⟨h1, h2, h3, h4⟩ := h i hi
  exact ⟨(World.cell?_of_block (w := w) hw).trans h1, (World.cell?_of_block (w := w) hw).trans h2, (World.frozen?_of_block (w := w) hw).trans h3, (World.frozen?_of_block (w := w) hw).trans h4⟩
theorem HoldE.lt {w : World} {B off : Nat} {d : Array (Int × Int)} (h : HoldE w B off d) (hd : 0 < d.size) : B < w.heap.size := cell_lt (h 0 hd).1
theorem setCell_eq {w : World} {B x : Nat} {u v : Value} (h : w.cell? ⟨B, x, none⟩ = some v) : (w.setCell ⟨B, x, none⟩ u).cell? ⟨B, x, none⟩ = some u := World.cell?_setCell_same _ _ _ h
theorem setCell_neq {w : World} {B x y : Nat} {u : Value} (h : x ≠ y) : (w.setCell ⟨B, x, none⟩ u).cell? ⟨B, y, none⟩ = w.cell? ⟨B, y, none⟩ := World.cell?_setCell_other _ _ _ _ (by intro e; cases e; exact h rfl)
/-- Two neighbouring cells are written. -/
def set2 (w : World) (B o : Nat) (a b : Value) : World := (w.setCell ⟨B, o, none⟩ a).setCell ⟨B, o + 1, none⟩ b
theorem set2_cell {w : World} {B off : Nat} {d : Array (Int × Int)} (h : HoldE w B off d) {i : Nat} (hi : i < d.size) (x : Int × Int) : HoldE (set2 w B (off + i * 2) (.int .i64 x.1) (.int .i64 x.2)) B off (d.setIfInBounds i x) := by
  intro j hj
  have hj' : j < d.size := by simpa using hj
  obtain ⟨h1, h2, h3, h4⟩ := h j hj'
  unfold set2
  refine ⟨?_, ?_, by rw [World.frozen?_setCell, World.frozen?_setCell]; exact h3, by rw [World.frozen?_setCell, World.frozen?_setCell]; exact h4⟩
  · rw [setCell_neq (by omega)]
    by_cases e : j = i
    · subst e
      rw [setCell_eq h1]; simp [hj']
    · rw [setCell_neq (by omega), h1]
      simp [hj', Ne.symm e]
  · by_cases e : j = i
    · subst e
      rw [setCell_eq (v := .int .i64 d[j]!.2) (by rw [setCell_neq (by omega)]; exact h2)]; simp [hj']
    · rw [setCell_neq (by omega), setCell_neq (by omega), h2]
      simp [hj', Ne.symm e]
theorem set2_grown (w : World) (B o : Nat) (a b : Value) : w.grownBy (set2 w B o a b) (some B) :=
  ⟨rfl, rfl, rfl, by simp [set2, World.setCell], fun k _ hne => by
    have hk : k ≠ B := fun e => hne (by rw [e])
    unfold set2
    rw [Below.heap_setCell _ _ _ _ hk, Below.heap_setCell _ _ _ _ hk]⟩
/-- Two entries change places. -/
theorem swap_holds {w : World} {B off : Nat} {d : Array (Int × Int)} (h : HoldE w B off d) {i j : Nat} (hi : i < d.size) (hj : j < d.size) :
    HoldE (set2 (set2 w B (off + i * 2) (.int .i64 d[j]!.1) (.int .i64 d[j]!.2)) B (off + j * 2) (.int .i64 d[i]!.1) (.int .i64 d[i]!.2)) B off (swp d i j) := by
  unfold swp
  exact set2_cell (set2_cell h hi d[j]!) (by simpa using hj) d[i]!
/-- The world behind an exchange. -/
def swW (w : World) (B off i j : Nat) (x y : Int × Int) : World := (set2 (set2 w B (off + i * 2) (.int .i64 y.1) (.int .i64 y.2)) B (off + j * 2) (.int .i64 x.1) (.int .i64 x.2)).drew
theorem swW_holds {w : World} {B off : Nat} {d : Array (Int × Int)} (h : HoldE w B off d) {i j : Nat} (hi : i < d.size) (hj : j < d.size) : HoldE (swW w B off i j d[i]! d[j]!) B off (swp d i j) := by
  unfold swW
  exact HoldE.keep (swap_holds h hi hj) rfl
theorem grownBy_trans {a b c : World} {r : Option Nat} (h : a.grownBy b r) (k : b.grownBy c r) : a.grownBy c r :=
  ⟨k.os.trans h.os, k.tape.trans h.tape, k.output.trans h.output, Nat.le_trans h.size k.size, fun i hi hr => (k.block i (Nat.lt_of_lt_of_le hi h.size) hr).trans (h.block i hi hr)⟩
theorem grownBy_drew (w : World) (r : Option Nat) : w.grownBy w.drew r := ⟨rfl, rfl, rfl, Nat.le_refl _, fun _ _ _ => rfl⟩
theorem grownBy_drewN (w : World) (n : Nat) (r : Option Nat) : w.grownBy (w.drewN n) r := ⟨rfl, rfl, rfl, Nat.le_refl _, fun _ _ _ => rfl⟩

theorem swW_grown {w0 w : World} {B : Nat} (h : w0.grownBy w (some B)) (off i j : Nat) (x y : Int × Int) : w0.grownBy (swW w B off i j x y) (some B) :=
  grownBy_trans (grownBy_trans h (set2_grown _ _ _ _ _)) (grownBy_trans (set2_grown _ _ _ _ _) (grownBy_drew _ _))
theorem grownBy_alloc2 (w : World) (o o' : Obj) (r : Option Nat) : w.grownBy ((w.alloc o).alloc o') r := grownBy_trans (World.grownBy_alloc w o r) (World.grownBy_alloc _ o' r)

/-- A world with more blocks. -/
def More (w w' : World) : Prop := w.grownBy w' none
theorem More.cell {w w' : World} (h : More w w') {b o : Nat} {v : Value} (hc : w.cell? ⟨b, o, none⟩ = some v) : w'.cell? ⟨b, o, none⟩ = some v := World.grownBy.cell h hc (by simp)
theorem More.block {w w' : World} (h : More w w') {b : Nat} (hb : b < w.heap.size) : w'.heap[b]? = w.heap[b]? := World.grownBy.block h b hb (by simp)
theorem More.frozen {w w' : World} (h : More w w') {b o : Nat} (hb : b < w.heap.size) (hf : w.frozen? ⟨b, o, none⟩ = false) : w'.frozen? ⟨b, o, none⟩ = false := (World.frozen?_of_block (w := w) (h.block hb)).trans hf
theorem More.below {w w' : World} (h : More w w') : Below w.heap.size w w' := ⟨h.os, h.tape, h.output, h.size, fun _k hk => h.block hk⟩
theorem grownBy_more {w0 w w' : World} {r : Option Nat} (h : w0.grownBy w r) (k : More w w') : w0.grownBy w' r :=
  grownBy_trans h ⟨k.os, k.tape, k.output, k.size, fun _i hi _ => k.block hi⟩
theorem more_drew (w : World) : More w w.drew := grownBy_drew w none
theorem more_trans {a b c : World} (h : More a b) (k : More b c) : More a c := grownBy_trans h k

theorem cmp78 (x y : Int × Int) (w : World) : Calls Try.prog 78 #[.agg #[.int .i64 x.1, .int .i64 x.2], .agg #[.int .i64 y.1, .int .i64 y.2]] w fun e w' => e = .returned (.int .i64 (cmpI x.1 y.1)) ∧ More w w' := by
  go_enter Try.func78, Try.ntmps78
  go_wp2_with fail
  refine (compare_any _ _ _).mono ?_
  rintro e w1 ⟨rfl, rfl⟩
  go_wp2_with fail
  go_ret
  exact ⟨rfl, grownBy_alloc2 _ _ _ _⟩
theorem more_of {w w' : World} (h : Below w.heap.size w w') : More w w' := ⟨h.os, h.tape, h.output, h.size, fun k hk _ => h.block k hk⟩
end Go.Proofs.Ytekhoanjpnjaeaa

/- expr.places (95): the map of the first place of each name. -/
namespace Go.Proofs.Ytekhoanjpnjaeaa
open Go.RowKit Go.Maps

/-- The first place of a name from k on. -/
def placeFrom (l : List ByteArray) (k : Nat) (s : ByteArray) : Option Nat := (placeN (l.drop k) s).map (· + k)
theorem placeFrom_zero (l : List ByteArray) (s : ByteArray) : placeFrom l 0 s = placeN l s := by
  unfold placeFrom; rw [List.drop_zero]; cases placeN l s <;> rfl
theorem placeFrom_end (l : List ByteArray) (s : ByteArray) : placeFrom l l.length s = none := by
  unfold placeFrom; rw [List.drop_length]; rfl
theorem placeFrom_step (l : List ByteArray) (k : Nat) (hk : k < l.length) (s : ByteArray) : placeFrom l k s = if l[k] = s then some k else placeFrom l (k + 1) s := by
  unfold placeFrom
  rw [List.drop_eq_getElem_cons hk, placeN]
  by_cases e : l[k] = s
  · rw [if_pos e, if_pos (by simp [e])]; simp
  · rw [if_neg e, if_neg (by
      simp only [beq_iff_eq]
      intro h
      rw [ByteArray.toList_eq, ByteArray.toList_eq] at h
      exact e (WideShapes.bytes_inj h))]
    cases placeN (l.drop (k + 1)) s with
    | none => rfl
    | some i => simp; omega
def keyS (s : ByteArray) : Lit := .string s.data.toList
theorem keyS_inj {a b : ByteArray} (h : keyS a = keyS b) : a = b := by
  unfold keyS at h
  exact WideShapes.bytes_inj (by injection h)
def i64D (n : Int) : DataW Unit := .lit (.int .i64 n)

/-- Block b is a map in which each name has its first place from k on. -/
def PlaceMap (w : World) (b : Nat) (l : List ByteArray) (k : Nat) : Prop :=
  ∃ n D, w.ownsMap (H := Unit) Try.prog 9 (plainElem Try.prog 3) b n D ∧ n + k ≤ l.length ∧ ∀ s : ByteArray, has D (keyS s) = (placeFrom l k s).isSome ∧ D.atKey (keyS s) (i64D 0) = i64D (((placeFrom l k s).getD 0 : Nat) : Int)
theorem lawS : Keyed Try.prog 9 := string_keyed Try.underlying9
theorem PlaceMap.start (w : World) (l : List ByteArray) : PlaceMap (w.alloc (.map #[] 0)) w.heap.size l l.length :=
  ⟨0, .map [], World.ownsMap_made w _ _ _, by omega, fun s => by rw [placeFrom_end]; exact ⟨rfl, rfl⟩⟩
theorem PlaceMap.keep {w w' : World} {b k : Nat} {l : List ByteArray} (h : PlaceMap w b l k) (hb : w'.heap[b]? = w.heap[b]?) : PlaceMap w' b l k := by
  obtain ⟨n, D, ⟨es, clock, h1, h2⟩, h3⟩ := h
  exact ⟨n, D, ⟨es, clock, hb.trans h1, h2⟩, h3⟩
theorem PlaceMap.lt {w : World} {b k : Nat} {l : List ByteArray} (h : PlaceMap w b l k) : b < w.heap.size := by
  obtain ⟨n, D, h1, _⟩ := h
  exact h1.lt
theorem PlaceMap.below {w w' : World} {b k : Nat} {l : List ByteArray} (h : PlaceMap w b l k) (hB : Below w.heap.size w w') : PlaceMap w' b l k := h.keep (hB.block _ h.lt)
theorem PlaceMap.step {w' : World} {b k n : Nat} {l : List ByteArray} {D : DataW Unit} (hk : k < l.length) (hm : IsMap D) (hn : n + (k + 1) ≤ l.length)
    (hD : ∀ s : ByteArray, has D (keyS s) = (placeFrom l (k + 1) s).isSome ∧ D.atKey (keyS s) (i64D 0) = i64D (((placeFrom l (k + 1) s).getD 0 : Nat) : Int))
    (h : w'.ownsMap (H := Unit) Try.prog 9 (plainElem Try.prog 3) b (n + 1) (D.put (keyS l[k]) (i64D k))) : PlaceMap w' b l k := by
  refine ⟨n + 1, _, h, by omega, fun s => ?_⟩
  rw [placeFrom_step l k hk]
  by_cases e : l[k] = s
  · rw [if_pos e, e, has_put_same hm (show WideAt.IsKeyLit (keyS s) from trivial), atKey_put_same hm (show WideAt.IsKeyLit (keyS s) from trivial)]
    exact ⟨rfl, rfl⟩
  · have hne : keyS s ≠ keyS l[k] := fun he => e (keyS_inj he).symm
    rw [if_neg e, has_put_other hne, atKey_put_other hne]
    exact hD s
theorem run_makeMap172 (n : Int) (w : World) : (Instr.makeMap 172 (some (.int .i64 n))).run Try.prog w = .ok (.map (some w.heap.size)) (w.alloc (.map #[] 0)) := by
  simp [Instr.makeMap, run_underlying Try.underlying172, asInt, asIntOf]
theorem zero3 (w : World) : (zeroValue 3).run Try.prog w = .ok (.int .i64 0) w := by kernel_rfl

theorem PlaceMap.look {w : World} {b : Nat} {l : List ByteArray} (h : PlaceMap w b l 0) (s : ByteArray) (hs : s.size ≤ maxLen) :
    (Instr.lookup 172 (.map (some b)) (.string s) false).run Try.prog w = .ok (.int .i64 (((placeN l s).getD 0 : Nat) : Int)) w ∧
    (Instr.lookup 172 (.map (some b)) (.string s) true).run Try.prog w = .ok (.tuple #[.int .i64 (((placeN l s).getD 0 : Nat) : Int), .bool (placeN l s).isSome]) w := by
  obtain ⟨n, D, h1, _, h3⟩ := h
  have hk : keyOf Try.prog 9 (.string s) = some (keyS s) := WideMaps.keyOf_string_mk Try.underlying9 hs
  obtain ⟨h4, h5⟩ := h3 s
  rw [placeFrom_zero] at h4 h5
  generalize (((placeN l s).getD 0 : Nat) : Int) = p at *
  have hinj : ∀ c : Int, (DataW.lit (.int .i64 p) : DataW Unit) = .lit (.int .i64 c) → p = c := fun c h => by cases h; rfl
  constructor
  · obtain ⟨c, hr, hc, _⟩ := h1.lookup_int lawS Try.underlying172 Try.underlying3 (zero3 w) hk
    have h6 : D.atKey (keyS s) (.lit (.int .i64 0)) = .lit (.int .i64 p) := h5
    rw [h6] at hc
    rw [hr, hinj c hc]
  · obtain ⟨v, ps, hr, hv⟩ := h1.look_ok lawS Try.underlying172 (zero3 w) (plainElem_int Try.underlying3 (by decide)) hk
    have h6 : D.atKey (keyS s) (.lit (.int .i64 0)) = .lit (.int .i64 p) := h5
    rw [h6] at hv
    obtain ⟨c, rfl, hc, _⟩ := plainElem_int_inv Try.underlying3 hv
    simp only [Prod.mk.injEq] at hc
    rw [hr, h4, hinj c hc.1]

set_option maxRecDepth 100000 in
theorem places_any (S : Nat → Prop) (l : List ByteArray) (v : Value) (w : World) (hl : l.length < 4294967296) (hz : ∀ x ∈ l, x.size ≤ maxLen) (h : Row S w 1 l.length v (l.map .string)) :
    Calls Try.prog 95 #[v] w fun e w' => Below w.heap.size w w' ∧ ∃ b, e = .returned (.map (some b)) ∧ w.heap.size ≤ b ∧ PlaceMap w' b l 0 := by
  obtain ⟨a, cap, rfl, _⟩ := h.shape
  have HR := Lib.hid h; clear h
  have HZ := Lib.hid hz; clear hz
  have hmm := run_makeMap172
  go_enter Try.func95, Try.ntmps95
  go_wp2_with fail
  clear hmm
  go_loopw [4] (fun i wr => ∃ k : Nat, k ≤ l.length ∧ i = .int .i64 ((k : Int) - 1) ∧ Hid (Below w.heap.size w wr) ∧ Hid (PlaceMap wr w.heap.size l k)) (fun i _ => (intOf i + 1).toNat)
  case atStart => exact ⟨l.length, Nat.le_refl _, rfl, Lib.hid ((Below.refl _ _).alloc (Nat.le_refl _) _), Lib.hid (PlaceMap.start w l)⟩
  case round =>
    obtain ⟨k, hk, rfl, HB, HM⟩ := hrel
    by_cases hlt : 0 < k
    · obtain ⟨kp, rfl⟩ : ∃ kp, k = kp + 1 := ⟨k - 1, by omega⟩
      obtain ⟨b, off, rfl, _, _, hc⟩ := HR.out.at (by omega)
      have g0 := below_cell HB.out (hc kp (.string l[kp]) (by simp [show kp < l.length by omega]))
      clear hc
      obtain ⟨n, D, ho, hnk, hD⟩ := HM.out
      have HO := Lib.hid ho
      have HD := Lib.hid (And.intro hnk hD)
      have hn : n < maxLen := by unfold maxLen; omega
      have HS := Lib.hid (show keyOf Try.prog 9 (.string l[kp]) = some (keyS l[kp]) from WideMaps.keyOf_string_mk Try.underlying9 (HZ.out _ (List.getElem_mem _)))
      have HW := Lib.hid (show plainElem (H := Unit) Try.prog 3 (.int .i64 (((kp + 1 : Nat) : Int) - 1)) = some (i64D kp, []) by
        rw [show (((kp + 1 : Nat) : Int) - 1) = (kp : Int) by omega]
        exact plainElem_int Try.underlying3 (by go_wf))
      have HST := Lib.hid (fun (w' : World) (h : w'.ownsMap (H := Unit) Try.prog 9 (plainElem Try.prog 3) w.heap.size (n + 1) (D.put (keyS l[kp]) (i64D kp))) => PlaceMap.step (by omega) ho.isMap hnk hD h)
      clear ho hnk hD
      generalize l[kp] = x at *
      go_wp2_with (at_mapUpdate; refine wpList_mapUpdate_own _ rfl _ _ _ 172 rfl 9 3 lawS Try.underlying172 _ w.heap.size n D rfl HO.out hn _ _ _ rfl rfl HS.out _ [] HW.out ?_; intro w1 hown1 hgrow1)
      have HM1 := Lib.hid (HST.out w1 hown1)
      have HB1 := Lib.hid (HB.out.grown hgrow1 HB.out.size (fun k e => by cases e; exact Nat.le_refl _))
      clear hown1 hgrow1
      go_wp2_with fail
      go_roundw
      case rel => exact ⟨kp, by omega, by first | rfl | go_num, HB1, HM1⟩
      case measure => simp [intOf]
    · obtain rfl : k = 0 := by omega
      go_wp2_with fail
      go_ret
      exact ⟨HB.out, _, rfl, Nat.le_refl _, HM.out⟩
end Go.Proofs.Ytekhoanjpnjaeaa

/- The contract of rootcauselaw05.Expr: the same tree, in the program's own form. -/
namespace Go.Proofs.Ytekhoanjpnjaeaa
open Go.RowKit

/-- The world at the head of the loop: N, N + 1, N + 2 are the boxed argument, the result and 'out'. -/
structure ConvInv (w : World) (t : Ex) (d k : Nat) (wr : World) : Prop where
  below : Below w.heap.size w wr
  size : w.heap.size + 1 + 1 + 1 ≤ wr.heap.size
  res : wr.heap[w.heap.size + 1]? = some (.cells #[.int .u8 0, .string ⟨#[]⟩, .int .i64 0, .slice none 0 0] 41)
  out : ∃ sv, wr.heap[w.heap.size + 1 + 1]? = some (.cells #[.int .u8 t.op, .string t.name, .int .i64 t.n, sv] 41) ∧ Grow .u8 41 (w.heap.size + 1 + 1 + 1) wr (d - 1) sv (t.args.take k)

theorem grown_cell {w w' : World} {row : Option Nat} (h : w.grownBy w' row) {b o : Nat} {v : Value} (hc : w.cell? ⟨b, o, none⟩ = some v) (hr : row ≠ some b) : w'.cell? ⟨b, o, none⟩ = some v := by
  rw [World.cell?_of_block (w := w) (a := ⟨b, o, none⟩) (h.block b (cell_lt hc) (fun e => hr e.symm))]; exact hc
theorem grown_thaw {w w' : World} {row : Option Nat} (h : w.grownBy w' row) {b o : Nat} {v : Value} (hc : w.cell? ⟨b, o, none⟩ = some v) (hf : w.frozen? ⟨b, o, none⟩ = false) (hr : row ≠ some b) : w'.frozen? ⟨b, o, none⟩ = false := by
  rw [World.frozen?_of_block (w := w) (a := ⟨b, o, none⟩) (h.block b (cell_lt hc) (fun e => hr e.symm))]; exact hf
theorem keep_chain {wr w0 w1 : World} (h0 : Below wr.heap.size wr w0) (h1 : Below w0.drew.heap.size w0.drew w1) (o : Obj) {x : Nat} (hx : x < wr.heap.size) : (w1.alloc o).heap[x]? = wr.heap[x]? := by
  have e1 : x < w0.heap.size := Nat.lt_of_lt_of_le hx h0.size
  rw [Below.heap_alloc _ _ _ (Nat.lt_of_lt_of_le e1 h1.size), h1.block x e1]
  exact h0.block x hx

theorem ConvInv.step {w wr w0 w1 w2 : World} {t x : Ex} {d' k : Nat} {sv sv' : Value} {o : Obj} (hI : ConvInv w t (d' + 1) k wr) (hk : k < t.args.length) (hx : t.args[k] = x)
    (hsv : wr.heap[w.heap.size + 1 + 1]? = some (.cells #[.int .u8 t.op, .string t.name, .int .i64 t.n, sv] 41)) (h0 : Below wr.heap.size wr w0) (h1 : Below w0.drew.heap.size w0.drew w1)
    (hg : (w1.alloc o).grownBy w2 sv.ownBlock) (hgrow : Grow .u8 41 (w.heap.size + 1 + 1 + 1) w2 d' sv' (t.args.take k ++ [x])) (hon : ∀ y, sv.ownBlock = some y → w.heap.size + 1 + 1 + 1 ≤ y) :
    ConvInv w t (d' + 1) (k + 1) (w2.setCell ⟨w.heap.size + 1 + 1, 3, none⟩ sv') := by
  have hs := hI.size
  have e2 : ∀ y, y < wr.heap.size → y < w.heap.size + 1 + 1 + 1 → w2.heap[y]? = wr.heap[y]? := by
    intro y hy hy'
    have hs1 : w0.heap.size ≤ w1.heap.size := h1.size
    rw [hg.block y (by rw [World.size_alloc]; have := h0.size; omega) (fun e => by have := hon y e.symm; omega)]
    exact keep_chain h0 h1 _ hy
  have hs2 : wr.heap.size ≤ w2.heap.size := by
    have hs1 : w0.heap.size ≤ w1.heap.size := h1.size
    have := hg.size; have := h0.size; rw [World.size_alloc] at *; omega
  refine ⟨⟨?_, ?_, ?_, ?_, fun y hy => ?_⟩, ?_, ?_, ⟨sv', ?_, ?_⟩⟩
  · exact hg.os.trans (h1.os.trans (h0.os.trans hI.below.os))
  · exact hg.tape.trans (h1.tape.trans (h0.tape.trans hI.below.tape))
  · exact hg.output.trans (h1.output.trans (h0.output.trans hI.below.output))
  · have : (w2.setCell ⟨w.heap.size + 1 + 1, 3, none⟩ sv').heap.size = w2.heap.size := by simp [World.setCell]
    omega
  · rw [Below.heap_setCell _ _ _ _ (show y ≠ w.heap.size + 1 + 1 by omega), e2 y (by omega) (by omega)]; exact hI.below.block y hy
  · have : (w2.setCell ⟨w.heap.size + 1 + 1, 3, none⟩ sv').heap.size = w2.heap.size := by simp [World.setCell]
    omega
  · rw [Below.heap_setCell _ _ _ _ (show w.heap.size + 1 ≠ w.heap.size + 1 + 1 by omega), e2 _ (by omega) (by omega)]; exact hI.res
  · rw [heap_setCell_same _ _ _ _ _ _ ((e2 _ (by omega) (by omega)).trans hsv)]; rfl
  · have ht : t.args.take (k + 1) = t.args.take k ++ [x] := by rw [List.take_succ_eq_append_getElem hk, hx]
    rw [ht]
    exact hgrow.keep (fun y hy _ => Below.heap_setCell _ _ _ _ (show y ≠ w.heap.size + 1 + 1 by omega))
theorem ConvInv.start (w : World) (t : Ex) (d : Nat) (c : Value) : ConvInv w t d 0 (((w.alloc (.cells #[.int .i64 t.op, .string t.name, .int .i64 t.n, c] 36)).alloc (.cells #[.int .u8 0, .string ⟨#[]⟩, .int .i64 0, .slice none 0 0] 41)).alloc
    (.cells #[.int .u8 t.op, .string t.name, .int .i64 t.n, .slice none 0 0] 41)) := by
  refine ⟨(((Below.refl _ _).alloc (Nat.le_refl _) _).alloc (by simp) _).alloc (by simp; omega) _, by simp, ?_, ⟨_, ?_, Grow.nil _ _ _ _ _⟩⟩
  · rw [Below.heap_alloc _ _ _ (by simp)]; exact alloc_at _ _ (by simp)
  · exact alloc_at _ _ (by simp)

set_option maxRecDepth 100000 in
theorem conv_any (d : Nat) : ∀ (S : Nat → Prop) (t : Ex) (c : Value) (w : World), Flds .i64 t → RepS .i64 S w d t.args c →
    Calls Try.prog 27 #[agg .i64 t c] w fun e w' => Below w.heap.size w w' ∧ ∃ c', e = .returned (agg .u8 t c') ∧ RepS .u8 (fun x => w.heap.size ≤ x) w' d t.args c' := by
  induction d using Nat.strongRecOn with
  | _ d ih =>
    intro S t c w hf hr
    have IH := Lib.hid ih; clear ih
    obtain ⟨a, cap, rfl⟩ := hr.shape
    have HF := Lib.hid hf
    have HR := Lib.hid hr; clear hr
    have hlen := hf.len
    have hop : 0 ≤ t.op ∧ t.op ≤ 255 := by have := hf.op; simpa [Lit.wf, IntKind.min, IntKind.max, IntKind.signed, IntKind.bits] using this
    obtain ⟨ho1, ho2⟩ := hop
    clear hf
    unfold agg
    go_enter Try.func27, Try.ntmps27
    go_wp2_with fail
    go_loopw [17] (fun i wr => ∃ k : Nat, k ≤ t.args.length ∧ i = .int .i64 k ∧ ConvInv w t d k wr) (fun i _ => t.args.length - (intOf i).toNat)
    case atStart => exact ⟨0, Nat.zero_le _, rfl, ConvInv.start w t d _⟩
    case round =>
      obtain ⟨k, hk, rfl, hinv⟩ := hrel
      have HI := Lib.hid hinv; clear hinv
      by_cases hlt : k < t.args.length
      · have hne : t.args ≠ [] := by intro e; rw [e] at hlt; simp at hlt
        obtain ⟨d', b', off', rfl, rfl, _, _, hat⟩ := HR.out.at hne
        obtain ⟨g0, g1, g2, gf, c, g3, gc⟩ := (hat k hlt).below HI.out.below
        clear hat hne
        obtain ⟨ac, capc, rfl⟩ := gc.shape
        have HGC := Lib.hid gc; clear gc
        have HGF := Lib.hid gf; clear gf
        have hbr := cell_lt g0
        have hszr := HI.out.size
        obtain ⟨sv, hsv, hgrow⟩ := HI.out.out
        obtain ⟨asv, capsv, rfl, hown⟩ := hgrow.shape
        have o3 : wr.cell? ⟨w.heap.size + 1 + 1, 3, none⟩ = some (.slice asv (t.args.take k).length capsv) := by simp [World.cell?, hsv]
        have fr3 := thaw hsv 3
        have hN2 : w.heap.size + 1 + 1 < wr.heap.size := by omega
        have HSV := Lib.hid hsv; clear hsv
        have HGR := Lib.hid hgrow; clear hgrow
        have HOWN := Lib.hid hown; clear hown
        generalize hLk : (t.args.take k).length = Lk at *
        have HLK := Lib.hid hLk; clear hLk
        generalize hex : t.args[k] = x at *
        have HEX := Lib.hid hex; clear hex
        go_wp2_with fail
        generalize hw0 : wr.alloc (.cells #[.int .i64 x.op, .string x.name, .int .i64 x.n, .slice ac x.args.length capc] 36) = w0
        have hs0 : w0.heap.size = wr.heap.size + 1 := by rw [← hw0]; simp
        have hB0 : Below wr.heap.size wr w0 := by rw [← hw0]; exact (Below.refl _ _).alloc (Nat.le_refl _) _
        have ex : w0.heap[wr.heap.size]? = some (.cells #[.int .i64 x.op, .string x.name, .int .i64 x.n, .slice ac x.args.length capc] 36) := by rw [← hw0]; exact alloc_last _ _
        clear hw0
        have x0 : w0.cell? ⟨wr.heap.size, 0, none⟩ = some (.int .i64 x.op) := by simp [World.cell?, ex]
        have x1 : w0.cell? ⟨wr.heap.size, 1, none⟩ = some (.string x.name) := by simp [World.cell?, ex]
        have x2 : w0.cell? ⟨wr.heap.size, 2, none⟩ = some (.int .i64 x.n) := by simp [World.cell?, ex]
        have x3 : w0.cell? ⟨wr.heap.size, 3, none⟩ = some (.slice ac x.args.length capc) := by simp [World.cell?, ex]
        have p3 : w0.cell? ⟨w.heap.size + 1 + 1, 3, none⟩ = some (.slice asv Lk capsv) := below_cell hB0 o3
        have q3 : w0.frozen? ⟨w.heap.size + 1 + 1, 3, none⟩ = false := below_thaw hB0 o3 fr3
        have HGC0 := Lib.hid (show RepS .i64 S w0.drew d' x.args (.slice ac x.args.length capc) from (HGC.out.below hB0).drewN 1)
        have HB0 := Lib.hid hB0
        have HS0 := Lib.hid hs0
        clear g0 g1 g2 g3 o3 fr3 hB0 ex hs0 hbr
        obtain ⟨i0, hi0, hz0, hz1, hz2⟩ := info_parts Try.info41
        have HON := Lib.hid (show (Value.slice asv Lk capsv).ownBlock ≠ some (w.heap.size + 1 + 1) from fun e => by have := (HOWN.out _ e).1; omega)
        have HM := Lib.hid (show Lk + 1 ≤ maxLen ∧ (Lk + 1) * 56 ≤ 140737488355328 by
          have : Lk ≤ k := by rw [← HLK.out]; exact List.length_take_le _ _
          unfold maxLen; omega)
        have HBS := Lib.hid (fun (w1 : World) (h : w0.drew.heap.size ≤ w1.heap.size) (o : Obj) => show w.heap.size + 1 + 1 + 1 ≤ (w1.alloc o).heap.size by
          have h' : w0.heap.size ≤ w1.heap.size := h
          have := HS0.out
          rw [World.size_alloc]; omega)
        go_region_law (first | (refine step_append_lies _ (by rfl) _ _ _ (by rfl) (w.heap.size + 1 + 1 + 1) 41 i0 _ 4 56 Try.underlying39 hi0 hz0 hz1 hz2 rfl (by omega) (.slice asv Lk capsv) Lk xs (by rfl) hox ⟨w1.heap.size, 0, none⟩ 1 1 [.int .u8 x.op, .string x.name, .int .i64 x.n, .slice a1 x.args.length cap1] (by rfl) (by rfl) (World.news_of_block (cs := #[.int .u8 x.op, .string x.name, .int .i64 x.n, .slice a1 x.args.length cap1]) (t := 41) (fr := (0, 0)) (heap_alloc_new w1 _)) (by simp [Value.oneCell']) (by omega) hm1 hm2 hbs (w1.heap.size + 1) (by simp) ?_; intro gg cap2 w2 hown2 hgrow2 hat2 hlt2; have p5 := grown_cell hgrow2 (alloc_cell _ p4) HON.out; have q5 := grown_thaw hgrow2 (alloc_cell _ p4) (alloc_thaw _ p4 q4) HON.out) | (go_simp; go_at_call 27; refine (IH.out d' (by omega) S x (.slice ac x.args.length capc) w0.drew HGF.out HGC0.out).mono ?_; rintro e w1 ⟨hb1, c1, rfl, hr1⟩; obtain ⟨a1, cap1, rfl⟩ := hr1.shape; unfold agg; obtain ⟨xs, hox, hpush⟩ := (HGR.out.keep (w' := w1.alloc (.cells #[.int .u8 x.op, .string x.name, .int .i64 x.n, .slice a1 x.args.length cap1] 41)) (fun y _ hy => keep_chain HB0.out hb1 _ hy)).open; rw [HLK.out] at hox; have hm1 : Lk + 1 ≤ maxLen := HM.out.1; have hm2 : (Lk + 1) * 56 ≤ 140737488355328 := HM.out.2; have hbs : w.heap.size + 1 + 1 + 1 ≤ (w1.alloc (.cells #[.int .u8 x.op, .string x.name, .int .i64 x.n, .slice a1 x.args.length cap1] 41)).heap.size := HBS.out w1 hb1.size _; have HPU := Lib.hid hpush; have HR1 := Lib.hid hr1; clear hpush hr1; have p4 := below_cell hb1 (show w0.drew.cell? ⟨w.heap.size + 1 + 1, 3, none⟩ = _ from p3); have q4 := below_thaw hb1 (show w0.drew.cell? ⟨w.heap.size + 1 + 1, 3, none⟩ = _ from p3) q3; have hN4 := cell_lt p4; have HB1 := Lib.hid hb1; clear hb1))
        all_goals
          have HN := Lib.hid (HI.out.step (sv' := .slice (some ⟨gg, 0, none⟩) (Lk + 1) cap2) hlt HEX.out HSV.out HB0.out HB1.out hgrow2 (by
            have h := HPU.out w2 gg cap2 (w1.heap.size + 1) x (.slice a1 x.args.length cap1) (by rw [HLK.out]; exact hown2) hgrow2 hat2 (by simp) ⟨HGF.out.op, HGF.out.n, HGF.out.name, HGF.out.len⟩ (HR1.out.mono2 (fun y o v hy hv => ⟨⟨by have h1 : w0.heap.size ≤ y := hy; have := HS0.out; omega, fun e => by have h1 : w0.heap.size ≤ y := hy; have := (HOWN.out _ e).2; have := HS0.out; omega⟩, alloc_cell _ hv⟩) (Nat.le_refl _))
            rwa [HLK.out] at h) (fun y e => (HOWN.out y e).1))
          clear hown2 hgrow2 hat2 hlt2
          go_wp2_with fail
          go_roundw
          case rel => exact ⟨k + 1, by omega, by go_num, HN.out⟩
          case measure => simp [intOf]; omega
      · have hkk : k = t.args.length := by omega
        subst hkk
        obtain ⟨sv, hsv, hgrow⟩ := HI.out.out
        rw [List.take_length] at hgrow
        obtain ⟨asv, capsv, rfl, hown⟩ := hgrow.shape
        have HD := Lib.hid (show RepS .u8 (fun x => w.heap.size + 1 + 1 + 1 ≤ x) wr d t.args (.slice asv t.args.length capsv) by
          by_cases hne : t.args = []
          · rw [hne]; exact RepS.nil _ _ _
          · obtain ⟨d', b', off', rfl, _⟩ := HR.out.at hne
            exact hgrow.rep)
        have o0 : wr.cell? ⟨w.heap.size + 1 + 1, 0, none⟩ = some (.int .u8 t.op) := by simp [World.cell?, hsv]
        have o1 : wr.cell? ⟨w.heap.size + 1 + 1, 1, none⟩ = some (.string t.name) := by simp [World.cell?, hsv]
        have o2 : wr.cell? ⟨w.heap.size + 1 + 1, 2, none⟩ = some (.int .i64 t.n) := by simp [World.cell?, hsv]
        have o3 : wr.cell? ⟨w.heap.size + 1 + 1, 3, none⟩ = some (.slice asv t.args.length capsv) := by simp [World.cell?, hsv]
        have z0 : wr.cell? ⟨w.heap.size + 1, 0, none⟩ = some (.int .u8 0) := by simp [World.cell?, HI.out.res]
        have z1 : wr.cell? ⟨w.heap.size + 1, 1, none⟩ = some (.string ⟨#[]⟩) := by simp [World.cell?, HI.out.res]
        have z2 : wr.cell? ⟨w.heap.size + 1, 2, none⟩ = some (.int .i64 0) := by simp [World.cell?, HI.out.res]
        have z3 : wr.cell? ⟨w.heap.size + 1, 3, none⟩ = some (.slice none 0 0) := by simp [World.cell?, HI.out.res]
        have f0 := thaw HI.out.res 0
        have f1 := thaw HI.out.res 1
        have f2 := thaw HI.out.res 2
        have f3 := thaw HI.out.res 3
        clear hsv hgrow hown
        go_wp2_with fail
        refine bodyPost_ret (v := .agg #[.int .u8 t.op, .string t.name, .int .i64 t.n, .slice asv t.args.length capsv]) (by simp [results, Try.results27, go_sem, z0, z1, z2, z3]) rfl ⟨set4_below (M := w.heap.size + 1) HI.out.below (Nat.le_succ _) 0 _ _ _ _, _, rfl, ?_⟩
        exact HD.out.mono (fun x hx => by omega) (fun x o v hx hv => (set4_far wr (w.heap.size + 1) 0 _ _ _ _ x o (by omega)).trans hv) (Nat.le_refl _)
end Go.Proofs.Ytekhoanjpnjaeaa

/- The contract of ref10.distinct. -/
namespace Go.Proofs.Ytekhoanjpnjaeaa
open Go.RowKit

end Go.Proofs.Ytekhoanjpnjaeaa

/- The contracts of ref06.Arity, ref10.Formed, constant and literal. -/
namespace Go.Proofs.Ytekhoanjpnjaeaa
open Go.RowKit

end Go.Proofs.Ytekhoanjpnjaeaa

/- The contract of ref10.value. -/
namespace Go.Proofs.Ytekhoanjpnjaeaa
open Go.RowKit

structure EnvD where
  names : List ByteArray
  vals : List Int
  tnames : List ByteArray
  tabs : List (List (Int × Int))
  now : Int

/-- an environment in memory, as the reference has it -/
structure EnvRep (S : Nat → Prop) (w : World) (e : EnvD) (c1 c2 c3 c4 : Value) : Prop where
  names : Row S w 1 e.names.length c1 (e.names.map .string)
  vals : Row S w 1 e.vals.length c2 (e.vals.map (.int .i64))
  tnames : Row S w 1 e.tnames.length c3 (e.tnames.map .string)
  tabs : ∃ ts : List Value, Row S w 1 e.tabs.length c4 ts ∧ ∀ i (h : i < e.tabs.length), ∃ tv, ts[i]? = some tv ∧ Row S w 2 e.tabs[i].length tv (flat2 e.tabs[i])
  small : e.names.length < 4294967296 ∧ e.vals.length < 4294967296 ∧ e.tnames.length < 4294967296 ∧ e.tabs.length < 4294967296 ∧ ∀ t ∈ e.tabs, t.length < 4294967296
  nums : In64 e.now ∧ (∀ v ∈ e.vals, In64 v) ∧ ∀ t ∈ e.tabs, ∀ x ∈ t, In64 x.1 ∧ In64 x.2

def EnvD.valOf (e : EnvD) (s : ByteArray) : Int := e.vals[(placeN e.names s).getD 0]?.getD 0
def EnvD.tabOf (e : EnvD) (s : ByteArray) : List (Int × Int) := e.tabs[(placeN e.tnames s).getD 0]?.getD []
def valN (e : EnvD) (op : Int) (name : ByteArray) (n : Int) (vs : List Int) : Int :=
  if op = 1 then n else if op = 2 then 1 else if op = 3 then 0 else if op = 4 then e.now else if op = 5 then e.valOf name
  else if op = 6 then (lookT (e.tabOf name) (vs[0]?.getD 0)).getD 0 else if op = 7 then tr (lookT (e.tabOf name) (vs[0]?.getD 0)).isSome
  else if op = 8 then ((distL (e.tabOf name)).length : Int) else if op = 9 ∨ op = 10 then (unV op (vs[0]?.getD 0)).1
  else (binV op (vs[0]?.getD 0) (vs[1]?.getD 0)).1
mutual
def valT (e : EnvD) : Ex → Int | .node op name n args => valN e op name n (valL e args)
def valL (e : EnvD) : List Ex → List Int | [] => [] | t :: ts => valT e t :: valL e ts
end
theorem valL_map (e : EnvD) (l : List Ex) : valL e l = l.map (valT e) := by
  induction l with
  | nil => rfl
  | cons t ts ih => simp [valL, ih]
theorem valT_eq (e : EnvD) (t : Ex) : valT e t = valN e t.op t.name t.n (t.args.map (valT e)) := by
  obtain ⟨op, name, n, args⟩ := t
  rw [valT, valL_map]; rfl
def boundN (e : EnvD) (op : Int) (name : ByteArray) : Bool :=
  !(decide (op = 5) && (placeN e.names name).isNone) && !(decide (6 ≤ op ∧ op ≤ 8) && (placeN e.tnames name).isNone)
mutual
def boundT (e : EnvD) : Ex → Bool | .node op name _ args => boundN e op name && boundL e args
def boundL (e : EnvD) : List Ex → Bool | [] => true | t :: ts => boundT e t && boundL e ts
end
theorem boundL_iff (e : EnvD) (l : List Ex) : boundL e l = true ↔ ∀ t ∈ l, boundT e t = true := by
  induction l with
  | nil => simp [boundL]
  | cons t ts ih => simp [boundL, ih]
theorem boundT_eq (e : EnvD) (t : Ex) : boundT e t = (boundN e t.op t.name && boundL e t.args) := by
  obtain ⟨op, name, n, args⟩ := t
  rw [boundT]; rfl

def aggE (e : EnvD) (c1 c2 c3 c4 : Value) : Value := .agg #[c1, c2, c3, c4, .int .i64 e.now]

theorem EnvRep.below {S : Nat → Prop} {w w' : World} {e : EnvD} {c1 c2 c3 c4 : Value} (h : EnvRep S w e c1 c2 c3 c4) (hB : Below w.heap.size w w') : EnvRep S w' e c1 c2 c3 c4 := by
  obtain ⟨a, b, c, ⟨ts, d, hd⟩, f, g⟩ := h
  exact ⟨a.below hB, b.below hB, c.below hB, ⟨ts, d.below hB, fun i hi => by obtain ⟨tv, h1, h2⟩ := hd i hi; exact ⟨tv, h1, h2.below hB⟩⟩, f, g⟩

structure ValInv (w : World) (t : Ex) (e : EnvD) (c c1 c2 c3 c4 : Value) (k : Nat) (lv : Value) (wr : World) : Prop where
  below : Below w.heap.size w wr
  size : w.heap.size + 1 + 1 ≤ wr.heap.size
  bx : wr.heap[w.heap.size]? = some (.cells #[.int .i64 t.op, .string t.name, .int .i64 t.n, c] 36)
  be : wr.heap[w.heap.size + 1]? = some (.cells #[c1, c2, c3, c4, .int .i64 e.now] 93)
  own : wr.ownsRow (w.heap.size + 1 + 1) 2 1 lv k (((t.args.take k).map (valT e)).map (.int .i64))
  rng : ∀ i (h : i < t.args.length), i < k → In64 (valT e t.args[i])

theorem ValInv.start (w : World) (t : Ex) (e : EnvD) (c c1 c2 c3 c4 : Value) : ValInv w t e c c1 c2 c3 c4 0 (.slice none 0 0) ((w.alloc (.cells #[.int .i64 t.op, .string t.name, .int .i64 t.n, c] 36)).alloc (.cells #[c1, c2, c3, c4, .int .i64 e.now] 93)) := by
  refine ⟨((Below.refl _ _).alloc (Nat.le_refl _) _).alloc (by simp) _, by simp, ?_, ?_, ⟨rfl, Or.inl ⟨rfl, rfl⟩⟩, fun _ _ h => absurd h (Nat.not_lt_zero _)⟩
  · rw [Below.heap_alloc _ _ _ (by simp)]; exact alloc_last _ _
  · exact alloc_at _ _ (by simp)
theorem ValInv.step {w wr w0 w1 w2 : World} {t x : Ex} {e : EnvD} {c c1 c2 c3 c4 : Value} {k : Nat} {lv lv' : Value} {o : Obj} (hI : ValInv w t e c c1 c2 c3 c4 k lv wr) (hk : k < t.args.length) (hx : t.args[k] = x) (h0 : Below wr.heap.size wr w0) (h1 : Below w0.heap.size w0 w1)
    (hg : (w1.alloc o).grownBy w2 lv.ownBlock) (ho : w2.ownsRow (w.heap.size + 1 + 1) 2 1 lv' (k + 1) (((t.args.take k).map (valT e)).map (.int .i64) ++ [.int .i64 (valT e x)])) (hr : In64 (valT e x)) (hon : ∀ y, lv.ownBlock = some y → w.heap.size + 1 + 1 ≤ y) :
    ValInv w t e c c1 c2 c3 c4 (k + 1) lv' w2 := by
  have hs := hI.size
  have h01 : Below wr.heap.size wr w1 := h0.trans (h1.mono h0.size)
  have hs1 := h01.size
  have e2 : ∀ y, y < wr.heap.size → y < w.heap.size + 1 + 1 → w2.heap[y]? = wr.heap[y]? := by
    intro y hy hy'
    rw [hg.block y (by rw [World.size_alloc]; omega) (fun e => by have := hon y e.symm; omega), Below.heap_alloc _ _ _ (by omega)]
    exact h01.block y hy
  have hs2 : wr.heap.size ≤ w2.heap.size := by have := hg.size; rw [World.size_alloc] at this; omega
  refine ⟨⟨?_, ?_, ?_, ?_, fun y hy => ?_⟩, by omega, ?_, ?_, ?_, fun i hi hik => ?_⟩
  · exact hg.os.trans (h01.os.trans hI.below.os)
  · exact hg.tape.trans (h01.tape.trans hI.below.tape)
  · exact hg.output.trans (h01.output.trans hI.below.output)
  · have := hI.below.size; omega
  · rw [e2 y (by omega) (by omega)]; exact hI.below.block y hy
  · rw [e2 _ (by omega) (by omega)]; exact hI.bx
  · rw [e2 _ (by omega) (by omega)]; exact hI.be
  · rw [List.take_succ_eq_append_getElem hk, hx, List.map_append, List.map_append]; exact ho
  · by_cases e : i = k
    · subst e; rw [hx]; exact hr
    · exact hI.rng i hi (by omega)

end Go.Proofs.Ytekhoanjpnjaeaa

