/- Ascending lists of keys and values: the plain facts on tables. No program in sight. -/
import Derived.Test.YtekhoanjpnjaeaaGet
import Derived.Sort.LotA
namespace Go.Proofs.Ytekhoanjpnjaeaa
open Go.RowKit

/-- The table in which k has the value v. -/
def putL : List (Int × Int) → Int → Int → List (Int × Int)
  | [], k, v => [(k, v)]
  | x :: r, k, v => if k < x.1 then (k, v) :: x :: r else if x.1 = k then (k, v) :: r else x :: putL r k v
/-- The table without k. -/
def delL (t : List (Int × Int)) (k : Int) : List (Int × Int) := t.filter fun x => !(x.1 == k)
/-- The table of a list. -/
def ofL (l : List (Int × Int)) : List (Int × Int) := l.foldl (fun t x => putL t x.1 x.2) []
/-- The value of a key's last entry. -/
def lastOf (l : List (Int × Int)) (k : Int) : Option Int := ((l.filter fun x => x.1 == k).getLast?).map (·.2)

theorem getL_nil (k : Int) : getL [] k = none := rfl
theorem getL_cons (x : Int × Int) (r : List (Int × Int)) (k : Int) : getL (x :: r) k = if x.1 = k then some x.2 else getL r k := by
  unfold getL
  rw [List.find?_cons]
  by_cases h : x.1 = k
  · rw [if_pos h]; simp [h]
  · rw [if_neg h]
    have : (x.1 == k) = false := by simpa using h
    rw [this]
theorem asc_cons {x : Int × Int} {r : List (Int × Int)} : Asc (x :: r) ↔ (∀ y ∈ r, x.1 < y.1) ∧ Asc r := List.pairwise_cons
theorem getL_none_of {l : List (Int × Int)} {k : Int} (h : ∀ y ∈ l, y.1 ≠ k) : getL l k = none := by
  induction l with
  | nil => rfl
  | cons x r ih => rw [getL_cons, if_neg (h x List.mem_cons_self)]; exact ih fun y hy => h y (List.mem_cons_of_mem _ hy)
theorem getL_mem {l : List (Int × Int)} {k v : Int} (h : getL l k = some v) : (k, v) ∈ l := by
  induction l with
  | nil => cases h
  | cons x r ih =>
    rw [getL_cons] at h
    split at h
    · rename_i e
      have : x = (k, v) := by cases x; simp at e h; simp [e, h]
      rw [this]; exact List.mem_cons_self
    · exact List.mem_cons_of_mem _ (ih h)
theorem getL_of_mem {l : List (Int × Int)} (ha : Asc l) {k v : Int} (h : (k, v) ∈ l) : getL l k = some v := by
  induction l with
  | nil => cases h
  | cons x r ih =>
    rw [asc_cons] at ha
    rw [getL_cons]
    rcases List.mem_cons.1 h with e | e
    · rw [← e]; simp
    · have := ha.1 _ e
      rw [if_neg (by simp only at this; omega)]
      exact ih ha.2 e
/-- A table is its contents. -/
theorem asc_ext : ∀ {a b : List (Int × Int)}, Asc a → Asc b → (∀ k, getL a k = getL b k) → a = b
  | [], [], _, _, _ => rfl
  | [], y :: s, _, _, h => by have := h y.1; rw [getL_cons, if_pos rfl] at this; cases this
  | x :: r, [], _, _, h => by have := h x.1; rw [getL_cons, if_pos rfl] at this; cases this
  | x :: r, y :: s, ha, hb, h => by
    rw [asc_cons] at ha hb
    have hk : x.1 = y.1 := by
      rcases Int.lt_trichotomy x.1 y.1 with c | c | c
      · have := h x.1
        rw [getL_cons, if_pos rfl, getL_none_of (l := y :: s)] at this
        · cases this
        · intro z hz
          rcases List.mem_cons.1 hz with e | e
          · rw [e]; omega
          · have := hb.1 z e; omega
      · exact c
      · have := h y.1
        rw [getL_cons (x := y), if_pos rfl, getL_none_of (l := x :: r)] at this
        · cases this
        · intro z hz
          rcases List.mem_cons.1 hz with e | e
          · rw [e]; omega
          · have := ha.1 z e; omega
    have hv : x.2 = y.2 := by
      have := h x.1
      rw [getL_cons, if_pos rfl, getL_cons, if_pos hk.symm] at this
      exact Option.some.inj this
    have hxy : x = y := by cases x; cases y; simp at hk hv; simp [hk, hv]
    subst hxy
    rw [asc_ext ha.2 hb.2 fun k => ?_]
    have := h k
    rw [getL_cons, getL_cons] at this
    by_cases e : x.1 = k
    · rw [getL_none_of (fun z hz => by have := ha.1 z hz; omega), getL_none_of (fun z hz => by have := hb.1 z hz; omega)]
    · rwa [if_neg e, if_neg e] at this
theorem mem_putL {t : List (Int × Int)} {k v : Int} {y : Int × Int} (h : y ∈ putL t k v) : y = (k, v) ∨ y ∈ t := by
  induction t with
  | nil => simpa [putL] using h
  | cons x r ih =>
    unfold putL at h
    split at h
    · rcases List.mem_cons.1 h with e | e
      · exact Or.inl e
      · exact Or.inr e
    · split at h
      · rcases List.mem_cons.1 h with e | e
        · exact Or.inl e
        · exact Or.inr (List.mem_cons_of_mem _ e)
      · rcases List.mem_cons.1 h with e | e
        · exact Or.inr (e ▸ List.mem_cons_self)
        · rcases ih e with e | e
          · exact Or.inl e
          · exact Or.inr (List.mem_cons_of_mem _ e)
theorem asc_put {t : List (Int × Int)} (h : Asc t) (k v : Int) : Asc (putL t k v) := by
  induction t with
  | nil => exact List.pairwise_singleton _ _
  | cons x r ih =>
    have h' := h
    rw [asc_cons] at h
    unfold putL
    split
    · rename_i c
      rw [asc_cons]
      refine ⟨fun y hy => ?_, h'⟩
      rcases List.mem_cons.1 hy with e | e
      · rw [e]; exact c
      · have := h.1 y e; show k < y.1; omega
    · split
      · rename_i c
        rw [asc_cons]
        exact ⟨fun y hy => by have := h.1 y hy; show k < y.1; omega, h.2⟩
      · rw [asc_cons]
        refine ⟨fun y hy => ?_, ih h.2⟩
        rcases mem_putL hy with e | e
        · rw [e]; show x.1 < k; omega
        · exact h.1 y e
theorem get_put {t : List (Int × Int)} (h : Asc t) (k v j : Int) : getL (putL t k v) j = if k = j then some v else getL t j := by
  induction t with
  | nil => simp only [putL]; rw [getL_cons]
  | cons x r ih =>
    rw [asc_cons] at h
    unfold putL
    split
    · rw [getL_cons]
    · split
      · rename_i c
        rw [getL_cons, getL_cons]
        simp only [c]
        split <;> rfl
      · rename_i c
        rw [getL_cons, ih h.2, getL_cons]
        by_cases e : x.1 = j
        · rw [if_pos e, if_pos e, if_neg (by omega)]
        · rw [if_neg e, if_neg e]
theorem asc_del {t : List (Int × Int)} (h : Asc t) (k : Int) : Asc (delL t k) := List.Pairwise.filter _ h
theorem get_del (t : List (Int × Int)) (k j : Int) : getL (delL t k) j = if k = j then none else getL t j := by
  unfold delL
  induction t with
  | nil => simp [getL]
  | cons x r ih =>
    rw [List.filter_cons]
    by_cases c : x.1 = k
    · rw [if_neg (by simp [c]), ih, getL_cons]
      by_cases e : k = j
      · rw [if_pos e, if_pos e]
      · rw [if_neg e, if_neg e, if_neg (by omega)]
    · rw [if_pos (by simp [c]), getL_cons, ih, getL_cons]
      by_cases e : k = j
      · rw [if_pos e, if_pos e, if_neg (by omega)]
      · rw [if_neg e, if_neg e]
theorem ofL_push (l : List (Int × Int)) (x : Int × Int) : ofL (l ++ [x]) = putL (ofL l) x.1 x.2 := by simp [ofL]
theorem lastOf_push (l : List (Int × Int)) (x : Int × Int) (k : Int) : lastOf (l ++ [x]) k = if x.1 = k then some x.2 else lastOf l k := by
  unfold lastOf
  rw [List.filter_append]
  by_cases h : x.1 = k
  · rw [if_pos h, List.filter_cons, if_pos (by simp [h])]; simp
  · rw [if_neg h, List.filter_cons, if_neg (by simp [h])]; simp
theorem snoc_ind {α : Type} {P : List α → Prop} (h0 : P []) (h1 : ∀ l x, P l → P (l ++ [x])) (l : List α) : P l := by
  have : ∀ m : List α, P m.reverse := by
    intro m
    induction m with
    | nil => exact h0
    | cons x r ih => rw [List.reverse_cons]; exact h1 _ _ ih
  have := this l.reverse
  rwa [List.reverse_reverse] at this
theorem asc_of (l : List (Int × Int)) : Asc (ofL l) := by
  refine snoc_ind (P := fun l => Asc (ofL l)) ?_ (fun l x h => ?_) l
  · exact List.Pairwise.nil
  · rw [ofL_push]; exact asc_put h _ _
theorem get_of (l : List (Int × Int)) (k : Int) : getL (ofL l) k = lastOf l k := by
  refine snoc_ind (P := fun l => getL (ofL l) k = lastOf l k) ?_ (fun l x h => ?_) l
  · rfl
  · rw [ofL_push, get_put (asc_of l), lastOf_push, h]

/-- What is kept of a list in order: of each key the last entry. -/
def lastsL : List (Int × Int) → List (Int × Int)
  | [] => []
  | [x] => [x]
  | x :: y :: r => if y.1 = x.1 then lastsL (y :: r) else x :: lastsL (y :: r)
def Srt (l : List (Int × Int)) : Prop := l.Pairwise fun x y => x.1 ≤ y.1
theorem lastsL_sub : ∀ (l : List (Int × Int)) (x : Int × Int), x ∈ lastsL l → x ∈ l
  | [], _, h => h
  | [_], _, h => h
  | x :: y :: r, z, h => by
    unfold lastsL at h
    split at h
    · exact List.mem_cons_of_mem _ (lastsL_sub (y :: r) z h)
    · rcases List.mem_cons.1 h with e | e
      · exact e ▸ List.mem_cons_self
      · exact List.mem_cons_of_mem _ (lastsL_sub (y :: r) z e)
theorem asc_lasts : ∀ (l : List (Int × Int)), Srt l → Asc (lastsL l)
  | [], _ => List.Pairwise.nil
  | [x], _ => List.pairwise_singleton _ _
  | x :: y :: r, h => by
    have h2 := List.pairwise_cons.1 h
    have h3 := List.pairwise_cons.1 h2.2
    unfold lastsL
    split
    · exact asc_lasts (y :: r) h2.2
    · rename_i c
      rw [asc_cons]
      refine ⟨fun z hz => ?_, asc_lasts (y :: r) h2.2⟩
      have hz' := lastsL_sub _ _ hz
      have h4 := h2.1 y List.mem_cons_self
      rcases List.mem_cons.1 hz' with e | e
      · rw [e]; omega
      · have := h3.1 z e; omega
theorem lastOf_cons (x : Int × Int) (l : List (Int × Int)) (k : Int) : lastOf (x :: l) k = if x.1 = k then (match lastOf l k with | some v => some v | none => some x.2) else lastOf l k := by
  unfold lastOf
  by_cases h : x.1 = k
  · rw [if_pos h, List.filter_cons, if_pos (by simp [h])]
    cases hf : l.filter (fun x => x.1 == k) with
    | nil => simp
    | cons y r => rw [List.getLast?_cons_cons, List.getLast?_eq_some_getLast (by simp)]; rfl
  · rw [if_neg h, List.filter_cons, if_neg (by simp [h])]
theorem lastOf_none {l : List (Int × Int)} {k : Int} (h : ∀ y ∈ l, y.1 ≠ k) : lastOf l k = none := by
  unfold lastOf
  rw [List.filter_eq_nil_iff.2 (fun y hy => by simpa using h y hy)]; rfl
theorem lastOf_some {l : List (Int × Int)} {k : Int} (h : ∃ y ∈ l, y.1 = k) : (lastOf l k).isSome = true := by
  obtain ⟨y, hy, e⟩ := h
  unfold lastOf
  have hm : y ∈ l.filter fun x => x.1 == k := List.mem_filter.2 ⟨hy, by simpa using e⟩
  rw [List.getLast?_eq_some_getLast (List.ne_nil_of_mem hm)]; rfl
theorem get_lasts : ∀ (l : List (Int × Int)), Srt l → ∀ k, getL (lastsL l) k = lastOf l k
  | [], _, _ => rfl
  | [x], _, k => by
    unfold lastsL
    rw [getL_cons, lastOf_cons]; rfl
  | x :: y :: r, h, k => by
    have h2 := List.pairwise_cons.1 h
    have h3 := List.pairwise_cons.1 h2.2
    have h4 := h2.1 y List.mem_cons_self
    unfold lastsL
    split
    · rename_i c
      rw [get_lasts (y :: r) h2.2, lastOf_cons x]
      split
      · rename_i e
        have : (lastOf (y :: r) k).isSome = true := lastOf_some ⟨y, List.mem_cons_self, by omega⟩
        cases hq : lastOf (y :: r) k with
        | none => rw [hq] at this; cases this
        | some v => rfl
      · rfl
    · rename_i c
      rw [getL_cons, get_lasts (y :: r) h2.2, lastOf_cons x]
      split
      · rename_i e
        rw [lastOf_none]
        intro z hz
        rcases List.mem_cons.1 hz with e' | e'
        · rw [e']; omega
        · have := h3.1 z e'; omega
      · rfl

/-- Of every key the same entries in the same order. -/
def Stab (l l' : List (Int × Int)) : Prop := ∀ k, (l.filter fun x => x.1 == k) = l'.filter fun x => x.1 == k
theorem Stab.refl (l : List (Int × Int)) : Stab l l := fun _ => rfl
theorem Stab.trans {a b c : List (Int × Int)} (h : Stab a b) (h' : Stab b c) : Stab a c := fun k => (h k).trans (h' k)
theorem Stab.symm {a b : List (Int × Int)} (h : Stab a b) : Stab b a := fun k => (h k).symm
theorem Stab.append {a b c d : List (Int × Int)} (h : Stab a b) (h' : Stab c d) : Stab (a ++ c) (b ++ d) := fun k => by rw [List.filter_append, List.filter_append, h k, h' k]
theorem Stab.swap (a : List (Int × Int)) (x y : Int × Int) (b : List (Int × Int)) (h : x.1 ≠ y.1) : Stab (a ++ x :: y :: b) (a ++ y :: x :: b) := by
  refine (Stab.refl a).append fun k => ?_
  simp only [List.filter_cons]
  by_cases h1 : x.1 = k
  · have h2 : ¬ y.1 = k := by omega
    simp [h1, h2]
  · simp [h1]
theorem Stab.mem {a b : List (Int × Int)} (h : Stab a b) {x : Int × Int} (hx : x ∈ b) : x ∈ a := by
  have : x ∈ b.filter fun y => y.1 == x.1 := List.mem_filter.2 ⟨hx, by simp⟩
  rw [← h x.1] at this
  exact (List.mem_filter.1 this).1
theorem Stab.lastOf {a b : List (Int × Int)} (h : Stab a b) (k : Int) : lastOf a k = lastOf b k := by
  unfold Ytekhoanjpnjaeaa.lastOf; rw [h k]
/-- What is kept of a list that was brought in order is the list's table. -/
theorem lasts_of {l s : List (Int × Int)} (hs : Srt s) (h : Stab l s) : lastsL s = ofL l :=
  asc_ext (asc_lasts s hs) (asc_of l) fun k => by rw [get_lasts s hs, get_of, h.lastOf]

/-- The reference's table: of each key the last entry, in the order of the list. -/
theorem look_last : ∀ (l : List (Int × Int)) (k : Int), lookT l k = lastOf l k
  | [], _ => rfl
  | x :: r, k => by
    have ih := look_last r k
    unfold lookT at ih ⊢
    rw [lastOf_cons]
    unfold distL
    split
    · rename_i c
      rw [ih]
      split
      · rename_i e
        obtain ⟨y, hy, he⟩ := List.any_eq_true.1 c
        have : (lastOf r k).isSome = true := lastOf_some ⟨y, hy, by have := eq_of_beq he; omega⟩
        cases hq : lastOf r k with
        | none => rw [hq] at this; cases this
        | some v => rfl
      · rfl
    · rename_i c
      rw [List.find?_cons]
      by_cases e : x.1 = k
      · rw [if_pos e]
        have : (x.1 == k) = true := by simp [e]
        rw [this, lastOf_none]
        · rfl
        · intro y hy he
          exact c (List.any_eq_true.2 ⟨y, hy, by simp; omega⟩)
      · rw [if_neg e]
        have : (x.1 == k) = false := by simpa using e
        rw [this]
        exact ih
theorem nodup_dist : ∀ (l : List (Int × Int)), ((distL l).map (·.1)).Nodup
  | [] => List.nodup_nil
  | x :: r => by
    unfold distL
    split
    · exact nodup_dist r
    · rename_i c
      rw [List.map_cons, List.nodup_cons]
      refine ⟨fun h => ?_, nodup_dist r⟩
      obtain ⟨y, hy, e⟩ := List.mem_map.1 h
      exact c (List.any_eq_true.2 ⟨y, distL_sub r y hy, by simp [e]⟩)
theorem nodup_asc {l : List (Int × Int)} (h : Asc l) : (l.map (·.1)).Nodup := by
  rw [List.Nodup, List.pairwise_map]
  exact h.imp (fun h => by omega)
theorem keys_get {l : List (Int × Int)} {k : Int} : k ∈ l.map (·.1) ↔ (getL l k).isSome = true := by
  induction l with
  | nil => simp [getL]
  | cons x r ih =>
    rw [List.map_cons, List.mem_cons, getL_cons, ih]
    by_cases e : x.1 = k
    · simp [e]
    · rw [if_neg e]
      constructor
      · rintro (h | h)
        · exact absurd h.symm e
        · exact h
      · exact Or.inr
theorem dist_length (l : List (Int × Int)) : (distL l).length = (ofL l).length := by
  have h : ((distL l).map (·.1)).Perm ((ofL l).map (·.1)) := by
    rw [List.perm_ext_iff_of_nodup (nodup_dist l) (nodup_asc (asc_of l))]
    intro k
    rw [keys_get, keys_get, get_of]
    have : getL (distL l) k = lastOf l k := look_last l k
    rw [this]
  have := h.length_eq
  simpa using this
theorem mem_of {l : List (Int × Int)} {x : Int × Int} (h : x ∈ ofL l) : x ∈ l := by
  have h1 := getL_of_mem (asc_of l) (k := x.1) (v := x.2) h
  rw [get_of] at h1
  unfold lastOf at h1
  obtain ⟨y, hy, e⟩ := Option.map_eq_some_iff.1 h1
  have hm := List.mem_of_getLast? hy
  have := (List.mem_filter.1 hm)
  have e2 : y = x := by
    have h3 : y.1 = x.1 := eq_of_beq this.2
    cases y; cases x; simp at h3 e; simp [h3, e]
  rw [← e2]; exact this.1
end Go.Proofs.Ytekhoanjpnjaeaa
