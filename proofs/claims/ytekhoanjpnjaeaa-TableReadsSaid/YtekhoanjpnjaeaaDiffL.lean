/- Put's place and the differences of two tables, in plain words. No program in sight. -/
import Derived.Test.YtekhoanjpnjaeaaRefTab
namespace Go.Proofs.Ytekhoanjpnjaeaa
open Go.RowKit

theorem PlaceOf.tail {x : Int × Int} {r : List (Int × Int)} {k : Int} {p : Nat} (h : PlaceOf (x :: r) k (p + 1)) : x.1 < k ∧ PlaceOf r k p := by
  obtain ⟨h1, h2, h3⟩ := h
  refine ⟨h2 0 (by simp) (by omega), by simpa using h1, fun i hi hp => ?_, fun i hi hp => ?_⟩
  · exact h2 (i + 1) (by simpa using hi) (by omega)
  · exact h3 (i + 1) (by simpa using hi) (by omega)
theorem put_at : ∀ {l : List (Int × Int)} {k : Int} (v : Int) {p : Nat}, PlaceOf l k p → Asc l → putL l k v = l.take p ++ (k, v) :: (if l[p]?.map (·.1) = some k then l.drop (p + 1) else l.drop p)
  | [], k, v, p, hp, _ => by
    have : p = 0 := by have := hp.1; simpa using this
    subst this
    simp [putL]
  | x :: r, k, v, 0, hp, ha => by
    have hk : k ≤ x.1 := hp.2.2 0 (by simp) (Nat.le_refl _)
    unfold putL
    by_cases e : x.1 = k
    · rw [if_neg (by omega), if_pos e, if_pos (by simp [e])]; simp
    · rw [if_pos (by omega), if_neg (by simp [e])]; simp
  | x :: r, k, v, p + 1, hp, ha => by
    obtain ⟨hx, hp'⟩ := hp.tail
    have ih := put_at v hp' (asc_cons.1 ha).2
    unfold putL
    rw [if_neg (by omega), if_neg (by omega), ih]
    simp
theorem put_found {l : List (Int × Int)} {k : Int} (v : Int) {p : Nat} (hp : PlaceOf l k p) (ha : Asc l) (h : p < l.length) (e : l[p].1 = k) : putL l k v = l.take p ++ (k, v) :: l.drop (p + 1) := by
  rw [put_at v hp ha, if_pos (by rw [List.getElem?_eq_getElem h]; simp [e])]
theorem put_new {l : List (Int × Int)} {k : Int} (v : Int) {p : Nat} (hp : PlaceOf l k p) (ha : Asc l) (e : ¬ l[p]?.map (·.1) = some k) : putL l k v = l.take p ++ (k, v) :: l.drop p := by
  rw [put_at v hp ha, if_neg e]
theorem put_same {l : List (Int × Int)} {k v : Int} {p : Nat} (hp : PlaceOf l k p) (ha : Asc l) (h : p < l.length) (e : l[p].1 = k) (e2 : l[p].2 = v) : putL l k v = l := by
  rw [put_found v hp ha h e]
  have : (k, v) = l[p] := by rw [← e, ← e2]
  rw [this]
  conv => rhs; rw [← List.take_append_drop p l, List.drop_eq_getElem_cons h]

/-- The keys whose values differ, as the program collects them. -/
def mergeD : List (Int × Int) → List (Int × Int) → List Int
  | [], [] => []
  | x :: r, [] => x.1 :: mergeD r []
  | [], y :: s => y.1 :: mergeD [] s
  | x :: r, y :: s => if x.1 < y.1 then x.1 :: mergeD r (y :: s) else if y.1 < x.1 then y.1 :: mergeD (x :: r) s else if x.2 = y.2 then mergeD r s else x.1 :: mergeD r s
termination_by a b => a.length + b.length
/-- The keys of both, as the document collects them. -/
def unionL (a b : List (Int × Int)) : List (Int × Int) := b.foldl (fun t x => if (getL a x.1).isSome = true then t else putL t x.1 0) a
def diffB (a b : List (Int × Int)) (k : Int) : Bool := !((getL a k).isSome == (getL b k).isSome && (getL a k).getD 0 == (getL b k).getD 0)
def diffR (a b : List (Int × Int)) : List Int := ((unionL a b).filter fun x => diffB a b x.1).map (·.1)

def AscI (l : List Int) : Prop := l.Pairwise fun x y => x < y
theorem ascI_ext : ∀ {a b : List Int}, AscI a → AscI b → (∀ k, k ∈ a ↔ k ∈ b) → a = b
  | [], [], _, _, _ => rfl
  | [], y :: s, _, _, h => by have := (h y).2 List.mem_cons_self; cases this
  | x :: r, [], _, _, h => by have := (h x).1 List.mem_cons_self; cases this
  | x :: r, y :: s, ha, hb, h => by
    have ha' := List.pairwise_cons.1 ha
    have hb' := List.pairwise_cons.1 hb
    have hxy : x = y := by
      rcases List.mem_cons.1 ((h x).1 List.mem_cons_self) with e | e
      · exact e
      · rcases List.mem_cons.1 ((h y).2 List.mem_cons_self) with e' | e'
        · exact e'.symm
        · have h1 := hb'.1 x e; have h2 := ha'.1 y e'; omega
    subst hxy
    rw [ascI_ext ha'.2 hb'.2 fun k => ?_]
    constructor
    · intro hk
      rcases List.mem_cons.1 ((h k).1 (List.mem_cons_of_mem _ hk)) with e | e
      · have := ha'.1 k hk; omega
      · exact e
    · intro hk
      rcases List.mem_cons.1 ((h k).2 (List.mem_cons_of_mem _ hk)) with e | e
      · have := hb'.1 k hk; omega
      · exact e
theorem diffB_iff {a b : List (Int × Int)} {k : Int} : diffB a b k = true ↔ getL a k ≠ getL b k := by
  unfold diffB
  cases getL a k <;> cases getL b k <;> simp
theorem mergeD_nil_r : ∀ (a : List (Int × Int)), mergeD a [] = a.map (·.1)
  | [] => by simp [mergeD]
  | x :: r => by rw [mergeD, mergeD_nil_r r]; rfl
theorem mergeD_nil_l : ∀ (b : List (Int × Int)), mergeD [] b = b.map (·.1)
  | [] => by simp [mergeD]
  | x :: r => by rw [mergeD, mergeD_nil_l r]; rfl
theorem mem_keys {l : List (Int × Int)} {k : Int} : k ∈ l.map (·.1) ↔ (getL l k).isSome = true := by
  rw [keys_get]
theorem getL_below {x : Int × Int} {r : List (Int × Int)} (h : Asc (x :: r)) {k : Int} (hk : k ≤ x.1) : getL r k = none := getL_none_of fun y hy => by
  have := (asc_cons.1 h).1 y hy; omega
theorem mergeD_mem : ∀ (a b : List (Int × Int)), Asc a → Asc b → ∀ k, k ∈ mergeD a b ↔ getL a k ≠ getL b k
  | [], [], _, _, k => by simp [mergeD]
  | x :: r, [], _, _, k => by
    rw [mergeD_nil_r, mem_keys, getL_nil]
    cases getL (x :: r) k <;> simp
  | [], y :: s, _, _, k => by
    rw [mergeD_nil_l, mem_keys, getL_nil]
    cases getL (y :: s) k <;> simp
  | x :: r, y :: s, ha, hb, k => by
    have ha' := asc_cons.1 ha
    have hb' := asc_cons.1 hb
    rw [mergeD]
    by_cases h1 : x.1 < y.1
    · rw [if_pos h1, List.mem_cons, mergeD_mem r (y :: s) ha'.2 hb k, getL_cons x]
      by_cases e : x.1 = k
      · subst e
        rw [if_pos rfl, getL_cons y, if_neg (by omega), getL_below hb (by omega)]; simp
      · rw [if_neg e]
        constructor
        · rintro (h | h)
          · exact absurd h.symm e
          · exact h
        · exact Or.inr
    · rw [if_neg h1]
      by_cases h2 : y.1 < x.1
      · rw [if_pos h2, List.mem_cons, mergeD_mem (x :: r) s ha hb'.2 k, getL_cons y]
        by_cases e : y.1 = k
        · subst e
          rw [if_pos rfl, getL_cons x, if_neg (by omega), getL_below ha (by omega)]; simp
        · rw [if_neg e]
          constructor
          · rintro (h | h)
            · exact absurd h.symm e
            · exact h
          · exact Or.inr
      · rw [if_neg h2]
        have hxy : x.1 = y.1 := by omega
        have ih := mergeD_mem r s ha'.2 hb'.2 k
        rw [getL_cons x, getL_cons y]
        by_cases e : x.1 = k
        · rw [if_pos e, if_pos (show y.1 = k by omega)]
          rw [getL_below ha (Int.le_of_eq e.symm), getL_below hb (Int.le_of_eq (e.symm.trans hxy))] at ih
          by_cases h3 : x.2 = y.2
          · rw [if_pos h3, ih]; simp [h3]
          · rw [if_neg h3, List.mem_cons]; simp [h3, e.symm]
        · rw [if_neg e, if_neg (show ¬ y.1 = k by omega)]
          by_cases h3 : x.2 = y.2
          · rw [if_pos h3, ih]
          · rw [if_neg h3, List.mem_cons, ih]
            constructor
            · rintro (h | h)
              · exact absurd h.symm e
              · exact h
            · exact Or.inr
termination_by a b => a.length + b.length
theorem mergeD_sub : ∀ (a b : List (Int × Int)), ∀ k ∈ mergeD a b, k ∈ a.map (·.1) ∨ k ∈ b.map (·.1)
  | [], [], k, h => by simp [mergeD] at h
  | x :: r, [], k, h => by rw [mergeD_nil_r] at h; exact Or.inl h
  | [], y :: s, k, h => by rw [mergeD_nil_l] at h; exact Or.inr h
  | x :: r, y :: s, k, h => by
    rw [mergeD] at h
    split at h
    · rcases List.mem_cons.1 h with e | e
      · exact Or.inl (by simp [e])
      · rcases mergeD_sub r (y :: s) k e with h | h
        · exact Or.inl (List.mem_cons_of_mem _ h)
        · exact Or.inr h
    · split at h
      · rcases List.mem_cons.1 h with e | e
        · exact Or.inr (by simp [e])
        · rcases mergeD_sub (x :: r) s k e with h | h
          · exact Or.inl h
          · exact Or.inr (List.mem_cons_of_mem _ h)
      · split at h
        · rcases mergeD_sub r s k h with h | h
          · exact Or.inl (List.mem_cons_of_mem _ h)
          · exact Or.inr (List.mem_cons_of_mem _ h)
        · rcases List.mem_cons.1 h with e | e
          · exact Or.inl (by simp [e])
          · rcases mergeD_sub r s k e with h | h
            · exact Or.inl (List.mem_cons_of_mem _ h)
            · exact Or.inr (List.mem_cons_of_mem _ h)
termination_by a b => a.length + b.length
theorem mergeD_asc : ∀ (a b : List (Int × Int)), Asc a → Asc b → AscI (mergeD a b)
  | [], [], _, _ => by simp [mergeD, AscI]
  | x :: r, [], ha, _ => by rw [mergeD_nil_r]; exact List.pairwise_map.2 ha
  | [], y :: s, _, hb => by rw [mergeD_nil_l]; exact List.pairwise_map.2 hb
  | x :: r, y :: s, ha, hb => by
    have ha' := asc_cons.1 ha
    have hb' := asc_cons.1 hb
    have gr : ∀ k, k ∈ r.map (·.1) → x.1 < k := fun k hk => by
      obtain ⟨z, hz, rfl⟩ := List.mem_map.1 hk; exact ha'.1 z hz
    have gs : ∀ k, k ∈ s.map (·.1) → y.1 < k := fun k hk => by
      obtain ⟨z, hz, rfl⟩ := List.mem_map.1 hk; exact hb'.1 z hz
    rw [mergeD]
    split
    · refine List.pairwise_cons.2 ⟨fun k hk => ?_, mergeD_asc r (y :: s) ha'.2 hb⟩
      rcases mergeD_sub _ _ k hk with h | h
      · exact gr k h
      · rcases List.mem_cons.1 (by simpa using h : k ∈ y.1 :: s.map (·.1)) with e | e
        · omega
        · have := gs k e; omega
    · split
      · refine List.pairwise_cons.2 ⟨fun k hk => ?_, mergeD_asc (x :: r) s ha hb'.2⟩
        rcases mergeD_sub _ _ k hk with h | h
        · rcases List.mem_cons.1 (by simpa using h : k ∈ x.1 :: r.map (·.1)) with e | e
          · omega
          · have := gr k e; omega
        · exact gs k h
      · split
        · exact mergeD_asc r s ha'.2 hb'.2
        · refine List.pairwise_cons.2 ⟨fun k hk => ?_, mergeD_asc r s ha'.2 hb'.2⟩
          rcases mergeD_sub _ _ k hk with h | h
          · exact gr k h
          · have := gs k h; omega
termination_by a b => a.length + b.length
theorem mergeD_len : ∀ (a b : List (Int × Int)), (mergeD a b).length ≤ a.length + b.length
  | [], [] => by simp [mergeD]
  | x :: r, [] => by rw [mergeD_nil_r]; simp
  | [], y :: s => by rw [mergeD_nil_l]; simp
  | x :: r, y :: s => by
    have h1 := mergeD_len r (y :: s)
    have h2 := mergeD_len (x :: r) s
    have h3 := mergeD_len r s
    rw [mergeD]
    split
    · simp at *; omega
    · split
      · simp at *; omega
      · split <;> simp at * <;> omega
termination_by a b => a.length + b.length

theorem union_facts (a : List (Int × Int)) (ha : Asc a) (b : List (Int × Int)) : Asc (unionL a b) ∧ ∀ k, (getL (unionL a b) k).isSome = ((getL a k).isSome || (getL b k).isSome) := by
  refine snoc_ind (P := fun b => Asc (unionL a b) ∧ ∀ k, (getL (unionL a b) k).isSome = ((getL a k).isSome || (getL b k).isSome)) ?_ (fun l x h => ?_) b
  · refine ⟨ha, fun k => ?_⟩
    simp [unionL, getL_nil]
  · obtain ⟨h1, h2⟩ := h
    have hs : unionL a (l ++ [x]) = if (getL a x.1).isSome = true then unionL a l else putL (unionL a l) x.1 0 := by simp [unionL]
    have hg : ∀ k, (getL (l ++ [x]) k).isSome = ((getL l k).isSome || decide (x.1 = k)) := fun k => by
      unfold getL
      rw [List.find?_append]
      cases l.find? (fun x => x.1 == k) with
      | some y => simp
      | none => by_cases e : x.1 = k <;> simp [e]
    rw [hs]
    by_cases hx : (getL a x.1).isSome = true
    · rw [if_pos hx]
      refine ⟨h1, fun k => ?_⟩
      rw [h2, hg]
      by_cases e : x.1 = k
      · subst e; simp [hx]
      · simp [e]
    · rw [if_neg hx]
      refine ⟨asc_put h1 _ _, fun k => ?_⟩
      rw [get_put h1, hg]
      by_cases e : x.1 = k
      · simp [e]
      · rw [if_neg e, h2]; simp [e]
theorem diff_same {a b : List (Int × Int)} (ha : Asc a) (hb : Asc b) : diffR a b = mergeD a b := by
  obtain ⟨h1, h2⟩ := union_facts a ha b
  refine ascI_ext (List.pairwise_map.2 (List.Pairwise.filter _ h1)) (mergeD_asc a b ha hb) fun k => ?_
  rw [mergeD_mem a b ha hb]
  unfold diffR
  constructor
  · intro h
    obtain ⟨x, hx, rfl⟩ := List.mem_map.1 h
    exact diffB_iff.1 (List.mem_filter.1 hx).2
  · intro h
    have : (getL (unionL a b) k).isSome = true := by
      rw [h2]
      cases hg : getL a k with
      | some v => simp
      | none => cases hb : getL b k with
        | some v => simp
        | none => exact absurd (hg.trans hb.symm) h
    obtain ⟨v, hv⟩ := Option.isSome_iff_exists.1 this
    exact List.mem_map.2 ⟨(k, v), List.mem_filter.2 ⟨getL_mem hv, diffB_iff.2 h⟩, rfl⟩
theorem diff_nil {a b : List (Int × Int)} (ha : Asc a) (hb : Asc b) : mergeD a b = [] ↔ a = b := by
  constructor
  · intro h
    refine asc_ext ha hb fun k => ?_
    by_cases e : getL a k = getL b k
    · exact e
    · have := (mergeD_mem a b ha hb k).2 e
      rw [h] at this; cases this
  · rintro rfl
    cases hm : mergeD a a with
    | nil => rfl
    | cons y s => exact absurd rfl ((mergeD_mem a a ha ha y).1 (by rw [hm]; exact List.mem_cons_self))
theorem unionL_len (a b : List (Int × Int)) : (unionL a b).length ≤ a.length + b.length := by
  refine snoc_ind (P := fun b => (unionL a b).length ≤ a.length + b.length) ?_ (fun l x h => ?_) b
  · simp [unionL]
  · have hs : unionL a (l ++ [x]) = if (getL a x.1).isSome = true then unionL a l else putL (unionL a l) x.1 0 := by simp [unionL]
    rw [hs, List.length_append]
    split
    · simp; omega
    · have := putL_len (unionL a l) x.1 0
      simp; omega
end Go.Proofs.Ytekhoanjpnjaeaa
