/- Plain laws of ranks: the least size of a cause that has a key; the sorted shares. -/
import Derived.Test.YtemeppfikpafbaaDegree
namespace Go.Proofs.Ytemeppfikpafbaa
open Go.RowKit Go.Sort Go.Shelf
/-- What ratio.Cmp answers. -/
def cmpR (x y : Int × Int) : Int := cmpI ((oneR x).1 * (oneR y).2) ((oneR y).1 * (oneR x).2)
theorem degR_ok {n : Nat} (h : n ≤ 1000) : OkR (degR n) := by
  unfold degR OkR
  split
  · right; left; rfl
  · right; right
    refine ⟨rfl, ?_, ?_⟩
    · show (1 : Int) ≤ n; omega
    · show (n : Int) ≤ 1000; omega
theorem oneR_deg (n : Nat) : oneR (degR n) = degR n := by
  unfold degR oneR
  split <;> simp
theorem degR_inj {m n : Nat} (h : degR m = degR n) : m = n := by
  unfold degR at h
  split at h <;> split at h <;> simp at h <;> omega
/-- The order of degrees is the one of their denominators, turned; 0 is the least degree. -/
theorem cmpR_pos (m n : Nat) : 0 < cmpR (degR m) (degR n) ↔ 0 < m ∧ (n = 0 ∨ m < n) := by
  unfold cmpR
  rw [oneR_deg, oneR_deg]
  unfold degR cmpI
  by_cases hm : m = 0 <;> by_cases hn : n = 0 <;> simp [hm, hn]
  · omega
  · split
    · omega
    · split <;> omega
theorem cmpR_zero (m n : Nat) : cmpR (degR m) (degR n) = 0 ↔ m = n := by
  unfold cmpR
  rw [oneR_deg, oneR_deg]
  unfold degR cmpI
  by_cases hm : m = 0 <;> by_cases hn : n = 0 <;> simp [hm, hn]
  · omega
  · split
    · omega
    · split <;> omega
theorem cmpR_neg (m n : Nat) : cmpR (degR m) (degR n) < 0 ↔ 0 < n ∧ (m = 0 ∨ n < m) := by
  unfold cmpR
  rw [oneR_deg, oneR_deg]
  unfold degR cmpI
  by_cases hm : m = 0 <;> by_cases hn : n = 0 <;> simp [hm, hn]
  · omega
  · split
    · omega
    · split <;> omega
theorem cmpR_none (m : Nat) : cmpR (degR m) (0, 0) = cmpR (degR m) (degR 0) := by
  unfold cmpR
  rw [show oneR (0, 0) = oneR (degR 0) from rfl]
/-- Two ascending lists with the same elements are one. -/
theorem asc_unique {α : Type} {lt : α → α → Prop} (hi : ∀ x, ¬ lt x x) (ht : ∀ x y z, lt x y → lt y z → lt x z) : ∀ {l m : List α}, l.Pairwise lt → m.Pairwise lt → (∀ x, x ∈ l ↔ x ∈ m) → l = m
  | [], [], _, _, _ => rfl
  | [], y :: m, _, _, h => by have := (h y).2 (by simp); simp at this
  | x :: l, [], _, _, h => by have := (h x).1 (by simp); simp at this
  | x :: l, y :: m, hl, hm, h => by
    rw [List.pairwise_cons] at hl hm
    have hxy : x = y := by
      rcases List.mem_cons.1 ((h x).1 (by simp)) with e | e
      · exact e
      · rcases List.mem_cons.1 ((h y).2 (by simp)) with e' | e'
        · exact e'.symm
        · exact absurd (ht _ _ _ (hm.1 x e) (hl.1 y e')) (hi _)
    subst hxy
    rw [asc_unique hi ht hl.2 hm.2 (fun z => ?_)]
    constructor
    · intro hz
      rcases List.mem_cons.1 ((h z).1 (List.mem_cons_of_mem _ hz)) with e | e
      · subst e; exact absurd (hl.1 z hz) (hi _)
      · exact e
    · intro hz
      rcases List.mem_cons.1 ((h z).2 (List.mem_cons_of_mem _ hz)) with e | e
      · subst e; exact absurd (hm.1 z hz) (hi _)
      · exact e
/-- An element is put in its place, unless it is there. -/
def insS {α : Type} [DecidableEq α] (lt : α → α → Bool) (k : α) : List α → List α
  | [] => [k]
  | x :: r => if x = k then x :: r else if lt k x then k :: x :: r else x :: insS lt k r
/-- One step of the loop that does so: what has been appended, whether k has its place. -/
def stS {α : Type} [DecidableEq α] (lt : α → α → Bool) (k : α) (s : List α × Bool) (x : α) : List α × Bool :=
  if s.2 = true ∨ x = k then (s.1 ++ [x], true) else if lt k x then (s.1 ++ [k, x], true) else (s.1 ++ [x], false)
theorem stS_done {α : Type} [DecidableEq α] (lt : α → α → Bool) (k : α) : ∀ (l n : List α), l.foldl (stS lt k) (n, true) = (n ++ l, true)
  | [], n => by simp
  | x :: r, n => by
    rw [List.foldl_cons, show stS lt k (n, true) x = (n ++ [x], true) by unfold stS; simp, stS_done]
    simp
theorem stS_ins {α : Type} [DecidableEq α] (lt : α → α → Bool) (k : α) : ∀ (l n : List α), (if (l.foldl (stS lt k) (n, false)).2 then (l.foldl (stS lt k) (n, false)).1 else (l.foldl (stS lt k) (n, false)).1 ++ [k]) = n ++ insS lt k l
  | [], n => by simp [insS]
  | x :: r, n => by
    rw [List.foldl_cons]
    unfold insS
    by_cases h1 : x = k
    · rw [show stS lt k (n, false) x = (n ++ [x], true) by unfold stS; simp [h1], stS_done, if_pos h1]
      simp
    · by_cases h2 : lt k x = true
      · rw [show stS lt k (n, false) x = (n ++ [k, x], true) by unfold stS; simp [h1, h2], stS_done, if_neg h1, if_pos h2]
        simp
      · rw [show stS lt k (n, false) x = (n ++ [x], false) by unfold stS; simp [h1, h2], stS_ins lt k r, if_neg h1, if_neg h2]
        simp
theorem mem_insS {α : Type} [DecidableEq α] {lt : α → α → Bool} {k : α} : ∀ (l : List α) (x : α), x ∈ insS lt k l ↔ x = k ∨ x ∈ l
  | [], x => by simp [insS]
  | y :: r, x => by
    unfold insS
    split
    · rename_i h; subst h; simp
    · split
      · simp
      · rw [List.mem_cons, mem_insS r x, List.mem_cons]
        constructor
        · rintro (h | h | h)
          · exact Or.inr (Or.inl h)
          · exact Or.inl h
          · exact Or.inr (Or.inr h)
        · rintro (h | h | h)
          · exact Or.inr (Or.inl h)
          · exact Or.inl h
          · exact Or.inr (Or.inr h)
theorem insS_asc {α : Type} [DecidableEq α] {lt : α → α → Bool} {L : α → α → Prop} (hL : ∀ x y, lt x y = true ↔ L x y) (ht : ∀ x y z, L x y → L y z → L x z) (tri : ∀ x y, ¬ L x y → ¬ L y x → x = y) {k : α} : ∀ {l : List α}, l.Pairwise L → (insS lt k l).Pairwise L
  | [], _ => by simp [insS]
  | y :: r, h => by
    unfold insS
    rw [List.pairwise_cons] at h
    split
    · exact List.pairwise_cons.2 h
    · rename_i hne
      split
      · rename_i hlt
        refine List.pairwise_cons.2 ⟨fun z hz => ?_, List.pairwise_cons.2 h⟩
        rcases List.mem_cons.1 hz with e | e
        · rw [e]; exact (hL _ _).1 hlt
        · exact ht _ _ _ ((hL _ _).1 hlt) (h.1 z e)
      · rename_i hnl
        refine List.pairwise_cons.2 ⟨fun z hz => ?_, insS_asc hL ht tri h.2⟩
        rcases (mem_insS r z).1 hz with e | e
        · subst e
          by_cases hy : L y z
          · exact hy
          · exact absurd (tri _ _ hy (fun e => hnl ((hL _ _).2 e))) hne
        · exact h.1 z e
/-- The reference's sorted keys, each once. -/
def sortS {α : Type} [DecidableEq α] (lt : α → α → Bool) (l : List α) : List α := l.foldl (fun out k => insS lt k out) []
theorem sortS_push {α : Type} [DecidableEq α] (lt : α → α → Bool) (l : List α) (x : α) : sortS lt (l ++ [x]) = insS lt x (sortS lt l) := by unfold sortS; rw [List.foldl_append]; rfl
theorem sortS_take {α : Type} [DecidableEq α] (lt : α → α → Bool) (l : List α) (j : Nat) (h : j < l.length) : sortS lt (l.take (j + 1)) = insS lt l[j] (sortS lt (l.take j)) := by rw [List.take_succ_eq_append_getElem h, sortS_push]
theorem mem_sortS {α : Type} [DecidableEq α] (lt : α → α → Bool) (l : List α) (x : α) : x ∈ sortS lt l ↔ x ∈ l := by
  have h : ∀ (l out : List α), x ∈ l.foldl (fun out k => insS lt k out) out ↔ x ∈ out ∨ x ∈ l := by
    intro l
    induction l with
    | nil => intro out; simp
    | cons k r ih =>
      intro out
      rw [List.foldl_cons, ih, mem_insS, List.mem_cons]
      constructor
      · rintro ((h | h) | h)
        · exact Or.inr (Or.inl h)
        · exact Or.inl h
        · exact Or.inr (Or.inr h)
      · rintro (h | h | h)
        · exact Or.inl (Or.inr h)
        · exact Or.inl (Or.inl h)
        · exact Or.inr h
  unfold sortS
  rw [h]; simp
theorem sortS_asc {α : Type} [DecidableEq α] {lt : α → α → Bool} {L : α → α → Prop} (hL : ∀ x y, lt x y = true ↔ L x y) (ht : ∀ x y z, L x y → L y z → L x z) (tri : ∀ x y, ¬ L x y → ¬ L y x → x = y) (l : List α) : (sortS lt l).Pairwise L := by
  have h : ∀ (l out : List α), out.Pairwise L → (l.foldl (fun out k => insS lt k out) out).Pairwise L := by
    intro l
    induction l with
    | nil => intro out h; exact h
    | cons k r ih => intro out h; rw [List.foldl_cons]; exact ih _ (insS_asc hL ht tri h)
  exact h l [] List.Pairwise.nil
theorem asc_nodup {α : Type} {L : α → α → Prop} (hi : ∀ x, ¬ L x x) {l : List α} (h : l.Pairwise L) : l.Nodup := List.Pairwise.imp (S := fun a b => a ≠ b) (fun {a b} hab => by intro e; subst e; exact hi _ hab) h
theorem len_of_mem {α : Type} [DecidableEq α] : ∀ {l m : List α}, l.Nodup → m.Nodup → (∀ x, x ∈ l ↔ x ∈ m) → l.length = m.length
  | _l, _m, hl, hm, h => (List.perm_ext_iff_of_nodup hl hm |>.2 h).length_eq
theorem sortS_len {α : Type} [DecidableEq α] {lt : α → α → Bool} {L : α → α → Prop} (hL : ∀ x y, lt x y = true ↔ L x y) (hi : ∀ x, ¬ L x x) (ht : ∀ x y z, L x y → L y z → L x z) (tri : ∀ x y, ¬ L x y → ¬ L y x → x = y) (l : List α) : (sortS lt l).length = (nd l).length :=
  len_of_mem (asc_nodup hi (sortS_asc hL ht tri l)) (nodup_nd l) (fun x => by rw [mem_sortS, mem_nd])
end Go.Proofs.Ytemeppfikpafbaa
