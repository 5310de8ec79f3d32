/- Plain laws of ranks: the least size of a cause that has some keys; shares in their order. -/
import Derived.Test.YtemeppfikpafbaaRankP
namespace Go.Proofs.Ytemeppfikpafbaa
open Go.RowKit Go.Sort Go.Shelf
/-- The loop over the causes: the least size above 0 of a cause that has the keys. -/
def jstep (ks : List K4) (b : Nat) (c : Cau) : Nat := if (∀ k ∈ ks, k ∈ c.undo) ∧ 0 < c.size ∧ (b = 0 ∨ c.size < b) then c.size else b
def jointN (l : List Cau) (ks : List K4) : Nat := l.foldl (jstep ks) 0
theorem jointN_push (l : List Cau) (c : Cau) (ks : List K4) : jointN (l ++ [c]) ks = jstep ks (jointN l ks) c := by unfold jointN; rw [List.foldl_append]; rfl
theorem jointN_take (l : List Cau) (ks : List K4) (j : Nat) (h : j < l.length) : jointN (l.take (j + 1)) ks = jstep ks (jointN (l.take j) ks) l[j] := by rw [List.take_succ_eq_append_getElem h, jointN_push]
/-- What jointN is. -/
def IsJoint (l : List Cau) (ks : List K4) (n : Nat) : Prop :=
  (∀ c ∈ l, (∀ k ∈ ks, k ∈ c.undo) → 0 < c.size → 0 < n ∧ n ≤ c.size) ∧ (0 < n → ∃ c ∈ l, (∀ k ∈ ks, k ∈ c.undo) ∧ c.size = n)
theorem IsJoint.push {l : List Cau} {ks : List K4} {n : Nat} (h : IsJoint l ks n) (c : Cau) : IsJoint (l ++ [c]) ks (jstep ks n c) := by
  obtain ⟨h1, h2⟩ := h
  unfold jstep
  split
  · rename_i hc
    obtain ⟨ha, hp, hb⟩ := hc
    refine ⟨fun d hd hk hz => ?_, fun _ => ⟨c, by simp, ha, rfl⟩⟩
    rcases List.mem_append.1 hd with hd | hd
    · obtain ⟨h3, h4⟩ := h1 d hd hk hz
      exact ⟨hp, by omega⟩
    · obtain rfl := List.mem_singleton.1 hd
      exact ⟨hp, Nat.le_refl _⟩
  · rename_i hc
    refine ⟨fun d hd hk hz => ?_, fun hn => ?_⟩
    · rcases List.mem_append.1 hd with hd | hd
      · exact h1 d hd hk hz
      · obtain rfl := List.mem_singleton.1 hd
        have : ¬ (n = 0 ∨ d.size < n) := fun e => hc ⟨hk, hz, e⟩
        omega
    · obtain ⟨d, hd, r⟩ := h2 hn
      exact ⟨d, by simp [hd], r⟩
theorem isJoint_foldl (ks : List K4) : ∀ (r l : List Cau) (n : Nat), IsJoint l ks n → IsJoint (l ++ r) ks (r.foldl (jstep ks) n)
  | [], l, n, h => by simpa using h
  | c :: r, l, n, h => by
    have := isJoint_foldl ks r (l ++ [c]) _ (h.push c)
    simpa using this
theorem isJoint (l : List Cau) (ks : List K4) : IsJoint l ks (jointN l ks) := by
  have := isJoint_foldl ks l [] 0 ⟨by simp, by simp⟩
  unfold jointN
  simpa using this
theorem IsJoint.unique {l : List Cau} {ks : List K4} {m n : Nat} (h : IsJoint l ks m) (k : IsJoint l ks n) : m = n := by
  obtain ⟨h1, h2⟩ := h
  obtain ⟨k1, k2⟩ := k
  rcases Nat.eq_zero_or_pos m with hm | hm
  · rcases Nat.eq_zero_or_pos n with hn | hn
    · omega
    · obtain ⟨c, hc, ha, hs⟩ := k2 hn
      have := h1 c hc ha (by omega); omega
  · obtain ⟨c, hc, ha, hs⟩ := h2 hm
    have h3 := k1 c hc ha (by omega)
    obtain ⟨d, hd, hb, ht⟩ := k2 h3.1
    have h4 := h1 d hd hb (by omega)
    omega
theorem jointN_le {l : List Cau} (hok : ∀ c ∈ l, c.Ok) (ks : List K4) : jointN l ks ≤ 800 := by
  rcases Nat.eq_zero_or_pos (jointN l ks) with h | h
  · omega
  · obtain ⟨c, hc, _, hs⟩ := (isJoint l ks).2 h
    have := Cau.size_le (hok c hc)
    omega
theorem nd_pos {α : Type} [DecidableEq α] {l : List α} {x : α} (h : x ∈ l) : 0 < (nd l).length := List.length_pos_of_mem ((mem_nd l x).2 h)
theorem size_pos {c : Cau} {k : K4} (h : k ∈ c.undo) : 0 < c.size := by have := nd_pos h; unfold Cau.size; omega
theorem jointN_pos {l : List Cau} {k : K4} : 0 < jointN l [k] ↔ ∃ c ∈ l, k ∈ c.undo := by
  constructor
  · intro h
    obtain ⟨c, hc, ha, _⟩ := (isJoint l [k]).2 h
    exact ⟨c, hc, ha k (by simp)⟩
  · rintro ⟨c, hc, hk⟩
    exact ((isJoint l [k]).1 c hc (by simpa using hk) (size_pos hk)).1
/-- The order of shares: less of the denominator first (0 at the end), then by the key. -/
def ltN (m n : Nat) : Prop := 0 < m ∧ (n = 0 ∨ m < n)
def ltT (x y : K4 × Nat) : Prop := ltN x.2 y.2 ∨ (x.2 = y.2 ∧ ltK x.1 y.1)
instance (m n : Nat) : Decidable (ltN m n) := by unfold ltN; infer_instance
instance (x y : K4 × Nat) : Decidable (ltT x y) := by unfold ltT; infer_instance
theorem ltT_irrefl (x : K4 × Nat) : ¬ ltT x x := by
  rintro (h | ⟨_, h⟩)
  · unfold ltN at h; omega
  · exact ltK_irrefl _ h
theorem ltT_trans (x y z : K4 × Nat) (h : ltT x y) (k : ltT y z) : ltT x z := by
  rcases h with h | ⟨h, h'⟩ <;> rcases k with k | ⟨k, k'⟩
  · left; unfold ltN at *; omega
  · left; unfold ltN at *; omega
  · left; unfold ltN at *; omega
  · right; exact ⟨by omega, ltK_trans h' k'⟩
theorem ltT_tri (x y : K4 × Nat) (h : ¬ ltT x y) (k : ¬ ltT y x) : x = y := by
  obtain ⟨a, m⟩ := x
  obtain ⟨b, n⟩ := y
  unfold ltT at h k
  simp only at h k
  have hmn : m = n := by
    have h1 : ¬ ltN m n := fun e => h (Or.inl e)
    have h2 : ¬ ltN n m := fun e => k (Or.inl e)
    unfold ltN at h1 h2; omega
  subst hmn
  rw [ltK_tri (x := a) (y := b) (fun e => h (Or.inr ⟨rfl, e⟩)) (fun e => k (Or.inr ⟨rfl, e⟩))]
/-- A share: a key, a denominator. -/
abbrev Shr := K4 × Fin 1001
instance : Inhabited Shr := ⟨(default, 0)⟩
def shN (x : Shr) : K4 × Nat := (x.1, x.2.val)
theorem shN_inj {x y : Shr} (h : shN x = shN y) : x = y := by
  obtain ⟨a, m⟩ := x
  obtain ⟨b, n⟩ := y
  simp only [shN, Prod.mk.injEq] at h
  obtain ⟨rfl, h⟩ := h
  rw [Fin.eq_of_val_eq h]
def cfS (x y : Shr) : Int := orI [cmpR (degR y.2.val) (degR x.2.val), sgnK x.1 y.1]
theorem cfS_by : CmpBy cfS (fun x y => ltT (shN x) (shN y)) where
  neg x y := by
    unfold cfS ltT
    rw [orI_neg, orI_neg, orI_nil, cmpR_neg, cmpR_zero, sgnK_neg]
    simp only [shN, ltN]
    constructor
    · rintro (h | ⟨h, h' | h'⟩)
      · exact Or.inl h
      · exact Or.inr ⟨h.symm, h'⟩
      · exact absurd h'.2 (by omega)
    · rintro (h | ⟨h, h'⟩)
      · exact Or.inl h
      · exact Or.inr ⟨h.symm, Or.inl h'⟩
  irrefl x := ltT_irrefl _
  trans x y z := ltT_trans _ _ _
  tri x y h k := shN_inj (ltT_tri _ _ h k)
/-- The shares of some causes. -/
def IsShares (l : List Cau) (s : List (K4 × Nat)) : Prop := s.Pairwise ltT ∧ ∀ x, x ∈ s ↔ (0 < jointN l [x.1] ∧ x.2 = jointN l [x.1])
theorem IsShares.unique {l : List Cau} {s t : List (K4 × Nat)} (h : IsShares l s) (k : IsShares l t) : s = t :=
  asc_unique ltT_irrefl ltT_trans h.1 k.1 (fun x => (h.2 x).trans (k.2 x).symm)
/-- A share is put in its place. -/
def insT (x : K4 × Nat) : List (K4 × Nat) → List (K4 × Nat)
  | [] => [x]
  | y :: r => if ltT x y then x :: y :: r else y :: insT x r
def stT (x : K4 × Nat) (s : List (K4 × Nat) × Bool) (y : K4 × Nat) : List (K4 × Nat) × Bool :=
  if s.2 = false ∧ ltT x y then (s.1 ++ [x, y], true) else (s.1 ++ [y], s.2)
theorem stT_done (x : K4 × Nat) : ∀ (l n : List (K4 × Nat)), l.foldl (stT x) (n, true) = (n ++ l, true)
  | [], n => by simp
  | y :: r, n => by
    rw [List.foldl_cons, show stT x (n, true) y = (n ++ [y], true) by unfold stT; simp, stT_done]
    simp
theorem stT_ins (x : K4 × Nat) : ∀ (l n : List (K4 × Nat)), (if (l.foldl (stT x) (n, false)).2 then (l.foldl (stT x) (n, false)).1 else (l.foldl (stT x) (n, false)).1 ++ [x]) = n ++ insT x l
  | [], n => by simp [insT]
  | y :: r, n => by
    rw [List.foldl_cons]
    unfold insT
    by_cases h2 : ltT x y
    · rw [show stT x (n, false) y = (n ++ [x, y], true) by unfold stT; simp [h2], stT_done, if_pos h2]
      simp
    · rw [show stT x (n, false) y = (n ++ [y], false) by unfold stT; simp [h2], stT_ins x r, if_neg h2]
      simp
theorem mem_insT {x : K4 × Nat} : ∀ (l : List (K4 × Nat)) (y : K4 × Nat), y ∈ insT x l ↔ y = x ∨ y ∈ l
  | [], y => by simp [insT]
  | z :: r, y => by
    unfold insT
    split
    · simp
    · rw [List.mem_cons, mem_insT r y, List.mem_cons]
      constructor
      · rintro (h | h | h)
        · exact Or.inr (Or.inl h)
        · exact Or.inl h
        · exact Or.inr (Or.inr h)
      · rintro (h | h | h)
        · exact Or.inr (Or.inl h)
        · exact Or.inl h
        · exact Or.inr (Or.inr h)
theorem insT_asc {x : K4 × Nat} : ∀ {l : List (K4 × Nat)}, x ∉ l → l.Pairwise ltT → (insT x l).Pairwise ltT
  | [], _, _ => by simp [insT]
  | y :: r, hx, h => by
    unfold insT
    rw [List.pairwise_cons] at h
    split
    · rename_i hlt
      refine List.pairwise_cons.2 ⟨fun z hz => ?_, List.pairwise_cons.2 h⟩
      rcases List.mem_cons.1 hz with e | e
      · rw [e]; exact hlt
      · exact ltT_trans _ _ _ hlt (h.1 z e)
    · rename_i hnl
      refine List.pairwise_cons.2 ⟨fun z hz => ?_, insT_asc (fun e => hx (List.mem_cons_of_mem _ e)) h.2⟩
      rcases (mem_insT r z).1 hz with e | e
      · subst e
        by_cases hy : ltT y z
        · exact hy
        · exact absurd (ltT_tri _ _ hnl hy) (fun e => hx (by rw [e]; simp))
      · exact h.1 z e
/-- The reference's shares of the keys ks. -/
def shF (l : List Cau) (ks : List K4) : List (K4 × Nat) := ks.foldl (fun out k => insT (k, jointN l [k]) out) []
theorem shF_push (l : List Cau) (ks : List K4) (k : K4) : shF l (ks ++ [k]) = insT (k, jointN l [k]) (shF l ks) := by unfold shF; rw [List.foldl_append]; rfl
theorem shF_take (l : List Cau) (ks : List K4) (j : Nat) (h : j < ks.length) : shF l (ks.take (j + 1)) = insT (ks[j], jointN l [ks[j]]) (shF l (ks.take j)) := by rw [List.take_succ_eq_append_getElem h, shF_push]
theorem mem_shF (l : List Cau) (x : K4 × Nat) : ∀ (ks : List K4) (out : List (K4 × Nat)), x ∈ ks.foldl (fun out k => insT (k, jointN l [k]) out) out ↔ x ∈ out ∨ (x.1 ∈ ks ∧ x.2 = jointN l [x.1])
  | [], out => by simp
  | k :: r, out => by
    rw [List.foldl_cons, mem_shF l x r, mem_insT, List.mem_cons]
    constructor
    · rintro ((h | h) | h)
      · rw [h]; simp
      · exact Or.inl h
      · exact Or.inr ⟨Or.inr h.1, h.2⟩
    · rintro (h | ⟨h | h, h'⟩)
      · exact Or.inl (Or.inr h)
      · left; left; rw [← h, ← h']
      · exact Or.inr ⟨h, h'⟩
theorem shF_asc (l : List Cau) : ∀ (ks : List K4) (out : List (K4 × Nat)), ks.Nodup → (∀ x ∈ out, x.1 ∉ ks) → out.Pairwise ltT → (ks.foldl (fun out k => insT (k, jointN l [k]) out) out).Pairwise ltT
  | [], _, _, _, h => h
  | k :: r, out, hn, hx, h => by
    rw [List.nodup_cons] at hn
    rw [List.foldl_cons]
    refine shF_asc l r _ hn.2 (fun x hx' => ?_) (insT_asc (fun e => hx _ e (by simp)) h)
    rcases (mem_insT out x).1 hx' with e | e
    · rw [e]; exact hn.1
    · exact fun e' => hx x e (List.mem_cons_of_mem _ e')
def ltKb (x y : K4) : Bool := decide (ltK x y)
theorem ltKb_iff (x y : K4) : ltKb x y = true ↔ ltK x y := by unfold ltKb; exact decide_eq_true_iff
def keysL (l : List Cau) : List K4 := l.flatMap Cau.undo
def refDeg (l : List Cau) : List (K4 × Nat) := shF l (sortS ltKb (keysL l))
theorem mem_keysL (l : List Cau) (k : K4) : k ∈ keysL l ↔ 0 < jointN l [k] := by rw [jointN_pos]; unfold keysL; simp
theorem refDeg_is (l : List Cau) : IsShares l (refDeg l) := by
  have ha := sortS_asc ltKb_iff (fun _ _ _ => ltK_trans) (fun _ _ => ltK_tri) (keysL l)
  refine ⟨shF_asc l _ [] (asc_nodup ltK_irrefl ha) (by simp) List.Pairwise.nil, fun x => ?_⟩
  unfold refDeg shF
  rw [mem_shF, mem_sortS, mem_keysL]
  simp
end Go.Proofs.Ytemeppfikpafbaa
