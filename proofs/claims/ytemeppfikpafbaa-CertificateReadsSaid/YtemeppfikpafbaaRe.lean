/- Texts RankQ, SortF, Shr, DegM, laid together. -/
import Derived.Shelf.SlSortCmp.NoneTotal
import Derived.Maps.RangeWalk
import Derived.Test.YtemeppfikpafbaaRa
import Derived.Test.YtemeppfikpafbaaRc
import Derived.Test.YtemeppfikpafbaaRd
/- Plain laws of ranks: the least size of a cause that has some keys; shares in their order. -/
namespace Go.Proofs.Ytemeppfikpafbaa
open Go.RowKit Go.Sort Go.Shelf
/-- The loop over the causes: the least size above 0 of a cause that has the keys. -/
def jstep (ks : List K4) (b : Nat) (c : Cau) : Nat := if (∀ k ∈ ks, k ∈ c.undo) ∧ 0 < c.size ∧ (b = 0 ∨ c.size < b) then c.size else b
def jointN (l : List Cau) (ks : List K4) : Nat := l.foldl (jstep ks) 0
theorem jointN_push (l : List Cau) (c : Cau) (ks : List K4) : jointN (l ++ [c]) ks = jstep ks (jointN l ks) c := by unfold jointN; rw [List.foldl_append]; rfl
theorem jointN_take (l : List Cau) (ks : List K4) (j : Nat) (h : j < l.length) : jointN (l.take (j + 1)) ks = jstep ks (jointN (l.take j) ks) l[j] := by rw [List.take_succ_eq_append_getElem h, jointN_push]
/-- What jointN is. -/
def IsJoint (l : List Cau) (ks : List K4) (n : Nat) : Prop :=
  (∀ c ∈ l, (∀ k ∈ ks, k ∈ c.undo) → 0 < c.size → 0 < n ∧ n ≤ c.size) ∧ (0 < n → ∃ c ∈ l, (∀ k ∈ ks, k ∈ c.undo) ∧ c.size = n)
theorem IsJoint.push {l : List Cau} {ks : List K4} {n : Nat} (h : IsJoint l ks n) (c : Cau) : IsJoint (l ++ [c]) ks (jstep ks n c) := by
  obtain ⟨h1, h2⟩ := h
  unfold jstep
  split
  · rename_i hc
    obtain ⟨ha, hp, hb⟩ := hc
    refine ⟨fun d hd hk hz => ?_, fun _ => ⟨c, by simp, ha, rfl⟩⟩
    rcases List.mem_append.1 hd with hd | hd
    · obtain ⟨h3, h4⟩ := h1 d hd hk hz
      exact ⟨hp, by omega⟩
    · obtain rfl := List.mem_singleton.1 hd
      exact ⟨hp, Nat.le_refl _⟩
  · rename_i hc
    refine ⟨fun d hd hk hz => ?_, fun hn => ?_⟩
    · rcases List.mem_append.1 hd with hd | hd
      · exact h1 d hd hk hz
      · obtain rfl := List.mem_singleton.1 hd
        have : ¬ (n = 0 ∨ d.size < n) := fun e => hc ⟨hk, hz, e⟩
        omega
    · obtain ⟨d, hd, r⟩ := h2 hn
      exact ⟨d, by simp [hd], r⟩
theorem isJoint_foldl (ks : List K4) : ∀ (r l : List Cau) (n : Nat), IsJoint l ks n → IsJoint (l ++ r) ks (r.foldl (jstep ks) n)
  | [], l, n, h => by simpa using h
  | c :: r, l, n, h => by
    have := isJoint_foldl ks r (l ++ [c]) _ (h.push c)
    simpa using this
theorem isJoint (l : List Cau) (ks : List K4) : IsJoint l ks (jointN l ks) := by
  have := isJoint_foldl ks l [] 0 ⟨by simp, by simp⟩
  unfold jointN
  simpa using this
theorem IsJoint.unique {l : List Cau} {ks : List K4} {m n : Nat} (h : IsJoint l ks m) (k : IsJoint l ks n) : m = n := by
  obtain ⟨h1, h2⟩ := h
  obtain ⟨k1, k2⟩ := k
  rcases Nat.eq_zero_or_pos m with hm | hm
  · rcases Nat.eq_zero_or_pos n with hn | hn
    · omega
    · obtain ⟨c, hc, ha, hs⟩ := k2 hn
      have := h1 c hc ha (by omega); omega
  · obtain ⟨c, hc, ha, hs⟩ := h2 hm
    have h3 := k1 c hc ha (by omega)
    obtain ⟨d, hd, hb, ht⟩ := k2 h3.1
    have h4 := h1 d hd hb (by omega)
    omega
theorem jointN_le {l : List Cau} (hok : ∀ c ∈ l, c.Ok) (ks : List K4) : jointN l ks ≤ 800 := by
  rcases Nat.eq_zero_or_pos (jointN l ks) with h | h
  · omega
  · obtain ⟨c, hc, _, hs⟩ := (isJoint l ks).2 h
    have := Cau.size_le (hok c hc)
    omega
theorem nd_pos {α : Type} [DecidableEq α] {l : List α} {x : α} (h : x ∈ l) : 0 < (nd l).length := List.length_pos_of_mem ((mem_nd l x).2 h)
theorem size_pos {c : Cau} {k : K4} (h : k ∈ c.undo) : 0 < c.size := by have := nd_pos h; unfold Cau.size; omega
theorem jointN_pos {l : List Cau} {k : K4} : 0 < jointN l [k] ↔ ∃ c ∈ l, k ∈ c.undo := by
  constructor
  · intro h
    obtain ⟨c, hc, ha, _⟩ := (isJoint l [k]).2 h
    exact ⟨c, hc, ha k (by simp)⟩
  · rintro ⟨c, hc, hk⟩
    exact ((isJoint l [k]).1 c hc (by simpa using hk) (size_pos hk)).1
/-- The order of shares: less of the denominator first (0 at the end), then by the key. -/
def ltN (m n : Nat) : Prop := 0 < m ∧ (n = 0 ∨ m < n)
def ltT (x y : K4 × Nat) : Prop := ltN x.2 y.2 ∨ (x.2 = y.2 ∧ ltK x.1 y.1)
instance (m n : Nat) : Decidable (ltN m n) := by unfold ltN; infer_instance
instance (x y : K4 × Nat) : Decidable (ltT x y) := by unfold ltT; infer_instance
theorem ltT_irrefl (x : K4 × Nat) : ¬ ltT x x := by
  rintro (h | ⟨_, h⟩)
  · unfold ltN at h; omega
  · exact ltK_irrefl _ h
theorem ltT_trans (x y z : K4 × Nat) (h : ltT x y) (k : ltT y z) : ltT x z := by
  rcases h with h | ⟨h, h'⟩ <;> rcases k with k | ⟨k, k'⟩
  · left; unfold ltN at *; omega
  · left; unfold ltN at *; omega
  · left; unfold ltN at *; omega
  · right; exact ⟨by omega, ltK_trans h' k'⟩
theorem ltT_tri (x y : K4 × Nat) (h : ¬ ltT x y) (k : ¬ ltT y x) : x = y := by
  obtain ⟨a, m⟩ := x
  obtain ⟨b, n⟩ := y
  unfold ltT at h k
  simp only at h k
  have hmn : m = n := by
    have h1 : ¬ ltN m n := fun e => h (Or.inl e)
    have h2 : ¬ ltN n m := fun e => k (Or.inl e)
    unfold ltN at h1 h2; omega
  subst hmn
  rw [ltK_tri (x := a) (y := b) (fun e => h (Or.inr ⟨rfl, e⟩)) (fun e => k (Or.inr ⟨rfl, e⟩))]
/-- A share: a key, a denominator. -/
abbrev Shr := K4 × Fin 1001
instance : Inhabited Shr := ⟨(default, 0)⟩
def shN (x : Shr) : K4 × Nat := (x.1, x.2.val)
theorem shN_inj {x y : Shr} (h : shN x = shN y) : x = y := by
  obtain ⟨a, m⟩ := x
  obtain ⟨b, n⟩ := y
  simp only [shN, Prod.mk.injEq] at h
  obtain ⟨rfl, h⟩ := h
  rw [Fin.eq_of_val_eq h]
def cfS (x y : Shr) : Int := orI [cmpR (degR y.2.val) (degR x.2.val), sgnK x.1 y.1]
theorem cfS_by : CmpBy cfS (fun x y => ltT (shN x) (shN y)) where
  neg x y := by
    unfold cfS ltT
    rw [orI_neg, orI_neg, orI_nil, cmpR_neg, cmpR_zero, sgnK_neg]
    simp only [shN, ltN]
    constructor
    · rintro (h | ⟨h, h' | h'⟩)
      · exact Or.inl h
      · exact Or.inr ⟨h.symm, h'⟩
      · exact absurd h'.2 (by omega)
    · rintro (h | ⟨h, h'⟩)
      · exact Or.inl h
      · exact Or.inr ⟨h.symm, Or.inl h'⟩
  irrefl x := ltT_irrefl _
  trans x y z := ltT_trans _ _ _
  tri x y h k := shN_inj (ltT_tri _ _ h k)
/-- The shares of some causes. -/
def IsShares (l : List Cau) (s : List (K4 × Nat)) : Prop := s.Pairwise ltT ∧ ∀ x, x ∈ s ↔ (0 < jointN l [x.1] ∧ x.2 = jointN l [x.1])
theorem IsShares.unique {l : List Cau} {s t : List (K4 × Nat)} (h : IsShares l s) (k : IsShares l t) : s = t :=
  asc_unique ltT_irrefl ltT_trans h.1 k.1 (fun x => (h.2 x).trans (k.2 x).symm)
/-- A share is put in its place. -/
def insT (x : K4 × Nat) : List (K4 × Nat) → List (K4 × Nat)
  | [] => [x]
  | y :: r => if ltT x y then x :: y :: r else y :: insT x r
def stT (x : K4 × Nat) (s : List (K4 × Nat) × Bool) (y : K4 × Nat) : List (K4 × Nat) × Bool :=
  if s.2 = false ∧ ltT x y then (s.1 ++ [x, y], true) else (s.1 ++ [y], s.2)
theorem stT_done (x : K4 × Nat) : ∀ (l n : List (K4 × Nat)), l.foldl (stT x) (n, true) = (n ++ l, true)
  | [], n => by simp
  | y :: r, n => by
    rw [List.foldl_cons, show stT x (n, true) y = (n ++ [y], true) by unfold stT; simp, stT_done]
    simp
theorem stT_ins (x : K4 × Nat) : ∀ (l n : List (K4 × Nat)), (if (l.foldl (stT x) (n, false)).2 then (l.foldl (stT x) (n, false)).1 else (l.foldl (stT x) (n, false)).1 ++ [x]) = n ++ insT x l
  | [], n => by simp [insT]
  | y :: r, n => by
    rw [List.foldl_cons]
    unfold insT
    by_cases h2 : ltT x y
    · rw [show stT x (n, false) y = (n ++ [x, y], true) by unfold stT; simp [h2], stT_done, if_pos h2]
      simp
    · rw [show stT x (n, false) y = (n ++ [y], false) by unfold stT; simp [h2], stT_ins x r, if_neg h2]
      simp
theorem mem_insT {x : K4 × Nat} : ∀ (l : List (K4 × Nat)) (y : K4 × Nat), y ∈ insT x l ↔ y = x ∨ y ∈ l
  | [], y => by simp [insT]
  | z :: r, y => by
    unfold insT
    split
    · simp
    · rw [List.mem_cons, mem_insT r y, List.mem_cons]
      constructor
      · rintro (h | h | h)
        · exact Or.inr (Or.inl h)
        · exact Or.inl h
        · exact Or.inr (Or.inr h)
      · rintro (h | h | h)
        · exact Or.inr (Or.inl h)
        · exact Or.inl h
        · exact Or.inr (Or.inr h)
theorem insT_asc {x : K4 × Nat} : ∀ {l : List (K4 × Nat)}, x ∉ l → l.Pairwise ltT → (insT x l).Pairwise ltT
  | [], _, _ => by simp [insT]
  | y :: r, hx, h => by
    unfold insT
    rw [List.pairwise_cons] at h
    split
    · rename_i hlt
      refine List.pairwise_cons.2 ⟨fun z hz => ?_, List.pairwise_cons.2 h⟩
      rcases List.mem_cons.1 hz with e | e
      · rw [e]; exact hlt
      · exact ltT_trans _ _ _ hlt (h.1 z e)
    · rename_i hnl
      refine List.pairwise_cons.2 ⟨fun z hz => ?_, insT_asc (fun e => hx (List.mem_cons_of_mem _ e)) h.2⟩
      rcases (mem_insT r z).1 hz with e | e
      · subst e
        by_cases hy : ltT y z
        · exact hy
        · exact absurd (ltT_tri _ _ hnl hy) (fun e => hx (by rw [e]; simp))
      · exact h.1 z e
/-- The reference's shares of the keys ks. -/
def shF (l : List Cau) (ks : List K4) : List (K4 × Nat) := ks.foldl (fun out k => insT (k, jointN l [k]) out) []
theorem shF_push (l : List Cau) (ks : List K4) (k : K4) : shF l (ks ++ [k]) = insT (k, jointN l [k]) (shF l ks) := by unfold shF; rw [List.foldl_append]; rfl
theorem shF_take (l : List Cau) (ks : List K4) (j : Nat) (h : j < ks.length) : shF l (ks.take (j + 1)) = insT (ks[j], jointN l [ks[j]]) (shF l (ks.take j)) := by rw [List.take_succ_eq_append_getElem h, shF_push]
theorem mem_shF (l : List Cau) (x : K4 × Nat) : ∀ (ks : List K4) (out : List (K4 × Nat)), x ∈ ks.foldl (fun out k => insT (k, jointN l [k]) out) out ↔ x ∈ out ∨ (x.1 ∈ ks ∧ x.2 = jointN l [x.1])
  | [], out => by simp
  | k :: r, out => by
    rw [List.foldl_cons, mem_shF l x r, mem_insT, List.mem_cons]
    constructor
    · rintro ((h | h) | h)
      · rw [h]; simp
      · exact Or.inl h
      · exact Or.inr ⟨Or.inr h.1, h.2⟩
    · rintro (h | ⟨h | h, h'⟩)
      · exact Or.inl (Or.inr h)
      · left; left; rw [← h, ← h']
      · exact Or.inr ⟨h, h'⟩
theorem shF_asc (l : List Cau) : ∀ (ks : List K4) (out : List (K4 × Nat)), ks.Nodup → (∀ x ∈ out, x.1 ∉ ks) → out.Pairwise ltT → (ks.foldl (fun out k => insT (k, jointN l [k]) out) out).Pairwise ltT
  | [], _, _, _, h => h
  | k :: r, out, hn, hx, h => by
    rw [List.nodup_cons] at hn
    rw [List.foldl_cons]
    refine shF_asc l r _ hn.2 (fun x hx' => ?_) (insT_asc (fun e => hx _ e (by simp)) h)
    rcases (mem_insT out x).1 hx' with e | e
    · rw [e]; exact hn.1
    · exact fun e' => hx x e (List.mem_cons_of_mem _ e')
def ltKb (x y : K4) : Bool := decide (ltK x y)
theorem ltKb_iff (x y : K4) : ltKb x y = true ↔ ltK x y := by unfold ltKb; exact decide_eq_true_iff
def keysL (l : List Cau) : List K4 := l.flatMap Cau.undo
def refDeg (l : List Cau) : List (K4 × Nat) := shF l (sortS ltKb (keysL l))
theorem mem_keysL (l : List Cau) (k : K4) : k ∈ keysL l ↔ 0 < jointN l [k] := by rw [jointN_pos]; unfold keysL; simp
theorem refDeg_is (l : List Cau) : IsShares l (refDeg l) := by
  have ha := sortS_asc ltKb_iff (fun _ _ _ => ltK_trans) (fun _ _ => ltK_tri) (keysL l)
  refine ⟨shF_asc l _ [] (asc_nodup ltK_irrefl ha) (by simp) List.Pairwise.nil, fun x => ?_⟩
  unfold refDeg shF
  rw [mem_shF, mem_sortS, mem_keysL]
  simp
end Go.Proofs.Ytemeppfikpafbaa

/- slices.SortFunc at a row of the call's own, of structs of k cells: the shelf's contract in this seat's words. -/
namespace Go.Proofs.Ytemeppfikpafbaa
open Go.RowKit Go.Sort Go.Shelf Go.Lib
theorem Lay.grow {w w' : World} (h : Lay w w') : ∃ q os, w' = grow (w.drewN q) os := by
  obtain ⟨⟨h1, h2, h3, h4, h5⟩, hd⟩ := h
  refine ⟨w'.drawn - w.drawn, w'.heap.extract w.heap.size w'.heap.size, ?_⟩
  obtain ⟨heap, tape, drawn, os, output⟩ := w
  obtain ⟨heap', tape', drawn', os', output'⟩ := w'
  simp only at h1 h2 h3 h4 h5 hd
  subst h1 h2 h3
  unfold Sort.grow World.drewN
  simp only [World.mk.injEq, true_and, and_true]
  refine ⟨?_, by omega⟩
  apply Array.ext_getElem?
  intro i
  by_cases hi : i < heap.size
  · rw [Array.getElem?_append_left hi]; exact h5 i hi (by simp)
  · rw [Array.getElem?_append_right (by omega), Array.getElem?_extract]
    by_cases hi' : i < heap'.size
    · rw [if_pos (by omega), show heap.size + (i - heap.size) = i by omega]
    · rw [if_neg (by omega), Array.getElem?_eq_none (by omega)]
section
variable {α : Type} [Inhabited α] {enc : α → List Value} {k : Nat}
theorem flatK_list (hk : ∀ x, (enc x).length = k) (hk0 : 0 < k) (l : List α) : (flatK enc k l.toArray).toList = flatC enc l := by
  apply List.ext_getElem?
  intro t
  by_cases ht : t < l.length * k
  · have hq : t / k < l.length := (Nat.div_lt_iff_lt_mul hk0).2 ht
    have hr : t % k < k := Nat.mod_lt _ hk0
    have hu : (enc l[t / k])[t % k]? = some ((enc l[t / k])[t % k]'(by rw [hk]; exact hr)) := List.getElem?_eq_getElem _
    have h1 := flatC_get hk l (t / k) hq (t % k) _ hu
    rw [Nat.div_add_mod'] at h1
    rw [h1, Array.getElem?_toList, Array.getElem?_eq_getElem (by simpa using ht)]
    have h2 := get_flatK enc k l.toArray t (by simpa using ht)
    rw [getElem!_pos _ t (by simpa using ht)] at h2
    rw [h2]
    have e1 : l.toArray[t / k]! = l[t / k] := by rw [getElem!_pos _ _ (by simpa using hq)]; simp
    rw [e1]
    congr 1
    exact getElem!_pos _ _ (by rw [hk]; exact hr)
  · rw [List.getElem?_eq_none (by simp; omega), List.getElem?_eq_none (by rw [flatC_len hk]; omega)]
theorem holdsK_of {w : World} {g : Nat} {cur : Array Value} {e : TypeId} {l : List α} (hk : ∀ x, (enc x).length = k) (hk0 : 0 < k) (hb : w.heap[g]? = some (.cells cur e (0, 0))) (ht : cur.toList.take (l.length * k) = flatC enc l) : HoldsK enc k w g 0 l.toArray := by
  intro j hj
  have hj' : j < l.length * k := by simpa using hj
  refine ⟨?_, by simp [World.frozen?, hb]⟩
  have h1 : (cur.toList.take (l.length * k))[j]? = (flatC enc l)[j]? := by rw [ht]
  rw [List.getElem?_take_of_lt hj', ← flatK_list hk hk0] at h1
  simp only [World.cell?, hb, Nat.zero_add]
  simp only [Option.isSome_none, Bool.false_eq_true, if_false]
  rw [← Array.getElem?_toList, h1, Array.getElem?_toList, Array.getElem?_eq_getElem hj, getElem!_pos _ j hj]
  rfl
theorem heapK_sorted {w : World} {g n : Nat} {os : Array Obj} {cur : Array Value} {e : TypeId} {fr : Nat × Nat} (d : Array Value) (hb : w.heap[g]? = some (.cells cur e fr)) :
    (Sort.grow (putRow id (Sort.ahead w n) g 0 d) os).heap[g]? = some (.cells (putCells id 0 d cur) e fr) := by
  have hg : g < w.heap.size := (Array.getElem?_eq_some_iff.1 hb).1
  rw [heap_grow_old _ _ (by simpa using hg)]
  simp [putRow, mapBlock, Sort.ahead, Array.getElem?_modify, hb, onCells]
theorem grownK_sorted {w : World} {g n : Nat} {os : Array Obj} (d : Array Value) : w.grownBy (Sort.grow (putRow id (Sort.ahead w n) g 0 d) os) (some g) := by
  refine ⟨rfl, rfl, rfl, by simp, fun k hk hne => ?_⟩
  rw [heap_grow_old _ _ (by simpa using hk)]
  have : g ≠ k := fun e => hne (by rw [e])
  simp [putRow, mapBlock, Sort.ahead, Array.getElem?_modify, this]
theorem takeK_put (cur : Array Value) (d : Array Value) (h : d.size ≤ cur.size) : (putCells id 0 d cur).toList.take d.size = d.toList := by
  apply List.ext_getElem?
  intro j
  by_cases hj : j < d.size
  · rw [List.getElem?_take_of_lt hj, Array.getElem?_toList]
    simp [putCells, hj, show j < cur.size by omega]
  · rw [List.getElem?_take_eq_none (by omega), List.getElem?_eq_none (by simp; omega)]
variable {ρ : Ren}
/-- The comparison, in whatever world. -/
def CmpSaid (g : Nat) (enc : α → List Value) (cf : α → α → Int) : Prop := ∀ (x y : α) (W : World), Calls Try.prog g #[.agg (enc x).toArray, .agg (enc y).toArray] W fun e w' => e = .returned (.int .i64 (cf x y)) ∧ Lay W w'
/-- WHAT THE ROW HOLDS BEHIND slices.SortFunc, under a comparison that parts whatever two that are not one. -/
theorem sortF (L : SlLaysF0.n6 Try.prog ρ) (aE : ∀ w, (isAgg (ρ.t 24)).run Try.prog w = .ok true w) (zE : ∀ w, (Go.sizeOf (ρ.t 24)).run Try.prog w = .ok k w) (hk : ∀ x, (enc x).length = k) (hk0 : 0 < k) (h1 : ∀ x, ∀ v ∈ enc x, v.oneCell' = true) (cf : α → α → Int) (hO : SWO (ltOf cf)) (hT : ∀ x y, (ltOf cf) x y = false → (ltOf cf) y x = false → x = y) (g : Nat)
    (eg : ∀ args w, (callFunc g args).run Try.prog w = .ok (.enter g args) w) (hcmp : CmpSaid g enc cf) (l : List α) (v : Value) (B : Nat) (E : TypeId) (w : World) (hl : l.length < 4611686018427387904) (hown : w.ownsRow B E k v l.length (flatC enc l)) :
    Calls Try.prog (ρ.f 6) #[v, .func (.func g) #[] #[]] w fun e w' => e = .returned (.tuple #[]) ∧ w.grownBy w' v.ownBlock ∧ w'.ownsRow B E k v l.length (flatC enc (l.mergeSort fun x y => !(ltOf cf) y x)) := by
  obtain ⟨hlen, h0 | ⟨b, cap, cur, rfl, hB, hb, hnc, hcm, hcs, ht⟩⟩ := hown
  · obtain ⟨rfl, hn⟩ := h0
    obtain rfl : l = [] := List.eq_nil_of_length_eq_zero hn
    refine (AnyF.slices_SortFunc_none (P := Try.prog) (ρ := ρ) L none 0 _ w).mono ?_
    rintro e w' ⟨rfl, rfl⟩
    exact ⟨rfl, World.grownBy.refl _ _, by simp [flatC]; exact World.ownsRow_nil _ _ _ _⟩
  · have ht' : cur.toList.take (l.length * k) = flatC enc l := ht
    have hH := holdsK_of hk hk0 hb ht'
    have hblk : b < w.heap.size := (Array.getElem?_eq_some_iff.1 hb).1
    have hC : CmpLays Try.prog g #[] enc k cf b 0 l.toArray.size w := fun m os dk _ x y => by
      refine (hcmp x y _).mono ?_
      rintro e w' ⟨he, hlay⟩
      exact ⟨he, hlay.grow⟩
    have h := AnyQ.slices_SortFunc_total L k aE zE enc hk h1 cf hO g #[] b 0 cap l.toArray w eg hC hH hblk (by simpa using hl) hT
    rw [List.size_toArray] at h
    refine h.mono ?_
    rintro e w' ⟨rfl, n, os, rfl⟩
    have hms : (l.mergeSort fun x y => !(ltOf cf) y x).length = l.length := List.length_mergeSort _
    refine ⟨rfl, grownK_sorted _, ⟨by rw [flatC_len hk, hms], Or.inr ⟨b, cap, _, rfl, hB, heapK_sorted _ hb, hnc, hcm, by simpa [putCells] using hcs, ?_⟩⟩⟩
    have hfs : (flatK enc k (l.mergeSort fun x y => !(ltOf cf) y x).toArray).size = l.length * k := by simp [hms]
    have := takeK_put cur (flatK enc k (l.mergeSort fun x y => !(ltOf cf) y x).toArray) (by rw [hfs, hcs]; exact Nat.mul_le_mul_right _ hnc)
    rw [hfs, flatK_list hk hk0] at this
    exact this
end
end Go.Proofs.Ytemeppfikpafbaa

/- Shares: the comparison of rank.Degrees (67). -/
namespace Go.Proofs.Ytemeppfikpafbaa
open Go.RowKit Go.Sort Go.Shelf
def sC (x : Shr) : List Value := [.int .u8 x.1.kind, .int .i64 x.1.a, .int .i64 x.1.b, .int .i64 x.1.n, .int .i64 (degR x.2.val).1, .int .i64 (degR x.2.val).2]
theorem sC_len (x : Shr) : (sC x).length = 6 := rfl
theorem sC_one (x : Shr) : ∀ v ∈ sC x, v.oneCell' = true := by intro v hv; simp [sC] at hv; rcases hv with rfl | rfl | rfl | rfl | rfl | rfl <;> rfl
/-- Two boxes of shares. -/
structure SBox (w : World) (b : Nat) (k : K4) (p q : Int) : Prop where
  c0 : w.cell? ⟨b, 0, none⟩ = some (.int .u8 k.kind)
  c1 : w.cell? ⟨b, 1, none⟩ = some (.int .i64 k.a)
  c2 : w.cell? ⟨b, 2, none⟩ = some (.int .i64 k.b)
  c3 : w.cell? ⟨b, 3, none⟩ = some (.int .i64 k.n)
  c4 : w.cell? ⟨b, 4, none⟩ = some (.int .i64 p)
  c5 : w.cell? ⟨b, 5, none⟩ = some (.int .i64 q)
theorem SBox.lay {w w' : World} {b : Nat} {k : K4} {p q : Int} (h : SBox w b k p q) (hl : Lay w w') : SBox w' b k p q := ⟨hl.1.cell h.c0, hl.1.cell h.c1, hl.1.cell h.c2, hl.1.cell h.c3, hl.1.cell h.c4, hl.1.cell h.c5⟩
set_option maxRecDepth 100000 in
set_option maxHeartbeats 2000000 in
theorem cmpShare_any : CmpSaid 67 sC cfS := by
  intro x y w
  have HC := Lib.hid (fun w => cmpR_any (degR y.2.val) (degR x.2.val) w (degR_ok (by have := y.2.isLt; omega)) (degR_ok (by have := x.2.isLt; omega)))
  have HD := Lib.hid (fun w => compareKeys_any x.1 y.1 w)
  have HO := Lib.hid (show orI [cmpR (degR y.2.val) (degR x.2.val), sgnK x.1 y.1] = cfS x y from rfl)
  unfold sC rA kA at *
  generalize cmpR (degR y.2.val) (degR x.2.val) = c1 at *
  generalize sgnK x.1 y.1 = c2 at *
  generalize cfS x y = c at *
  generalize (degR x.2.val).1 = p at *
  generalize (degR x.2.val).2 = q at *
  generalize (degR y.2.val).1 = p' at *
  generalize (degR y.2.val).2 = q' at *
  generalize x.1 = k at *
  generalize y.1 = k' at *
  clear x y
  go_enter Try.func67, Try.ntmps67
  go_wp2_with fail
  obtain ⟨h1, h2, hm⟩ := boxed2 w (.cells #[.int .u8 k.kind, .int .i64 k.a, .int .i64 k.b, .int .i64 k.n, .int .i64 p, .int .i64 q] 50) (.cells #[.int .u8 k'.kind, .int .i64 k'.a, .int .i64 k'.b, .int .i64 k'.n, .int .i64 p', .int .i64 q'] 50)
  generalize (w.alloc (.cells #[.int .u8 k.kind, .int .i64 k.a, .int .i64 k.b, .int .i64 k.n, .int .i64 p, .int .i64 q] 50)).alloc (.cells #[.int .u8 k'.kind, .int .i64 k'.a, .int .i64 k'.b, .int .i64 k'.n, .int .i64 p', .int .i64 q'] 50) = w2 at *
  have HA := Lib.hid (show SBox w2 w.heap.size k p q from ⟨cell_of_blk h1 rfl, cell_of_blk h1 rfl, cell_of_blk h1 rfl, cell_of_blk h1 rfl, cell_of_blk h1 rfl, cell_of_blk h1 rfl⟩)
  have HB := Lib.hid (show SBox w2 (w.heap.size + 1) k' p' q' from ⟨cell_of_blk h2 rfl, cell_of_blk h2 rfl, cell_of_blk h2 rfl, cell_of_blk h2 rfl, cell_of_blk h2 rfl, cell_of_blk h2 rfl⟩)
  have HM := Lib.hid (hm.trans (Lay.drew w2))
  have HL := Lib.hid (Lay.drew w2)
  clear h1 h2 hm
  obtain ⟨a0, a1, a2, a3, a4, a5⟩ := HA.out
  obtain ⟨b0, b1, b2, b3, b4, b5⟩ := HB.out
  have HK := Lib.hid (show ∀ W, Lay w2 W → W.cell? ⟨w.heap.size, 0, none⟩ = some (.int .u8 k.kind) ∧ W.cell? ⟨w.heap.size, 1, none⟩ = some (.int .i64 k.a) ∧ W.cell? ⟨w.heap.size, 2, none⟩ = some (.int .i64 k.b) ∧ W.cell? ⟨w.heap.size, 3, none⟩ = some (.int .i64 k.n) ∧ W.cell? ⟨w.heap.size, 4, none⟩ = some (.int .i64 p) ∧ W.cell? ⟨w.heap.size, 5, none⟩ = some (.int .i64 q)
    ∧ W.cell? ⟨w.heap.size + 1, 0, none⟩ = some (.int .u8 k'.kind) ∧ W.cell? ⟨w.heap.size + 1, 1, none⟩ = some (.int .i64 k'.a) ∧ W.cell? ⟨w.heap.size + 1, 2, none⟩ = some (.int .i64 k'.b) ∧ W.cell? ⟨w.heap.size + 1, 3, none⟩ = some (.int .i64 k'.n) ∧ W.cell? ⟨w.heap.size + 1, 4, none⟩ = some (.int .i64 p') ∧ W.cell? ⟨w.heap.size + 1, 5, none⟩ = some (.int .i64 q') from fun W hl => by
      obtain ⟨a0, a1, a2, a3, a4, a5⟩ := HA.out.lay hl
      obtain ⟨b0, b1, b2, b3, b4, b5⟩ := HB.out.lay hl
      exact ⟨a0, a1, a2, a3, a4, a5, b0, b1, b2, b3, b4, b5⟩)
  clear a0 a1 a2 a3 a4 a5 b0 b1 b2 b3 b4 b5
  go_region_held3 (fun W => W.cell? ⟨w.heap.size, 0, none⟩ = some (.int .u8 k.kind) ∧ W.cell? ⟨w.heap.size, 1, none⟩ = some (.int .i64 k.a) ∧ W.cell? ⟨w.heap.size, 2, none⟩ = some (.int .i64 k.b) ∧ W.cell? ⟨w.heap.size, 3, none⟩ = some (.int .i64 k.n) ∧ W.cell? ⟨w.heap.size, 4, none⟩ = some (.int .i64 p) ∧ W.cell? ⟨w.heap.size, 5, none⟩ = some (.int .i64 q)
    ∧ W.cell? ⟨w.heap.size + 1, 0, none⟩ = some (.int .u8 k'.kind) ∧ W.cell? ⟨w.heap.size + 1, 1, none⟩ = some (.int .i64 k'.a) ∧ W.cell? ⟨w.heap.size + 1, 2, none⟩ = some (.int .i64 k'.b) ∧ W.cell? ⟨w.heap.size + 1, 3, none⟩ = some (.int .i64 k'.n) ∧ W.cell? ⟨w.heap.size + 1, 4, none⟩ = some (.int .i64 p') ∧ W.cell? ⟨w.heap.size + 1, 5, none⟩ = some (.int .i64 q'))
    (first | (with_reducible exact HK.out _ HL.out) | (with_reducible exact HK.out _ (HL.out.trans (Lay.alloc _ _))))
    (first
      | (go_at_call 30; refine (HC.out _).mono ?_; rintro e w3 ⟨rfl, hl⟩; have HM := Lib.hid (HM.out.trans hl); have HL := Lib.hid (HL.out.trans hl); clear hl)
      | (go_at_call 69; refine (HD.out _).mono ?_; rintro e w3 ⟨rfl, hl⟩; have HM := Lib.hid (HM.out.trans hl); have HL := Lib.hid (HL.out.trans hl); clear hl)
      | (go_at_call 68; refine (or_any (fun _ => True) [c1, c2] _ _ (show 2 ≤ 1000000 by decide) (row_lit trivial rfl)).mono ?_; rintro e w3 ⟨rfl, hw3⟩; subst hw3))
  all_goals
    rw [HO.out]
    go_wp2_with fail
    go_ret
    exact ⟨rfl, HM.out.trans (Lay.alloc _ _)⟩
end Go.Proofs.Ytemeppfikpafbaa

/- Lists of causes in memory; maps from keys to degrees. -/
namespace Go.Proofs.Ytemeppfikpafbaa
open Go.RowKit Go.Maps
def anyB : Nat → Prop := fun _ => True
/-- The slice v is a list of causes. -/
def pC (p : Value × Value) : List Value := [p.1, p.2]
theorem pC_len (p : Value × Value) : (pC p).length = 2 := rfl
def CRow (w : World) (l : List Cau) (v : Value) : Prop :=
  ∃ vs : List (Value × Value), vs.length = l.length ∧ Row anyB w 2 l.length v (flatC pC vs) ∧ ∀ (i : Nat) (h : i < l.length) (h' : i < vs.length), (Row anyB w 4 l[i].undo.length vs[i].1 (flatC kC l[i].undo) ∧ Row anyB w 3 l[i].hold.length vs[i].2 (flatC mC l[i].hold)) ∧ (∀ n c, (vs[i].1 = .slice none n c → c = 0) ∧ (vs[i].2 = .slice none n c → c = 0))
theorem CRow.below {w w' : World} {l : List Cau} {v : Value} (hB : Below w.heap.size w w') (h : CRow w l v) : CRow w' l v := by
  obtain ⟨vs, h1, h2, h3⟩ := h
  exact ⟨vs, h1, h2.below hB, fun i a b => ⟨⟨(h3 i a b).1.1.below hB, (h3 i a b).1.2.below hB⟩, (h3 i a b).2⟩⟩
theorem CRow.shape {w : World} {l : List Cau} {v : Value} (h : CRow w l v) : ∃ a cap, v = .slice a l.length cap ∧ l.length ≤ cap := by
  obtain ⟨vs, h1, h2, h3⟩ := h
  obtain ⟨a, cap, rfl, hc⟩ := h2.shape
  exact ⟨a, cap, rfl, hc⟩
/-- The cause at a place. -/
theorem CRow.at' {w : World} {l : List Cau} {a : Option Addr} {len cap : Nat} (h : CRow w l (.slice a len cap)) {i : Nat} (hi : i < l.length) :
    ∃ b off ua uc ha hc, a = some ⟨b, off, none⟩ ∧ w.cell? ⟨b, off + i * 2, none⟩ = some (.slice ua l[i].undo.length uc) ∧ w.cell? ⟨b, off + i * 2 + 1, none⟩ = some (.slice ha l[i].hold.length hc)
      ∧ Row anyB w 4 l[i].undo.length (.slice ua l[i].undo.length uc) (flatC kC l[i].undo) ∧ Row anyB w 3 l[i].hold.length (.slice ha l[i].hold.length hc) (flatC mC l[i].hold) ∧ (ua = none → uc = 0) ∧ (ha = none → hc = 0) := by
  obtain ⟨vs, h1, h2, h3⟩ := h
  have hi' : i < vs.length := by omega
  rw [← h1] at h2
  obtain ⟨b, off, rfl, _, hc⟩ := h2.atC pC_len hi'
  obtain ⟨⟨hu, hh⟩, hnz⟩ := h3 i hi hi'
  obtain ⟨ua, uc, eu, _⟩ := hu.shape
  obtain ⟨ha, hcp, eh, _⟩ := hh.shape
  have g0 := hc 0 vs[i].1 rfl
  have g1 := hc 1 vs[i].2 rfl
  rw [eu] at hu g0
  rw [eh] at hh g1
  rw [Nat.add_zero] at g0
  exact ⟨b, off, ua, uc, ha, hcp, rfl, g0, g1, hu, hh, fun e => (hnz _ uc).1 (by rw [eu, e]), fun e => (hnz _ hcp).2 (by rw [eh, e])⟩
theorem CRow.at {w : World} {l : List Cau} {a : Option Addr} {len cap : Nat} (h : CRow w l (.slice a len cap)) {i : Nat} (hi : i < l.length) :
    ∃ b off ua uc ha hc, a = some ⟨b, off, none⟩ ∧ w.cell? ⟨b, off + i * 2, none⟩ = some (.slice ua l[i].undo.length uc) ∧ w.cell? ⟨b, off + i * 2 + 1, none⟩ = some (.slice ha l[i].hold.length hc)
      ∧ Row anyB w 4 l[i].undo.length (.slice ua l[i].undo.length uc) (flatC kC l[i].undo) ∧ Row anyB w 3 l[i].hold.length (.slice ha l[i].hold.length hc) (flatC mC l[i].hold) := by
  obtain ⟨b, off, ua, uc, ha, hc, h1, h2, h3, h4, h5, _⟩ := h.at' hi
  exact ⟨b, off, ua, uc, ha, hc, h1, h2, h3, h4, h5⟩
/-- Degrees as elements of a map. -/
def ratD (p : Int × Int) : DataW Unit := .agg [.lit (.int .i64 p.1), .lit (.int .i64 p.2)]
def ratElem (v : Value) : Option (DataW Unit × List MemPlace) :=
  match v with
  | .agg ⟨[.int .i64 p, .int .i64 q]⟩ => some (ratD (p, q), [])
  | _ => none
theorem ratElem_mk (p : Int × Int) : ratElem (rA p) = some (ratD p, []) := rfl
theorem ratElem_inv {v : Value} {y : DataW Unit × List MemPlace} (h : ratElem v = some y) : ∃ p, v = rA p ∧ y = (ratD p, []) := by
  unfold ratElem at h
  split at h
  · cases h; exact ⟨(_, _), rfl, rfl⟩
  · cases h
theorem ratD_inj {p q : Int × Int} (h : ratD p = ratD q) : p = q := by
  obtain ⟨a, b⟩ := p
  obtain ⟨c, d⟩ := q
  simp [ratD] at h
  rw [h.1, h.2]
def degV (n : Nat) : Int × Int := if n = 0 then (0, 0) else degR n
theorem degV_pos {n : Nat} (h : 0 < n) : degV n = degR n := by unfold degV; rw [if_neg (by omega)]
theorem sameK {x y : K4} (hx : x.Ok) (hy : y.Ok) : (kL x).sameKey (kL y) = decide (x = y) := by
  by_cases h : x = y
  · subst h
    rw [decide_eq_true rfl]
    simp [kL, Lit.sameKey]
  · rw [decide_eq_false h]
    exact sameKey_ne (fun e => h (kL_inj hx hy e))
/-- Block b is a map from keys to the degrees f (0: the key is not in it). -/
def DegM (w : World) (b m : Nat) (f : K4 → Nat) : Prop :=
  ∃ n D, w.ownsMap (H := Unit) Try.prog 48 ratElem b n D ∧ n ≤ m ∧ (∀ x : K4, x.Ok → D.atKey (kL x) (ratD (0, 0)) = ratD (degV (f x))) ∧ (∀ kl, has D kl = true → ∃ x : K4, x.Ok ∧ kl = kL x ∧ 0 < f x) ∧ (∀ x : K4, x.Ok → 0 < f x → has D (kL x) = true)
theorem DegM.keep {w w' : World} {b m : Nat} {f : K4 → Nat} (h : DegM w b m f) (hb : w'.heap[b]? = w.heap[b]?) : DegM w' b m f := by
  obtain ⟨n, D, ⟨es, clock, h1, h2⟩, h3⟩ := h
  exact ⟨n, D, ⟨es, clock, hb.trans h1, h2⟩, h3⟩
theorem DegM.lt {w : World} {b m : Nat} {f : K4 → Nat} (h : DegM w b m f) : b < w.heap.size := by
  obtain ⟨n, D, ho, _⟩ := h
  exact ho.lt
theorem DegM.start (w : World) : DegM (w.alloc (.map #[] 0)) w.heap.size 0 (fun _ => 0) :=
  ⟨0, .map [], World.ownsMap_made w _ _ _, Nat.le_refl _, fun x _ => rfl, fun kl h => by simp [has_eq] at h, fun x _ h => absurd h (by simp)⟩
theorem zero32 (w : World) : (zeroValue 32).run Try.prog w = .ok (rA (0, 0)) w := by kernel_rfl
theorem DegM.look {w : World} {b m : Nat} {f : K4 → Nat} (h : DegM w b m f) {x : K4} (hx : x.Ok) : (Instr.lookup 128 (.map (some b)) (kA x) false).run Try.prog w = .ok (rA (degV (f x))) w := by
  obtain ⟨n, D, ho, _, ha, _⟩ := h
  obtain ⟨v, ps, hr, hv⟩ := ho.lookup lawK Try.underlying128 (zero32 w) (ratElem_mk (0, 0)) (keyOf_K x hx)
  rw [ha x hx] at hv
  obtain ⟨p, rfl, hy⟩ := ratElem_inv hv
  have := ratD_inj (by simpa using (Prod.mk.inj hy).1)
  rw [this]; exact hr
theorem DegM.put {w w' : World} {b n m : Nat} {f : K4 → Nat} {D : DataW Unit} {x : K4} {s : Nat} (ho : w.ownsMap (H := Unit) Try.prog 48 ratElem b n D) (hx : x.Ok) (hs : 0 < s) (hn : n ≤ m)
    (ha : ∀ x : K4, x.Ok → D.atKey (kL x) (ratD (0, 0)) = ratD (degV (f x))) (hb : ∀ kl, has D kl = true → ∃ x : K4, x.Ok ∧ kl = kL x ∧ 0 < f x) (hc : ∀ x : K4, x.Ok → 0 < f x → has D (kL x) = true)
    (h : w'.ownsMap (H := Unit) Try.prog 48 ratElem b (n + 1) (D.put (kL x) (ratD (degR s)))) : DegM w' b (m + 1) (fun y => if y = x then s else f y) := by
  refine ⟨n + 1, _, h, by omega, fun y hy => ?_, fun kl hkl => ?_, fun y hy hp => ?_⟩
  · by_cases e : y = x
    · subst e
      rw [atKey_put_same ho.isMap (show WideAt.IsKeyLit (kL y) from trivial)]
      simp only [if_true]
      rw [degV_pos hs]
    · have hne : kL y ≠ kL x := fun he => e (kL_inj hy hx he)
      dsimp only
      rw [atKey_put_other hne, if_neg e]
      exact ha y hy
  · by_cases e : kl = kL x
    · exact ⟨x, hx, e, by simpa using hs⟩
    · rw [has_put_other e] at hkl
      obtain ⟨y, hy, rfl, hp⟩ := hb kl hkl
      refine ⟨y, hy, rfl, ?_⟩
      dsimp only
      rw [if_neg (fun (e' : y = x) => e (by rw [e']))]
      exact hp
  · by_cases e : y = x
    · subst e
      exact has_put_same ho.isMap (show WideAt.IsKeyLit (kL y) from trivial) _
    · dsimp only at hp
      rw [if_neg e] at hp
      have hne : kL y ≠ kL x := fun he => e (kL_inj hy hx he)
      rw [has_put_other hne]
      exact hc y hy hp
/-- The loop over a cause's keys. -/
def jv (b s : Nat) : Nat := if 0 < s ∧ (b = 0 ∨ s < b) then s else b
theorem jv_jv (b s : Nat) : jv (jv b s) s = jv b s := by
  unfold jv
  by_cases h : 0 < s ∧ (b = 0 ∨ s < b)
  · rw [if_pos h, if_neg (by omega)]
  · rw [if_neg h, if_neg h]
def fin (prev : K4 → Nat) (c : Cau) (k : Nat) (x : K4) : Nat := if x ∈ c.undo.take k then jv (prev x) c.size else prev x
theorem fin_zero (prev : K4 → Nat) (c : Cau) : fin prev c 0 = prev := by funext x; simp [fin]
theorem fin_succ (prev : K4 → Nat) (c : Cau) (k : Nat) (h : k < c.undo.length) : fin prev c (k + 1) = fun y => if y = c.undo[k] then jv (fin prev c k y) c.size else fin prev c k y := by
  funext y
  unfold fin
  rw [List.take_succ_eq_append_getElem h]
  by_cases e : y = c.undo[k]
  · rw [if_pos (List.mem_append.2 (Or.inr (by rw [e]; exact List.mem_singleton.2 rfl))), if_pos e]
    split
    · rw [jv_jv]
    · rfl
  · rw [if_neg e]
    by_cases h' : y ∈ c.undo.take k
    · rw [if_pos (List.mem_append.2 (Or.inl h')), if_pos h']
    · rw [if_neg (fun e' => (List.mem_append.1 e').elim h' (fun e'' => e (List.mem_singleton.1 e''))), if_neg h']
theorem fin_all (l : List Cau) (j : Nat) (h : j < l.length) : fin (fun k => jointN (l.take j) [k]) l[j] l[j].undo.length = fun k => jointN (l.take (j + 1)) [k] := by
  funext x
  rw [jointN_take l [x] j h]
  unfold fin jstep jv
  rw [List.take_of_length_le (Nat.le_refl _)]
  by_cases h' : x ∈ l[j].undo
  · rw [if_pos h']; simp [h']
  · rw [if_neg h', if_neg (fun e => h' (e.1 x (by simp)))]
theorem run_makeMap128 (w : World) : (Instr.makeMap 128 none).run Try.prog w = .ok (.map (some w.heap.size)) (w.alloc (.map #[] 0)) := by
  simp [Instr.makeMap]
end Go.Proofs.Ytemeppfikpafbaa

