/- Texts SrtT, CombS, laid together. -/
import Derived.Test.YtemeppfikpafbaaGreatVca
import Derived.Test.YtemeppfikpafbaaGreatVcj
import Derived.Test.YtemeppfikpafbaaGreatVcq
import Derived.Test.YtemeppfikpafbaaGreatVcr
/- slices.SortFunc (35) of any number of told causes that are not equal, as verdict.Combine calls it: the shelf's contract over their places. -/
namespace Go.Proofs.YtemeppfikpafbaaGreat
open Go.RowKit Go.Sort Go.Shelf
theorem tC_one (x : Tld) : ∀ v ∈ tC x, v.oneCell' = true := by
  intro v hv
  simp only [tC, List.mem_cons, List.not_mem_nil, or_false] at hv
  rcases hv with rfl | rfl | rfl | rfl | rfl <;> rfl
theorem agg81 : ∀ w, (isAgg (Tryz.sortTold_ren.t 24)).run Tryz.prog w = .ok true w := fun _ => by kernel_rfl
theorem size81 : ∀ w, (Go.sizeOf (Tryz.sortTold_ren.t 24)).run Tryz.prog w = .ok 5 w := fun _ => by kernel_rfl
theorem call36 : ∀ args w, (callFunc 36 args).run Tryz.prog w = .ok (.enter 36 args) w := fun _ _ => by kernel_rfl
/-- The order of told causes. -/
theorem cfT_neg (x y : Tld) : cfT x y < 0 ↔ x.s < y.s ∨ (x.s = y.s ∧ (y.i < x.i ∨ (x.i = y.i ∧ cmpP (keyC x.c) (keyC y.c) < 0))) := by
  unfold cfT
  rw [orI_neg, orI_neg, orI_neg, orI_nil, cmpI_neg, cmpI_neg, cmpI_zero, cmpI_zero, sgnC_neg]
  simp only [Int.lt_irrefl, and_false, or_false]
  constructor
  · rintro (h | ⟨h, h' | ⟨h', h''⟩⟩)
    · exact Or.inl h
    · exact Or.inr ⟨h, Or.inl h'⟩
    · exact Or.inr ⟨h, Or.inr ⟨h'.symm, h''⟩⟩
  · rintro (h | ⟨h, h' | ⟨h', h''⟩⟩)
    · exact Or.inl h
    · exact Or.inr ⟨h, Or.inl h'⟩
    · exact Or.inr ⟨h, Or.inr ⟨h'.symm, h''⟩⟩
theorem cfT_irr (x : Tld) : ¬ cfT x x < 0 := by
  rw [cfT_neg]
  have := cmpP_irr (keyC x.c)
  omega
theorem cfT_tr (x y z : Tld) (h1 : cfT x y < 0) (h2 : cfT y z < 0) : cfT x z < 0 := by
  rw [cfT_neg] at *
  rcases h1 with h1 | ⟨h1, h1' | ⟨h1', h1''⟩⟩
  · rcases h2 with h2 | ⟨h2, _⟩
    · exact Or.inl (by omega)
    · exact Or.inl (by omega)
  · rcases h2 with h2 | ⟨h2, h2' | ⟨h2', h2''⟩⟩
    · exact Or.inl (by omega)
    · exact Or.inr ⟨by omega, Or.inl (by omega)⟩
    · exact Or.inr ⟨by omega, Or.inl (by omega)⟩
  · rcases h2 with h2 | ⟨h2, h2' | ⟨h2', h2''⟩⟩
    · exact Or.inl (by omega)
    · exact Or.inr ⟨by omega, Or.inl (by omega)⟩
    · exact Or.inr ⟨by omega, Or.inr ⟨by omega, cmpP_to.trans _ _ _ h1'' h2''⟩⟩
theorem cfT_tri (x y : Tld) (h : ¬ cfT x y < 0) (h' : ¬ cfT y x < 0) : keyC x.c = keyC y.c := by
  rw [cfT_neg] at *
  have ha := cmpP_to.anti (keyC y.c) (keyC x.c)
  have hz := cmpP_to.zero (keyC x.c) (keyC y.c)
  by_cases e : cmpP (keyC x.c) (keyC y.c) < 0
  · omega
  · by_cases f : cmpP (keyC y.c) (keyC x.c) < 0
    · omega
    · exact hz.1 (by omega)
/-- The told causes at their places. -/
structure AtT (T : List Tld) where
  i : Nat
  h : i < T.length
def AtT.get {T : List Tld} (a : AtT T) : Tld := T[a.i]'a.h
def placesT (T : List Tld) : List (AtT T) := (List.range T.length).attach.map fun a => ⟨a.1, List.mem_range.1 a.2⟩
theorem placesT_get (T : List Tld) : (placesT T).map AtT.get = T := by
  unfold placesT
  rw [List.map_map]
  apply List.ext_getElem?
  intro j
  rw [List.getElem?_map]
  by_cases h : j < T.length
  · have hj : j < ((List.range T.length).attach).length := by simpa using h
    rw [List.getElem?_eq_getElem hj, List.getElem?_eq_getElem h]
    simp [AtT.get]
  · rw [List.getElem?_eq_none (by simpa using h), List.getElem?_eq_none (by omega)]; rfl
def cfA {T : List Tld} (x y : AtT T) : Int := cfT x.get y.get
def eA {T : List Tld} (x : AtT T) : List Value := tC x.get
theorem flatA {T : List Tld} (L : List (AtT T)) : flatC (fun x : AtT T => eA x) L = flatC tC (L.map AtT.get) := by
  unfold flatC eA
  rw [List.flatMap_map]
theorem placesT_len (T : List Tld) : (placesT T).length = T.length := by unfold placesT; simp
theorem cfA_by {T : List Tld} (h : T.Pairwise (fun s t => cmpP (keyC s.c) (keyC t.c) < 0)) : CmpBy (cfA (T := T)) (fun x y => cfT x.get y.get < 0) where
  neg _ _ := Iff.rfl
  irrefl x := cfT_irr _
  trans x y z h1 h2 := cfT_tr _ _ _ h1 h2
  tri x y h1 h2 := by
    have e := cfT_tri _ _ h1 h2
    obtain ⟨i, hi⟩ := x
    obtain ⟨j, hj⟩ := y
    have hp := List.pairwise_iff_getElem.1 h
    rcases Nat.lt_trichotomy i j with hij | hij | hij
    · have := hp i j hi hj hij
      unfold AtT.get at e
      dsimp only at e
      rw [e] at this
      exact absurd this (cmpP_irr _)
    · subst hij; rfl
    · have := hp j i hj hi hij
      unfold AtT.get at e
      dsimp only at e
      rw [e] at this
      exact absurd this (cmpP_irr _)
set_option maxHeartbeats 1000000 in
theorem sortTL_any (T : List Tld) (g cap PB CP : Nat) (cur : Array Value) (w : World) (hn : T.length ≤ 100000) (h0 : 0 < T.length) (hasc : T.Pairwise (fun s t => cmpP (keyC s.c) (keyC t.c) < 0))
    (hg : w.heap[g]? = some (.cells cur 81 (0, 0))) (hcs : cur.size = cap * 5) (hnc : T.length ≤ cap) (htk : cur.toList.take (T.length * 5) = flatC tC T) (hP : ∀ t ∈ T, ∀ W, w.grownBy W (some g) → TldAt W t)
    (hp : w.heap[PB]? = some (.cells #[.func (.func 27) #[] #[]] 30)) (hcp : w.heap[CP]? = some (.cells #[.func (.func 61) #[] #[.pointer (some ⟨PB, 0, none⟩)]] 71)) (h1 : PB ≠ g) (h2 : CP ≠ g) :
    Calls Tryz.prog 35 #[.slice (some ⟨g, 0, none⟩) T.length cap, .func (.func 36) #[] #[.pointer (some ⟨CP, 0, none⟩)]] w fun e w' => e = .returned (.tuple #[]) ∧ w.grownBy w' (some g) ∧ ∃ R : List Tld, R.Perm T ∧ R.Pairwise (fun x y => cfT x y < 0) ∧ HoldC tC 5 w' g 0 R.toArray := by
  have : Inhabited (AtT T) := ⟨⟨0, h0⟩⟩
  have hB := cfA_by hasc
  have hfl : flatC (fun x : AtT T => eA x) (placesT T) = flatC tC T := by rw [flatA, placesT_get]
  have hH : HoldsK (fun x : AtT T => eA x) 5 w g 0 (placesT T).toArray := holdsK_of (enc := fun x : AtT T => eA x) (fun _ => rfl) (by omega) hg (by rw [placesT_len, hfl]; exact htk)
  have hC : CmpLays Tryz.prog 36 #[.pointer (some ⟨CP, 0, none⟩)] (fun x : AtT T => eA x) 5 cfA g 0 (placesT T).toArray.size w := fun m os dk _ x y => by
    have hW : w.grownBy (sortWorldK (fun x : AtT T => eA x) 5 w g 0 m dk os) (some g) := grownK_sorted _
    have hx := hP _ (List.getElem_mem x.h) _ hW
    have hy := hP _ (List.getElem_mem y.h) _ hW
    refine (combine140_lay x.get y.get CP PB _ hx hy ((hW.block PB (blk_lt hp) (fun e => h1 (Option.some.inj e))).trans hp) ((hW.block CP (blk_lt hcp) (fun e => h2 (Option.some.inj e))).trans hcp)).mono ?_
    rintro e w' ⟨he, hlay⟩
    exact ⟨he, hlay.grow⟩
  have hr := AnyQ.slices_SortFunc_total Tryz.sortTold 5 agg81 size81 (fun x : AtT T => eA x) (fun _ => rfl) (fun x => tC_one x.get) cfA hB.swo 36 #[.pointer (some ⟨CP, 0, none⟩)] g 0 cap (placesT T).toArray w call36 hC hH (blk_lt hg) (by simp [placesT_len]; omega) hB.total
  rw [List.size_toArray, placesT_len] at hr
  refine hr.mono ?_
  rintro e w' ⟨rfl, n, os, rfl⟩
  have hpm := List.mergeSort_perm (placesT T) fun x y => !(ltOf cfA) y x
  have hnd : (placesT T).Nodup := by
    refine List.pairwise_iff_getElem.2 fun i j hi hj hij e => ?_
    have e1 : ∀ k (hk : k < (placesT T).length), ((placesT T)[k]).i = k := fun k hk => by simp [placesT]
    have := congrArg AtT.i e
    rw [e1, e1] at this
    omega
  have hso := hB.sorted (placesT T) hnd
  generalize hM : (placesT T).mergeSort (fun x y => !(ltOf cfA) y x) = M at *
  have hms : M.length = T.length := by rw [hpm.length_eq, placesT_len]
  refine ⟨rfl, grownK_sorted _, M.map AtT.get, ?_, ?_, ?_⟩
  · have := hpm.map AtT.get
    rw [placesT_get] at this
    exact this
  · exact List.pairwise_map.2 hso
  · have hfs : (flatK (fun x : AtT T => eA x) 5 M.toArray).size = T.length * 5 := by simp [hms]
    have ht := takeK_put cur (flatK (fun x : AtT T => eA x) 5 M.toArray) (by rw [hfs, hcs]; exact Nat.mul_le_mul_right _ hnc)
    rw [hfs, flatK_list (enc := fun x : AtT T => eA x) (k := 5) (fun _ => rfl) (by omega), flatA] at ht
    have := holdC_of (c := tC) (k := 5) (l := M.map AtT.get) tC_len (heapK_sorted (n := n) (os := os) (flatK (fun x : AtT T => eA x) 5 M.toArray) hg) (by rw [List.length_map, hms]; exact ht)
    exact this
end Go.Proofs.YtemeppfikpafbaaGreat

/- Found causes by ranks and numbers: what the stable sort makes of them, plain. -/
namespace Go.Proofs.YtemeppfikpafbaaGreat
open Go.RowKit Go.Sort
/-- The rank of a key among causes. -/
def rkF (F : List Fnd) (k : KC) : Int := ((F.filter fun g => decide (cmpP (keyC g.c) k < 0)).length : Int)
theorem filter_le {α : Type} {p q : α → Bool} (h : ∀ x, p x = true → q x = true) : ∀ l : List α, (l.filter p).length ≤ (l.filter q).length
  | [] => Nat.le_refl _
  | x :: l => by
    have ih := filter_le h l
    rw [List.filter_cons, List.filter_cons]
    cases hp : p x with
    | true => rw [if_pos rfl, if_pos (h x hp)]; simp only [List.length_cons]; omega
    | false =>
      rw [if_neg (by simp)]
      split
      · simp only [List.length_cons]; omega
      · omega
theorem filter_lt {α : Type} {p q : α → Bool} (h : ∀ x, p x = true → q x = true) {y : α} (hy : p y = false) (hy' : q y = true) : ∀ l : List α, y ∈ l → (l.filter p).length < (l.filter q).length
  | [], h' => by simp at h'
  | x :: l, h' => by
    rw [List.filter_cons, List.filter_cons]
    rcases List.mem_cons.1 h' with rfl | h1
    · have := filter_le h l
      rw [if_neg (by simp [hy]), if_pos hy']
      simp only [List.length_cons]; omega
    · have ih := filter_lt h hy hy' l h1
      cases hp : p x with
      | true => rw [if_pos rfl, if_pos (h x hp)]; simp only [List.length_cons]; omega
      | false =>
        rw [if_neg (by simp)]
        split
        · simp only [List.length_cons]; omega
        · omega
theorem rkF_lt {F : List Fnd} {f g : Fnd} (hf : f ∈ F) : cmpP (keyC f.c) (keyC g.c) < 0 → rkF F (keyC f.c) < rkF F (keyC g.c) := by
  intro h
  unfold rkF
  have := filter_lt (p := fun x : Fnd => decide (cmpP (keyC x.c) (keyC f.c) < 0)) (q := fun x : Fnd => decide (cmpP (keyC x.c) (keyC g.c) < 0)) (fun x hx => decide_eq_true (cmpP_to.trans _ _ _ (of_decide_eq_true hx) h)) (y := f) (decide_eq_false (cmpP_irr _)) (decide_eq_true h) F hf
  omega
theorem rkF_cmp {F : List Fnd} {f g : Fnd} (hf : f ∈ F) (hg : g ∈ F) : cmpI (rkF F (keyC f.c)) (rkF F (keyC g.c)) = sgnC f.c g.c := by
  have hz := cmpP_to.zero (keyC f.c) (keyC g.c)
  have ha := cmpP_to.anti (keyC g.c) (keyC f.c)
  unfold sgnC cmpI
  rw [cmpCau_key, cmpCau_key]
  by_cases h : cmpP (keyC f.c) (keyC g.c) < 0
  · rw [if_pos h, if_pos (rkF_lt hf h)]
  · by_cases h' : cmpP (keyC g.c) (keyC f.c) < 0
    · have := rkF_lt hg h'
      rw [if_neg h, if_pos h', if_neg (by omega), if_pos this]
    · have e := hz.1 (by omega)
      rw [if_neg h, if_neg h', e, if_neg (by omega), if_neg (by omega)]
/-- The causes by their ranks and places. -/
def rkL (F : List Fnd) : List (Int × Int) := (List.range F.length).map fun i : Nat => (rkF F (keyC F[i]!.c), (i : Int))
def rkG (F : List Fnd) (p : Int × Int) : Fnd := F[p.2.toNat]!
theorem rkL_len (F : List Fnd) : (rkL F).length = F.length := by simp [rkL]
theorem rkL_get (F : List Fnd) (i : Nat) (h : i < F.length) : (rkL F)[i]'(by rw [rkL_len]; exact h) = (rkF F (keyC F[i]!.c), (i : Int)) := by simp [rkL]
theorem rkL_mem {F : List Fnd} {p : Int × Int} (h : p ∈ rkL F) : ∃ i : Nat, i < F.length ∧ p = (rkF F (keyC F[i]!.c), (i : Int)) ∧ rkG F p = F[i]! := by
  unfold rkL at h
  obtain ⟨i, hi, rfl⟩ := List.mem_map.1 h
  exact ⟨i, List.mem_range.1 hi, rfl, by simp [rkG]⟩
theorem get_memF {F : List Fnd} {i : Nat} (h : i < F.length) : F[i]! ∈ F := by rw [getElem!_pos F i h]; exact List.getElem_mem h
theorem rkL_map (F : List Fnd) : (rkL F).map (rkG F) = F := by
  apply List.ext_getElem?
  intro i
  rw [List.getElem?_map]
  by_cases h : i < F.length
  · rw [List.getElem?_eq_getElem (by rw [rkL_len]; exact h), List.getElem?_eq_getElem h, rkL_get F i h, Option.map_some]
    simp [rkG, getElem!_pos F i h]
  · rw [List.getElem?_eq_none (by rw [rkL_len]; omega), List.getElem?_eq_none (by omega)]; rfl
theorem rkL_cmp {F : List Fnd} {x y : Int × Int} (hx : x ∈ rkL F) (hy : y ∈ rkL F) : cmpI x.1 y.1 = sgnC (rkG F x).c (rkG F y).c := by
  obtain ⟨i, hi, rfl, ei⟩ := rkL_mem hx
  obtain ⟨j, hj, rfl, ej⟩ := rkL_mem hy
  rw [ei, ej]
  exact rkF_cmp (get_memF hi) (get_memF hj)
theorem rkL_key {F : List Fnd} {x y : Int × Int} (hx : x ∈ rkL F) (hy : y ∈ rkL F) : (x.1 < y.1 → cmpP (keyC (rkG F x).c) (keyC (rkG F y).c) < 0) ∧ (x.1 = y.1 → keyC (rkG F x).c = keyC (rkG F y).c) := by
  have h := rkL_cmp hx hy
  constructor
  · intro hlt
    have := (cmpI_neg (x := x.1) (y := y.1)).2 hlt
    rw [h] at this
    exact (sgnC_neg _ _).1 this
  · intro he
    have : cmpI x.1 y.1 = 0 := by rw [he]; unfold cmpI; simp
    rw [h] at this
    exact (sgnC_zero _ _).1 this
theorem pair_filter {l : List (Int × Int)} {R : Int × Int → Int × Int → Prop} (h : ∀ k, (l.filter fun x => x.1 == k).Pairwise R) : l.Pairwise fun x y => x.1 = y.1 → R x y := by
  refine List.pairwise_iff_getElem.2 fun i j hi hj hij he => ?_
  have h1 := h l[i].1
  have h2 : [l[i], l[j]].Sublist l := by
    have e1 : l = l.take (i + 1) ++ l.drop (i + 1) := (List.take_append_drop _ _).symm
    have a1 : [l[i]].Sublist (l.take (i + 1)) := List.singleton_sublist.2 (List.mem_iff_getElem.2 ⟨i, by rw [List.length_take]; omega, by rw [List.getElem_take]⟩)
    have a2 : [l[j]].Sublist (l.drop (i + 1)) := List.singleton_sublist.2 (List.mem_iff_getElem.2 ⟨j - (i + 1), by rw [List.length_drop]; omega, by rw [List.getElem_drop]; congr 1; omega⟩)
    have := a1.append a2
    rw [← e1] at this
    exact this
  have h3 := h2.filter (fun x => x.1 == l[i].1)
  have h4 : [l[i], l[j]].filter (fun x => x.1 == l[i].1) = [l[i], l[j]] := by simp [he.symm]
  rw [h4] at h3
  exact (List.pairwise_cons.1 (h1.sublist h3)).1 _ (by simp)
/-- What the stable sort leaves: in the order of causes, equal ones in the order of their lists. -/
theorem rk_sorted (F : List Fnd) (hn : F.Pairwise fun a b => a.n ≤ b.n) (d : Array (Int × Int)) (h : Whole (rkL F).toArray F.length d) :
    (d.toList.map (rkG F)).length = F.length ∧ ((d.toList.map (rkG F)).map fK).Pairwise leP ∧ ∀ f, f ∈ d.toList.map (rkG F) ↔ f ∈ F := by
  have hm : ∀ x, x ∈ d.toList ↔ x ∈ rkL F := fun x => ⟨fun hx => h.stab.mem hx, fun hx => h.stab.symm.mem hx⟩
  refine ⟨by rw [List.length_map, Array.length_toList]; exact h.size, ?_, fun f => ?_⟩
  · rw [List.map_map]
    refine List.pairwise_map.2 ?_
    have h1 : d.toList.Pairwise fun x y => x.1 = y.1 → x.2 < y.2 := pair_filter fun k => by
      have := h.stab k
      rw [← this]
      refine List.Pairwise.sublist List.filter_sublist ?_
      refine List.pairwise_iff_getElem.2 fun i j hi hj hij => ?_
      have hi' : i < F.length := by rw [← rkL_len]; exact hi
      have hj' : j < F.length := by rw [← rkL_len]; exact hj
      have e1 := rkL_get F i hi'
      have e2 := rkL_get F j hj'
      show ((rkL F)[i]'hi).2 < ((rkL F)[j]'hj).2
      rw [e1, e2]
      show (i : Int) < j
      omega
    have h2 : d.toList.Pairwise fun x y => x.1 ≤ y.1 := h.srt
    have h3 := List.Pairwise.and h1 h2
    refine (List.pairwise_iff_forall_sublist.2 fun {x y} hs => ?_)
    obtain ⟨c1, c2⟩ := List.pairwise_iff_forall_sublist.1 h3 hs
    have hx := (hm x).1 (hs.subset (by simp))
    have hy := (hm y).1 (hs.subset (by simp))
    obtain ⟨k1, k2⟩ := rkL_key hx hy
    show leP (fK (rkG F x)) (fK (rkG F y))
    by_cases e : x.1 = y.1
    · right
      refine ⟨k2 e, ?_⟩
      have hlt := c1 e
      obtain ⟨i, hi, rfl, ei⟩ := rkL_mem hx
      obtain ⟨j, hj, rfl, ej⟩ := rkL_mem hy
      have hij : i < j := by have : (i : Int) < j := hlt; omega
      show (rkG F _).n ≤ (rkG F _).n
      rw [ei, ej, getElem!_pos F i hi, getElem!_pos F j hj]
      exact List.pairwise_iff_getElem.1 hn i j hi hj hij
    · left
      exact k1 (by omega)
  · constructor
    · intro hf
      obtain ⟨x, hx, rfl⟩ := List.mem_map.1 hf
      obtain ⟨i, hi, rfl, ei⟩ := rkL_mem ((hm x).1 hx)
      rw [ei]
      exact get_memF hi
    · intro hf
      have := rkL_map F
      rw [← this] at hf
      obtain ⟨x, hx, rfl⟩ := List.mem_map.1 hf
      exact List.mem_map.2 ⟨x, (hm x).2 hx, rfl⟩
end Go.Proofs.YtemeppfikpafbaaGreat

