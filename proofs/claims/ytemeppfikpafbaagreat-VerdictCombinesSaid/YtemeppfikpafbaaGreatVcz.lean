/- Texts JnV, laid together. -/
import Derived.Test.YtemeppfikpafbaaGreatVct
import Derived.Test.YtemeppfikpafbaaGreatVcx
import Derived.Test.YtemeppfikpafbaaGreatVcy
/- The reference's results and the told causes agree: plain. -/
namespace Go.Proofs.YtemeppfikpafbaaGreat
open Go.RowKit
theorem pair_ext {α : Type} {r : α → α → Prop} (hi : ∀ a, ¬ r a a) (ht : ∀ a b c, r a b → r b c → r a c) : ∀ l m : List α, l.Pairwise r → m.Pairwise r → (∀ x, x ∈ l ↔ x ∈ m) → l = m
  | [], [], _, _, _ => rfl
  | [], b :: m, _, _, h => by have := (h b).2 (by simp); simp at this
  | a :: l, [], _, _, h => by have := (h a).1 (by simp); simp at this
  | a :: l, b :: m, hl, hm, h => by
    obtain ⟨h1, h2⟩ := List.pairwise_cons.1 hl
    obtain ⟨h3, h4⟩ := List.pairwise_cons.1 hm
    have e : a = b := by
      rcases List.mem_cons.1 ((h a).1 (by simp)) with e | e
      · exact e
      · rcases List.mem_cons.1 ((h b).2 (by simp)) with e' | e'
        · exact e'.symm
        · exact absurd (ht _ _ _ (h1 b e') (h3 a e)) (hi a)
    subst e
    have := pair_ext hi ht l m h2 h4 fun x => ⟨fun hx => by
      rcases List.mem_cons.1 ((h x).1 (List.mem_cons_of_mem _ hx)) with e | e
      · subst e; exact absurd (h1 x hx) (hi x)
      · exact e, fun hx => by
      rcases List.mem_cons.1 ((h x).2 (List.mem_cons_of_mem _ hx)) with e | e
      · subst e; exact absurd (h3 x hx) (hi x)
      · exact e⟩
    rw [this]
def hasK (k : KC) (p : LV) : Bool := p.2.any fun q => decide (kV q = k)
theorem hasK_iff {k : KC} {p : LV} : hasK k p = true ↔ ∃ q ∈ p.2, kV q = k := by
  unfold hasK
  rw [List.any_eq_true]
  exact ⟨fun ⟨q, h, e⟩ => ⟨q, h, of_decide_eq_true e⟩, fun ⟨q, h, e⟩ => ⟨q, h, decide_eq_true e⟩⟩
theorem fnd_mem (k : KC) (j : Int) : ∀ (ls : List LV) (i0 : Int), (k, j) ∈ (fndL ls i0).map (fun x => (keyC x.1, x.2)) ↔ ∃ (n : Nat) (h : n < ls.length), j = i0 + n ∧ hasK k ls[n] = true
  | [], i0 => by simp [fndL]
  | p :: r, i0 => by
    unfold fndL
    rw [List.map_append, List.mem_append, fnd_mem k j r (i0 + 1)]
    constructor
    · rintro (h | ⟨n, h, e, hk⟩)
      · obtain ⟨x, hx, e⟩ := List.mem_map.1 h
        obtain ⟨q, hq, rfl⟩ := List.mem_map.1 hx
        cases e
        exact ⟨0, by simp, by simp, hasK_iff.2 ⟨q, hq, rfl⟩⟩
      · exact ⟨n + 1, by simp; exact h, by rw [e]; push_cast; omega, by simpa using hk⟩
    · rintro ⟨n, h, e, hk⟩
      rcases n with _ | n
      · left
        obtain ⟨q, hq, ek⟩ := hasK_iff.1 (by simpa using hk)
        exact List.mem_map.2 ⟨(q.2.2, i0), List.mem_map.2 ⟨q, hq, rfl⟩, by rw [e]; simp; exact ek⟩
      · right
        exact ⟨n, by simpa using h, by rw [e]; push_cast; omega, by simpa using hk⟩
theorem filt_take {α : Type} (l : List α) (f : α → Bool) (g : Nat → Bool) (h : ∀ i (hi : i < l.length), g i = f l[i]) : ∀ n, n ≤ l.length → ((List.range n).filter g).length = ((l.take n).filter f).length
  | 0, _ => by simp
  | n + 1, hn => by
    rw [List.range_succ, List.take_succ_eq_append_getElem (by omega), List.filter_append, List.filter_append, List.length_append, List.length_append, filt_take l f g h n (by omega)]
    congr 1
    rw [List.filter_cons, List.filter_cons, h n (by omega)]
    split <;> rfl
theorem card_has (ls : List LV) (k : KC) : cardP ls.length (keyL ls) k = (ls.filter (hasK k)).length := by
  unfold cardP
  rw [filt_take ls (hasK k) _ (fun i hi => ?_) ls.length (Nat.le_refl _), List.take_of_length_le (Nat.le_refl _)]
  unfold keyL
  rw [Bool.eq_iff_iff]
  rw [decide_eq_true_iff, fnd_mem]
  constructor
  · rintro ⟨n, h, e, hk⟩
    obtain rfl : n = i := by omega
    exact hk
  · intro hk
    exact ⟨i, hi, by omega, hk⟩
theorem cnt_has (ls : List LV) (A : List CV) (x : Nat) (hx : x < A.length) : cntN (ls.map fun p => posL A p.2) x = (ls.filter (hasK (kV A[x]))).length := by
  unfold cntN
  rw [List.filter_map, List.length_map]
  congr 2
  funext p
  show decide (x ∈ posL A p.2) = _
  rw [Bool.eq_iff_iff, decide_eq_true_iff, mem_posL, hasK_iff]
  exact ⟨fun ⟨_, q, hq, e⟩ => ⟨q, hq, e.symm⟩, fun ⟨q, hq, e⟩ => ⟨hx, q, hq, e.symm⟩⟩
abbrev F4 := KC × Int × Int × Int
def lt4 (a b : F4) : Prop := a.2.1 < b.2.1 ∨ (a.2.1 = b.2.1 ∧ (b.2.2.1 < a.2.2.1 ∨ (a.2.2.1 = b.2.2.1 ∧ cmpP a.1 b.1 < 0)))
theorem lt4_irr (a : F4) : ¬ lt4 a a := by
  unfold lt4
  have := (cmpP_to.zero a.1 a.1).2 rfl
  omega
theorem lt4_trans (a b c : F4) (h1 : lt4 a b) (h2 : lt4 b c) : lt4 a c := by
  unfold lt4 at *
  have h3 := cmpP_to.trans a.1 b.1 c.1
  rcases h1 with h1 | ⟨e1, h1 | ⟨e2, h1⟩⟩ <;> rcases h2 with h2 | ⟨e3, h2 | ⟨e4, h2⟩⟩
  · left; omega
  · left; omega
  · left; omega
  · left; omega
  · right; exact ⟨by omega, Or.inl (by omega)⟩
  · right; exact ⟨by omega, Or.inl (by omega)⟩
  · left; omega
  · right; exact ⟨by omega, Or.inl (by omega)⟩
  · right; exact ⟨by omega, Or.inr ⟨by omega, h3 h1 h2⟩⟩
def fT (t : Tld) : F4 := (keyC t.c, t.s, t.i, t.o)
def fR (A : List CV) (l : RTd) : F4 := (kV A[l.x]!, l.s, l.i, l.o)
theorem cfT_lt {x y : Tld} (h : cfT x y < 0) : lt4 (fT x) (fT y) := by
  unfold cfT orI orI orI orI at h
  unfold lt4 fT
  dsimp only
  have h1 := cmpI_neg (x := x.s) (y := y.s)
  have h2 := cmpI_zero (x := x.s) (y := y.s)
  have h3 := cmpI_neg (x := y.i) (y := x.i)
  have h4 := cmpI_zero (x := y.i) (y := x.i)
  have h5 := sgnC_neg x.c y.c
  have h6 := sgnC_zero x.c y.c
  split at h
  · split at h
    · split at h
      · omega
      · right; exact ⟨by omega, Or.inr ⟨by omega, h5.1 h⟩⟩
    · right; exact ⟨by omega, Or.inl (by omega)⟩
  · left; omega
theorem befR_lt {A : List CV} (hA : A.Pairwise fun a b => cmpP (kV a) (kV b) < 0) {a b : RTd} (ha : a.x < A.length) (hb : b.x < A.length) (h : befR a b = true) : lt4 (fR A a) (fR A b) := by
  rw [befR_spec] at h
  unfold lt4 fR
  dsimp only
  rcases h with h | ⟨e, h | ⟨e2, h⟩⟩
  · exact Or.inl h
  · exact Or.inr ⟨e, Or.inl h⟩
  · refine Or.inr ⟨e, Or.inr ⟨e2, ?_⟩⟩
    rw [getElem!_pos A a.x ha, getElem!_pos A b.x hb]
    exact List.pairwise_iff_getElem.1 hA _ _ ha hb h
theorem stN_mk (ns : List (List Nat)) (cb : Bool) (y : Nat) : (mkR ns cb y).s = stN cb ns.length (cntN ns y) := by
  unfold mkR stN
  dsimp only
  by_cases h : cntN ns y = ns.length
  · rw [if_pos h, if_pos (decide_eq_true (by omega))]
  · rw [if_neg h, if_neg (by simp; omega)]
/-- What Combine tells (of the lists in any order) is what the reference says. -/
theorem join_told {ls ls2 : List LV} {A : List CV} {cb : Bool} {R : List Tld} {L : List RTd} (hp : ls2.Perm ls) (hA : RkA (preV ls ls.length) A) (hR : ToldR (keyL ls2) ls2.length cb R) (hL : RfL (ls.map fun p => posL A p.2) cb A.length L) :
    R.map fT = L.map (fR A) := by
  have hlx : ∀ l ∈ L, l.x < A.length := fun l hl => by
    obtain ⟨y, hy, _, rfl⟩ := (hL.mem l).1 hl
    exact hy
  have hno : (ls.map fun p => posL A p.2).length = ls2.length := by rw [List.length_map, hp.length_eq]
  have hcnt : ∀ y (hy : y < A.length), cntN (ls.map fun p => posL A p.2) y = cardP ls2.length (keyL ls2) (kV A[y]) := fun y hy => by
    rw [cnt_has ls A y hy, card_has ls2]
    exact ((hp.filter _).length_eq).symm
  have htup : ∀ t ∈ R, ∀ y (hy : y < A.length), kV A[y] = keyC t.c → fT t = fR A (mkR (ls.map fun p => posL A p.2) cb y) := fun t ht y hy e => by
    obtain ⟨h1, h2, h3⟩ := hR.num t ht
    have hi : t.i = (cntN (ls.map fun p => posL A p.2) y : Int) := by rw [h1, hcnt y hy, e]
    unfold fT fR
    rw [stN_mk, show (mkR (ls.map fun p => posL A p.2) cb y).x = y from rfl, getElem!_pos A y hy, e, h3, h2, hi]
    rw [show (mkR (ls.map fun p => posL A p.2) cb y).i = (cntN (ls.map fun p => posL A p.2) y : Int) from rfl, show (mkR (ls.map fun p => posL A p.2) cb y).o = ((ls.map fun p => posL A p.2).length : Int) from rfl, hno]
  have hin : ∀ k n, (k, n) ∈ keyL ls2 → ∃ p ∈ ls, hasK k p = true := fun k n h => by
    obtain ⟨m, hm, _, hk⟩ := (fnd_mem k n ls2 0).1 h
    exact ⟨ls2[m], hp.mem_iff.1 (List.getElem_mem hm), hk⟩
  refine pair_ext lt4_irr lt4_trans _ _ (List.pairwise_map.2 (hR.srt.imp fun h => cfT_lt h)) (List.pairwise_map.2 (hL.asc.imp_of_mem fun ha hb h => befR_lt hA.asc (hlx _ ha) (hlx _ hb) h)) fun x => ?_
  rw [List.mem_map, List.mem_map]
  constructor
  · rintro ⟨t, ht, rfl⟩
    obtain ⟨n, hn⟩ := hR.sub t ht
    obtain ⟨p, hpl, hk⟩ := hin _ _ hn
    obtain ⟨q, hq, eq⟩ := hasK_iff.1 hk
    have hqp : q ∈ preV ls ls.length := by
      unfold preV
      rw [List.take_of_length_le (Nat.le_refl _)]
      exact List.mem_flatMap.2 ⟨p, hpl, hq⟩
    obtain ⟨a, ha, ea⟩ := hA.all q hqp
    obtain ⟨y, hy, rfl⟩ := List.mem_iff_getElem.1 ha
    refine ⟨mkR (ls.map fun p => posL A p.2) cb y, (hL.mem _).2 ⟨y, hy, ?_, rfl⟩, (htup t ht y hy (ea.trans eq)).symm⟩
    rw [cnt_has ls A y hy]
    exact List.length_pos_of_mem (List.mem_filter.2 ⟨hpl, by rw [ea, eq]; exact hk⟩)
  · rintro ⟨l, hl, rfl⟩
    obtain ⟨y, hy, h0, rfl⟩ := (hL.mem l).1 hl
    rw [cnt_has ls A y hy] at h0
    obtain ⟨p, hpm⟩ := List.exists_mem_of_length_pos h0
    obtain ⟨hpl, hk⟩ := List.mem_filter.1 hpm
    obtain ⟨m, hm, em⟩ := List.mem_iff_getElem.1 (hp.mem_iff.2 hpl)
    obtain ⟨t, ht, et⟩ := hR.all (kV A[y], (m : Int)) ((fnd_mem _ _ ls2 0).2 ⟨m, hm, by omega, by rw [em]; exact hk⟩)
    exact ⟨t, ht, htup t ht y hy et.symm⟩
/-- In the form that `same` wants. -/
theorem join_same {A : List CV} {R : List Tld} {L : List RTd} {ns : List (List Nat)} {cb : Bool} (hL : RfL ns cb A.length L) (h : R.map fT = L.map (fR A)) :
    R.length = L.length ∧ ∀ i (hi : i < R.length) (hj : i < L.length), ∃ hx : L[i].x < A.length, keyC R[i].c = keyC A[L[i].x].2.2 ∧ R[i].s = L[i].s ∧ R[i].i = L[i].i ∧ R[i].o = L[i].o := by
  refine ⟨by have := congrArg List.length h; simpa using this, fun i hi hj => ?_⟩
  have hx : L[i].x < A.length := by
    obtain ⟨y, hy, _, e⟩ := (hL.mem L[i]).1 (List.getElem_mem hj)
    rw [e]; exact hy
  have e : (R.map fT)[i]'(by simpa using hi) = (L.map (fR A))[i]'(by simpa using hj) := by simp only [h]
  rw [List.getElem_map, List.getElem_map] at e
  unfold fT fR at e
  rw [getElem!_pos A _ hx] at e
  simp only [Prod.mk.injEq] at e
  exact ⟨hx, e.1, e.2.1, e.2.2.1, e.2.2.2⟩
end Go.Proofs.YtemeppfikpafbaaGreat

