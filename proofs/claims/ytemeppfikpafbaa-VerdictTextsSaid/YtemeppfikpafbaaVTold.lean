/- What verdict.Combine tells of the sorted causes: plain. -/
import Derived.Test.YtemeppfikpafbaaVAll
import Derived.Test.YtemeppfikpafbaaStT
namespace Go.Proofs.Ytemeppfikpafbaa
open Go.RowKit Go.Sort
section
variable {α : Type} [Inhabited α] {lt : α → α → Bool}
theorem insInner_mem {P : α → Prop} (a : Nat) : ∀ (j : Nat) (d : Array α), j < d.size → (∀ i, i < d.size → P d[i]!) → (insInner lt a j d).size = d.size ∧ ∀ i, i < (insInner lt a j d).size → P (insInner lt a j d)[i]!
  | 0, d, _, h => ⟨rfl, h⟩
  | j + 1, d, hj, h => by
    by_cases h1 : a < j + 1
    · cases h2 : lt d[j + 1]! d[j]! with
      | true =>
        rw [Go.Proofs.Ytemeppfikpafbaa.insInner_go a j d h1 h2]
        obtain ⟨r1, r2⟩ := insInner_mem a j (swp d (j + 1) j) (by rw [size_swp]; omega) (insSort_mem h (by omega) (by omega))
        exact ⟨by rw [r1, size_swp], r2⟩
      | false => rw [Go.Proofs.Ytemeppfikpafbaa.insInner_stop a j d h2]; exact ⟨rfl, h⟩
    · rw [insInner_no a (j + 1) d h1]; exact ⟨rfl, h⟩
theorem insOuter_mem {P : α → Prop} (a b : Nat) : ∀ (n i : Nat) (d : Array α), b - i = n → b ≤ d.size → (∀ i, i < d.size → P d[i]!) → (insOuter lt a b i d).size = d.size ∧ ∀ q, q < (insOuter lt a b i d).size → P (insOuter lt a b i d)[q]!
  | 0, i, d, hn, _, h => by rw [Go.Proofs.Ytemeppfikpafbaa.insOuter_stop a b i d (by omega)]; exact ⟨rfl, h⟩
  | n + 1, i, d, hn, hb, h => by
    rw [Go.Proofs.Ytemeppfikpafbaa.insOuter_go a b i d (by omega)]
    obtain ⟨r1, r2⟩ := insInner_mem (lt := lt) (P := P) a i d (by omega) h
    obtain ⟨q1, q2⟩ := insOuter_mem (P := P) a b n (i + 1) (insInner lt a i d) (by omega) (by rw [r1]; exact hb) r2
    exact ⟨by rw [q1, r1], q2⟩
theorem insSort_all {P : α → Prop} {d : Array α} (h : ∀ i, i < d.size → P d[i]!) : (insertionSort lt d 0 d.size).size = d.size ∧ ∀ i, i < (insertionSort lt d 0 d.size).size → P (insertionSort lt d 0 d.size)[i]! :=
  insOuter_mem 0 d.size _ _ d rfl (Nat.le_refl _) h
end
/-- A told cause. -/
def mkT (o : Int) (x : Fnd) (i : Int) : Tld := ⟨x.c, x.ua, x.un, x.uc, x.ha, x.hn, x.hc, 0, i, o⟩
def bumpL : List Tld → List Tld
  | [] => []
  | [t] => [{ t with i := t.i + 1 }]
  | t :: u :: r => t :: bumpL (u :: r)
theorem bumpL_snoc (R : List Tld) (t : Tld) : bumpL (R ++ [t]) = R ++ [{ t with i := t.i + 1 }] := by
  induction R with
  | nil => rfl
  | cons a r ih =>
    cases r with
    | nil => rfl
    | cons b r' =>
      show a :: bumpL (b :: r' ++ [t]) = _
      rw [ih]; rfl
theorem bumpL_len (T : List Tld) : (bumpL T).length = T.length := by
  rcases List.eq_nil_or_concat T with rfl | ⟨R, t, rfl⟩
  · rfl
  · rw [List.concat_eq_append, bumpL_snoc]; simp
def sameB (D : List Fnd) : Nat → Bool
  | 0 => false
  | k + 1 => decide (cmpCau D[k]!.c D[k + 1]!.c = 0)
def difB (D : List Fnd) : Nat → Bool
  | 0 => true
  | k + 1 => decide (D[k]!.n ≠ D[k + 1]!.n)
/-- What is told of the first causes of a sorted list. -/
def told1 (o : Int) (D : List Fnd) (T : List Tld) (j : Nat) : List Tld := if sameB D j then T else T ++ [mkT o D[j]! 0]
def told2 (D : List Fnd) (T1 : List Tld) (j : Nat) : List Tld := if !sameB D j || difB D j then bumpL T1 else T1
def toldN (o : Int) (D : List Fnd) : Nat → List Tld
  | 0 => []
  | j + 1 => told2 D (told1 o D (toldN o D j) j) j
theorem told1_len (o : Int) (D : List Fnd) (T : List Tld) (j : Nat) (h : 0 < j → 0 < T.length) : T.length ≤ (told1 o D T j).length ∧ (told1 o D T j).length ≤ T.length + 1 ∧ 0 < (told1 o D T j).length := by
  unfold told1
  cases hs : sameB D j with
  | true =>
    have hj : 0 < j := by
      rcases Nat.eq_zero_or_pos j with rfl | h
      · cases hs
      · exact h
    have := h hj
    simp; omega
  | false => simp
theorem told2_len (D : List Fnd) (T : List Tld) (j : Nat) : (told2 D T j).length = T.length := by
  unfold told2; split
  · exact bumpL_len T
  · rfl
theorem toldN_len (o : Int) (D : List Fnd) : ∀ n, (toldN o D n).length ≤ n ∧ (0 < n → 0 < (toldN o D n).length)
  | 0 => ⟨Nat.le_refl _, fun h => absurd h (Nat.lt_irrefl 0)⟩
  | j + 1 => by
    obtain ⟨h1, h2⟩ := toldN_len o D j
    obtain ⟨h3, h4, h5⟩ := told1_len o D (toldN o D j) j h2
    have h6 : (toldN o D (j + 1)).length = (told1 o D (toldN o D j) j).length := told2_len D _ j
    exact ⟨by omega, fun _ => by omega⟩
theorem bumpL_mem {P Q : Tld → Prop} (hPQ : ∀ t, P t → Q t ∧ Q { t with i := t.i + 1 }) (T : List Tld) (h : ∀ t ∈ T, P t) : ∀ t ∈ bumpL T, Q t := by
  rcases List.eq_nil_or_concat T with rfl | ⟨R, u, rfl⟩
  · intro t ht; simp [bumpL] at ht
  · rw [List.concat_eq_append] at h ⊢
    rw [bumpL_snoc]
    intro t ht
    rcases List.mem_append.1 ht with h1 | h1
    · exact (hPQ t (h t (List.mem_append_left _ h1))).1
    · rw [List.mem_singleton] at h1
      subst h1
      exact (hPQ u (h u (by simp))).2
theorem toldN_all {P : Nat → Tld → Prop} (o : Int) (D : List Fnd) (hs : ∀ j t, P j t → P (j + 1) t ∧ P (j + 1) { t with i := t.i + 1 }) (hD : ∀ j, j < D.length → P j (mkT o D[j]! 0)) :
    ∀ n, n ≤ D.length → ∀ t ∈ toldN o D n, P n t
  | 0, _, t, ht => by simp [toldN] at ht
  | j + 1, hn, t, ht => by
    have ih := toldN_all (P := P) o D hs hD j (by omega)
    have h1 : ∀ t ∈ told1 o D (toldN o D j) j, P j t := fun t ht => by
      unfold told1 at ht
      split at ht
      · exact ih t ht
      · rcases List.mem_append.1 ht with h | h
        · exact ih t h
        · rw [List.mem_singleton] at h
          subst h
          exact hD j (by omega)
    have ht' : t ∈ told2 D (told1 o D (toldN o D j) j) j := ht
    unfold told2 at ht'
    split at ht'
    · exact bumpL_mem (P := P j) (Q := P (j + 1)) (hs j) _ h1 t ht'
    · exact (hs j t (h1 t ht')).1
theorem told1_all {P : Nat → Tld → Prop} (o : Int) (D : List Fnd) (T : List Tld) (j : Nat) (hT : ∀ t ∈ T, P j t) (hD : P j (mkT o D[j]! 0)) : ∀ t ∈ told1 o D T j, P j t := fun t ht => by
  unfold told1 at ht
  split at ht
  · exact hT t ht
  · rcases List.mem_append.1 ht with h | h
    · exact hT t h
    · rw [List.mem_singleton] at h
      subst h
      exact hD
/-- The numbers of lists are small. -/
theorem toldN_i (o : Int) (D : List Fnd) (n : Nat) (hn : n ≤ D.length) : ∀ t ∈ toldN o D n, 0 ≤ t.i ∧ t.i ≤ n :=
  toldN_all (P := fun j t => 0 ≤ t.i ∧ t.i ≤ j) o D (fun j t h => by
    obtain ⟨h1, h2⟩ := h
    exact ⟨⟨h1, by omega⟩, ⟨by show 0 ≤ t.i + 1; omega, by show t.i + 1 ≤ ((j + 1 : Nat) : Int); omega⟩⟩) (fun j _ => ⟨Int.le_refl _, by show (0 : Int) ≤ j; omega⟩) n hn
/-- Its causes are those of the list. -/
theorem toldN_at (w : World) (o : Int) (D : List Fnd) (hD : ∀ j, j < D.length → FndAt w D[j]!) (n : Nat) (hn : n ≤ D.length) : ∀ t ∈ toldN o D n, TldAt w t :=
  toldN_all (P := fun _ t => TldAt w t) o D (fun _ _ h => ⟨h, h⟩) (fun j hj => hD j hj) n hn
/-- With the statuses. -/
def setSt (cb : Bool) (o : Int) (t : Tld) : Tld := { t with s := if decide (t.i = o) then (if cb then 1 else 3) else 2 }
/-- A cell of one element is set. -/
theorem flatC_setT {R S : List Tld} {t t' : Tld} {r : Nat} {u : Value} (hr : r < 5) (he : (tC t).set r u = tC t') : (flatC tC (R ++ t :: S)).set (R.length * 5 + r) u = flatC tC (R ++ t' :: S) := by
  have hl : (flatC tC R).length = R.length * 5 := flatC_len tC_len R
  rw [flatC_append, flatC_append, List.set_append, if_neg (by omega), hl, show R.length * 5 + r - R.length * 5 = r by omega]
  congr 1
  show ((tC t) ++ flatC tC S).set r u = (tC t') ++ flatC tC S
  rw [List.set_append, if_pos (by rw [tC_len]; exact hr), he]
end Go.Proofs.Ytemeppfikpafbaa
