/- Exchanges in lists that are written as pieces. No program in sight. -/
import Derived.Test.YtekhoanjpnjaeaaStab
namespace Go.Proofs.Ytekhoanjpnjaeaa
open Go.Sort
theorem get_app (L : List (Int × Int)) (p : Int × Int) (R : List (Int × Int)) (n : Nat) (h : L.length = n) : (L ++ p :: R).toArray[n]! = p := by
  subst h
  rw [getElem!_pos _ _ (by simp)]
  simp
theorem get_app2 (L : List (Int × Int)) (p : Int × Int) (M : List (Int × Int)) (q : Int × Int) (R : List (Int × Int)) (n : Nat) (h : L.length + 1 + M.length = n) : (L ++ p :: (M ++ q :: R)).toArray[n]! = q := by
  have : L ++ p :: (M ++ q :: R) = (L ++ p :: M) ++ q :: R := by simp
  rw [this]
  exact get_app _ _ _ _ (by simp; omega)
theorem set_app (L : List (Int × Int)) (p : Int × Int) (R : List (Int × Int)) (x : Int × Int) (n : Nat) (h : L.length = n) : (L ++ p :: R).toArray.setIfInBounds n x = (L ++ x :: R).toArray := by
  subst h
  apply Array.toList_inj.1
  simp
theorem swp_app (L : List (Int × Int)) (p : Int × Int) (M : List (Int × Int)) (q : Int × Int) (R : List (Int × Int)) (i j : Nat) (hi : L.length = i) (hj : L.length + 1 + M.length = j) : swp (L ++ p :: (M ++ q :: R)).toArray i j = (L ++ q :: (M ++ p :: R)).toArray := by
  unfold swp
  rw [get_app2 L p M q R j hj, get_app L p _ i hi, set_app L p _ q i hi]
  have e : ∀ x : Int × Int, L ++ q :: (M ++ x :: R) = (L ++ q :: M) ++ x :: R := by intro x; simp
  rw [e q, set_app _ _ _ _ _ (by simp; omega), e p]
/-- k rounds of an exchange of ranges. -/
def swL (X P Y Q Z : List (Int × Int)) (k : Nat) : List (Int × Int) := X ++ Q.take k ++ P.drop k ++ Y ++ P.take k ++ Q.drop k ++ Z
theorem swL_zero (X P Y Q Z : List (Int × Int)) : swL X P Y Q Z 0 = X ++ P ++ Y ++ Q ++ Z := by simp [swL]
theorem swL_end (X P Y Q Z : List (Int × Int)) (k : Nat) (hP : P.length = k) (hQ : Q.length = k) : swL X P Y Q Z k = X ++ Q ++ Y ++ P ++ Z := by
  unfold swL
  rw [List.take_of_length_le (by omega), List.take_of_length_le (by omega), List.drop_of_length_le (by omega), List.drop_of_length_le (by omega)]; simp
theorem swL_len (X P Y Q Z : List (Int × Int)) (k : Nat) : (swL X P Y Q Z k).length = (X ++ P ++ Y ++ Q ++ Z).length := by
  unfold swL
  simp only [List.length_append, List.length_take, List.length_drop]
  omega
theorem swL_step (X P Y Q Z : List (Int × Int)) (k n a b : Nat) (hk : k < n) (hX : X.length = a) (hP : P.length = n) (hQ : Q.length = n) (hb : a + n + Y.length = b) :
    ∃ p q, (swL X P Y Q Z k).toArray[a + k]! = p ∧ (swL X P Y Q Z k).toArray[b + k]! = q ∧ swp (swL X P Y Q Z k).toArray (a + k) (b + k) = (swL X P Y Q Z (k + 1)).toArray := by
  have e : swL X P Y Q Z k = (X ++ Q.take k) ++ P[k] :: ((P.drop (k + 1) ++ Y ++ P.take k) ++ Q[k] :: (Q.drop (k + 1) ++ Z)) := by
    unfold swL
    rw [List.drop_eq_getElem_cons (l := P) (i := k) (by omega), List.drop_eq_getElem_cons (l := Q) (i := k) (by omega)]
    simp only [List.append_assoc, List.cons_append]
  have e' : swL X P Y Q Z (k + 1) = (X ++ Q.take k) ++ Q[k] :: ((P.drop (k + 1) ++ Y ++ P.take k) ++ P[k] :: (Q.drop (k + 1) ++ Z)) := by
    unfold swL
    rw [List.take_succ_eq_append_getElem (l := P) (i := k) (by omega), List.take_succ_eq_append_getElem (l := Q) (i := k) (by omega)]
    simp only [List.append_assoc, List.cons_append, List.nil_append]
  have l1 : (X ++ Q.take k).length = a + k := by simp; omega
  have l2 : (X ++ Q.take k).length + 1 + (P.drop (k + 1) ++ Y ++ P.take k).length = b + k := by simp; omega
  refine ⟨_, _, rfl, rfl, ?_⟩
  rw [e, e']
  exact swp_app _ _ _ _ _ _ _ l1 l2
end Go.Proofs.Ytekhoanjpnjaeaa
