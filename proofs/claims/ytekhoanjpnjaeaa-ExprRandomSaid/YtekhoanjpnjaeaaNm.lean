/- Texts SortS, laid together. -/
import Derived.Sort.Walk0
import Derived.Test.YtekhoanjpnjaeaaNl
/- Sorted sets of names, in plain words. -/
namespace Go.Proofs.Ytekhoanjpnjaeaa
open Go.RowKit Go.Maps

def sLt (a b : ByteArray) : Prop := a.data.toList < b.data.toList
def AscS (l : List ByteArray) : Prop := l.Pairwise sLt
theorem ba_inj {a b : ByteArray} (h : a.data.toList = b.data.toList) : a = b := WideShapes.bytes_inj h
theorem sLt_irrefl (a : ByteArray) : ¬ sLt a a := List.lt_irrefl _
theorem sLt_trans {a b c : ByteArray} (h : sLt a b) (h' : sLt b c) : sLt a c := List.lt_trans h h'
theorem sLt_tri {a b : ByteArray} (h : ¬ sLt a b) (hne : a ≠ b) : sLt b a := by
  unfold sLt at *
  rcases List.le_total a.data.toList b.data.toList with h1 | h1
  · exact absurd (List.le_antisymm h1 (List.not_lt.1 h)) (fun e => hne (ba_inj e))
  · exact List.not_le.1 fun h2 => hne (ba_inj (List.le_antisymm h2 h1))
open Classical in
noncomputable def addS : List ByteArray → ByteArray → List ByteArray
  | [], s => [s]
  | x :: r, s => if x = s then x :: r else if sLt s x then s :: x :: r else x :: addS r s
theorem mem_addS : ∀ (l : List ByteArray) (s y : ByteArray), y ∈ addS l s ↔ y ∈ l ∨ y = s
  | [], s, y => by simp [addS]
  | x :: r, s, y => by
    rw [addS]
    split
    · rename_i e; subst e; simp only [List.mem_cons]
      constructor
      · rintro (h | h)
        · exact Or.inl (Or.inl h)
        · exact Or.inl (Or.inr h)
      · rintro ((h | h) | h)
        · exact Or.inl h
        · exact Or.inr h
        · exact Or.inl h
    · split
      · simp only [List.mem_cons]
        constructor
        · rintro (h | h | h)
          · exact Or.inr h
          · exact Or.inl (Or.inl h)
          · exact Or.inl (Or.inr h)
        · rintro ((h | h) | h)
          · exact Or.inr (Or.inl h)
          · exact Or.inr (Or.inr h)
          · exact Or.inl h
      · simp only [List.mem_cons, mem_addS r s y, or_assoc]
theorem asc_addS : ∀ (l : List ByteArray) (s : ByteArray), AscS l → AscS (addS l s)
  | [], s, _ => by simp [addS, AscS]
  | x :: r, s, h => by
    obtain ⟨h1, h2⟩ := List.pairwise_cons.1 h
    rw [addS]
    split
    · exact h
    · rename_i hne
      split
      · rename_i hlt
        refine List.pairwise_cons.2 ⟨fun y hy => ?_, h⟩
        rcases List.mem_cons.1 hy with rfl | hy
        · exact hlt
        · exact sLt_trans hlt (h1 y hy)
      · rename_i hlt
        refine List.pairwise_cons.2 ⟨fun y hy => ?_, asc_addS r s h2⟩
        rcases (mem_addS r s y).1 hy with hy | rfl
        · exact h1 y hy
        · exact sLt_tri hlt (fun e => hne e.symm)
/-- The sorted set of a list. -/
noncomputable def setS (X : List ByteArray) : List ByteArray := X.foldl addS []
theorem foldS_mem : ∀ (X l : List ByteArray) (s : ByteArray), s ∈ X.foldl addS l ↔ s ∈ l ∨ s ∈ X
  | [], l, s => by simp
  | x :: r, l, s => by rw [List.foldl_cons, foldS_mem r, mem_addS, List.mem_cons, or_assoc]
theorem foldS_asc : ∀ (X l : List ByteArray), AscS l → AscS (X.foldl addS l)
  | [], _, h => h
  | x :: r, l, h => foldS_asc r _ (asc_addS l x h)
theorem setS_mem (X : List ByteArray) (s : ByteArray) : s ∈ setS X ↔ s ∈ X := by unfold setS; rw [foldS_mem]; simp
theorem setS_asc (X : List ByteArray) : AscS (setS X) := foldS_asc X [] List.Pairwise.nil
theorem setS_len (X : List ByteArray) : (setS X).length ≤ X.length := by
  have h : ∀ (l : List ByteArray) (s : ByteArray), (addS l s).length ≤ l.length + 1 := by
    intro l s
    induction l with
    | nil => simp [addS]
    | cons x r ih =>
      rw [addS]
      split
      · simp
      · split
        · simp
        · simp; omega
  have h2 : ∀ (X l : List ByteArray), (X.foldl addS l).length ≤ l.length + X.length := by
    intro X
    induction X with
    | nil => intro l; simp
    | cons x r ih => intro l; have h3 := ih (addS l x); have := h l x; simp only [List.foldl_cons, List.length_cons]; omega
  have := h2 X []
  unfold setS
  simpa using this
/-- The sorted keys of a set map. -/
theorem sorted_keys {w : World} {b n : Nat} {D : DataW Unit} {X : List ByteArray} (ho : w.ownsMap (H := Unit) Try.prog 9 (plainElem Try.prog 4) b n D) (hD : ∀ s : ByteArray, has D (keyS s) = true ↔ s ∈ X) {ss : List (List UInt8)} (hp : ss.Perm (strKeys D)) :
    (ss.mergeSort (fun x y => decide (x ≤ y))).map encStr = (setS X).map .string := by
  obtain ⟨es, rfl, hpw⟩ := ho.tidy lawS
  obtain ⟨es', he, hk⟩ := ho.keysOf
  cases he
  have hk' : ∀ p ∈ es, ∃ x, p.1 = .string x := fun p hp => by
    obtain ⟨key, hkey⟩ := hk p hp
    obtain ⟨x, _, e, _⟩ := Maps.keyOf_str Try.underlying9 hkey
    exact ⟨x, e⟩
  have hN : ((setS X).map fun s => s.data.toList).Perm (strKeys (.map es)) := by
    refine perm_strKeys hpw hk' ?_ fun x => ?_
    · refine List.pairwise_map.2 ((setS_asc X).imp fun {a b} h e => ?_)
      exact sLt_irrefl b (by unfold sLt at h; rw [e] at h; exact h)
    · have h := hD ⟨x.toArray⟩
      rw [show keyS ⟨x.toArray⟩ = .string x by simp [keyS]] at h
      rw [h, List.mem_map, ← setS_mem]
      constructor
      · rintro ⟨s, hs, rfl⟩; exact hs
      · intro hs; exact ⟨_, hs, by simp⟩
  have e1 := mergeSort_of_perm (hp.trans hN.symm)
  have e2 : ((setS X).map fun s => s.data.toList).mergeSort leB = (setS X).map fun s => s.data.toList := by
    refine List.mergeSort_of_pairwise (List.pairwise_map.2 ((setS_asc X).imp fun {a b} h => ?_))
    simp only [leB, decide_eq_true_eq]
    exact List.le_of_lt h
  rw [show (ss.mergeSort (fun x y => decide (x ≤ y))) = ss.mergeSort leB from rfl, e1, e2, List.map_map]
  refine List.map_congr_left fun s _ => ?_
  simp [encStr]
end Go.Proofs.Ytekhoanjpnjaeaa

