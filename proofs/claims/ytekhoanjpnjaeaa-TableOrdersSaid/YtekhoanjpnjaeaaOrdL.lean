/- Changes of tables, in plain words: they commute, and are undone. A pair that came in, opened. -/
import Derived.Test.YtekhoanjpnjaeaaOpenP
import Derived.Test.YtekhoanjpnjaeaaEqT
namespace Go.Proofs.Ytekhoanjpnjaeaa
open Go.RowKit Go.ChangeShapes Go.WideShapes
theorem put_comm {t : List (Int × Int)} (h : Asc t) {a b : Int} (hab : a ≠ b) (x y : Int) : putL (putL t a x) b y = putL (putL t b y) a x :=
  asc_ext (asc_put (asc_put h _ _) _ _) (asc_put (asc_put h _ _) _ _) fun k => by
    rw [get_put (asc_put h _ _), get_put h, get_put (asc_put h _ _), get_put h]
    by_cases h1 : a = k <;> by_cases h2 : b = k <;> simp [h1, h2]
    exact absurd (h1.trans h2.symm) hab
theorem del_put {t : List (Int × Int)} (h : Asc t) {a b : Int} (hab : a ≠ b) (y : Int) : putL (delL t a) b y = delL (putL t b y) a :=
  asc_ext (asc_put (asc_del h _) _ _) (asc_del (asc_put h _ _) _) fun k => by
    rw [get_put (asc_del h _), get_del, get_del, get_put h]
    by_cases h1 : a = k <;> by_cases h2 : b = k <;> simp [h1, h2]
    exact absurd (h1.trans h2.symm) hab
theorem put_back {t : List (Int × Int)} (h : Asc t) {a v : Int} (hg : getL t a = some v) (x : Int) : putL (putL t a x) a v = t :=
  asc_ext (asc_put (asc_put h _ _) _ _) h fun k => by
    rw [get_put (asc_put h _ _), get_put h]
    by_cases h1 : a = k
    · subst h1; simp [hg]
    · simp [h1]
theorem del_back {t : List (Int × Int)} (h : Asc t) {a v : Int} (hg : getL t a = some v) : putL (delL t a) a v = t :=
  asc_ext (asc_put (asc_del h _) _ _) h fun k => by
    rw [get_put (asc_del h _), get_del]
    by_cases h1 : a = k
    · subst h1; simp [hg]
    · simp [h1]
theorem put_gone {t : List (Int × Int)} (h : Asc t) {a : Int} (hg : getL t a = none) (x : Int) : delL (putL t a x) a = t :=
  asc_ext (asc_del (asc_put h _ _) _) h fun k => by
    rw [get_del, get_put h]
    by_cases h1 : a = k
    · subst h1; simp [hg]
    · simp [h1]
theorem put_longer : ∀ {t : List (Int × Int)} {a : Int}, getL t a = none → ∀ x, (putL t a x).length = t.length + 1
  | [], _, _, _ => rfl
  | z :: r, a, h, x => by
    rw [getL_cons] at h
    split at h
    · cases h
    · have ih := put_longer h x
      simp only [putL]
      repeat' split
      all_goals simp_all
section
variable {H : Type} {enc : TypeId × Value → H} {w : World} {base : Nat} {spare : Nat → Bool} {held : Bool}
set_option maxRecDepth 100000 in
theorem open_pair {r : Reach} {b0 : Nat} {v : Value} {d : DataW H} {ps : List MemPlace} (hv : Value.okWide Try.prog w r b0 66 v) (h : DataW.Trod enc Try.prog w base spare held 66 v d ps) :
    ∃ x : Int × Int, v = .agg #[.int .i64 x.1, .int .i64 x.2] ∧ I64 x.1 ∧ I64 x.2 := by
  simp only [Value.okWide, Try.underlying66] at hv
  obtain ⟨cs, rfl, _, _⟩ := hv
  obtain ⟨fuel, hf⟩ := h
  obtain ⟨x, hx, hc⟩ := pair_elem _ _ _ hf
  refine ⟨x, ?_, hx⟩
  have : cs.toList = cellsP x := by simpa [Value.cells] using hc
  congr 1
  exact Array.toList_inj.1 this
end
end Go.Proofs.Ytekhoanjpnjaeaa
