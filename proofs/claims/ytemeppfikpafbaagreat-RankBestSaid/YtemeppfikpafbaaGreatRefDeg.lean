/- The reference's Degrees (27). -/
import Derived.Test.YtemeppfikpafbaaGreatJoin
import Derived.Laws.AppendOwnNone
import Derived.Test.YtemeppfikpafbaaGreatInvS
import Derived.Deep.DeepCutAuto
namespace Go.Proofs.YtemeppfikpafbaaGreat
open Go.RowKit
def tC (x : K4 × Nat) : List Value := [.int .u8 x.1.kind, .int .i64 x.1.a, .int .i64 x.1.b, .int .i64 x.1.n, .int .i64 x.2]
theorem tC_len (x : K4 × Nat) : (tC x).length = 5 := rfl
theorem kC_one (l : List K4) : ∀ u ∈ flatC kC l, u.oneCell' = true := by
  intro u hu
  unfold flatC at hu
  obtain ⟨x, _, hx⟩ := List.mem_flatMap.1 hu
  simp [kC] at hx
  rcases hx with rfl | rfl | rfl | rfl <;> rfl
theorem keysL_take (l : List Cau) (j : Nat) (h : j < l.length) : keysL (l.take (j + 1)) = keysL (l.take j) ++ l[j].undo := by
  unfold keysL
  rw [List.take_succ_eq_append_getElem h, List.flatMap_append]
  simp
theorem keysL_le (l : List Cau) (j : Nat) : (keysL (l.take j)).length ≤ (keysL l).length := by
  have h : keysL l = keysL (l.take j) ++ keysL (l.drop j) := by unfold keysL; rw [← List.flatMap_append, List.take_append_drop]
  rw [h, List.length_append]; omega
theorem insT_len (x : K4 × Nat) : ∀ l : List (K4 × Nat), (insT x l).length = l.length + 1
  | [] => rfl
  | y :: r => by
    unfold insT
    split
    · rfl
    · simp [insT_len x r]
theorem shF_len (l : List Cau) (ks : List K4) : (shF l ks).length = ks.length := by
  have h : ∀ (ks : List K4) (out : List (K4 × Nat)), (ks.foldl (fun out k => insT (k, jointN l [k]) out) out).length = out.length + ks.length := by
    intro ks
    induction ks with
    | nil => intro out; rfl
    | cons k r ih => intro out; rw [List.foldl_cons, ih, insT_len, List.length_cons]; omega
  have := h ks []
  unfold shF
  simpa using this
theorem shF_mem (l : List Cau) (ks : List K4) (x : K4 × Nat) : x ∈ shF l ks ↔ x.1 ∈ ks ∧ x.2 = jointN l [x.1] := by
  unfold shF
  rw [mem_shF]; simp
theorem stT_le (x : K4 × Nat) : ∀ (l : List (K4 × Nat)) (s : List (K4 × Nat) × Bool), (l.foldl (stT x) s).1.length ≤ s.1.length + 2 * l.length
  | [], s => by simp
  | y :: r, s => by
    have h1 := stT_le x r (stT x s y)
    have h2 : (stT x s y).1.length ≤ s.1.length + 2 := by
      unfold stT
      split <;> simp
    simp only [List.foldl_cons, List.length_cons]; omega
theorem flatK_get {x : K4} {j : Nat} {u : Value} (h : (flatC kC [x])[j]? = some u) : (kC x)[j]? = some u := by simpa [flatC] using h
end Go.Proofs.YtemeppfikpafbaaGreat
