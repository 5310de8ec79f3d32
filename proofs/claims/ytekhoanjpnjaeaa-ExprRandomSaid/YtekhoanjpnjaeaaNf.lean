/- Texts FoldLaw, laid together. -/
import Derived.Test.YtekhoanjpnjaeaaNd
/- Plain facts on folding: what is folded keeps its form; constants have their values. -/
namespace Go.Proofs.Ytekhoanjpnjaeaa
open Go.RowKit
mutual
theorem Ex.indT {P : Ex → Prop} (h : ∀ op name n args, (∀ t ∈ args, P t) → P (.node op name n args)) : ∀ t, P t
  | .node op name n args => h op name n args (Ex.indL h args)
theorem Ex.indL {P : Ex → Prop} (h : ∀ op name n args, (∀ t ∈ args, P t) → P (.node op name n args)) : ∀ (l : List Ex) (t : Ex), t ∈ l → P t
  | [], _, ht => by cases ht
  | x :: xs, t, ht => by
    rcases List.mem_cons.1 ht with e | e
    · rw [e]; exact Ex.indT h x
    · exact Ex.indL h xs t e
end
theorem formed_mk {op n : Int} {name : ByteArray} {l : List Ex} (h1 : (l.length : Int) = opnd op) (h2 : ∀ t ∈ l, t.formed = true) : (Ex.node op name n l).formed = true := by
  rw [Ex.formed_eq]
  rw [Bool.and_eq_true]
  exact ⟨decide_eq_true h1, (formedL_iff _).2 h2⟩
theorem formed_op {t : Ex} (h : t.formed = true) : 1 ≤ t.op ∧ t.op ≤ 23 := by
  have h1 := (formed_args h).1
  unfold opnd at h1
  repeat' split at h1
  all_goals omega
end Go.Proofs.Ytekhoanjpnjaeaa

