/- The arguments of the laws on tables, opened: a script of changes, a list of pairs, a row of bytes, a pair. -/
import Derived.Test.YtekhoanjpnjaeaaPlayL
import Derived.Test.YtekhoanjpnjaeaaOpen
namespace Go.Proofs.Ytekhoanjpnjaeaa
open Go.RowKit Go.ChangeShapes Go.WideShapes
section
variable {H : Type} {enc : TypeId × Value → H} {w : World} {base : Nat} {spare : Nat → Bool} {held : Bool}
theorem cells145 : Try.prog.cellsOf 145 = 4 := by kernel_rfl
theorem cells66 : Try.prog.cellsOf 66 = 2 := by kernel_rfl
instance : Inhabited OpD := ⟨⟨0, false, 0, 0⟩⟩
theorem four_of {l : List Value} (hl : l.length = 4) {a b c d : Value} (h0 : l[0]? = some a) (h1 : l[1]? = some b) (h2 : l[2]? = some c) (h3 : l[3]? = some d) : l = [a, b, c, d] := by
  match l, hl with
  | [_, _, _, _], _ => simp_all
theorem op_elem (fuel : Nat) (cs : List Value) (y : DataW H × List MemPlace) (h : DataW.trod enc Try.prog w base spare held fuel 145 cs = some y) : ∃ x : OpD, x.ok ∧ cs = opC x := by
  obtain ⟨xs, n, _, _, hl, hxl, hf⟩ := DataW.trod_struct Try.underlying145 h
  rw [cells145] at hl
  have f0 := hf 0 _ rfl
  have f1 := hf 1 _ rfl
  have f2 := hf 2 _ rfl
  have f3 := hf 3 _ rfl
  have g : ∀ j, j < 4 → ∃ z, xs[j]? = some z := fun j hj => ⟨_, List.getElem?_eq_getElem (by rw [hxl]; exact hj)⟩
  obtain ⟨z0, e0⟩ := g 0 (by omega)
  obtain ⟨z1, e1⟩ := g 1 (by omega)
  obtain ⟨z2, e2⟩ := g 2 (by omega)
  obtain ⟨z3, e3⟩ := g 3 (by omega)
  rw [e0] at f0; rw [e1] at f1; rw [e2] at f2; rw [e3] at f3
  obtain ⟨n0, c0, _, w0⟩ := DataW.trod_int Try.underlying5 f0
  obtain ⟨b1, c1, _⟩ := DataW.trod_bool Try.underlying4 f1
  obtain ⟨n2, c2, _, w2⟩ := DataW.trod_int Try.underlying2 f2
  obtain ⟨n3, c3, _, w3⟩ := DataW.trod_int Try.underlying2 f3
  change (cs.drop 0).take (Try.prog.cellsOf 5) = _ at c0
  change (cs.drop 1).take (Try.prog.cellsOf 4) = _ at c1
  change (cs.drop 2).take (Try.prog.cellsOf 2) = _ at c2
  change (cs.drop 3).take (Try.prog.cellsOf 2) = _ at c3
  rw [cellsT5] at c0
  rw [cellsT4] at c1
  rw [cellsT2] at c2 c3
  exact ⟨⟨n0, b1, n2, n3⟩, ⟨(wf8 w0).1, by have := (wf8 w0).2; omega, in64_of w2, in64_of w3⟩, four_of hl (one_of c0) (one_of c1) (one_of c2) (one_of c3)⟩
end
end Go.Proofs.Ytekhoanjpnjaeaa
