/- Texts SetM, laid together. -/
import Derived.Sort.KeysCollected
import Derived.Sort.EncStr
import Derived.Test.YtekhoanjpnjaeaaNd
import Derived.Test.YtekhoanjpnjaeaaNk
/- Sets of names held as maps to true; the names of a tree, in plain words. -/
namespace Go.Proofs.Ytekhoanjpnjaeaa
open Go.RowKit Go.Maps

mutual
/-- The names (or, with k, the tables) of a tree, in the order of the walk. -/
def nms (k : Bool) : Ex → List ByteArray | .node op name _ args => (if (if k then 6 ≤ op ∧ op ≤ 8 else op = 5) then [name] else []) ++ nmsL k args
def nmsL (k : Bool) : List Ex → List ByteArray | [] => [] | t :: ts => nms k t ++ nmsL k ts
end
def nmsN (k : Bool) (op : Int) (name : ByteArray) : List ByteArray := if (if k then 6 ≤ op ∧ op ≤ 8 else op = 5) then [name] else []
theorem nms_eq (k : Bool) (t : Ex) : nms k t = nmsN k t.op t.name ++ nmsL k t.args := by
  obtain ⟨op, name, n, args⟩ := t
  rw [nms]; rfl
theorem nmsL_take (k : Bool) (l : List Ex) (i : Nat) (h : i < l.length) : nmsL k (l.take (i + 1)) = nmsL k (l.take i) ++ nms k l[i] := by
  induction l generalizing i with
  | nil => simp at h
  | cons t ts ih =>
    cases i with
    | zero => simp [nmsL]
    | succ i => simp [nmsL, ih i (by simpa using h), List.append_assoc]
def boolD (b : Bool) : DataW Unit := .lit (.bool b)
/-- Block b is a map to true whose keys are these names. -/
def SetMap (w : World) (b : Nat) (X : List ByteArray) : Prop :=
  ∃ n D, w.ownsMap (H := Unit) Try.prog 9 (plainElem Try.prog 4) b n D ∧ n ≤ X.length ∧ ∀ s : ByteArray, has D (keyS s) = true ↔ s ∈ X
theorem SetMap.start (w : World) : SetMap (w.alloc (.map #[] 0)) w.heap.size [] :=
  ⟨0, .map [], World.ownsMap_made w _ _ _, Nat.le_refl _, fun s => by simp [has_eq]⟩
theorem SetMap.keep {w w' : World} {b : Nat} {X : List ByteArray} (h : SetMap w b X) (hb : w'.heap[b]? = w.heap[b]?) : SetMap w' b X := by
  obtain ⟨n, D, ⟨es, clock, h1, h2⟩, h3⟩ := h
  exact ⟨n, D, ⟨es, clock, hb.trans h1, h2⟩, h3⟩
theorem SetMap.lt {w : World} {b : Nat} {X : List ByteArray} (h : SetMap w b X) : b < w.heap.size := by
  obtain ⟨n, D, h1, _⟩ := h
  exact h1.lt
theorem SetMap.below {w w' : World} {b : Nat} {X : List ByteArray} (h : SetMap w b X) (hB : Below w.heap.size w w') : SetMap w' b X := h.keep (hB.block _ h.lt)
theorem SetMap.put {w' : World} {b n : Nat} {X : List ByteArray} {D : DataW Unit} {x : ByteArray} (hm : IsMap D) (hn : n ≤ X.length) (hD : ∀ s : ByteArray, has D (keyS s) = true ↔ s ∈ X)
    (h : w'.ownsMap (H := Unit) Try.prog 9 (plainElem Try.prog 4) b (n + 1) (D.put (keyS x) (boolD true))) : SetMap w' b (X ++ [x]) := by
  refine ⟨n + 1, _, h, by simp; omega, fun s => ?_⟩
  by_cases e : x = s
  · rw [e, has_put_same hm (show WideAt.IsKeyLit (keyS s) from trivial)]; simp
  · have hne : keyS s ≠ keyS x := fun he => e (keyS_inj he).symm
    rw [has_put_other hne, hD s, List.mem_append, List.mem_singleton]
    exact ⟨Or.inl, fun h => h.elim id (fun h => absurd h.symm e)⟩
theorem run_makeMap181 (w : World) : (Instr.makeMap 181 none).run Try.prog w = .ok (.map (some w.heap.size)) (w.alloc (.map #[] 0)) := by
  simp [Instr.makeMap]
/-- What may have turned: these two blocks alone. -/
structure Two (w w' : World) (b1 b2 : Nat) : Prop where
  os : w'.os = w.os
  tape : w'.tape = w.tape
  output : w'.output = w.output
  size : w.heap.size ≤ w'.heap.size
  block : ∀ k, k < w.heap.size → k ≠ b1 → k ≠ b2 → w'.heap[k]? = w.heap[k]?
theorem Two.refl (w : World) (b1 b2 : Nat) : Two w w b1 b2 := ⟨rfl, rfl, rfl, Nat.le_refl _, fun _ _ _ _ => rfl⟩
theorem Two.trans {a b c : World} {b1 b2 : Nat} (h : Two a b b1 b2) (h' : Two b c b1 b2) : Two a c b1 b2 :=
  ⟨h'.os.trans h.os, h'.tape.trans h.tape, h'.output.trans h.output, Nat.le_trans h.size h'.size, fun k hk h1 h2 => (h'.block k (Nat.lt_of_lt_of_le hk h.size) h1 h2).trans (h.block k hk h1 h2)⟩
theorem Two.of_grown {w w' : World} {b1 b2 r : Nat} (h : w.grownBy w' (some r)) (hr : r = b1 ∨ r = b2) : Two w w' b1 b2 :=
  ⟨h.os, h.tape, h.output, h.size, fun k hk h1 h2 => h.block k hk (fun e => by cases e; rcases hr with e | e; exact h1 e; exact h2 e)⟩
theorem Two.cell {w w' : World} {b1 b2 b off : Nat} {v : Value} (h : Two w w' b1 b2) (hc : w.cell? ⟨b, off, none⟩ = some v) (h1 : b ≠ b1) (h2 : b ≠ b2) : w'.cell? ⟨b, off, none⟩ = some v := by
  rw [World.cell?_of_block (w := w) (a := ⟨b, off, none⟩) (h.block b (cell_lt hc) h1 h2)]; exact hc
theorem Two.below {B : Nat} {w w' : World} {b1 b2 : Nat} (h : Two w w' b1 b2) (hB : B ≤ w.heap.size) (h1 : B ≤ b1) (h2 : B ≤ b2) : Below B w w' :=
  ⟨h.os, h.tape, h.output, h.size, fun k hk => h.block k (by omega) (by omega) (by omega)⟩
end Go.Proofs.Ytekhoanjpnjaeaa

