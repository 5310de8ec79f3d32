/- An environment has the same values as the program has it. No program in sight. -/
import Derived.Test.YtekhoanjpnjaeaaEnv
namespace Go.Proofs.Ytekhoanjpnjaeaa
open Go.RowKit
theorem tabOf_prog (e : EnvD) (s : ByteArray) : (progE e).tabOf s = ofL (e.tabOf s) := by
  unfold EnvD.tabOf progE
  simp only [List.getElem?_map]
  cases e.tabs[(placeN e.tnames s).getD 0]? with
  | none => rfl
  | some t => rfl
theorem look_of (l : List (Int × Int)) (k : Int) : lookT (ofL l) k = lookT l k := by rw [look_asc (asc_of l), get_of, look_last]
theorem dist_of (l : List (Int × Int)) : (distL (ofL l)).length = (distL l).length := by rw [dist_asc (asc_of l), dist_length]
theorem valN_prog (e : EnvD) (op : Int) (name : ByteArray) (n : Int) (vs : List Int) : valN (progE e) op name n vs = valN e op name n vs := by
  unfold valN
  rw [tabOf_prog, look_of, dist_of]
  rfl
theorem valT_prog (e : EnvD) : ∀ t, valT (progE e) t = valT e t := by
  apply Ex.indT
  intro op name n args ih
  rw [valT_eq, valT_eq, valN_prog]
  simp only [Ex.op, Ex.name, Ex.n, Ex.args]
  rw [List.map_congr_left ih]
theorem boundT_prog (e : EnvD) : ∀ t, boundT (progE e) t = boundT e t := by
  apply Ex.indT
  intro op name n args ih
  rw [boundT_eq, boundT_eq]
  simp only [Ex.op, Ex.name, Ex.args]
  have h1 : boundN (progE e) op name = boundN e op name := rfl
  rw [h1]
  congr 1
  rw [Bool.eq_iff_iff, boundL_iff, boundL_iff]
  constructor
  · intro h t ht; rw [← ih t ht]; exact h t ht
  · intro h t ht; rw [ih t ht]; exact h t ht
theorem evalV_prog (e : EnvD) (t : Ex) : evalV (progE e) t = evalV e t := by
  unfold evalV
  rw [boundT_prog, valT_prog]
  have h1 : (progE e).tabs.length = e.tabs.length := by simp [progE]
  rw [h1]
  rfl
theorem EnvRaw.more {S : Nat → Prop} {w w' : World} {e : EnvD} {c1 c2 c3 c4 : Value} (h : EnvRaw S w e c1 c2 c3 c4) (hm : More w w') : EnvRaw S w' e c1 c2 c3 c4 := by
  obtain ⟨a, b, c, ⟨ts, d, hd⟩, f, g, i⟩ := h
  have hB := hm.below
  exact ⟨a.below hB, b.below hB, c.below hB, ⟨ts, d.below hB, fun i hi => by obtain ⟨tv, h1, h2⟩ := hd i hi; exact ⟨tv, h1, h2.below hB⟩⟩, f, g, i⟩
end Go.Proofs.Ytekhoanjpnjaeaa
