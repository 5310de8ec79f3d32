/- Bytes that came in as an argument, opened. -/
import Derived.Test.YtekhoanjpnjaeaaConcB
import Derived.Test.YtekhoanjpnjaeaaDecL
import Derived.Test.YtekhoanjpnjaeaaOpen
import Derived.SizedLaws
namespace Go.Proofs.Ytekhoanjpnjaeaa
open Go.RowKit Go.ChangeShapes Go.WideShapes
section
variable {H : Type} {enc : TypeId × Value → H} {w : World} {base : Nat} {spare : Nat → Bool} {held : Bool}
theorem plain_arg {P : Program} {t e : TypeId} {r : Reach} {b0 : Nat} {v : Value} (ht : P.underlying t = some (.slice e)) (hv : Value.okWide P w r b0 t v) : ∃ a len cap, v = .slice a len cap ∧ PlainA a cap := by
  simp only [Value.okWide, Cell.okWide, Cell.ok, ht] at hv
  cases v with
  | slice a len cap =>
    refine ⟨a, len, cap, rfl, ?_⟩
    cases a with
    | none =>
      left
      split at hv <;> simp_all
    | some a =>
      right
      obtain ⟨b, off, sp⟩ := a
      obtain ⟨_, _, _, hs, _⟩ := hv
      simp only at hs
      subst hs
      exact ⟨b, off, rfl⟩
  | _ => simp at hv
theorem byte_elem (fuel : Nat) (cs : List Value) (y : DataW H × List MemPlace) (h : DataW.trod enc Try.prog w base spare held fuel 5 cs = some y) : ∃ x : Int, (0 ≤ x ∧ x ≤ 255) ∧ cs = [.int .u8 x] := by
  obtain ⟨n0, c0, _, w0⟩ := DataW.trod_int Try.underlying5 h
  exact ⟨n0, ⟨(wf8 w0).1, by have := (wf8 w0).2; omega⟩, c0⟩
theorem flatB_eq (l : List Int) : l.flatMap (fun x => [Value.int .u8 x]) = bV l := by
  induction l with
  | nil => rfl
  | cons x xs ih => rw [List.flatMap_cons, ih]; rfl
theorem open_len {P : Program} {t e : TypeId} {va : Option Addr} {vl vc : Nat} {d : DataW H} {ps : List MemPlace} (ht : P.underlying t = some (.slice e)) (h : DataW.Trod enc P w base spare held t (.slice va vl vc) d ps) : vl = 0 ∨ ∃ elems sp, d = .slice elems sp ∧ elems.length = vl := by
  obtain ⟨fuel, hf⟩ := h
  rcases Deep.open_slice ht hf with ⟨h0, _⟩ | ⟨a, len, cap, m, n, D, Pl, hcs, _, hl, hm, hmm, hd, hi⟩
  · have h0' : Value.slice va vl vc = .slice none 0 0 := by simpa [Value.cells] using h0
    cases h0'; exact Or.inl rfl
  · have hc' : Value.slice va vl vc = .slice (some a) len cap := by simpa [Value.cells] using hcs
    cases hc'
    exact Or.inr ⟨_, _, (Prod.mk.inj hd).1, by simp⟩
theorem bytes5 : Try.prog.bytesOf 5 = 1 := by kernel_rfl
set_option maxRecDepth 100000 in
theorem open_bytes {r : Reach} {b0 j : Nat} {v : Value} {d : DataW H} {ps : List MemPlace} {ts : List TypeId} {ds : List (DataW H)} (hv : Value.okWide Try.prog w r b0 80 v) (h : DataW.Trod enc Try.prog w base spare held 80 v d ps)
    (hsz : (DataW.weightsEach Try.prog ts ds).all (· ≤ reachBytes) = true) (hj : ts[j]? = some 80) (hd : ds[j]? = some d) : ∃ l : List Int, Byts l ∧ l.length ≤ 140737488351232 ∧ ByV (fun _ => True) w l v := by
  obtain ⟨a, len, cap, rfl, hp⟩ := plain_arg Try.underlying80 hv
  obtain ⟨l, hok, hxl, hrow⟩ := open_rows (fun x : Int => [Value.int .u8 x]) (fun x => 0 ≤ x ∧ x ≤ 255) 1 (fun _ => rfl) (by omega) Try.underlying80 cellsT5 byte_elem ⟨a, len, cap, rfl⟩ h
  rw [flatB_eq] at hrow
  obtain ⟨_, _, hs, _⟩ := hrow.shape
  cases hs
  refine ⟨l, fun b hb => hok b hb, ?_, a, cap, rfl, hrow, hp⟩
  rcases open_len Try.underlying80 h with e | ⟨elems, sp, rfl, he⟩
  · omega
  · have := sized_slice hsz hj hd Try.underlying80
    rw [bytes5] at this
    unfold reachBytes at this
    omega
end
end Go.Proofs.Ytekhoanjpnjaeaa
