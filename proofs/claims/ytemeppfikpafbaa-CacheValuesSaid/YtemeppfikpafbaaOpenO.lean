/- Arguments that are lists of structs, opened; the operations of CachePlays. -/
import Derived.Test.YtemeppfikpafbaaPlyP
import Derived.Test.YtemeppfikpafbaaAwkC
import Derived.Deep.Slices
import Derived.ProofKit
namespace Go.Proofs.Ytemeppfikpafbaa
open Go.RowKit Go.ChangeShapes Go.WideShapes
section
variable {H : Type} {enc : TypeId × Value → H} {P : Program} {w : World} {base : Nat} {spare : Nat → Bool} {held : Bool}

theorem flatMap_get {α : Type} (g : α → List Value) (C : Nat) (hg : ∀ x, (g x).length = C) : ∀ (xs : List α) (j : Nat) (u : Value), (xs.flatMap g)[j]? = some u → ∃ i r, ∃ h : i < xs.length, r < C ∧ j = i * C + r ∧ (g xs[i])[r]? = some u
  | [], j, u, h => by simp at h
  | x :: xs, j, u, h => by
    rw [List.flatMap_cons] at h
    by_cases hj : j < C
    · rw [List.getElem?_append_left (by rw [hg]; exact hj)] at h
      exact ⟨0, j, by simp, hj, by simp, by simpa using h⟩
    · rw [List.getElem?_append_right (by rw [hg]; omega), hg] at h
      obtain ⟨i, r, hi, hr, hjr, hu⟩ := flatMap_get g C hg xs _ u h
      exact ⟨i + 1, r, by simpa using hi, hr, by rw [Nat.add_mul]; omega, by simpa using hu⟩
theorem flatMap_len {α : Type} (g : α → List Value) (C : Nat) (hg : ∀ x, (g x).length = C) (xs : List α) : (xs.flatMap g).length = xs.length * C := by
  induction xs with
  | nil => simp
  | cons x xs ih => rw [List.flatMap_cons, List.length_append, hg, ih, List.length_cons, Nat.add_mul]; omega

theorem cell_spot {w : World} {a : Addr} {v : Value} (h : w.cell? a = some v) : a.spot = none := by
  unfold World.cell? at h
  split at h
  · split at h
    · cases h
    · rename_i hs; simpa using hs
  · cases h

/-- A slice whose elements are each known cell by cell. -/
theorem open_rows {α : Type} [Inhabited α] {t e : TypeId} {v : Value} {d : DataW H} {ps : List MemPlace} (g : α → List Value) (Ok : α → Prop) (C : Nat) (hg : ∀ x, (g x).length = C) (hC0 : 0 < C) (ht : P.underlying t = some (.slice e)) (hC : P.cellsOf e = C)
    (helem : ∀ fuel cs y, DataW.trod enc P w base spare held fuel e cs = some y → ∃ x, Ok x ∧ cs = g x)
    (hv : ∃ a len cap, v = .slice a len cap) (h : DataW.Trod enc P w base spare held t v d ps) : ∃ xs : List α, (∀ x ∈ xs, Ok x) ∧ xs.length ≤ maxLen ∧ Row (fun _ => True) w C xs.length v (xs.flatMap g) := by
  obtain ⟨va, vl, vc, rfl⟩ := hv
  obtain ⟨fuel, hf⟩ := h
  rcases Deep.open_slice ht hf with ⟨h0, _⟩ | ⟨a, len, cap, m, n, D, Pl, hcs, _, hl, hm, hmm, _, hi⟩
  · have h0' : Value.slice va vl vc = .slice none 0 0 := by simpa [Value.cells] using h0
    rw [h0']
    exact ⟨[], fun x hx => by (cases hx), Nat.zero_le _, Row.nil _ _ _ _ _⟩
  · have hc' : Value.slice va vl vc = .slice (some a) len cap := by simpa [Value.cells] using hcs
    rw [hc']
    have hlm : len ≤ m := by rw [hmm]; split <;> omega
    have hex : ∀ i, i < len → ∃ x, Ok x ∧ w.cells? base (a.add (i * C)) C = some (g x) := by
      intro i hil
      obtain ⟨cs', h1, h2⟩ := hi i (by omega)
      rw [hC] at h1
      obtain ⟨x, hx, rfl⟩ := helem _ _ _ h2
      exact ⟨x, hx, h1⟩
    obtain ⟨f, hf'⟩ := Deep.choose_lt hex
    refine ⟨(List.range len).map f, fun x hx => ?_, by simp; omega, ?_⟩
    · obtain ⟨i, hi', rfl⟩ := List.mem_map.1 hx
      exact (hf' i (by simpa using hi')).1
    · refine ⟨flatMap_len g C hg _, some a, cap, by simp, by simpa using hl, fun hn => ?_⟩
      have hlen : 0 < len := by simp at hn; omega
      have hcell : ∀ i, i < len → ∀ r, r < C → w.cell? (a.add (i * C + r)) = (g (f i))[r]? := by
        intro i hil r hr
        obtain ⟨_, _, h3⟩ := World.cells?_some (hf' i hil).2
        rw [← Deep.add_add]; exact h3 r hr
      have hsp : a.spot = none := by
        have h00 := hcell 0 hlen 0 hC0
        rw [List.getElem?_eq_getElem (by rw [hg]; exact hC0)] at h00
        have := cell_spot h00
        simpa [Addr.add] using this
      obtain ⟨b, off, sp⟩ := a
      simp only at hsp
      subst hsp
      refine ⟨b, off, rfl, trivial, fun j u hj => ?_⟩
      obtain ⟨i, r, hi', hr, rfl, hu⟩ := flatMap_get g C hg _ j u hj
      have hil : i < len := by simpa using hi'
      have := hcell i hil r hr
      simp only [List.getElem_map, List.getElem_range] at hu
      rw [hu] at this
      rw [← this]
      unfold Addr.add
      split
      · rename_i h0; rw [h0]; rfl
      · rfl
end
theorem one_of {l : List Value} {j : Nat} {v : Value} (h : (l.drop j).take 1 = [v]) : l[j]? = some v := by
  have := congrArg (·[0]?) h
  simpa using this
theorem u8_of {n : Int} (h : (Lit.int .u8 n).wf = true) : 0 ≤ n ∧ n ≤ 255 := by
  simpa [Lit.wf, IntKind.min, IntKind.max, IntKind.signed, IntKind.bits] using h
theorem u8_nat {n : Int} (h : (Lit.int .u8 n).wf = true) : ∃ k : Nat, n = k ∧ k < 256 := by
  have := u8_of h
  exact ⟨n.toNat, by omega, by omega⟩
theorem six_of {l : List Value} (hl : l.length = 6) {a b c d e f : Value} (h0 : l[0]? = some a) (h1 : l[1]? = some b) (h2 : l[2]? = some c) (h3 : l[3]? = some d) (h4 : l[4]? = some e) (h5 : l[5]? = some f) : l = [a, b, c, d, e, f] := by
  match l, hl with
  | [_, _, _, _, _, _], _ => simp_all
/-- An operation. -/
structure OpP where
  d : Nat
  c : Nat
  h : Nat
  k : Nat
  v : Bool
  t : Bool
instance : Inhabited OpP := ⟨⟨0, 0, 0, 0, false, false⟩⟩
def oC (x : OpP) : List Value := [.int .u8 x.d, .int .u16 x.c, .int .u16 x.h, .int .u16 x.k, .bool x.v, .bool x.t]
theorem oC_len (x : OpP) : (oC x).length = 6 := rfl
structure OpP.Ok (x : OpP) : Prop where
  d : x.d < 256
  c : x.c < 65536
  h : x.h < 65536
  k : x.k < 65536
theorem cells66 : Try.prog.cellsOf 66 = 6 := by kernel_rfl
theorem cells5 : Try.prog.cellsOf 5 = 1 := by kernel_rfl
theorem cells64 : Try.prog.cellsOf 64 = 1 := by kernel_rfl
theorem cells4 : Try.prog.cellsOf 4 = 1 := by kernel_rfl
section
variable {H : Type} {enc : TypeId × Value → H} {w : World} {base : Nat} {spare : Nat → Bool} {held : Bool}
theorem op_elem (fuel : Nat) (cs : List Value) (y : DataW H × List MemPlace) (h : DataW.trod enc Try.prog w base spare held fuel 66 cs = some y) : ∃ x : OpP, x.Ok ∧ cs = oC x := by
  obtain ⟨xs, n, _, _, hl, hxl, hf⟩ := DataW.trod_struct Try.underlying66 h
  rw [cells66] at hl
  have f0 := hf 0 _ rfl
  have f1 := hf 1 _ rfl
  have f2 := hf 2 _ rfl
  have f3 := hf 3 _ rfl
  have f4 := hf 4 _ rfl
  have f5 := hf 5 _ rfl
  have g : ∀ j, j < 6 → ∃ z, xs[j]? = some z := fun j hj => ⟨_, List.getElem?_eq_getElem (by rw [hxl]; exact hj)⟩
  obtain ⟨z0, e0⟩ := g 0 (by omega)
  obtain ⟨z1, e1⟩ := g 1 (by omega)
  obtain ⟨z2, e2⟩ := g 2 (by omega)
  obtain ⟨z3, e3⟩ := g 3 (by omega)
  obtain ⟨z4, e4⟩ := g 4 (by omega)
  obtain ⟨z5, e5⟩ := g 5 (by omega)
  rw [e0] at f0; rw [e1] at f1; rw [e2] at f2; rw [e3] at f3; rw [e4] at f4; rw [e5] at f5
  obtain ⟨n0, c0, _, w0⟩ := DataW.trod_int Try.underlying5 f0
  obtain ⟨n1, c1, _, w1⟩ := DataW.trod_int Try.underlying64 f1
  obtain ⟨n2, c2, _, w2⟩ := DataW.trod_int Try.underlying64 f2
  obtain ⟨n3, c3, _, w3⟩ := DataW.trod_int Try.underlying64 f3
  obtain ⟨b4, c4, _⟩ := DataW.trod_bool Try.underlying4 f4
  obtain ⟨b5, c5, _⟩ := DataW.trod_bool Try.underlying4 f5
  change (cs.drop 0).take (Try.prog.cellsOf 5) = _ at c0
  change (cs.drop 1).take (Try.prog.cellsOf 64) = _ at c1
  change (cs.drop 2).take (Try.prog.cellsOf 64) = _ at c2
  change (cs.drop 3).take (Try.prog.cellsOf 64) = _ at c3
  change (cs.drop 4).take (Try.prog.cellsOf 4) = _ at c4
  change (cs.drop 5).take (Try.prog.cellsOf 4) = _ at c5
  rw [cells5] at c0
  rw [cells64] at c1 c2 c3
  rw [cells4] at c4 c5
  obtain ⟨k0, rfl, h0⟩ := u8_nat w0
  obtain ⟨k1, rfl, h1⟩ := u16_nat w1
  obtain ⟨k2, rfl, h2⟩ := u16_nat w2
  obtain ⟨k3, rfl, h3⟩ := u16_nat w3
  exact ⟨⟨k0, k1, k2, k3, b4, b5⟩, ⟨h0, h1, h2, h3⟩, six_of hl (one_of c0) (one_of c1) (one_of c2) (one_of c3) (one_of c4) (one_of c5)⟩
theorem open_ops {v : Value} {d : DataW H} {ps : List MemPlace} (hv : ∃ a len cap, v = .slice a len cap) (h : DataW.Trod enc Try.prog w base spare held 60 v d ps) : ∃ ops : List OpP, (∀ x ∈ ops, x.Ok) ∧ ops.length ≤ maxLen ∧ Row anyB w 6 ops.length v (flatC oC ops) :=
  open_rows oC OpP.Ok 6 oC_len (by omega) Try.underlying60 cells66 op_elem hv h
end
end Go.Proofs.Ytemeppfikpafbaa
