/- Texts OpnG, laid together. -/
import Derived.Deep.Slices
import Derived.ProofKit
import Derived.OpenShut
import Derived.Test.YtemeppfikpafbaaRo
/- The argument of the certificate laws (type 94), opened: choices, keys, holds and numbers. -/
namespace Go.Proofs.Ytemeppfikpafbaa
open Go.RowKit Go.ChangeShapes Go.WideShapes
section
variable {H : Type} {enc : TypeId × Value → H} {P : Program} {w : World} {base : Nat} {spare : Nat → Bool} {held : Bool}

theorem flatMap_getG {α : Type} (g : α → List Value) (C : Nat) (hg : ∀ x, (g x).length = C) : ∀ (xs : List α) (j : Nat) (u : Value), (xs.flatMap g)[j]? = some u → ∃ i r, ∃ h : i < xs.length, r < C ∧ j = i * C + r ∧ (g xs[i])[r]? = some u
  | [], j, u, h => by simp at h
  | x :: xs, j, u, h => by
    rw [List.flatMap_cons] at h
    by_cases hj : j < C
    · rw [List.getElem?_append_left (by rw [hg]; exact hj)] at h
      exact ⟨0, j, by simp, hj, by simp, by simpa using h⟩
    · rw [List.getElem?_append_right (by rw [hg]; omega), hg] at h
      obtain ⟨i, r, hi, hr, hjr, hu⟩ := flatMap_getG g C hg xs _ u h
      exact ⟨i + 1, r, by simpa using hi, hr, by rw [Nat.add_mul]; omega, by simpa using hu⟩
theorem flatMap_lenG {α : Type} (g : α → List Value) (C : Nat) (hg : ∀ x, (g x).length = C) (xs : List α) : (xs.flatMap g).length = xs.length * C := by
  induction xs with
  | nil => simp
  | cons x xs ih => rw [List.flatMap_cons, List.length_append, hg, ih, List.length_cons, Nat.add_mul]; omega

theorem cell_spotG {w : World} {a : Addr} {v : Value} (h : w.cell? a = some v) : a.spot = none := by
  unfold World.cell? at h
  split at h
  · split at h
    · cases h
    · rename_i hs; simpa using hs
  · cases h

/-- A slice whose elements are each known cell by cell. -/
theorem open_rowsG {α : Type} [Inhabited α] {t e : TypeId} {v : Value} {d : DataW H} {ps : List MemPlace} (g : α → List Value) (Ok : α → Prop) (C : Nat) (hg : ∀ x, (g x).length = C) (hC0 : 0 < C) (ht : P.underlying t = some (.slice e)) (hC : P.cellsOf e = C)
    (helem : ∀ fuel cs y, DataW.trod enc P w base spare held fuel e cs = some y → ∃ x, Ok x ∧ cs = g x)
    (hv : ∃ a len cap, v = .slice a len cap) (h : DataW.Trod enc P w base spare held t v d ps) : ∃ xs : List α, (∀ x ∈ xs, Ok x) ∧ xs.length ≤ maxLen ∧ Row (fun _ => True) w C xs.length v (xs.flatMap g) := by
  obtain ⟨va, vl, vc, rfl⟩ := hv
  obtain ⟨fuel, hf⟩ := h
  rcases Deep.open_slice ht hf with ⟨h0, _⟩ | ⟨a, len, cap, m, n, D, Pl, hcs, _, hl, hm, hmm, _, hi⟩
  · have h0' : Value.slice va vl vc = .slice none 0 0 := by simpa [Value.cells] using h0
    rw [h0']
    exact ⟨[], fun x hx => by (cases hx), Nat.zero_le _, Row.nil _ _ _ _ _⟩
  · have hc' : Value.slice va vl vc = .slice (some a) len cap := by simpa [Value.cells] using hcs
    rw [hc']
    have hlm : len ≤ m := by rw [hmm]; split <;> omega
    have hex : ∀ i, i < len → ∃ x, Ok x ∧ w.cells? base (a.add (i * C)) C = some (g x) := by
      intro i hil
      obtain ⟨cs', h1, h2⟩ := hi i (by omega)
      rw [hC] at h1
      obtain ⟨x, hx, rfl⟩ := helem _ _ _ h2
      exact ⟨x, hx, h1⟩
    obtain ⟨f, hf'⟩ := Deep.choose_lt hex
    refine ⟨(List.range len).map f, fun x hx => ?_, by simp; omega, ?_⟩
    · obtain ⟨i, hi', rfl⟩ := List.mem_map.1 hx
      exact (hf' i (by simpa using hi')).1
    · refine ⟨flatMap_lenG g C hg _, some a, cap, by simp, by simpa using hl, fun hn => ?_⟩
      have hlen : 0 < len := by simp at hn; omega
      have hcell : ∀ i, i < len → ∀ r, r < C → w.cell? (a.add (i * C + r)) = (g (f i))[r]? := by
        intro i hil r hr
        obtain ⟨_, _, h3⟩ := World.cells?_some (hf' i hil).2
        rw [← Deep.add_add]; exact h3 r hr
      have hsp : a.spot = none := by
        have h00 := hcell 0 hlen 0 hC0
        rw [List.getElem?_eq_getElem (by rw [hg]; exact hC0)] at h00
        have := cell_spotG h00
        simpa [Addr.add] using this
      obtain ⟨b, off, sp⟩ := a
      simp only at hsp
      subst hsp
      refine ⟨b, off, rfl, trivial, fun j u hj => ?_⟩
      obtain ⟨i, r, hi', hr, rfl, hu⟩ := flatMap_getG g C hg _ j u hj
      have hil : i < len := by simpa using hi'
      have := hcell i hil r hr
      simp only [List.getElem_map, List.getElem_range] at hu
      rw [hu] at this
      rw [← this]
      unfold Addr.add
      split
      · rename_i h0; rw [h0]; rfl
      · rfl
end
section
variable {H : Type} {enc : TypeId × Value → H} {w : World} {base : Nat} {spare : Nat → Bool} {held : Bool}
/-- A nil slice has no capacity. -/
theorem open_rows_atG {P : Program} {α : Type} [Inhabited α] {t e : TypeId} {fuel : Nat} {cs : List Value} {y : DataW H × List MemPlace} (g : α → List Value) (Ok : α → Prop) (C : Nat) (hg : ∀ x, (g x).length = C) (hC0 : 0 < C) (ht : P.underlying t = some (.slice e)) (hC : P.cellsOf e = C)
    (helem : ∀ fuel cs y, DataW.trod enc P w base spare held fuel e cs = some y → ∃ x, Ok x ∧ cs = g x)
    (h : DataW.trod enc P w base spare held fuel t cs = some y) : ∃ (v : Value) (xs : List α), cs = [v] ∧ (∀ x ∈ xs, Ok x) ∧ xs.length ≤ maxLen ∧ Row anyB w C xs.length v (flatC g xs) ∧ NilA v := by
  rcases Deep.open_slice ht h with ⟨h0, _⟩ | ⟨a, len, cap, _, _, _, _, h0, _⟩
  · obtain ⟨xs, h1, h2, h3⟩ := open_rowsG (d := y.1) (ps := y.2) g Ok C hg hC0 ht hC helem (v := .slice none 0 0) ⟨_, _, _, rfl⟩ ⟨fuel, by simpa [Value.cells, h0] using h⟩
    exact ⟨_, xs, h0, h1, h2, h3, fun n c e => by cases e; rfl⟩
  · obtain ⟨xs, h1, h2, h3⟩ := open_rowsG (d := y.1) (ps := y.2) g Ok C hg hC0 ht hC helem (v := .slice (some a) len cap) ⟨_, _, _, rfl⟩ ⟨fuel, by simpa [Value.cells, h0] using h⟩
    exact ⟨_, xs, h0, h1, h2, h3, fun n c e => by cases e⟩
theorem in64_ofG {n : Int} (h : (Lit.int .i64 n).wf = true) : In64 n := by
  unfold In64
  simp [Lit.wf, IntKind.min, IntKind.max, IntKind.signed, IntKind.bits] at h; omega
theorem u8_ofG {n : Int} (h : (Lit.int .u8 n).wf = true) : 0 ≤ n ∧ n ≤ 255 := by
  simpa [Lit.wf, IntKind.min, IntKind.max, IntKind.signed, IntKind.bits] using h
theorem one_ofG {l : List Value} {j : Nat} {v : Value} (h : (l.drop j).take 1 = [v]) : l[j]? = some v := by
  have := congrArg (·[0]?) h
  simpa using this
theorem four_ofG {l : List Value} (hl : l.length = 4) {a b c d : Value} (h0 : l[0]? = some a) (h1 : l[1]? = some b) (h2 : l[2]? = some c) (h3 : l[3]? = some d) : l = [a, b, c, d] := by
  match l, hl with
  | [_, _, _, _], _ => simp_all
theorem three_ofG {l : List Value} (hl : l.length = 3) {a b c : Value} (h0 : l[0]? = some a) (h1 : l[1]? = some b) (h2 : l[2]? = some c) : l = [a, b, c] := by
  match l, hl with
  | [_, _, _], _ => simp_all
theorem two_ofG {l : List Value} (hl : l.length = 2) {a b : Value} (h0 : l[0]? = some a) (h1 : l[1]? = some b) : l = [a, b] := by
  match l, hl with
  | [_, _], _ => simp_all
end
theorem list_ext4 {l : List Value} {n : Nat} (hl : l.length = n) {m : List Value} (hm : m.length = n) (h : ∀ i, i < n → l[i]? = m[i]?) : l = m := by
  apply List.ext_getElem?
  intro i
  by_cases hi : i < n
  · exact h i hi
  · rw [List.getElem?_eq_none (by omega), List.getElem?_eq_none (by omega)]
theorem take_get {cs p : List Value} {o n i : Nat} (h : (cs.drop o).take n = p) (hi : i < n) : cs[o + i]? = p[i]? := by
  rw [← h, List.getElem?_take_of_lt hi, List.getElem?_drop]
instance : Inhabited K4 := ⟨⟨0, 0, 0, 0⟩⟩
instance : Inhabited M3 := ⟨⟨0, 0, 0⟩⟩
structure K4.OkG (k : K4) : Prop where
  kind : 0 ≤ k.kind ∧ k.kind ≤ 255
  a : In64 k.a
  b : In64 k.b
  n : In64 k.n
structure M3.OkG (m : M3) : Prop where
  f : In64 m.f
  t : In64 m.t
  n : In64 m.n
structure Cg.OkG (w : World) (p : GV) : Prop where
  arg : GArg anyB w p
  key : p.2.k.OkG
  t : In64 p.2.t
  d : In64 p.2.d
  len : p.2.l.length ≤ maxLen
  i64 : ∀ n ∈ p.2.l, In64 n
structure Ar.OkG (w : World) (p : AV) : Prop where
  row : Row anyB w 1 p.2.l.length p.1 (flatC nC p.2.l)
  nil : NilA p.1
  tk : In64 p.2.tk
  hd : In64 p.2.hd
  len : p.2.l.length ≤ maxLen
  i64 : ∀ n ∈ p.2.l, In64 n
structure Ho.OkG (w : World) (p : HV) : Prop where
  at' : HAt anyB w p
  m : p.2.m.OkG
  ars : ∀ a ∈ p.2.al, Ar.OkG w a
section
variable {H : Type} {enc : TypeId × Value → H} {w : World} {base : Nat} {spare : Nat → Bool} {held : Bool}
theorem cellsG2 : Try.prog.cellsOf 2 = 1 := by kernel_rfl
theorem i64_elemG (fuel : Nat) (cs : List Value) (y : DataW H × List MemPlace) (h : DataW.trod enc Try.prog w base spare held fuel 2 cs = some y) : ∃ x : Int, In64 x ∧ cs = nC x := by
  obtain ⟨n0, c0, _, w0⟩ := DataW.trod_int Try.underlying2 h
  exact ⟨n0, in64_ofG w0, c0⟩
theorem cellsG5 : Try.prog.cellsOf 5 = 1 := by kernel_rfl
theorem byt_elemG (fuel : Nat) (cs : List Value) (y : DataW H × List MemPlace) (h : DataW.trod enc Try.prog w base spare held fuel 5 cs = some y) : ∃ x : Int, (0 ≤ x ∧ x ≤ 255) ∧ cs = [.int .u8 x] := by
  obtain ⟨n0, c0, _, w0⟩ := DataW.trod_int Try.underlying5 h
  exact ⟨n0, u8_ofG w0, c0⟩
theorem cellsG48 : Try.prog.cellsOf 48 = 4 := by kernel_rfl
theorem cellsG46 : Try.prog.cellsOf 46 = 1 := by kernel_rfl
theorem cellsG3 : Try.prog.cellsOf 3 = 1 := by kernel_rfl
theorem key_elemG (fuel : Nat) (cs : List Value) (y : DataW H × List MemPlace) (h : DataW.trod enc Try.prog w base spare held fuel 48 cs = some y) : ∃ x : K4, x.OkG ∧ cs = kC x := by
  obtain ⟨xs, n, _, _, hl, hxl, hf⟩ := DataW.trod_struct Try.underlying48 h
  rw [cellsG48] at hl
  have g : ∀ j, j < 4 → ∃ z, xs[j]? = some z := fun j hj => ⟨_, List.getElem?_eq_getElem (by rw [hxl]; exact hj)⟩
  have f0 := hf 0 _ rfl
  obtain ⟨z0, e0⟩ := g 0 (by omega)
  rw [e0] at f0
  obtain ⟨n0, c0, _, w0⟩ := DataW.trod_int Try.underlying46 f0
  change (cs.drop 0).take (Try.prog.cellsOf 46) = _ at c0
  rw [cellsG46] at c0
  have f1 := hf 1 _ rfl
  obtain ⟨z1, e1⟩ := g 1 (by omega)
  rw [e1] at f1
  obtain ⟨n1, c1, _, w1⟩ := DataW.trod_int Try.underlying3 f1
  change (cs.drop 1).take (Try.prog.cellsOf 3) = _ at c1
  rw [cellsG3] at c1
  have f2 := hf 2 _ rfl
  obtain ⟨z2, e2⟩ := g 2 (by omega)
  rw [e2] at f2
  obtain ⟨n2, c2, _, w2⟩ := DataW.trod_int Try.underlying3 f2
  change (cs.drop 2).take (Try.prog.cellsOf 3) = _ at c2
  rw [cellsG3] at c2
  have f3 := hf 3 _ rfl
  obtain ⟨z3, e3⟩ := g 3 (by omega)
  rw [e3] at f3
  obtain ⟨n3, c3, _, w3⟩ := DataW.trod_int Try.underlying3 f3
  change (cs.drop 3).take (Try.prog.cellsOf 3) = _ at c3
  rw [cellsG3] at c3
  exact ⟨⟨n0, n1, n2, n3⟩, ⟨u8_ofG w0, in64_ofG w1, in64_ofG w2, in64_ofG w3⟩, four_ofG hl (one_ofG c0) (one_ofG c1) (one_ofG c2) (one_ofG c3)⟩
theorem cellsG54 : Try.prog.cellsOf 54 = 3 := by kernel_rfl
theorem msg_elemG (fuel : Nat) (cs : List Value) (y : DataW H × List MemPlace) (h : DataW.trod enc Try.prog w base spare held fuel 54 cs = some y) : ∃ x : M3, x.OkG ∧ cs = mC x := by
  obtain ⟨xs, n, _, _, hl, hxl, hf⟩ := DataW.trod_struct Try.underlying54 h
  rw [cellsG54] at hl
  have g : ∀ j, j < 3 → ∃ z, xs[j]? = some z := fun j hj => ⟨_, List.getElem?_eq_getElem (by rw [hxl]; exact hj)⟩
  have f0 := hf 0 _ rfl
  obtain ⟨z0, e0⟩ := g 0 (by omega)
  rw [e0] at f0
  obtain ⟨n0, c0, _, w0⟩ := DataW.trod_int Try.underlying3 f0
  change (cs.drop 0).take (Try.prog.cellsOf 3) = _ at c0
  rw [cellsG3] at c0
  have f1 := hf 1 _ rfl
  obtain ⟨z1, e1⟩ := g 1 (by omega)
  rw [e1] at f1
  obtain ⟨n1, c1, _, w1⟩ := DataW.trod_int Try.underlying3 f1
  change (cs.drop 1).take (Try.prog.cellsOf 3) = _ at c1
  rw [cellsG3] at c1
  have f2 := hf 2 _ rfl
  obtain ⟨z2, e2⟩ := g 2 (by omega)
  rw [e2] at f2
  obtain ⟨n2, c2, _, w2⟩ := DataW.trod_int Try.underlying3 f2
  change (cs.drop 2).take (Try.prog.cellsOf 3) = _ at c2
  rw [cellsG3] at c2
  exact ⟨⟨n0, n1, n2⟩, ⟨in64_ofG w0, in64_ofG w1, in64_ofG w2⟩, three_ofG hl (one_ofG c0) (one_ofG c1) (one_ofG c2)⟩
theorem cellsG113 : Try.prog.cellsOf 113 = 7 := by kernel_rfl
theorem cellsG111 : Try.prog.cellsOf 111 = 1 := by kernel_rfl
theorem cho_elemG (fuel : Nat) (cs : List Value) (y : DataW H × List MemPlace) (h : DataW.trod enc Try.prog w base spare held fuel 113 cs = some y) : ∃ x : GV, Cg.OkG w x ∧ cs = gC x := by
  obtain ⟨xs, n, _, _, hl, hxl, hf⟩ := DataW.trod_struct Try.underlying113 h
  rw [cellsG113] at hl
  have g : ∀ j, j < 4 → ∃ z, xs[j]? = some z := fun j hj => ⟨_, List.getElem?_eq_getElem (by rw [hxl]; exact hj)⟩
  have f0 := hf 0 _ rfl
  obtain ⟨z0, e0⟩ := g 0 (by omega)
  rw [e0] at f0
  obtain ⟨n0, w0, c0⟩ := key_elemG _ _ _ f0
  change (cs.drop 0).take (Try.prog.cellsOf 48) = _ at c0
  rw [cellsG48] at c0
  have f1 := hf 1 _ rfl
  obtain ⟨z1, e1⟩ := g 1 (by omega)
  rw [e1] at f1
  obtain ⟨n1, c1, _, w1⟩ := DataW.trod_int Try.underlying3 f1
  change (cs.drop 4).take (Try.prog.cellsOf 3) = _ at c1
  rw [cellsG3] at c1
  have f2 := hf 2 _ rfl
  obtain ⟨z2, e2⟩ := g 2 (by omega)
  rw [e2] at f2
  obtain ⟨n2, c2, _, w2⟩ := DataW.trod_int Try.underlying3 f2
  change (cs.drop 5).take (Try.prog.cellsOf 3) = _ at c2
  rw [cellsG3] at c2
  have f3 := hf 3 _ rfl
  obtain ⟨z3, e3⟩ := g 3 (by omega)
  rw [e3] at f3
  obtain ⟨v3, l3, c3, k3, m3, r3, q3⟩ := open_rows_atG nC In64 1 nC_len (by omega) Try.underlying111 cellsG2 i64_elemG f3
  change (cs.drop 6).take (Try.prog.cellsOf 111) = _ at c3
  rw [cellsG111] at c3
  refine ⟨(v3, ⟨n0, n1, n2, l3⟩), ⟨⟨r3, q3⟩, w0, in64_ofG w1, in64_ofG w2, m3, k3⟩, list_ext4 hl rfl (fun i hi => ?_)⟩
  have hi' : i = 0 ∨ i = 1 ∨ i = 2 ∨ i = 3 ∨ i = 4 ∨ i = 5 ∨ i = 6 := by omega
  rcases hi' with rfl | rfl | rfl | rfl | rfl | rfl | rfl
  · have := take_get (i := 0) c0 (by omega); simpa [gC, kC] using this
  · have := take_get (i := 1) c0 (by omega); simpa [gC, kC] using this
  · have := take_get (i := 2) c0 (by omega); simpa [gC, kC] using this
  · have := take_get (i := 3) c0 (by omega); simpa [gC, kC] using this
  · exact one_ofG c1
  · exact one_ofG c2
  · exact one_ofG c3
theorem cellsG177 : Try.prog.cellsOf 177 = 3 := by kernel_rfl
theorem arr_elemG (fuel : Nat) (cs : List Value) (y : DataW H × List MemPlace) (h : DataW.trod enc Try.prog w base spare held fuel 177 cs = some y) : ∃ x : AV, Ar.OkG w x ∧ cs = aC x := by
  obtain ⟨xs, n, _, _, hl, hxl, hf⟩ := DataW.trod_struct Try.underlying177 h
  rw [cellsG177] at hl
  have g : ∀ j, j < 3 → ∃ z, xs[j]? = some z := fun j hj => ⟨_, List.getElem?_eq_getElem (by rw [hxl]; exact hj)⟩
  have f0 := hf 0 _ rfl
  obtain ⟨z0, e0⟩ := g 0 (by omega)
  rw [e0] at f0
  obtain ⟨n0, c0, _, w0⟩ := DataW.trod_int Try.underlying3 f0
  change (cs.drop 0).take (Try.prog.cellsOf 3) = _ at c0
  rw [cellsG3] at c0
  have f1 := hf 1 _ rfl
  obtain ⟨z1, e1⟩ := g 1 (by omega)
  rw [e1] at f1
  obtain ⟨n1, c1, _, w1⟩ := DataW.trod_int Try.underlying3 f1
  change (cs.drop 1).take (Try.prog.cellsOf 3) = _ at c1
  rw [cellsG3] at c1
  have f2 := hf 2 _ rfl
  obtain ⟨z2, e2⟩ := g 2 (by omega)
  rw [e2] at f2
  obtain ⟨v2, l2, c2, k2, m2, r2, q2⟩ := open_rows_atG nC In64 1 nC_len (by omega) Try.underlying111 cellsG2 i64_elemG f2
  change (cs.drop 2).take (Try.prog.cellsOf 111) = _ at c2
  rw [cellsG111] at c2
  exact ⟨(v2, ⟨n0, n1, l2⟩), ⟨r2, q2, in64_ofG w0, in64_ofG w1, m2, k2⟩, three_ofG hl (one_ofG c0) (one_ofG c1) (one_ofG c2)⟩
theorem cellsG166 : Try.prog.cellsOf 166 = 4 := by kernel_rfl
theorem cellsG164 : Try.prog.cellsOf 164 = 1 := by kernel_rfl
theorem hold_elemG (fuel : Nat) (cs : List Value) (y : DataW H × List MemPlace) (h : DataW.trod enc Try.prog w base spare held fuel 166 cs = some y) : ∃ x : HV, Ho.OkG w x ∧ cs = hC x := by
  obtain ⟨xs, n, _, _, hl, hxl, hf⟩ := DataW.trod_struct Try.underlying166 h
  rw [cellsG166] at hl
  have g : ∀ j, j < 2 → ∃ z, xs[j]? = some z := fun j hj => ⟨_, List.getElem?_eq_getElem (by rw [hxl]; exact hj)⟩
  have f0 := hf 0 _ rfl
  obtain ⟨z0, e0⟩ := g 0 (by omega)
  rw [e0] at f0
  obtain ⟨n0, w0, c0⟩ := msg_elemG _ _ _ f0
  change (cs.drop 0).take (Try.prog.cellsOf 54) = _ at c0
  rw [cellsG54] at c0
  have f1 := hf 1 _ rfl
  obtain ⟨z1, e1⟩ := g 1 (by omega)
  rw [e1] at f1
  obtain ⟨v1, l1, c1, k1, m1, r1, q1⟩ := open_rows_atG aC (Ar.OkG w) 3 aC_len (by omega) Try.underlying164 cellsG177 arr_elemG f1
  change (cs.drop 3).take (Try.prog.cellsOf 164) = _ at c1
  rw [cellsG164] at c1
  refine ⟨(v1, ⟨n0, l1⟩), ⟨⟨r1, fun a ha => ⟨(k1 a ha).row, (k1 a ha).nil⟩, q1, m1, fun a ha => (k1 a ha).len⟩, w0, k1⟩, list_ext4 hl rfl (fun i hi => ?_)⟩
  have hi' : i = 0 ∨ i = 1 ∨ i = 2 ∨ i = 3 := by omega
  rcases hi' with rfl | rfl | rfl | rfl
  · have := take_get (i := 0) c0 (by omega); simpa [hC, mC] using this
  · have := take_get (i := 1) c0 (by omega); simpa [hC, mC] using this
  · have := take_get (i := 2) c0 (by omega); simpa [hC, mC] using this
  · exact one_ofG c1
end
/-- A certificate in any form. -/
structure RawC where
  fl : Value × Value × Value × Value
  q : ByteArray
  hor : Int
  wit : Int
  spl : Int
  cv : Value
  C : List GV
  uv : Value
  U : List K4
  hv : Value
  H : List HV
  ov : Value
  O : List Int
def RawC.cells (x : RawC) : List Value := [x.fl.1, x.fl.2.1, x.fl.2.2.1, x.fl.2.2.2, .string x.q, .int .i64 x.hor, .int .i64 x.wit, .int .i64 x.spl, x.cv, x.uv, x.hv, x.ov]
structure RawC.Ok (w : World) (x : RawC) : Prop where
  fl : (∃ n, x.fl.1 = .int .u8 n ∧ 0 ≤ n ∧ n ≤ 255) ∧ (∃ n, x.fl.2.1 = .int .u8 n ∧ 0 ≤ n ∧ n ≤ 255) ∧ (∃ n, x.fl.2.2.1 = .int .u8 n ∧ 0 ≤ n ∧ n ≤ 255) ∧ (∃ n, x.fl.2.2.2 = .int .u8 n ∧ 0 ≤ n ∧ n ≤ 255)
  q : x.q.size ≤ maxLen
  hor : In64 x.hor
  wit : In64 x.wit
  spl : In64 x.spl
  C : Row anyB w 7 x.C.length x.cv (flatC gC x.C)
  Ce : ∀ p ∈ x.C, Cg.OkG w p
  Cl : x.C.length ≤ maxLen
  U : Row anyB w 4 x.U.length x.uv (flatC kC x.U)
  Ue : ∀ k ∈ x.U, k.OkG
  Ul : x.U.length ≤ maxLen
  H : Row anyB w 4 x.H.length x.hv (flatC hC x.H)
  He : ∀ p ∈ x.H, Ho.OkG w p
  Hl : x.H.length ≤ maxLen
  O : Row anyB w 1 x.O.length x.ov (flatC (fun n : Int => [Value.int .u8 n]) x.O)
  Oe : ∀ n ∈ x.O, 0 ≤ n ∧ n ≤ 255
  Ol : x.O.length ≤ maxLen
section
variable {H : Type} {enc : TypeId × Value → H} {w : World} {base : Nat} {spare : Nat → Bool} {held : Bool}
theorem cellsG90 : Try.prog.cellsOf 90 = 4 := by kernel_rfl
theorem fleet_elemG (fuel : Nat) (cs : List Value) (y : DataW H × List MemPlace) (h : DataW.trod enc Try.prog w base spare held fuel 90 cs = some y) : ∃ a b c d : Int, (0 ≤ a ∧ a ≤ 255) ∧ (0 ≤ b ∧ b ≤ 255) ∧ (0 ≤ c ∧ c ≤ 255) ∧ (0 ≤ d ∧ d ≤ 255) ∧ cs = [.int .u8 a, .int .u8 b, .int .u8 c, .int .u8 d] := by
  obtain ⟨xs, m, _, _, hl, hxl, hf⟩ := DataW.trod_array Try.underlying90 h
  rw [cellsG90] at hl
  rw [cellsG5] at hf
  have g : ∀ j, j < 4 → ∃ z, xs[j]? = some z := fun j hj => ⟨_, List.getElem?_eq_getElem (by rw [hxl]; exact hj)⟩
  have k : ∀ j, j < 4 → ∃ n : Int, (0 ≤ n ∧ n ≤ 255) ∧ (cs.drop (j * 1)).take 1 = [.int .u8 n] := fun j hj => by
    obtain ⟨z, e⟩ := g j hj
    have f := hf j hj
    rw [e] at f
    exact byt_elemG _ _ _ f
  obtain ⟨a, ha, h0⟩ := k 0 (by omega)
  obtain ⟨b, hb, h1⟩ := k 1 (by omega)
  obtain ⟨c, hc, h2⟩ := k 2 (by omega)
  obtain ⟨d, hd, h3⟩ := k 3 (by omega)
  exact ⟨a, b, c, d, ha, hb, hc, hd, four_ofG hl (one_ofG h0) (one_ofG h1) (one_ofG h2) (one_ofG h3)⟩
theorem cellsG9 : Try.prog.cellsOf 9 = 1 := by kernel_rfl
theorem cellsG94 : Try.prog.cellsOf 94 = 12 := by kernel_rfl
theorem cellsG71 : Try.prog.cellsOf 71 = 1 := by kernel_rfl
theorem cellsG27 : Try.prog.cellsOf 27 = 1 := by kernel_rfl
theorem cellsG91 : Try.prog.cellsOf 91 = 1 := by kernel_rfl
theorem cellsG92 : Try.prog.cellsOf 92 = 1 := by kernel_rfl
theorem raw_elemG (fuel : Nat) (cs : List Value) (y : DataW H × List MemPlace) (h : DataW.trod enc Try.prog w base spare held fuel 94 cs = some y) : ∃ x : RawC, RawC.Ok w x ∧ cs = x.cells := by
  obtain ⟨xs, n, _, _, hl, hxl, hf⟩ := DataW.trod_struct Try.underlying94 h
  rw [cellsG94] at hl
  have g : ∀ j, j < 9 → ∃ z, xs[j]? = some z := fun j hj => ⟨_, List.getElem?_eq_getElem (by rw [hxl]; exact hj)⟩
  have f0 := hf 0 _ rfl
  obtain ⟨z0, e0⟩ := g 0 (by omega)
  rw [e0] at f0
  obtain ⟨fa, fb, fc, fd, ha, hb, hc, hd, c0⟩ := fleet_elemG _ _ _ f0
  change (cs.drop 0).take (Try.prog.cellsOf 90) = _ at c0
  rw [cellsG90] at c0
  have f1 := hf 1 _ rfl
  obtain ⟨z1, e1⟩ := g 1 (by omega)
  rw [e1] at f1
  obtain ⟨n1, c1, _, w1⟩ := DataW.trod_string Try.underlying9 f1
  change (cs.drop 4).take (Try.prog.cellsOf 9) = _ at c1
  rw [cellsG9] at c1
  have f2 := hf 2 _ rfl
  obtain ⟨z2, e2⟩ := g 2 (by omega)
  rw [e2] at f2
  obtain ⟨n2, c2, _, w2⟩ := DataW.trod_int Try.underlying3 f2
  change (cs.drop 5).take (Try.prog.cellsOf 3) = _ at c2
  rw [cellsG3] at c2
  have f3 := hf 3 _ rfl
  obtain ⟨z3, e3⟩ := g 3 (by omega)
  rw [e3] at f3
  obtain ⟨n3, c3, _, w3⟩ := DataW.trod_int Try.underlying3 f3
  change (cs.drop 6).take (Try.prog.cellsOf 3) = _ at c3
  rw [cellsG3] at c3
  have f4 := hf 4 _ rfl
  obtain ⟨z4, e4⟩ := g 4 (by omega)
  rw [e4] at f4
  obtain ⟨n4, c4, _, w4⟩ := DataW.trod_int Try.underlying3 f4
  change (cs.drop 7).take (Try.prog.cellsOf 3) = _ at c4
  rw [cellsG3] at c4
  have f5 := hf 5 _ rfl
  obtain ⟨z5, e5⟩ := g 5 (by omega)
  rw [e5] at f5
  obtain ⟨v5, l5, c5, k5, m5, r5, q5⟩ := open_rows_atG gC (Cg.OkG w) 7 gC_len (by omega) Try.underlying71 cellsG113 cho_elemG f5
  change (cs.drop 8).take (Try.prog.cellsOf 71) = _ at c5
  rw [cellsG71] at c5
  have f6 := hf 6 _ rfl
  obtain ⟨z6, e6⟩ := g 6 (by omega)
  rw [e6] at f6
  obtain ⟨v6, l6, c6, k6, m6, r6, q6⟩ := open_rows_atG kC K4.OkG 4 kC_len (by omega) Try.underlying27 cellsG48 key_elemG f6
  change (cs.drop 9).take (Try.prog.cellsOf 27) = _ at c6
  rw [cellsG27] at c6
  have f7 := hf 7 _ rfl
  obtain ⟨z7, e7⟩ := g 7 (by omega)
  rw [e7] at f7
  obtain ⟨v7, l7, c7, k7, m7, r7, q7⟩ := open_rows_atG hC (Ho.OkG w) 4 hC_len (by omega) Try.underlying91 cellsG166 hold_elemG f7
  change (cs.drop 10).take (Try.prog.cellsOf 91) = _ at c7
  rw [cellsG91] at c7
  have f8 := hf 8 _ rfl
  obtain ⟨z8, e8⟩ := g 8 (by omega)
  rw [e8] at f8
  obtain ⟨v8, l8, c8, k8, m8, r8, q8⟩ := open_rows_atG (fun n : Int => [Value.int .u8 n]) (fun n => 0 ≤ n ∧ n ≤ 255) 1 (fun _ => rfl) (by omega) Try.underlying92 cellsG5 byt_elemG f8
  change (cs.drop 11).take (Try.prog.cellsOf 92) = _ at c8
  rw [cellsG92] at c8
  refine ⟨⟨(.int .u8 fa, .int .u8 fb, .int .u8 fc, .int .u8 fd), n1, n2, n3, n4, v5, l5, v6, l6, v7, l7, v8, l8⟩, ⟨⟨⟨fa, rfl, ha⟩, ⟨fb, rfl, hb⟩, ⟨fc, rfl, hc⟩, ⟨fd, rfl, hd⟩⟩, w1, in64_ofG w2, in64_ofG w3, in64_ofG w4, r5, k5, m5, r6, k6, m6, r7, k7, m7, r8, k8, m8⟩, list_ext4 hl rfl (fun i hi => ?_)⟩
  have hi' : i = 0 ∨ i = 1 ∨ i = 2 ∨ i = 3 ∨ i = 4 ∨ i = 5 ∨ i = 6 ∨ i = 7 ∨ i = 8 ∨ i = 9 ∨ i = 10 ∨ i = 11 := by omega
  rcases hi' with rfl | rfl | rfl | rfl | rfl | rfl | rfl | rfl | rfl | rfl | rfl | rfl
  · have := take_get (i := 0) c0 (by omega); simpa [RawC.cells] using this
  · have := take_get (i := 1) c0 (by omega); simpa [RawC.cells] using this
  · have := take_get (i := 2) c0 (by omega); simpa [RawC.cells] using this
  · have := take_get (i := 3) c0 (by omega); simpa [RawC.cells] using this
  · exact one_ofG c1
  · exact one_ofG c2
  · exact one_ofG c3
  · exact one_ofG c4
  · exact one_ofG c5
  · exact one_ofG c6
  · exact one_ofG c7
  · exact one_ofG c8
set_option maxRecDepth 100000 in
theorem open_raw {r : Reach} {b0 : Nat} {v : Value} {d : DataW H} {ps : List MemPlace} (hv : Value.okWide Try.prog w r b0 94 v) (h : DataW.Trod enc Try.prog w base spare held 94 v d ps) : ∃ x : RawC, RawC.Ok w x ∧ v = .agg x.cells.toArray := by
  obtain ⟨cs, rfl, _⟩ := okWide_struct Try.underlying94 hv
  obtain ⟨fuel, hf⟩ := h
  obtain ⟨x, hx, hc⟩ := raw_elemG _ _ _ hf
  refine ⟨x, hx, ?_⟩
  have : cs.toList = x.cells := by simpa [Value.cells] using hc
  congr 1
  rw [← this]
end
end Go.Proofs.Ytemeppfikpafbaa

