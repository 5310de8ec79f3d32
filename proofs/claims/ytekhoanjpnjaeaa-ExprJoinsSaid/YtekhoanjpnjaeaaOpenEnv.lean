/- An environment that came in as an argument, opened. -/
import Derived.Test.YtekhoanjpnjaeaaSmall
import Derived.Test.YtekhoanjpnjaeaaOpen
namespace Go.Proofs.Ytekhoanjpnjaeaa
open Go.RowKit Go.ChangeShapes Go.WideShapes
section
variable {H : Type} {enc : TypeId × Value → H} {w : World} {base : Nat} {spare : Nat → Bool} {held : Bool}

theorem open_rows_at {P : Program} {α : Type} [Inhabited α] {t e : TypeId} {fuel : Nat} {cs : List Value} {y : DataW H × List MemPlace} (g : α → List Value) (Ok : α → Prop) (C : Nat) (hg : ∀ x, (g x).length = C) (hC0 : 0 < C) (ht : P.underlying t = some (.slice e)) (hC : P.cellsOf e = C)
    (helem : ∀ fuel cs y, DataW.trod enc P w base spare held fuel e cs = some y → ∃ x, Ok x ∧ cs = g x)
    (h : DataW.trod enc P w base spare held fuel t cs = some y) : ∃ (v : Value) (xs : List α), cs = [v] ∧ (∀ x ∈ xs, Ok x) ∧ xs.length ≤ maxLen ∧ Row (fun _ => True) w C xs.length v (xs.flatMap g) := by
  rcases Deep.open_slice ht h with ⟨h0, _⟩ | ⟨a, len, cap, _, _, _, _, h0, _⟩
  · obtain ⟨xs, h1, h2, h3⟩ := open_rows (d := y.1) (ps := y.2) g Ok C hg hC0 ht hC helem (v := .slice none 0 0) ⟨_, _, _, rfl⟩ ⟨fuel, by simpa [Value.cells, h0] using h⟩
    exact ⟨_, xs, h0, h1, h2, h3⟩
  · obtain ⟨xs, h1, h2, h3⟩ := open_rows (d := y.1) (ps := y.2) g Ok C hg hC0 ht hC helem (v := .slice (some a) len cap) ⟨_, _, _, rfl⟩ ⟨fuel, by simpa [Value.cells, h0] using h⟩
    exact ⟨_, xs, h0, h1, h2, h3⟩

instance : Inhabited ByteArray := ⟨ByteArray.empty⟩
theorem string_elem (fuel : Nat) (cs : List Value) (y : DataW H × List MemPlace) (h : DataW.trod enc Try.prog w base spare held fuel 9 cs = some y) : ∃ s : ByteArray, s.size ≤ maxLen ∧ cs = [.string s] := by
  obtain ⟨s, rfl, _, hs⟩ := DataW.trod_string Try.underlying9 h
  exact ⟨s, hs, rfl⟩
theorem int_elem (fuel : Nat) (cs : List Value) (y : DataW H × List MemPlace) (h : DataW.trod enc Try.prog w base spare held fuel 2 cs = some y) : ∃ n : Int, In64 n ∧ cs = [.int .i64 n] := by
  obtain ⟨n, rfl, _, hn⟩ := DataW.trod_int Try.underlying2 h
  exact ⟨n, in64_of hn, rfl⟩
theorem cells178 : Try.prog.cellsOf 178 = 2 := by kernel_rfl
theorem cells170 : Try.prog.cellsOf 170 = 1 := by kernel_rfl
theorem cells9 : Try.prog.cellsOf 9 = 1 := by kernel_rfl
theorem cells93 : Try.prog.cellsOf 93 = 5 := by kernel_rfl
theorem cells90 : Try.prog.cellsOf 90 = 1 := by kernel_rfl
theorem cells73 : Try.prog.cellsOf 73 = 1 := by kernel_rfl
theorem cells91 : Try.prog.cellsOf 91 = 1 := by kernel_rfl
def cells2 (x : Int × Int) : List Value := [.int .i64 x.1, .int .i64 x.2]
theorem flat2_eq (l : List (Int × Int)) : l.flatMap cells2 = flat2 l := by
  induction l with
  | nil => rfl
  | cons x xs ih => rw [List.flatMap_cons, ih]; rfl
theorem two_of {l : List Value} (hl : l.length = 2) {a b : Value} (h0 : l[0]? = some a) (h1 : l[1]? = some b) : l = [a, b] := by
  match l, hl with
  | [_, _], _ => simp_all
theorem entry_elem (fuel : Nat) (cs : List Value) (y : DataW H × List MemPlace) (h : DataW.trod enc Try.prog w base spare held fuel 178 cs = some y) : ∃ x : Int × Int, (In64 x.1 ∧ In64 x.2) ∧ cs = cells2 x := by
  obtain ⟨xs, n, _, _, hl, hxl, hf⟩ := DataW.trod_struct Try.underlying178 h
  rw [cells178] at hl
  have f0 := hf 0 _ rfl
  have f1 := hf 1 _ rfl
  have g : ∀ j, j < 2 → ∃ z, xs[j]? = some z := fun j hj => ⟨_, List.getElem?_eq_getElem (by rw [hxl]; exact hj)⟩
  obtain ⟨z0, e0⟩ := g 0 (by omega)
  obtain ⟨z1, e1⟩ := g 1 (by omega)
  rw [e0] at f0; rw [e1] at f1
  obtain ⟨n0, c0, _, w0⟩ := DataW.trod_int Try.underlying2 f0
  obtain ⟨n1, c1, _, w1⟩ := DataW.trod_int Try.underlying2 f1
  change (cs.drop 0).take (Try.prog.cellsOf 2) = _ at c0
  change (cs.drop 1).take (Try.prog.cellsOf 2) = _ at c1
  rw [cellsT2] at c0 c1
  refine ⟨(n0, n1), ⟨in64_of w0, in64_of w1⟩, ?_⟩
  exact two_of hl (one_of c0) (one_of c1)
def TabOk (w : World) (x : Value × List (Int × Int)) : Prop := Row (fun _ => True) w 2 x.2.length x.1 (flat2 x.2) ∧ x.2.length ≤ maxLen ∧ ∀ p ∈ x.2, In64 p.1 ∧ In64 p.2
instance : Inhabited (Value × List (Int × Int)) := ⟨(.slice none 0 0, [])⟩
theorem table_elem (fuel : Nat) (cs : List Value) (y : DataW H × List MemPlace) (h : DataW.trod enc Try.prog w base spare held fuel 170 cs = some y) : ∃ x : Value × List (Int × Int), TabOk w x ∧ cs = [x.1] := by
  obtain ⟨v, xs, rfl, h1, h2, h3⟩ := open_rows_at cells2 (fun x => In64 x.1 ∧ In64 x.2) 2 (fun _ => rfl) (by omega) Try.underlying170 cells178 entry_elem h
  rw [flat2_eq] at h3
  exact ⟨(v, xs), ⟨h3, h2, h1⟩, rfl⟩
theorem flatMap_one {α : Type} (f : α → Value) (l : List α) : l.flatMap (fun x => [f x]) = l.map f := by
  induction l with
  | nil => rfl
  | cons x xs ih => rw [List.flatMap_cons, ih]; rfl
set_option maxRecDepth 100000 in
theorem open_env {r : Reach} {b0 : Nat} {v : Value} {d : DataW H} {ps : List MemPlace} (hv : Value.okWide Try.prog w r b0 93 v) (h : DataW.Trod enc Try.prog w base spare held 93 v d ps) :
    ∃ e c1 c2 c3 c4, v = aggE e c1 c2 c3 c4 ∧ EnvRaw (fun _ => True) w e c1 c2 c3 c4 := by
  obtain ⟨cs, rfl, hsz⟩ := okWide_struct Try.underlying93 hv
  rw [cells93] at hsz
  obtain ⟨fuel, hf⟩ := h
  obtain ⟨xs, n, _, _, hl, hxl, hff⟩ := DataW.trod_struct Try.underlying93 hf
  have f0 := hff 0 _ rfl
  have f1 := hff 1 _ rfl
  have f2 := hff 2 _ rfl
  have f3 := hff 3 _ rfl
  have f4 := hff 4 _ rfl
  have g : ∀ j, j < 5 → ∃ z, xs[j]? = some z := fun j hj => ⟨_, List.getElem?_eq_getElem (by rw [hxl]; exact hj)⟩
  obtain ⟨z0, e0⟩ := g 0 (by omega)
  obtain ⟨z1, e1⟩ := g 1 (by omega)
  obtain ⟨z2, e2⟩ := g 2 (by omega)
  obtain ⟨z3, e3⟩ := g 3 (by omega)
  obtain ⟨z4, e4⟩ := g 4 (by omega)
  rw [e0] at f0; rw [e1] at f1; rw [e2] at f2; rw [e3] at f3; rw [e4] at f4
  obtain ⟨c1, l1, k1, o1, m1, r1⟩ := open_rows_at (fun s => [.string s]) (fun s : ByteArray => s.size ≤ maxLen) 1 (fun _ => rfl) (by omega) Try.underlying90 cells9 string_elem f0
  obtain ⟨c2, l2, k2, o2, m2, r2⟩ := open_rows_at (fun n => [.int .i64 n]) In64 1 (fun _ => rfl) (by omega) Try.underlying73 cellsT2 int_elem f1
  obtain ⟨c3, l3, k3, o3, m3, r3⟩ := open_rows_at (fun s => [.string s]) (fun s : ByteArray => s.size ≤ maxLen) 1 (fun _ => rfl) (by omega) Try.underlying90 cells9 string_elem f2
  obtain ⟨c4, l4, k4, o4, m4, r4⟩ := open_rows_at (fun x => [x.1]) (TabOk w) 1 (fun _ => rfl) (by omega) Try.underlying91 cells170 table_elem f3
  obtain ⟨n5, k5, _, w5⟩ := DataW.trod_int Try.underlying2 f4
  change (List.drop 0 (Value.agg cs).cells.toList).take (Try.prog.cellsOf 90) = _ at k1
  change (List.drop 1 (Value.agg cs).cells.toList).take (Try.prog.cellsOf 73) = _ at k2
  change (List.drop 2 (Value.agg cs).cells.toList).take (Try.prog.cellsOf 90) = _ at k3
  change (List.drop 3 (Value.agg cs).cells.toList).take (Try.prog.cellsOf 91) = _ at k4
  change (List.drop 4 (Value.agg cs).cells.toList).take (Try.prog.cellsOf 2) = _ at k5
  rw [cells90] at k1 k3
  rw [cells73] at k2
  rw [cells91] at k4
  rw [cellsT2] at k5
  have hcs : cs.toList = [c1, c2, c3, c4, .int .i64 n5] := by
    have hl' : (Value.agg cs).cells.toList = cs.toList := by simp [Value.cells]
    rw [hl'] at k1 k2 k3 k4 k5
    exact five_of (by simpa using hsz) (one_of k1) (one_of k2) (one_of k3) (one_of k4) (one_of k5)
  rw [flatMap_one] at r1 r2 r3 r4
  refine ⟨⟨l1, l2, l3, l4.map (·.2), n5⟩, c1, c2, c3, c4, ?_, r1, r2, r3, ⟨l4.map (·.1), by simpa using r4, fun i hi => ?_⟩, ⟨m1, m2, m3, by simpa using m4, fun t ht => ?_⟩, ⟨in64_of w5, o2, fun t ht => ?_⟩, o1, o3⟩
  · unfold aggE
    congr 1
    apply Array.toList_inj.1
    rw [hcs]
  · have hi' : i < l4.length := by simpa using hi
    have hok := o4 _ (List.getElem_mem hi')
    refine ⟨l4[i].1, by simp [hi'], ?_⟩
    simp only [List.getElem_map]
    exact hok.1
  · obtain ⟨y, hy, rfl⟩ := List.mem_map.1 ht
    exact (o4 y hy).2.1
  · obtain ⟨y, hy, rfl⟩ := List.mem_map.1 ht
    exact (o4 y hy).2.2
end
end Go.Proofs.Ytekhoanjpnjaeaa
