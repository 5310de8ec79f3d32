/- Arguments that are lists of keys, of messages, of causes, opened. -/
import Derived.Test.YtemeppfikpafbaaGreatSame
import Derived.Test.YtemeppfikpafbaaGreatNilB
import Derived.Deep.Slices
import Derived.ProofKit
namespace Go.Proofs.YtemeppfikpafbaaGreat
open Go.RowKit Go.ChangeShapes Go.WideShapes
section
variable {H : Type} {enc : TypeId × Value → H} {P : Program} {w : World} {base : Nat} {spare : Nat → Bool} {held : Bool}

theorem flatMap_get {α : Type} (g : α → List Value) (C : Nat) (hg : ∀ x, (g x).length = C) : ∀ (xs : List α) (j : Nat) (u : Value), (xs.flatMap g)[j]? = some u → ∃ i r, ∃ h : i < xs.length, r < C ∧ j = i * C + r ∧ (g xs[i])[r]? = some u
  | [], j, u, h => by simp at h
  | x :: xs, j, u, h => by
    rw [List.flatMap_cons] at h
    by_cases hj : j < C
    · rw [List.getElem?_append_left (by rw [hg]; exact hj)] at h
      exact ⟨0, j, by simp, hj, by simp, by simpa using h⟩
    · rw [List.getElem?_append_right (by rw [hg]; omega), hg] at h
      obtain ⟨i, r, hi, hr, hjr, hu⟩ := flatMap_get g C hg xs _ u h
      exact ⟨i + 1, r, by simpa using hi, hr, by rw [Nat.add_mul]; omega, by simpa using hu⟩
theorem flatMap_len {α : Type} (g : α → List Value) (C : Nat) (hg : ∀ x, (g x).length = C) (xs : List α) : (xs.flatMap g).length = xs.length * C := by
  induction xs with
  | nil => simp
  | cons x xs ih => rw [List.flatMap_cons, List.length_append, hg, ih, List.length_cons, Nat.add_mul]; omega

theorem cell_spot {w : World} {a : Addr} {v : Value} (h : w.cell? a = some v) : a.spot = none := by
  unfold World.cell? at h
  split at h
  · split at h
    · cases h
    · rename_i hs; simpa using hs
  · cases h

/-- A slice whose elements are each known cell by cell. -/
theorem open_rows {α : Type} [Inhabited α] {t e : TypeId} {v : Value} {d : DataW H} {ps : List MemPlace} (g : α → List Value) (Ok : α → Prop) (C : Nat) (hg : ∀ x, (g x).length = C) (hC0 : 0 < C) (ht : P.underlying t = some (.slice e)) (hC : P.cellsOf e = C)
    (helem : ∀ fuel cs y, DataW.trod enc P w base spare held fuel e cs = some y → ∃ x, Ok x ∧ cs = g x)
    (hv : ∃ a len cap, v = .slice a len cap) (h : DataW.Trod enc P w base spare held t v d ps) : ∃ xs : List α, (∀ x ∈ xs, Ok x) ∧ xs.length ≤ maxLen ∧ Row (fun _ => True) w C xs.length v (xs.flatMap g) := by
  obtain ⟨va, vl, vc, rfl⟩ := hv
  obtain ⟨fuel, hf⟩ := h
  rcases Deep.open_slice ht hf with ⟨h0, _⟩ | ⟨a, len, cap, m, n, D, Pl, hcs, _, hl, hm, hmm, _, hi⟩
  · have h0' : Value.slice va vl vc = .slice none 0 0 := by simpa [Value.cells] using h0
    rw [h0']
    exact ⟨[], fun x hx => by (cases hx), Nat.zero_le _, Row.nil _ _ _ _ _⟩
  · have hc' : Value.slice va vl vc = .slice (some a) len cap := by simpa [Value.cells] using hcs
    rw [hc']
    have hlm : len ≤ m := by rw [hmm]; split <;> omega
    have hex : ∀ i, i < len → ∃ x, Ok x ∧ w.cells? base (a.add (i * C)) C = some (g x) := by
      intro i hil
      obtain ⟨cs', h1, h2⟩ := hi i (by omega)
      rw [hC] at h1
      obtain ⟨x, hx, rfl⟩ := helem _ _ _ h2
      exact ⟨x, hx, h1⟩
    obtain ⟨f, hf'⟩ := Deep.choose_lt hex
    refine ⟨(List.range len).map f, fun x hx => ?_, by simp; omega, ?_⟩
    · obtain ⟨i, hi', rfl⟩ := List.mem_map.1 hx
      exact (hf' i (by simpa using hi')).1
    · refine ⟨flatMap_len g C hg _, some a, cap, by simp, by simpa using hl, fun hn => ?_⟩
      have hlen : 0 < len := by simp at hn; omega
      have hcell : ∀ i, i < len → ∀ r, r < C → w.cell? (a.add (i * C + r)) = (g (f i))[r]? := by
        intro i hil r hr
        obtain ⟨_, _, h3⟩ := World.cells?_some (hf' i hil).2
        rw [← Deep.add_add]; exact h3 r hr
      have hsp : a.spot = none := by
        have h00 := hcell 0 hlen 0 hC0
        rw [List.getElem?_eq_getElem (by rw [hg]; exact hC0)] at h00
        have := cell_spot h00
        simpa [Addr.add] using this
      obtain ⟨b, off, sp⟩ := a
      simp only at hsp
      subst hsp
      refine ⟨b, off, rfl, trivial, fun j u hj => ?_⟩
      obtain ⟨i, r, hi', hr, rfl, hu⟩ := flatMap_get g C hg _ j u hj
      have hil : i < len := by simpa using hi'
      have := hcell i hil r hr
      simp only [List.getElem_map, List.getElem_range] at hu
      rw [hu] at this
      rw [← this]
      unfold Addr.add
      split
      · rename_i h0; rw [h0]; rfl
      · rfl
end
section
variable {H : Type} {enc : TypeId × Value → H} {w : World} {base : Nat} {spare : Nat → Bool} {held : Bool}
/-- A nil slice has no capacity. -/
theorem open_rows_at {P : Program} {α : Type} [Inhabited α] {t e : TypeId} {fuel : Nat} {cs : List Value} {y : DataW H × List MemPlace} (g : α → List Value) (Ok : α → Prop) (C : Nat) (hg : ∀ x, (g x).length = C) (hC0 : 0 < C) (ht : P.underlying t = some (.slice e)) (hC : P.cellsOf e = C)
    (helem : ∀ fuel cs y, DataW.trod enc P w base spare held fuel e cs = some y → ∃ x, Ok x ∧ cs = g x)
    (h : DataW.trod enc P w base spare held fuel t cs = some y) : ∃ (v : Value) (xs : List α), cs = [v] ∧ (∀ x ∈ xs, Ok x) ∧ xs.length ≤ maxLen ∧ Row anyB w C xs.length v (flatC g xs) ∧ NilA v := by
  rcases Deep.open_slice ht h with ⟨h0, _⟩ | ⟨a, len, cap, _, _, _, _, h0, _⟩
  · obtain ⟨xs, h1, h2, h3⟩ := open_rows (d := y.1) (ps := y.2) g Ok C hg hC0 ht hC helem (v := .slice none 0 0) ⟨_, _, _, rfl⟩ ⟨fuel, by simpa [Value.cells, h0] using h⟩
    exact ⟨_, xs, h0, h1, h2, h3, fun n c e => by cases e; rfl⟩
  · obtain ⟨xs, h1, h2, h3⟩ := open_rows (d := y.1) (ps := y.2) g Ok C hg hC0 ht hC helem (v := .slice (some a) len cap) ⟨_, _, _, rfl⟩ ⟨fuel, by simpa [Value.cells, h0] using h⟩
    exact ⟨_, xs, h0, h1, h2, h3, fun n c e => by cases e⟩
theorem in64_of {n : Int} (h : (Lit.int .i64 n).wf = true) : In64 n := by
  unfold In64
  simp [Lit.wf, IntKind.min, IntKind.max, IntKind.signed, IntKind.bits] at h; omega
theorem u8_of {n : Int} (h : (Lit.int .u8 n).wf = true) : 0 ≤ n ∧ n ≤ 255 := by
  simpa [Lit.wf, IntKind.min, IntKind.max, IntKind.signed, IntKind.bits] using h
theorem one_of {l : List Value} {j : Nat} {v : Value} (h : (l.drop j).take 1 = [v]) : l[j]? = some v := by
  have := congrArg (·[0]?) h
  simpa using this
theorem four_of {l : List Value} (hl : l.length = 4) {a b c d : Value} (h0 : l[0]? = some a) (h1 : l[1]? = some b) (h2 : l[2]? = some c) (h3 : l[3]? = some d) : l = [a, b, c, d] := by
  match l, hl with
  | [_, _, _, _], _ => simp_all
theorem three_of {l : List Value} (hl : l.length = 3) {a b c : Value} (h0 : l[0]? = some a) (h1 : l[1]? = some b) (h2 : l[2]? = some c) : l = [a, b, c] := by
  match l, hl with
  | [_, _, _], _ => simp_all
theorem two_of {l : List Value} (hl : l.length = 2) {a b : Value} (h0 : l[0]? = some a) (h1 : l[1]? = some b) : l = [a, b] := by
  match l, hl with
  | [_, _], _ => simp_all
theorem key_elem (fuel : Nat) (cs : List Value) (y : DataW H × List MemPlace) (h : DataW.trod enc Tryz.prog w base spare held fuel 54 cs = some y) : ∃ x : K4, x.Ok ∧ cs = kC x := by
  obtain ⟨xs, n, _, _, hl, hxl, hf⟩ := DataW.trod_struct Tryz.underlying54 h
  rw [cells48] at hl
  have f0 := hf 0 _ rfl
  have f1 := hf 1 _ rfl
  have f2 := hf 2 _ rfl
  have f3 := hf 3 _ rfl
  have g : ∀ j, j < 4 → ∃ z, xs[j]? = some z := fun j hj => ⟨_, List.getElem?_eq_getElem (by rw [hxl]; exact hj)⟩
  obtain ⟨z0, e0⟩ := g 0 (by omega)
  obtain ⟨z1, e1⟩ := g 1 (by omega)
  obtain ⟨z2, e2⟩ := g 2 (by omega)
  obtain ⟨z3, e3⟩ := g 3 (by omega)
  rw [e0] at f0; rw [e1] at f1; rw [e2] at f2; rw [e3] at f3
  obtain ⟨n0, c0, _, w0⟩ := DataW.trod_int Tryz.underlying52 f0
  obtain ⟨n1, c1, _, w1⟩ := DataW.trod_int Tryz.underlying3 f1
  obtain ⟨n2, c2, _, w2⟩ := DataW.trod_int Tryz.underlying3 f2
  obtain ⟨n3, c3, _, w3⟩ := DataW.trod_int Tryz.underlying3 f3
  change (cs.drop 0).take (Tryz.prog.cellsOf 52) = _ at c0
  change (cs.drop 1).take (Tryz.prog.cellsOf 3) = _ at c1
  change (cs.drop 2).take (Tryz.prog.cellsOf 3) = _ at c2
  change (cs.drop 3).take (Tryz.prog.cellsOf 3) = _ at c3
  rw [cells46] at c0
  rw [cells3] at c1 c2 c3
  exact ⟨⟨n0, n1, n2, n3⟩, ⟨u8_of w0, in64_of w1, in64_of w2, in64_of w3⟩, four_of hl (one_of c0) (one_of c1) (one_of c2) (one_of c3)⟩
theorem msg_elem (fuel : Nat) (cs : List Value) (y : DataW H × List MemPlace) (h : DataW.trod enc Tryz.prog w base spare held fuel 57 cs = some y) : ∃ x : M3, x.Ok ∧ cs = mC x := by
  obtain ⟨xs, n, _, _, hl, hxl, hf⟩ := DataW.trod_struct Tryz.underlying57 h
  rw [cells54] at hl
  have f0 := hf 0 _ rfl
  have f1 := hf 1 _ rfl
  have f2 := hf 2 _ rfl
  have g : ∀ j, j < 3 → ∃ z, xs[j]? = some z := fun j hj => ⟨_, List.getElem?_eq_getElem (by rw [hxl]; exact hj)⟩
  obtain ⟨z0, e0⟩ := g 0 (by omega)
  obtain ⟨z1, e1⟩ := g 1 (by omega)
  obtain ⟨z2, e2⟩ := g 2 (by omega)
  rw [e0] at f0; rw [e1] at f1; rw [e2] at f2
  obtain ⟨n0, c0, _, w0⟩ := DataW.trod_int Tryz.underlying3 f0
  obtain ⟨n1, c1, _, w1⟩ := DataW.trod_int Tryz.underlying3 f1
  obtain ⟨n2, c2, _, w2⟩ := DataW.trod_int Tryz.underlying3 f2
  change (cs.drop 0).take (Tryz.prog.cellsOf 3) = _ at c0
  change (cs.drop 1).take (Tryz.prog.cellsOf 3) = _ at c1
  change (cs.drop 2).take (Tryz.prog.cellsOf 3) = _ at c2
  rw [cells3] at c0 c1 c2
  exact ⟨⟨n0, n1, n2⟩, ⟨in64_of w0, in64_of w1, in64_of w2⟩, three_of hl (one_of c0) (one_of c1) (one_of c2)⟩
theorem cells36 : Tryz.prog.cellsOf 66 = 2 := by kernel_rfl
theorem cells27 : Tryz.prog.cellsOf 31 = 1 := by kernel_rfl
theorem cells28 : Tryz.prog.cellsOf 32 = 1 := by kernel_rfl
/-- A cause that came in. -/
structure IvOk (w : World) (x : (Value × Value) × Cau) : Prop where
  u : Row anyB w 4 x.2.undo.length x.1.1 (flatC kC x.2.undo)
  h : Row anyB w 3 x.2.hold.length x.1.2 (flatC mC x.2.hold)
  nu : NilA x.1.1
  nh : NilA x.1.2
  ku : ∀ k ∈ x.2.undo, k.Ok
  mh : ∀ m ∈ x.2.hold, m.Ok
  lu : x.2.undo.length ≤ maxLen
  lh : x.2.hold.length ≤ maxLen
instance : Inhabited ((Value × Value) × Cau) := ⟨((.slice none 0 0, .slice none 0 0), default)⟩
theorem iv_elem (fuel : Nat) (cs : List Value) (y : DataW H × List MemPlace) (h : DataW.trod enc Tryz.prog w base spare held fuel 66 cs = some y) : ∃ x : (Value × Value) × Cau, IvOk w x ∧ cs = pC x.1 := by
  obtain ⟨xs, n, _, _, hl, hxl, hf⟩ := DataW.trod_struct Tryz.underlying66 h
  rw [cells36] at hl
  have f0 := hf 0 _ rfl
  have f1 := hf 1 _ rfl
  have g : ∀ j, j < 2 → ∃ z, xs[j]? = some z := fun j hj => ⟨_, List.getElem?_eq_getElem (by rw [hxl]; exact hj)⟩
  obtain ⟨z0, e0⟩ := g 0 (by omega)
  obtain ⟨z1, e1⟩ := g 1 (by omega)
  rw [e0] at f0; rw [e1] at f1
  obtain ⟨v0, l0, c0, k0, m0, r0, n0⟩ := open_rows_at kC K4.Ok 4 kC_len (by omega) Tryz.underlying31 cells48 key_elem f0
  obtain ⟨v1, l1, c1, k1, m1, r1, n1⟩ := open_rows_at mC M3.Ok 3 mC_len (by omega) Tryz.underlying32 cells54 msg_elem f1
  change (cs.drop 0).take (Tryz.prog.cellsOf 31) = _ at c0
  change (cs.drop 1).take (Tryz.prog.cellsOf 32) = _ at c1
  rw [cells27] at c0
  rw [cells28] at c1
  exact ⟨((v0, v1), ⟨l0, l1⟩), ⟨r0, r1, n0, n1, k0, k1, m0, m1⟩, two_of hl (one_of c0) (one_of c1)⟩
/-- What few asks of a list that came in. -/
structure InL (w : World) (l : List Cau) (v : Value) : Prop where
  row : CRow w l v
  len : l.length ≤ maxLen
  each : ∀ c ∈ l, c.undo.length ≤ maxLen ∧ c.hold.length ≤ maxLen
  ok : ∀ c ∈ l, (∀ k ∈ c.undo, k.Ok) ∧ ∀ m ∈ c.hold, m.Ok
theorem open_ivs {v : Value} {d : DataW H} {ps : List MemPlace} (hv : ∃ a len cap, v = .slice a len cap) (h : DataW.Trod enc Tryz.prog w base spare held 22 v d ps) : ∃ l : List Cau, InL w l v := by
  obtain ⟨xs, h1, h2, h3⟩ := open_rows (fun x : (Value × Value) × Cau => pC x.1) (IvOk w) 2 (fun _ => rfl) (by omega) Tryz.underlying22 cells36 iv_elem hv h
  have e : xs.flatMap (fun x => pC x.1) = flatC pC (xs.map (·.1)) := by unfold flatC; rw [List.flatMap_map]
  rw [e] at h3
  refine ⟨xs.map (·.2), ⟨xs.map (·.1), by simp, by rw [List.length_map]; exact h3, fun i a b => ?_⟩, by rw [List.length_map]; exact h2, fun c hc => ?_, fun c hc => ?_⟩
  · simp only [List.getElem_map]
    have hx := h1 (xs[i]'(by simpa using a)) (List.getElem_mem _)
    exact ⟨⟨hx.u, hx.h⟩, fun n c => ⟨hx.nu n c, hx.nh n c⟩⟩
  · obtain ⟨x, hx, rfl⟩ := List.mem_map.1 hc
    exact ⟨(h1 x hx).lu, (h1 x hx).lh⟩
  · obtain ⟨x, hx, rfl⟩ := List.mem_map.1 hc
    exact ⟨(h1 x hx).ku, (h1 x hx).mh⟩
end
theorem fewL_ok {l : List Cau} (h : ∀ c ∈ l, (∀ k ∈ c.undo, k.Ok) ∧ ∀ m ∈ c.hold, m.Ok) : ∀ c ∈ fewL l, c.Ok := by
  intro c hc
  obtain ⟨d, hd, rfl⟩ := List.mem_map.1 hc
  obtain ⟨h1, h2⟩ := h d (List.mem_of_mem_take hd)
  refine ⟨fun x hx => h1 x (List.mem_of_mem_take hx), fun x hx => h2 x (List.mem_of_mem_take hx), ?_, ?_⟩
  · show (d.undo.take 4).length ≤ 400; rw [List.length_take]; omega
  · show (d.hold.take 4).length ≤ 400; rw [List.length_take]; omega
theorem fewL_len (l : List Cau) : (fewL l).length ≤ 8 := by unfold fewL; rw [List.length_map, List.length_take]; omega
theorem fewL_keys (l : List Cau) : (keysL (fewL l)).length ≤ 32 := by
  have h : ∀ m : List Cau, (keysL (m.map Cau.cut)).length ≤ m.length * 4 := by
    intro m
    induction m with
    | nil => simp [keysL]
    | cons c r ih =>
      unfold keysL at ih ⊢
      rw [List.map_cons, List.flatMap_cons, List.length_append, List.length_cons]
      have : (c.cut.undo).length ≤ 4 := by show (c.undo.take 4).length ≤ 4; rw [List.length_take]; omega
      omega
  have := h (l.take 8)
  rw [List.length_take] at this
  unfold fewL
  omega
end Go.Proofs.YtemeppfikpafbaaGreat
