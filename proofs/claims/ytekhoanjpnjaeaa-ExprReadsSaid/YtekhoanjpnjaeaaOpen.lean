/- Arguments that are slices, opened: what the reading of an argument says of the cells. -/
import Derived.Test.YtekhoanjpnjaeaaBase
import Derived.Deep.Slices
import Derived.ProofKit
namespace Go.Proofs.Ytekhoanjpnjaeaa
open Go.RowKit Go.ChangeShapes Go.WideShapes
section
variable {H : Type} {enc : TypeId × Value → H} {P : Program} {w : World} {base : Nat} {spare : Nat → Bool} {held : Bool}

theorem flatMap_get {α : Type} (g : α → List Value) (C : Nat) (hg : ∀ x, (g x).length = C) : ∀ (xs : List α) (j : Nat) (u : Value), (xs.flatMap g)[j]? = some u → ∃ i r, ∃ h : i < xs.length, r < C ∧ j = i * C + r ∧ (g xs[i])[r]? = some u
  | [], j, u, h => by simp at h
  | x :: xs, j, u, h => by
    rw [List.flatMap_cons] at h
    by_cases hj : j < C
    · rw [List.getElem?_append_left (by rw [hg]; exact hj)] at h
      exact ⟨0, j, by simp, hj, by simp, by simpa using h⟩
    · rw [List.getElem?_append_right (by rw [hg]; omega), hg] at h
      obtain ⟨i, r, hi, hr, hjr, hu⟩ := flatMap_get g C hg xs _ u h
      exact ⟨i + 1, r, by simpa using hi, hr, by rw [Nat.add_mul]; omega, by simpa using hu⟩
theorem flatMap_len {α : Type} (g : α → List Value) (C : Nat) (hg : ∀ x, (g x).length = C) (xs : List α) : (xs.flatMap g).length = xs.length * C := by
  induction xs with
  | nil => simp
  | cons x xs ih => rw [List.flatMap_cons, List.length_append, hg, ih, List.length_cons, Nat.add_mul]; omega

theorem cell_spot {w : World} {a : Addr} {v : Value} (h : w.cell? a = some v) : a.spot = none := by
  unfold World.cell? at h
  split at h
  · split at h
    · cases h
    · rename_i hs; simpa using hs
  · cases h

/-- A slice whose elements are each known cell by cell. -/
theorem open_rows {α : Type} [Inhabited α] {t e : TypeId} {v : Value} {d : DataW H} {ps : List MemPlace} (g : α → List Value) (Ok : α → Prop) (C : Nat) (hg : ∀ x, (g x).length = C) (hC0 : 0 < C) (ht : P.underlying t = some (.slice e)) (hC : P.cellsOf e = C)
    (helem : ∀ fuel cs y, DataW.trod enc P w base spare held fuel e cs = some y → ∃ x, Ok x ∧ cs = g x)
    (hv : ∃ a len cap, v = .slice a len cap) (h : DataW.Trod enc P w base spare held t v d ps) : ∃ xs : List α, (∀ x ∈ xs, Ok x) ∧ xs.length ≤ maxLen ∧ Row (fun _ => True) w C xs.length v (xs.flatMap g) := by
  obtain ⟨va, vl, vc, rfl⟩ := hv
  obtain ⟨fuel, hf⟩ := h
  rcases Deep.open_slice ht hf with ⟨h0, _⟩ | ⟨a, len, cap, m, n, D, Pl, hcs, _, hl, hm, hmm, _, hi⟩
  · have h0' : Value.slice va vl vc = .slice none 0 0 := by simpa [Value.cells] using h0
    rw [h0']
    exact ⟨[], fun x hx => by (cases hx), Nat.zero_le _, Row.nil _ _ _ _ _⟩
  · have hc' : Value.slice va vl vc = .slice (some a) len cap := by simpa [Value.cells] using hcs
    rw [hc']
    have hlm : len ≤ m := by rw [hmm]; split <;> omega
    have hex : ∀ i, i < len → ∃ x, Ok x ∧ w.cells? base (a.add (i * C)) C = some (g x) := by
      intro i hil
      obtain ⟨cs', h1, h2⟩ := hi i (by omega)
      rw [hC] at h1
      obtain ⟨x, hx, rfl⟩ := helem _ _ _ h2
      exact ⟨x, hx, h1⟩
    obtain ⟨f, hf'⟩ := Deep.choose_lt hex
    refine ⟨(List.range len).map f, fun x hx => ?_, by simp; omega, ?_⟩
    · obtain ⟨i, hi', rfl⟩ := List.mem_map.1 hx
      exact (hf' i (by simpa using hi')).1
    · refine ⟨flatMap_len g C hg _, some a, cap, by simp, by simpa using hl, fun hn => ?_⟩
      have hlen : 0 < len := by simp at hn; omega
      have hcell : ∀ i, i < len → ∀ r, r < C → w.cell? (a.add (i * C + r)) = (g (f i))[r]? := by
        intro i hil r hr
        obtain ⟨_, _, h3⟩ := World.cells?_some (hf' i hil).2
        rw [← Deep.add_add]; exact h3 r hr
      have hsp : a.spot = none := by
        have h00 := hcell 0 hlen 0 hC0
        rw [List.getElem?_eq_getElem (by rw [hg]; exact hC0)] at h00
        have := cell_spot h00
        simpa [Addr.add] using this
      obtain ⟨b, off, sp⟩ := a
      simp only at hsp
      subst hsp
      refine ⟨b, off, rfl, trivial, fun j u hj => ?_⟩
      obtain ⟨i, r, hi', hr, rfl, hu⟩ := flatMap_get g C hg _ j u hj
      have hil : i < len := by simpa using hi'
      have := hcell i hil r hr
      simp only [List.getElem_map, List.getElem_range] at hu
      rw [hu] at this
      rw [← this]
      unfold Addr.add
      split
      · rename_i h0; rw [h0]; rfl
      · rfl
end
theorem cellsT5 : Try.prog.cellsOf 5 = 1 := by kernel_rfl
theorem cellsT4 : Try.prog.cellsOf 4 = 1 := by kernel_rfl
theorem cellsT2 : Try.prog.cellsOf 2 = 1 := by kernel_rfl
theorem wf8 {n : Int} (h : (Lit.int .u8 n).wf = true) : 0 ≤ n ∧ n ≤ 255 := by
  simpa [Lit.wf, IntKind.min, IntKind.max, IntKind.signed, IntKind.bits] using h
theorem wf64 {n : Int} (h : (Lit.int .i64 n).wf = true) : -9223372036854775808 ≤ n ∧ n ≤ 9223372036854775807 := by
  simp [Lit.wf, IntKind.min, IntKind.max, IntKind.signed, IntKind.bits] at h; omega
theorem in64_of {n : Int} (h : (Lit.int .i64 n).wf = true) : In64 n := by
  unfold In64; exact wf64 h
theorem one_of {l : List Value} {j : Nat} {v : Value} (h : (l.drop j).take 1 = [v]) : l[j]? = some v := by
  have := congrArg (·[0]?) h
  simpa using this
theorem five_of {l : List Value} (hl : l.length = 5) {a b c d e : Value} (h0 : l[0]? = some a) (h1 : l[1]? = some b) (h2 : l[2]? = some c) (h3 : l[3]? = some d) (h4 : l[4]? = some e) : l = [a, b, c, d, e] := by
  match l, hl with
  | [_, _, _, _, _], _ => simp_all
end Go.Proofs.Ytekhoanjpnjaeaa
