/- Slices of trees that are made by append. No program in sight. -/
import Derived.Test.YtekhoanjpnjaeaaTree
import Derived.Laws.AppendOwn
namespace Go.Proofs.Ytekhoanjpnjaeaa
open Go.RowKit

def flat (k : IntKind) : List Ex → List Value → List Value
  | t :: ts, c :: cs => .int k t.op :: .string t.name :: .int .i64 t.n :: c :: flat k ts cs
  | _, _ => []
theorem flat_length (k : IntKind) : ∀ (ts : List Ex) (cs : List Value), cs.length = ts.length → (flat k ts cs).length = ts.length * 4
  | [], [], _ => rfl
  | t :: ts, c :: cs, h => by
    simp only [flat, List.length_cons]
    rw [flat_length k ts cs (by simpa using h)]; omega
  | [], _ :: _, h => by simp at h
  | _ :: _, [], h => by simp at h
theorem flat_push (k : IntKind) (t : Ex) (c : Value) : ∀ (ts : List Ex) (cs : List Value), cs.length = ts.length → flat k (ts ++ [t]) (cs ++ [c]) = flat k ts cs ++ [.int k t.op, .string t.name, .int .i64 t.n, c]
  | [], [], _ => rfl
  | t :: ts, c :: cs, h => by
    simp only [flat, List.cons_append]
    rw [flat_push k _ _ ts cs (by simpa using h)]
  | [], _ :: _, h => by simp at h
  | _ :: _, [], h => by simp at h
theorem flat_get (k : IntKind) : ∀ (ts : List Ex) (cs : List Value) (_ : cs.length = ts.length) (i : Nat) (hi : i < ts.length),
    (flat k ts cs)[i * 4]? = some (.int k ts[i].op) ∧ (flat k ts cs)[i * 4 + 1]? = some (.string ts[i].name) ∧ (flat k ts cs)[i * 4 + 2]? = some (.int .i64 ts[i].n) ∧ (flat k ts cs)[i * 4 + 3]? = cs[i]?
  | t :: ts, c :: cs, h, 0, _ => by simp [flat]
  | t :: ts, c :: cs, h, i + 1, hi => by
    have := flat_get k ts cs (by simpa using h) i (by simpa using hi)
    rw [show (i + 1) * 4 = i * 4 + 1 + 1 + 1 + 1 by omega]
    simp only [flat, List.getElem_cons_succ, List.getElem?_cons_succ]
    exact this
  | [], _, _, _, hi => by simp at hi
  | _ :: _, [], h, _, _ => by simp at h

theorem owns_cell {w : World} {B : Nat} {e : TypeId} {n size : Nat} {v : Value} {xs : List Value} (h : w.ownsRow B e size v n xs) {j : Nat} {u : Value} (hj : xs[j]? = some u) :
    ∃ g cap, v = .slice (some ⟨g, 0, none⟩) n cap ∧ B ≤ g ∧ w.cell? ⟨g, j, none⟩ = some u := by
  obtain ⟨hl, h | ⟨g, cap, cur, hv, hB, hg, _, _, _, ht⟩⟩ := h
  · rw [h.2] at hl; simp at hl; subst hl; simp at hj
  · refine ⟨g, cap, hv, hB, ?_⟩
    simp only [World.cell?, hg]
    rw [← ht, List.getElem?_take] at hj
    split at hj
    · simpa using hj
    · cases hj
theorem owns_shape {w : World} {B : Nat} {e : TypeId} {n size : Nat} {v : Value} {xs : List Value} (h : w.ownsRow B e size v n xs) : ∃ a cap, v = .slice a n cap ∧ (∀ x, v.ownBlock = some x → B ≤ x ∧ x < w.heap.size) := by
  obtain ⟨hl, h | ⟨g, cap, cur, rfl, hB, hg, _, _, _, ht⟩⟩ := h
  · exact ⟨none, 0, by rw [h.1, h.2], fun x hx => by rw [h.1] at hx; simp [Value.ownBlock] at hx⟩
  · refine ⟨_, cap, rfl, fun x hx => ?_⟩
    have : g = x := by simpa [Value.ownBlock] using hx
    subst this
    refine ⟨hB, ?_⟩
    rcases Nat.lt_or_ge g w.heap.size with h | h
    · exact h
    · rw [Array.getElem?_eq_none h] at hg; cases hg
theorem owns_keep {w w' : World} {B : Nat} {e : TypeId} {n size : Nat} {v : Value} {xs : List Value} (h : w.ownsRow B e size v n xs) (hb : ∀ x, v.ownBlock = some x → w'.heap[x]? = w.heap[x]?) : w'.ownsRow B e size v n xs := by
  obtain ⟨hl, h | ⟨g, cap, cur, rfl, hB, hg, r⟩⟩ := h
  · exact ⟨hl, Or.inl h⟩
  · exact ⟨hl, Or.inr ⟨g, cap, cur, rfl, hB, by rw [hb g rfl]; exact hg, r⟩⟩

/-- The slice value sv, a row of the call's own from block B on, holds the trees ts; their operands lie in other blocks. -/
def Grow (k : IntKind) (ty : TypeId) (B : Nat) (w : World) (d : Nat) (sv : Value) (ts : List Ex) : Prop :=
  ∃ cs : List Value, cs.length = ts.length ∧ w.ownsRow B ty 4 sv ts.length (flat k ts cs) ∧ ∀ i (h : i < ts.length), Flds k ts[i] ∧ ∃ c, cs[i]? = some c ∧ RepS k (fun x => B ≤ x ∧ sv.ownBlock ≠ some x) w d ts[i].args c

theorem Grow.nil (k : IntKind) (ty : TypeId) (B : Nat) (w : World) (d : Nat) : Grow k ty B w d (.slice none 0 0) [] :=
  ⟨[], rfl, ⟨rfl, Or.inl ⟨rfl, rfl⟩⟩, fun _i h => absurd h (Nat.not_lt_zero _)⟩
theorem Grow.shape {k : IntKind} {ty : TypeId} {B : Nat} {w : World} {d : Nat} {sv : Value} {ts : List Ex} (h : Grow k ty B w d sv ts) : ∃ a cap, sv = .slice a ts.length cap ∧ (∀ x, sv.ownBlock = some x → B ≤ x ∧ x < w.heap.size) := by
  obtain ⟨cs, _, ho, _⟩ := h
  exact owns_shape ho
theorem Grow.rep {k : IntKind} {ty : TypeId} {B : Nat} {w : World} {d : Nat} {sv : Value} {ts : List Ex} (h : Grow k ty B w d sv ts) : RepS k (fun x => B ≤ x) w (d + 1) ts sv := by
  obtain ⟨cs, hl, ho, hc⟩ := h
  obtain ⟨a, cap, rfl, _⟩ := owns_shape ho
  refine ⟨a, cap, rfl, fun hne => ?_⟩
  have h0 : 0 < ts.length := by cases ts with | nil => exact absurd rfl hne | cons _ _ => simp
  obtain ⟨g, cap', hv, hB, _⟩ := owns_cell ho (flat_get k ts cs hl 0 h0).1
  simp only [Value.slice.injEq] at hv
  obtain ⟨rfl, _, rfl⟩ := hv
  refine ⟨g, 0, rfl, hB, fun i hi => ?_⟩
  obtain ⟨f0, f1, f2, f3⟩ := flat_get k ts cs hl i hi
  obtain ⟨hf, c, hci, hr⟩ := hc i hi
  have hcell : ∀ {j : Nat} {u : Value}, (flat k ts cs)[j]? = some u → w.cell? ⟨g, 0 + j, none⟩ = some u := by
    intro j u hj
    obtain ⟨g', cap'', hv', _, h'⟩ := owns_cell ho hj
    simp only [Value.slice.injEq, Option.some.injEq, Addr.mk.injEq, and_true, true_and] at hv'
    rw [hv'.1, Nat.zero_add]; exact h'
  rw [Nat.zero_add]
  simp only [Nat.zero_add] at hcell
  exact ⟨hcell f0, hcell f1, hcell f2, hf, c, hcell (f3.trans hci), hr.mono (fun _ h => h.1) (fun _ _ _ _ h => h) (Nat.le_refl _)⟩
theorem Grow.keep {k : IntKind} {ty : TypeId} {B : Nat} {w w' : World} {d : Nat} {sv : Value} {ts : List Ex} (h : Grow k ty B w d sv ts) (hb : ∀ x, B ≤ x → x < w.heap.size → w'.heap[x]? = w.heap[x]?) : Grow k ty B w' d sv ts := by
  obtain ⟨cs, hl, ho, hc⟩ := h
  obtain ⟨a, cap, _, hx⟩ := owns_shape ho
  refine ⟨cs, hl, owns_keep ho (fun x hx' => hb x (hx x hx').1 (hx x hx').2), fun i hi => ?_⟩
  obtain ⟨hf, c, hci, hr⟩ := hc i hi
  refine ⟨hf, c, hci, hr.mono (fun _ h => h) (fun x o v hx hv => ?_) (Nat.le_refl _)⟩
  rw [World.cell?_of_block (w := w) (hb x hx.1 (cell_lt hv))]; exact hv
theorem Grow.deeper {k : IntKind} {ty : TypeId} {B : Nat} {w : World} {d d' : Nat} {sv : Value} {ts : List Ex} (h : Grow k ty B w d sv ts) (hd : d ≤ d') : Grow k ty B w d' sv ts := by
  obtain ⟨cs, hl, ho, hc⟩ := h
  refine ⟨cs, hl, ho, fun i hi => ?_⟩
  obtain ⟨hf, c, hci, hr⟩ := hc i hi
  exact ⟨hf, c, hci, hr.mono (fun _ h => h) (fun _ _ _ _ h => h) hd⟩
/-- What the append's law asks, and what to do with what it leaves. -/
theorem Grow.open {k : IntKind} {ty : TypeId} {B : Nat} {w : World} {d : Nat} {sv : Value} {ts : List Ex} (h : Grow k ty B w d sv ts) :
    ∃ xs, w.ownsRow B ty 4 sv ts.length xs ∧ ∀ (w1 : World) (g cap H : Nat) (t : Ex) (c : Value),
      w1.ownsRow B ty 4 (.slice (some ⟨g, 0, none⟩) (ts.length + 1) cap) (ts.length + 1) (xs ++ [.int k t.op, .string t.name, .int .i64 t.n, c]) → w.grownBy w1 sv.ownBlock → (sv.ownBlock = some g ∨ g = H) → w.heap.size ≤ H →
      Flds k t → RepS k (fun x => B ≤ x ∧ sv.ownBlock ≠ some x) w d t.args c → Grow k ty B w1 d (.slice (some ⟨g, 0, none⟩) (ts.length + 1) cap) (ts ++ [t]) := by
  obtain ⟨cs, hl, ho, hc⟩ := h
  refine ⟨flat k ts cs, ho, fun w1 g cap H t c ho1 hg hat hH hf hr => ?_⟩
  have hmono : ∀ {l : List Ex} {v : Value}, RepS k (fun x => B ≤ x ∧ sv.ownBlock ≠ some x) w d l v → RepS k (fun x => B ≤ x ∧ (Value.slice (some ⟨g, 0, none⟩) (ts.length + 1) cap).ownBlock ≠ some x) w1 d l v := by
    intro l v hrep
    refine hrep.mono2 (fun x o u hx hu => ?_) (Nat.le_refl _)
    have hne : (Value.slice (some ⟨g, 0, none⟩) (ts.length + 1) cap).ownBlock ≠ some x := by
      intro e
      have e' : g = x := by simpa [Value.ownBlock] using e
      rcases hat with hat | hat
      · exact hx.2 (by rw [hat, e'])
      · have := cell_lt hu; omega
    refine ⟨⟨hx.1, hne⟩, ?_⟩
    rw [World.cell?_of_block (w := w) (a := ⟨x, o, none⟩) (hg.block x (cell_lt hu) (fun e => hx.2 e.symm))]; exact hu
  refine ⟨cs ++ [c], by simp [hl], ?_, fun i hi => ?_⟩
  · rw [flat_push k t c ts cs hl, List.length_append]; exact ho1
  · by_cases hit : i < ts.length
    · obtain ⟨hf', c', hci, hr'⟩ := hc i hit
      rw [List.getElem_append_left hit]
      exact ⟨hf', c', by rw [List.getElem?_append_left (by omega)]; exact hci, hmono hr'⟩
    · have : i = ts.length := by simp at hi; omega
      subst this
      simp only [List.getElem_concat_length]
      exact ⟨hf, c, by rw [List.getElem?_append_right (by omega)]; simp [hl], hmono hr⟩
end Go.Proofs.Ytekhoanjpnjaeaa
