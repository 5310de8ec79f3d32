/- Texts Tree, Grow, Row, Arith, Base, Open, Ops, Own, laid together. -/
import Derived.Below
import Derived.Deep.Draws
import Derived.Laws.AppendOwn
import Derived.RowKit
import Derived.Test.YtekhoanjpnjaeaaProg
import Derived.WalkKit
import Derived.WalkLawsBesides
import Derived.WalkSpells
import Derived.Outline
import Derived.Lib.Hide
import Derived.Deep.QuietTactic
import Derived.BigQuiet
import Derived.Deep.RegionHeld3
import Derived.Deep.RegionLaw
import Derived.Deep.AppendLies
import Derived.Deep.Slices
import Derived.ProofKit
/- Expression trees in memory: a tree whose operands lie in slices of four cells each. No program in sight. -/
namespace Go.Proofs.Ytekhoanjpnjaeaa
open Go.RowKit

inductive Ex where
  | node (op : Int) (name : ByteArray) (n : Int) (args : List Ex)
def Ex.op : Ex → Int | .node o _ _ _ => o
def Ex.name : Ex → ByteArray | .node _ s _ _ => s
def Ex.n : Ex → Int | .node _ _ n _ => n
def Ex.args : Ex → List Ex | .node _ _ _ l => l
/-- the cells of a tree's own fields -/
structure Flds (_k : IntKind) (t : Ex) : Prop where
  op : (Lit.int .u8 t.op).wf = true
  n : (Lit.int .i64 t.n).wf = true
  name : t.name.size ≤ maxLen
  len : t.args.length < 4294967296

/-- A slice value 'v' that holds the trees 'ts', of depth below 'd', all in blocks of S. -/
def RepS (k : IntKind) (S : Nat → Prop) (w : World) : Nat → List Ex → Value → Prop
  | 0, ts, v => ts = [] ∧ ∃ a cap, v = .slice a 0 cap
  | d + 1, ts, v => ∃ a cap, v = .slice a ts.length cap ∧ (ts ≠ [] → ∃ b off, a = some ⟨b, off, none⟩ ∧ S b ∧ ∀ i (h : i < ts.length),
      w.cell? ⟨b, off + i * 4, none⟩ = some (.int k ts[i].op) ∧ w.cell? ⟨b, off + i * 4 + 1, none⟩ = some (.string ts[i].name) ∧
      w.cell? ⟨b, off + i * 4 + 2, none⟩ = some (.int .i64 ts[i].n) ∧ Flds k ts[i] ∧
      ∃ c, w.cell? ⟨b, off + i * 4 + 3, none⟩ = some c ∧ RepS k S w d ts[i].args c)

/-- The tree at an address. -/
def RepAt (k : IntKind) (S : Nat → Prop) (w : World) (d : Nat) (t : Ex) (b off : Nat) : Prop :=
  w.cell? ⟨b, off, none⟩ = some (.int k t.op) ∧ w.cell? ⟨b, off + 1, none⟩ = some (.string t.name) ∧
  w.cell? ⟨b, off + 2, none⟩ = some (.int .i64 t.n) ∧ Flds k t ∧ ∃ c, w.cell? ⟨b, off + 3, none⟩ = some c ∧ RepS k S w d t.args c

theorem RepS.zero {k : IntKind} {S : Nat → Prop} {w : World} {ts : List Ex} {v : Value} (h : RepS k S w 0 ts v) : ts = [] ∧ ∃ a cap, v = .slice a 0 cap := h
theorem RepS.shape {k : IntKind} {S : Nat → Prop} {w : World} {d : Nat} {ts : List Ex} {v : Value} (h : RepS k S w d ts v) : ∃ a cap, v = .slice a ts.length cap := by
  cases d with
  | zero => obtain ⟨rfl, a, cap, rfl⟩ := h; exact ⟨a, cap, rfl⟩
  | succ d => obtain ⟨a, cap, rfl, _⟩ := h; exact ⟨a, cap, rfl⟩
/-- One element of a slice. -/
theorem RepS.at {k : IntKind} {S : Nat → Prop} {w : World} {d : Nat} {ts : List Ex} {a : Option Addr} {len cap : Nat} (h : RepS k S w d ts (.slice a len cap)) (hne : ts ≠ []) :
    ∃ d' b off, d = d' + 1 ∧ a = some ⟨b, off, none⟩ ∧ len = ts.length ∧ S b ∧ ∀ i (hi : i < ts.length), RepAt k S w d' ts[i] b (off + i * 4) := by
  cases d with
  | zero => exact absurd h.1 hne
  | succ d =>
    obtain ⟨a', cap', he, hr⟩ := h
    cases he
    obtain ⟨b, off, rfl, hS, hi⟩ := hr hne
    exact ⟨d, b, off, rfl, rfl, rfl, hS, hi⟩
theorem RepS.nil {k : IntKind} {S : Nat → Prop} {w : World} (d : Nat) (a : Option Addr) (cap : Nat) : RepS k S w d [] (.slice a 0 cap) := by
  cases d with
  | zero => exact ⟨rfl, a, cap, rfl⟩
  | succ d => exact ⟨a, cap, rfl, fun h => absurd rfl h⟩
theorem RepS.mk {k : IntKind} {S : Nat → Prop} {w : World} {d : Nat} {ts : List Ex} {b off len cap : Nat} (hl : len = ts.length) (hS : S b) (h : ∀ i (hi : i < ts.length), RepAt k S w d ts[i] b (off + i * 4)) :
    RepS k S w (d + 1) ts (.slice (some ⟨b, off, none⟩) len cap) := by
  subst hl; exact ⟨_, cap, rfl, fun _ => ⟨b, off, rfl, hS, h⟩⟩

/-- What a reading needs of the worlds: the cells of the blocks of S. -/
theorem RepS.mono {k : IntKind} {S S' : Nat → Prop} {w w' : World} (hS : ∀ b, S b → S' b) (hw : ∀ b off v, S b → w.cell? ⟨b, off, none⟩ = some v → w'.cell? ⟨b, off, none⟩ = some v) :
    ∀ {d : Nat} {d' : Nat} {ts : List Ex} {v : Value}, d ≤ d' → RepS k S w d ts v → RepS k S' w' d' ts v := by
  intro d
  induction d with
  | zero => intro d' ts v _ h; obtain ⟨rfl, a, cap, rfl⟩ := h; exact RepS.nil _ _ _
  | succ d ih =>
    intro d' ts v hd h
    obtain ⟨d'', rfl⟩ : ∃ d'', d' = d'' + 1 := ⟨d' - 1, by omega⟩
    obtain ⟨a, cap, rfl, hr⟩ := h
    refine ⟨a, cap, rfl, fun hne => ?_⟩
    obtain ⟨b, off, rfl, hb, hi⟩ := hr hne
    refine ⟨b, off, rfl, hS b hb, fun i h => ?_⟩
    obtain ⟨h0, h1, h2, hf, c, h3, hc⟩ := hi i h
    exact ⟨hw _ _ _ hb h0, hw _ _ _ hb h1, hw _ _ _ hb h2, hf, c, hw _ _ _ hb h3, ih (by omega) hc⟩
theorem RepAt.mono {k : IntKind} {S S' : Nat → Prop} {w w' : World} {d d' : Nat} {t : Ex} {b off : Nat} (hS : ∀ b, S b → S' b) (hw : ∀ b off v, S b → w.cell? ⟨b, off, none⟩ = some v → w'.cell? ⟨b, off, none⟩ = some v)
    (hb : ∀ j v, j < 4 → w.cell? ⟨b, off + j, none⟩ = some v → w'.cell? ⟨b, off + j, none⟩ = some v) (hd : d ≤ d') (h : RepAt k S w d t b off) : RepAt k S' w' d' t b off := by
  obtain ⟨h0, h1, h2, hf, c, h3, hc⟩ := h
  exact ⟨hb 0 _ (by omega) h0, hb 1 _ (by omega) h1, hb 2 _ (by omega) h2, hf, c, hb 3 _ (by omega) h3, hc.mono hS hw hd⟩

/-- .. where the new set of blocks is known of those blocks alone in which something is read. -/
theorem RepS.mono2 {k : IntKind} {S S' : Nat → Prop} {w w' : World} (hw : ∀ b off v, S b → w.cell? ⟨b, off, none⟩ = some v → S' b ∧ w'.cell? ⟨b, off, none⟩ = some v) :
    ∀ {d : Nat} {d' : Nat} {ts : List Ex} {v : Value}, d ≤ d' → RepS k S w d ts v → RepS k S' w' d' ts v := by
  intro d
  induction d with
  | zero => intro d' ts v _ h; obtain ⟨rfl, a, cap, rfl⟩ := h; exact RepS.nil _ _ _
  | succ d ih =>
    intro d' ts v hd h
    obtain ⟨d'', rfl⟩ : ∃ d'', d' = d'' + 1 := ⟨d' - 1, by omega⟩
    obtain ⟨a, cap, rfl, hr⟩ := h
    refine ⟨a, cap, rfl, fun hne => ?_⟩
    obtain ⟨b, off, rfl, hb, hi⟩ := hr hne
    have h0 : 0 < ts.length := by cases ts with | nil => exact absurd rfl hne | cons _ _ => simp
    refine ⟨b, off, rfl, (hw _ _ _ hb (hi 0 h0).1).1, fun i h => ?_⟩
    obtain ⟨h0, h1, h2, hf, c, h3, hc⟩ := hi i h
    exact ⟨(hw _ _ _ hb h0).2, (hw _ _ _ hb h1).2, (hw _ _ _ hb h2).2, hf, c, (hw _ _ _ hb h3).2, ih (by omega) hc⟩

theorem cell_lt {w : World} {b off : Nat} {v : Value} (h : w.cell? ⟨b, off, none⟩ = some v) : b < w.heap.size := by
  unfold World.cell? at h
  by_cases hb : b < w.heap.size
  · exact hb
  · simp [Array.getElem?_eq_none (Nat.le_of_not_lt hb)] at h
theorem below_cell {w w' : World} (hB : Below w.heap.size w w') {b off : Nat} {v : Value} (h : w.cell? ⟨b, off, none⟩ = some v) : w'.cell? ⟨b, off, none⟩ = some v := by
  rw [hB.cell (p := ⟨b, off, none⟩) (cell_lt h)]; exact h
theorem RepS.below {k : IntKind} {S : Nat → Prop} {w w' : World} {d : Nat} {ts : List Ex} {v : Value} (hB : Below w.heap.size w w') (h : RepS k S w d ts v) : RepS k S w' d ts v :=
  h.mono (fun _ h => h) (fun _ _ _ _ h => below_cell hB h) (Nat.le_refl _)
theorem RepAt.below {k : IntKind} {S : Nat → Prop} {w w' : World} {d : Nat} {t : Ex} {b off : Nat} (hB : Below w.heap.size w w') (h : RepAt k S w d t b off) : RepAt k S w' d t b off :=
  h.mono (fun _ h => h) (fun _ _ _ _ h => below_cell hB h) (fun _ _ _ h => below_cell hB h) (Nat.le_refl _)
theorem below_drewN (w : World) (n : Nat) (B : Nat) : Below B w (w.drewN n) := ⟨rfl, rfl, rfl, Nat.le_refl _, fun _ _ => rfl⟩
theorem RepAt.drewN {k : IntKind} {S : Nat → Prop} {w : World} {d : Nat} {t : Ex} {b off : Nat} (h : RepAt k S w d t b off) (n : Nat) : RepAt k S (w.drewN n) d t b off := h.below (below_drewN w n _)
theorem RepS.drewN {k : IntKind} {S : Nat → Prop} {w : World} {d : Nat} {ts : List Ex} {v : Value} (h : RepS k S w d ts v) (n : Nat) : RepS k S (w.drewN n) d ts v := h.below (below_drewN w n _)
end Go.Proofs.Ytekhoanjpnjaeaa

/- Slices of trees that are made by append. No program in sight. -/
namespace Go.Proofs.Ytekhoanjpnjaeaa
open Go.RowKit

def flat (k : IntKind) : List Ex → List Value → List Value
  | t :: ts, c :: cs => .int k t.op :: .string t.name :: .int .i64 t.n :: c :: flat k ts cs
  | _, _ => []
theorem flat_push (k : IntKind) (t : Ex) (c : Value) : ∀ (ts : List Ex) (cs : List Value), cs.length = ts.length → flat k (ts ++ [t]) (cs ++ [c]) = flat k ts cs ++ [.int k t.op, .string t.name, .int .i64 t.n, c]
  | [], [], _ => rfl
  | t :: ts, c :: cs, h => by
    simp only [flat, List.cons_append]
    rw [flat_push k _ _ ts cs (by simpa using h)]
  | [], _ :: _, h => by simp at h
  | _ :: _, [], h => by simp at h
theorem flat_get (k : IntKind) : ∀ (ts : List Ex) (cs : List Value) (_ : cs.length = ts.length) (i : Nat) (hi : i < ts.length),
    (flat k ts cs)[i * 4]? = some (.int k ts[i].op) ∧ (flat k ts cs)[i * 4 + 1]? = some (.string ts[i].name) ∧ (flat k ts cs)[i * 4 + 2]? = some (.int .i64 ts[i].n) ∧ (flat k ts cs)[i * 4 + 3]? = cs[i]?
  | t :: ts, c :: cs, h, 0, _ => by simp [flat]
  | t :: ts, c :: cs, h, i + 1, hi => by
    have := flat_get k ts cs (by simpa using h) i (by simpa using hi)
    rw [show (i + 1) * 4 = i * 4 + 1 + 1 + 1 + 1 by omega]
    simp only [flat, List.getElem_cons_succ, List.getElem?_cons_succ]
    exact this
  | [], _, _, _, hi => by simp at hi
  | _ :: _, [], h, _, _ => by simp at h

theorem owns_cell {w : World} {B : Nat} {e : TypeId} {n size : Nat} {v : Value} {xs : List Value} (h : w.ownsRow B e size v n xs) {j : Nat} {u : Value} (hj : xs[j]? = some u) :
    ∃ g cap, v = .slice (some ⟨g, 0, none⟩) n cap ∧ B ≤ g ∧ w.cell? ⟨g, j, none⟩ = some u := by
  obtain ⟨hl, h | ⟨g, cap, cur, hv, hB, hg, _, _, _, ht⟩⟩ := h
  · rw [h.2] at hl; simp at hl; subst hl; simp at hj
  · refine ⟨g, cap, hv, hB, ?_⟩
    simp only [World.cell?, hg]
    rw [← ht, List.getElem?_take] at hj
    split at hj
    · simpa using hj
    · cases hj
theorem owns_shape {w : World} {B : Nat} {e : TypeId} {n size : Nat} {v : Value} {xs : List Value} (h : w.ownsRow B e size v n xs) : ∃ a cap, v = .slice a n cap ∧ (∀ x, v.ownBlock = some x → B ≤ x ∧ x < w.heap.size) := by
  obtain ⟨hl, h | ⟨g, cap, cur, rfl, hB, hg, _, _, _, ht⟩⟩ := h
  · exact ⟨none, 0, by rw [h.1, h.2], fun x hx => by rw [h.1] at hx; simp [Value.ownBlock] at hx⟩
  · refine ⟨_, cap, rfl, fun x hx => ?_⟩
    have : g = x := by simpa [Value.ownBlock] using hx
    subst this
    refine ⟨hB, ?_⟩
    rcases Nat.lt_or_ge g w.heap.size with h | h
    · exact h
    · rw [Array.getElem?_eq_none h] at hg; cases hg
theorem owns_keep {w w' : World} {B : Nat} {e : TypeId} {n size : Nat} {v : Value} {xs : List Value} (h : w.ownsRow B e size v n xs) (hb : ∀ x, v.ownBlock = some x → w'.heap[x]? = w.heap[x]?) : w'.ownsRow B e size v n xs := by
  obtain ⟨hl, h | ⟨g, cap, cur, rfl, hB, hg, r⟩⟩ := h
  · exact ⟨hl, Or.inl h⟩
  · exact ⟨hl, Or.inr ⟨g, cap, cur, rfl, hB, by rw [hb g rfl]; exact hg, r⟩⟩

/-- The slice value sv, a row of the call's own from block B on, holds the trees ts; their operands lie in other blocks. -/
def Grow (k : IntKind) (ty : TypeId) (B : Nat) (w : World) (d : Nat) (sv : Value) (ts : List Ex) : Prop :=
  ∃ cs : List Value, cs.length = ts.length ∧ w.ownsRow B ty 4 sv ts.length (flat k ts cs) ∧ ∀ i (h : i < ts.length), Flds k ts[i] ∧ ∃ c, cs[i]? = some c ∧ RepS k (fun x => B ≤ x ∧ sv.ownBlock ≠ some x) w d ts[i].args c

theorem Grow.nil (k : IntKind) (ty : TypeId) (B : Nat) (w : World) (d : Nat) : Grow k ty B w d (.slice none 0 0) [] :=
  ⟨[], rfl, ⟨rfl, Or.inl ⟨rfl, rfl⟩⟩, fun _i h => absurd h (Nat.not_lt_zero _)⟩
theorem Grow.shape {k : IntKind} {ty : TypeId} {B : Nat} {w : World} {d : Nat} {sv : Value} {ts : List Ex} (h : Grow k ty B w d sv ts) : ∃ a cap, sv = .slice a ts.length cap ∧ (∀ x, sv.ownBlock = some x → B ≤ x ∧ x < w.heap.size) := by
  obtain ⟨cs, _, ho, _⟩ := h
  exact owns_shape ho
theorem Grow.rep {k : IntKind} {ty : TypeId} {B : Nat} {w : World} {d : Nat} {sv : Value} {ts : List Ex} (h : Grow k ty B w d sv ts) : RepS k (fun x => B ≤ x) w (d + 1) ts sv := by
  obtain ⟨cs, hl, ho, hc⟩ := h
  obtain ⟨a, cap, rfl, _⟩ := owns_shape ho
  refine ⟨a, cap, rfl, fun hne => ?_⟩
  have h0 : 0 < ts.length := by cases ts with | nil => exact absurd rfl hne | cons _ _ => simp
  obtain ⟨g, cap', hv, hB, _⟩ := owns_cell ho (flat_get k ts cs hl 0 h0).1
  simp only [Value.slice.injEq] at hv
  obtain ⟨rfl, _, rfl⟩ := hv
  refine ⟨g, 0, rfl, hB, fun i hi => ?_⟩
  obtain ⟨f0, f1, f2, f3⟩ := flat_get k ts cs hl i hi
  obtain ⟨hf, c, hci, hr⟩ := hc i hi
  have hcell : ∀ {j : Nat} {u : Value}, (flat k ts cs)[j]? = some u → w.cell? ⟨g, 0 + j, none⟩ = some u := by
    intro j u hj
    obtain ⟨g', cap'', hv', _, h'⟩ := owns_cell ho hj
    simp only [Value.slice.injEq, Option.some.injEq, Addr.mk.injEq, and_true, true_and] at hv'
    rw [hv'.1, Nat.zero_add]; exact h'
  rw [Nat.zero_add]
  simp only [Nat.zero_add] at hcell
  exact ⟨hcell f0, hcell f1, hcell f2, hf, c, hcell (f3.trans hci), hr.mono (fun _ h => h.1) (fun _ _ _ _ h => h) (Nat.le_refl _)⟩
theorem Grow.keep {k : IntKind} {ty : TypeId} {B : Nat} {w w' : World} {d : Nat} {sv : Value} {ts : List Ex} (h : Grow k ty B w d sv ts) (hb : ∀ x, B ≤ x → x < w.heap.size → w'.heap[x]? = w.heap[x]?) : Grow k ty B w' d sv ts := by
  obtain ⟨cs, hl, ho, hc⟩ := h
  obtain ⟨a, cap, _, hx⟩ := owns_shape ho
  refine ⟨cs, hl, owns_keep ho (fun x hx' => hb x (hx x hx').1 (hx x hx').2), fun i hi => ?_⟩
  obtain ⟨hf, c, hci, hr⟩ := hc i hi
  refine ⟨hf, c, hci, hr.mono (fun _ h => h) (fun x o v hx hv => ?_) (Nat.le_refl _)⟩
  rw [World.cell?_of_block (w := w) (hb x hx.1 (cell_lt hv))]; exact hv
/-- What the append's law asks, and what to do with what it leaves. -/
theorem Grow.open {k : IntKind} {ty : TypeId} {B : Nat} {w : World} {d : Nat} {sv : Value} {ts : List Ex} (h : Grow k ty B w d sv ts) :
    ∃ xs, w.ownsRow B ty 4 sv ts.length xs ∧ ∀ (w1 : World) (g cap H : Nat) (t : Ex) (c : Value),
      w1.ownsRow B ty 4 (.slice (some ⟨g, 0, none⟩) (ts.length + 1) cap) (ts.length + 1) (xs ++ [.int k t.op, .string t.name, .int .i64 t.n, c]) → w.grownBy w1 sv.ownBlock → (sv.ownBlock = some g ∨ g = H) → w.heap.size ≤ H →
      Flds k t → RepS k (fun x => B ≤ x ∧ sv.ownBlock ≠ some x) w d t.args c → Grow k ty B w1 d (.slice (some ⟨g, 0, none⟩) (ts.length + 1) cap) (ts ++ [t]) := by
  obtain ⟨cs, hl, ho, hc⟩ := h
  refine ⟨flat k ts cs, ho, fun w1 g cap H t c ho1 hg hat hH hf hr => ?_⟩
  have hmono : ∀ {l : List Ex} {v : Value}, RepS k (fun x => B ≤ x ∧ sv.ownBlock ≠ some x) w d l v → RepS k (fun x => B ≤ x ∧ (Value.slice (some ⟨g, 0, none⟩) (ts.length + 1) cap).ownBlock ≠ some x) w1 d l v := by
    intro l v hrep
    refine hrep.mono2 (fun x o u hx hu => ?_) (Nat.le_refl _)
    have hne : (Value.slice (some ⟨g, 0, none⟩) (ts.length + 1) cap).ownBlock ≠ some x := by
      intro e
      have e' : g = x := by simpa [Value.ownBlock] using e
      rcases hat with hat | hat
      · exact hx.2 (by rw [hat, e'])
      · have := cell_lt hu; omega
    refine ⟨⟨hx.1, hne⟩, ?_⟩
    rw [World.cell?_of_block (w := w) (a := ⟨x, o, none⟩) (hg.block x (cell_lt hu) (fun e => hx.2 e.symm))]; exact hu
  refine ⟨cs ++ [c], by simp [hl], ?_, fun i hi => ?_⟩
  · rw [flat_push k t c ts cs hl, List.length_append]; exact ho1
  · by_cases hit : i < ts.length
    · obtain ⟨hf', c', hci, hr'⟩ := hc i hit
      rw [List.getElem_append_left hit]
      exact ⟨hf', c', by rw [List.getElem?_append_left (by omega)]; exact hci, hmono hr'⟩
    · have : i = ts.length := by simp at hi; omega
      subst this
      simp only [List.getElem_concat_length]
      exact ⟨hf, c, by rw [List.getElem?_append_right (by omega)]; simp [hl], hmono hr⟩
end Go.Proofs.Ytekhoanjpnjaeaa

/- Slices that read as a list of cells. No program in sight. -/
namespace Go.Proofs.Ytekhoanjpnjaeaa
open Go.RowKit

/-- The slice value v has n elements of 'size' cells each, which are xs. -/
def Row (S : Nat → Prop) (w : World) (size n : Nat) (v : Value) (xs : List Value) : Prop :=
  xs.length = n * size ∧ ∃ a cap, v = .slice a n cap ∧ n ≤ cap ∧ (n ≠ 0 → ∃ b off, a = some ⟨b, off, none⟩ ∧ S b ∧ ∀ j u, xs[j]? = some u → w.cell? ⟨b, off + j, none⟩ = some u)

theorem Row.shape {S : Nat → Prop} {w : World} {size n : Nat} {v : Value} {xs : List Value} (h : Row S w size n v xs) : ∃ a cap, v = .slice a n cap ∧ n ≤ cap := by
  obtain ⟨_, a, cap, rfl, hc, _⟩ := h; exact ⟨a, cap, rfl, hc⟩
theorem Row.at {S : Nat → Prop} {w : World} {size n len cap : Nat} {a : Option Addr} {xs : List Value} (h : Row S w size n (.slice a len cap) xs) (hn : n ≠ 0) :
    ∃ b off, a = some ⟨b, off, none⟩ ∧ len = n ∧ S b ∧ ∀ j u, xs[j]? = some u → w.cell? ⟨b, off + j, none⟩ = some u := by
  obtain ⟨_, a', cap', he, _, hr⟩ := h
  cases he
  obtain ⟨b, off, rfl, hS, hc⟩ := hr hn
  exact ⟨b, off, rfl, rfl, hS, hc⟩
theorem Row.nil (S : Nat → Prop) (w : World) (size : Nat) (a : Option Addr) (cap : Nat) : Row S w size 0 (.slice a 0 cap) [] :=
  ⟨by simp, a, cap, rfl, Nat.zero_le _, fun h => absurd rfl h⟩
theorem Row.mono2 {S S' : Nat → Prop} {w w' : World} {size n : Nat} {v : Value} {xs : List Value} (hs : 0 < size) (hw : ∀ b off u, S b → w.cell? ⟨b, off, none⟩ = some u → S' b ∧ w'.cell? ⟨b, off, none⟩ = some u) (h : Row S w size n v xs) : Row S' w' size n v xs := by
  obtain ⟨hl, a, cap, rfl, hc, hr⟩ := h
  refine ⟨hl, a, cap, rfl, hc, fun hn => ?_⟩
  obtain ⟨b, off, rfl, hS, hcell⟩ := hr hn
  have h0 : 0 < xs.length := by rw [hl]; exact Nat.mul_pos (by omega) hs
  exact ⟨b, off, rfl, (hw _ _ _ hS (hcell 0 xs[0] (List.getElem?_eq_getElem h0))).1, fun j u hj => (hw _ _ _ hS (hcell j u hj)).2⟩
theorem Row.mono {S S' : Nat → Prop} {w w' : World} {size n : Nat} {v : Value} {xs : List Value} (hS : ∀ b, S b → S' b) (hw : ∀ b off u, S b → w.cell? ⟨b, off, none⟩ = some u → w'.cell? ⟨b, off, none⟩ = some u) (h : Row S w size n v xs) : Row S' w' size n v xs := by
  obtain ⟨hl, a, cap, rfl, hc, hr⟩ := h
  refine ⟨hl, a, cap, rfl, hc, fun hn => ?_⟩
  obtain ⟨b, off, rfl, hb, hcell⟩ := hr hn
  exact ⟨b, off, rfl, hS b hb, fun j u hj => hw _ _ _ hb (hcell j u hj)⟩
theorem Row.below {S : Nat → Prop} {w w' : World} {size n : Nat} {v : Value} {xs : List Value} (hB : Below w.heap.size w w') (h : Row S w size n v xs) : Row S w' size n v xs :=
  h.mono (fun _ h => h) (fun _ _ _ _ h => below_cell hB h)
/-- A row that append has made. -/
theorem Row.of_owns {w : World} {B : Nat} {e : TypeId} {n size : Nat} {v : Value} {xs : List Value} (h : w.ownsRow B e size v n xs) : Row (fun x => B ≤ x) w size n v xs := by
  obtain ⟨hl, h | ⟨g, cap, cur, rfl, hB, hg, hnc, _, _, ht⟩⟩ := h
  · obtain ⟨rfl, rfl⟩ := h
    have : xs = [] := by simpa using hl
    subst this
    exact Row.nil _ _ _ _ _
  · refine ⟨hl, _, cap, rfl, hnc, fun _ => ⟨g, 0, rfl, hB, fun j u hj => ?_⟩⟩
    simp only [World.cell?, hg, Nat.zero_add]
    rw [← ht, List.getElem?_take] at hj
    split at hj
    · simpa using hj
    · cases hj
/-- What is left behind the first k elements. -/
theorem Row.drop {S : Nat → Prop} {w : World} {size n cap k : Nat} {b off : Nat} {xs : List Value} (h : Row S w size n (.slice (some ⟨b, off, none⟩) n cap) xs) (hk : k ≤ n) :
    Row S w size (n - k) (.slice (some ⟨b, off + k * size, none⟩) (n - k) (cap - k)) (xs.drop (k * size)) := by
  obtain ⟨hl, a, cap', he, hc, hr⟩ := h
  cases he
  refine ⟨by rw [List.length_drop, hl, Nat.sub_mul], _, _, rfl, by omega, fun hn => ?_⟩
  obtain ⟨b', off', he', hS, hcell⟩ := hr (by omega)
  cases he'
  refine ⟨b, off + k * size, rfl, hS, fun j u hj => ?_⟩
  rw [List.getElem?_drop] at hj
  rw [Nat.add_assoc]
  exact hcell _ _ hj
end Go.Proofs.Ytekhoanjpnjaeaa

/- Plain facts on 64-bit arithmetic (no program in sight). -/
namespace Go.Proofs.Ytekhoanjpnjaeaa
open Go.RowKit
theorem w64_range (a : Int) : -9223372036854775808 ≤ wrap64 a ∧ wrap64 a ≤ 9223372036854775807 := by
  unfold wrap64; omega
end Go.Proofs.Ytekhoanjpnjaeaa

/- Small facts on worlds, rows of pairs and types: shared by all texts of this seat. -/
namespace Go.Proofs.Ytekhoanjpnjaeaa
open Go.RowKit
theorem thaw {w : World} {M : Nat} {arr : Array Value} {ty : TypeId} (h : w.heap[M]? = some (.cells arr ty)) (o : Nat) : w.frozen? ⟨M, o, none⟩ = false := by
  simp [World.frozen?, h]
theorem alloc_last (w : World) (o : Obj) : (w.alloc o).heap[w.heap.size]? = some o := by
  show (w.heap.push o)[w.heap.size]? = _
  simp
theorem alloc_at (w : World) (o : Obj) {n : Nat} (h : n = w.heap.size) : (w.alloc o).heap[n]? = some o := by subst h; exact alloc_last w o
theorem alloc_cell {w : World} (ob : Obj) {b o : Nat} {v : Value} (hc : w.cell? ⟨b, o, none⟩ = some v) : (w.alloc ob).cell? ⟨b, o, none⟩ = some v := by
  rw [World.cell?_of_block (w := w) (a := ⟨b, o, none⟩) (Below.heap_alloc w ob b (cell_lt hc))]; exact hc
theorem alloc_thaw {w : World} (ob : Obj) {b o : Nat} {v : Value} (hc : w.cell? ⟨b, o, none⟩ = some v) (hf : w.frozen? ⟨b, o, none⟩ = false) : (w.alloc ob).frozen? ⟨b, o, none⟩ = false := by
  rw [World.frozen?_of_block (w := w) (a := ⟨b, o, none⟩) (Below.heap_alloc w ob b (cell_lt hc))]; exact hf
def flat2 : List (Int × Int) → List Value
  | [] => []
  | x :: xs => .int .i64 x.1 :: .int .i64 x.2 :: flat2 xs
theorem flat2_length : ∀ l : List (Int × Int), (flat2 l).length = l.length * 2
  | [] => rfl
  | x :: xs => by simp only [flat2, List.length_cons, flat2_length xs]; omega
theorem flat2_get : ∀ (l : List (Int × Int)) (i : Nat) (hi : i < l.length), (flat2 l)[i * 2]? = some (.int .i64 l[i].1) ∧ (flat2 l)[i * 2 + 1]? = some (.int .i64 l[i].2)
  | x :: xs, 0, _ => by simp [flat2]
  | x :: xs, i + 1, hi => by
    have := flat2_get xs i (by simpa using hi)
    rw [show (i + 1) * 2 = i * 2 + 1 + 1 by omega]
    simp only [flat2, List.getElem_cons_succ, List.getElem?_cons_succ]
    exact this
  | [], _, hi => by simp at hi
theorem flat2_drop (l : List (Int × Int)) (k : Nat) : (flat2 l).drop (k * 2) = flat2 (l.drop k) := by
  induction l generalizing k with
  | nil => simp [flat2]
  | cons y ys ih =>
    cases k with
    | zero => simp
    | succ k => rw [show (k + 1) * 2 = k * 2 + 1 + 1 by omega]; simp [flat2, ih]
def distL : List (Int × Int) → List (Int × Int)
  | [] => []
  | x :: xs => if (xs.any fun y => x.1 == y.1) = true then distL xs else x :: distL xs
theorem distL_le : ∀ l, (distL l).length ≤ l.length
  | [] => Nat.le_refl _
  | x :: xs => by simp only [distL]; split <;> simp <;> have := distL_le xs <;> omega
def In64 (n : Int) : Prop := -9223372036854775808 ≤ n ∧ n ≤ 9223372036854775807
def lookT (l : List (Int × Int)) (k : Int) : Option Int := ((distL l).find? fun x => x.1 == k).map (·.2)
theorem Try.info2 : (Try.prog.info? 2).map (fun i => (i.zero, i.size, i.bytes)) = some (some (.int .i64 0), 1, 8) := by kernel_rfl
theorem distL_sub : ∀ (l : List (Int × Int)) (x : Int × Int), x ∈ distL l → x ∈ l
  | [], x, h => by simp [distL] at h
  | y :: ys, x, h => by
    simp only [distL] at h
    split at h
    · exact List.mem_cons_of_mem _ (distL_sub ys x h)
    · rcases List.mem_cons.1 h with e | e
      · exact e ▸ List.mem_cons_self
      · exact List.mem_cons_of_mem _ (distL_sub ys x e)
theorem Row.take {S : Nat → Prop} {w : World} {size n cap k : Nat} {a : Option Addr} {xs : List Value} (h : Row S w size n (.slice a n cap) xs) (hk : k ≤ n) : Row S w size k (.slice a k cap) (xs.take (k * size)) := by
  obtain ⟨hl, a', cap', he, hc, hr⟩ := h
  cases he
  refine ⟨by rw [List.length_take, hl]; exact Nat.min_eq_left (Nat.mul_le_mul_right _ hk), _, _, rfl, by omega, fun hn => ?_⟩
  obtain ⟨b, off, rfl, hS, hcell⟩ := hr (by omega)
  refine ⟨b, off, rfl, hS, fun j u hj => ?_⟩
  rw [List.getElem?_take] at hj
  split at hj
  · exact hcell _ _ hj
  · cases hj
end Go.Proofs.Ytekhoanjpnjaeaa

/- Arguments that are slices, opened: what the reading of an argument says of the cells. -/
namespace Go.Proofs.Ytekhoanjpnjaeaa
open Go.RowKit Go.ChangeShapes Go.WideShapes
section
variable {H : Type} {enc : TypeId × Value → H} {P : Program} {w : World} {base : Nat} {spare : Nat → Bool} {held : Bool}

theorem flatMap_get {α : Type} (g : α → List Value) (C : Nat) (hg : ∀ x, (g x).length = C) : ∀ (xs : List α) (j : Nat) (u : Value), (xs.flatMap g)[j]? = some u → ∃ i r, ∃ h : i < xs.length, r < C ∧ j = i * C + r ∧ (g xs[i])[r]? = some u
  | [], j, u, h => by simp at h
  | x :: xs, j, u, h => by
    rw [List.flatMap_cons] at h
    by_cases hj : j < C
    · rw [List.getElem?_append_left (by rw [hg]; exact hj)] at h
      exact ⟨0, j, by simp, hj, by simp, by simpa using h⟩
    · rw [List.getElem?_append_right (by rw [hg]; omega), hg] at h
      obtain ⟨i, r, hi, hr, hjr, hu⟩ := flatMap_get g C hg xs _ u h
      exact ⟨i + 1, r, by simpa using hi, hr, by rw [Nat.add_mul]; omega, by simpa using hu⟩
theorem flatMap_len {α : Type} (g : α → List Value) (C : Nat) (hg : ∀ x, (g x).length = C) (xs : List α) : (xs.flatMap g).length = xs.length * C := by
  induction xs with
  | nil => simp
  | cons x xs ih => rw [List.flatMap_cons, List.length_append, hg, ih, List.length_cons, Nat.add_mul]; omega

theorem cell_spot {w : World} {a : Addr} {v : Value} (h : w.cell? a = some v) : a.spot = none := by
  unfold World.cell? at h
  split at h
  · split at h
    · cases h
    · rename_i hs; simpa using hs
  · cases h

/-- A slice whose elements are each known cell by cell. -/
theorem open_rows {α : Type} [Inhabited α] {t e : TypeId} {v : Value} {d : DataW H} {ps : List MemPlace} (g : α → List Value) (Ok : α → Prop) (C : Nat) (hg : ∀ x, (g x).length = C) (hC0 : 0 < C) (ht : P.underlying t = some (.slice e)) (hC : P.cellsOf e = C)
    (helem : ∀ fuel cs y, DataW.trod enc P w base spare held fuel e cs = some y → ∃ x, Ok x ∧ cs = g x)
    (hv : ∃ a len cap, v = .slice a len cap) (h : DataW.Trod enc P w base spare held t v d ps) : ∃ xs : List α, (∀ x ∈ xs, Ok x) ∧ xs.length ≤ maxLen ∧ Row (fun _ => True) w C xs.length v (xs.flatMap g) := by
  obtain ⟨va, vl, vc, rfl⟩ := hv
  obtain ⟨fuel, hf⟩ := h
  rcases Deep.open_slice ht hf with ⟨h0, _⟩ | ⟨a, len, cap, m, n, D, Pl, hcs, _, hl, hm, hmm, _, hi⟩
  · have h0' : Value.slice va vl vc = .slice none 0 0 := by simpa [Value.cells] using h0
    rw [h0']
    exact ⟨[], fun x hx => by (cases hx), Nat.zero_le _, Row.nil _ _ _ _ _⟩
  · have hc' : Value.slice va vl vc = .slice (some a) len cap := by simpa [Value.cells] using hcs
    rw [hc']
    have hlm : len ≤ m := by rw [hmm]; split <;> omega
    have hex : ∀ i, i < len → ∃ x, Ok x ∧ w.cells? base (a.add (i * C)) C = some (g x) := by
      intro i hil
      obtain ⟨cs', h1, h2⟩ := hi i (by omega)
      rw [hC] at h1
      obtain ⟨x, hx, rfl⟩ := helem _ _ _ h2
      exact ⟨x, hx, h1⟩
    obtain ⟨f, hf'⟩ := Deep.choose_lt hex
    refine ⟨(List.range len).map f, fun x hx => ?_, by simp; omega, ?_⟩
    · obtain ⟨i, hi', rfl⟩ := List.mem_map.1 hx
      exact (hf' i (by simpa using hi')).1
    · refine ⟨flatMap_len g C hg _, some a, cap, by simp, by simpa using hl, fun hn => ?_⟩
      have hlen : 0 < len := by simp at hn; omega
      have hcell : ∀ i, i < len → ∀ r, r < C → w.cell? (a.add (i * C + r)) = (g (f i))[r]? := by
        intro i hil r hr
        obtain ⟨_, _, h3⟩ := World.cells?_some (hf' i hil).2
        rw [← Deep.add_add]; exact h3 r hr
      have hsp : a.spot = none := by
        have h00 := hcell 0 hlen 0 hC0
        rw [List.getElem?_eq_getElem (by rw [hg]; exact hC0)] at h00
        have := cell_spot h00
        simpa [Addr.add] using this
      obtain ⟨b, off, sp⟩ := a
      simp only at hsp
      subst hsp
      refine ⟨b, off, rfl, trivial, fun j u hj => ?_⟩
      obtain ⟨i, r, hi', hr, rfl, hu⟩ := flatMap_get g C hg _ j u hj
      have hil : i < len := by simpa using hi'
      have := hcell i hil r hr
      simp only [List.getElem_map, List.getElem_range] at hu
      rw [hu] at this
      rw [← this]
      unfold Addr.add
      split
      · rename_i h0; rw [h0]; rfl
      · rfl
end
theorem cellsT5 : Try.prog.cellsOf 5 = 1 := by kernel_rfl
theorem wf8 {n : Int} (h : (Lit.int .u8 n).wf = true) : 0 ≤ n ∧ n ≤ 255 := by
  simpa [Lit.wf, IntKind.min, IntKind.max, IntKind.signed, IntKind.bits] using h
theorem wf64 {n : Int} (h : (Lit.int .i64 n).wf = true) : -9223372036854775808 ≤ n ∧ n ≤ 9223372036854775807 := by
  simp [Lit.wf, IntKind.min, IntKind.max, IntKind.signed, IntKind.bits] at h; omega
theorem in64_of {n : Int} (h : (Lit.int .i64 n).wf = true) : In64 n := by
  unfold In64; exact wf64 h
theorem one_of {l : List Value} {j : Nat} {v : Value} (h : (l.drop j).take 1 = [v]) : l[j]? = some v := by
  have := congrArg (·[0]?) h
  simpa using this
end Go.Proofs.Ytekhoanjpnjaeaa

/- trial -/
namespace Go.Proofs.Ytekhoanjpnjaeaa
open Go.RowKit

def tr (b : Bool) : Int := if b then 1 else 0
def unV (op a : Int) : Int × Int := if op = 9 then (wrap64 (-a), 0) else if op = 10 then (tr (a == 0), 0) else (0, 1)
def divV (op a b : Int) : Int :=
  if b = 0 then 0 else if b = -1 then (if op = 12 then wrap64 (-a) else 0) else if op = 12 then wrap64 (a.tdiv b) else a.tmod b
def binV (op a b : Int) : Int × Int :=
  if op = 11 then (wrap64 (a * b), 0) else if op = 12 then (divV 12 a b, 0) else if op = 13 then (divV 13 a b, 0)
  else if op = 14 then (wrap64 (a + b), 0) else if op = 15 then (wrap64 (a - b), 0) else if op = 16 then (tr (a == b), 0)
  else if op = 17 then (tr (a != b), 0) else if op = 18 then (tr (decide (a < b)), 0) else if op = 19 then (tr (decide (a ≤ b)), 0)
  else if op = 20 then (tr (decide (b < a)), 0) else if op = 21 then (tr (decide (b ≤ a)), 0)
  else if op = 22 then (tr (a != 0 && b != 0), 0) else if op = 23 then (tr (a != 0 || b != 0), 0) else (0, 1)

theorem truth_any (b : Bool) (w : World) : Calls Try.prog 63 #[.bool b] w fun e w' => e = .returned (.int .i64 (tr b)) ∧ w = w' := by
  cases b
  all_goals
    go_enter Try.func63, Try.ntmps63
    go_wp2
    go_ret
    exact ⟨rfl, rfl⟩

theorem unary_any (op a : Int) (w : World) : Calls Try.prog 20 #[.int .u8 op, .int .i64 a] w fun e w' => e = .returned (.tuple #[.int .i64 (unV op a).1, .int .i64 (unV op a).2]) ∧ w = w' := by
  generalize hV : unV op a = V
  have HV := Lib.hid hV; clear hV
  go_enter Try.func20, Try.ntmps20
  go_wp2_with (go_at_call 63; refine (truth_any _ _).mono ?_; rintro e w' ⟨rfl, rfl⟩)
  all_goals go_ret2
  all_goals refine ⟨?_, rfl⟩
  all_goals (rw [← HV.out]; simp_all [unV])


theorem divide_any (op a b : Int) (w : World) : Calls Try.prog 65 #[.int .u8 op, .int .i64 a, .int .i64 b] w fun e w' => e = .returned (.int .i64 (divV op a b)) ∧ w = w' := by
  generalize hV : divV op a b = V
  have HV := Lib.hid hV; clear hV
  by_cases hb : b = 0
  · subst hb
    go_enter Try.func65, Try.ntmps65
    go_wp2
    go_ret
    exact ⟨by rw [← HV.out]; rfl, rfl⟩
  · have hb0 : (b == 0) = false := by simpa using hb
    go_enter Try.func65, Try.ntmps65
    go_wp2
    all_goals go_ret
    all_goals refine ⟨?_, rfl⟩
    all_goals (rw [← HV.out]; simp_all [divV])


def binOut (op : Int) : Prop := (op == 11) = false ∧ (op == 12) = false ∧ (op == 13) = false ∧ (op == 14) = false ∧ (op == 15) = false ∧ (op == 16) = false ∧ (op == 17) = false ∧ (op == 18) = false ∧ (op == 19) = false ∧ (op == 20) = false ∧ (op == 21) = false ∧ (op == 22) = false ∧ (op == 23) = false
theorem bin_cases (op : Int) : op = 11 ∨ op = 12 ∨ op = 13 ∨ op = 14 ∨ op = 15 ∨ op = 16 ∨ op = 17 ∨ op = 18 ∨ op = 19 ∨ op = 20 ∨ op = 21 ∨ op = 22 ∨ op = 23 ∨ binOut op := by
  unfold binOut; simp only [beq_eq_false_iff_ne]; omega
theorem binV_out {op : Int} (h : binOut op) (a b : Int) : binV op a b = (0, 1) := by
  obtain ⟨h1, h2, h3, h4, h5, h6, h7, h8, h9, h10, h11, h12, h13⟩ := h
  simp only [beq_eq_false_iff_ne] at *
  simp only [binV, if_neg h1, if_neg h2, if_neg h3, if_neg h4, if_neg h5, if_neg h6, if_neg h7, if_neg h8, if_neg h9, if_neg h10, if_neg h11, if_neg h12, if_neg h13]

set_option maxHeartbeats 400000 in
theorem binary_any (op a b : Int) (w : World) : Calls Try.prog 22 #[.int .u8 op, .int .i64 a, .int .i64 b] w fun e w' => e = .returned (.tuple #[.int .i64 (binV op a b).1, .int .i64 (binV op a b).2]) ∧ w = w' := by
  rcases bin_cases op with rfl | rfl | rfl | rfl | rfl | rfl | rfl | rfl | rfl | rfl | rfl | h | h | h
  · go_enter Try.func22, Try.ntmps22
    go_wp2
    go_ret2
    exact ⟨rfl, rfl⟩
  · go_enter Try.func22, Try.ntmps22
    go_wp2_with ((go_at_call 65; refine (divide_any _ _ _ _).mono ?_; rintro e w' ⟨rfl, rfl⟩))
    go_ret2
    exact ⟨rfl, rfl⟩
  · go_enter Try.func22, Try.ntmps22
    go_wp2_with ((go_at_call 65; refine (divide_any _ _ _ _).mono ?_; rintro e w' ⟨rfl, rfl⟩))
    go_ret2
    exact ⟨rfl, rfl⟩
  iterate 2
    · go_enter Try.func22, Try.ntmps22
      go_wp2
      go_ret2
      exact ⟨rfl, rfl⟩
  iterate 6
    · go_enter Try.func22, Try.ntmps22
      go_wp2_with ((go_at_call 63; refine (truth_any _ _).mono ?_; rintro e w' ⟨rfl, rfl⟩))
      go_ret2
      exact ⟨rfl, rfl⟩
  · by_cases ha : a = 0
    · subst ha h
      go_enter Try.func22, Try.ntmps22
      go_wp2_with ((go_at_call 63; refine (truth_any _ _).mono ?_; rintro e w' ⟨rfl, rfl⟩))
      go_ret2
      exact ⟨rfl, rfl⟩
    · have ha0 : (a == 0) = false := by simpa using ha
      have ha1 : (a != 0) = true := by simpa using ha
      subst h
      have HV := Lib.hid (show binV 22 a b = (tr (b != 0), 0) by simp [binV, ha1])
      rw [HV.out]
      go_enter Try.func22, Try.ntmps22
      go_wp2_with ((go_at_call 63; refine (truth_any _ _).mono ?_; rintro e w' ⟨rfl, rfl⟩))
      go_ret2
      exact ⟨rfl, rfl⟩
  · by_cases ha : a = 0
    · subst ha h
      go_enter Try.func22, Try.ntmps22
      go_wp2_with ((go_at_call 63; refine (truth_any _ _).mono ?_; rintro e w' ⟨rfl, rfl⟩))
      go_ret2
      exact ⟨rfl, rfl⟩
    · have ha0 : (a == 0) = false := by simpa using ha
      have ha1 : (a != 0) = true := by simpa using ha
      subst h
      have HV := Lib.hid (show binV 23 a b = (1, 0) by simp [binV, ha1, tr])
      rw [HV.out]
      go_enter Try.func22, Try.ntmps22
      go_wp2_with ((go_at_call 63; refine (truth_any _ _).mono ?_; rintro e w' ⟨rfl, rfl⟩))
      go_ret2
      exact ⟨rfl, rfl⟩
  · rw [binV_out h]
    obtain ⟨h1, h2, h3, h4, h5, h6, h7, h8, h9, h10, h11, h12, h13⟩ := h
    go_enter Try.func22, Try.ntmps22
    go_wp2
    go_ret2
    exact ⟨rfl, rfl⟩
end Go.Proofs.Ytekhoanjpnjaeaa

/- Trees that the program has made itself: the operands' blocks lie apart, in intervals. No program in sight. -/
namespace Go.Proofs.Ytekhoanjpnjaeaa
open Go.RowKit

/-- A slice value that holds the trees 'ts', whose blocks lie in the interval from lo to hi, apart from one another, none frozen. -/
def OwnS (w : World) : Nat → Nat → Nat → List Ex → Value → Prop
  | 0, _, _, ts, v => ts = [] ∧ ∃ a cap, v = .slice a 0 cap
  | d + 1, lo, hi, ts, v => ∃ a cap, v = .slice a ts.length cap ∧ (ts ≠ [] → ∃ (b off : Nat) (m : Nat → Nat), a = some ⟨b, off, none⟩ ∧ lo ≤ b ∧ b < m 0 ∧ m ts.length ≤ hi ∧ (∀ i, i < ts.length → m i ≤ m (i + 1)) ∧ (∀ o, w.frozen? ⟨b, o, none⟩ = false) ∧
      ∀ i (h : i < ts.length),
      w.cell? ⟨b, off + i * 4, none⟩ = some (.int .u8 ts[i].op) ∧ w.cell? ⟨b, off + i * 4 + 1, none⟩ = some (.string ts[i].name) ∧
      w.cell? ⟨b, off + i * 4 + 2, none⟩ = some (.int .i64 ts[i].n) ∧ Flds .u8 ts[i] ∧
      ∃ c, w.cell? ⟨b, off + i * 4 + 3, none⟩ = some c ∧ OwnS w d (m i) (m (i + 1)) ts[i].args c)

def OwnAt (w : World) (d lo hi : Nat) (t : Ex) (b off : Nat) : Prop :=
  w.cell? ⟨b, off, none⟩ = some (.int .u8 t.op) ∧ w.cell? ⟨b, off + 1, none⟩ = some (.string t.name) ∧
  w.cell? ⟨b, off + 2, none⟩ = some (.int .i64 t.n) ∧ Flds .u8 t ∧ ∃ c, w.cell? ⟨b, off + 3, none⟩ = some c ∧ OwnS w d lo hi t.args c

theorem mono_le {m : Nat → Nat} {n : Nat} (h : ∀ i, i < n → m i ≤ m (i + 1)) : ∀ {i j : Nat}, i ≤ j → j ≤ n → m i ≤ m j := by
  intro i j hij hj
  induction j with
  | zero => have : i = 0 := by omega
            rw [this]; exact Nat.le_refl _
  | succ j ih =>
    by_cases e : i = j + 1
    · rw [e]; exact Nat.le_refl _
    · exact Nat.le_trans (ih (by omega) (by omega)) (h j (by omega))

theorem OwnS.nil {w : World} (d lo hi : Nat) (a : Option Addr) (cap : Nat) : OwnS w d lo hi [] (.slice a 0 cap) := by
  cases d with
  | zero => exact ⟨rfl, a, cap, rfl⟩
  | succ d => exact ⟨a, cap, rfl, fun h => absurd rfl h⟩
theorem OwnS.shape {w : World} {d lo hi : Nat} {ts : List Ex} {v : Value} (h : OwnS w d lo hi ts v) : ∃ a cap, v = .slice a ts.length cap := by
  cases d with
  | zero => obtain ⟨rfl, a, cap, rfl⟩ := h; exact ⟨a, cap, rfl⟩
  | succ d => obtain ⟨a, cap, rfl, _⟩ := h; exact ⟨a, cap, rfl⟩
theorem OwnS.at {w : World} {d lo hi : Nat} {ts : List Ex} {a : Option Addr} {len cap : Nat} (h : OwnS w d lo hi ts (.slice a len cap)) (hne : ts ≠ []) :
    ∃ (d' b off : Nat) (m : Nat → Nat), d = d' + 1 ∧ a = some ⟨b, off, none⟩ ∧ len = ts.length ∧ lo ≤ b ∧ b < m 0 ∧ m ts.length ≤ hi ∧ (∀ i, i < ts.length → m i ≤ m (i + 1)) ∧ (∀ o, w.frozen? ⟨b, o, none⟩ = false) ∧
      ∀ i (_ : i < ts.length), OwnAt w d' (m i) (m (i + 1)) ts[i] b (off + i * 4) := by
  cases d with
  | zero => exact absurd h.1 hne
  | succ d =>
    obtain ⟨a', cap', he, hr⟩ := h
    cases he
    obtain ⟨b, off, m, rfl, h1, h2, h3, h4, h5, h6⟩ := hr hne
    exact ⟨d, b, off, m, rfl, rfl, rfl, h1, h2, h3, h4, h5, h6⟩
theorem OwnS.mk {w : World} {d lo hi : Nat} {ts : List Ex} {b off len cap : Nat} (m : Nat → Nat) (hl : len = ts.length) (h1 : lo ≤ b) (h2 : b < m 0) (h3 : m ts.length ≤ hi) (h4 : ∀ i, i < ts.length → m i ≤ m (i + 1)) (h5 : ∀ o, w.frozen? ⟨b, o, none⟩ = false)
    (h6 : ∀ i (_ : i < ts.length), OwnAt w d (m i) (m (i + 1)) ts[i] b (off + i * 4)) : OwnS w (d + 1) lo hi ts (.slice (some ⟨b, off, none⟩) len cap) := by
  subst hl; exact ⟨_, cap, rfl, fun _ => ⟨b, off, m, rfl, h1, h2, h3, h4, h5, h6⟩⟩

theorem OwnS.mono {w w' : World} : ∀ {d d' lo hi lo' hi' : Nat} {ts : List Ex} {v : Value}, d ≤ d' → lo' ≤ lo → hi ≤ hi' → (∀ b, lo ≤ b → b < hi → w'.heap[b]? = w.heap[b]?) → OwnS w d lo hi ts v → OwnS w' d' lo' hi' ts v := by
  intro d
  induction d with
  | zero => intro d' lo hi lo' hi' ts v _ _ _ _ h; obtain ⟨rfl, a, cap, rfl⟩ := h; exact OwnS.nil _ _ _ _ _
  | succ d ih =>
    intro d' lo hi lo' hi' ts v hd hlo hhi hw h
    obtain ⟨d'', rfl⟩ : ∃ d'', d' = d'' + 1 := ⟨d' - 1, by omega⟩
    obtain ⟨a, cap, rfl, hr⟩ := h
    refine ⟨a, cap, rfl, fun hne => ?_⟩
    obtain ⟨b, off, m, rfl, h1, h2, h3, h4, h5, h6⟩ := hr hne
    have hm0 : m 0 ≤ m ts.length := mono_le h4 (Nat.zero_le _) (Nat.le_refl _)
    have hc : ∀ o, w'.cell? ⟨b, o, none⟩ = w.cell? ⟨b, o, none⟩ := fun o => World.cell?_of_block (w := w) (hw b h1 (by omega))
    have hf : ∀ o, w'.frozen? ⟨b, o, none⟩ = w.frozen? ⟨b, o, none⟩ := fun o => World.frozen?_of_block (w := w) (hw b h1 (by omega))
    refine ⟨b, off, m, rfl, by omega, h2, by omega, h4, fun o => by rw [hf]; exact h5 o, fun i h => ?_⟩
    obtain ⟨g0, g1, g2, gf, c, g3, gc⟩ := h6 i h
    have hi1 : m (i + 1) ≤ m ts.length := mono_le h4 (by omega) (Nat.le_refl _)
    have hi0 : m 0 ≤ m i := mono_le h4 (by omega) (by omega)
    exact ⟨by rw [hc]; exact g0, by rw [hc]; exact g1, by rw [hc]; exact g2, gf, c, by rw [hc]; exact g3, ih (by omega) (Nat.le_refl _) (Nat.le_refl _) (fun x hx hx' => hw x (by omega) (by omega)) gc⟩

theorem OwnAt.mono {w w' : World} {d d' lo hi lo' hi' : Nat} {t : Ex} {b off : Nat} (hd : d ≤ d') (hlo : lo' ≤ lo) (hhi : hi ≤ hi') (hb : ∀ j v, j < 4 → w.cell? ⟨b, off + j, none⟩ = some v → w'.cell? ⟨b, off + j, none⟩ = some v)
    (hw : ∀ b, lo ≤ b → b < hi → w'.heap[b]? = w.heap[b]?) (h : OwnAt w d lo hi t b off) : OwnAt w' d' lo' hi' t b off := by
  obtain ⟨h0, h1, h2, hf, c, h3, hc⟩ := h
  exact ⟨hb 0 _ (by omega) h0, hb 1 _ (by omega) h1, hb 2 _ (by omega) h2, hf, c, hb 3 _ (by omega) h3, hc.mono hd hlo hhi hw⟩

theorem OwnS.rep {w : World} : ∀ {d lo hi : Nat} {ts : List Ex} {v : Value} {S : Nat → Prop}, (∀ b, lo ≤ b → b < hi → S b) → OwnS w d lo hi ts v → RepS .u8 S w d ts v := by
  intro d
  induction d with
  | zero => intro lo hi ts v S _ h; exact h
  | succ d ih =>
    intro lo hi ts v S hS h
    obtain ⟨a, cap, rfl, hr⟩ := h
    refine ⟨a, cap, rfl, fun hne => ?_⟩
    obtain ⟨b, off, m, rfl, h1, h2, h3, h4, h5, h6⟩ := hr hne
    have hm0 : m 0 ≤ m ts.length := mono_le h4 (Nat.zero_le _) (Nat.le_refl _)
    refine ⟨b, off, rfl, hS b h1 (by omega), fun i h => ?_⟩
    obtain ⟨g0, g1, g2, gf, c, g3, gc⟩ := h6 i h
    have hi1 : m (i + 1) ≤ m ts.length := mono_le h4 (by omega) (Nat.le_refl _)
    have hi0 : m 0 ≤ m i := mono_le h4 (by omega) (by omega)
    exact ⟨g0, g1, g2, gf, c, g3, ih (fun x hx hx' => hS x (by omega) (by omega)) gc⟩
theorem OwnAt.rep {w : World} {d lo hi : Nat} {t : Ex} {b off : Nat} {S : Nat → Prop} (hS : ∀ b, lo ≤ b → b < hi → S b) (h : OwnAt w d lo hi t b off) : RepAt .u8 S w d t b off := by
  obtain ⟨h0, h1, h2, hf, c, h3, hc⟩ := h
  exact ⟨h0, h1, h2, hf, c, h3, hc.rep hS⟩
end Go.Proofs.Ytekhoanjpnjaeaa

