/- Expression trees in memory: a tree whose operands lie in slices of four cells each. No program in sight. -/
import Derived.Below
import Derived.Deep.Draws
namespace Go.Proofs.Ytekhoanjpnjaeaa
open Go.RowKit

inductive Ex where
  | node (op : Int) (name : ByteArray) (n : Int) (args : List Ex)
def Ex.op : Ex → Int | .node o _ _ _ => o
def Ex.name : Ex → ByteArray | .node _ s _ _ => s
def Ex.n : Ex → Int | .node _ _ n _ => n
def Ex.args : Ex → List Ex | .node _ _ _ l => l
theorem Ex.eta (t : Ex) : .node t.op t.name t.n t.args = t := by cases t; rfl

/-- the cells of a tree's own fields -/
structure Flds (_k : IntKind) (t : Ex) : Prop where
  op : (Lit.int .u8 t.op).wf = true
  n : (Lit.int .i64 t.n).wf = true
  name : t.name.size ≤ maxLen
  len : t.args.length < 4294967296

/-- A slice value 'v' that holds the trees 'ts', of depth below 'd', all in blocks of S. -/
def RepS (k : IntKind) (S : Nat → Prop) (w : World) : Nat → List Ex → Value → Prop
  | 0, ts, v => ts = [] ∧ ∃ a cap, v = .slice a 0 cap
  | d + 1, ts, v => ∃ a cap, v = .slice a ts.length cap ∧ (ts ≠ [] → ∃ b off, a = some ⟨b, off, none⟩ ∧ S b ∧ ∀ i (h : i < ts.length),
      w.cell? ⟨b, off + i * 4, none⟩ = some (.int k ts[i].op) ∧ w.cell? ⟨b, off + i * 4 + 1, none⟩ = some (.string ts[i].name) ∧
      w.cell? ⟨b, off + i * 4 + 2, none⟩ = some (.int .i64 ts[i].n) ∧ Flds k ts[i] ∧
      ∃ c, w.cell? ⟨b, off + i * 4 + 3, none⟩ = some c ∧ RepS k S w d ts[i].args c)

/-- The tree at an address. -/
def RepAt (k : IntKind) (S : Nat → Prop) (w : World) (d : Nat) (t : Ex) (b off : Nat) : Prop :=
  w.cell? ⟨b, off, none⟩ = some (.int k t.op) ∧ w.cell? ⟨b, off + 1, none⟩ = some (.string t.name) ∧
  w.cell? ⟨b, off + 2, none⟩ = some (.int .i64 t.n) ∧ Flds k t ∧ ∃ c, w.cell? ⟨b, off + 3, none⟩ = some c ∧ RepS k S w d t.args c

theorem RepS.zero {k : IntKind} {S : Nat → Prop} {w : World} {ts : List Ex} {v : Value} (h : RepS k S w 0 ts v) : ts = [] ∧ ∃ a cap, v = .slice a 0 cap := h
theorem RepS.shape {k : IntKind} {S : Nat → Prop} {w : World} {d : Nat} {ts : List Ex} {v : Value} (h : RepS k S w d ts v) : ∃ a cap, v = .slice a ts.length cap := by
  cases d with
  | zero => obtain ⟨rfl, a, cap, rfl⟩ := h; exact ⟨a, cap, rfl⟩
  | succ d => obtain ⟨a, cap, rfl, _⟩ := h; exact ⟨a, cap, rfl⟩
/-- One element of a slice. -/
theorem RepS.at {k : IntKind} {S : Nat → Prop} {w : World} {d : Nat} {ts : List Ex} {a : Option Addr} {len cap : Nat} (h : RepS k S w d ts (.slice a len cap)) (hne : ts ≠ []) :
    ∃ d' b off, d = d' + 1 ∧ a = some ⟨b, off, none⟩ ∧ len = ts.length ∧ S b ∧ ∀ i (hi : i < ts.length), RepAt k S w d' ts[i] b (off + i * 4) := by
  cases d with
  | zero => exact absurd h.1 hne
  | succ d =>
    obtain ⟨a', cap', he, hr⟩ := h
    cases he
    obtain ⟨b, off, rfl, hS, hi⟩ := hr hne
    exact ⟨d, b, off, rfl, rfl, rfl, hS, hi⟩
theorem RepS.nil {k : IntKind} {S : Nat → Prop} {w : World} (d : Nat) (a : Option Addr) (cap : Nat) : RepS k S w d [] (.slice a 0 cap) := by
  cases d with
  | zero => exact ⟨rfl, a, cap, rfl⟩
  | succ d => exact ⟨a, cap, rfl, fun h => absurd rfl h⟩
theorem RepS.mk {k : IntKind} {S : Nat → Prop} {w : World} {d : Nat} {ts : List Ex} {b off len cap : Nat} (hl : len = ts.length) (hS : S b) (h : ∀ i (hi : i < ts.length), RepAt k S w d ts[i] b (off + i * 4)) :
    RepS k S w (d + 1) ts (.slice (some ⟨b, off, none⟩) len cap) := by
  subst hl; exact ⟨_, cap, rfl, fun _ => ⟨b, off, rfl, hS, h⟩⟩

/-- What a reading needs of the worlds: the cells of the blocks of S. -/
theorem RepS.mono {k : IntKind} {S S' : Nat → Prop} {w w' : World} (hS : ∀ b, S b → S' b) (hw : ∀ b off v, S b → w.cell? ⟨b, off, none⟩ = some v → w'.cell? ⟨b, off, none⟩ = some v) :
    ∀ {d : Nat} {d' : Nat} {ts : List Ex} {v : Value}, d ≤ d' → RepS k S w d ts v → RepS k S' w' d' ts v := by
  intro d
  induction d with
  | zero => intro d' ts v _ h; obtain ⟨rfl, a, cap, rfl⟩ := h; exact RepS.nil _ _ _
  | succ d ih =>
    intro d' ts v hd h
    obtain ⟨d'', rfl⟩ : ∃ d'', d' = d'' + 1 := ⟨d' - 1, by omega⟩
    obtain ⟨a, cap, rfl, hr⟩ := h
    refine ⟨a, cap, rfl, fun hne => ?_⟩
    obtain ⟨b, off, rfl, hb, hi⟩ := hr hne
    refine ⟨b, off, rfl, hS b hb, fun i h => ?_⟩
    obtain ⟨h0, h1, h2, hf, c, h3, hc⟩ := hi i h
    exact ⟨hw _ _ _ hb h0, hw _ _ _ hb h1, hw _ _ _ hb h2, hf, c, hw _ _ _ hb h3, ih (by omega) hc⟩
theorem RepAt.mono {k : IntKind} {S S' : Nat → Prop} {w w' : World} {d d' : Nat} {t : Ex} {b off : Nat} (hS : ∀ b, S b → S' b) (hw : ∀ b off v, S b → w.cell? ⟨b, off, none⟩ = some v → w'.cell? ⟨b, off, none⟩ = some v)
    (hb : ∀ j v, j < 4 → w.cell? ⟨b, off + j, none⟩ = some v → w'.cell? ⟨b, off + j, none⟩ = some v) (hd : d ≤ d') (h : RepAt k S w d t b off) : RepAt k S' w' d' t b off := by
  obtain ⟨h0, h1, h2, hf, c, h3, hc⟩ := h
  exact ⟨hb 0 _ (by omega) h0, hb 1 _ (by omega) h1, hb 2 _ (by omega) h2, hf, c, hb 3 _ (by omega) h3, hc.mono hS hw hd⟩

/-- .. where the new set of blocks is known of those blocks alone in which something is read. -/
theorem RepS.mono2 {k : IntKind} {S S' : Nat → Prop} {w w' : World} (hw : ∀ b off v, S b → w.cell? ⟨b, off, none⟩ = some v → S' b ∧ w'.cell? ⟨b, off, none⟩ = some v) :
    ∀ {d : Nat} {d' : Nat} {ts : List Ex} {v : Value}, d ≤ d' → RepS k S w d ts v → RepS k S' w' d' ts v := by
  intro d
  induction d with
  | zero => intro d' ts v _ h; obtain ⟨rfl, a, cap, rfl⟩ := h; exact RepS.nil _ _ _
  | succ d ih =>
    intro d' ts v hd h
    obtain ⟨d'', rfl⟩ : ∃ d'', d' = d'' + 1 := ⟨d' - 1, by omega⟩
    obtain ⟨a, cap, rfl, hr⟩ := h
    refine ⟨a, cap, rfl, fun hne => ?_⟩
    obtain ⟨b, off, rfl, hb, hi⟩ := hr hne
    have h0 : 0 < ts.length := by cases ts with | nil => exact absurd rfl hne | cons _ _ => simp
    refine ⟨b, off, rfl, (hw _ _ _ hb (hi 0 h0).1).1, fun i h => ?_⟩
    obtain ⟨h0, h1, h2, hf, c, h3, hc⟩ := hi i h
    exact ⟨(hw _ _ _ hb h0).2, (hw _ _ _ hb h1).2, (hw _ _ _ hb h2).2, hf, c, (hw _ _ _ hb h3).2, ih (by omega) hc⟩

theorem cell_lt {w : World} {b off : Nat} {v : Value} (h : w.cell? ⟨b, off, none⟩ = some v) : b < w.heap.size := by
  unfold World.cell? at h
  by_cases hb : b < w.heap.size
  · exact hb
  · simp [Array.getElem?_eq_none (Nat.le_of_not_lt hb)] at h
theorem below_cell {w w' : World} (hB : Below w.heap.size w w') {b off : Nat} {v : Value} (h : w.cell? ⟨b, off, none⟩ = some v) : w'.cell? ⟨b, off, none⟩ = some v := by
  rw [hB.cell (p := ⟨b, off, none⟩) (cell_lt h)]; exact h
theorem RepS.below {k : IntKind} {S : Nat → Prop} {w w' : World} {d : Nat} {ts : List Ex} {v : Value} (hB : Below w.heap.size w w') (h : RepS k S w d ts v) : RepS k S w' d ts v :=
  h.mono (fun _ h => h) (fun _ _ _ _ h => below_cell hB h) (Nat.le_refl _)
theorem RepAt.below {k : IntKind} {S : Nat → Prop} {w w' : World} {d : Nat} {t : Ex} {b off : Nat} (hB : Below w.heap.size w w') (h : RepAt k S w d t b off) : RepAt k S w' d t b off :=
  h.mono (fun _ h => h) (fun _ _ _ _ h => below_cell hB h) (fun _ _ _ h => below_cell hB h) (Nat.le_refl _)
theorem below_drewN (w : World) (n : Nat) (B : Nat) : Below B w (w.drewN n) := ⟨rfl, rfl, rfl, Nat.le_refl _, fun _ _ => rfl⟩
theorem RepAt.drewN {k : IntKind} {S : Nat → Prop} {w : World} {d : Nat} {t : Ex} {b off : Nat} (h : RepAt k S w d t b off) (n : Nat) : RepAt k S (w.drewN n) d t b off := h.below (below_drewN w n _)
theorem RepS.drewN {k : IntKind} {S : Nat → Prop} {w : World} {d : Nat} {ts : List Ex} {v : Value} (h : RepS k S w d ts v) (n : Nat) : RepS k S (w.drewN n) d ts v := h.below (below_drewN w n _)
end Go.Proofs.Ytekhoanjpnjaeaa
