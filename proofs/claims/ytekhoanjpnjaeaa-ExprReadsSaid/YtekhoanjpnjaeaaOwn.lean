/- Trees that the program has made itself: the operands' blocks lie apart, in intervals. No program in sight. -/
import Derived.Test.YtekhoanjpnjaeaaTree
namespace Go.Proofs.Ytekhoanjpnjaeaa
open Go.RowKit

/-- A slice value that holds the trees 'ts', whose blocks lie in the interval from lo to hi, apart from one another, none frozen. -/
def OwnS (w : World) : Nat → Nat → Nat → List Ex → Value → Prop
  | 0, _, _, ts, v => ts = [] ∧ ∃ a cap, v = .slice a 0 cap
  | d + 1, lo, hi, ts, v => ∃ a cap, v = .slice a ts.length cap ∧ (ts ≠ [] → ∃ (b off : Nat) (m : Nat → Nat), a = some ⟨b, off, none⟩ ∧ lo ≤ b ∧ b < m 0 ∧ m ts.length ≤ hi ∧ (∀ i, i < ts.length → m i ≤ m (i + 1)) ∧ (∀ o, w.frozen? ⟨b, o, none⟩ = false) ∧
      ∀ i (h : i < ts.length),
      w.cell? ⟨b, off + i * 4, none⟩ = some (.int .u8 ts[i].op) ∧ w.cell? ⟨b, off + i * 4 + 1, none⟩ = some (.string ts[i].name) ∧
      w.cell? ⟨b, off + i * 4 + 2, none⟩ = some (.int .i64 ts[i].n) ∧ Flds .u8 ts[i] ∧
      ∃ c, w.cell? ⟨b, off + i * 4 + 3, none⟩ = some c ∧ OwnS w d (m i) (m (i + 1)) ts[i].args c)

def OwnAt (w : World) (d lo hi : Nat) (t : Ex) (b off : Nat) : Prop :=
  w.cell? ⟨b, off, none⟩ = some (.int .u8 t.op) ∧ w.cell? ⟨b, off + 1, none⟩ = some (.string t.name) ∧
  w.cell? ⟨b, off + 2, none⟩ = some (.int .i64 t.n) ∧ Flds .u8 t ∧ ∃ c, w.cell? ⟨b, off + 3, none⟩ = some c ∧ OwnS w d lo hi t.args c

theorem mono_le {m : Nat → Nat} {n : Nat} (h : ∀ i, i < n → m i ≤ m (i + 1)) : ∀ {i j : Nat}, i ≤ j → j ≤ n → m i ≤ m j := by
  intro i j hij hj
  induction j with
  | zero => have : i = 0 := by omega
            rw [this]; exact Nat.le_refl _
  | succ j ih =>
    by_cases e : i = j + 1
    · rw [e]; exact Nat.le_refl _
    · exact Nat.le_trans (ih (by omega) (by omega)) (h j (by omega))

theorem OwnS.nil {w : World} (d lo hi : Nat) (a : Option Addr) (cap : Nat) : OwnS w d lo hi [] (.slice a 0 cap) := by
  cases d with
  | zero => exact ⟨rfl, a, cap, rfl⟩
  | succ d => exact ⟨a, cap, rfl, fun h => absurd rfl h⟩
theorem OwnS.shape {w : World} {d lo hi : Nat} {ts : List Ex} {v : Value} (h : OwnS w d lo hi ts v) : ∃ a cap, v = .slice a ts.length cap := by
  cases d with
  | zero => obtain ⟨rfl, a, cap, rfl⟩ := h; exact ⟨a, cap, rfl⟩
  | succ d => obtain ⟨a, cap, rfl, _⟩ := h; exact ⟨a, cap, rfl⟩
theorem OwnS.at {w : World} {d lo hi : Nat} {ts : List Ex} {a : Option Addr} {len cap : Nat} (h : OwnS w d lo hi ts (.slice a len cap)) (hne : ts ≠ []) :
    ∃ (d' b off : Nat) (m : Nat → Nat), d = d' + 1 ∧ a = some ⟨b, off, none⟩ ∧ len = ts.length ∧ lo ≤ b ∧ b < m 0 ∧ m ts.length ≤ hi ∧ (∀ i, i < ts.length → m i ≤ m (i + 1)) ∧ (∀ o, w.frozen? ⟨b, o, none⟩ = false) ∧
      ∀ i (_ : i < ts.length), OwnAt w d' (m i) (m (i + 1)) ts[i] b (off + i * 4) := by
  cases d with
  | zero => exact absurd h.1 hne
  | succ d =>
    obtain ⟨a', cap', he, hr⟩ := h
    cases he
    obtain ⟨b, off, m, rfl, h1, h2, h3, h4, h5, h6⟩ := hr hne
    exact ⟨d, b, off, m, rfl, rfl, rfl, h1, h2, h3, h4, h5, h6⟩
theorem OwnS.mk {w : World} {d lo hi : Nat} {ts : List Ex} {b off len cap : Nat} (m : Nat → Nat) (hl : len = ts.length) (h1 : lo ≤ b) (h2 : b < m 0) (h3 : m ts.length ≤ hi) (h4 : ∀ i, i < ts.length → m i ≤ m (i + 1)) (h5 : ∀ o, w.frozen? ⟨b, o, none⟩ = false)
    (h6 : ∀ i (_ : i < ts.length), OwnAt w d (m i) (m (i + 1)) ts[i] b (off + i * 4)) : OwnS w (d + 1) lo hi ts (.slice (some ⟨b, off, none⟩) len cap) := by
  subst hl; exact ⟨_, cap, rfl, fun _ => ⟨b, off, m, rfl, h1, h2, h3, h4, h5, h6⟩⟩

theorem OwnS.mono {w w' : World} : ∀ {d d' lo hi lo' hi' : Nat} {ts : List Ex} {v : Value}, d ≤ d' → lo' ≤ lo → hi ≤ hi' → (∀ b, lo ≤ b → b < hi → w'.heap[b]? = w.heap[b]?) → OwnS w d lo hi ts v → OwnS w' d' lo' hi' ts v := by
  intro d
  induction d with
  | zero => intro d' lo hi lo' hi' ts v _ _ _ _ h; obtain ⟨rfl, a, cap, rfl⟩ := h; exact OwnS.nil _ _ _ _ _
  | succ d ih =>
    intro d' lo hi lo' hi' ts v hd hlo hhi hw h
    obtain ⟨d'', rfl⟩ : ∃ d'', d' = d'' + 1 := ⟨d' - 1, by omega⟩
    obtain ⟨a, cap, rfl, hr⟩ := h
    refine ⟨a, cap, rfl, fun hne => ?_⟩
    obtain ⟨b, off, m, rfl, h1, h2, h3, h4, h5, h6⟩ := hr hne
    have hm0 : m 0 ≤ m ts.length := mono_le h4 (Nat.zero_le _) (Nat.le_refl _)
    have hc : ∀ o, w'.cell? ⟨b, o, none⟩ = w.cell? ⟨b, o, none⟩ := fun o => World.cell?_of_block (w := w) (hw b h1 (by omega))
    have hf : ∀ o, w'.frozen? ⟨b, o, none⟩ = w.frozen? ⟨b, o, none⟩ := fun o => World.frozen?_of_block (w := w) (hw b h1 (by omega))
    refine ⟨b, off, m, rfl, by omega, h2, by omega, h4, fun o => by rw [hf]; exact h5 o, fun i h => ?_⟩
    obtain ⟨g0, g1, g2, gf, c, g3, gc⟩ := h6 i h
    have hi1 : m (i + 1) ≤ m ts.length := mono_le h4 (by omega) (Nat.le_refl _)
    have hi0 : m 0 ≤ m i := mono_le h4 (by omega) (by omega)
    exact ⟨by rw [hc]; exact g0, by rw [hc]; exact g1, by rw [hc]; exact g2, gf, c, by rw [hc]; exact g3, ih (by omega) (Nat.le_refl _) (Nat.le_refl _) (fun x hx hx' => hw x (by omega) (by omega)) gc⟩

theorem OwnAt.mono {w w' : World} {d d' lo hi lo' hi' : Nat} {t : Ex} {b off : Nat} (hd : d ≤ d') (hlo : lo' ≤ lo) (hhi : hi ≤ hi') (hb : ∀ j v, j < 4 → w.cell? ⟨b, off + j, none⟩ = some v → w'.cell? ⟨b, off + j, none⟩ = some v)
    (hw : ∀ b, lo ≤ b → b < hi → w'.heap[b]? = w.heap[b]?) (h : OwnAt w d lo hi t b off) : OwnAt w' d' lo' hi' t b off := by
  obtain ⟨h0, h1, h2, hf, c, h3, hc⟩ := h
  exact ⟨hb 0 _ (by omega) h0, hb 1 _ (by omega) h1, hb 2 _ (by omega) h2, hf, c, hb 3 _ (by omega) h3, hc.mono hd hlo hhi hw⟩

theorem OwnS.rep {w : World} : ∀ {d lo hi : Nat} {ts : List Ex} {v : Value} {S : Nat → Prop}, (∀ b, lo ≤ b → b < hi → S b) → OwnS w d lo hi ts v → RepS .u8 S w d ts v := by
  intro d
  induction d with
  | zero => intro lo hi ts v S _ h; exact h
  | succ d ih =>
    intro lo hi ts v S hS h
    obtain ⟨a, cap, rfl, hr⟩ := h
    refine ⟨a, cap, rfl, fun hne => ?_⟩
    obtain ⟨b, off, m, rfl, h1, h2, h3, h4, h5, h6⟩ := hr hne
    have hm0 : m 0 ≤ m ts.length := mono_le h4 (Nat.zero_le _) (Nat.le_refl _)
    refine ⟨b, off, rfl, hS b h1 (by omega), fun i h => ?_⟩
    obtain ⟨g0, g1, g2, gf, c, g3, gc⟩ := h6 i h
    have hi1 : m (i + 1) ≤ m ts.length := mono_le h4 (by omega) (Nat.le_refl _)
    have hi0 : m 0 ≤ m i := mono_le h4 (by omega) (by omega)
    exact ⟨g0, g1, g2, gf, c, g3, ih (fun x hx hx' => hS x (by omega) (by omega)) gc⟩
theorem OwnAt.rep {w : World} {d lo hi : Nat} {t : Ex} {b off : Nat} {S : Nat → Prop} (hS : ∀ b, lo ≤ b → b < hi → S b) (h : OwnAt w d lo hi t b off) : RepAt .u8 S w d t b off := by
  obtain ⟨h0, h1, h2, hf, c, h3, hc⟩ := h
  exact ⟨h0, h1, h2, hf, c, h3, hc.rep hS⟩
end Go.Proofs.Ytekhoanjpnjaeaa
