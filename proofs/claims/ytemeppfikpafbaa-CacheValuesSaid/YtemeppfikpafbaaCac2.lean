/- The cache in memory: its block, the own row of its entries, the rows of each entry. -/
import Derived.Test.YtemeppfikpafbaaCac1
import Derived.Test.YtemeppfikpafbaaNilB
namespace Go.Proofs.Ytemeppfikpafbaa
open Go.RowKit
abbrev RawE := (Value × Value × Value) × Bool
def rC (p : RawE) : List Value := [p.1.1, p.1.2.1, p.1.2.2, .bool p.2]
theorem rC_len (p : RawE) : (rC p).length = 4 := rfl
structure ERow (S : Nat → Prop) (w : World) (p : RawE) (e : Ent) : Prop where
  ch : Row S w 7 e.ch.length p.1.1 (flatC chC e.ch)
  ho : Row S w 3 e.ho.length p.1.2.1 (flatC mC e.ho)
  us : Row S w 7 e.us.length p.1.2.2 (flatC chC e.us)
  vd : p.2 = e.vd
theorem ERow.mono {S S' : Nat → Prop} {w w' : World} {p : RawE} {e : Ent} (hS : ∀ b, S b → S' b) (hw : ∀ b off u, S b → w.cell? ⟨b, off, none⟩ = some u → w'.cell? ⟨b, off, none⟩ = some u) (h : ERow S w p e) : ERow S' w' p e :=
  ⟨h.ch.mono hS hw, h.ho.mono hS hw, h.us.mono hS hw, h.vd⟩
theorem ERow.lt {S : Nat → Prop} {w : World} {p : RawE} {e : Ent} (h : ERow S w p e) : ERow (fun b => S b ∧ b < w.heap.size) w p e := ⟨h.ch.lt (by omega), h.ho.lt (by omega), h.us.lt (by omega), h.vd⟩
theorem ERow.one {S : Nat → Prop} {w : World} {p : RawE} {e : Ent} (h : ERow S w p e) : ∀ u ∈ rC p, u.oneCell' = true := by
  obtain ⟨_, _, e1, _⟩ := h.ch.shape
  obtain ⟨_, _, e2, _⟩ := h.ho.shape
  obtain ⟨_, _, e3, _⟩ := h.us.shape
  intro u hu
  simp only [rC, List.mem_cons, List.not_mem_nil, or_false] at hu
  rcases hu with rfl | rfl | rfl | rfl
  · rw [e1]; rfl
  · rw [e2]; rfl
  · rw [e3]; rfl
  · rfl
/-- An entry as the program makes it. -/
structure EOk (e : Ent) : Prop where
  asc : AscC e.ch
  lc : e.ch.length ≤ 1000
  lh : e.ho.length ≤ 1000
  lu : e.us.length ≤ 1000
/-- Block CB is a cache; what it writes lies below M; its entries' rows lie in S0. -/
structure CState (S0 : Nat → Prop) (w : World) (CB : Nat) (lim hits : Int) (E : List Ent) (M : Nat) (v : Value) (raw : List RawE) : Prop where
  blk : w.heap[CB]? = some (.cells #[.int .i64 lim, v, .int .i64 hits] 146)
  len : raw.length = E.length
  own : w.ownsRow (CB + 1) 148 4 v E.length (flatC rC raw)
  lt : ∀ z, v.ownBlock = some z → z < M
  cb : CB < M
  ent : ∀ (i : Nat) (a : i < E.length) (b : i < raw.length), ERow (fun b => b ≠ CB ∧ v.ownBlock ≠ some b ∧ S0 b) w raw[i] E[i]
  ok : ∀ e ∈ E, EOk e
theorem CState.start (S0 : Nat → Prop) (w : World) (lim : Int) : CState S0 (w.alloc (.cells #[.int .i64 lim, .slice none 0 0, .int .i64 0] 146)) w.heap.size lim 0 [] (w.heap.size + 1) (.slice none 0 0) [] :=
  ⟨alloc_last _ _, rfl, World.ownsRow_nil _ _ _ _, fun z h => by simp [Value.ownBlock] at h, Nat.lt_succ_self _, fun i a => by simp at a, fun e h => by simp at h⟩
theorem CState.below {S0 : Nat → Prop} {w w' : World} {CB : Nat} {lim hits : Int} {E : List Ent} {M : Nat} {v : Value} {raw : List RawE} (h : CState S0 w CB lim hits E M v raw) (hb : Below w.heap.size w w') : CState S0 w' CB lim hits E M v raw :=
  ⟨(hb.block CB (blk_lt h.blk)).trans h.blk, h.len, owns_keep h.own (fun z hz => hb.block z ((owns_shape h.own).choose_spec.choose_spec.2 z hz).2), h.lt, h.cb, fun i a b => (h.ent i a b).mono (fun _ h => h) (fun _b _off _u _ hc => below_cell hb hc), h.ok⟩
theorem CState.shape {S0 : Nat → Prop} {w : World} {CB : Nat} {lim hits : Int} {E : List Ent} {M : Nat} {v : Value} {raw : List RawE} (h : CState S0 w CB lim hits E M v raw) : ∃ a cap, v = .slice a E.length cap := by
  obtain ⟨a, cap, e, _⟩ := owns_shape h.own
  exact ⟨a, cap, e⟩
/-- Another entry: behind an append and the store of the slice. -/
theorem CState.push {S0 : Nat → Prop} {w w' : World} {CB : Nat} {lim hits : Int} {E : List Ent} {M : Nat} {v : Value} {raw : List RawE} (h : CState S0 w CB lim hits E M v raw) {p : RawE} {e : Ent}
    (hp : ERow (fun b => b ≠ CB ∧ v.ownBlock ≠ some b ∧ S0 b) w p e) (he : EOk e) {g cap n : Nat} (hn : n = E.length + 1)
    (hown : w'.ownsRow (CB + 1) 148 4 (.slice (some ⟨g, 0, none⟩) n cap) n (flatC rC raw ++ rC p)) (hgrow : w.grownBy w' v.ownBlock) (hg : v.ownBlock = some g ∨ g = w.heap.size) :
    CState S0 (w'.setCell ⟨CB, 1, none⟩ (.slice (some ⟨g, 0, none⟩) n cap)) CB lim hits (E ++ [e]) w'.heap.size (.slice (some ⟨g, 0, none⟩) n cap) (raw ++ [p]) := by
  have hgCB : g ≠ CB := by
    have := ((owns_shape hown).choose_spec.choose_spec.2 g rfl).1; omega
  have hvCB : v.ownBlock ≠ some CB := fun e => by have := ((owns_shape h.own).choose_spec.choose_spec.2 CB e).1; omega
  have hblk : w'.heap[CB]? = some (.cells #[.int .i64 lim, v, .int .i64 hits] 146) := (hgrow.block CB (blk_lt h.blk) (fun e => hvCB e.symm)).trans h.blk
  have key : ∀ {q : RawE} {d : Ent}, ERow (fun b => b ≠ CB ∧ v.ownBlock ≠ some b ∧ S0 b) w q d → ERow (fun b => b ≠ CB ∧ (Value.slice (some ⟨g, 0, none⟩) n cap).ownBlock ≠ some b ∧ S0 b) (w'.setCell ⟨CB, 1, none⟩ (.slice (some ⟨g, 0, none⟩) n cap)) q d := by
    intro q d hq
    refine hq.lt.mono (fun b hb => ⟨hb.1.1, fun e => ?_, hb.1.2.2⟩) (fun b off u hb hc => ?_)
    · have : g = b := by simpa [Value.ownBlock] using e
      subst this
      rcases hg with h1 | h1
      · exact hb.1.2.1 h1
      · have := hb.2; omega
    · have h1 := World.grownBy.cell hgrow hc (fun e => hb.1.2.1 e.symm)
      rw [← h1]
      exact World.cell?_of_block (w := w') (a := ⟨b, off, none⟩) (Below.heap_setCell _ _ _ _ hb.1.1)
  refine ⟨setCell_heap hblk, by simp [h.len], ?_, fun z hz => ?_, Nat.lt_of_lt_of_le (blk_lt h.blk) hgrow.size, fun i a b => ?_, fun d hd => ?_⟩
  · rw [flatC_push, List.length_append, List.length_singleton, ← hn]
    exact owns_keep hown (fun y hy => Below.heap_setCell _ _ _ _ (by have h1 : g = y := by simpa [Value.ownBlock] using hy
                                                                     rw [← h1]; exact hgCB))
  · exact ((owns_shape hown).choose_spec.choose_spec.2 z hz).2
  · have hlen := h.len
    rcases Nat.lt_or_ge i raw.length with hi | hi
    · have e1 : (E ++ [e])[i] = E[i]'(by omega) := List.getElem_append_left (by omega)
      have e2 : (raw ++ [p])[i] = raw[i] := List.getElem_append_left hi
      rw [e1, e2]
      exact key (h.ent i (by omega) hi)
    · have hi' : i = raw.length := by simp at b; omega
      subst hi'
      have e1 : (E ++ [e])[raw.length] = e := by simp [h.len]
      have e2 : (raw ++ [p])[raw.length] = p := by simp
      rw [e1, e2]
      exact key hp
  · rcases List.mem_append.1 hd with h1 | h1
    · exact h.ok d h1
    · rw [List.mem_singleton] at h1; subst h1; exact he
end Go.Proofs.Ytemeppfikpafbaa
