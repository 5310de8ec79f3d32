/- A list of causes whose rows lie outside the block of the list itself; it grows by append. Causes turned round have the same degrees. -/
import Derived.Test.YtemeppfikpafbaaAppR
namespace Go.Proofs.Ytemeppfikpafbaa
open Go.RowKit
structure NCell (S : Nat → Prop) (w : World) (p : Value × Value) (c : Cau) : Prop where
  u : Row S w 4 c.undo.length p.1 (flatC kC c.undo)
  h : Row S w 3 c.hold.length p.2 (flatC mC c.hold)
  nu : NilA p.1
  nh : NilA p.2
theorem Row.lt {S : Nat → Prop} {w : World} {size n : Nat} {v : Value} {xs : List Value} (hs : 0 < size) (h : Row S w size n v xs) : Row (fun b => S b ∧ b < w.heap.size) w size n v xs :=
  h.mono2 hs fun _ _ _ hb hc => ⟨⟨hb, cell_lt hc⟩, hc⟩
theorem NCell.lt {S : Nat → Prop} {w : World} {p : Value × Value} {c : Cau} (h : NCell S w p c) : NCell (fun b => S b ∧ b < w.heap.size) w p c := ⟨h.u.lt (by omega), h.h.lt (by omega), h.nu, h.nh⟩
theorem NCell.mono {S S' : Nat → Prop} {w w' : World} {p : Value × Value} {c : Cau} (hS : ∀ b, S b → S' b) (hw : ∀ b off u, S b → w.cell? ⟨b, off, none⟩ = some u → w'.cell? ⟨b, off, none⟩ = some u) (h : NCell S w p c) : NCell S' w' p c :=
  ⟨h.u.mono hS hw, h.h.mono hS hw, h.nu, h.nh⟩
/-- The list v holds the causes T. -/
def Nest (N : Nat) (w : World) (v : Value) (T : List Cau) : Prop :=
  ∃ us : List (Value × Value), us.length = T.length ∧ w.ownsRow N 36 2 v us.length (flatC pC us) ∧ ∀ (i : Nat) (a : i < T.length) (b : i < us.length), NCell (fun b => v.ownBlock ≠ some b) w us[i] T[i]
theorem Nest.nil (N : Nat) (w : World) : Nest N w (.slice none 0 0) [] := ⟨[], rfl, World.ownsRow_nil _ _ _ _, fun i h => by simp at h⟩
theorem Nest.shape {N : Nat} {w : World} {v : Value} {T : List Cau} (h : Nest N w v T) : ∃ a cap, v = .slice a T.length cap ∧ ∀ x, v.ownBlock = some x → N ≤ x ∧ x < w.heap.size := by
  obtain ⟨us, h1, h2, h3⟩ := h
  obtain ⟨a, cap, e, hx⟩ := owns_shape h2
  exact ⟨a, cap, by rw [e, h1], hx⟩
theorem Nest.below {N : Nat} {w w' : World} {v : Value} {T : List Cau} (h : Nest N w v T) (hb : Below w.heap.size w w') : Nest N w' v T := by
  obtain ⟨us, h1, h2, h3⟩ := h
  refine ⟨us, h1, owns_keep h2 (fun x hx => hb.block x ((owns_shape h2).choose_spec.choose_spec.2 x hx).2), fun i a b => (h3 i a b).mono (fun _ h => h) (fun b off u _ hc => below_cell hb hc)⟩
theorem Nest.crow {N : Nat} {w : World} {v : Value} {T : List Cau} (h : Nest N w v T) : CRow w T v := by
  obtain ⟨us, h1, h2, h3⟩ := h
  refine ⟨us, h1, ?_, fun i a b => ?_⟩
  · rw [← h1]
    exact (Row.of_owns h2).mono (fun _ _ => trivial) (fun _ _ _ _ h => h)
  · have := h3 i a b
    exact ⟨⟨this.u.mono (fun _ _ => trivial) (fun _ _ _ _ h => h), this.h.mono (fun _ _ => trivial) (fun _ _ _ _ h => h)⟩, fun n c => ⟨fun e => this.nu n c e, fun e => this.nh n c e⟩⟩
theorem Nest.push {N : Nat} {w w' : World} {v : Value} {T : List Cau} {us : List (Value × Value)} (h1 : us.length = T.length) (h2 : w.ownsRow N 36 2 v us.length (flatC pC us)) (h3 : ∀ (i : Nat) (a : i < T.length) (b : i < us.length), NCell (fun b => v.ownBlock ≠ some b) w us[i] T[i])
    {p : Value × Value} {c : Cau} (hp : NCell (fun b => v.ownBlock ≠ some b) w p c) {g cap n : Nat} (hn : n = T.length + 1)
    (hown : w'.ownsRow N 36 2 (.slice (some ⟨g, 0, none⟩) n cap) n (flatC pC us ++ [p.1, p.2])) (hgrow : w.grownBy w' v.ownBlock) (hg : v.ownBlock = some g ∨ g = w.heap.size) : Nest N w' (.slice (some ⟨g, 0, none⟩) n cap) (T ++ [c]) := by
  have key : ∀ {q : Value × Value} {d : Cau}, NCell (fun b => v.ownBlock ≠ some b) w q d → NCell (fun b => (Value.slice (some ⟨g, 0, none⟩) n cap).ownBlock ≠ some b) w' q d := by
    intro q d hq
    refine hq.lt.mono (fun b hb e => ?_) (fun b off u hb hc => World.grownBy.cell hgrow hc (fun e => hb.1 e.symm))
    have : g = b := by simpa [Value.ownBlock] using e
    subst this
    rcases hg with h | h
    · exact hb.1 h
    · have := hb.2; omega
  refine ⟨us ++ [p], by simp [h1], ?_, fun i a b => ?_⟩
  · rw [flatC_push, List.length_append, h1]
    rw [hn] at hown ⊢
    exact hown
  · rcases Nat.lt_or_ge i us.length with hi | hi
    · have e1 : (T ++ [c])[i] = T[i]'(by omega) := List.getElem_append_left (by omega)
      have e2 : (us ++ [p])[i] = us[i] := List.getElem_append_left hi
      rw [e1, e2]
      exact key (h3 i (by omega) hi)
    · have hi' : i = us.length := by simp at b; omega
      subst hi'
      have e1 : (T ++ [c])[us.length] = c := by simp [h1]
      have e2 : (us ++ [p])[us.length] = p := by simp
      rw [e1, e2]
      exact key hp
/-- A cause turned round. -/
def turnU (l : List K4) : List K4 := l.reverse.flatMap fun k => [k, l.head?.getD k]
def turnH (l : List M3) : List M3 := l.reverse.flatMap fun k => [k, k]
def turnC (c : Cau) : Cau := ⟨turnU c.undo, turnH c.hold⟩
theorem mem_turnU (l : List K4) (x : K4) : x ∈ turnU l ↔ x ∈ l := by
  unfold turnU
  rw [List.mem_flatMap]
  constructor
  · rintro ⟨k, hk, hx⟩
    have hk' := List.mem_reverse.1 hk
    rcases List.mem_cons.1 hx with rfl | hx
    · exact hk'
    · rw [List.mem_singleton] at hx
      subst hx
      cases l with
      | nil => simp at hk'
      | cons a r => simp
  · intro h
    exact ⟨x, List.mem_reverse.2 h, by simp⟩
theorem mem_turnH (l : List M3) (x : M3) : x ∈ turnH l ↔ x ∈ l := by
  unfold turnH
  rw [List.mem_flatMap]
  constructor
  · rintro ⟨k, hk, hx⟩
    have hk' := List.mem_reverse.1 hk
    have : x = k := by simpa using hx
    rw [this]; exact hk'
  · intro h
    exact ⟨x, List.mem_reverse.2 h, by simp⟩
theorem flat2_len {α β : Type} (g : α → List β) (hg : ∀ x, (g x).length = 2) : ∀ l : List α, (l.flatMap g).length = 2 * l.length
  | [] => rfl
  | x :: r => by rw [List.flatMap_cons, List.length_append, hg, flat2_len g hg r, List.length_cons]; omega
theorem len_turnU (l : List K4) : (turnU l).length = 2 * l.length := by
  unfold turnU
  exact flat2_len _ (fun _ => rfl) l.reverse |>.trans (by rw [List.length_reverse])
theorem len_turnH (l : List M3) : (turnH l).length = 2 * l.length := by
  unfold turnH
  exact flat2_len _ (fun _ => rfl) l.reverse |>.trans (by rw [List.length_reverse])
theorem nd_len_of {α : Type} [DecidableEq α] {l m : List α} (h : ∀ x, x ∈ l ↔ x ∈ m) : (nd l).length = (nd m).length :=
  len_of_mem (nodup_nd l) (nodup_nd m) fun x => by rw [mem_nd, mem_nd]; exact h x
theorem turn_size (c : Cau) : (turnC c).size = c.size := by
  unfold Cau.size turnC
  rw [nd_len_of (mem_turnU c.undo), nd_len_of (mem_turnH c.hold)]
theorem turn_joint (L : List Cau) (ks : List K4) : jointN (L.reverse.map turnC) ks = jointN L ks := by
  refine (isJoint _ ks).unique ⟨fun c hc hk hz => ?_, fun h => ?_⟩
  · obtain ⟨d, hd, rfl⟩ := List.mem_map.1 hc
    rw [turn_size] at hz ⊢
    exact (isJoint L ks).1 d (List.mem_reverse.1 hd) (fun k hk' => (mem_turnU d.undo k).1 (hk k hk')) hz
  · obtain ⟨d, hd, hk, hs⟩ := (isJoint L ks).2 h
    exact ⟨turnC d, List.mem_map.2 ⟨d, List.mem_reverse.2 hd, rfl⟩, fun k hk' => (mem_turnU d.undo k).2 (hk k hk'), by rw [turn_size]; exact hs⟩
theorem turn_shares {L : List Cau} {s t : List (K4 × Nat)} (hs : IsShares L s) (ht : IsShares (L.reverse.map turnC) t) : s = t :=
  hs.unique ⟨ht.1, fun x => by rw [ht.2 x, turn_joint]⟩
theorem turn_ok {L : List Cau} (h : ∀ c ∈ L, c.Ok) (hl : ∀ c ∈ L, c.undo.length ≤ 4 ∧ c.hold.length ≤ 4) : ∀ c ∈ L.reverse.map turnC, c.Ok := by
  intro c hc
  obtain ⟨d, hd, rfl⟩ := List.mem_map.1 hc
  have hd' := List.mem_reverse.1 hd
  obtain ⟨h1, h2⟩ := hl d hd'
  obtain ⟨a, b, _, _⟩ := h d hd'
  refine ⟨fun x hx => a x ((mem_turnU _ _).1 hx), fun x hx => b x ((mem_turnH _ _).1 hx), ?_, ?_⟩
  · show (turnU d.undo).length ≤ _; rw [len_turnU]; omega
  · show (turnH d.hold).length ≤ _; rw [len_turnH]; omega
theorem fewL_each (l : List Cau) : ∀ c ∈ fewL l, c.undo.length ≤ 4 ∧ c.hold.length ≤ 4 := by
  intro c hc
  unfold fewL at hc
  obtain ⟨d, _, rfl⟩ := List.mem_map.1 hc
  exact ⟨by show (d.undo.take 4).length ≤ 4; rw [List.length_take]; omega, by show (d.hold.take 4).length ≤ 4; rw [List.length_take]; omega⟩
end Go.Proofs.Ytemeppfikpafbaa
