/- What holds between two rounds of table.Read, and of the document's Read. -/
import Derived.Test.YtekhoanjpnjaeaaRdr
import Derived.Test.YtekhoanjpnjaeaaReadL
import Derived.RangeFuncBox
namespace Go.Proofs.Ytekhoanjpnjaeaa
open Go.RowKit
def lastO (L : List (Int × Int)) : Option Int := L.getLast?.map (·.1)
theorem lastO_push (L : List (Int × Int)) (x : Int × Int) : lastO (L ++ [x]) = some x.1 := by unfold lastO; simp
theorem lastO_get {L : List (Int × Int)} {k : Nat} (h : k + 1 = L.length) : lastO L = some (L[k]'(by omega)).1 := by
  unfold lastO
  rw [List.getLast?_eq_getElem?, show L.length - 1 = k by omega, List.getElem?_eq_getElem (by omega)]
  rfl
/-- A key, read or not. -/
def KeySt (L : List (Int × Int)) (l : List Int) (key : Int) (l1 : List Int) (e1 : Int) : Prop :=
  (e1 = 0 ∧ ∃ u n1, decU l = some (u, n1) ∧ keyOf (lastO L) u = some key ∧ l1 = l.drop n1) ∨ (e1 = 6 ∧ decU l = none)
/-- A value, read or not. -/
def ValSt (l1 : List Int) (e1 y : Int) (l2 : List Int) (e2 : Int) : Prop :=
  (e1 = 0 ∧ e2 = 0 ∧ ∃ v n2, decU l1 = some (v, n2) ∧ y = uz v ∧ l2 = l1.drop n2) ∨ (e1 = 0 ∧ e2 = 6 ∧ decU l1 = none) ∨ (e1 ≠ 0 ∧ e2 = e1)
/-- The state of a reading: L has been read, l' is left. -/
structure RSt (n : Nat) (l : List Int) (R : Option (List (Int × Int) × Nat)) (k : Nat) (L : List (Int × Int)) (l' : List Int) (e : Int) : Prop where
  len : L.length = k
  wf : ∀ x ∈ L, I64 x.1
  short : l'.length ≤ l.length
  ok : e = 0 → joinR L (l.length - l'.length) (rdL (n - k) (lastO L) l') = R
  bad : e ≠ 0 → e = 6 ∧ R = none
theorem RSt.next {n : Nat} {l : List Int} {R : Option (List (Int × Int) × Nat)} {k : Nat} {L : List (Int × Int)} {l' l1 l2 : List Int} {key y e1 e2 : Int} (h : RSt n l R k L l' 0) (hk : k < n) (hB : Byts l') (h1 : KeySt L l' key l1 e1) (h2 : ValSt l1 e1 y l2 e2) (hkey : I64 key) (hs : l2.length ≤ l.length) :
    RSt n l R (k + 1) (L ++ [(key, y)]) l2 e2 := by
  have hok := h.ok rfl
  rw [show n - k = (n - (k + 1)) + 1 by omega] at hok
  refine ⟨by simp [h.len], ?_, hs, ?_, ?_⟩
  · intro x hx
    rcases List.mem_append.1 hx with e | e
    · exact h.wf x e
    · simp at e; subst e; exact hkey
  · intro e0
    rcases h1 with ⟨he1, u, n1, hd, hkk, rfl⟩ | ⟨he1, _⟩
    · rcases h2 with ⟨_, _, v, n2, hd2, rfl, rfl⟩ | ⟨_, he2, _⟩ | ⟨hne, _⟩
      · have b1 := decU_bound hB hd
        have b2 := decU_bound (byts_drop hB n1) hd2
        have hsh := h.short
        rw [List.length_drop] at b2
        rw [rdL_step hd hkk hd2] at hok
        rw [← hok, lastO_push, List.drop_drop, List.length_drop]
        congr 1
        omega
      · omega
      · omega
    · rcases h2 with ⟨he, _⟩ | ⟨he, _⟩ | ⟨_, he⟩
      · omega
      · omega
      · omega
  · intro ene
    rcases h1 with ⟨he1, u, n1, hd, hkk, rfl⟩ | ⟨he1, hd⟩
    · rcases h2 with ⟨_, he2, _⟩ | ⟨_, he2, hd2⟩ | ⟨hne, _⟩
      · exact absurd he2 ene
      · exact ⟨he2, by rw [← hok]; exact rdL_no3 hd hkk hd2 _ _⟩
      · exact absurd he1 hne
    · have hR : R = none := by rw [← hok]; exact rdL_no1 hd _ _
      rcases h2 with ⟨he, _⟩ | ⟨he, _⟩ | ⟨_, he⟩
      · omega
      · omega
      · exact ⟨by omega, hR⟩
/-- The step is too long. -/
theorem RSt.far {n : Nat} {l : List Int} {R : Option (List (Int × Int) × Nat)} {k : Nat} {L : List (Int × Int)} {l' : List Int} (h : RSt n l R k L l' 0) (hk : k < n) {q : Int} (hq : lastO L = some q)
    (h1 : (∃ u n1, decU l' = some (u, n1) ∧ 9223372036854775807 - q ≤ (u : Int)) ∨ decU l' = none) : R = none := by
  have hok := h.ok rfl
  rw [show n - k = (n - (k + 1)) + 1 by omega] at hok
  rw [← hok]
  rcases h1 with ⟨u, n1, hd, hle⟩ | hd
  · exact rdL_no2 hd (by rw [hq, keyOf_some, if_pos hle]) _ _
  · exact rdL_no1 hd _ _
theorem RSt.done {n : Nat} {l : List Int} {R : Option (List (Int × Int) × Nat)} {k : Nat} {L : List (Int × Int)} {l' : List Int} (h : RSt n l R k L l' 0) (hk : ¬ k < n) : R = some (L, l.length - l'.length) := by
  have hok := h.ok rfl
  rw [show n - k = 0 by omega, joinR_end] at hok
  exact hok.symm
def resR (o : Option (List (Int × Int) × Nat)) : Int × List (Int × Int) × Nat := match o with | none => (6, [], 0) | some x => (0, x.1, x.2)
theorem st_start {l l1 : List Int} {n : Nat} {e1 : Int} (hB : Byts l) (hst : (e1 = 0 ∧ ∃ n1, decU l = some (n, n1) ∧ l1 = l.drop n1) ∨ (e1 = 6 ∧ decU l = none ∧ n = 0)) (hlim : ¬ 4096 < n) (hl1 : l1.length ≤ l.length) : ∃ R, RSt n l R 0 [] l1 e1 ∧ readT l = resR R := by
  rcases hst with ⟨rfl, n1, hd, rfl⟩ | ⟨rfl, hd, rfl⟩
  · have b := decU_bound hB hd
    refine ⟨joinR [] n1 (rdL n none (l.drop n1)), ⟨rfl, fun x hx => (by cases hx), hl1, fun _ => ?_, fun h => absurd rfl h⟩, ?_⟩
    · rw [List.length_drop, show l.length - (l.length - n1) = n1 by omega]; rfl
    · unfold readT
      rw [hd]; simp only []
      rw [if_neg hlim]
      cases rdL n none (l.drop n1) with
      | none => rfl
      | some x => simp [joinR, resR]
  · refine ⟨none, ⟨rfl, fun x hx => (by cases hx), hl1, fun h => absurd h (by decide), fun _ => ⟨rfl, rfl⟩⟩, ?_⟩
    unfold readT
    rw [hd]; rfl
theorem readT_limit {l l1 : List Int} {n : Nat} {e1 : Int} (hst : (e1 = 0 ∧ ∃ n1, decU l = some (n, n1) ∧ l1 = l.drop n1) ∨ (e1 = 6 ∧ decU l = none ∧ n = 0)) (hlim : 4096 < n) : readT l = (3, [], 0) := by
  rcases hst with ⟨rfl, n1, hd, rfl⟩ | ⟨rfl, hd, rfl⟩
  · unfold readT
    rw [hd]; simp only []
    rw [if_pos hlim]
  · omega
theorem rdU_st (rb : Nat) (l : List Int) (w : World) (h : Rd w rb l 0) :
    Calls Try.prog 89 #[.pointer (some ⟨rb, 0, none⟩), .int .u64 18446744073709551615] w fun r w' => ∃ (u : Nat) (l1 : List Int) (e1 : Int), r = .returned (.int .u64 u) ∧ w.grownBy w' (some rb) ∧ Rd w' rb l1 e1 ∧ u < 18446744073709551616 ∧ l1.length ≤ l.length ∧
      ((e1 = 0 ∧ ∃ n1, decU l = some (u, n1) ∧ l1 = l.drop n1) ∨ (e1 = 6 ∧ decU l = none ∧ u = 0)) := by
  obtain ⟨a, cap, c0, hr, hy, hl⟩ := h.row
  cases hd : decU l with
  | none =>
    refine (rdU_none rb l w hd h).mono ?_
    rintro r w' ⟨rfl, hg, hrd⟩
    exact ⟨0, l, 6, rfl, hg, hrd, by omega, Nat.le_refl _, Or.inr ⟨rfl, rfl, rfl⟩⟩
  | some x =>
    obtain ⟨u, n⟩ := x
    refine (rdU_some rb l w u n hd h).mono ?_
    rintro r w' ⟨rfl, hg, hrd⟩
    exact ⟨u, l.drop n, 0, rfl, hg, hrd, (decU_bound hy hd).1, by simp, Or.inl ⟨rfl, n, rfl, rfl⟩⟩
theorem rdI_st (rb : Nat) (l : List Int) (e : Int) (w : World) (h : Rd w rb l e) :
    Calls Try.prog 91 #[.pointer (some ⟨rb, 0, none⟩)] w fun r w' => ∃ (x : Int) (l1 : List Int) (e1 : Int), r = .returned (.int .i64 x) ∧ w.grownBy w' (some rb) ∧ Rd w' rb l1 e1 ∧ I64 x ∧ l1.length ≤ l.length ∧
      ((e = 0 ∧ e1 = 0 ∧ ∃ u n1, decU l = some (u, n1) ∧ x = uz u ∧ l1 = l.drop n1) ∨ (e = 0 ∧ e1 = 6 ∧ decU l = none) ∨ (e ≠ 0 ∧ e1 = e)) := by
  obtain ⟨a, cap, c0, hr, hy, hl⟩ := h.row
  by_cases he : e = 0
  · subst he
    cases hd : decU l with
    | none =>
      refine (rdI_none rb l w hd h).mono ?_
      rintro r w' ⟨rfl, hg, hrd⟩
      exact ⟨0, l, 6, rfl, hg, hrd, ⟨by decide, by decide⟩, Nat.le_refl _, Or.inr (Or.inl ⟨rfl, rfl, rfl⟩)⟩
    | some x =>
      obtain ⟨u, n⟩ := x
      refine (rdI_some rb l w u n hd h).mono ?_
      rintro r w' ⟨rfl, hg, hrd⟩
      exact ⟨uz u, l.drop n, 0, rfl, hg, hrd, uz_i64 (decU_bound hy hd).1, by simp, Or.inl ⟨rfl, rfl, u, n, rfl, rfl, rfl⟩⟩
  · refine (rdI_shut rb l e w he h).mono ?_
    rintro r w' ⟨rfl, rfl⟩
    exact ⟨0, l, e, rfl, World.grownBy.refl _ _, h, ⟨by decide, by decide⟩, Nat.le_refl _, Or.inr (Or.inr ⟨he, rfl⟩)⟩
/-- The memory between two rounds: the reader in rb, the entries' own row from B on, the result's cell RB. -/
structure RMem (w : World) (rb B RB : Nat) (L : List (Int × Int)) (l' : List Int) (e : Int) (lv : Value) (wr : World) : Prop where
  rd : Rd wr rb l' e
  own : wr.ownsRow B 151 2 lv L.length (flat2 L)
  box : Boxed wr RB 54 (.slice none 0 0)
  below : Below w.heap.size w wr
  size : B ≤ wr.heap.size
  order : w.heap.size ≤ RB ∧ RB < rb ∧ rb < B
theorem RMem.more {w wr w' : World} {rb B RB : Nat} {L : List (Int × Int)} {l' : List Int} {e : Int} {lv : Value} (h : RMem w rb B RB L l' e lv wr) (hm : More wr w') : RMem w rb B RB L l' e lv w' := by
  obtain ⟨a, cap, _, hoo⟩ := owns_shape h.own
  exact ⟨h.rd.more hm, owns_keep h.own (fun x hx => hm.block (hoo x hx).2), h.box.kept hm (by simp), h.below.trans (hm.below.mono h.below.size), Nat.le_trans h.size hm.size, h.order⟩
theorem RMem.rdr {w wr w' : World} {rb B RB : Nat} {L : List (Int × Int)} {l' l'' : List Int} {e e' : Int} {lv : Value} (h : RMem w rb B RB L l' e lv wr) (hg : wr.grownBy w' (some rb)) (hrd : Rd w' rb l'' e') : RMem w rb B RB L l'' e' lv w' := by
  obtain ⟨a, cap, _, hoo⟩ := owns_shape h.own
  have ho := h.order
  exact ⟨hrd, owns_keep h.own (fun x hx => grown_below hg (hoo x hx).2 (by have := (hoo x hx).1; omega)), h.box.kept hg (by simp; omega), h.below.grown hg h.below.size (fun y hy => by cases hy; omega), Nat.le_trans h.size hg.size, h.order⟩
/-- A store into a block of the round's own. -/
theorem RMem.put {w wr : World} {rb B RB X o : Nat} {L : List (Int × Int)} {l' : List Int} {e : Int} {lv : Value} (h : RMem w rb B RB L l' e lv wr) (hX : B ≤ X) (hne : lv.ownBlock ≠ some X) (u : Value) : RMem w rb B RB L l' e lv (wr.setCell ⟨X, o, none⟩ u) := by
  obtain ⟨a, cap, _, hoo⟩ := owns_shape h.own
  have ho := h.order
  have hg := setCell_grown' wr X o u
  refine ⟨h.rd.keep fun b hb => ?_, owns_keep h.own (fun x hx => ?_), h.box.kept hg (by simp; omega), h.below.grown hg h.below.size (fun y hy => by cases hy; omega), Nat.le_trans h.size hg.size, h.order⟩
  · exact grown_below hg (Nat.lt_of_le_of_lt hb h.rd.lt) (by omega)
  · exact grown_below hg (hoo x hx).2 (fun e => hne (by rw [← e]; exact hx))
theorem RMem.app {w wr w2 : World} {rb B RB : Nat} {L : List (Int × Int)} {x : Int × Int} {l' : List Int} {e : Int} {oa : Option Addr} {ocap g cap : Nat} {ob : Obj} (h : RMem w rb B RB L l' e (.slice oa L.length ocap) wr)
    (hgrow : (wr.alloc ob).grownBy w2 (Value.slice oa L.length ocap).ownBlock) (hown : w2.ownsRow B 151 2 (.slice (some ⟨g, 0, none⟩) (L.length + 1) cap) (L.length + 1) (flat2 L ++ [.int .i64 x.1, .int .i64 x.2])) :
    RMem w rb B RB (L ++ [x]) l' e (.slice (some ⟨g, 0, none⟩) (L.length + 1) cap) w2 := by
  have h1 := h.more (World.grownBy_alloc wr ob none)
  obtain ⟨a, c, _, hoo⟩ := owns_shape h1.own
  have ho := h.order
  refine ⟨h1.rd.keep fun b hb => ?_, ?_, h1.box.kept hgrow (fun e => ?_), h1.below.grown hgrow h1.below.size (fun y hy => by have := (hoo y hy).1; omega), Nat.le_trans h1.size hgrow.size, h.order⟩
  · exact hgrow.block b (Nat.lt_of_le_of_lt hb h1.rd.lt) (fun e => by have := (hoo b e.symm).1; omega)
  · rw [flat2_push, List.length_append]; exact hown
  · have := (hoo _ e.symm).1; omega
end Go.Proofs.Ytekhoanjpnjaeaa
