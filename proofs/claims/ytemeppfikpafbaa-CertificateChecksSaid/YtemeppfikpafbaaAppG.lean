/- Appends of any row, and list[:p], in the first seat's numbers. -/
import Derived.Test.YtemeppfikpafbaaGenC
import Derived.Deep.RegionHeld3
import Derived.Deep.DeepCutAuto
namespace Go.Proofs.Ytemeppfikpafbaa
open Go.RowKit
theorem wp_append_rowC {w : World} {o : Oper} {a : Act} {K : Act → World → Prop} {Q : Exit → Act → World → Prop} (s x : Operand) (t : TypeId)
    (ho : o.op = .call { callee := .builtin .append, args := #[s, x], argTypes := #[t, t] })
    (base : Nat) (e : TypeId) (i : TypeInfo) (z : Value) (size bytes : Nat) (ht : Try.prog.underlying t = some (.slice e)) (hi : Try.prog.info? e = some i) (hz : i.zero = some z)
    (hsize : i.size = size) (hby : i.bytes = bytes) (hzs : z.cells.size = size) (hsz : 0 < size)
    (v : Value) (n : Nat) (xs : List Value) (hs : a.eval s = v) (hown : w.ownsRow base e size v n xs)
    (xv : Value) (m : Nat) (news : List Value) (hx : a.eval x = xv) (hrow : Row anyB w size m xv news) (hnil : NilA xv) (h1 : ∀ u ∈ news, u.oneCell' = true)
    (h63 : n + m ≤ maxLen) (hbytes : (n + m) * bytes ≤ 140737488355328) (hbase : base ≤ w.heap.size)
    (h : ∀ v' w', w'.ownsRow base e size v' (n + m) (xs ++ news) → w.grownBy w' v.ownBlock → K (a.put o.dst v') w') : o.wp Try.prog a w K Q := by
  obtain ⟨xa, xc, rfl, _⟩ := hrow.shape
  cases xa with
  | none =>
    obtain rfl := hnil _ _ rfl
    have hm : m = 0 := by
      rcases Nat.eq_zero_or_pos m with h0 | h0
      · exact h0
      · obtain ⟨_, _, he, _⟩ := hrow.at (by omega); cases he
    subst hm
    have hn : news = [] := List.length_eq_zero_iff.1 (by rw [hrow.1]; omega)
    subst hn
    have hrun := run_append_owned_none (P := Try.prog) (w := w) base t o.type e i size ht hi v n xs hown
    unfold Oper.wp
    simp [execOp, ho, resolve, invoke, builtin, hs, hx, hrun, Result.andThen]
    exact h v w (by simpa using hown) (World.grownBy.refl _ _)
  | some ta =>
    refine wp_append_own w s x t ho base e i z size bytes ht hi hz hsize hby hzs hsz v n xs hs hown ta m xc news hx hrow.1 (fun j u hj => ?_) h1 h63 hbytes hbase fun v' w' h2 h3 _ => h v' w' h2 h3
    have hne : m ≠ 0 := by
      intro e
      have : news = [] := List.length_eq_zero_iff.1 (by rw [hrow.1, e]; omega)
      rw [this] at hj; simp at hj
    obtain ⟨b2, off2, he, _, _, hc2⟩ := hrow.at hne
    cases he
    rw [Addr.add_lit]
    exact hc2 j u hj
theorem wpList_append_rowC {w : World} {ops : Array Oper} {rest : List Oper} {o : Oper} {a : Act} {Q : Exit → Act → World → Prop} (hgd : o.guard = none) (s x : Operand) (t : TypeId)
    (ho : o.op = .call { callee := .builtin .append, args := #[s, x], argTypes := #[t, t] })
    (base : Nat) (e : TypeId) (i : TypeInfo) (z : Value) (size bytes : Nat) (ht : Try.prog.underlying t = some (.slice e)) (hi : Try.prog.info? e = some i) (hz : i.zero = some z)
    (hsize : i.size = size) (hby : i.bytes = bytes) (hzs : z.cells.size = size) (hsz : 0 < size)
    (v : Value) (n : Nat) (xs : List Value) (hs : a.eval s = v) (hown : w.ownsRow base e size v n xs)
    (xv : Value) (m : Nat) (news : List Value) (hx : a.eval x = xv) (hrow : Row anyB w size m xv news) (hnil : NilA xv) (h1 : ∀ u ∈ news, u.oneCell' = true)
    (h63 : n + m ≤ maxLen) (hbytes : (n + m) * bytes ≤ 140737488355328) (hbase : base ≤ w.heap.size)
    (h : ∀ v' w', w'.ownsRow base e size v' (n + m) (xs ++ news) → w.grownBy w' v.ownBlock → wpList Try.prog ops Q rest (a.put o.dst v') w') : wpList Try.prog ops Q (o :: rest) a w :=
  wpList_plain hgd fun _ hK => wp_append_rowC s x t ho base e i z size bytes ht hi hz hsize hby hzs hsz v n xs hs hown xv m news hx hrow hnil h1 h63 hbytes hbase fun v' w' h2 h3 => hK _ _ (h v' w' h2 h3)
theorem step_append_rowC {w : World} {ops : Array Oper} {o : Oper} {a : Act} {K : Act → World → Prop} {Q : Exit → Act → World → Prop} {E : Prop} (hgd : o.guard = none) (s x : Operand) (t : TypeId)
    (ho : o.op = .call { callee := .builtin .append, args := #[s, x], argTypes := #[t, t] })
    (base : Nat) (e : TypeId) (i : TypeInfo) (z : Value) (size bytes : Nat) (ht : Try.prog.underlying t = some (.slice e)) (hi : Try.prog.info? e = some i) (hz : i.zero = some z)
    (hsize : i.size = size) (hby : i.bytes = bytes) (hzs : z.cells.size = size) (hsz : 0 < size)
    (v : Value) (n : Nat) (xs : List Value) (hs : a.eval s = v) (hown : w.ownsRow base e size v n xs)
    (xv : Value) (m : Nat) (news : List Value) (hx : a.eval x = xv) (hrow : Row anyB w size m xv news) (hnil : NilA xv) (h1 : ∀ u ∈ news, u.oneCell' = true)
    (h63 : n + m ≤ maxLen) (hbytes : (n + m) * bytes ≤ 140737488355328) (hbase : base ≤ w.heap.size)
    (h : ∀ v' w', w'.ownsRow base e size v' (n + m) (xs ++ news) → w.grownBy w' v.ownBlock → K (a.put o.dst v') w') : if Region.wanted o (yielded ops a.tmps) = true then Oper.wp Try.prog o a w K Q else E := by
  have hw : Region.wanted o (yielded ops a.tmps) = true := by simp [Region.wanted, hgd]
  rw [if_pos hw]
  exact wp_append_rowC s x t ho base e i z size bytes ht hi hz hsize hby hzs hsz v n xs hs hown xv m news hx hrow hnil h1 h63 hbytes hbase h
/-- list[:p] of arguments. -/
theorem take111 {S : Nat → Prop} {w : World} {a : Option Addr} {n cap p : Nat} {l : List Int} (hp : p ≤ n) (hl : l.length = n) (h : Row S w 1 n (.slice a n cap) (flatC nC l)) (hn : NilA (.slice a n cap)) :
    (∀ W, (Instr.slice 111 (.slice a n cap) none (some (.int .i64 (p : Int))) none).run Try.prog W = .ok (.slice a p cap) W) ∧ Row S w 1 (l.take p).length (.slice a p cap) (flatC nC (l.take p)) ∧ NilA (.slice a p cap) := by
  obtain ⟨_, _, e0, hc⟩ := h.shape
  cases e0
  have htl : (l.take p).length = p := by rw [List.length_take, hl]; omega
  rw [htl, flatC_take nC_len]
  rcases a with _ | a
  · obtain rfl := hn _ _ rfl
    obtain rfl : n = 0 := by omega
    obtain rfl : p = 0 := by omega
    have hl0 : l = [] := List.length_eq_zero_iff.1 hl
    subst hl0
    exact ⟨fun W => by simp [go_sem, sliced], Row.nil _ _ _ _ _, fun n d e => by cases e; rfl⟩
  · by_cases hn0 : n = 0
    · subst hn0
      obtain rfl : p = 0 := by omega
      have hl0 : l = [] := List.length_eq_zero_iff.1 hl
      subst hl0
      exact ⟨fun W => by simp [go_sem, sliced], Row.nil _ _ _ _ _, fun n d e => by cases e⟩
    · obtain ⟨b, off, hab, _⟩ := h.at hn0
      cases hab
      exact ⟨fun W => by simp [go_sem, sliced]; omega, h.take hp, fun n d e => by cases e⟩
theorem nC_one (l : List Int) : ∀ u ∈ flatC nC l, u.oneCell' = true := by
  intro u hu
  unfold flatC at hu
  obtain ⟨x, _, hx⟩ := List.mem_flatMap.1 hu
  simp only [nC, List.mem_cons, List.not_mem_nil, or_false] at hx
  subst hx; rfl
end Go.Proofs.Ytemeppfikpafbaa
