/- append of any row, nil or not, to a row of the call's own, at one operation; plain laws of RankGrows. -/
import Derived.Test.YtemeppfikpafbaaBest
import Derived.Test.YtemeppfikpafbaaFewO
namespace Go.Proofs.Ytemeppfikpafbaa
open Go.RowKit
theorem wp_append_row {w : World} {o : Oper} {a : Act} {K : Act → World → Prop} {Q : Exit → Act → World → Prop} (s x : Operand) (t : TypeId)
    (ho : o.op = .call { callee := .builtin .append, args := #[s, x], argTypes := #[t, t] })
    (base : Nat) (e : TypeId) (i : TypeInfo) (z : Value) (size bytes : Nat) (ht : Try.prog.underlying t = some (.slice e)) (hi : Try.prog.info? e = some i) (hz : i.zero = some z)
    (hsize : i.size = size) (hby : i.bytes = bytes) (hzs : z.cells.size = size) (hsz : 0 < size)
    (v : Value) (n : Nat) (xs : List Value) (hs : a.eval s = v) (hown : w.ownsRow base e size v n xs)
    (xv : Value) (m : Nat) (news : List Value) (hx : a.eval x = xv) (hrow : Row anyB w size m xv news) (hnil : NilA xv) (h1 : ∀ u ∈ news, u.oneCell' = true)
    (h63 : n + m ≤ maxLen) (hbytes : (n + m) * bytes ≤ 140737488355328) (hbase : base ≤ w.heap.size)
    (h : ∀ v' w', w'.ownsRow base e size v' (n + m) (xs ++ news) → w.grownBy w' v.ownBlock → K (a.put o.dst v') w') : o.wp Try.prog a w K Q := by
  obtain ⟨xa, xc, rfl, _⟩ := hrow.shape
  cases xa with
  | none =>
    obtain rfl := hnil _ _ rfl
    have hm : m = 0 := by
      rcases Nat.eq_zero_or_pos m with h0 | h0
      · exact h0
      · obtain ⟨_, _, he, _⟩ := hrow.at (by omega); cases he
    subst hm
    have hn : news = [] := List.length_eq_zero_iff.1 (by rw [hrow.1]; omega)
    subst hn
    have hrun := run_append_owned_none (P := Try.prog) (w := w) base t o.type e i size ht hi v n xs hown
    unfold Oper.wp
    simp [execOp, ho, resolve, invoke, builtin, hs, hx, hrun, Result.andThen]
    exact h v w (by simpa using hown) (World.grownBy.refl _ _)
  | some ta =>
    refine wp_append_own w s x t ho base e i z size bytes ht hi hz hsize hby hzs hsz v n xs hs hown ta m xc news hx hrow.1 (fun j u hj => ?_) h1 h63 hbytes hbase fun v' w' h2 h3 _ => h v' w' h2 h3
    have hne : m ≠ 0 := by
      intro e
      have : news = [] := List.length_eq_zero_iff.1 (by rw [hrow.1, e]; omega)
      rw [this] at hj; simp at hj
    obtain ⟨b2, off2, he, _, _, hc2⟩ := hrow.at hne
    cases he
    rw [Addr.add_lit]
    exact hc2 j u hj
theorem joint_push {l : List Cau} {c : Cau} {k : K4} (h : 0 < jointN l [k]) : 0 < jointN (l ++ [c]) [k] ∧ jointN (l ++ [c]) [k] ≤ jointN l [k] := by
  rw [jointN_push]
  unfold jstep
  split
  · rename_i hc
    omega
  · exact ⟨h, Nat.le_refl _⟩
theorem moreGrown {w w1 w2 : World} {B : Option Nat} (h : More w w1) (g : w1.grownBy w2 B) (hB : ∀ b, B = some b → w.heap.size ≤ b) : More w w2 :=
  ⟨g.os.trans h.os, g.tape.trans h.tape, g.output.trans h.output, Nat.le_trans h.size g.size, fun k hk _ => (g.block k (Nat.lt_of_lt_of_le hk h.size) (fun e => by have := hB k e.symm; omega)).trans (h.block hk)⟩
theorem CVs.append {w : World} {l m : List Cau} {vs us : List (Value × Value)} (h : CVs w l vs) (k : CVs w m us) : CVs w (l ++ m) (vs ++ us) := by
  refine ⟨by simp [h.1, k.1], fun i a b => ?_⟩
  rcases Nat.lt_or_ge i l.length with hi | hi
  · have e1 : (l ++ m)[i] = l[i] := List.getElem_append_left hi
    have e2 : (vs ++ us)[i] = vs[i]'(by rw [h.1]; exact hi) := List.getElem_append_left (by rw [h.1]; exact hi)
    rw [e1, e2]
    exact h.2 i hi (by rw [h.1]; exact hi)
  · have hv : vs.length ≤ i := by rw [h.1]; exact hi
    have hm : i - l.length < m.length := by simp at a; omega
    have e1 : (l ++ m)[i] = m[i - l.length] := List.getElem_append_right hi
    have e2 : (vs ++ us)[i] = us[i - l.length]'(by rw [k.1]; exact hm) := by rw [List.getElem_append_right hv]; congr 1; rw [h.1]
    rw [e1, e2]
    exact k.2 (i - l.length) hm (by rw [k.1]; exact hm)
end Go.Proofs.Ytemeppfikpafbaa
