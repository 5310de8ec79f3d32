/- append(q, x...) of bytes, wherever x lies, nil and empty slices too: at a plain region and at a step of a drawn one. -/
import Derived.Test.YtekhoanjpnjaeaaRBytT
import Derived.Deep.AppendLies
import Derived.Laws.AppendOwnNone
namespace Go.Proofs.Ytekhoanjpnjaeaa
open Go.RowKit
theorem run_append_byts {S : Nat → Prop} (ty : TypeId) {B : Nat} {O M : List Int} {v x : Value} {w : World} (hown : w.ownsRow B 5 1 v O.length (bV O)) (hx : ByV S w M x) (hlen : O.length + M.length ≤ 140737488355328) (hB : B ≤ w.heap.size) :
    ∃ a cap w', (Builtin.append_ #[80, 80] ty #[v, x]).run Try.prog w = .ok (.slice a (O ++ M).length cap) w' ∧ w'.ownsRow B 5 1 (.slice a (O ++ M).length cap) (O ++ M).length (bV (O ++ M)) ∧ w.grownBy w' v.ownBlock ∧
      ((Value.slice a (O ++ M).length cap).ownBlock = v.ownBlock ∨ (Value.slice a (O ++ M).length cap).ownBlock = some w.heap.size) := by
  obtain ⟨i0, hi0, hz0, hz1, hz2⟩ := info_parts Try.info5
  obtain ⟨xa, xc, rfl, hr, hp⟩ := id hx
  cases xa with
  | none =>
    obtain ⟨rfl, hz, rfl⟩ := hx.none'
    obtain ⟨a, cap, rfl, _⟩ := owns_shape hown
    refine ⟨a, cap, w, ?_, ?_, World.grownBy.refl _ _, Or.inl (by simp [Value.ownBlock])⟩
    · rw [List.append_nil]
      exact run_append_owned_none (P := Try.prog) (w := w) B 80 ty 5 i0 1 Try.underlying80 hi0 _ _ _ hown
    · rw [List.append_nil]; exact hown
  | some ad =>
    obtain ⟨v', w', hr', h2, h3, _, h5⟩ := run_append_own_at (P := Try.prog) w B 80 ty 5 i0 _ 1 1 Try.underlying80 hi0 hz0 hz1 hz2 rfl (by omega) v O.length (bV O) hown ad M.length xc (bV M) (bV_length1 M) hx.news (bV_one M) (by unfold maxLen; omega) (by omega) hB
    have h2' : w'.ownsRow B 5 1 v' (O ++ M).length (bV (O ++ M)) := by rw [List.length_append, bV_append]; exact h2
    obtain ⟨a, cap, rfl, _⟩ := owns_shape h2'
    exact ⟨a, cap, w', hr', h2', h3, h5⟩
theorem wp_append_byts {S : Nat → Prop} {o : Oper} {a : Act} {K : Act → World → Prop} {Q : Exit → Act → World → Prop} {w : World} (s x : Operand)
    (ho : o.op = .call { callee := .builtin .append, args := #[s, x], argTypes := #[80, 80] }) {B : Nat} {O M R : List Int} {v u : Value} (hs : a.eval s = v) (hown : w.ownsRow B 5 1 v O.length (bV O)) (hu : a.eval x = u) (hx : ByV S w M u) (hR : O ++ M = R) (hlen : O.length + M.length ≤ 140737488355328) (hB : B ≤ w.heap.size)
    (h : ∀ g cap w', w'.ownsRow B 5 1 (.slice g R.length cap) R.length (bV R) → w.grownBy w' v.ownBlock → ((Value.slice g R.length cap).ownBlock = v.ownBlock ∨ (Value.slice g R.length cap).ownBlock = some w.heap.size) → K (a.put o.dst (.slice g R.length cap)) w') : o.wp Try.prog a w K Q := by
  subst hR
  obtain ⟨g, cap, w', hr, h2, h3, h4⟩ := run_append_byts o.type hown hx hlen hB
  unfold Oper.wp execOp
  simp only [ho, resolve, invoke, builtin, Sem.run_bind, Sem.run_pure, Result.andThen_ok, List.map_toArray, List.map_cons, List.map_nil, hs, hu, hr]
  exact h g cap w' h2 h3 h4
theorem wpList_append_byts {S : Nat → Prop} {ops : Array Oper} {rest : List Oper} {o : Oper} {a : Act} {Q : Exit → Act → World → Prop} {w : World} (hgd : o.guard = none) (s x : Operand)
    (ho : o.op = .call { callee := .builtin .append, args := #[s, x], argTypes := #[80, 80] }) {B : Nat} {O M R : List Int} {v u : Value} (hs : a.eval s = v) (hown : w.ownsRow B 5 1 v O.length (bV O)) (hu : a.eval x = u) (hx : ByV S w M u) (hR : O ++ M = R) (hlen : O.length + M.length ≤ 140737488355328) (hB : B ≤ w.heap.size)
    (h : ∀ g cap w', w'.ownsRow B 5 1 (.slice g R.length cap) R.length (bV R) → w.grownBy w' v.ownBlock → ((Value.slice g R.length cap).ownBlock = v.ownBlock ∨ (Value.slice g R.length cap).ownBlock = some w.heap.size) → wpList Try.prog ops Q rest (a.put o.dst (.slice g R.length cap)) w') :
    wpList Try.prog ops Q (o :: rest) a w :=
  wpList_plain hgd fun _ hK => wp_append_byts s x ho hs hown hu hx hR hlen hB fun g cap w' h2 h3 h4 => hK _ _ (h g cap w' h2 h3 h4)
theorem step_append_byts {S : Nat → Prop} {ops : Array Oper} {o : Oper} {a : Act} {K : Act → World → Prop} {Q : Exit → Act → World → Prop} {E : Prop} {w : World} (hgd : o.guard = none) (s x : Operand)
    (ho : o.op = .call { callee := .builtin .append, args := #[s, x], argTypes := #[80, 80] }) {B : Nat} {O M R : List Int} {v u : Value} (hs : a.eval s = v) (hown : w.ownsRow B 5 1 v O.length (bV O)) (hu : a.eval x = u) (hx : ByV S w M u) (hR : O ++ M = R) (hlen : O.length + M.length ≤ 140737488355328) (hB : B ≤ w.heap.size)
    (h : ∀ g cap w', w'.ownsRow B 5 1 (.slice g R.length cap) R.length (bV R) → w.grownBy w' v.ownBlock → ((Value.slice g R.length cap).ownBlock = v.ownBlock ∨ (Value.slice g R.length cap).ownBlock = some w.heap.size) → K (a.put o.dst (.slice g R.length cap)) w') :
    if Region.wanted o (yielded ops a.tmps) = true then Oper.wp Try.prog o a w K Q else E := by
  have hw : Region.wanted o (yielded ops a.tmps) = true := by simp [Region.wanted, hgd]
  rw [if_pos hw]
  exact wp_append_byts s x ho hs hown hu hx hR hlen hB h
/-- Behind such an append: what the row was made of, what was there before, and the block. -/
theorem more_app {B : Nat} {w wr w2 : World} {O : List Int} {v : Value} (hM : More w wr) (hB : w.heap.size ≤ B) (hO : wr.ownsRow B 5 1 v O.length (bV O)) (hg : wr.grownBy w2 v.ownBlock) : More w w2 := by
  obtain ⟨_, _, _, hoo⟩ := owns_shape hO
  exact more_of (hM.below.grown hg hM.size (fun y hy => Nat.le_trans hB (hoo y hy).1))
end Go.Proofs.Ytekhoanjpnjaeaa
