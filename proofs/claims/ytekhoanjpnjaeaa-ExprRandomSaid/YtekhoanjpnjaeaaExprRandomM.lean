/- ExprRandom: the value of the expressions of well-formed fleets does not depend on the order of the names, for every plan and every number; no condition. -/
import Derived.Test.YtekhoanjpnjaeaaRows
import Derived.Test.YtekhoanjpnjaeaaNbg
import Derived.Test.YtekhoanjpnjaeaaNbh
import Derived.OpenShut
namespace Go.Proofs.Ytekhoanjpnjaeaa.exprRandom
open Go.ChangeShapes Go.WideShapes Go.ChangeAt Go.RowKit

theorem oks : Try.f18.params.toList.all (fun t => Try.prog.readableRec t && decide (t < Try.prog.types.size)) = true := by kernel_rfl
theorem oks' : ∀ t ∈ Try.f18.params.toList, Try.prog.readableRec t = true ∧ t < Try.prog.types.size := fun t ht => by
  have h := List.all_eq_true.1 oks t ht
  rw [Bool.and_eq_true, decide_eq_true_eq] at h
  exact h
theorem kInPlace : (Rows.exprRandomRow.inPlace == Try.prog.inPlace 18) = true := by kernel_rfl
theorem kUnf : (Rows.exprRandomRow.unfollowed == Try.prog.unfollowed 18) = true := by kernel_rfl
theorem kRec : (Rows.exprRandomRow.recurses == Try.prog.recurses 18) = true := by kernel_rfl
theorem kNamed : (Rows.exprRandomRow.named == Try.prog.varsNamed 18) = true := by kernel_rfl
theorem closed : joinedFacts Try.prog 18 Try.f18 Rows.exprRandomSpec Rows.exprRandomRow = true :=
  closed_of (by as_aux_lemma => kernel_rfl) kLaid kMaps (by as_aux_lemma => kernel_rfl) (by as_aux_lemma => kernel_rfl) rfl kStops rfl kKnobs kInPlace kUnf kRec kNamed
    (by as_aux_lemma => kernel_rfl) (by as_aux_lemma => kernel_rfl) (by as_aux_lemma => kernel_rfl) (by as_aux_lemma => kernel_rfl) (by as_aux_lemma => kernel_rfl) rfl (by as_aux_lemma => kernel_rfl) (by as_aux_lemma => kernel_rfl) (by as_aux_lemma => kernel_rfl)
    kKeys rfl kHeard kEnter kLift kMake ⟨rfl, rfl⟩ rfl (by as_aux_lemma => kernel_rfl) (by as_aux_lemma => kernel_rfl)

set_option maxRecDepth 100000 in
theorem lifted (os : Os) (started : os.Started) (H : Type) (enc : TypeId × Value → H) :
    ReturnsInHanded {} Try.checked os 18 .any (Rows.exprRandomSpec.pre6 enc Try.prog Try.f18 Rows.exprRandomRow.domain false) (Rows.exprRandomSpec.post enc Try.prog Try.f18 false true false false) := by
  refine returnsInHanded_of_change (C := Try.checked) kOwn started (by kernel_rfl) Try.func18
    (ChangeSpec.witness6 (enc := enc) (C := Try.checked) false ⟨#[], #[.agg #[.int .u8 0, .slice none 0 0, .slice none 0 0], .int .i64 0], []⟩ 8 (by kernel_rfl) (by kernel_rfl) (by kernel_rfl) (by kernel_rfl)) ?_
  intro W base args ds gs before hval0 hW hcnd _
  have hval : ∀ (j : Nat) t v, Try.f18.params[j]? = some t → args[j]? = some v → Value.okWide Try.prog W .any base t v := hval0
  have hW' := hW
  obtain ⟨p, q, hA0, hV, rfl, hfz, hnd⟩ := hW
  have hA : DataW.TrodAll enc Try.prog W 0 (fun _ => true) true Try.f18.params.toList args.toList ds p := hA0
  rw [Try.params18] at hA hval
  obtain ⟨v0, vs0, d0, ds0, p0, q0, hargs, rfl, rfl, h0, r0⟩ := trodAll_cons hA
  obtain ⟨v1, vs1, d1, ds1, p1, q1, rfl, rfl, rfl, h1, r1⟩ := trodAll_cons r0
  obtain ⟨rfl, rfl, rfl⟩ := trodAll_nil r1
  obtain rfl : args = #[v0, v1] := by cases args; simp_all
  obtain ⟨rfl, rfl⟩ := trodVars_none hV
  obtain ⟨fl, la, ln, lc, ca, cn, cc, rfl, hf, hl, hpc, hc⟩ := open_plan (hval 0 112 v0 rfl rfl) h0
  obtain ⟨a1, rfl, rfl, rfl, w1⟩ := open_int Try.underlying2 (hval 1 2 v1 rfl rfl) h1
  refine (random_walk fl a1 la ca ln lc cn cc W hf hl hpc hc (in64_of w1)).mono fun e W' ⟨he, hb⟩ => ?_
  subst he
  exact ⟨_, rfl, law_post kLaid oks' rfl rfl Try.underlying4 hW' rfl rfl rfl hb⟩

theorem over : Rows.exprRandomRow.holds Try.pinned (OpenSpec.ofChange Rows.exprRandomSpec) :=
  OpenClaim.holds_of_wide 18 Try.f18 rfl rfl rfl rfl rfl rfl rfl ⟨rfl, rfl, rfl, rfl, rfl⟩ rfl rfl rfl rfl rfl (by as_aux_lemma => kernel_rfl) Try.func18 closed
    (of_decide_eq_true (by as_aux_lemma => kernel_rfl)) (by unfold Func.isWrapper; first | (rw [if_pos (by decide +kernel)]; kernel_rfl) | (rw [if_neg (by decide +kernel)]; exact ⟨rfl, rfl⟩))
    (fun os started H enc _ => lifted os started H enc)

theorem proved : Rows.ExprRandomSaid :=
  over
end Go.Proofs.Ytekhoanjpnjaeaa.exprRandom
