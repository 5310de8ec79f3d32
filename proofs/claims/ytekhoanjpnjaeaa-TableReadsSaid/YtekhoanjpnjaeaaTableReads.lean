/- TableReads: any bytes are read as a table or refused, as the document says, for all bytes; no condition. -/
import Derived.Test.YtekhoanjpnjaeaaRows
import Derived.Test.YtekhoanjpnjaeaaReadsW
import Derived.Test.YtekhoanjpnjaeaaLaw
import Derived.Test.YtekhoanjpnjaeaaFacts
import Derived.OpenShut
import Derived.SizedLaws
namespace Go.Proofs.Ytekhoanjpnjaeaa.tableReads
open Go.ChangeShapes Go.WideShapes Go.ChangeAt Go.RowKit

theorem oks : Try.f12.params.toList.all (fun t => Try.prog.readableRec t && decide (t < Try.prog.types.size)) = true := by kernel_rfl
theorem oks' : ∀ t ∈ Try.f12.params.toList, Try.prog.readableRec t = true ∧ t < Try.prog.types.size := fun t ht => by
  have h := List.all_eq_true.1 oks t ht
  rw [Bool.and_eq_true, decide_eq_true_eq] at h
  exact h
theorem kInPlace : (Rows.tableReadsRow.inPlace == Try.prog.inPlace 12) = true := by kernel_rfl
theorem kUnf : (Rows.tableReadsRow.unfollowed == Try.prog.unfollowed 12) = true := by kernel_rfl
theorem kRec : (Rows.tableReadsRow.recurses == Try.prog.recurses 12) = true := by kernel_rfl
theorem kNamed : (Rows.tableReadsRow.named == Try.prog.varsNamed 12) = true := by kernel_rfl
theorem closed : joinedFacts Try.prog 12 Try.f12 Rows.tableReadsSpec Rows.tableReadsRow = true :=
  closed_of (by as_aux_lemma => kernel_rfl) kLaid kMaps (by as_aux_lemma => kernel_rfl) (by as_aux_lemma => kernel_rfl) rfl kStops rfl kKnobs kInPlace kUnf kRec kNamed
    (by as_aux_lemma => kernel_rfl) (by as_aux_lemma => kernel_rfl) (by as_aux_lemma => kernel_rfl) (by as_aux_lemma => kernel_rfl) (by as_aux_lemma => kernel_rfl) rfl (by as_aux_lemma => kernel_rfl) (by as_aux_lemma => kernel_rfl) (by as_aux_lemma => kernel_rfl)
    kKeys rfl kHeard kEnter kLift kMake ⟨rfl, rfl⟩ rfl (by as_aux_lemma => kernel_rfl) (by as_aux_lemma => kernel_rfl)

set_option maxRecDepth 100000 in
theorem lifted (os : Os) (started : os.Started) (H : Type) (enc : TypeId × Value → H) :
    ReturnsInHanded {} Try.checked os 12 .any (Rows.tableReadsSpec.pre6 enc Try.prog Try.f12 Rows.tableReadsRow.domain false) (Rows.tableReadsSpec.post enc Try.prog Try.f12 false true false false) := by
  refine returnsInHanded_of_change_sized (C := Try.checked) kOwn started (by kernel_rfl) Try.func12
    (ChangeSpec.witness6 (enc := enc) (C := Try.checked) false ⟨#[], #[.slice none 0 0], []⟩ 8 (by kernel_rfl) (by kernel_rfl) (by kernel_rfl) (by kernel_rfl)) ?_
  intro W base args ds gs before hval0 hW hcnd hsz0 _
  have hval : ∀ (j : Nat) t v, Try.f12.params[j]? = some t → args[j]? = some v → Value.okWide Try.prog W .any base t v := hval0
  have hW' := hW
  obtain ⟨p, q, hA0, hV, rfl, hfz, hnd⟩ := hW
  have hA : DataW.TrodAll enc Try.prog W 0 (fun _ => true) true Try.f12.params.toList args.toList ds p := hA0
  have hsz : (DataW.weightsEach Try.prog (Try.f12.params.toList ++ Rows.tableReadsSpec.plain.varTypes Try.prog) (ds ++ gs)).all (· ≤ reachBytes) = true := hsz0
  rw [Try.params12] at hA hval hsz
  obtain ⟨v0, vs0, d0, ds0, p0, q0, hargs, rfl, rfl, h0, r0⟩ := trodAll_cons hA
  obtain ⟨rfl, rfl, rfl⟩ := trodAll_nil r0
  obtain rfl : args = #[v0] := by cases args; simp_all
  obtain ⟨rfl, rfl⟩ := trodVars_none hV
  obtain ⟨l, hby, hlen, hrow⟩ := open_bytes (j := 0) (hval 0 80 v0 rfl rfl) h0 hsz rfl rfl
  refine (reads_walk l v0 W hlen hby hrow).mono fun e W' ⟨he, hb⟩ => ?_
  subst he
  exact ⟨_, rfl, law_post kLaid oks' rfl rfl Try.underlying4 hW' rfl rfl rfl hb⟩

theorem over : Rows.tableReadsRow.holds Try.pinned (OpenSpec.ofChange Rows.tableReadsSpec) :=
  OpenClaim.holds_of_wide 12 Try.f12 rfl rfl rfl rfl rfl rfl rfl ⟨rfl, rfl, rfl, rfl, rfl⟩ rfl rfl rfl rfl rfl (by as_aux_lemma => kernel_rfl) Try.func12 closed
    (of_decide_eq_true (by as_aux_lemma => kernel_rfl)) (by unfold Func.isWrapper; first | (rw [if_pos (by decide +kernel)]; kernel_rfl) | (rw [if_neg (by decide +kernel)]; exact ⟨rfl, rfl⟩))
    (fun os started H enc _ => lifted os started H enc)

theorem proved : Rows.TableReadsSaid :=
  over
end Go.Proofs.Ytekhoanjpnjaeaa.tableReads
