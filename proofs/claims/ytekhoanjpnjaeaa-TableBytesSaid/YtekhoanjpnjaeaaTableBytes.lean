/- TableBytes: the encoding of any table, and what is read of it, for all scripts, numbers and bytes; no condition. -/
import Derived.Test.YtekhoanjpnjaeaaRows
import Derived.Test.YtekhoanjpnjaeaaBytesW
import Derived.Test.YtekhoanjpnjaeaaOpenT
import Derived.Test.YtekhoanjpnjaeaaLaw
import Derived.Test.YtekhoanjpnjaeaaFacts
import Derived.OpenShut
import Derived.SizedLaws
namespace Go.Proofs.Ytekhoanjpnjaeaa.tableBytes
open Go.ChangeShapes Go.WideShapes Go.ChangeAt Go.RowKit

theorem oks : Try.f11.params.toList.all (fun t => Try.prog.readableRec t && decide (t < Try.prog.types.size)) = true := by kernel_rfl
theorem oks' : ∀ t ∈ Try.f11.params.toList, Try.prog.readableRec t = true ∧ t < Try.prog.types.size := fun t ht => by
  have h := List.all_eq_true.1 oks t ht
  rw [Bool.and_eq_true, decide_eq_true_eq] at h
  exact h
theorem kInPlace : (Rows.tableBytesRow.inPlace == Try.prog.inPlace 11) = true := by kernel_rfl
theorem kUnf : (Rows.tableBytesRow.unfollowed == Try.prog.unfollowed 11) = true := by kernel_rfl
theorem kRec : (Rows.tableBytesRow.recurses == Try.prog.recurses 11) = true := by kernel_rfl
theorem kNamed : (Rows.tableBytesRow.named == Try.prog.varsNamed 11) = true := by kernel_rfl
theorem closed : joinedFacts Try.prog 11 Try.f11 Rows.tableBytesSpec Rows.tableBytesRow = true :=
  closed_of (by as_aux_lemma => kernel_rfl) kLaid kMaps (by as_aux_lemma => kernel_rfl) (by as_aux_lemma => kernel_rfl) rfl kStops rfl kKnobs kInPlace kUnf kRec kNamed
    (by as_aux_lemma => kernel_rfl) (by as_aux_lemma => kernel_rfl) (by as_aux_lemma => kernel_rfl) (by as_aux_lemma => kernel_rfl) (by as_aux_lemma => kernel_rfl) rfl (by as_aux_lemma => kernel_rfl) (by as_aux_lemma => kernel_rfl) (by as_aux_lemma => kernel_rfl)
    kKeys rfl kHeard kEnter kLift kMake ⟨rfl, rfl⟩ rfl (by as_aux_lemma => kernel_rfl) (by as_aux_lemma => kernel_rfl)

set_option maxRecDepth 100000 in
theorem lifted (os : Os) (started : os.Started) (H : Type) (enc : TypeId × Value → H) :
    ReturnsInHanded {} Try.checked os 11 .any (Rows.tableBytesSpec.pre6 enc Try.prog Try.f11 Rows.tableBytesRow.domain false) (Rows.tableBytesSpec.post enc Try.prog Try.f11 false true false false) := by
  refine returnsInHanded_of_change_sized (C := Try.checked) kOwn started (by kernel_rfl) Try.func11
    (ChangeSpec.witness6 (enc := enc) (C := Try.checked) false ⟨#[], #[.slice none 0 0, .int .u8 0, .slice none 0 0], []⟩ 8 (by kernel_rfl) (by kernel_rfl) (by kernel_rfl) (by kernel_rfl)) ?_
  intro W base args ds gs before hval0 hW hcnd hsz0 _
  have hval : ∀ (j : Nat) t v, Try.f11.params[j]? = some t → args[j]? = some v → Value.okWide Try.prog W .any base t v := hval0
  have hW' := hW
  obtain ⟨p, q, hA0, hV, rfl, hfz, hnd⟩ := hW
  have hA : DataW.TrodAll enc Try.prog W 0 (fun _ => true) true Try.f11.params.toList args.toList ds p := hA0
  have hsz : (DataW.weightsEach Try.prog (Try.f11.params.toList ++ Rows.tableBytesSpec.plain.varTypes Try.prog) (ds ++ gs)).all (· ≤ reachBytes) = true := hsz0
  rw [Try.params11] at hA hval hsz
  obtain ⟨v0, vs0, d0, ds0, p0, q0, hargs, rfl, rfl, h0, r0⟩ := trodAll_cons hA
  obtain ⟨v1, vs1, d1, ds1, p1, q1, rfl, rfl, rfl, h1, r1⟩ := trodAll_cons r0
  obtain ⟨v2, vs2, d2, ds2, p2, q2, rfl, rfl, rfl, h2, r2⟩ := trodAll_cons r1
  obtain ⟨rfl, rfl, rfl⟩ := trodAll_nil r2
  obtain rfl : args = #[v0, v1, v2] := by cases args; simp_all
  obtain ⟨rfl, rfl⟩ := trodVars_none hV
  obtain ⟨l, hok, hxl, hrow⟩ := open_rows opC OpD.ok 4 (fun _ => rfl) (by omega) Try.underlying46 cells145 op_elem (okWide_slice Try.underlying46 (hval 0 46 v0 rfl rfl)) h0
  obtain ⟨a, rfl, rfl, rfl, hw1⟩ := open_int Try.underlying5 (hval 1 5 v1 rfl rfl) h1
  obtain ⟨m, hby, hlen, hrowm⟩ := open_bytes (j := 2) (hval 2 80 v2 rfl rfl) h2 hsz rfl rfl
  refine (bytes_walk l v0 a m v2 W hxl hok (wf8 hw1).1 (by have := (wf8 hw1).2; omega) hlen hby hrow hrowm).mono fun e W' ⟨he, hb⟩ => ?_
  subst he
  exact ⟨_, rfl, law_post kLaid oks' rfl rfl Try.underlying4 hW' rfl rfl rfl hb⟩

theorem over : Rows.tableBytesRow.holds Try.pinned (OpenSpec.ofChange Rows.tableBytesSpec) :=
  OpenClaim.holds_of_wide 11 Try.f11 rfl rfl rfl rfl rfl rfl rfl ⟨rfl, rfl, rfl, rfl, rfl⟩ rfl rfl rfl rfl rfl (by as_aux_lemma => kernel_rfl) Try.func11 closed
    (of_decide_eq_true (by as_aux_lemma => kernel_rfl)) (by unfold Func.isWrapper; first | (rw [if_pos (by decide +kernel)]; kernel_rfl) | (rw [if_neg (by decide +kernel)]; exact ⟨rfl, rfl⟩))
    (fun os started H enc _ => lifted os started H enc)

theorem proved : Rows.TableBytesSaid :=
  over
end Go.Proofs.Ytekhoanjpnjaeaa.tableBytes
