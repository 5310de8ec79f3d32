/- VerdictCombines: Combine counts the lists that contain a cause, and orders the results; the order of the lists does not matter, for all lists of raw causes; no condition. -/
import Derived.Test.YtemeppfikpafbaaGreatRows
import Derived.Test.YtemeppfikpafbaaGreatVcbc
import Derived.OpenShut
import Derived.SizedLaws
namespace Go.Proofs.YtemeppfikpafbaaGreat.verdictCombines
open Go.ChangeShapes Go.WideShapes Go.ChangeAt Go.RowKit

theorem oks : Tryz.f4.params.toList.all (fun t => Tryz.prog.readableRec t && decide (t < Tryz.prog.types.size)) = true := by kernel_rfl
theorem oks' : ∀ t ∈ Tryz.f4.params.toList, Tryz.prog.readableRec t = true ∧ t < Tryz.prog.types.size := fun t ht => by
  have h := List.all_eq_true.1 oks t ht
  rw [Bool.and_eq_true, decide_eq_true_eq] at h
  exact h
theorem kInPlace : (Rows.verdictCombinesRow.inPlace == Tryz.prog.inPlace 4) = true := by kernel_rfl
theorem kUnf : (Rows.verdictCombinesRow.unfollowed == Tryz.prog.unfollowed 4) = true := by kernel_rfl
theorem kRec : (Rows.verdictCombinesRow.recurses == Tryz.prog.recurses 4) = true := by kernel_rfl
theorem kNamed : (Rows.verdictCombinesRow.named == Tryz.prog.varsNamed 4) = true := by kernel_rfl
theorem closed : joinedFacts Tryz.prog 4 Tryz.f4 Rows.verdictCombinesSpec Rows.verdictCombinesRow = true :=
  closed_of (by as_aux_lemma => kernel_rfl) kLaid kMaps (by as_aux_lemma => kernel_rfl) (by as_aux_lemma => kernel_rfl) rfl kStops rfl kKnobs kInPlace kUnf kRec kNamed
    (by as_aux_lemma => kernel_rfl) (by as_aux_lemma => kernel_rfl) (by as_aux_lemma => kernel_rfl) (by as_aux_lemma => kernel_rfl) (by as_aux_lemma => kernel_rfl) rfl (by as_aux_lemma => kernel_rfl) (by as_aux_lemma => kernel_rfl) (by as_aux_lemma => kernel_rfl)
    kKeys rfl kHeard kEnter kLift kMake ⟨rfl, rfl⟩ rfl (by as_aux_lemma => kernel_rfl) (by as_aux_lemma => kernel_rfl)

set_option maxRecDepth 100000 in
theorem lifted (os : Os) (started : os.Started) (H : Type) (enc : TypeId × Value → H) :
    ReturnsInHanded {} Tryz.checked os 4 .any (Rows.verdictCombinesSpec.pre6 enc Tryz.prog Tryz.f4 Rows.verdictCombinesRow.domain false) (Rows.verdictCombinesSpec.post enc Tryz.prog Tryz.f4 false true false false) := by
  refine returnsInHanded_of_change (C := Tryz.checked) kOwn started (by kernel_rfl) Tryz.func4
    (ChangeSpec.witness6 (enc := enc) (C := Tryz.checked) false ⟨#[], #[.slice none 0 0, .bool false, .int .u8 0], []⟩ 8 (by kernel_rfl) (by kernel_rfl) (by kernel_rfl) (by kernel_rfl)) ?_
  intro W base args ds gs before hval0 hW hcnd _
  have hval : ∀ (j : Nat) t v, Tryz.f4.params[j]? = some t → args[j]? = some v → Value.okWide Tryz.prog W .any base t v := hval0
  have hW' := hW
  obtain ⟨p, q, hA0, hV, rfl, hfz, hnd⟩ := hW
  have hA : DataW.TrodAll enc Tryz.prog W 0 (fun _ => true) true Tryz.f4.params.toList args.toList ds p := hA0
  rw [Tryz.params4] at hA hval
  obtain ⟨v0, vs0, d0, ds0, p0, q0, hargs, rfl, rfl, h0, r0⟩ := trodAll_cons hA
  obtain ⟨v1, vs1, d1, ds1, p1, q1, rfl, rfl, rfl, h1, r1⟩ := trodAll_cons r0
  obtain ⟨v2, vs2, d2, ds2, p2, q2, rfl, rfl, rfl, h2, r2⟩ := trodAll_cons r1
  obtain ⟨rfl, rfl, rfl⟩ := trodAll_nil r2
  obtain rfl : args = #[v0, v1, v2] := by cases args; simp_all
  obtain ⟨rfl, rfl⟩ := trodVars_none hV
  obtain ⟨rs0, hrs0⟩ := open_raws (okWide_slice Tryz.underlying36 (hval 0 36 v0 rfl rfl)) h0
  obtain ⟨b1, rfl, rfl, rfl⟩ := open_bool Tryz.underlying4 (hval 1 4 v1 rfl rfl) h1
  obtain ⟨n2, rfl, rfl, rfl, hw2⟩ := open_int Tryz.underlying5 (hval 2 5 v2 rfl rfl) h2
  obtain ⟨k2, rfl, hk2⟩ := u8_natV hw2
  refine (combines_walk rs0 v0 b1 k2 W hrs0 hk2).mono fun e W' ⟨he, hb⟩ => ?_
  subst he
  exact ⟨_, rfl, law_post kLaid oks' rfl rfl Tryz.underlying4 hW' rfl rfl rfl hb⟩

theorem over : Rows.verdictCombinesRow.holds Tryz.pinned (OpenSpec.ofChange Rows.verdictCombinesSpec) :=
  OpenClaim.holds_of_wide 4 Tryz.f4 rfl rfl rfl rfl rfl rfl rfl ⟨rfl, rfl, rfl, rfl, rfl⟩ rfl rfl rfl rfl rfl (by as_aux_lemma => kernel_rfl) Tryz.func4 closed
    (of_decide_eq_true (by as_aux_lemma => kernel_rfl)) (by unfold Func.isWrapper; first | (rw [if_pos (by decide +kernel)]; kernel_rfl) | (rw [if_neg (by decide +kernel)]; exact ⟨rfl, rfl⟩))
    (fun os started H enc _ => lifted os started H enc)

theorem proved : Rows.VerdictCombinesSaid :=
  over
end Go.Proofs.YtemeppfikpafbaaGreat.verdictCombines
