/- RankBest: the causes with the greatest degree, in their order, for all lists of causes; no condition. -/
import Derived.Test.YtemeppfikpafbaaGreatRows
import Derived.Test.YtemeppfikpafbaaGreatRankBestW
import Derived.Test.YtemeppfikpafbaaGreatOpenR
import Derived.Test.YtemeppfikpafbaaGreatLaw
import Derived.Test.YtemeppfikpafbaaGreatFacts
import Derived.OpenShut
import Derived.SizedLaws
namespace Go.Proofs.YtemeppfikpafbaaGreat.rankBest
open Go.ChangeShapes Go.WideShapes Go.ChangeAt Go.RowKit

theorem oks : Tryz.f3.params.toList.all (fun t => Tryz.prog.readableRec t && decide (t < Tryz.prog.types.size)) = true := by kernel_rfl
theorem oks' : ∀ t ∈ Tryz.f3.params.toList, Tryz.prog.readableRec t = true ∧ t < Tryz.prog.types.size := fun t ht => by
  have h := List.all_eq_true.1 oks t ht
  rw [Bool.and_eq_true, decide_eq_true_eq] at h
  exact h
theorem kInPlace : (Rows.rankBestRow.inPlace == Tryz.prog.inPlace 3) = true := by kernel_rfl
theorem kUnf : (Rows.rankBestRow.unfollowed == Tryz.prog.unfollowed 3) = true := by kernel_rfl
theorem kRec : (Rows.rankBestRow.recurses == Tryz.prog.recurses 3) = true := by kernel_rfl
theorem kNamed : (Rows.rankBestRow.named == Tryz.prog.varsNamed 3) = true := by kernel_rfl
theorem closed : joinedFacts Tryz.prog 3 Tryz.f3 Rows.rankBestSpec Rows.rankBestRow = true :=
  closed_of (by as_aux_lemma => kernel_rfl) kLaid kMaps (by as_aux_lemma => kernel_rfl) (by as_aux_lemma => kernel_rfl) rfl kStops rfl kKnobs kInPlace kUnf kRec kNamed
    (by as_aux_lemma => kernel_rfl) (by as_aux_lemma => kernel_rfl) (by as_aux_lemma => kernel_rfl) (by as_aux_lemma => kernel_rfl) (by as_aux_lemma => kernel_rfl) rfl (by as_aux_lemma => kernel_rfl) (by as_aux_lemma => kernel_rfl) (by as_aux_lemma => kernel_rfl)
    kKeys rfl kHeard kEnter kLift kMake ⟨rfl, rfl⟩ rfl (by as_aux_lemma => kernel_rfl) (by as_aux_lemma => kernel_rfl)

set_option maxRecDepth 100000 in
theorem lifted (os : Os) (started : os.Started) (H : Type) (enc : TypeId × Value → H) :
    ReturnsInHanded {} Tryz.checked os 3 .any (Rows.rankBestSpec.pre6 enc Tryz.prog Tryz.f3 Rows.rankBestRow.domain false) (Rows.rankBestSpec.post enc Tryz.prog Tryz.f3 false true false false) := by
  refine returnsInHanded_of_change (C := Tryz.checked) kOwn started (by kernel_rfl) Tryz.func3
    (ChangeSpec.witness6 (enc := enc) (C := Tryz.checked) false ⟨#[], #[.slice none 0 0], []⟩ 8 (by kernel_rfl) (by kernel_rfl) (by kernel_rfl) (by kernel_rfl)) ?_
  intro W base args ds gs before hval0 hW hcnd _
  have hval : ∀ (j : Nat) t v, Tryz.f3.params[j]? = some t → args[j]? = some v → Value.okWide Tryz.prog W .any base t v := hval0
  have hW' := hW
  obtain ⟨p, q, hA0, hV, rfl, hfz, hnd⟩ := hW
  have hA : DataW.TrodAll enc Tryz.prog W 0 (fun _ => true) true Tryz.f3.params.toList args.toList ds p := hA0
  rw [Tryz.params3] at hA hval
  obtain ⟨v0, vs0, d0, ds0, p0, q0, hargs, rfl, rfl, h0, r0⟩ := trodAll_cons hA
  obtain ⟨rfl, rfl, rfl⟩ := trodAll_nil r0
  obtain rfl : args = #[v0] := by cases args; simp_all
  obtain ⟨rfl, rfl⟩ := trodVars_none hV
  obtain ⟨l0, hin0⟩ := open_ivs (okWide_slice Tryz.underlying22 (hval 0 22 v0 rfl rfl)) h0
  refine (rankBest_walk l0 v0 W hin0).mono fun e W' ⟨he, hb⟩ => ?_
  subst he
  exact ⟨_, rfl, law_post kLaid oks' rfl rfl Tryz.underlying4 hW' rfl rfl rfl hb⟩

theorem over : Rows.rankBestRow.holds Tryz.pinned (OpenSpec.ofChange Rows.rankBestSpec) :=
  OpenClaim.holds_of_wide 3 Tryz.f3 rfl rfl rfl rfl rfl rfl rfl ⟨rfl, rfl, rfl, rfl, rfl⟩ rfl rfl rfl rfl rfl (by as_aux_lemma => kernel_rfl) Tryz.func3 closed
    (of_decide_eq_true (by as_aux_lemma => kernel_rfl)) (by unfold Func.isWrapper; first | (rw [if_pos (by decide +kernel)]; kernel_rfl) | (rw [if_neg (by decide +kernel)]; exact ⟨rfl, rfl⟩))
    (fun os started H enc _ => lifted os started H enc)

theorem proved : Rows.RankBestSaid :=
  over
end Go.Proofs.YtemeppfikpafbaaGreat.rankBest
