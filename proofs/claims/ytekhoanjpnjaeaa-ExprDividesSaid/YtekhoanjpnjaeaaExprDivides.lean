/- ExprDivides: quotient and remainder of all numbers: a is b times the quotient plus the remainder, with the sign of a; no condition. -/
import Derived.Test.YtekhoanjpnjaeaaRows
import Derived.Test.YtekhoanjpnjaeaaAwake
import Derived.Test.YtekhoanjpnjaeaaRefOps
import Derived.Test.YtekhoanjpnjaeaaLaw
import Derived.Test.YtekhoanjpnjaeaaFacts
import Derived.OpenShut
namespace Go.Proofs.Ytekhoanjpnjaeaa.exprDivides
open Go.ChangeShapes Go.WideShapes Go.ChangeAt Go.RowKit

theorem back (a b : Int) (h0 : -9223372036854775808 ≤ a) (h1 : a ≤ 9223372036854775807) (hb1 : b ≠ -1) : wrap64 (wrap64 (b * wrap64 (a.tdiv b)) + a.tmod b) = a := by
  obtain ⟨t0, t1⟩ := tdiv_range a b h0 h1 hb1
  rw [w64_in t0 t1]
  have e : b * a.tdiv b = a - a.tmod b := by have := Int.mul_tdiv_add_tmod a b; omega
  rw [e]
  have : wrap64 (wrap64 (a - a.tmod b) + a.tmod b) = wrap64 a := w64_congr (by unfold wrap64; omega)
  rw [this]; exact w64_in h0 h1
theorem sign (a b : Int) (hr : a.tmod b ≠ 0) : (decide (a.tmod b < 0) == decide (a < 0)) = true := by
  by_cases ha : 0 ≤ a
  · have := Int.tmod_nonneg b ha
    have e1 : decide (a.tmod b < 0) = false := by simp; omega
    have e2 : decide (a < 0) = false := by simp; omega
    rw [e1, e2]; rfl
  · have : 0 ≤ (-a).tmod b := Int.tmod_nonneg b (by omega)
    rw [Int.neg_tmod] at this
    have e1 : decide (a.tmod b < 0) = true := by simp; omega
    have e2 : decide (a < 0) = true := by simp; omega
    rw [e1, e2]; rfl

theorem walk (a b : Int) (w1 : (Lit.int .i64 a).wf = true) (w2 : (Lit.int .i64 b).wf = true) (w : World) :
    Calls Try.prog 4 #[.int .i64 a, .int .i64 b] w fun e w' => e = .returned (.bool true) ∧ Below w.heap.size w w' := by
  have H1 := Lib.hid (wf64 w1)
  have H2 := Lib.hid (wf64 w2)
  clear w1 w2
  by_cases hb : b = 0
  · subst hb
    go_enter Try.func4, Try.ntmps4
    go_wp2_with fail
    refine (awake_any _).mono ?_
    rintro e w1 ⟨rfl, hb⟩
    have HB := Lib.hid hb; clear hb
    go_wp2_with fail
    refine (binary_any 12 a 0 _).mono ?_
    rw [show binV 12 a 0 = (0, 0) from rfl]
    rintro e w' ⟨rfl, rfl⟩
    go_wp2_with fail
    refine (binary_any 13 a 0 _).mono ?_
    rw [show binV 13 a 0 = (0, 0) from rfl]
    rintro e w' ⟨rfl, rfl⟩
    go_wp2_with fail
    go_ret
    exact ⟨rfl, HB.out⟩
  have hb0 : (b == 0) = false := by simpa using hb
  by_cases hm : b = -1
  · subst hm
    clear hb
    go_enter Try.func4, Try.ntmps4
    go_wp2_with fail
    refine (awake_any _).mono ?_
    rintro e w1 ⟨rfl, hb⟩
    have HB := Lib.hid hb; clear hb
    go_wp2_with fail
    refine (binary_any 12 a (-1) _).mono ?_
    rw [show binV 12 a (-1) = (wrap64 (-a), 0) from rfl]
    rintro e w' ⟨rfl, rfl⟩
    go_wp2_with fail
    refine (binary_any 13 a (-1) _).mono ?_
    rw [show binV 13 a (-1) = (0, 0) from rfl]
    rintro e w' ⟨rfl, rfl⟩
    go_wp2_with fail
    go_ret
    exact ⟨rfl, HB.out⟩
  · have hm0 : (b == -1) = false := by simpa using hm
    have hv1 : binV 12 a b = (wrap64 (a.tdiv b), 0) := by show (divV 12 a b, (0 : Int)) = _; rw [div12 a b hb]
    have hv2 : binV 13 a b = (a.tmod b, 0) := by show (divV 13 a b, (0 : Int)) = _; rw [div13 a b hb]
    have hbk : (wrap64 (wrap64 (b * wrap64 (a.tdiv b)) + a.tmod b) == a) = true := by rw [back a b H1.out.1 H1.out.2 hm]; simp
    have HV1 := Lib.hid hv1
    have HV2 := Lib.hid hv2
    clear hv1 hv2
    have HBN := Lib.hid hb; clear hb hm
    by_cases hr : a.tmod b = 0
    · have hr' : (a.tmod b == 0) = true := by simp [hr]
      have HR := Lib.hid hr; clear hr
      go_enter Try.func4, Try.ntmps4
      go_wp2_with fail
      refine (awake_any _).mono ?_
      rintro e w1 ⟨rfl, hb⟩
      have HB := Lib.hid hb; clear hb
      go_wp2_with fail
      refine (binary_any 12 a b _).mono ?_
      rw [HV1.out]
      rintro e w' ⟨rfl, rfl⟩
      go_wp2_with fail
      refine (binary_any 13 a b _).mono ?_
      rw [HV2.out]
      rintro e w' ⟨rfl, rfl⟩
      go_wp2_with fail
      all_goals first | (exact absurd ‹b = 0› HBN.out) | (go_ret; exact ⟨rfl, HB.out⟩)
    · have hr' : (a.tmod b == 0) = false := by simpa using hr
      have hs := sign a b hr
      clear hr
      go_enter Try.func4, Try.ntmps4
      go_wp2_with fail
      refine (awake_any _).mono ?_
      rintro e w1 ⟨rfl, hb⟩
      have HB := Lib.hid hb; clear hb
      go_wp2_with fail
      refine (binary_any 12 a b _).mono ?_
      rw [HV1.out]
      rintro e w' ⟨rfl, rfl⟩
      go_wp2_with fail
      refine (binary_any 13 a b _).mono ?_
      rw [HV2.out]
      rintro e w' ⟨rfl, rfl⟩
      go_wp2_with fail
      all_goals first | (exact absurd ‹b = 0› HBN.out) | (go_ret; exact ⟨rfl, HB.out⟩)

theorem oks : Try.f4.params.toList.all (fun t => Try.prog.readableRec t && decide (t < Try.prog.types.size)) = true := by kernel_rfl
theorem oks' : ∀ t ∈ Try.f4.params.toList, Try.prog.readableRec t = true ∧ t < Try.prog.types.size := fun t ht => by
  have h := List.all_eq_true.1 oks t ht
  rw [Bool.and_eq_true, decide_eq_true_eq] at h
  exact h
theorem kInPlace : (Rows.exprDividesRow.inPlace == Try.prog.inPlace 4) = true := by kernel_rfl
theorem kUnf : (Rows.exprDividesRow.unfollowed == Try.prog.unfollowed 4) = true := by kernel_rfl
theorem kRec : (Rows.exprDividesRow.recurses == Try.prog.recurses 4) = true := by kernel_rfl
theorem kNamed : (Rows.exprDividesRow.named == Try.prog.varsNamed 4) = true := by kernel_rfl
theorem closed : joinedFacts Try.prog 4 Try.f4 Rows.exprDividesSpec Rows.exprDividesRow = true :=
  closed_of (by as_aux_lemma => kernel_rfl) kLaid kMaps (by as_aux_lemma => kernel_rfl) (by as_aux_lemma => kernel_rfl) rfl kStops rfl kKnobs kInPlace kUnf kRec kNamed
    (by as_aux_lemma => kernel_rfl) (by as_aux_lemma => kernel_rfl) (by as_aux_lemma => kernel_rfl) (by as_aux_lemma => kernel_rfl) (by as_aux_lemma => kernel_rfl) rfl (by as_aux_lemma => kernel_rfl) (by as_aux_lemma => kernel_rfl) (by as_aux_lemma => kernel_rfl)
    kKeys rfl kHeard kEnter kLift kMake ⟨rfl, rfl⟩ rfl (by as_aux_lemma => kernel_rfl) (by as_aux_lemma => kernel_rfl)

set_option maxRecDepth 100000 in
theorem lifted (os : Os) (started : os.Started) (H : Type) (enc : TypeId × Value → H) :
    ReturnsInHanded {} Try.checked os 4 .any (Rows.exprDividesSpec.pre6 enc Try.prog Try.f4 Rows.exprDividesRow.domain false) (Rows.exprDividesSpec.post enc Try.prog Try.f4 false true false false) := by
  refine returnsInHanded_of_change (C := Try.checked) kOwn started (by kernel_rfl) Try.func4
    (ChangeSpec.witness6 (enc := enc) (C := Try.checked) false ⟨#[], #[.int .i64 0, .int .i64 0], []⟩ 8 (by kernel_rfl) (by kernel_rfl) (by kernel_rfl) (by kernel_rfl)) ?_
  intro W base args ds gs before hval0 hW hcnd _
  have hval : ∀ (j : Nat) t v, Try.f4.params[j]? = some t → args[j]? = some v → Value.okWide Try.prog W .any base t v := hval0
  have hW' := hW
  obtain ⟨p, q, hA0, hV, rfl, hfz, hnd⟩ := hW
  have hA : DataW.TrodAll enc Try.prog W 0 (fun _ => true) true Try.f4.params.toList args.toList ds p := hA0
  rw [Try.params4] at hA hval
  obtain ⟨v0, vs0, d0, ds0, p0, q0, hargs, rfl, rfl, h0, r0⟩ := trodAll_cons hA
  obtain ⟨v1, vs1, d1, ds1, p1, q1, rfl, rfl, rfl, h1, r1⟩ := trodAll_cons r0
  obtain ⟨rfl, rfl, rfl⟩ := trodAll_nil r1
  obtain rfl : args = #[v0, v1] := by cases args; simp_all
  obtain ⟨rfl, rfl⟩ := trodVars_none hV
  obtain ⟨a0, rfl, rfl, rfl, w0⟩ := open_int Try.underlying2 (hval 0 2 v0 rfl rfl) h0
  obtain ⟨a1, rfl, rfl, rfl, w1⟩ := open_int Try.underlying2 (hval 1 2 v1 rfl rfl) h1
  refine (walk a0 a1 w0 w1 W).mono fun e W' ⟨he, hb⟩ => ?_
  subst he
  exact ⟨_, rfl, law_post kLaid oks' rfl rfl Try.underlying4 hW' rfl rfl rfl hb⟩

theorem over : Rows.exprDividesRow.holds Try.pinned (OpenSpec.ofChange Rows.exprDividesSpec) :=
  OpenClaim.holds_of_wide 4 Try.f4 rfl rfl rfl rfl rfl rfl rfl ⟨rfl, rfl, rfl, rfl, rfl⟩ rfl rfl rfl rfl rfl (by as_aux_lemma => kernel_rfl) Try.func4 closed
    (of_decide_eq_true (by as_aux_lemma => kernel_rfl)) (by unfold Func.isWrapper; first | (rw [if_pos (by decide +kernel)]; kernel_rfl) | (rw [if_neg (by decide +kernel)]; exact ⟨rfl, rfl⟩))
    (fun os started H enc _ => lifted os started H enc)

theorem proved : Rows.ExprDividesSaid :=
  over
end Go.Proofs.Ytekhoanjpnjaeaa.exprDivides
