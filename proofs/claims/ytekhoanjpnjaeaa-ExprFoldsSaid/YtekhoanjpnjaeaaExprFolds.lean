/- ExprFolds: Fold returns exactly the specified tree, for every list of nodes; no condition. -/
import Derived.Test.YtekhoanjpnjaeaaRows
import Derived.Test.YtekhoanjpnjaeaaAwake
import Derived.Test.YtekhoanjpnjaeaaBuildTop
import Derived.Test.YtekhoanjpnjaeaaConv
import Derived.Test.YtekhoanjpnjaeaaRefFoldTop
import Derived.Test.YtekhoanjpnjaeaaFoldTop
import Derived.Test.YtekhoanjpnjaeaaEqual
import Derived.Test.YtekhoanjpnjaeaaLaw
import Derived.Test.YtekhoanjpnjaeaaFacts
import Derived.OpenShut
namespace Go.Proofs.Ytekhoanjpnjaeaa.exprFolds
open Go.ChangeShapes Go.WideShapes Go.ChangeAt Go.RowKit

set_option maxRecDepth 100000 in
set_option maxHeartbeats 2000000 in
theorem walk (ns : List Nd) (v : Value) (w : World) (hl : ns.length ≤ maxLen) (hok : ∀ x ∈ ns, x.Ok) (hr : Row (fun _ => True) w 5 ns.length v (flat5 ns)) :
    Calls Try.prog 5 #[v] w fun e w' => e = .returned (.bool true) ∧ Below w.heap.size w w' := by
  have HL := Lib.hid (And.intro hl (And.intro hok hr))
  obtain ⟨a, cap, rfl, _⟩ := hr.shape
  clear hl hok hr
  go_enter Try.func5, Try.ntmps5
  go_wp2_with fail
  refine (awake_any _).mono ?_
  rintro e w1 ⟨rfl, hb⟩
  have HB := Lib.hid hb; clear hb
  go_wp2_with fail
  refine (Build_any (fun _ => True) ns (.slice a ns.length cap) w1 HL.out.1 HL.out.2.1 (HL.out.2.2.below HB.out)).mono ?_
  rintro e w2 ⟨hb2, c2, rfl, hf2, hr2⟩
  obtain ⟨a2, cap2, rfl⟩ := hr2.shape
  have HB2 := Lib.hid (HB.out.trans (hb2.mono HB.out.size)); clear hb2
  have HT := Lib.hid (And.intro hf2 hr2); clear hf2 hr2
  generalize bldTop ns = t at *
  unfold agg
  go_wp2_with fail
  generalize hw3 : w2.alloc (.cells #[.int .i64 t.op, .string t.name, .int .i64 t.n, .slice a2 t.args.length cap2] 36) = w3
  have hB3 : Below w2.heap.size w2 w3 := by rw [← hw3]; exact (Below.refl _ _).alloc (Nat.le_refl _) _
  have e0 : w3.heap[w2.heap.size]? = some (.cells #[.int .i64 t.op, .string t.name, .int .i64 t.n, .slice a2 t.args.length cap2] 36) := by rw [← hw3]; exact alloc_last _ _
  clear hw3
  have HB3 := Lib.hid (HB2.out.trans (hB3.mono HB2.out.size))
  have HT3 := Lib.hid (show Flds .i64 t ∧ RepS .i64 (fun _ => True) w3.drew 30 t.args (.slice a2 t.args.length cap2) from ⟨HT.out.1, ((HT.out.2.below hB3).drewN 1).mono (fun _ _ => trivial) (fun _ _ _ _ h => h) (Nat.le_refl _)⟩)
  have s0 : w3.drew.cell? ⟨w2.heap.size, 0, none⟩ = some (.int .i64 t.op) := by show w3.cell? _ = _; simp [World.cell?, e0]
  have s1 : w3.drew.cell? ⟨w2.heap.size, 1, none⟩ = some (.string t.name) := by show w3.cell? _ = _; simp [World.cell?, e0]
  have s2 : w3.drew.cell? ⟨w2.heap.size, 2, none⟩ = some (.int .i64 t.n) := by show w3.cell? _ = _; simp [World.cell?, e0]
  have s3 : w3.drew.cell? ⟨w2.heap.size, 3, none⟩ = some (.slice a2 t.args.length cap2) := by show w3.cell? _ = _; simp [World.cell?, e0]
  clear hB3 e0
  go_region_held3 (fun wx => wx.cell? ⟨w2.heap.size, 0, none⟩ = some (.int .i64 t.op) ∧ wx.cell? ⟨w2.heap.size, 1, none⟩ = some (.string t.name) ∧ wx.cell? ⟨w2.heap.size, 2, none⟩ = some (.int .i64 t.n) ∧ wx.cell? ⟨w2.heap.size, 3, none⟩ = some (.slice a2 t.args.length cap2)) (first | with_reducible exact ⟨s0, s1, s2, s3⟩ | with_reducible exact ⟨k0, k1, k2, k3⟩ | with_reducible exact ⟨m0, m1, m2, m3⟩ | with_reducible exact ⟨n0, n1, n2, n3⟩ | with_reducible exact ⟨p0, p1, p2, p3⟩ | with_reducible exact ⟨q0, q1, q2, q3⟩) (first | (go_at_call_of 27 a2; refine (conv_any 30 (fun _ => True) t (.slice a2 t.args.length cap2) w3.drew HT3.out.1 HT3.out.2).mono ?_; rintro e w4 ⟨hb4, c4, rfl, hr4⟩; obtain ⟨a4, cap4, rfl⟩ := hr4.shape; have k0 := below_cell hb4 s0; have k1 := below_cell hb4 s1; have k2 := below_cell hb4 s2; have k3 := below_cell hb4 s3; unfold agg) | (go_at_call 26; refine (Fold_any 30 (fun x => w3.drew.heap.size ≤ x) t (.slice a4 t.args.length cap4) w4 ⟨HT3.out.1.op, HT3.out.1.n, HT3.out.1.name, HT3.out.1.len⟩ hr4).mono ?_; rintro e w5 ⟨hb5, D5, c5, rfl, hf5, hr5⟩; obtain ⟨a5, cap5, rfl⟩ := hr5.shape; have m0 := below_cell hb5 k0; have m1 := below_cell hb5 k1; have m2 := below_cell hb5 k2; have m3 := below_cell hb5 k3; unfold agg) | (go_at_call_of 27 a6; refine (conv_any (30 + 1) (fun _ => True) (foldTop t) (.slice a6 (foldTop t).args.length cap6) w6 hf6 hr6).mono ?_; rintro e w7 ⟨hb7, c7, rfl, hr7⟩; obtain ⟨a7, cap7, rfl⟩ := hr7.shape; have p0 := below_cell hb7 n0; have p1 := below_cell hb7 n1; have p2 := below_cell hb7 n2; have p3 := below_cell hb7 n3; unfold agg) | (go_at_call 25; refine (equal_any D5 (fun _ => True) (fun _ => True) (30 + 1) (foldTop t) (.slice a5 (foldTop t).args.length cap5) (.slice a7 (foldTop t).args.length cap7) w7 hf5 (((hr5.mono (fun _ _ => trivial) (fun _ _ _ _ h => h) (Nat.le_refl _)).below hb6).below hb7) (hr7.mono (fun _ _ => trivial) (fun _ _ _ _ h => h) (Nat.le_refl _))).mono ?_; rintro e w8 ⟨rfl, hb8⟩; have q0 := below_cell hb8 p0; have q1 := below_cell hb8 p1; have q2 := below_cell hb8 p2; have q3 := below_cell hb8 p3) | (go_at_call 28; refine (rFold_any 30 (fun _ => True) t (.slice a2 t.args.length cap2) w5 HT3.out.1 ((HT3.out.2.below hb4).below hb5)).mono ?_; rintro e w6 ⟨hb6, c6, rfl, hf6, hr6⟩; obtain ⟨a6, cap6, rfl⟩ := hr6.shape; have n0 := below_cell hb6 m0; have n1 := below_cell hb6 m1; have n2 := below_cell hb6 m2; have n3 := below_cell hb6 m3; unfold agg))
  go_wp2_with fail
  go_ret
  have b3 := HB3.out.trans (below_drewN w3 1 _)
  have b4 := b3.trans (hb4.mono b3.size)
  have b5 := b4.trans (hb5.mono b4.size)
  have b6 := b5.trans (hb6.mono b5.size)
  have b7 := b6.trans (hb7.mono b6.size)
  exact ⟨rfl, b7.trans (hb8.mono b7.size)⟩

theorem oks : Try.f5.params.toList.all (fun t => Try.prog.readableRec t && decide (t < Try.prog.types.size)) = true := by kernel_rfl
theorem oks' : ∀ t ∈ Try.f5.params.toList, Try.prog.readableRec t = true ∧ t < Try.prog.types.size := fun t ht => by
  have h := List.all_eq_true.1 oks t ht
  rw [Bool.and_eq_true, decide_eq_true_eq] at h
  exact h
theorem kInPlace : (Rows.exprFoldsRow.inPlace == Try.prog.inPlace 5) = true := by kernel_rfl
theorem kUnf : (Rows.exprFoldsRow.unfollowed == Try.prog.unfollowed 5) = true := by kernel_rfl
theorem kRec : (Rows.exprFoldsRow.recurses == Try.prog.recurses 5) = true := by kernel_rfl
theorem kNamed : (Rows.exprFoldsRow.named == Try.prog.varsNamed 5) = true := by kernel_rfl
theorem closed : joinedFacts Try.prog 5 Try.f5 Rows.exprFoldsSpec Rows.exprFoldsRow = true :=
  closed_of (by as_aux_lemma => kernel_rfl) kLaid kMaps (by as_aux_lemma => kernel_rfl) (by as_aux_lemma => kernel_rfl) rfl kStops rfl kKnobs kInPlace kUnf kRec kNamed
    (by as_aux_lemma => kernel_rfl) (by as_aux_lemma => kernel_rfl) (by as_aux_lemma => kernel_rfl) (by as_aux_lemma => kernel_rfl) (by as_aux_lemma => kernel_rfl) rfl (by as_aux_lemma => kernel_rfl) (by as_aux_lemma => kernel_rfl) (by as_aux_lemma => kernel_rfl)
    kKeys rfl kHeard kEnter kLift kMake ⟨rfl, rfl⟩ rfl (by as_aux_lemma => kernel_rfl) (by as_aux_lemma => kernel_rfl)

set_option maxRecDepth 100000 in
theorem lifted (os : Os) (started : os.Started) (H : Type) (enc : TypeId × Value → H) :
    ReturnsInHanded {} Try.checked os 5 .any (Rows.exprFoldsSpec.pre6 enc Try.prog Try.f5 Rows.exprFoldsRow.domain false) (Rows.exprFoldsSpec.post enc Try.prog Try.f5 false true false false) := by
  refine returnsInHanded_of_change (C := Try.checked) kOwn started (by kernel_rfl) Try.func5
    (ChangeSpec.witness6 (enc := enc) (C := Try.checked) false ⟨#[], #[.slice none 0 0], []⟩ 8 (by kernel_rfl) (by kernel_rfl) (by kernel_rfl) (by kernel_rfl)) ?_
  intro W base args ds gs before hval0 hW hcnd _
  have hval : ∀ (j : Nat) t v, Try.f5.params[j]? = some t → args[j]? = some v → Value.okWide Try.prog W .any base t v := hval0
  have hW' := hW
  obtain ⟨p, q, hA0, hV, rfl, hfz, hnd⟩ := hW
  have hA : DataW.TrodAll enc Try.prog W 0 (fun _ => true) true Try.f5.params.toList args.toList ds p := hA0
  rw [Try.params5] at hA hval
  obtain ⟨v0, vs0, d0, ds0, p0, q0, hargs, rfl, rfl, h0, r0⟩ := trodAll_cons hA
  obtain ⟨rfl, rfl, rfl⟩ := trodAll_nil r0
  obtain rfl : args = #[v0] := by cases args; simp_all
  obtain ⟨rfl, rfl⟩ := trodVars_none hV
  obtain ⟨xs, hok, hxl, hrow⟩ := open_rows cells5 Nd.Ok 5 (fun _ => rfl) (by omega) Try.underlying33 cells208 node_elem (okWide_slice Try.underlying33 (hval 0 33 v0 rfl rfl)) h0
  rw [flat5_eq] at hrow
  refine (walk xs v0 W hxl hok hrow).mono fun e W' ⟨he, hb⟩ => ?_
  subst he
  exact ⟨_, rfl, law_post kLaid oks' rfl rfl Try.underlying4 hW' rfl rfl rfl hb⟩

theorem over : Rows.exprFoldsRow.holds Try.pinned (OpenSpec.ofChange Rows.exprFoldsSpec) :=
  OpenClaim.holds_of_wide 5 Try.f5 rfl rfl rfl rfl rfl rfl rfl ⟨rfl, rfl, rfl, rfl, rfl⟩ rfl rfl rfl rfl rfl (by as_aux_lemma => kernel_rfl) Try.func5 closed
    (of_decide_eq_true (by as_aux_lemma => kernel_rfl)) (by unfold Func.isWrapper; first | (rw [if_pos (by decide +kernel)]; kernel_rfl) | (rw [if_neg (by decide +kernel)]; exact ⟨rfl, rfl⟩))
    (fun os started H enc _ => lifted os started H enc)

theorem proved : Rows.ExprFoldsSaid :=
  over
end Go.Proofs.Ytekhoanjpnjaeaa.exprFolds
