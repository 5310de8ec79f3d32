/- ExprReads: the names and tables of any tree are the specified ones, for every list of nodes; no condition. -/
import Derived.Test.YtekhoanjpnjaeaaRows
import Derived.Test.YtekhoanjpnjaeaaAwake
import Derived.Test.YtekhoanjpnjaeaaConv
import Derived.Test.YtekhoanjpnjaeaaReads54
import Derived.Test.YtekhoanjpnjaeaaRReads
import Derived.Test.YtekhoanjpnjaeaaSEq
import Derived.Test.YtekhoanjpnjaeaaLaw
import Derived.Test.YtekhoanjpnjaeaaFacts
import Derived.OpenShut
namespace Go.Proofs.Ytekhoanjpnjaeaa.exprReads
open Go.ChangeShapes Go.WideShapes Go.ChangeAt Go.RowKit

set_option maxRecDepth 100000 in
set_option maxHeartbeats 2000000 in
theorem walk (ns : List Nd) (v : Value) (w : World) (hl : ns.length ≤ maxLen) (hok : ∀ x ∈ ns, x.Ok) (hr : Row (fun _ => True) w 5 ns.length v (flat5 ns)) :
    Calls Try.prog 16 #[v] w fun e w' => e = .returned (.bool true) ∧ Below w.heap.size w w' := by
  have HL := Lib.hid (And.intro hl (And.intro hok hr))
  obtain ⟨a, cap, rfl, _⟩ := hr.shape
  clear hl hok hr
  have HNA := Lib.hid (Nat.le_trans (bldTop_nms false ns) (show 60 ≤ 1000 by decide))
  have HNB := Lib.hid (Nat.le_trans (bldTop_nms true ns) (show 60 ≤ 1000 by decide))
  go_enter Try.func16, Try.ntmps16
  go_wp2_with fail
  refine (awake_any _).mono ?_
  rintro e w1 ⟨rfl, hb⟩
  have HB := Lib.hid hb; clear hb
  go_wp2_with fail
  refine (Build_any (fun _ => True) ns (.slice a ns.length cap) w1 HL.out.1 HL.out.2.1 (HL.out.2.2.below HB.out)).mono ?_
  rintro e w2 ⟨hb2, c2, rfl, hf2, hr2⟩
  obtain ⟨a2, cap2, rfl⟩ := hr2.shape
  have HB2 := Lib.hid (HB.out.trans (hb2.mono HB.out.size)); clear hb2
  have HT := Lib.hid (And.intro hf2 hr2); clear hf2 hr2
  generalize bldTop ns = t at *
  unfold agg
  go_wp2_with fail
  generalize hw3 : w2.alloc (.cells #[.int .i64 t.op, .string t.name, .int .i64 t.n, .slice a2 t.args.length cap2] 36) = w3
  have hB3 : Below w2.heap.size w2 w3 := by rw [← hw3]; exact (Below.refl _ _).alloc (Nat.le_refl _) _
  have e0 : w3.heap[w2.heap.size]? = some (.cells #[.int .i64 t.op, .string t.name, .int .i64 t.n, .slice a2 t.args.length cap2] 36) := by rw [← hw3]; exact alloc_last _ _
  clear hw3
  have HB3 := Lib.hid (HB2.out.trans (hB3.mono HB2.out.size))
  have HT3 := Lib.hid (show Flds .i64 t ∧ RepS .i64 (fun _ => True) w3 30 t.args (.slice a2 t.args.length cap2) from ⟨HT.out.1, (HT.out.2.below hB3).mono (fun _ _ => trivial) (fun _ _ _ _ h => h) (Nat.le_refl _)⟩)
  have s0 : w3.cell? ⟨w2.heap.size, 0, none⟩ = some (.int .i64 t.op) := by simp [World.cell?, e0]
  have s1 : w3.cell? ⟨w2.heap.size, 1, none⟩ = some (.string t.name) := by simp [World.cell?, e0]
  have s2 : w3.cell? ⟨w2.heap.size, 2, none⟩ = some (.int .i64 t.n) := by simp [World.cell?, e0]
  have s3 : w3.cell? ⟨w2.heap.size, 3, none⟩ = some (.slice a2 t.args.length cap2) := by simp [World.cell?, e0]
  clear hB3 e0
  have HFU := Lib.hid (show Flds .u8 t from ⟨HT3.out.1.op, HT3.out.1.n, HT3.out.1.name, HT3.out.1.len⟩)
  go_wp2_with fail
  refine (conv_any 30 (fun _ => True) t (.slice a2 t.args.length cap2) w3 HT3.out.1 HT3.out.2).mono ?_
  rintro e w4 ⟨hb4, c4, rfl, hr4⟩
  obtain ⟨a4, cap4, rfl⟩ := hr4.shape
  have HM4 := Lib.hid (more_of hb4)
  have HR4 := Lib.hid hr4
  have k0 := HM4.out.cell s0
  have k1 := HM4.out.cell s1
  have k2 := HM4.out.cell s2
  have k3 := HM4.out.cell s3
  clear hb4 hr4 s0 s1 s2 s3
  unfold agg
  go_wp2_with fail
  refine (reads_any (fun x => x < w4.heap.size) 30 t (.slice a4 t.args.length cap4) w4 HFU.out (HR4.out.mono2 (fun b o u _ hc => ⟨cell_lt hc, hc⟩) (Nat.le_refl _)) (fun _ h => h) HNA.out HNB.out).mono ?_
  rintro e w5 ⟨hm5, na, nc, ta, tc, rfl, hn5, ht5⟩
  have HM5 := Lib.hid hm5
  have HN5 := Lib.hid hn5
  have HT5 := Lib.hid ht5
  have q0 := HM5.out.cell k0
  have q1 := HM5.out.cell k1
  have q2 := HM5.out.cell k2
  have q3 := HM5.out.cell k3
  clear hm5 hn5 ht5 k0 k1 k2 k3
  go_wp2_with fail
  refine (rreads_any 30 (fun _ => True) t (.slice a2 t.args.length cap2) w5 HT3.out.1 (HT3.out.2.below (more_trans HM4.out HM5.out).below) HNA.out HNB.out).mono ?_
  rintro e w6 ⟨hm6, na', nc', ta', tc', rfl, hn6, ht6⟩
  have HM6 := Lib.hid hm6
  have HN6 := Lib.hid hn6
  have HT6 := Lib.hid ht6
  clear hm6 hn6 ht6 q0 q1 q2 q3
  have HLN := Lib.hid (show (setS (nms false t)).length ≤ 1000000 by have := setS_len (nms false t); have := HNA.out; omega)
  have HLT := Lib.hid (show (setS (nms true t)).length ≤ 1000000 by have := setS_len (nms true t); have := HNB.out; omega)
  have HN56 := Lib.hid (HN5.out.below HM6.out.below)
  have HT56 := Lib.hid (HT5.out.below HM6.out.below)
  clear HN5 HT5
  generalize setS (nms false t) = PA at *
  generalize setS (nms true t) = PB at *
  go_wp2_with fail
  refine (seqS_any (fun _ => True) (fun _ => True) PA _ _ w6 HLN.out HN56.out HN6.out).mono ?_
  rintro e w7 ⟨rfl, n7, hw7⟩
  have HM7 := Lib.hid (show More w6 w7 by rw [hw7]; exact more_of (below_drewN _ _ _))
  clear hw7
  go_wp2_with fail
  refine (seqS_any (fun _ => True) (fun _ => True) PB _ _ w7 HLT.out (HT56.out.below HM7.out.below) (HT6.out.below HM7.out.below)).mono ?_
  rintro e w8 ⟨rfl, n8, hw8⟩
  have HM8 := Lib.hid (show More w7 w8 by rw [hw8]; exact more_of (below_drewN _ _ _))
  clear hw8
  go_wp2_with fail
  go_ret
  have b3 := HB3.out
  exact ⟨rfl, b3.trans ((more_trans HM4.out (more_trans HM5.out (more_trans HM6.out (more_trans HM7.out HM8.out)))).below.mono b3.size)⟩

theorem oks : Try.f16.params.toList.all (fun t => Try.prog.readableRec t && decide (t < Try.prog.types.size)) = true := by kernel_rfl
theorem oks' : ∀ t ∈ Try.f16.params.toList, Try.prog.readableRec t = true ∧ t < Try.prog.types.size := fun t ht => by
  have h := List.all_eq_true.1 oks t ht
  rw [Bool.and_eq_true, decide_eq_true_eq] at h
  exact h
theorem kInPlace : (Rows.exprReadsRow.inPlace == Try.prog.inPlace 16) = true := by kernel_rfl
theorem kUnf : (Rows.exprReadsRow.unfollowed == Try.prog.unfollowed 16) = true := by kernel_rfl
theorem kRec : (Rows.exprReadsRow.recurses == Try.prog.recurses 16) = true := by kernel_rfl
theorem kNamed : (Rows.exprReadsRow.named == Try.prog.varsNamed 16) = true := by kernel_rfl
theorem closed : joinedFacts Try.prog 16 Try.f16 Rows.exprReadsSpec Rows.exprReadsRow = true :=
  closed_of (by as_aux_lemma => kernel_rfl) kLaid kMaps (by as_aux_lemma => kernel_rfl) (by as_aux_lemma => kernel_rfl) rfl kStops rfl kKnobs kInPlace kUnf kRec kNamed
    (by as_aux_lemma => kernel_rfl) (by as_aux_lemma => kernel_rfl) (by as_aux_lemma => kernel_rfl) (by as_aux_lemma => kernel_rfl) (by as_aux_lemma => kernel_rfl) rfl (by as_aux_lemma => kernel_rfl) (by as_aux_lemma => kernel_rfl) (by as_aux_lemma => kernel_rfl)
    kKeys rfl kHeard kEnter kLift kMake ⟨rfl, rfl⟩ rfl (by as_aux_lemma => kernel_rfl) (by as_aux_lemma => kernel_rfl)

set_option maxRecDepth 100000 in
theorem lifted (os : Os) (started : os.Started) (H : Type) (enc : TypeId × Value → H) :
    ReturnsInHanded {} Try.checked os 16 .any (Rows.exprReadsSpec.pre6 enc Try.prog Try.f16 Rows.exprReadsRow.domain false) (Rows.exprReadsSpec.post enc Try.prog Try.f16 false true false false) := by
  refine returnsInHanded_of_change (C := Try.checked) kOwn started (by kernel_rfl) Try.func16
    (ChangeSpec.witness6 (enc := enc) (C := Try.checked) false ⟨#[], #[.slice none 0 0], []⟩ 8 (by kernel_rfl) (by kernel_rfl) (by kernel_rfl) (by kernel_rfl)) ?_
  intro W base args ds gs before hval0 hW hcnd _
  have hval : ∀ (j : Nat) t v, Try.f16.params[j]? = some t → args[j]? = some v → Value.okWide Try.prog W .any base t v := hval0
  have hW' := hW
  obtain ⟨p, q, hA0, hV, rfl, hfz, hnd⟩ := hW
  have hA : DataW.TrodAll enc Try.prog W 0 (fun _ => true) true Try.f16.params.toList args.toList ds p := hA0
  rw [Try.params16] at hA hval
  obtain ⟨v0, vs0, d0, ds0, p0, q0, hargs, rfl, rfl, h0, r0⟩ := trodAll_cons hA
  obtain ⟨rfl, rfl, rfl⟩ := trodAll_nil r0
  obtain rfl : args = #[v0] := by cases args; simp_all
  obtain ⟨rfl, rfl⟩ := trodVars_none hV
  obtain ⟨xs, hok, hxl, hrow⟩ := open_rows cells5 Nd.Ok 5 (fun _ => rfl) (by omega) Try.underlying33 cells208 node_elem (okWide_slice Try.underlying33 (hval 0 33 v0 rfl rfl)) h0
  rw [flat5_eq] at hrow
  refine (walk xs v0 W hxl hok hrow).mono fun e W' ⟨he, hb⟩ => ?_
  subst he
  exact ⟨_, rfl, law_post kLaid oks' rfl rfl Try.underlying4 hW' rfl rfl rfl hb⟩

theorem over : Rows.exprReadsRow.holds Try.pinned (OpenSpec.ofChange Rows.exprReadsSpec) :=
  OpenClaim.holds_of_wide 16 Try.f16 rfl rfl rfl rfl rfl rfl rfl ⟨rfl, rfl, rfl, rfl, rfl⟩ rfl rfl rfl rfl rfl (by as_aux_lemma => kernel_rfl) Try.func16 closed
    (of_decide_eq_true (by as_aux_lemma => kernel_rfl)) (by unfold Func.isWrapper; first | (rw [if_pos (by decide +kernel)]; kernel_rfl) | (rw [if_neg (by decide +kernel)]; exact ⟨rfl, rfl⟩))
    (fun os started H enc _ => lifted os started H enc)

theorem proved : Rows.ExprReadsSaid :=
  over
end Go.Proofs.Ytekhoanjpnjaeaa.exprReads
