/- TablePlays: every table that a script of changes makes has its contents, for all scripts and all keys; no condition. -/
import Derived.Test.YtekhoanjpnjaeaaRows
import Derived.Test.YtekhoanjpnjaeaaPlay
import Derived.Test.YtekhoanjpnjaeaaOpenT
import Derived.Test.YtekhoanjpnjaeaaLaw
import Derived.Test.YtekhoanjpnjaeaaFacts
import Derived.OpenShut
namespace Go.Proofs.Ytekhoanjpnjaeaa.tablePlays
open Go.ChangeShapes Go.WideShapes Go.ChangeAt Go.RowKit

set_option maxRecDepth 100000 in
set_option maxHeartbeats 2000000 in
theorem walk (l : List OpD) (v : Value) (k : Int) (w : World) (hl : l.length ≤ maxLen) (hok : ∀ o ∈ l, o.ok) (h : Row (fun _ => True) w 4 l.length v (l.flatMap opC)) :
    Calls Try.prog 6 #[v, .int .i64 k] w fun e w' => e = .returned (.bool true) ∧ Below w.heap.size w w' := by
  obtain ⟨a, cap, rfl, hcap⟩ := h.shape
  have HR := Lib.hid h; clear h
  have HG0 := Lib.hid (play_good (l.take 40) (fun o ho => hok o (List.mem_of_mem_take ho)))
  have HGL := Lib.hid (show (playL (l.take 40)).length ≤ 41 by rw [playL_len]; have := List.length_take_le 40 l; omega)
  go_enter Try.func6, Try.ntmps6
  go_wp2_with fail
  refine (awake9_any _).mono ?_
  rintro e w1 ⟨rfl, hm1⟩
  have HM1 := Lib.hid hm1; clear hm1
  go_wp2_with fail
  refine (play_any _ l _ w1 hl hok (HR.out.below HM1.out.below)).mono ?_
  rintro e w2 ⟨ga, ca, gw, cw, rfl, hp⟩
  have HP := Lib.hid hp; clear hp
  have HG := Lib.hid (show ∀ t ∈ playL (l.take 40), GoodT 40 t from fun t ht => (HG0.out t ht).mono (List.length_take_le 40 l))
  have hn := HGL.out
  clear hok hcap hl
  generalize playL (l.take 40) = ts at *
  go_wp2_with fail
  go_loopw [21] (fun i wr => ∃ j : Nat, j ≤ ts.length ∧ i = .int .i64 j ∧ Hid (Play w1 wr ts ts ga ca gw cw)) (fun i _ => ts.length - (intOf i).toNat)
  case atStart => exact ⟨0, Nat.zero_le _, rfl, HP⟩
  case round =>
    obtain ⟨j, hj, rfl, HPR⟩ := hrel
    have hcA := HPR.out.a.cap.1
    have hcW := HPR.out.b.cap.1
    by_cases hlt : j < ts.length
    · obtain ⟨tvA, cA, tA⟩ := HPR.out.a.cell hlt
      obtain ⟨tvW, cW, tW⟩ := HPR.out.b.cell hlt
      obtain ⟨aA, capA, rfl⟩ := tA.shape
      obtain ⟨aW, capW, rfl⟩ := tW.shape
      have HTA := Lib.hid (show TV wr ts[j] _ from TabQ.tv tA.any)
      have HTW := Lib.hid tW.any.row
      have HGT := Lib.hid (HG.out _ (List.getElem_mem hlt))
      clear tA tW
      generalize ts[j] = t at *
      have htl : t.length < 1000000 := by have := HGT.out.len; omega
      have hbA := cell_lt cA
      have hbW := cell_lt cW
      go_wp2_with fail
      refine (get_tv t k _ wr htl HGT.out.asc HTA.out).mono ?_
      rintro e w3 ⟨hm3, rfl⟩
      have cA3 := hm3.cell cA
      have cW3 := hm3.cell cW
      have HM3 := Lib.hid hm3; clear hm3
      have hbA3 := cell_lt cA3
      have hbW3 := cell_lt cW3
      clear cA cW
      have HTW3 := Lib.hid (HTW.out.below HM3.out.below)
      go_wp2_with fail
      refine (rget_any (fun _ => True) t k _ w3 (by omega) HTW3.out).mono ?_
      rintro e w4 ⟨hb4, rfl⟩
      have hm4 := more_of hb4
      have cA4 := hm4.cell cA3
      have cW4 := hm4.cell cW3
      have HM4 := Lib.hid (more_trans HM3.out hm4)
      clear hb4 hm4 cA3 cW3 hbA3 hbW3
      obtain ⟨gv, hgv⟩ : ∃ gv, (getL t k).getD 0 = gv := ⟨_, rfl⟩
      obtain ⟨gs, hgs⟩ : ∃ gs, (getL t k).isSome = gs := ⟨_, rfl⟩
      rw [hgv, hgs]
      clear hgv hgs
      have t1 : (gv != gv) = false := by simp
      have t2 : (gs != gs) = false := by simp
      have t3 : ((t.length : Int) != (t.length : Int)) = false := by simp
      have HTA4 := Lib.hid (HTA.out.more HM4.out)
      have HTW4 := Lib.hid (HTW.out.below HM4.out.below)
      go_wp2_with fail
      have HX4 := Lib.hid (show ∀ W, More w4 W → W.cell? ⟨ga, j, none⟩ = some (.slice aA t.length capA) ∧ W.cell? ⟨gw, j, none⟩ = some (.slice aW t.length capW) from fun W hm => ⟨hm.cell cA4, hm.cell cW4⟩)
      have K4 := HX4.out w4.drew (more_drew w4)
      have HC33 := Lib.hid (len_tv t _ w4.drew (HTA4.out.more (more_drew w4)))
      have b0 : (0 : Int) ≤ (j : Int) := by omega
      have b1 : (j : Int) < (ts.length : Int) := by omega
      clear cA4 cW4
      go_region_held3 (fun W => W.cell? ⟨ga, j, none⟩ = some (.slice aA t.length capA) ∧ W.cell? ⟨gw, j, none⟩ = some (.slice aW t.length capW)) (first | with_reducible exact K4 | exact K4 | with_reducible exact K5 | with_reducible exact K6 | with_reducible exact K7) (first | (go_at_call 33; refine HC33.out.mono ?_; rintro e w5 ⟨hm5, rfl⟩; have HM5 := Lib.hid (more_trans (more_drew w4) hm5); have K5 := HX4.out w5 HM5.out; clear hm5) | (go_at_call 35; refine (told_tv t _ w5 htl (HTA4.out.more HM5.out)).mono ?_; rintro e w6 ⟨hm6, v6, rfl, hr6⟩; obtain ⟨a6, c6, rfl, _⟩ := hr6.shape; have HM6 := Lib.hid (more_trans HM5.out hm6); have K6 := HX4.out w6 HM6.out; have HR6 := Lib.hid hr6; clear hm6 hr6) | (go_at_call 34; refine (rsame_any (fun _ => True) (fun _ => True) t t _ _ w6 (by omega) (by omega) HR6.out (HTW4.out.below HM6.out.below)).mono ?_; rw [decide_eq_true (rfl : t = t)]; rintro e w7 ⟨rfl, n7, hn7⟩; have HM7 := Lib.hid (show More w4 w7 by rw [hn7]; exact more_trans HM6.out (more_drewN _ _)); have K7 := HX4.out w7 HM7.out; clear hn7))
      clear K4 K5 K6 K7
      have HP7 := Lib.hid (HPR.out.step (more_trans HM4.out HM7.out))
      go_wp2_with fail
      go_roundw
      case rel => exact ⟨j + 1, by omega, by go_num, HP7⟩
      case measure => simp [intOf]; omega
    · go_wp2_with fail
      go_ret
      exact ⟨rfl, (more_trans HM1.out HPR.out.more).below⟩

theorem oks : Try.f6.params.toList.all (fun t => Try.prog.readableRec t && decide (t < Try.prog.types.size)) = true := by kernel_rfl
theorem oks' : ∀ t ∈ Try.f6.params.toList, Try.prog.readableRec t = true ∧ t < Try.prog.types.size := fun t ht => by
  have h := List.all_eq_true.1 oks t ht
  rw [Bool.and_eq_true, decide_eq_true_eq] at h
  exact h
theorem kInPlace : (Rows.tablePlaysRow.inPlace == Try.prog.inPlace 6) = true := by kernel_rfl
theorem kUnf : (Rows.tablePlaysRow.unfollowed == Try.prog.unfollowed 6) = true := by kernel_rfl
theorem kRec : (Rows.tablePlaysRow.recurses == Try.prog.recurses 6) = true := by kernel_rfl
theorem kNamed : (Rows.tablePlaysRow.named == Try.prog.varsNamed 6) = true := by kernel_rfl
theorem closed : joinedFacts Try.prog 6 Try.f6 Rows.tablePlaysSpec Rows.tablePlaysRow = true :=
  closed_of (by as_aux_lemma => kernel_rfl) kLaid kMaps (by as_aux_lemma => kernel_rfl) (by as_aux_lemma => kernel_rfl) rfl kStops rfl kKnobs kInPlace kUnf kRec kNamed
    (by as_aux_lemma => kernel_rfl) (by as_aux_lemma => kernel_rfl) (by as_aux_lemma => kernel_rfl) (by as_aux_lemma => kernel_rfl) (by as_aux_lemma => kernel_rfl) rfl (by as_aux_lemma => kernel_rfl) (by as_aux_lemma => kernel_rfl) (by as_aux_lemma => kernel_rfl)
    kKeys rfl kHeard kEnter kLift kMake ⟨rfl, rfl⟩ rfl (by as_aux_lemma => kernel_rfl) (by as_aux_lemma => kernel_rfl)

set_option maxRecDepth 100000 in
theorem lifted (os : Os) (started : os.Started) (H : Type) (enc : TypeId × Value → H) :
    ReturnsInHanded {} Try.checked os 6 .any (Rows.tablePlaysSpec.pre6 enc Try.prog Try.f6 Rows.tablePlaysRow.domain false) (Rows.tablePlaysSpec.post enc Try.prog Try.f6 false true false false) := by
  refine returnsInHanded_of_change (C := Try.checked) kOwn started (by kernel_rfl) Try.func6
    (ChangeSpec.witness6 (enc := enc) (C := Try.checked) false ⟨#[], #[.slice none 0 0, .int .i64 0], []⟩ 8 (by kernel_rfl) (by kernel_rfl) (by kernel_rfl) (by kernel_rfl)) ?_
  intro W base args ds gs before hval0 hW hcnd _
  have hval : ∀ (j : Nat) t v, Try.f6.params[j]? = some t → args[j]? = some v → Value.okWide Try.prog W .any base t v := hval0
  have hW' := hW
  obtain ⟨p, q, hA0, hV, rfl, hfz, hnd⟩ := hW
  have hA : DataW.TrodAll enc Try.prog W 0 (fun _ => true) true Try.f6.params.toList args.toList ds p := hA0
  rw [Try.params6] at hA hval
  obtain ⟨v0, vs0, d0, ds0, p0, q0, hargs, rfl, rfl, h0, r0⟩ := trodAll_cons hA
  obtain ⟨v1, vs1, d1, ds1, p1, q1, rfl, rfl, rfl, h1, r1⟩ := trodAll_cons r0
  obtain ⟨rfl, rfl, rfl⟩ := trodAll_nil r1
  obtain rfl : args = #[v0, v1] := by cases args; simp_all
  obtain ⟨rfl, rfl⟩ := trodVars_none hV
  obtain ⟨l, hok, hxl, hrow⟩ := open_rows opC OpD.ok 4 (fun _ => rfl) (by omega) Try.underlying46 cells145 op_elem (okWide_slice Try.underlying46 (hval 0 46 v0 rfl rfl)) h0
  obtain ⟨k, rfl, rfl, rfl, w1⟩ := open_int Try.underlying2 (hval 1 2 v1 rfl rfl) h1
  refine (walk l v0 k W hxl hok hrow).mono fun e W' ⟨he, hb⟩ => ?_
  subst he
  exact ⟨_, rfl, law_post kLaid oks' rfl rfl Try.underlying4 hW' rfl rfl rfl hb⟩

theorem over : Rows.tablePlaysRow.holds Try.pinned (OpenSpec.ofChange Rows.tablePlaysSpec) :=
  OpenClaim.holds_of_wide 6 Try.f6 rfl rfl rfl rfl rfl rfl rfl ⟨rfl, rfl, rfl, rfl, rfl⟩ rfl rfl rfl rfl rfl (by as_aux_lemma => kernel_rfl) Try.func6 closed
    (of_decide_eq_true (by as_aux_lemma => kernel_rfl)) (by unfold Func.isWrapper; first | (rw [if_pos (by decide +kernel)]; kernel_rfl) | (rw [if_neg (by decide +kernel)]; exact ⟨rfl, rfl⟩))
    (fun os started H enc _ => lifted os started H enc)

theorem proved : Rows.TablePlaysSaid :=
  over
end Go.Proofs.Ytekhoanjpnjaeaa.tablePlays
