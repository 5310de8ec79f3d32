/- A list of keys that came in, opened; the walk of RankJoint (4). -/
import Derived.Test.YtemeppfikpafbaaAwk
import Derived.Test.YtemeppfikpafbaaOpenR
namespace Go.Proofs.Ytemeppfikpafbaa
open Go.RowKit Go.ChangeShapes Go.WideShapes
/-- Keys that came in. -/
structure KIn (w : World) (ks : List K4) (v : Value) : Prop where
  row : Row anyB w 4 ks.length v (flatC kC ks)
  nil : NilA v
  ok : ∀ x ∈ ks, x.Ok
  len : ks.length ≤ maxLen
theorem open_keys {H : Type} {enc : TypeId × Value → H} {w : World} {base : Nat} {spare : Nat → Bool} {held : Bool} {v : Value} {d : DataW H} {ps : List MemPlace} (hv : ∃ a len cap, v = .slice a len cap) (h : DataW.Trod enc Try.prog w base spare held 27 v d ps) : ∃ ks : List K4, KIn w ks v := by
  obtain ⟨va, vl, vc, rfl⟩ := hv
  obtain ⟨fuel, hf⟩ := h
  obtain ⟨v', xs, e, h1, h2, h3, h4⟩ := open_rows_at kC K4.Ok 4 kC_len (by omega) Try.underlying27 cells48 key_elem hf
  have e' : Value.slice va vl vc = v' := by simpa [Value.cells] using e
  subst e'
  exact ⟨xs, h3, h4, h1, h2⟩
theorem crow_nil (w : World) : CRow w [] (.slice none 0 0) := ⟨[], rfl, Row.nil _ _ _ _ _, fun i h => by simp at h⟩
/-- The first keys of a list, and the run equations of the slice expression. -/
theorem KIn.cut {w : World} {ks : List K4} {a : Option Addr} {n cap : Nat} (h : KIn w ks (.slice a n cap)) : n = ks.length ∧ Row anyB w 4 (ks.take 3).length (.slice a (ks.take 3).length cap) (flatC kC (ks.take 3)) ∧ (∀ W, (Instr.slice 27 (.slice a ks.length cap) none (some (.int .i64 ((ks.take 3).length : Int))) none).run Try.prog W = .ok (.slice a (ks.take 3).length cap) W) ∧ min (ks.length : Int) 3 = ((ks.take 3).length : Int) := by
  obtain ⟨a', cap', e, hc⟩ := h.row.shape
  cases e
  refine ⟨rfl, h.row.takeAny kC_len 3, slice27 a _ cap _ (by rw [List.length_take]; exact Nat.min_le_right _ _) hc (fun e => h.nil _ _ (by rw [e])), by rw [List.length_take]; omega⟩
theorem rA_eq (n : Nat) : rA (degR n) = .agg #[.int .i64 (degR n).1, .int .i64 (degR n).2] := rfl
set_option maxRecDepth 100000 in
set_option maxHeartbeats 4000000 in
theorem rankJoint_walk (l0 : List Cau) (ks : List K4) (v u : Value) (w : World) (h : InL w l0 v) (hk : KIn w ks u) : Calls Try.prog 4 #[v, u] w fun e w' => e = .returned (.bool true) ∧ Below w.heap.size w w' := by
  obtain ⟨ka, kcap, rfl, _⟩ := hk.row.shape
  obtain ⟨_, hrow, hsl, hmn⟩ := hk.cut
  have HI := Lib.hid h; clear h
  have HKR := Lib.hid hrow
  have HKO := Lib.hid (show ∀ x ∈ ks.take 3, x.Ok from fun x hx => hk.ok x (List.mem_of_mem_take hx))
  have HKL := Lib.hid (show (ks.take 3).length ≤ 3 by rw [List.length_take]; omega)
  have HKN := Lib.hid hk.len
  have HAW := Lib.hid (awake_any w)
  clear hrow hk
  have hkm : ks.length ≤ 9223372036854775807 := by have := HKN.out; unfold maxLen at this; exact this
  have hp : (ks.take 3).length ≤ ks.length := by rw [List.length_take]; exact Nat.min_le_right _ _
  generalize ks.take 3 = kk at *
  go_enter Try.func4, Try.ntmps4
  go_wp2_with fail
  refine HAW.out.mono ?_
  rintro e w1 ⟨rfl, hm1⟩
  have HM1 := Lib.hid hm1
  clear hm1 HAW
  go_upto_region 3 with (fail)
  have HF := Lib.hid (fun W (hW : More w1 W) => few_any l0 _ W HI.out.len HI.out.each (HI.out.row.more (more_trans HM1.out hW)))
  have HL := Lib.hid (more_drew w1)
  go_region_held3 (fun _ => True) (trivial) (first | (go_at_call 20; refine (HF.out _ HL.out).mono ?_; rintro e w2 ⟨⟨v2, rfl, hc2⟩, hb2⟩))
  all_goals
    have HOK := Lib.hid (fewL_ok HI.out.ok)
    have HLN := Lib.hid (fewL_len l0)
    have HC2 := Lib.hid hc2
    have HM2 := Lib.hid (more_trans HM1.out (more_trans HL.out (more_of hb2)))
    clear hc2 hb2 HI HM1 HF HL
    generalize fewL l0 = L at *
    obtain ⟨a2, cap2, rfl, _⟩ := HC2.out.shape
    have HKR2 := Lib.hid (HKR.out.below HM2.out.below)
    clear hsl hmn hkm hp HKR HKN
    go_wp2_with fail
    refine (causes_any L _ w2 (by have := HLN.out; omega) HC2.out).mono ?_
    rintro e w3 ⟨⟨v3, rfl, hc3⟩, hb3⟩
    have HC3 := Lib.hid hc3
    have HM3 := Lib.hid (more_of hb3)
    clear hc3 hb3
    go_wp2_with fail
    refine (joint28_any L kk _ _ w3 (by have := HLN.out; omega) (by have := HKL.out; omega) HOK.out HKO.out HC3.out (HKR2.out.below HM3.out.below)).mono ?_
    rw [rA_eq]
    rintro e w4 ⟨rfl, hm4⟩
    have HM4 := Lib.hid (more_trans HM3.out hm4)
    clear hm4
    go_wp2_with fail
    refine (joint29_any L kk _ _ w4 (by have := HLN.out; omega) (by have := HKL.out; omega) HOK.out (HC2.out.more HM4.out) (HKR2.out.below HM4.out.below)).mono ?_
    rintro e w5 ⟨rfl, hm5⟩
    have HM5 := Lib.hid (more_trans HM4.out hm5)
    have HJL := Lib.hid (jointN_le HOK.out kk)
    clear hm5
    have hnr := fun W => run_eqR (degR (jointN L kk)) (degR (jointN L kk)) W
    rw [decide_eq_true rfl] at hnr
    go_wp2_with fail
    refine (degree23_any (jointN L kk) w5 (by have := HJL.out; omega)).mono ?_
    rw [rA_eq]
    rintro e w6 ⟨rfl, hm6⟩
    have HM6 := Lib.hid (more_trans HM5.out hm6)
    clear hm6
    generalize (degR (jointN L kk)).1 = p at *
    generalize (degR (jointN L kk)).2 = q at *
    go_wp2_with fail
    refine (joint28_any [] kk _ _ w6 (by simp) (by have := HKL.out; omega) (by simp) HKO.out (crow_nil _) (HKR2.out.below HM6.out.below)).mono ?_
    rw [show rA (degR (jointN [] kk)) = .agg #[.int .i64 0, .int .i64 1] from rfl]
    rintro e w7 ⟨rfl, hm7⟩
    have HM7 := Lib.hid (more_trans HM6.out hm7)
    clear hm7 hnr
    go_wp2_with fail
    refine (show Calls Try.prog 23 #[.int .i64 0] w7 fun e w' => e = .returned (.agg #[.int .i64 0, .int .i64 1]) ∧ More w7 w' from degree23_any 0 w7 (by omega)).mono ?_
    rintro e w8 ⟨rfl, hm8⟩
    have HM8 := Lib.hid (more_trans HM2.out (more_trans HM7.out hm8))
    clear hm8
    go_wp2_with fail
    go_ret
    exact ⟨rfl, HM8.out.below⟩
end Go.Proofs.Ytemeppfikpafbaa
