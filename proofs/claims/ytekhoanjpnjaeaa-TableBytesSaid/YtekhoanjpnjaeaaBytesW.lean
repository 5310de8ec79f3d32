/- The walk of TableBytes (11). -/
import Derived.Test.YtekhoanjpnjaeaaPlay
import Derived.Test.YtekhoanjpnjaeaaAppB
import Derived.Test.YtekhoanjpnjaeaaRead
import Derived.Test.YtekhoanjpnjaeaaAwake9
import Derived.Test.YtekhoanjpnjaeaaOpenB
import Derived.Deep.DeepCutAuto
namespace Go.Proofs.Ytekhoanjpnjaeaa
open Go.RowKit
theorem byts_app2 {l m : List Int} (h : Byts l) (h' : Byts m) : Byts (l ++ m) := fun b hb => (List.mem_append.1 hb).elim (h b) (h' b)
theorem byts_encU (v : Nat) : Byts (encU v) := by
  induction v using Nat.strongRecOn with
  | _ v ih =>
    intro b hb
    by_cases h : v < 128
    · rw [encU_lt h] at hb
      obtain rfl := List.mem_singleton.1 hb
      omega
    · rw [encU_ge h] at hb
      rcases List.mem_cons.1 hb with rfl | hb
      · omega
      · exact ih (v / 128) (by omega) b hb
theorem byts_encL : ∀ (l : List (Int × Int)) (p : Option Int), Byts (encL p l)
  | [], _ => by intro b hb; simp [encL] at hb
  | x :: r, none => byts_app2 (byts_app2 (byts_encU _) (byts_encU _)) (byts_encL r _)
  | x :: r, some _ => byts_app2 (byts_app2 (byts_encU _) (byts_encU _)) (byts_encL r _)
theorem byts_encT (l : List (Int × Int)) : Byts (encT l) := byts_app2 (byts_encU _) (byts_encL _ _)
theorem empty_owns (X : World) {B : Nat} (hB : B ≤ X.heap.size) : (X.alloc (.cells #[] 5)).ownsRow B 5 1 (.slice (some ⟨X.heap.size, 0, none⟩) 0 0) ([] : List Int).length (bV []) :=
  ⟨rfl, Or.inr ⟨X.heap.size, 0, #[], rfl, hB, alloc_last _ _, Nat.le_refl _, by unfold maxLen; omega, rfl, rfl⟩⟩
theorem own_more {B : Nat} {w w' : World} {O : List Int} {v : Value} (h : w.ownsRow B 5 1 v O.length (bV O)) (hm : More w w') : w'.ownsRow B 5 1 v O.length (bV O) := owns_keep h (fun x hx => hm.block (h.lt x hx).2)

set_option maxRecDepth 100000 in
set_option maxHeartbeats 4000000 in
theorem bytes_walk (l : List OpD) (v : Value) (a : Int) (M : List Int) (vm : Value) (w : World) (hl : l.length ≤ maxLen) (hok : ∀ o ∈ l, o.ok) (ha0 : 0 ≤ a) (ha1 : a ≤ 255) (hml : M.length ≤ 140737488351232) (hmy : Byts M) (h : Row (fun _ => True) w 4 l.length v (l.flatMap opC)) (hm : ByV (fun _ => True) w M vm) :
    Calls Try.prog 11 #[v, .int .u8 a, vm] w fun e w' => e = .returned (.bool true) ∧ Below w.heap.size w w' := by
  obtain ⟨va, vc, rfl, hcap⟩ := h.shape
  have HR := Lib.hid h; clear h
  have HMV := Lib.hid hm
  obtain ⟨ma, mc, rfl, _, _⟩ := hm
  have HMY := Lib.hid hmy; clear hmy
  have HML := Lib.hid hml; clear hml
  have HG0 := Lib.hid (play_good (l.take 40) (fun o ho => hok o (List.mem_of_mem_take ho)))
  have HGL := Lib.hid (show (playL (l.take 40)).length ≤ 41 by rw [playL_len]; have := List.length_take_le 40 l; omega)
  have HGP := Lib.hid (show 0 < (playL (l.take 40)).length by rw [playL_len]; omega)
  go_enter Try.func11, Try.ntmps11
  go_wp2_with fail
  refine (awake9_any _).mono ?_
  rintro e w1 ⟨rfl, hm1⟩
  have HM1 := Lib.hid hm1; clear hm1
  go_wp2_with fail
  refine (play_any _ l _ w1 hl hok (HR.out.below HM1.out.below)).mono ?_
  rintro e w2 ⟨ga, ca, gw, cw, rfl, hp⟩
  have HP := Lib.hid hp; clear hp
  have HG := Lib.hid (show ∀ t ∈ playL (l.take 40), GoodT 40 t from fun t ht => (HG0.out t ht).mono (List.length_take_le 40 l))
  clear hok hcap hl HG0
  generalize playL (l.take 40) = ts at *
  have hn := HGL.out
  have hpos := HGP.out
  have hz : ((ts.length : Int) == 0) = false := beq_eq_false_iff_ne.2 (by omega)
  have r1 := (⟨a, false, 0, 0⟩ : OpD).at_eq hpos
  have hi := (⟨a, false, 0, 0⟩ : OpD).at_lt hpos
  generalize (⟨a, false, 0, 0⟩ : OpD).at ts.length = i at *
  have r1' : a % (ts.length : Int) = (i : Int) := r1
  clear r1
  have hcA := HP.out.a.cap.1
  have hcW := HP.out.b.cap.1
  obtain ⟨tv1, cA, tA⟩ := HP.out.a.cell hi
  obtain ⟨tv3, cW, tW⟩ := HP.out.b.cell hi
  obtain ⟨aA, capA, rfl⟩ := tA.shape
  obtain ⟨aW, capW, rfl⟩ := tW.shape
  have HTA := Lib.hid (show TV w2 ts[i] _ from TabQ.tv tA.any)
  have HTW := Lib.hid tW.any.row
  have HGT := Lib.hid (HG.out _ (List.getElem_mem hi))
  clear tA tW HG
  generalize ts[i] = T at *
  have HLT := Lib.hid (show T.length < 1000000 by have := HGT.out.len; omega)
  have HLT4 := Lib.hid (show T.length < 4294967296 by have := HLT.out; omega)
  have HEL := Lib.hid (show (encT T).length ≤ 1000 by
    unfold encT
    have h1 := encL_len T none HGT.out.wf HGT.out.asc (fun q e => by cases e)
    have h2 := encU_len T.length (by have := HLT.out; omega)
    have := HGT.out.len
    rw [List.length_append]; omega)
  have hbA := cell_lt cA
  have hbW := cell_lt cW
  have HX := Lib.hid (show ∀ W, More w2 W → W.cell? ⟨ga, i, none⟩ = some (.slice aA T.length capA) ∧ W.cell? ⟨gw, i, none⟩ = some (.slice aW T.length capW) from fun W hm => ⟨hm.cell cA, hm.cell cW⟩)
  clear cW
  have b0 : (0 : Int) ≤ (i : Int) := by omega
  have b1 : (i : Int) < (ts.length : Int) := by omega
  have HMV2 := Lib.hid (HMV.out.below (more_trans HM1.out HP.out.more).below)
  go_wp2_with fail
  rw [r1']
  refine (bytes_tv (fun _ => True) T _ M _ w2 HLT.out (by have := HML.out; have := HGT.out.len; omega) HGT.out.asc HGT.out.wf HTA.out HMV2.out).mono ?_
  rintro e w3 ⟨hm3, pv, rfl, ho3⟩
  obtain ⟨pa, pc, rfl, _⟩ := owns_shape ho3
  have HM3 := Lib.hid hm3
  have HPV := Lib.hid (ByV.of_owns ho3)
  have HPL := Lib.hid (show (M ++ encT T).length ≤ 140737488355328 by rw [List.length_append]; have := HML.out; have := HEL.out; omega)
  have hpl := HPL.out
  have HPI := Lib.hid (show ((M ++ encT T).length : Int) = (M.length : Int) + ((encT T).length : Int) by rw [List.length_append]; omega)
  clear hm3 ho3 cA r1'
  obtain ⟨P, hP⟩ : ∃ P, M ++ encT T = P := ⟨_, rfl⟩
  rw [hP] at HPV HPL hpl HPI
  rw [hP]
  have HP6 := Lib.hid hP; clear hP
  have HPB := Lib.hid (show M.length + (encT T).length ≤ 140737488355328 by have := HML.out; have := HEL.out; omega)
  go_upto_region 6 with (fail)
  go_cut [43] (fun s wx => s = .bool false ∧ Hid (More w3 wx))
  case first =>
    as_aux_lemma =>
      have HM := Lib.hid (more_drew w3)
      go_region_held3 (fun W => W.cell? ⟨gw, i, none⟩ = some (.slice aW T.length capW)) (exact (HX.out _ (more_trans HM3.out (by first | exact HM.out | exact more_trans HM.out (World.grownBy_alloc _ _ _)))).2) (first | (go_at_call 46; refine (bsame_any (fun b => w2.heap.size ≤ b) (fun b => w3.heap.size ≤ b) P P _ _ _ HPL.out HPL.out (HPV.out.below HM.out.below) (ByV.of_owns HRR.out)).mono ?_; rw [decide_eq_true (rfl : P = P)]; rintro e w6 ⟨rfl, n6, hn6⟩; have HM := Lib.hid (show More w3 w6 by rw [hn6]; exact more_trans HM.out (more_drewN _ _)); clear hn6) | (go_at_call 47; refine (rbytes_any (fun _ => True) T _ _ HLT.out HGT.out.asc HGT.out.wf (HTW.out.below (more_trans HM3.out (by first | exact HM.out | exact more_trans HM.out (World.grownBy_alloc _ _ _))).below)).mono ?_; rintro e wE ⟨hbE, vE, rfl, hoE⟩; obtain ⟨aE, cE, rfl, _⟩ := owns_shape hoE; have HM := Lib.hid (show More w3 wE from more_trans (by first | exact HM.out | exact more_trans HM.out (World.grownBy_alloc _ _ _)) (more_of hbE)); (first | (have HA := Lib.hid (own_more HA.out (more_of hbE))) | (have HA0 := Lib.hid (own_more (empty_owns w3.drew (B := w3.heap.size) (Nat.le_refl _)) (more_of hbE))) | skip); have HE := Lib.hid hoE; clear hbE hoE) | (refine step_append_byts (S := fun _ => True) (by rfl) _ _ (by rfl) (B := w3.heap.size) (O := M) (M := encT T) (R := P) (by rfl) HA.out (by rfl) ((ByV.of_owns HE.out).mono fun _ _ => trivial) HP6.out HPB.out (HM.out.size) ?_; intro aR cR wR hoR hgR haR; have HM := Lib.hid (more_app HM.out (Nat.le_refl _) HA.out hgR); have HRR := Lib.hid hoR; clear hoR hgR haR) | (refine step_append_byts (S := fun _ => True) (by rfl) _ _ (by rfl) (B := w3.heap.size) (O := []) (M := M) (R := M) (by rfl) (by first | exact HA0.out | exact empty_owns _ (HM.out.size)) (by rfl) (HMV2.out.below (more_trans HM3.out (by first | exact HM.out | exact more_trans HM.out (World.grownBy_alloc _ _ _))).below) (by rfl) (by have := HML.out; simp; omega) (by first | exact HM.out.size | exact (more_trans HM.out (World.grownBy_alloc _ _ _)).size) ?_; intro gA cA wA hoA hgA hatA; have HMo := HM; have HM := Lib.hid (show More w3 wA from more_app (O := []) (by first | exact HMo.out | exact more_trans HMo.out (World.grownBy_alloc _ _ _)) (Nat.le_refl _) (by first | exact HA0.out | exact empty_owns _ (HMo.out.size)) hgA); clear HMo; (first | (have HE := Lib.hid (World.ownsRow.kept (HE.out.alloc _) hgA (Or.inr fun e => by have := (HE.out.lt _ e).2; omega))) | (have HE := Lib.hid (World.ownsRow.kept HE.out hgA (Or.inr fun e => by have := (HE.out.lt _ e).1; rw [World.size_alloc] at this; exact absurd this (Nat.not_succ_le_self _)))) | skip); have HA := Lib.hid hoA; clear hoA hgA hatA))
      all_goals (go_wp2_with fail; go_meet)
      all_goals exact ⟨rfl, HM⟩
  case rest =>
    obtain ⟨rfl, HM6⟩ := hcut
    have hx6 := HX.out wc (more_trans HM3.out HM6.out)
    have KA := hx6.1
    clear hx6
    go_wp2_with fail
    refine (bytes_tv (fun _ => True) T _ [] _ wc HLT.out (by have := HGT.out.len; simp; omega) HGT.out.asc HGT.out.wf (HTA.out.more (more_trans HM3.out HM6.out)) (ByV.nil (fun _ => True) _)).mono ?_
    rintro e w7 ⟨hm7, qv, rfl, ho7⟩
    rw [List.nil_append] at ho7
    obtain ⟨qa, qc, rfl, _⟩ := owns_shape ho7
    have HM7 := Lib.hid (more_trans HM6.out hm7)
    have HM76 := Lib.hid hm7
    have HO7 := Lib.hid ho7
    clear hm7 ho7 KA
    have HMV7 := Lib.hid (HMV2.out.below (more_trans HM3.out HM7.out).below)
    have HQ7 := Lib.hid (show (encT T).length + M.length ≤ 140737488355328 by have := HML.out; have := HEL.out; omega)
    have hbs7 : wc.heap.size ≤ w7.heap.size := HM76.out.size
    obtain ⟨R, hR⟩ : ∃ R, encT T ++ M = R := ⟨_, rfl⟩
    have HR8 := Lib.hid hR
    have HRL := Lib.hid (show R.length ≤ 140737488355328 by rw [← hR, List.length_append]; exact HQ7.out)
    have HRB := Lib.hid (show Byts R by rw [← hR]; exact byts_app2 (byts_encT T) HMY.out)
    have HRD := Lib.hid (show readT R = (0, T, (encT T).length) by rw [← hR]; exact readT_enc HGT.out.asc HGT.out.wf (by have := HGT.out.len; omega) M)
    clear hR
    go_wp2_with (at_builtin; refine wpList_append_byts (S := fun _ => True) rfl _ _ rfl (B := wc.heap.size) (O := encT T) (M := M) (R := R) rfl HO7.out rfl HMV7.out HR8.out HQ7.out hbs7 ?_; intro ra rc w8 ho8 hg8 hat8)
    have HM8 := Lib.hid (show More w3 w8 from more_trans HM6.out (more_app (w := wc) HM76.out (Nat.le_refl _) HO7.out hg8))
    have HRV := Lib.hid ((ByV.of_owns ho8).mono (S' := fun _ => True) fun _ _ => trivial)
    clear ho8 hg8 hat8 hbs7
    refine (read_any _ R _ w8 HRL.out HRB.out HRV.out).mono ?_
    rw [HRD.out]
    rintro e w9 ⟨hm9, tv, rfl, ht9⟩
    obtain ⟨ta, tc, rfl⟩ := ht9.shape
    have hcT : (w9.alloc (.cells #[.slice ta T.length tc] 54)).cell? ⟨w9.heap.size, 0, none⟩ = some (.slice ta T.length tc) := by go_simp
    have hmT : More w9 (w9.alloc (.cells #[.slice ta T.length tc] 54)) := World.grownBy_alloc _ _ _
    have HQ := Lib.hid (And.intro hm9 (And.intro hmT (And.intro hcT ht9)))
    clear hm9 hmT hcT ht9
    simp only []
    go_wp2_with fail
    generalize w9.alloc (.cells #[.slice ta T.length tc] 54) = wd at *
    generalize w9.heap.size = TB at *
    obtain ⟨hm9, hmT, hcT, ht9⟩ := HQ.out
    have HMd := Lib.hid (more_trans HM8.out (more_trans hm9 hmT))
    have HTd := Lib.hid (ht9.more hmT)
    clear HQ hm9 hmT ht9
    have HXd := Lib.hid (show ∀ W, More wd W → W.cell? ⟨TB, 0, none⟩ = some (.slice ta T.length tc) ∧ W.cell? ⟨gw, i, none⟩ = some (.slice aW T.length capW) from fun W hm => ⟨hm.cell hcT, (HX.out W (more_trans HM3.out (more_trans HMd.out hm))).2⟩)
    clear hcT
    have HWd := Lib.hid (HTW.out.below (more_trans HM3.out HMd.out).below)
    have KD := HXd.out wd.drew (more_drew wd)
    obtain ⟨N, hN⟩ : ∃ N, (encT T).length = N := ⟨_, rfl⟩
    have HEL2 := HEL.out
    have wPM : IntKind.i64.wrap ((P.length : Int) - (M.length : Int)) = (N : Int) := by rw [← hN, HPI.out, IntKind.wrap_i64]; omega
    have tN : ((N : Int) == (N : Int)) = true := by simp
    rw [hN] at HEL2
    rw [hN]
    clear hN
    go_region_held3 (fun W => W.cell? ⟨TB, 0, none⟩ = some (.slice ta T.length tc) ∧ W.cell? ⟨gw, i, none⟩ = some (.slice aW T.length capW)) (first | with_reducible exact KD | exact KD | with_reducible exact K21 | with_reducible exact K22) (first | (go_at_call 34; refine (rsame_any (fun _ => True) (fun _ => True) T T _ _ _ HLT4.out HLT4.out HT21.out (HWd.out.below HM21.out.below)).mono ?_; rw [decide_eq_true (rfl : T = T)]; rintro e we ⟨rfl, n22, hn22⟩; have hm : More w21 we := (by (subst hn22; exact more_drewN _ _)); clear hn22; have HM22 := Lib.hid (more_trans HM21.out hm); have K22 := HXd.out we HM22.out; have Hm22 := Lib.hid hm; clear hm) | (go_at_call 35; refine (told_tv T _ _ HLT.out (HTd.out.more (more_drew wd))).mono ?_; rintro e w21 ⟨hm, v21, rfl, ht⟩; obtain ⟨q21, c21, rfl, hcc21⟩ := ht.shape; have HT21 := Lib.hid ht; clear ht; have HM21 := Lib.hid (more_trans (more_drew wd) hm); have K21 := HXd.out w21 HM21.out; have Hm21 := Lib.hid hm; clear hm))
    go_wp2_with fail
    go_ret
    exact ⟨rfl, (more_trans HM1.out (more_trans HP.out.more (more_trans HM3.out (more_trans HMd.out HM22.out)))).below⟩
end Go.Proofs.Ytekhoanjpnjaeaa

