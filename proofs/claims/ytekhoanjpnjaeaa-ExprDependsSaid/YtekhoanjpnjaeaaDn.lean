/- Texts DepW, laid together. -/
import Derived.Test.YtekhoanjpnjaeaaDm
/- The walk of ExprDepends (17). -/
namespace Go.Proofs.Ytekhoanjpnjaeaa
open Go.RowKit
set_option maxRecDepth 100000 in
set_option maxHeartbeats 4000000 in
theorem depends_walk (ns : List Nd) (v : Value) (vn now : Int) (w : World) (hl : ns.length ≤ maxLen) (hok : ∀ x ∈ ns, x.Ok) (hr : Row (fun _ => True) w 5 ns.length v (flat5 ns)) (hvn : In64 vn) (hnow : In64 now) :
    Calls Try.prog 17 #[v, .int .i64 vn, .int .i64 now] w fun e w' => e = .returned (.bool true) ∧ Below w.heap.size w w' := by
  have HL := Lib.hid (And.intro hl (And.intro hok hr))
  obtain ⟨a, cap, rfl, _⟩ := hr.shape
  have HV := Lib.hid hvn; have HW := Lib.hid hnow; clear hl hok hr hvn hnow
  have HNA := Lib.hid (bldTop_nms false ns)
  have HNB := Lib.hid (bldTop_nms true ns)
  go_enter Try.func17, Try.ntmps17
  go_wp2_with fail
  refine (awake_any _).mono ?_
  rintro e w1 ⟨rfl, hb⟩
  have HB := Lib.hid hb; clear hb
  go_wp2_with fail
  refine (Build_any (fun _ => True) ns (.slice a ns.length cap) w1 HL.out.1 HL.out.2.1 (HL.out.2.2.below HB.out)).mono ?_
  rintro e w2 ⟨hb2, c2, rfl, hf2, hr2⟩
  obtain ⟨a2, cap2, rfl⟩ := hr2.shape
  have HB2 := Lib.hid (HB.out.trans (hb2.mono HB.out.size)); clear hb2
  have HT := Lib.hid (And.intro hf2 hr2); clear hf2 hr2
  generalize bldTop ns = t at *
  unfold agg
  go_wp2_with fail
  refine (conv_any 30 (fun _ => True) t (.slice a2 t.args.length cap2) w2 HT.out.1 (HT.out.2.mono (fun _ _ => trivial) (fun _ _ _ _ h => h) (Nat.le_refl _))).mono ?_
  rintro e w4 ⟨hb4, c4, rfl, hr4⟩
  obtain ⟨a4, cap4, rfl⟩ := hr4.shape
  have HB4 := Lib.hid (HB2.out.trans (hb4.mono HB2.out.size))
  have HR4 := Lib.hid hr4
  clear hb4 hr4
  have HFU := Lib.hid (show Flds .u8 t from ⟨HT.out.1.op, HT.out.1.n, HT.out.1.name, HT.out.1.len⟩)
  unfold agg
  have HX0 := Lib.hid (alloc_last w4 (.cells #[.int .u8 t.op, .string t.name, .int .i64 t.n, .slice a4 t.args.length cap4] 41))
  have HM4 := Lib.hid (more_allocD w4 (.cells #[.int .u8 t.op, .string t.name, .int .i64 t.n, .slice a4 t.args.length cap4] 41))
  go_upto_region 4 with fail
  generalize w4.alloc (.cells #[.int .u8 t.op, .string t.name, .int .i64 t.n, .slice a4 t.args.length cap4] 41) = w5 at *
  obtain ⟨XB, HXE⟩ : ∃ XB, Hid (XB = w4.heap.size) := ⟨_, Lib.hid rfl⟩
  rw [← HXE.out] at HX0 ⊢
  have HR5 := Lib.hid (show RepS .u8 (fun x => x < w5.heap.size) w5 30 t.args (.slice a4 t.args.length cap4) from HR4.out.mono2 (fun b o u _ hc => ⟨cell_lt (HM4.out.cell hc), HM4.out.cell hc⟩) (Nat.le_refl _))
  have HB5 := Lib.hid (HB4.out.trans (HM4.out.below.mono HB4.out.size))
  have s0 : w5.cell? ⟨XB, 0, none⟩ = some (.int .u8 t.op) := by simp [World.cell?, HX0.out]
  have s1 : w5.cell? ⟨XB, 1, none⟩ = some (.string t.name) := by simp [World.cell?, HX0.out]
  have s2 : w5.cell? ⟨XB, 2, none⟩ = some (.int .i64 t.n) := by simp [World.cell?, HX0.out]
  have s3 : w5.cell? ⟨XB, 3, none⟩ = some (.slice a4 t.args.length cap4) := by simp [World.cell?, HX0.out]
  have HRD := Lib.hid (reads_any (fun x => x < w5.heap.size) 30 t (.slice a4 t.args.length cap4) w5 HFU.out HR5.out (fun _ h => h) (Nat.le_trans HNA.out (by decide)) (Nat.le_trans HNB.out (by decide)))
  unfold agg at HRD
  have hbx := cell_lt s0
  go_wp2_with fail
  refine HRD.out.mono ?_
  rintro e w6 ⟨hm6, na, nc, ta, tc, rfl, hn6, ht6⟩
  have HM6 := Lib.hid hm6
  have HN6 := Lib.hid hn6
  have HT6 := Lib.hid ht6
  have HR6 := Lib.hid (show RepS .u8 (fun _ => True) w6 30 t.args (.slice a4 t.args.length cap4) from HR5.out.mono (fun _ _ => trivial) (fun _ _ _ _ hc => HM6.out.cell hc) (Nat.le_refl _))
  have HX6 := Lib.hid ((HM6.out.block (blk_ltD HX0.out)).trans HX0.out)
  have HB6 := Lib.hid (HB5.out.trans (HM6.out.below.mono HB5.out.size))
  clear hm6 hn6 ht6 s0 s1 s2 s3 hbx HRD
  have HLA := Lib.hid (show (setS (nms false t)).length ≤ 60 by have := setS_len (nms false t); have := HNA.out; omega)
  have HLB := Lib.hid (show (setS (nms true t)).length ≤ 60 by have := setS_len (nms true t); have := HNB.out; omega)
  have HIA := Lib.hid (show ∀ x ∈ nms false t, x ∈ setS (nms false t) from fun x hx => (setS_mem _ _).2 hx)
  have HIB := Lib.hid (show ∀ x ∈ nms true t, x ∈ setS (nms true t) from fun x hx => (setS_mem _ _).2 hx)
  have HTA := Lib.hid (show ∀ x ∈ setS (nms false t), x.size ≤ maxLen from fun x hx => nms_text 30 t _ HFU.out HR6.out x ((setS_mem _ _).1 hx))
  have HTB := Lib.hid (show ∀ x ∈ setS (nms true t), x.size ≤ maxLen from fun x hx => nms_text 30 t _ HFU.out HR6.out x ((setS_mem _ _).1 hx))
  generalize setS (nms false t) = PA at *
  generalize setS (nms true t) = PB at *
  obtain ⟨pn, HPN⟩ : ∃ n, Hid (PA.length = n) := ⟨_, Lib.hid rfl⟩
  obtain ⟨qn, HQN⟩ : ∃ n, Hid (PB.length = n) := ⟨_, Lib.hid rfl⟩
  rw [HPN.out] at HN6 HLA ⊢
  rw [HQN.out] at HT6 HLB ⊢
  have HE0 := Lib.hid (alloc_last w6 (.cells #[.slice none 0 0, .slice none 0 0, .slice none 0 0, .slice none 0 0, .int .i64 now] 97))
  have HM7 := Lib.hid (more_allocD w6 (.cells #[.slice none 0 0, .slice none 0 0, .slice none 0 0, .slice none 0 0, .int .i64 now] 97))
  go_upto_region 6 with fail
  generalize w6.alloc (.cells #[.slice none 0 0, .slice none 0 0, .slice none 0 0, .slice none 0 0, .int .i64 now] 97) = w7 at *
  have HE7 := Lib.hid (EnvB.start HM7.out.below HE0.out)
  obtain ⟨EB, HEB⟩ : ∃ EB, Hid (EB = w6.heap.size) := ⟨_, Lib.hid rfl⟩
  rw [← HEB.out] at HE7 HE0 ⊢
  obtain ⟨i0, hi0, hz0, hz1, hz2⟩ := info_parts Try.info9s
  obtain ⟨j0, hj0, hy0, hy1, hy2⟩ := info_parts Try.info2
  obtain ⟨k0, hk0, hx0, hx1, hx2⟩ := info_parts Try.info54
  have hpn := HLA.out
  go_wp2_with fail
  go_loopw [34] (fun i wr => ∃ (j : Nat) (nv vv : Value), j ≤ pn ∧ i = .int .i64 j ∧ Hid (EnvB EB w6 wr #[nv, vv, .slice none 0 0, .slice none 0 0, .int .i64 now] nv vv (.slice none 0 0) (.slice none 0 0) ((PA.take j).map .string) ((valsD vn j).map (.int .i64)) [] [] [])) (fun i _ => pn - (intOf i).toNat)
  case atStart => exact ⟨0, _, _, Nat.zero_le _, rfl, HE7⟩
  case round =>
    obtain ⟨j, nv, vv, hj, rfl, HE⟩ := hrel
    obtain ⟨wo, rfl⟩ : ∃ wo : World, wo = wr := ⟨_, rfl⟩
    have hpn := HLA.out
    have HMW := Lib.hid (show More w6 wo from more_of (by have h := HE.out.low; rwa [HEB.out] at h))
    by_cases hlt : j < pn
    · have hne : pn ≠ 0 := by omega
      obtain ⟨b, off, hb, _, _, hc⟩ := HN6.out.at hne
      have hlp : j < PA.length := by rw [HPN.out]; exact hlt
      have e0 : wo.cell? ⟨b, off + j, none⟩ = some (.string PA[j]) := HMW.out.cell (by have h := hc j (.string PA[j]) (by simp [sV, hlp]); simpa using h)
      have HT := Lib.hid (show PA.take (j + 1) = PA.take j ++ [PA[j]] from List.take_succ_eq_append_getElem hlp)
      have HLT := Lib.hid hlt
      generalize PA[j] = s at *
      clear hc hne
      subst hb
      have hbe := cell_lt e0
      go_upto_region 9 with fail
      clear e0 hbe hlp
      obtain ⟨xv, HXV⟩ : ∃ x, Hid (IntKind.i64.wrap ((j : Int) * vn) = x) := ⟨_, Lib.hid rfl⟩
      have hxv := HXV.out
      have HKP := Lib.hid (show ∀ W : World, W.heap[EB]? = some (.cells #[nv, vv, .slice none 0 0, .slice none 0 0, .int .i64 now] 97) → (W.cell? ⟨EB, 0, none⟩ = some nv ∧ W.cell? ⟨EB, 1, none⟩ = some vv) from fun W h => ⟨by simp [World.cell?, h], by simp [World.cell?, h]⟩)
      have HEd := Lib.hid (HE.out.more (more_drew wo))
      have HR1 := Lib.hid (show ((PA.take j).map Value.string).length + 1 ≤ maxLen ∧ (((PA.take j).map Value.string).length + 1) * 16 ≤ 140737488355328 from by have h1 := HLT.out; have h2 := HLA.out; rw [List.length_map, List.length_take]; unfold maxLen; omega)
      have HR2 := Lib.hid (show ((valsD vn j).map (Value.int .i64)).length + 1 ≤ maxLen ∧ (((valsD vn j).map (Value.int .i64)).length + 1) * 8 ≤ 140737488355328 from by have h1 := HLT.out; have h2 := HLA.out; rw [List.length_map, valsD_len]; unfold maxLen; omega)
      obtain ⟨NS, HNS⟩ : ∃ l, Hid ((PA.take j).map Value.string = l) := ⟨_, Lib.hid rfl⟩
      obtain ⟨VS, HVS⟩ : ∃ l, Hid ((valsD vn j).map (Value.int .i64) = l) := ⟨_, Lib.hid rfl⟩
      rw [HNS.out] at HEd HR1
      rw [HVS.out] at HEd HR2
      refine wp_region_heldP (S := fun W => W.cell? ⟨EB, 0, none⟩ = some nv ∧ W.cell? ⟨EB, 1, none⟩ = some vv) 13 (by kernel_rfl) ?_
      generalize wo.drew = wd at *
      refine tkS (i := 0) (v := ?_) (by simp only [opA, op0]; exact rfl) (by kernel_rfl) (by kernel_rfl) (HKP.out _ HEd.out.box) ?_ ?_
      rotate_left
      · intro w hS
        (try dsimp only at hS); first | (go_simp; done) | (go_simp; with_reducible rfl)
      (try simp only [ptS, stA, st0, stS])
      refine tkS (i := 1) (v := ?_) (by simp only [opA, opS, op0]; exact rfl) (by kernel_rfl) (by kernel_rfl) (HKP.out _ HEd.out.box) ?_ ?_
      rotate_left
      · intro w hS
        (try dsimp only at hS); first | (go_simp; done) | (go_simp; with_reducible rfl)
      (try simp only [ptS, stA, st0, stS])
      refine tkS (i := 2) (v := ?_) (by simp only [opA, opS, op0]; exact rfl) (by kernel_rfl) (by kernel_rfl) (HKP.out _ HEd.out.box) ?_ ?_
      rotate_left
      · intro w hS
        (try dsimp only at hS); first | (go_simp; done) | (go_simp; with_reducible rfl)
      (try simp only [ptS, stA, st0, stS])
      refine tkS (i := 5) (v := ?_) (by simp only [opA, opS, op0]; exact rfl) (by kernel_rfl) (by kernel_rfl) (HKP.out _ HEd.out.box) ?_ ?_
      rotate_left
      · intro w hS
        (try dsimp only at hS); first | (go_simp; done) | (go_simp; with_reducible rfl)
      (try simp only [ptS, stA, st0, stS])
      refine tkS (i := 6) (v := ?_) (by simp only [opA, opS, op0]; exact rfl) (by kernel_rfl) (by kernel_rfl) (HKP.out _ HEd.out.box) ?_ ?_
      rotate_left
      · intro w hS
        (try dsimp only at hS); first | (go_simp; done) | (go_simp; with_reducible rfl)
      (try simp only [ptS, stA, st0, stS])
      refine tkW (i := 7) (v := ?_) (by simp only [opA, opS, op0]; exact rfl) (by kernel_rfl) (by kernel_rfl) (fun _ => (HKP.out _ HEd.out.box)) ?_ ?_
      rotate_left
      · intro w hS
        first | (go_simp; done) | (go_simp; with_reducible rfl)
      (try simp only [ptS, stA, st0, stS])
      refine tkW (i := 8) (v := ?_) (by simp only [opA, opS, op0]; exact rfl) (by kernel_rfl) (by kernel_rfl) (fun _ => (HKP.out _ HEd.out.box)) ?_ ?_
      rotate_left
      · intro w hS
        first | (go_simp; done) | (go_simp; with_reducible rfl)
      (try simp only [ptS, stA, st0, stS])
      refine tkW (i := 9) (v := ?_) (by simp only [opA, opS, op0]; exact rfl) (by kernel_rfl) (by kernel_rfl) (fun _ => (HKP.out _ HEd.out.box)) ?_ ?_
      rotate_left
      · intro w hS
        first | (go_simp; done) | (go_simp; with_reducible rfl)
      (try simp only [ptS, stA, st0, stS])
      refine wpAnyP_ready (rs := [3, 10]) (by kernel_rfl) (by simp) ?_
      refine (AllReadyP.cons (by simp only [opA, opS, op0]; exact rfl) (fun K hK => ?_) (AllReadyP.cons (by simp only [opA, opS, op0]; exact rfl) (fun K hK => ?_) AllReadyP.nil))
      · rw [if_pos (by kernel_rfl)]
        have HA3 := Lib.hid (more_allocD wd (.cells #[Value.string s] 9))
        have HL3 := Lib.hid (alloc_last wd (.cells #[Value.string s] 9))
        obtain ⟨B3, HB3⟩ : ∃ B, Hid (B = wd.heap.size) := ⟨_, Lib.hid rfl⟩
        go_simp
        rw [← HB3.out] at HL3 ⊢
        generalize wd.alloc (.cells #[Value.string s] 9) = w3 at *
        have HE_3 := Lib.hid (HEd.out.more HA3.out)
        refine hK.out _ _ (fun _ => (HKP.out _ HE_3.out.box)) ?_
        clear hK K
        (try simp only [ptS, stA, st0, stS])
        refine wpAnyP_ready (rs := [4, 10]) (by kernel_rfl) (by simp) ?_
        refine (AllReadyP.cons (by simp only [opA, opS, op0]; exact rfl) (fun K hK => ?_) (AllReadyP.cons (by simp only [opA, opS, op0]; exact rfl) (fun K hK => ?_) AllReadyP.nil))
        · refine step_append_lies _ (by rfl) _ _ _ (by rfl) (EB + 1) 9 i0 _ 1 16 Try.underlying90 hi0 hz0 hz1 hz2 rfl (by omega) nv NS.length NS (by rfl) HE_3.out.on ⟨B3, 0, none⟩ 1 1 [Value.string s] (by rfl) (by rfl) (World.news_of_block (cs := #[Value.string s]) (t := 9) (fr := (0, 0)) HL3.out) (by simp [Value.oneCell']) (by omega) HR1.out.1 HR1.out.2 HE_3.out.ns' w3.heap.size (by rfl) ?_
          intro g4 c4 w4 hown hgrow hat _
          obtain ⟨qa4, qn4, qc4, HQ4⟩ : ∃ qa qn qc, Hid (Value.slice qa qn qc = Value.slice (some ⟨g4, 0, none⟩) (NS.length + 1) c4) := ⟨_, _, _, Lib.hid rfl⟩
          have HO4 := Lib.hid (show w4.ownsRow (EB + 1) 9 1 (Value.slice qa4 qn4 qc4) (NS ++ [Value.string s]).length (NS ++ [Value.string s]) by rw [HQ4.out, List.length_append]; exact hown)
          have HE_4 := Lib.hid (HE_3.out.growN HO4.out hgrow (lies_own HQ4.out hat))
          clear hown hgrow hat
          rw [← HQ4.out]
          refine hK.out _ _ (fun _ => (HKP.out _ HE_4.out.box)) ?_
          clear hK K
          (try simp only [ptS, stA, st0, stS])
          refine tkS (i := 12) (v := ?_) (by simp only [opA, opS, op0]; exact rfl) (by kernel_rfl) (by kernel_rfl) (HKP.out _ HE_4.out.box) ?_ ?_
          rotate_left
          · intro w hS
            (try dsimp only at hS); first | (go_simp; done) | (go_simp; with_reducible rfl)
          (try simp only [ptS, stA, st0, stS])
          refine wpAnyP_ready (rs := [10]) (by kernel_rfl) (by simp) ?_
          refine (AllReadyP.cons (by simp only [opA, opS, op0]; exact rfl) (fun K hK => ?_) AllReadyP.nil)
          rw [if_pos (by kernel_rfl)]
          have HA10 := Lib.hid (more_allocD w4 (.cells #[Value.int .i64 xv] 2))
          have HL10 := Lib.hid (alloc_last w4 (.cells #[Value.int .i64 xv] 2))
          obtain ⟨B10, HB10⟩ : ∃ B, Hid (B = w4.heap.size) := ⟨_, Lib.hid rfl⟩
          go_simp
          rw [← HB10.out] at HL10 ⊢
          generalize w4.alloc (.cells #[Value.int .i64 xv] 2) = w10 at *
          have HE_10 := Lib.hid (HE_4.out.more HA10.out)
          refine hK.out _ _ (fun _ => (HKP.out _ HE_10.out.box)) ?_
          clear hK K
          (try simp only [ptS, stA, st0, stS])
          refine wpAnyP_ready (rs := [11]) (by kernel_rfl) (by simp) ?_
          refine (AllReadyP.cons (by simp only [opA, opS, op0]; exact rfl) (fun K hK => ?_) AllReadyP.nil)
          refine step_append_lies _ (by rfl) _ _ _ (by rfl) (EB + 1) 2 j0 _ 1 8 Try.underlying73 hj0 hy0 hy1 hy2 rfl (by omega) vv VS.length VS (by rfl) HE_10.out.ov ⟨B10, 0, none⟩ 1 1 [Value.int .i64 xv] (by rfl) (by rfl) (World.news_of_block (cs := #[Value.int .i64 xv]) (t := 2) (fr := (0, 0)) HL10.out) (by simp [Value.oneCell']) (by omega) HR2.out.1 HR2.out.2 HE_10.out.ns' w10.heap.size (by rfl) ?_
          intro g11 c11 w11 hown hgrow hat _
          obtain ⟨qa11, qn11, qc11, HQ11⟩ : ∃ qa qn qc, Hid (Value.slice qa qn qc = Value.slice (some ⟨g11, 0, none⟩) (VS.length + 1) c11) := ⟨_, _, _, Lib.hid rfl⟩
          have HO11 := Lib.hid (show w11.ownsRow (EB + 1) 2 1 (Value.slice qa11 qn11 qc11) (VS ++ [Value.int .i64 xv]).length (VS ++ [Value.int .i64 xv]) by rw [HQ11.out, List.length_append]; exact hown)
          have HE_11 := Lib.hid (HE_10.out.growV HO11.out hgrow (lies_own HQ11.out hat))
          clear hown hgrow hat
          rw [← HQ11.out]
          refine hK.out _ _ (fun _ => (HKP.out _ HE_11.out.box)) ?_
          clear hK K
          (try simp only [ptS, stA, st0, stS])
          refine wpAnyP_ready (rs := [13]) (by kernel_rfl) (by simp) ?_
          refine (AllReadyP.cons (by simp only [opA, opS, op0]; exact rfl) (fun K hK => ?_) AllReadyP.nil)
          rw [if_pos (by kernel_rfl)]
          have c0 : w11.cell? ⟨EB, 0, none⟩ = some nv := by simp [World.cell?, HE_11.out.box]
          have f0 := thaw HE_11.out.box 0
          have hbs := cell_lt c0
          go_simp
          have HE_13 := Lib.hid (show EnvB EB _ (w11.setCell ⟨EB, 0, none⟩ (Value.slice qa4 qn4 qc4)) #[(Value.slice qa4 qn4 qc4), vv, .slice none 0 0, .slice none 0 0, .int .i64 now] _ _ _ _ _ _ _ _ _ from HE_11.out.store 0 (Value.slice qa4 qn4 qc4))
          generalize w11.setCell ⟨EB, 0, none⟩ (Value.slice qa4 qn4 qc4) = w13 at *
          clear c0 f0 hbs
          refine hK.out _ _ (gone (by kernel_rfl)) ?_
          clear hK K
          (try simp only [ptN])
          refine wpAnyP_ready (rs := [14]) (by kernel_rfl) (by simp) ?_
          refine (AllReadyP.cons (by simp only [opA, opS, op0]; exact rfl) (fun K hK => ?_) AllReadyP.nil)
          rw [if_pos (by kernel_rfl)]
          go_simp
          refine hK.out _ _ (gone (by kernel_rfl)) ?_
          clear hK K
          (try simp only [ptS, stA, st0, stS])
          refine wpAnyP_ready (rs := [15]) (by kernel_rfl) (by simp) ?_
          refine (AllReadyP.cons (by simp only [opA, opS, op0]; exact rfl) (fun K hK => ?_) AllReadyP.nil)
          rw [if_pos (by kernel_rfl)]
          have c0 : w13.cell? ⟨EB, 1, none⟩ = some vv := by simp [World.cell?, HE_13.out.box]
          have f0 := thaw HE_13.out.box 1
          have hbs := cell_lt c0
          go_simp
          have HE_15 := Lib.hid (show EnvB EB _ (w13.setCell ⟨EB, 1, none⟩ (Value.slice qa11 qn11 qc11)) #[(Value.slice qa4 qn4 qc4), (Value.slice qa11 qn11 qc11), .slice none 0 0, .slice none 0 0, .int .i64 now] _ _ _ _ _ _ _ _ _ from HE_13.out.store 1 (Value.slice qa11 qn11 qc11))
          generalize w13.setCell ⟨EB, 1, none⟩ (Value.slice qa11 qn11 qc11) = w15 at *
          clear c0 f0 hbs
          refine hK.out _ _ (gone (by kernel_rfl)) ?_
          clear hK K
          (try simp only [ptN])
          refine wpAnyP_done (by kernel_rfl) ?_ _
          have hlt9 := HLT.out
          go_wp2_with fail
          go_roundw
          case rel => exact ⟨j + 1, (Value.slice qa4 qn4 qc4), (Value.slice qa11 qn11 qc11), by have := HLT.out; omega, by go_num, Lib.hid (by have h := HE_15.out; rw [HT.out, valsD_succ, List.map_append, List.map_append, HNS.out, HVS.out, HXV.out]; exact h)⟩
          case measure => have := HLT.out; simp [intOf]; omega
        · rw [if_pos (by kernel_rfl)]
          have HA10 := Lib.hid (more_allocD w3 (.cells #[Value.int .i64 xv] 2))
          have HL10 := Lib.hid (alloc_last w3 (.cells #[Value.int .i64 xv] 2))
          obtain ⟨B10, HB10⟩ : ∃ B, Hid (B = w3.heap.size) := ⟨_, Lib.hid rfl⟩
          go_simp
          rw [← HB10.out] at HL10 ⊢
          generalize w3.alloc (.cells #[Value.int .i64 xv] 2) = w10 at *
          have HE_10 := Lib.hid (HE_3.out.more HA10.out)
          have HL3_10 := Lib.hid ((HA10.out.block (blk_ltD HL3.out)).trans HL3.out)
          refine hK.out _ _ (fun _ => (HKP.out _ HE_10.out.box)) ?_
          clear hK K
          (try simp only [ptS, stA, st0, stS])
          refine wpAnyP_ready (rs := [4]) (by kernel_rfl) (by simp) ?_
          refine (AllReadyP.cons (by simp only [opA, opS, op0]; exact rfl) (fun K hK => ?_) AllReadyP.nil)
          refine step_append_lies _ (by rfl) _ _ _ (by rfl) (EB + 1) 9 i0 _ 1 16 Try.underlying90 hi0 hz0 hz1 hz2 rfl (by omega) nv NS.length NS (by rfl) HE_10.out.on ⟨B3, 0, none⟩ 1 1 [Value.string s] (by rfl) (by rfl) (World.news_of_block (cs := #[Value.string s]) (t := 9) (fr := (0, 0)) HL3_10.out) (by simp [Value.oneCell']) (by omega) HR1.out.1 HR1.out.2 HE_10.out.ns' w10.heap.size (by rfl) ?_
          intro g4 c4 w4 hown hgrow hat _
          obtain ⟨qa4, qn4, qc4, HQ4⟩ : ∃ qa qn qc, Hid (Value.slice qa qn qc = Value.slice (some ⟨g4, 0, none⟩) (NS.length + 1) c4) := ⟨_, _, _, Lib.hid rfl⟩
          have HO4 := Lib.hid (show w4.ownsRow (EB + 1) 9 1 (Value.slice qa4 qn4 qc4) (NS ++ [Value.string s]).length (NS ++ [Value.string s]) by rw [HQ4.out, List.length_append]; exact hown)
          have HE_4 := Lib.hid (HE_10.out.growN HO4.out hgrow (lies_own HQ4.out hat))
          have HL10_4 := Lib.hid (blk_grow HE_10.out.on HL10.out (by decide) hgrow)
          clear hown hgrow hat
          rw [← HQ4.out]
          refine hK.out _ _ (fun _ => (HKP.out _ HE_4.out.box)) ?_
          clear hK K
          (try simp only [ptS, stA, st0, stS])
          refine tkS (i := 12) (v := ?_) (by simp only [opA, opS, op0]; exact rfl) (by kernel_rfl) (by kernel_rfl) (HKP.out _ HE_4.out.box) ?_ ?_
          rotate_left
          · intro w hS
            (try dsimp only at hS); first | (go_simp; done) | (go_simp; with_reducible rfl)
          (try simp only [ptS, stA, st0, stS])
          refine wpAnyP_ready (rs := [11]) (by kernel_rfl) (by simp) ?_
          refine (AllReadyP.cons (by simp only [opA, opS, op0]; exact rfl) (fun K hK => ?_) AllReadyP.nil)
          refine step_append_lies _ (by rfl) _ _ _ (by rfl) (EB + 1) 2 j0 _ 1 8 Try.underlying73 hj0 hy0 hy1 hy2 rfl (by omega) vv VS.length VS (by rfl) HE_4.out.ov ⟨B10, 0, none⟩ 1 1 [Value.int .i64 xv] (by rfl) (by rfl) (World.news_of_block (cs := #[Value.int .i64 xv]) (t := 2) (fr := (0, 0)) HL10_4.out) (by simp [Value.oneCell']) (by omega) HR2.out.1 HR2.out.2 HE_4.out.ns' w4.heap.size (by rfl) ?_
          intro g11 c11 w11 hown hgrow hat _
          obtain ⟨qa11, qn11, qc11, HQ11⟩ : ∃ qa qn qc, Hid (Value.slice qa qn qc = Value.slice (some ⟨g11, 0, none⟩) (VS.length + 1) c11) := ⟨_, _, _, Lib.hid rfl⟩
          have HO11 := Lib.hid (show w11.ownsRow (EB + 1) 2 1 (Value.slice qa11 qn11 qc11) (VS ++ [Value.int .i64 xv]).length (VS ++ [Value.int .i64 xv]) by rw [HQ11.out, List.length_append]; exact hown)
          have HE_11 := Lib.hid (HE_4.out.growV HO11.out hgrow (lies_own HQ11.out hat))
          clear hown hgrow hat
          rw [← HQ11.out]
          refine hK.out _ _ (fun _ => (HKP.out _ HE_11.out.box)) ?_
          clear hK K
          (try simp only [ptS, stA, st0, stS])
          refine wpAnyP_ready (rs := [13]) (by kernel_rfl) (by simp) ?_
          refine (AllReadyP.cons (by simp only [opA, opS, op0]; exact rfl) (fun K hK => ?_) AllReadyP.nil)
          rw [if_pos (by kernel_rfl)]
          have c0 : w11.cell? ⟨EB, 0, none⟩ = some nv := by simp [World.cell?, HE_11.out.box]
          have f0 := thaw HE_11.out.box 0
          have hbs := cell_lt c0
          go_simp
          have HE_13 := Lib.hid (show EnvB EB _ (w11.setCell ⟨EB, 0, none⟩ (Value.slice qa4 qn4 qc4)) #[(Value.slice qa4 qn4 qc4), vv, .slice none 0 0, .slice none 0 0, .int .i64 now] _ _ _ _ _ _ _ _ _ from HE_11.out.store 0 (Value.slice qa4 qn4 qc4))
          generalize w11.setCell ⟨EB, 0, none⟩ (Value.slice qa4 qn4 qc4) = w13 at *
          clear c0 f0 hbs
          refine hK.out _ _ (gone (by kernel_rfl)) ?_
          clear hK K
          (try simp only [ptN])
          refine wpAnyP_ready (rs := [14]) (by kernel_rfl) (by simp) ?_
          refine (AllReadyP.cons (by simp only [opA, opS, op0]; exact rfl) (fun K hK => ?_) AllReadyP.nil)
          rw [if_pos (by kernel_rfl)]
          go_simp
          refine hK.out _ _ (gone (by kernel_rfl)) ?_
          clear hK K
          (try simp only [ptS, stA, st0, stS])
          refine wpAnyP_ready (rs := [15]) (by kernel_rfl) (by simp) ?_
          refine (AllReadyP.cons (by simp only [opA, opS, op0]; exact rfl) (fun K hK => ?_) AllReadyP.nil)
          rw [if_pos (by kernel_rfl)]
          have c0 : w13.cell? ⟨EB, 1, none⟩ = some vv := by simp [World.cell?, HE_13.out.box]
          have f0 := thaw HE_13.out.box 1
          have hbs := cell_lt c0
          go_simp
          have HE_15 := Lib.hid (show EnvB EB _ (w13.setCell ⟨EB, 1, none⟩ (Value.slice qa11 qn11 qc11)) #[(Value.slice qa4 qn4 qc4), (Value.slice qa11 qn11 qc11), .slice none 0 0, .slice none 0 0, .int .i64 now] _ _ _ _ _ _ _ _ _ from HE_13.out.store 1 (Value.slice qa11 qn11 qc11))
          generalize w13.setCell ⟨EB, 1, none⟩ (Value.slice qa11 qn11 qc11) = w15 at *
          clear c0 f0 hbs
          refine hK.out _ _ (gone (by kernel_rfl)) ?_
          clear hK K
          (try simp only [ptN])
          refine wpAnyP_done (by kernel_rfl) ?_ _
          have hlt9 := HLT.out
          go_wp2_with fail
          go_roundw
          case rel => exact ⟨j + 1, (Value.slice qa4 qn4 qc4), (Value.slice qa11 qn11 qc11), by have := HLT.out; omega, by go_num, Lib.hid (by have h := HE_15.out; rw [HT.out, valsD_succ, List.map_append, List.map_append, HNS.out, HVS.out, HXV.out]; exact h)⟩
          case measure => have := HLT.out; simp [intOf]; omega
      · rw [if_pos (by kernel_rfl)]
        have HA10 := Lib.hid (more_allocD wd (.cells #[Value.int .i64 xv] 2))
        have HL10 := Lib.hid (alloc_last wd (.cells #[Value.int .i64 xv] 2))
        obtain ⟨B10, HB10⟩ : ∃ B, Hid (B = wd.heap.size) := ⟨_, Lib.hid rfl⟩
        go_simp
        rw [← HB10.out] at HL10 ⊢
        generalize wd.alloc (.cells #[Value.int .i64 xv] 2) = w10 at *
        have HE_10 := Lib.hid (HEd.out.more HA10.out)
        refine hK.out _ _ (fun _ => (HKP.out _ HE_10.out.box)) ?_
        clear hK K
        (try simp only [ptS, stA, st0, stS])
        refine wpAnyP_ready (rs := [3]) (by kernel_rfl) (by simp) ?_
        refine (AllReadyP.cons (by simp only [opA, opS, op0]; exact rfl) (fun K hK => ?_) AllReadyP.nil)
        rw [if_pos (by kernel_rfl)]
        have HA3 := Lib.hid (more_allocD w10 (.cells #[Value.string s] 9))
        have HL3 := Lib.hid (alloc_last w10 (.cells #[Value.string s] 9))
        obtain ⟨B3, HB3⟩ : ∃ B, Hid (B = w10.heap.size) := ⟨_, Lib.hid rfl⟩
        go_simp
        rw [← HB3.out] at HL3 ⊢
        generalize w10.alloc (.cells #[Value.string s] 9) = w3 at *
        have HE_3 := Lib.hid (HE_10.out.more HA3.out)
        have HL10_3 := Lib.hid ((HA3.out.block (blk_ltD HL10.out)).trans HL10.out)
        refine hK.out _ _ (fun _ => (HKP.out _ HE_3.out.box)) ?_
        clear hK K
        (try simp only [ptS, stA, st0, stS])
        refine wpAnyP_ready (rs := [4]) (by kernel_rfl) (by simp) ?_
        refine (AllReadyP.cons (by simp only [opA, opS, op0]; exact rfl) (fun K hK => ?_) AllReadyP.nil)
        refine step_append_lies _ (by rfl) _ _ _ (by rfl) (EB + 1) 9 i0 _ 1 16 Try.underlying90 hi0 hz0 hz1 hz2 rfl (by omega) nv NS.length NS (by rfl) HE_3.out.on ⟨B3, 0, none⟩ 1 1 [Value.string s] (by rfl) (by rfl) (World.news_of_block (cs := #[Value.string s]) (t := 9) (fr := (0, 0)) HL3.out) (by simp [Value.oneCell']) (by omega) HR1.out.1 HR1.out.2 HE_3.out.ns' w3.heap.size (by rfl) ?_
        intro g4 c4 w4 hown hgrow hat _
        obtain ⟨qa4, qn4, qc4, HQ4⟩ : ∃ qa qn qc, Hid (Value.slice qa qn qc = Value.slice (some ⟨g4, 0, none⟩) (NS.length + 1) c4) := ⟨_, _, _, Lib.hid rfl⟩
        have HO4 := Lib.hid (show w4.ownsRow (EB + 1) 9 1 (Value.slice qa4 qn4 qc4) (NS ++ [Value.string s]).length (NS ++ [Value.string s]) by rw [HQ4.out, List.length_append]; exact hown)
        have HE_4 := Lib.hid (HE_3.out.growN HO4.out hgrow (lies_own HQ4.out hat))
        have HL10_3_4 := Lib.hid (blk_grow HE_3.out.on HL10_3.out (by decide) hgrow)
        clear hown hgrow hat
        rw [← HQ4.out]
        refine hK.out _ _ (fun _ => (HKP.out _ HE_4.out.box)) ?_
        clear hK K
        (try simp only [ptS, stA, st0, stS])
        refine tkS (i := 12) (v := ?_) (by simp only [opA, opS, op0]; exact rfl) (by kernel_rfl) (by kernel_rfl) (HKP.out _ HE_4.out.box) ?_ ?_
        rotate_left
        · intro w hS
          (try dsimp only at hS); first | (go_simp; done) | (go_simp; with_reducible rfl)
        (try simp only [ptS, stA, st0, stS])
        refine wpAnyP_ready (rs := [11]) (by kernel_rfl) (by simp) ?_
        refine (AllReadyP.cons (by simp only [opA, opS, op0]; exact rfl) (fun K hK => ?_) AllReadyP.nil)
        refine step_append_lies _ (by rfl) _ _ _ (by rfl) (EB + 1) 2 j0 _ 1 8 Try.underlying73 hj0 hy0 hy1 hy2 rfl (by omega) vv VS.length VS (by rfl) HE_4.out.ov ⟨B10, 0, none⟩ 1 1 [Value.int .i64 xv] (by rfl) (by rfl) (World.news_of_block (cs := #[Value.int .i64 xv]) (t := 2) (fr := (0, 0)) HL10_3_4.out) (by simp [Value.oneCell']) (by omega) HR2.out.1 HR2.out.2 HE_4.out.ns' w4.heap.size (by rfl) ?_
        intro g11 c11 w11 hown hgrow hat _
        obtain ⟨qa11, qn11, qc11, HQ11⟩ : ∃ qa qn qc, Hid (Value.slice qa qn qc = Value.slice (some ⟨g11, 0, none⟩) (VS.length + 1) c11) := ⟨_, _, _, Lib.hid rfl⟩
        have HO11 := Lib.hid (show w11.ownsRow (EB + 1) 2 1 (Value.slice qa11 qn11 qc11) (VS ++ [Value.int .i64 xv]).length (VS ++ [Value.int .i64 xv]) by rw [HQ11.out, List.length_append]; exact hown)
        have HE_11 := Lib.hid (HE_4.out.growV HO11.out hgrow (lies_own HQ11.out hat))
        clear hown hgrow hat
        rw [← HQ11.out]
        refine hK.out _ _ (fun _ => (HKP.out _ HE_11.out.box)) ?_
        clear hK K
        (try simp only [ptS, stA, st0, stS])
        refine wpAnyP_ready (rs := [13]) (by kernel_rfl) (by simp) ?_
        refine (AllReadyP.cons (by simp only [opA, opS, op0]; exact rfl) (fun K hK => ?_) AllReadyP.nil)
        rw [if_pos (by kernel_rfl)]
        have c0 : w11.cell? ⟨EB, 0, none⟩ = some nv := by simp [World.cell?, HE_11.out.box]
        have f0 := thaw HE_11.out.box 0
        have hbs := cell_lt c0
        go_simp
        have HE_13 := Lib.hid (show EnvB EB _ (w11.setCell ⟨EB, 0, none⟩ (Value.slice qa4 qn4 qc4)) #[(Value.slice qa4 qn4 qc4), vv, .slice none 0 0, .slice none 0 0, .int .i64 now] _ _ _ _ _ _ _ _ _ from HE_11.out.store 0 (Value.slice qa4 qn4 qc4))
        generalize w11.setCell ⟨EB, 0, none⟩ (Value.slice qa4 qn4 qc4) = w13 at *
        clear c0 f0 hbs
        refine hK.out _ _ (gone (by kernel_rfl)) ?_
        clear hK K
        (try simp only [ptN])
        refine wpAnyP_ready (rs := [14]) (by kernel_rfl) (by simp) ?_
        refine (AllReadyP.cons (by simp only [opA, opS, op0]; exact rfl) (fun K hK => ?_) AllReadyP.nil)
        rw [if_pos (by kernel_rfl)]
        go_simp
        refine hK.out _ _ (gone (by kernel_rfl)) ?_
        clear hK K
        (try simp only [ptS, stA, st0, stS])
        refine wpAnyP_ready (rs := [15]) (by kernel_rfl) (by simp) ?_
        refine (AllReadyP.cons (by simp only [opA, opS, op0]; exact rfl) (fun K hK => ?_) AllReadyP.nil)
        rw [if_pos (by kernel_rfl)]
        have c0 : w13.cell? ⟨EB, 1, none⟩ = some vv := by simp [World.cell?, HE_13.out.box]
        have f0 := thaw HE_13.out.box 1
        have hbs := cell_lt c0
        go_simp
        have HE_15 := Lib.hid (show EnvB EB _ (w13.setCell ⟨EB, 1, none⟩ (Value.slice qa11 qn11 qc11)) #[(Value.slice qa4 qn4 qc4), (Value.slice qa11 qn11 qc11), .slice none 0 0, .slice none 0 0, .int .i64 now] _ _ _ _ _ _ _ _ _ from HE_13.out.store 1 (Value.slice qa11 qn11 qc11))
        generalize w13.setCell ⟨EB, 1, none⟩ (Value.slice qa11 qn11 qc11) = w15 at *
        clear c0 f0 hbs
        refine hK.out _ _ (gone (by kernel_rfl)) ?_
        clear hK K
        (try simp only [ptN])
        refine wpAnyP_done (by kernel_rfl) ?_ _
        have hlt9 := HLT.out
        go_wp2_with fail
        go_roundw
        case rel => exact ⟨j + 1, (Value.slice qa4 qn4 qc4), (Value.slice qa11 qn11 qc11), by have := HLT.out; omega, by go_num, Lib.hid (by have h := HE_15.out; rw [HT.out, valsD_succ, List.map_append, List.map_append, HNS.out, HVS.out, HXV.out]; exact h)⟩
        case measure => have := HLT.out; simp [intOf]; omega
    · have hje : j = pn := by omega
      rw [hje, List.take_of_length_le (by rw [HPN.out]; exact Nat.le_refl _)] at HE
      clear hje hj HMW
      go_upto_region 11 with fail
      clear hlt
      have hqn := HLB.out
      go_wp2_with fail
      go_loopw [56] (fun i wr => ∃ (m : Nat) (tv bv : Value) (bs : List Value), m ≤ qn ∧ i = .int .i64 m ∧ Hid (EnvB EB w6 wr #[nv, vv, tv, bv, .int .i64 now] nv vv tv bv (PA.map .string) ((valsD vn pn).map (.int .i64)) ((PB.take m).map .string) bs (tabsD vn now m))) (fun i _ => qn - (intOf i).toNat)
      case atStart => exact ⟨0, _, _, [], Nat.zero_le _, rfl, HE⟩
      case round =>
        obtain ⟨m, tv, bv, bs, hm, rfl, HE⟩ := hrel
        obtain ⟨wo2, rfl⟩ : ∃ wo2 : World, wo2 = wr := ⟨_, rfl⟩
        have hqn := HLB.out
        have HMW := Lib.hid (show More w6 wo2 from more_of (by have h := HE.out.low; rwa [HEB.out] at h))
        by_cases hlt : m < qn
        · have hne : qn ≠ 0 := by omega
          obtain ⟨b, off, hb, _, _, hc⟩ := HT6.out.at hne
          have hlp : m < PB.length := by rw [HQN.out]; exact hlt
          have e0 : wo2.cell? ⟨b, off + m, none⟩ = some (.string PB[m]) := HMW.out.cell (by have h := hc m (.string PB[m]) (by simp [sV, hlp]); simpa using h)
          have HT := Lib.hid (show PB.take (m + 1) = PB.take m ++ [PB[m]] from List.take_succ_eq_append_getElem hlp)
          have HLT := Lib.hid hlt
          generalize PB[m] = s at *
          clear hc hne
          subst hb
          have hbe := cell_lt e0
          go_upto_region 14 with fail
          clear e0 hbe hlp
          have HKP := Lib.hid (show ∀ W : World, W.heap[EB]? = some (.cells #[nv, vv, tv, bv, .int .i64 now] 97) → (W.cell? ⟨EB, 2, none⟩ = some tv ∧ W.cell? ⟨EB, 3, none⟩ = some bv) from fun W h => ⟨by simp [World.cell?, h], by simp [World.cell?, h]⟩)
          have HEd := Lib.hid (HE.out.more (more_drew wo2))
          have HR1 := Lib.hid (show ((PB.take m).map Value.string).length + 1 ≤ maxLen ∧ (((PB.take m).map Value.string).length + 1) * 16 ≤ 140737488355328 from by have h1 := HLT.out; have h2 := HLB.out; rw [List.length_map, List.length_take]; unfold maxLen; omega)
          have HR2 := Lib.hid (show bs.length + 1 ≤ maxLen ∧ (bs.length + 1) * 24 ≤ 140737488355328 from by have h1 := HLT.out; have h2 := HLB.out; rw [HE.out.tl, tabsD_len]; unfold maxLen; omega)
          obtain ⟨NS, HNS⟩ : ∃ l, Hid (PA.map Value.string = l) := ⟨_, Lib.hid rfl⟩
          obtain ⟨VS, HVS⟩ : ∃ l, Hid ((valsD vn pn).map (Value.int .i64) = l) := ⟨_, Lib.hid rfl⟩
          obtain ⟨TS, HTS⟩ : ∃ l, Hid ((PB.take m).map Value.string = l) := ⟨_, Lib.hid rfl⟩
          obtain ⟨TT, HTT⟩ : ∃ l, Hid (tabsD vn now m = l) := ⟨_, Lib.hid rfl⟩
          rw [HNS.out, HVS.out, HTS.out, HTT.out] at HEd
          rw [HTS.out] at HR1
          refine wp_region_heldP (S := fun W => W.cell? ⟨EB, 2, none⟩ = some tv ∧ W.cell? ⟨EB, 3, none⟩ = some bv) 17 (by kernel_rfl) ?_
          generalize wo2.drew = wd at *
          refine tkS (i := 0) (v := ?_) (by simp only [opA, op0]; exact rfl) (by kernel_rfl) (by kernel_rfl) (HKP.out _ HEd.out.box) ?_ ?_
          rotate_left
          · intro w hS
            (try dsimp only at hS); first | (go_simp; done) | (go_simp; with_reducible rfl)
          (try simp only [ptS, stA, st0, stS])
          refine tkS (i := 1) (v := ?_) (by simp only [opA, opS, op0]; exact rfl) (by kernel_rfl) (by kernel_rfl) (HKP.out _ HEd.out.box) ?_ ?_
          rotate_left
          · intro w hS
            (try dsimp only at hS); first | (go_simp; done) | (go_simp; with_reducible rfl)
          (try simp only [ptS, stA, st0, stS])
          refine tkS (i := 2) (v := ?_) (by simp only [opA, opS, op0]; exact rfl) (by kernel_rfl) (by kernel_rfl) (HKP.out _ HEd.out.box) ?_ ?_
          rotate_left
          · intro w hS
            (try dsimp only at hS); first | (go_simp; done) | (go_simp; with_reducible rfl)
          (try simp only [ptS, stA, st0, stS])
          refine tkS (i := 5) (v := ?_) (by simp only [opA, opS, op0]; exact rfl) (by kernel_rfl) (by kernel_rfl) (HKP.out _ HEd.out.box) ?_ ?_
          rotate_left
          · intro w hS
            (try dsimp only at hS); first | (go_simp; done) | (go_simp; with_reducible rfl)
          (try simp only [ptS, stA, st0, stS])
          refine tkS (i := 6) (v := ?_) (by simp only [opA, opS, op0]; exact rfl) (by kernel_rfl) (by kernel_rfl) (HKP.out _ HEd.out.box) ?_ ?_
          rotate_left
          · intro w hS
            (try dsimp only at hS); first | (go_simp; done) | (go_simp; with_reducible rfl)
          (try simp only [ptS, stA, st0, stS])
          refine tkW (i := 7) (v := ?_) (by simp only [opA, opS, op0]; exact rfl) (by kernel_rfl) (by kernel_rfl) (fun _ => (HKP.out _ HEd.out.box)) ?_ ?_
          rotate_left
          · intro w hS
            first | (go_simp; done) | (go_simp; with_reducible rfl)
          (try simp only [ptS, stA, st0, stS])
          refine tkW (i := 8) (v := ?_) (by simp only [opA, opS, op0]; exact rfl) (by kernel_rfl) (by kernel_rfl) (fun _ => (HKP.out _ HEd.out.box)) ?_ ?_
          rotate_left
          · intro w hS
            first | (go_simp; done) | (go_simp; with_reducible rfl)
          (try simp only [ptS, stA, st0, stS])
          refine tkW (i := 9) (v := ?_) (by simp only [opA, opS, op0]; exact rfl) (by kernel_rfl) (by kernel_rfl) (fun _ => (HKP.out _ HEd.out.box)) ?_ ?_
          rotate_left
          · intro w hS
            first | (go_simp; done) | (go_simp; with_reducible rfl)
          (try simp only [ptS, stA, st0, stS])
          refine tkW (i := 10) (v := ?_) (by simp only [opA, opS, op0]; exact rfl) (by kernel_rfl) (by kernel_rfl) (fun _ => (HKP.out _ HEd.out.box)) ?_ ?_
          rotate_left
          · intro w hS
            first | (go_simp; done) | (go_simp; with_reducible rfl)
          (try simp only [ptS, stA, st0, stS])
          refine tkW (i := 11) (v := ?_) (by simp only [opA, opS, op0]; exact rfl) (by kernel_rfl) (by kernel_rfl) (fun _ => (HKP.out _ HEd.out.box)) ?_ ?_
          rotate_left
          · intro w hS
            first | (go_simp; done) | (go_simp; with_reducible rfl)
          (try simp only [ptS, stA, st0, stS])
          refine wpAnyP_ready (rs := [3, 12]) (by kernel_rfl) (by simp) ?_
          refine (AllReadyP.cons (by simp only [opA, opS, op0]; exact rfl) (fun K hK => ?_) (AllReadyP.cons (by simp only [opA, opS, op0]; exact rfl) (fun K hK => ?_) AllReadyP.nil))
          · rw [if_pos (by kernel_rfl)]
            have HA3 := Lib.hid (more_allocD wd (.cells #[Value.string s] 9))
            have HL3 := Lib.hid (alloc_last wd (.cells #[Value.string s] 9))
            obtain ⟨B3, HB3⟩ : ∃ B, Hid (B = wd.heap.size) := ⟨_, Lib.hid rfl⟩
            go_simp
            rw [← HB3.out] at HL3 ⊢
            generalize wd.alloc (.cells #[Value.string s] 9) = w3 at *
            have HE_3 := Lib.hid (HEd.out.more HA3.out)
            refine hK.out _ _ (fun _ => (HKP.out _ HE_3.out.box)) ?_
            clear hK K
            (try simp only [ptS, stA, st0, stS])
            refine wpAnyP_ready (rs := [4, 12]) (by kernel_rfl) (by simp) ?_
            refine (AllReadyP.cons (by simp only [opA, opS, op0]; exact rfl) (fun K hK => ?_) (AllReadyP.cons (by simp only [opA, opS, op0]; exact rfl) (fun K hK => ?_) AllReadyP.nil))
            · refine step_append_lies _ (by rfl) _ _ _ (by rfl) (EB + 1) 9 i0 _ 1 16 Try.underlying90 hi0 hz0 hz1 hz2 rfl (by omega) tv TS.length TS (by rfl) HE_3.out.ot ⟨B3, 0, none⟩ 1 1 [Value.string s] (by rfl) (by rfl) (World.news_of_block (cs := #[Value.string s]) (t := 9) (fr := (0, 0)) HL3.out) (by simp [Value.oneCell']) (by omega) HR1.out.1 HR1.out.2 HE_3.out.ns' w3.heap.size (by rfl) ?_
              intro g4 c4 w4 hown hgrow hat _
              obtain ⟨qa4, qn4, qc4, HQ4⟩ : ∃ qa qn qc, Hid (Value.slice qa qn qc = Value.slice (some ⟨g4, 0, none⟩) (TS.length + 1) c4) := ⟨_, _, _, Lib.hid rfl⟩
              have HO4 := Lib.hid (show w4.ownsRow (EB + 1) 9 1 (Value.slice qa4 qn4 qc4) (TS ++ [Value.string s]).length (TS ++ [Value.string s]) by rw [HQ4.out, List.length_append]; exact hown)
              have HE_4 := Lib.hid (HE_3.out.growT HO4.out hgrow (lies_own HQ4.out hat))
              clear hown hgrow hat
              rw [← HQ4.out]
              refine hK.out _ _ (fun _ => (HKP.out _ HE_4.out.box)) ?_
              clear hK K
              (try simp only [ptS, stA, st0, stS])
              refine tkS (i := 16) (v := ?_) (by simp only [opA, opS, op0]; exact rfl) (by kernel_rfl) (by kernel_rfl) (HKP.out _ HE_4.out.box) ?_ ?_
              rotate_left
              · intro w hS
                (try dsimp only at hS); first | (go_simp; done) | (go_simp; with_reducible rfl)
              (try simp only [ptS, stA, st0, stS])
              refine wpAnyP_ready (rs := [12]) (by kernel_rfl) (by simp) ?_
              refine (AllReadyP.cons (by simp only [opA, opS, op0]; exact rfl) (fun K hK => ?_) AllReadyP.nil)
              rw [if_pos (by kernel_rfl)]
              have HA12 := Lib.hid (more_allocD w4 (.cells #[.int .i64 vn, .int .i64 m, .int .i64 0, .int .i64 now] 66))
              have HL12 := Lib.hid (alloc_last w4 (.cells #[.int .i64 vn, .int .i64 m, .int .i64 0, .int .i64 now] 66))
              obtain ⟨B12, HB12⟩ : ∃ B, Hid (B = w4.heap.size) := ⟨_, Lib.hid rfl⟩
              go_simp
              rw [← HB12.out] at HL12 ⊢
              generalize w4.alloc (.cells #[.int .i64 vn, .int .i64 m, .int .i64 0, .int .i64 now] 66) = w12 at *
              have HE_12 := Lib.hid (HE_4.out.more HA12.out)
              refine hK.out _ _ (fun _ => (HKP.out _ HE_12.out.box)) ?_
              clear hK K
              (try simp only [ptS, stA, st0, stS])
              refine wpAnyP_ready (rs := [13]) (by kernel_rfl) (by simp) ?_
              refine (AllReadyP.cons (by simp only [opA, opS, op0]; exact rfl) (fun K hK => ?_) AllReadyP.nil)
              rw [if_pos (by kernel_rfl)]
              have HC13 := Lib.hid (of_any (fun _ => True) [(vn, (m : Int)), (0, now)] (.slice (some ⟨B12, 0, none⟩) 2 2) w12 (by simp) (row_lit (n := 2) (size := 2) HL12.out rfl))
              go_simp
              refine HC13.out.mono ?_
              rintro e w13 ⟨hb, x13, rfl, hr⟩
              have HM13 := Lib.hid (more_of hb)
              have HT13 := Lib.hid (tab_new HE_12.out hr)
              obtain ⟨xa13, xc13, rfl, _⟩ := hr.shape
              clear hb hr HC13
              have HE_13 := Lib.hid (HE_12.out.more HM13.out)
              try go_wp2_with fail
              refine hK.out _ _ (fun _ => (HKP.out _ HE_13.out.box)) ?_
              clear hK K
              (try simp only [ptS, stA, st0, stS])
              refine wpAnyP_ready (rs := [14]) (by kernel_rfl) (by simp) ?_
              refine (AllReadyP.cons (by simp only [opA, opS, op0]; exact rfl) (fun K hK => ?_) AllReadyP.nil)
              rw [if_pos (by kernel_rfl)]
              have HA14 := Lib.hid (more_allocD w13 (.cells #[(Value.slice xa13 (ofL [(vn, (m : Int)), (0, now)]).length xc13)] 54))
              have HL14 := Lib.hid (alloc_last w13 (.cells #[(Value.slice xa13 (ofL [(vn, (m : Int)), (0, now)]).length xc13)] 54))
              obtain ⟨B14, HB14⟩ : ∃ B, Hid (B = w13.heap.size) := ⟨_, Lib.hid rfl⟩
              go_simp
              rw [← HB14.out] at HL14 ⊢
              generalize w13.alloc (.cells #[(Value.slice xa13 (ofL [(vn, (m : Int)), (0, now)]).length xc13)] 54) = w14 at *
              have HE_14 := Lib.hid (HE_13.out.more HA14.out)
              have HT13_14 := Lib.hid (HT13.out.mono (fun _ k => k) (fun b off u _ hc => HA14.out.cell hc))
              refine hK.out _ _ (fun _ => (HKP.out _ HE_14.out.box)) ?_
              clear hK K
              (try simp only [ptS, stA, st0, stS])
              refine wpAnyP_ready (rs := [15]) (by kernel_rfl) (by simp) ?_
              refine (AllReadyP.cons (by simp only [opA, opS, op0]; exact rfl) (fun K hK => ?_) AllReadyP.nil)
              refine step_append_lies _ (by rfl) _ _ _ (by rfl) (EB + 1) 54 k0 _ 1 24 Try.underlying47 hk0 hx0 hx1 hx2 rfl (by omega) bv bs.length bs (by rfl) HE_14.out.ob ⟨B14, 0, none⟩ 1 1 [(Value.slice xa13 (ofL [(vn, (m : Int)), (0, now)]).length xc13)] (by rfl) (by rfl) (World.news_of_block (cs := #[(Value.slice xa13 (ofL [(vn, (m : Int)), (0, now)]).length xc13)]) (t := 54) (fr := (0, 0)) HL14.out) (by simp [Value.oneCell']) (by omega) HR2.out.1 HR2.out.2 HE_14.out.ns' w14.heap.size (by rfl) ?_
              intro g15 c15 w15 hown hgrow hat _
              obtain ⟨qa15, qn15, qc15, HQ15⟩ : ∃ qa qn qc, Hid (Value.slice qa qn qc = Value.slice (some ⟨g15, 0, none⟩) (bs.length + 1) c15) := ⟨_, _, _, Lib.hid rfl⟩
              have HO15 := Lib.hid (show w15.ownsRow (EB + 1) 54 1 (Value.slice qa15 qn15 qc15) (bs ++ [(Value.slice xa13 (ofL [(vn, (m : Int)), (0, now)]).length xc13)]).length (bs ++ [(Value.slice xa13 (ofL [(vn, (m : Int)), (0, now)]).length xc13)]) by rw [HQ15.out, List.length_append]; exact hown)
              have HE_15 := Lib.hid (HE_14.out.growB HO15.out hgrow (lies_own HQ15.out hat) (by rw [List.length_append, List.length_append, HE_14.out.tl]; rfl) (tab_push HE_14.out.tr HE_14.out.tl HT13_14.out))
              clear hown hgrow hat
              rw [← HQ15.out]
              refine hK.out _ _ (fun _ => (HKP.out _ HE_15.out.box)) ?_
              clear hK K
              (try simp only [ptS, stA, st0, stS])
              refine wpAnyP_ready (rs := [17]) (by kernel_rfl) (by simp) ?_
              refine (AllReadyP.cons (by simp only [opA, opS, op0]; exact rfl) (fun K hK => ?_) AllReadyP.nil)
              rw [if_pos (by kernel_rfl)]
              have c0 : w15.cell? ⟨EB, 2, none⟩ = some tv := by simp [World.cell?, HE_15.out.box]
              have f0 := thaw HE_15.out.box 2
              have hbs := cell_lt c0
              go_simp
              have HE_17 := Lib.hid (show EnvB EB _ (w15.setCell ⟨EB, 2, none⟩ (Value.slice qa4 qn4 qc4)) #[nv, vv, (Value.slice qa4 qn4 qc4), bv, .int .i64 now] _ _ _ _ _ _ _ _ _ from HE_15.out.store 2 (Value.slice qa4 qn4 qc4))
              generalize w15.setCell ⟨EB, 2, none⟩ (Value.slice qa4 qn4 qc4) = w17 at *
              clear c0 f0 hbs
              refine hK.out _ _ (gone (by kernel_rfl)) ?_
              clear hK K
              (try simp only [ptN])
              refine wpAnyP_ready (rs := [18]) (by kernel_rfl) (by simp) ?_
              refine (AllReadyP.cons (by simp only [opA, opS, op0]; exact rfl) (fun K hK => ?_) AllReadyP.nil)
              rw [if_pos (by kernel_rfl)]
              go_simp
              refine hK.out _ _ (gone (by kernel_rfl)) ?_
              clear hK K
              (try simp only [ptS, stA, st0, stS])
              refine wpAnyP_ready (rs := [19]) (by kernel_rfl) (by simp) ?_
              refine (AllReadyP.cons (by simp only [opA, opS, op0]; exact rfl) (fun K hK => ?_) AllReadyP.nil)
              rw [if_pos (by kernel_rfl)]
              have c0 : w17.cell? ⟨EB, 3, none⟩ = some bv := by simp [World.cell?, HE_17.out.box]
              have f0 := thaw HE_17.out.box 3
              have hbs := cell_lt c0
              go_simp
              have HE_19 := Lib.hid (show EnvB EB _ (w17.setCell ⟨EB, 3, none⟩ (Value.slice qa15 qn15 qc15)) #[nv, vv, (Value.slice qa4 qn4 qc4), (Value.slice qa15 qn15 qc15), .int .i64 now] _ _ _ _ _ _ _ _ _ from HE_17.out.store 3 (Value.slice qa15 qn15 qc15))
              generalize w17.setCell ⟨EB, 3, none⟩ (Value.slice qa15 qn15 qc15) = w19 at *
              clear c0 f0 hbs
              refine hK.out _ _ (gone (by kernel_rfl)) ?_
              clear hK K
              (try simp only [ptN])
              refine wpAnyP_done (by kernel_rfl) ?_ _
              have hlt9 := HLT.out
              go_wp2_with fail
              go_roundw
              case rel => exact ⟨m + 1, (Value.slice qa4 qn4 qc4), (Value.slice qa15 qn15 qc15), bs ++ [(Value.slice xa13 (ofL [(vn, (m : Int)), (0, now)]).length xc13)], by have := HLT.out; omega, by go_num, Lib.hid (by have h := HE_19.out; rw [HT.out, tabsD_succ, List.map_append, HNS.out, HVS.out, HTS.out, HTT.out]; exact h)⟩
              case measure => have := HLT.out; simp [intOf]; omega
            · rw [if_pos (by kernel_rfl)]
              have HA12 := Lib.hid (more_allocD w3 (.cells #[.int .i64 vn, .int .i64 m, .int .i64 0, .int .i64 now] 66))
              have HL12 := Lib.hid (alloc_last w3 (.cells #[.int .i64 vn, .int .i64 m, .int .i64 0, .int .i64 now] 66))
              obtain ⟨B12, HB12⟩ : ∃ B, Hid (B = w3.heap.size) := ⟨_, Lib.hid rfl⟩
              go_simp
              rw [← HB12.out] at HL12 ⊢
              generalize w3.alloc (.cells #[.int .i64 vn, .int .i64 m, .int .i64 0, .int .i64 now] 66) = w12 at *
              have HE_12 := Lib.hid (HE_3.out.more HA12.out)
              have HL3_12 := Lib.hid ((HA12.out.block (blk_ltD HL3.out)).trans HL3.out)
              refine hK.out _ _ (fun _ => (HKP.out _ HE_12.out.box)) ?_
              clear hK K
              (try simp only [ptS, stA, st0, stS])
              refine wpAnyP_ready (rs := [4]) (by kernel_rfl) (by simp) ?_
              refine (AllReadyP.cons (by simp only [opA, opS, op0]; exact rfl) (fun K hK => ?_) AllReadyP.nil)
              refine step_append_lies _ (by rfl) _ _ _ (by rfl) (EB + 1) 9 i0 _ 1 16 Try.underlying90 hi0 hz0 hz1 hz2 rfl (by omega) tv TS.length TS (by rfl) HE_12.out.ot ⟨B3, 0, none⟩ 1 1 [Value.string s] (by rfl) (by rfl) (World.news_of_block (cs := #[Value.string s]) (t := 9) (fr := (0, 0)) HL3_12.out) (by simp [Value.oneCell']) (by omega) HR1.out.1 HR1.out.2 HE_12.out.ns' w12.heap.size (by rfl) ?_
              intro g4 c4 w4 hown hgrow hat _
              obtain ⟨qa4, qn4, qc4, HQ4⟩ : ∃ qa qn qc, Hid (Value.slice qa qn qc = Value.slice (some ⟨g4, 0, none⟩) (TS.length + 1) c4) := ⟨_, _, _, Lib.hid rfl⟩
              have HO4 := Lib.hid (show w4.ownsRow (EB + 1) 9 1 (Value.slice qa4 qn4 qc4) (TS ++ [Value.string s]).length (TS ++ [Value.string s]) by rw [HQ4.out, List.length_append]; exact hown)
              have HE_4 := Lib.hid (HE_12.out.growT HO4.out hgrow (lies_own HQ4.out hat))
              have HL12_4 := Lib.hid (blk_grow HE_12.out.ot HL12.out (by decide) hgrow)
              clear hown hgrow hat
              rw [← HQ4.out]
              refine hK.out _ _ (fun _ => (HKP.out _ HE_4.out.box)) ?_
              clear hK K
              (try simp only [ptS, stA, st0, stS])
              refine tkS (i := 16) (v := ?_) (by simp only [opA, opS, op0]; exact rfl) (by kernel_rfl) (by kernel_rfl) (HKP.out _ HE_4.out.box) ?_ ?_
              rotate_left
              · intro w hS
                (try dsimp only at hS); first | (go_simp; done) | (go_simp; with_reducible rfl)
              (try simp only [ptS, stA, st0, stS])
              refine wpAnyP_ready (rs := [13]) (by kernel_rfl) (by simp) ?_
              refine (AllReadyP.cons (by simp only [opA, opS, op0]; exact rfl) (fun K hK => ?_) AllReadyP.nil)
              rw [if_pos (by kernel_rfl)]
              have HC13 := Lib.hid (of_any (fun _ => True) [(vn, (m : Int)), (0, now)] (.slice (some ⟨B12, 0, none⟩) 2 2) w4 (by simp) (row_lit (n := 2) (size := 2) HL12_4.out rfl))
              go_simp
              refine HC13.out.mono ?_
              rintro e w13 ⟨hb, x13, rfl, hr⟩
              have HM13 := Lib.hid (more_of hb)
              have HT13 := Lib.hid (tab_new HE_4.out hr)
              obtain ⟨xa13, xc13, rfl, _⟩ := hr.shape
              clear hb hr HC13
              have HE_13 := Lib.hid (HE_4.out.more HM13.out)
              try go_wp2_with fail
              refine hK.out _ _ (fun _ => (HKP.out _ HE_13.out.box)) ?_
              clear hK K
              (try simp only [ptS, stA, st0, stS])
              refine wpAnyP_ready (rs := [14]) (by kernel_rfl) (by simp) ?_
              refine (AllReadyP.cons (by simp only [opA, opS, op0]; exact rfl) (fun K hK => ?_) AllReadyP.nil)
              rw [if_pos (by kernel_rfl)]
              have HA14 := Lib.hid (more_allocD w13 (.cells #[(Value.slice xa13 (ofL [(vn, (m : Int)), (0, now)]).length xc13)] 54))
              have HL14 := Lib.hid (alloc_last w13 (.cells #[(Value.slice xa13 (ofL [(vn, (m : Int)), (0, now)]).length xc13)] 54))
              obtain ⟨B14, HB14⟩ : ∃ B, Hid (B = w13.heap.size) := ⟨_, Lib.hid rfl⟩
              go_simp
              rw [← HB14.out] at HL14 ⊢
              generalize w13.alloc (.cells #[(Value.slice xa13 (ofL [(vn, (m : Int)), (0, now)]).length xc13)] 54) = w14 at *
              have HE_14 := Lib.hid (HE_13.out.more HA14.out)
              have HT13_14 := Lib.hid (HT13.out.mono (fun _ k => k) (fun b off u _ hc => HA14.out.cell hc))
              refine hK.out _ _ (fun _ => (HKP.out _ HE_14.out.box)) ?_
              clear hK K
              (try simp only [ptS, stA, st0, stS])
              refine wpAnyP_ready (rs := [15]) (by kernel_rfl) (by simp) ?_
              refine (AllReadyP.cons (by simp only [opA, opS, op0]; exact rfl) (fun K hK => ?_) AllReadyP.nil)
              refine step_append_lies _ (by rfl) _ _ _ (by rfl) (EB + 1) 54 k0 _ 1 24 Try.underlying47 hk0 hx0 hx1 hx2 rfl (by omega) bv bs.length bs (by rfl) HE_14.out.ob ⟨B14, 0, none⟩ 1 1 [(Value.slice xa13 (ofL [(vn, (m : Int)), (0, now)]).length xc13)] (by rfl) (by rfl) (World.news_of_block (cs := #[(Value.slice xa13 (ofL [(vn, (m : Int)), (0, now)]).length xc13)]) (t := 54) (fr := (0, 0)) HL14.out) (by simp [Value.oneCell']) (by omega) HR2.out.1 HR2.out.2 HE_14.out.ns' w14.heap.size (by rfl) ?_
              intro g15 c15 w15 hown hgrow hat _
              obtain ⟨qa15, qn15, qc15, HQ15⟩ : ∃ qa qn qc, Hid (Value.slice qa qn qc = Value.slice (some ⟨g15, 0, none⟩) (bs.length + 1) c15) := ⟨_, _, _, Lib.hid rfl⟩
              have HO15 := Lib.hid (show w15.ownsRow (EB + 1) 54 1 (Value.slice qa15 qn15 qc15) (bs ++ [(Value.slice xa13 (ofL [(vn, (m : Int)), (0, now)]).length xc13)]).length (bs ++ [(Value.slice xa13 (ofL [(vn, (m : Int)), (0, now)]).length xc13)]) by rw [HQ15.out, List.length_append]; exact hown)
              have HE_15 := Lib.hid (HE_14.out.growB HO15.out hgrow (lies_own HQ15.out hat) (by rw [List.length_append, List.length_append, HE_14.out.tl]; rfl) (tab_push HE_14.out.tr HE_14.out.tl HT13_14.out))
              clear hown hgrow hat
              rw [← HQ15.out]
              refine hK.out _ _ (fun _ => (HKP.out _ HE_15.out.box)) ?_
              clear hK K
              (try simp only [ptS, stA, st0, stS])
              refine wpAnyP_ready (rs := [17]) (by kernel_rfl) (by simp) ?_
              refine (AllReadyP.cons (by simp only [opA, opS, op0]; exact rfl) (fun K hK => ?_) AllReadyP.nil)
              rw [if_pos (by kernel_rfl)]
              have c0 : w15.cell? ⟨EB, 2, none⟩ = some tv := by simp [World.cell?, HE_15.out.box]
              have f0 := thaw HE_15.out.box 2
              have hbs := cell_lt c0
              go_simp
              have HE_17 := Lib.hid (show EnvB EB _ (w15.setCell ⟨EB, 2, none⟩ (Value.slice qa4 qn4 qc4)) #[nv, vv, (Value.slice qa4 qn4 qc4), bv, .int .i64 now] _ _ _ _ _ _ _ _ _ from HE_15.out.store 2 (Value.slice qa4 qn4 qc4))
              generalize w15.setCell ⟨EB, 2, none⟩ (Value.slice qa4 qn4 qc4) = w17 at *
              clear c0 f0 hbs
              refine hK.out _ _ (gone (by kernel_rfl)) ?_
              clear hK K
              (try simp only [ptN])
              refine wpAnyP_ready (rs := [18]) (by kernel_rfl) (by simp) ?_
              refine (AllReadyP.cons (by simp only [opA, opS, op0]; exact rfl) (fun K hK => ?_) AllReadyP.nil)
              rw [if_pos (by kernel_rfl)]
              go_simp
              refine hK.out _ _ (gone (by kernel_rfl)) ?_
              clear hK K
              (try simp only [ptS, stA, st0, stS])
              refine wpAnyP_ready (rs := [19]) (by kernel_rfl) (by simp) ?_
              refine (AllReadyP.cons (by simp only [opA, opS, op0]; exact rfl) (fun K hK => ?_) AllReadyP.nil)
              rw [if_pos (by kernel_rfl)]
              have c0 : w17.cell? ⟨EB, 3, none⟩ = some bv := by simp [World.cell?, HE_17.out.box]
              have f0 := thaw HE_17.out.box 3
              have hbs := cell_lt c0
              go_simp
              have HE_19 := Lib.hid (show EnvB EB _ (w17.setCell ⟨EB, 3, none⟩ (Value.slice qa15 qn15 qc15)) #[nv, vv, (Value.slice qa4 qn4 qc4), (Value.slice qa15 qn15 qc15), .int .i64 now] _ _ _ _ _ _ _ _ _ from HE_17.out.store 3 (Value.slice qa15 qn15 qc15))
              generalize w17.setCell ⟨EB, 3, none⟩ (Value.slice qa15 qn15 qc15) = w19 at *
              clear c0 f0 hbs
              refine hK.out _ _ (gone (by kernel_rfl)) ?_
              clear hK K
              (try simp only [ptN])
              refine wpAnyP_done (by kernel_rfl) ?_ _
              have hlt9 := HLT.out
              go_wp2_with fail
              go_roundw
              case rel => exact ⟨m + 1, (Value.slice qa4 qn4 qc4), (Value.slice qa15 qn15 qc15), bs ++ [(Value.slice xa13 (ofL [(vn, (m : Int)), (0, now)]).length xc13)], by have := HLT.out; omega, by go_num, Lib.hid (by have h := HE_19.out; rw [HT.out, tabsD_succ, List.map_append, HNS.out, HVS.out, HTS.out, HTT.out]; exact h)⟩
              case measure => have := HLT.out; simp [intOf]; omega
          · rw [if_pos (by kernel_rfl)]
            have HA12 := Lib.hid (more_allocD wd (.cells #[.int .i64 vn, .int .i64 m, .int .i64 0, .int .i64 now] 66))
            have HL12 := Lib.hid (alloc_last wd (.cells #[.int .i64 vn, .int .i64 m, .int .i64 0, .int .i64 now] 66))
            obtain ⟨B12, HB12⟩ : ∃ B, Hid (B = wd.heap.size) := ⟨_, Lib.hid rfl⟩
            go_simp
            rw [← HB12.out] at HL12 ⊢
            generalize wd.alloc (.cells #[.int .i64 vn, .int .i64 m, .int .i64 0, .int .i64 now] 66) = w12 at *
            have HE_12 := Lib.hid (HEd.out.more HA12.out)
            refine hK.out _ _ (fun _ => (HKP.out _ HE_12.out.box)) ?_
            clear hK K
            (try simp only [ptS, stA, st0, stS])
            refine wpAnyP_ready (rs := [3]) (by kernel_rfl) (by simp) ?_
            refine (AllReadyP.cons (by simp only [opA, opS, op0]; exact rfl) (fun K hK => ?_) AllReadyP.nil)
            rw [if_pos (by kernel_rfl)]
            have HA3 := Lib.hid (more_allocD w12 (.cells #[Value.string s] 9))
            have HL3 := Lib.hid (alloc_last w12 (.cells #[Value.string s] 9))
            obtain ⟨B3, HB3⟩ : ∃ B, Hid (B = w12.heap.size) := ⟨_, Lib.hid rfl⟩
            go_simp
            rw [← HB3.out] at HL3 ⊢
            generalize w12.alloc (.cells #[Value.string s] 9) = w3 at *
            have HE_3 := Lib.hid (HE_12.out.more HA3.out)
            have HL12_3 := Lib.hid ((HA3.out.block (blk_ltD HL12.out)).trans HL12.out)
            refine hK.out _ _ (fun _ => (HKP.out _ HE_3.out.box)) ?_
            clear hK K
            (try simp only [ptS, stA, st0, stS])
            refine wpAnyP_ready (rs := [4]) (by kernel_rfl) (by simp) ?_
            refine (AllReadyP.cons (by simp only [opA, opS, op0]; exact rfl) (fun K hK => ?_) AllReadyP.nil)
            refine step_append_lies _ (by rfl) _ _ _ (by rfl) (EB + 1) 9 i0 _ 1 16 Try.underlying90 hi0 hz0 hz1 hz2 rfl (by omega) tv TS.length TS (by rfl) HE_3.out.ot ⟨B3, 0, none⟩ 1 1 [Value.string s] (by rfl) (by rfl) (World.news_of_block (cs := #[Value.string s]) (t := 9) (fr := (0, 0)) HL3.out) (by simp [Value.oneCell']) (by omega) HR1.out.1 HR1.out.2 HE_3.out.ns' w3.heap.size (by rfl) ?_
            intro g4 c4 w4 hown hgrow hat _
            obtain ⟨qa4, qn4, qc4, HQ4⟩ : ∃ qa qn qc, Hid (Value.slice qa qn qc = Value.slice (some ⟨g4, 0, none⟩) (TS.length + 1) c4) := ⟨_, _, _, Lib.hid rfl⟩
            have HO4 := Lib.hid (show w4.ownsRow (EB + 1) 9 1 (Value.slice qa4 qn4 qc4) (TS ++ [Value.string s]).length (TS ++ [Value.string s]) by rw [HQ4.out, List.length_append]; exact hown)
            have HE_4 := Lib.hid (HE_3.out.growT HO4.out hgrow (lies_own HQ4.out hat))
            have HL12_3_4 := Lib.hid (blk_grow HE_3.out.ot HL12_3.out (by decide) hgrow)
            clear hown hgrow hat
            rw [← HQ4.out]
            refine hK.out _ _ (fun _ => (HKP.out _ HE_4.out.box)) ?_
            clear hK K
            (try simp only [ptS, stA, st0, stS])
            refine tkS (i := 16) (v := ?_) (by simp only [opA, opS, op0]; exact rfl) (by kernel_rfl) (by kernel_rfl) (HKP.out _ HE_4.out.box) ?_ ?_
            rotate_left
            · intro w hS
              (try dsimp only at hS); first | (go_simp; done) | (go_simp; with_reducible rfl)
            (try simp only [ptS, stA, st0, stS])
            refine wpAnyP_ready (rs := [13]) (by kernel_rfl) (by simp) ?_
            refine (AllReadyP.cons (by simp only [opA, opS, op0]; exact rfl) (fun K hK => ?_) AllReadyP.nil)
            rw [if_pos (by kernel_rfl)]
            have HC13 := Lib.hid (of_any (fun _ => True) [(vn, (m : Int)), (0, now)] (.slice (some ⟨B12, 0, none⟩) 2 2) w4 (by simp) (row_lit (n := 2) (size := 2) HL12_3_4.out rfl))
            go_simp
            refine HC13.out.mono ?_
            rintro e w13 ⟨hb, x13, rfl, hr⟩
            have HM13 := Lib.hid (more_of hb)
            have HT13 := Lib.hid (tab_new HE_4.out hr)
            obtain ⟨xa13, xc13, rfl, _⟩ := hr.shape
            clear hb hr HC13
            have HE_13 := Lib.hid (HE_4.out.more HM13.out)
            try go_wp2_with fail
            refine hK.out _ _ (fun _ => (HKP.out _ HE_13.out.box)) ?_
            clear hK K
            (try simp only [ptS, stA, st0, stS])
            refine wpAnyP_ready (rs := [14]) (by kernel_rfl) (by simp) ?_
            refine (AllReadyP.cons (by simp only [opA, opS, op0]; exact rfl) (fun K hK => ?_) AllReadyP.nil)
            rw [if_pos (by kernel_rfl)]
            have HA14 := Lib.hid (more_allocD w13 (.cells #[(Value.slice xa13 (ofL [(vn, (m : Int)), (0, now)]).length xc13)] 54))
            have HL14 := Lib.hid (alloc_last w13 (.cells #[(Value.slice xa13 (ofL [(vn, (m : Int)), (0, now)]).length xc13)] 54))
            obtain ⟨B14, HB14⟩ : ∃ B, Hid (B = w13.heap.size) := ⟨_, Lib.hid rfl⟩
            go_simp
            rw [← HB14.out] at HL14 ⊢
            generalize w13.alloc (.cells #[(Value.slice xa13 (ofL [(vn, (m : Int)), (0, now)]).length xc13)] 54) = w14 at *
            have HE_14 := Lib.hid (HE_13.out.more HA14.out)
            have HT13_14 := Lib.hid (HT13.out.mono (fun _ k => k) (fun b off u _ hc => HA14.out.cell hc))
            refine hK.out _ _ (fun _ => (HKP.out _ HE_14.out.box)) ?_
            clear hK K
            (try simp only [ptS, stA, st0, stS])
            refine wpAnyP_ready (rs := [15]) (by kernel_rfl) (by simp) ?_
            refine (AllReadyP.cons (by simp only [opA, opS, op0]; exact rfl) (fun K hK => ?_) AllReadyP.nil)
            refine step_append_lies _ (by rfl) _ _ _ (by rfl) (EB + 1) 54 k0 _ 1 24 Try.underlying47 hk0 hx0 hx1 hx2 rfl (by omega) bv bs.length bs (by rfl) HE_14.out.ob ⟨B14, 0, none⟩ 1 1 [(Value.slice xa13 (ofL [(vn, (m : Int)), (0, now)]).length xc13)] (by rfl) (by rfl) (World.news_of_block (cs := #[(Value.slice xa13 (ofL [(vn, (m : Int)), (0, now)]).length xc13)]) (t := 54) (fr := (0, 0)) HL14.out) (by simp [Value.oneCell']) (by omega) HR2.out.1 HR2.out.2 HE_14.out.ns' w14.heap.size (by rfl) ?_
            intro g15 c15 w15 hown hgrow hat _
            obtain ⟨qa15, qn15, qc15, HQ15⟩ : ∃ qa qn qc, Hid (Value.slice qa qn qc = Value.slice (some ⟨g15, 0, none⟩) (bs.length + 1) c15) := ⟨_, _, _, Lib.hid rfl⟩
            have HO15 := Lib.hid (show w15.ownsRow (EB + 1) 54 1 (Value.slice qa15 qn15 qc15) (bs ++ [(Value.slice xa13 (ofL [(vn, (m : Int)), (0, now)]).length xc13)]).length (bs ++ [(Value.slice xa13 (ofL [(vn, (m : Int)), (0, now)]).length xc13)]) by rw [HQ15.out, List.length_append]; exact hown)
            have HE_15 := Lib.hid (HE_14.out.growB HO15.out hgrow (lies_own HQ15.out hat) (by rw [List.length_append, List.length_append, HE_14.out.tl]; rfl) (tab_push HE_14.out.tr HE_14.out.tl HT13_14.out))
            clear hown hgrow hat
            rw [← HQ15.out]
            refine hK.out _ _ (fun _ => (HKP.out _ HE_15.out.box)) ?_
            clear hK K
            (try simp only [ptS, stA, st0, stS])
            refine wpAnyP_ready (rs := [17]) (by kernel_rfl) (by simp) ?_
            refine (AllReadyP.cons (by simp only [opA, opS, op0]; exact rfl) (fun K hK => ?_) AllReadyP.nil)
            rw [if_pos (by kernel_rfl)]
            have c0 : w15.cell? ⟨EB, 2, none⟩ = some tv := by simp [World.cell?, HE_15.out.box]
            have f0 := thaw HE_15.out.box 2
            have hbs := cell_lt c0
            go_simp
            have HE_17 := Lib.hid (show EnvB EB _ (w15.setCell ⟨EB, 2, none⟩ (Value.slice qa4 qn4 qc4)) #[nv, vv, (Value.slice qa4 qn4 qc4), bv, .int .i64 now] _ _ _ _ _ _ _ _ _ from HE_15.out.store 2 (Value.slice qa4 qn4 qc4))
            generalize w15.setCell ⟨EB, 2, none⟩ (Value.slice qa4 qn4 qc4) = w17 at *
            clear c0 f0 hbs
            refine hK.out _ _ (gone (by kernel_rfl)) ?_
            clear hK K
            (try simp only [ptN])
            refine wpAnyP_ready (rs := [18]) (by kernel_rfl) (by simp) ?_
            refine (AllReadyP.cons (by simp only [opA, opS, op0]; exact rfl) (fun K hK => ?_) AllReadyP.nil)
            rw [if_pos (by kernel_rfl)]
            go_simp
            refine hK.out _ _ (gone (by kernel_rfl)) ?_
            clear hK K
            (try simp only [ptS, stA, st0, stS])
            refine wpAnyP_ready (rs := [19]) (by kernel_rfl) (by simp) ?_
            refine (AllReadyP.cons (by simp only [opA, opS, op0]; exact rfl) (fun K hK => ?_) AllReadyP.nil)
            rw [if_pos (by kernel_rfl)]
            have c0 : w17.cell? ⟨EB, 3, none⟩ = some bv := by simp [World.cell?, HE_17.out.box]
            have f0 := thaw HE_17.out.box 3
            have hbs := cell_lt c0
            go_simp
            have HE_19 := Lib.hid (show EnvB EB _ (w17.setCell ⟨EB, 3, none⟩ (Value.slice qa15 qn15 qc15)) #[nv, vv, (Value.slice qa4 qn4 qc4), (Value.slice qa15 qn15 qc15), .int .i64 now] _ _ _ _ _ _ _ _ _ from HE_17.out.store 3 (Value.slice qa15 qn15 qc15))
            generalize w17.setCell ⟨EB, 3, none⟩ (Value.slice qa15 qn15 qc15) = w19 at *
            clear c0 f0 hbs
            refine hK.out _ _ (gone (by kernel_rfl)) ?_
            clear hK K
            (try simp only [ptN])
            refine wpAnyP_done (by kernel_rfl) ?_ _
            have hlt9 := HLT.out
            go_wp2_with fail
            go_roundw
            case rel => exact ⟨m + 1, (Value.slice qa4 qn4 qc4), (Value.slice qa15 qn15 qc15), bs ++ [(Value.slice xa13 (ofL [(vn, (m : Int)), (0, now)]).length xc13)], by have := HLT.out; omega, by go_num, Lib.hid (by have h := HE_19.out; rw [HT.out, tabsD_succ, List.map_append, HNS.out, HVS.out, HTS.out, HTT.out]; exact h)⟩
            case measure => have := HLT.out; simp [intOf]; omega
        · have hje : m = qn := by omega
          rw [hje, List.take_of_length_le (by rw [HQN.out]; exact Nat.le_refl _)] at HE
          clear hje hm HMW
          obtain ⟨NS, HNS⟩ : ∃ l, Hid (PA.map Value.string = l) := ⟨_, Lib.hid rfl⟩
          obtain ⟨VS, HVS⟩ : ∃ l, Hid ((valsD vn pn).map (Value.int .i64) = l) := ⟨_, Lib.hid rfl⟩
          obtain ⟨TS, HTS⟩ : ∃ l, Hid (PB.map Value.string = l) := ⟨_, Lib.hid rfl⟩
          obtain ⟨TT, HTT⟩ : ∃ l, Hid (tabsD vn now qn = l) := ⟨_, Lib.hid rfl⟩
          have HNL := Lib.hid (show NS.length ≤ 60 by rw [← HNS.out, List.length_map, HPN.out]; exact HLA.out)
          have HVL := Lib.hid (show VS.length ≤ 60 by rw [← HVS.out, List.length_map, valsD_len]; exact HLA.out)
          have HTL := Lib.hid (show TS.length ≤ 60 by rw [← HTS.out, List.length_map, HQN.out]; exact HLB.out)
          have HBL := Lib.hid (show bs.length ≤ 60 by rw [HE.out.tl, tabsD_len]; exact HLB.out)
          have HN1 := Lib.hid (show ∀ u ∈ NS, u.oneCell' = true by rw [← HNS.out]; exact ones_str _)
          have HV1 := Lib.hid (show ∀ u ∈ VS, u.oneCell' = true by rw [← HVS.out]; exact ones_int _)
          have HT1 := Lib.hid (show ∀ u ∈ TS, u.oneCell' = true by rw [← HTS.out]; exact ones_str _)
          have HB1 := Lib.hid HE.out.onesB
          rw [HNS.out, HVS.out, HTS.out, HTT.out] at HE
          obtain ⟨nl, HNSL⟩ : ∃ n, Hid (NS.length = n) := ⟨_, Lib.hid rfl⟩
          obtain ⟨vl, HVSL⟩ : ∃ n, Hid (VS.length = n) := ⟨_, Lib.hid rfl⟩
          obtain ⟨tl, HTSL⟩ : ∃ n, Hid (TS.length = n) := ⟨_, Lib.hid rfl⟩
          obtain ⟨bl, HBSL⟩ : ∃ n, Hid (bs.length = n) := ⟨_, Lib.hid rfl⟩
          obtain ⟨na1, nc1, hv1, _⟩ := owns_shape HE.out.on
          obtain ⟨va1, vc1, hv2, _⟩ := owns_shape HE.out.ov
          obtain ⟨ta1, tc1, hv3, _⟩ := owns_shape HE.out.ot
          obtain ⟨ba1, bc1, hv4, _⟩ := owns_shape HE.out.ob
          rw [HNSL.out] at hv1
          rw [HVSL.out] at hv2
          rw [HTSL.out] at hv3
          rw [HBSL.out] at hv4
          subst hv1 hv2 hv3 hv4
          skip
          have n0 : wo2.cell? ⟨EB, 0, none⟩ = some (.slice na1 nl nc1) := by simp [World.cell?, HE.out.box]
          have n1 : wo2.cell? ⟨EB, 1, none⟩ = some (.slice va1 vl vc1) := by simp [World.cell?, HE.out.box]
          have n2 : wo2.cell? ⟨EB, 2, none⟩ = some (.slice ta1 tl tc1) := by simp [World.cell?, HE.out.box]
          have n3 : wo2.cell? ⟨EB, 3, none⟩ = some (.slice ba1 bl bc1) := by simp [World.cell?, HE.out.box]
          have n4 : wo2.cell? ⟨EB, 4, none⟩ = some (.int .i64 now) := by simp [World.cell?, HE.out.box]
          have hbe := cell_lt n0
          go_upto_region 17 with fail
          clear n0 n1 n2 n3 n4 hbe hlt
          have HM16 := Lib.hid (more_allocD wo2 (.cells #[.slice na1 nl nc1, .slice va1 vl vc1, .slice ta1 tl tc1, .slice ba1 bl bc1, .int .i64 now] 97))
          have HX16 := Lib.hid (alloc_last wo2 (.cells #[.slice na1 nl nc1, .slice va1 vl vc1, .slice ta1 tl tc1, .slice ba1 bl bc1, .int .i64 now] 97))
          generalize wo2.alloc (.cells #[.slice na1 nl nc1, .slice va1 vl vc1, .slice ta1 tl tc1, .slice ba1 bl bc1, .int .i64 now] 97) = w16 at *
          have HG0 := Lib.hid (EnvB.start HM16.out.below HX16.out)
          obtain ⟨EC, HEC⟩ : ∃ B, Hid (B = wo2.heap.size) := ⟨_, Lib.hid rfl⟩
          rw [← HEC.out] at HG0 ⊢
          clear HX16 HM16
          have HLW := Lib.hid (show ∀ W : World, Below EC wo2 W → Below wo2.heap.size wo2 W from fun W h => by rwa [HEC.out] at h)
          have HBX := Lib.hid HE.out.box
          have HRN := Lib.hid (show Row (fun _ => True) wo2 1 NS.length (.slice na1 nl nc1) NS from (Row.of_owns HE.out.on).mono (fun _ _ => trivial) (fun _ _ _ _ h => h))
          have HRV := Lib.hid (show Row (fun _ => True) wo2 1 VS.length (.slice va1 vl vc1) VS from (Row.of_owns HE.out.ov).mono (fun _ _ => trivial) (fun _ _ _ _ h => h))
          have HRT := Lib.hid (show Row (fun _ => True) wo2 1 TS.length (.slice ta1 tl tc1) TS from (Row.of_owns HE.out.ot).mono (fun _ _ => trivial) (fun _ _ _ _ h => h))
          have HRB := Lib.hid (show Row (fun _ => True) wo2 1 bs.length (.slice ba1 bl bc1) bs from (Row.of_owns HE.out.ob).mono (fun _ _ => trivial) (fun _ _ _ _ h => h))
          have HKP := Lib.hid (show ∀ W : World, Below EC wo2 W → (W.cell? ⟨EB, 0, none⟩ = some (.slice na1 nl nc1) ∧ W.cell? ⟨EB, 1, none⟩ = some (.slice va1 vl vc1) ∧ W.cell? ⟨EB, 2, none⟩ = some (.slice ta1 tl tc1) ∧ W.cell? ⟨EB, 3, none⟩ = some (.slice ba1 bl bc1)) from fun W h => by
            have hb := ((HLW.out W h).block EB (blk_ltD HBX.out)).trans HBX.out
            exact ⟨by simp [World.cell?, hb], by simp [World.cell?, hb], by simp [World.cell?, hb], by simp [World.cell?, hb]⟩)
          have HNDn := Lib.hid (owns_nilD HE.out.on)
          have HNDv := Lib.hid (owns_nilD HE.out.ov)
          have HNDt := Lib.hid (owns_nilD HE.out.ot)
          have HNDb := Lib.hid (owns_nilD HE.out.ob)
          have HRn := Lib.hid (show NS.length + 1 ≤ maxLen ∧ (NS.length + 1) * 16 ≤ 140737488355328 from by have := HNL.out; unfold maxLen; omega)
          have HRv := Lib.hid (show VS.length + 1 ≤ maxLen ∧ (VS.length + 1) * 8 ≤ 140737488355328 from by have := HVL.out; unfold maxLen; omega)
          have HRt := Lib.hid (show TS.length + 1 ≤ maxLen ∧ (TS.length + 1) * 16 ≤ 140737488355328 from by have := HTL.out; unfold maxLen; omega)
          have HRb := Lib.hid (show bs.length + 1 ≤ maxLen ∧ (bs.length + 1) * 24 ≤ 140737488355328 from by have := HBL.out; unfold maxLen; omega)
          go_cut [] (fun wx => ∃ (q1 q2 q3 p1 p2 p3 : _), Hid (EnvB EC wo2 wx #[.slice q1 q2 q3, .slice p1 p2 p3, .slice ta1 tl tc1, .slice ba1 bl bc1, .int .i64 now] (.slice q1 q2 q3) (.slice p1 p2 p3) (.slice none 0 0) (.slice none 0 0) (NS ++ [Value.string ⟨#[111, 116, 104, 101, 114]⟩]) (VS ++ [Value.int .i64 vn]) [] [] []))
          case first => as_aux_lemma =>
            have HGd := Lib.hid (HG0.out.more (more_drew w16))
            refine wp_region_heldP (S := fun W => W.cell? ⟨EB, 0, none⟩ = some (.slice na1 nl nc1) ∧ W.cell? ⟨EB, 1, none⟩ = some (.slice va1 vl vc1) ∧ W.cell? ⟨EB, 2, none⟩ = some (.slice ta1 tl tc1) ∧ W.cell? ⟨EB, 3, none⟩ = some (.slice ba1 bl bc1)) 14 (by kernel_rfl) ?_
            generalize w16.drew = wd at *
            refine tkS (i := 0) (v := ?_) (by simp only [opA, op0]; exact rfl) (by kernel_rfl) (by kernel_rfl) (HKP.out _ HGd.out.low) ?_ ?_
            rotate_left
            · intro w hS
              (try dsimp only at hS); first | (go_simp; done) | (go_simp; with_reducible rfl)
            (try simp only [ptS, stA, st0, stS])
            refine tkS (i := 1) (v := ?_) (by simp only [opA, opS, op0]; exact rfl) (by kernel_rfl) (by kernel_rfl) (HKP.out _ HGd.out.low) ?_ ?_
            rotate_left
            · intro w hS
              (try dsimp only at hS); first | (go_simp; done) | (go_simp; with_reducible rfl)
            (try simp only [ptS, stA, st0, stS])
            refine tkS (i := 5) (v := ?_) (by simp only [opA, opS, op0]; exact rfl) (by kernel_rfl) (by kernel_rfl) (HKP.out _ HGd.out.low) ?_ ?_
            rotate_left
            · intro w hS
              (try dsimp only at hS); first | (go_simp; done) | (go_simp; with_reducible rfl)
            (try simp only [ptS, stA, st0, stS])
            refine tkS (i := 6) (v := ?_) (by simp only [opA, opS, op0]; exact rfl) (by kernel_rfl) (by kernel_rfl) (HKP.out _ HGd.out.low) ?_ ?_
            rotate_left
            · intro w hS
              (try dsimp only at hS); first | (go_simp; done) | (go_simp; with_reducible rfl)
            (try simp only [ptS, stA, st0, stS])
            refine tkS (i := 8) (v := ?_) (by simp only [opA, opS, op0]; exact rfl) (by kernel_rfl) (by kernel_rfl) (HKP.out _ HGd.out.low) ?_ ?_
            rotate_left
            · intro w hS
              (try dsimp only at hS); first | (go_simp; done) | (go_simp; with_reducible rfl)
            (try simp only [ptS, stA, st0, stS])
            refine wpAnyP_ready (rs := [2, 3, 9]) (by kernel_rfl) (by simp) ?_
            refine (AllReadyP.cons (by simp only [opA, opS, op0]; exact rfl) (fun K hK => ?_) (AllReadyP.cons (by simp only [opA, opS, op0]; exact rfl) (fun K hK => ?_) (AllReadyP.cons (by simp only [opA, opS, op0]; exact rfl) (fun K hK => ?_) AllReadyP.nil)))
            · rw [if_pos (by kernel_rfl)]
              have HC2 := Lib.hid (clone57_any NS (.slice na1 nl nc1) wd (fun _ => True) (by have := HNL.out; omega) (HRN.out.below (HLW.out _ HGd.out.low)) HNDn.out HN1.out)
              go_simp
              refine HC2.out.mono ?_
              rintro e w2 ⟨⟨x2, rfl, ho⟩, hm⟩
              have HO2 := Lib.hid ho
              have HM2 := Lib.hid hm
              clear ho hm HC2
              obtain ⟨qa2, qc2, hx2, _⟩ := owns_shape HO2.out
              subst hx2
              obtain ⟨qn2, HQN2⟩ : ∃ n, Hid (NS.length = n) := ⟨_, Lib.hid rfl⟩
              rw [HQN2.out]
              have HG_2 := Lib.hid (HGd.out.newN HM2.out HO2.out)
              skip
              obtain ⟨qv2, HQV2⟩ : ∃ v, Hid (Value.slice qa2 NS.length qc2 = v) := ⟨_, Lib.hid rfl⟩
              rw [HQV2.out] at HG_2
              rw [← HQN2.out, HQV2.out]
              try go_wp2_with fail
              refine hK.out _ _ (fun _ => (HKP.out _ HG_2.out.low)) ?_
              clear hK K
              (try simp only [ptS, stA, st0, stS])
              refine wpAnyP_ready (rs := [3, 9]) (by kernel_rfl) (by simp) ?_
              refine (AllReadyP.cons (by simp only [opA, opS, op0]; exact rfl) (fun K hK => ?_) (AllReadyP.cons (by simp only [opA, opS, op0]; exact rfl) (fun K hK => ?_) AllReadyP.nil))
              · rw [if_pos (by kernel_rfl)]
                have HA3 := Lib.hid (more_allocD w2 (.cells #[Value.string ⟨#[111, 116, 104, 101, 114]⟩] 9))
                have HL3 := Lib.hid (alloc_last w2 (.cells #[Value.string ⟨#[111, 116, 104, 101, 114]⟩] 9))
                obtain ⟨B3, HB3⟩ : ∃ B, Hid (B = w2.heap.size) := ⟨_, Lib.hid rfl⟩
                go_simp
                rw [← HB3.out] at HL3 ⊢
                generalize w2.alloc (.cells #[Value.string ⟨#[111, 116, 104, 101, 114]⟩] 9) = w3 at *
                have HG_3 := Lib.hid (HG_2.out.more HA3.out)
                refine hK.out _ _ (fun _ => (HKP.out _ HG_3.out.low)) ?_
                clear hK K
                (try simp only [ptS, stA, st0, stS])
                refine wpAnyP_ready (rs := [4, 9]) (by kernel_rfl) (by simp) ?_
                refine (AllReadyP.cons (by simp only [opA, opS, op0]; exact rfl) (fun K hK => ?_) (AllReadyP.cons (by simp only [opA, opS, op0]; exact rfl) (fun K hK => ?_) AllReadyP.nil))
                · refine step_append_lies _ (by rfl) _ _ _ (by rfl) (EC + 1) 9 i0 _ 1 16 Try.underlying90 hi0 hz0 hz1 hz2 rfl (by omega) qv2 NS.length NS (by rfl) HG_3.out.on ⟨B3, 0, none⟩ 1 1 [Value.string ⟨#[111, 116, 104, 101, 114]⟩] (by rfl) (by rfl) (World.news_of_block (cs := #[Value.string ⟨#[111, 116, 104, 101, 114]⟩]) (t := 9) (fr := (0, 0)) HL3.out) (by simp [Value.oneCell']) (by omega) HRn.out.1 HRn.out.2 HG_3.out.ns' w3.heap.size (by rfl) ?_
                  intro g4 c4 w4 hown hgrow hat _
                  obtain ⟨qa4, qn4, qc4, HQ4⟩ : ∃ qa qn qc, Hid (Value.slice qa qn qc = Value.slice (some ⟨g4, 0, none⟩) (NS.length + 1) c4) := ⟨_, _, _, Lib.hid rfl⟩
                  have HO4 := Lib.hid (show w4.ownsRow (EC + 1) 9 1 (Value.slice qa4 qn4 qc4) (NS ++ [Value.string ⟨#[111, 116, 104, 101, 114]⟩]).length (NS ++ [Value.string ⟨#[111, 116, 104, 101, 114]⟩]) by rw [HQ4.out, List.length_append]; exact hown)
                  have HG_4 := Lib.hid (HG_3.out.growN HO4.out hgrow (lies_own HQ4.out hat))
                  clear hown hgrow hat
                  rw [← HQ4.out]
                  refine hK.out _ _ (fun _ => (HKP.out _ HG_4.out.low)) ?_
                  clear hK K
                  (try simp only [ptS, stA, st0, stS])
                  refine tkS (i := 11) (v := ?_) (by simp only [opA, opS, op0]; exact rfl) (by kernel_rfl) (by kernel_rfl) (HKP.out _ HG_4.out.low) ?_ ?_
                  rotate_left
                  · intro w hS
                    (try dsimp only at hS); first | (go_simp; done) | (go_simp; with_reducible rfl)
                  (try simp only [ptS, stA, st0, stS])
                  refine wpAnyP_ready (rs := [7, 9]) (by kernel_rfl) (by simp) ?_
                  refine (AllReadyP.cons (by simp only [opA, opS, op0]; exact rfl) (fun K hK => ?_) (AllReadyP.cons (by simp only [opA, opS, op0]; exact rfl) (fun K hK => ?_) AllReadyP.nil))
                  · rw [if_pos (by kernel_rfl)]
                    have HC7 := Lib.hid (clone58_any VS (.slice va1 vl vc1) w4 (fun _ => True) (by have := HVL.out; omega) (HRV.out.below (HLW.out _ HG_4.out.low)) HNDv.out HV1.out)
                    go_simp
                    refine HC7.out.mono ?_
                    rintro e w7 ⟨⟨x7, rfl, ho⟩, hm⟩
                    have HO7 := Lib.hid ho
                    have HM7 := Lib.hid hm
                    clear ho hm HC7
                    obtain ⟨qa7, qc7, hx7, _⟩ := owns_shape HO7.out
                    subst hx7
                    obtain ⟨qn7, HQN7⟩ : ∃ n, Hid (VS.length = n) := ⟨_, Lib.hid rfl⟩
                    rw [HQN7.out]
                    have HG_7 := Lib.hid (HG_4.out.newV HM7.out HO7.out)
                    skip
                    obtain ⟨qv7, HQV7⟩ : ∃ v, Hid (Value.slice qa7 VS.length qc7 = v) := ⟨_, Lib.hid rfl⟩
                    rw [HQV7.out] at HG_7
                    rw [← HQN7.out, HQV7.out]
                    try go_wp2_with fail
                    refine hK.out _ _ (fun _ => (HKP.out _ HG_7.out.low)) ?_
                    clear hK K
                    (try simp only [ptS, stA, st0, stS])
                    refine wpAnyP_ready (rs := [9]) (by kernel_rfl) (by simp) ?_
                    refine (AllReadyP.cons (by simp only [opA, opS, op0]; exact rfl) (fun K hK => ?_) AllReadyP.nil)
                    rw [if_pos (by kernel_rfl)]
                    have HA9 := Lib.hid (more_allocD w7 (.cells #[Value.int .i64 vn] 2))
                    have HL9 := Lib.hid (alloc_last w7 (.cells #[Value.int .i64 vn] 2))
                    obtain ⟨B9, HB9⟩ : ∃ B, Hid (B = w7.heap.size) := ⟨_, Lib.hid rfl⟩
                    go_simp
                    rw [← HB9.out] at HL9 ⊢
                    generalize w7.alloc (.cells #[Value.int .i64 vn] 2) = w9 at *
                    have HG_9 := Lib.hid (HG_7.out.more HA9.out)
                    refine hK.out _ _ (fun _ => (HKP.out _ HG_9.out.low)) ?_
                    clear hK K
                    (try simp only [ptS, stA, st0, stS])
                    refine wpAnyP_ready (rs := [10]) (by kernel_rfl) (by simp) ?_
                    refine (AllReadyP.cons (by simp only [opA, opS, op0]; exact rfl) (fun K hK => ?_) AllReadyP.nil)
                    refine step_append_lies _ (by rfl) _ _ _ (by rfl) (EC + 1) 2 j0 _ 1 8 Try.underlying73 hj0 hy0 hy1 hy2 rfl (by omega) qv7 VS.length VS (by rfl) HG_9.out.ov ⟨B9, 0, none⟩ 1 1 [Value.int .i64 vn] (by rfl) (by rfl) (World.news_of_block (cs := #[Value.int .i64 vn]) (t := 2) (fr := (0, 0)) HL9.out) (by simp [Value.oneCell']) (by omega) HRv.out.1 HRv.out.2 HG_9.out.ns' w9.heap.size (by rfl) ?_
                    intro g10 c10 w10 hown hgrow hat _
                    obtain ⟨qa10, qn10, qc10, HQ10⟩ : ∃ qa qn qc, Hid (Value.slice qa qn qc = Value.slice (some ⟨g10, 0, none⟩) (VS.length + 1) c10) := ⟨_, _, _, Lib.hid rfl⟩
                    have HO10 := Lib.hid (show w10.ownsRow (EC + 1) 2 1 (Value.slice qa10 qn10 qc10) (VS ++ [Value.int .i64 vn]).length (VS ++ [Value.int .i64 vn]) by rw [HQ10.out, List.length_append]; exact hown)
                    have HG_10 := Lib.hid (HG_9.out.growV HO10.out hgrow (lies_own HQ10.out hat))
                    clear hown hgrow hat
                    rw [← HQ10.out]
                    refine hK.out _ _ (fun _ => (HKP.out _ HG_10.out.low)) ?_
                    clear hK K
                    (try simp only [ptS, stA, st0, stS])
                    refine wpAnyP_ready (rs := [12]) (by kernel_rfl) (by simp) ?_
                    refine (AllReadyP.cons (by simp only [opA, opS, op0]; exact rfl) (fun K hK => ?_) AllReadyP.nil)
                    rw [if_pos (by kernel_rfl)]
                    have c0 : w10.cell? ⟨EC, 0, none⟩ = some (.slice na1 nl nc1) := by simp [World.cell?, HG_10.out.box]
                    have f0 := thaw HG_10.out.box 0
                    have hbs := cell_lt c0
                    go_simp
                    have HG_12 := Lib.hid (show EnvB EC _ (w10.setCell ⟨EC, 0, none⟩ (Value.slice qa4 qn4 qc4)) #[(Value.slice qa4 qn4 qc4), (.slice va1 vl vc1), (.slice ta1 tl tc1), (.slice ba1 bl bc1), .int .i64 now] _ _ _ _ _ _ _ _ _ from HG_10.out.store 0 (Value.slice qa4 qn4 qc4))
                    generalize w10.setCell ⟨EC, 0, none⟩ (Value.slice qa4 qn4 qc4) = w12 at *
                    clear c0 f0 hbs
                    refine hK.out _ _ (fun _ => (HKP.out _ HG_12.out.low)) ?_
                    clear hK K
                    (try simp only [ptN])
                    refine tkS (i := 13) (v := ?_) (by simp only [opA, opS, op0]; exact rfl) (by kernel_rfl) (by kernel_rfl) (HKP.out _ HG_12.out.low) ?_ ?_
                    rotate_left
                    · intro w hS
                      (try dsimp only at hS); first | (go_simp; done) | (go_simp; with_reducible rfl)
                    (try simp only [ptS, stA, st0, stS])
                    refine wpAnyP_ready (rs := [14]) (by kernel_rfl) (by simp) ?_
                    refine (AllReadyP.cons (by simp only [opA, opS, op0]; exact rfl) (fun K hK => ?_) AllReadyP.nil)
                    rw [if_pos (by kernel_rfl)]
                    have c0 : w12.cell? ⟨EC, 1, none⟩ = some (.slice va1 vl vc1) := by simp [World.cell?, HG_12.out.box]
                    have f0 := thaw HG_12.out.box 1
                    have hbs := cell_lt c0
                    go_simp
                    have HG_14 := Lib.hid (show EnvB EC _ (w12.setCell ⟨EC, 1, none⟩ (Value.slice qa10 qn10 qc10)) #[(Value.slice qa4 qn4 qc4), (Value.slice qa10 qn10 qc10), (.slice ta1 tl tc1), (.slice ba1 bl bc1), .int .i64 now] _ _ _ _ _ _ _ _ _ from HG_12.out.store 1 (Value.slice qa10 qn10 qc10))
                    generalize w12.setCell ⟨EC, 1, none⟩ (Value.slice qa10 qn10 qc10) = w14 at *
                    clear c0 f0 hbs
                    refine hK.out _ _ (gone (by kernel_rfl)) ?_
                    clear hK K
                    (try simp only [ptN])
                    refine wpAnyP_done (by kernel_rfl) ?_ _
                    go_wp2_with fail
                    go_meet
                    exact ⟨_, _, _, _, _, _, HG_14⟩
                  · rw [if_pos (by kernel_rfl)]
                    have HA9 := Lib.hid (more_allocD w4 (.cells #[Value.int .i64 vn] 2))
                    have HL9 := Lib.hid (alloc_last w4 (.cells #[Value.int .i64 vn] 2))
                    obtain ⟨B9, HB9⟩ : ∃ B, Hid (B = w4.heap.size) := ⟨_, Lib.hid rfl⟩
                    go_simp
                    rw [← HB9.out] at HL9 ⊢
                    generalize w4.alloc (.cells #[Value.int .i64 vn] 2) = w9 at *
                    have HG_9 := Lib.hid (HG_4.out.more HA9.out)
                    refine hK.out _ _ (fun _ => (HKP.out _ HG_9.out.low)) ?_
                    clear hK K
                    (try simp only [ptS, stA, st0, stS])
                    refine wpAnyP_ready (rs := [7]) (by kernel_rfl) (by simp) ?_
                    refine (AllReadyP.cons (by simp only [opA, opS, op0]; exact rfl) (fun K hK => ?_) AllReadyP.nil)
                    rw [if_pos (by kernel_rfl)]
                    have HC7 := Lib.hid (clone58_any VS (.slice va1 vl vc1) w9 (fun _ => True) (by have := HVL.out; omega) (HRV.out.below (HLW.out _ HG_9.out.low)) HNDv.out HV1.out)
                    go_simp
                    refine HC7.out.mono ?_
                    rintro e w7 ⟨⟨x7, rfl, ho⟩, hm⟩
                    have HO7 := Lib.hid ho
                    have HM7 := Lib.hid hm
                    clear ho hm HC7
                    obtain ⟨qa7, qc7, hx7, _⟩ := owns_shape HO7.out
                    subst hx7
                    obtain ⟨qn7, HQN7⟩ : ∃ n, Hid (VS.length = n) := ⟨_, Lib.hid rfl⟩
                    rw [HQN7.out]
                    have HG_7 := Lib.hid (HG_9.out.newV HM7.out HO7.out)
                    skip
                    have HL9_7 := Lib.hid ((HM7.out.block (blk_ltD HL9.out)).trans HL9.out)
                    obtain ⟨qv7, HQV7⟩ : ∃ v, Hid (Value.slice qa7 VS.length qc7 = v) := ⟨_, Lib.hid rfl⟩
                    rw [HQV7.out] at HG_7
                    rw [← HQN7.out, HQV7.out]
                    try go_wp2_with fail
                    refine hK.out _ _ (fun _ => (HKP.out _ HG_7.out.low)) ?_
                    clear hK K
                    (try simp only [ptS, stA, st0, stS])
                    refine wpAnyP_ready (rs := [10]) (by kernel_rfl) (by simp) ?_
                    refine (AllReadyP.cons (by simp only [opA, opS, op0]; exact rfl) (fun K hK => ?_) AllReadyP.nil)
                    refine step_append_lies _ (by rfl) _ _ _ (by rfl) (EC + 1) 2 j0 _ 1 8 Try.underlying73 hj0 hy0 hy1 hy2 rfl (by omega) qv7 VS.length VS (by rfl) HG_7.out.ov ⟨B9, 0, none⟩ 1 1 [Value.int .i64 vn] (by rfl) (by rfl) (World.news_of_block (cs := #[Value.int .i64 vn]) (t := 2) (fr := (0, 0)) HL9_7.out) (by simp [Value.oneCell']) (by omega) HRv.out.1 HRv.out.2 HG_7.out.ns' w7.heap.size (by rfl) ?_
                    intro g10 c10 w10 hown hgrow hat _
                    obtain ⟨qa10, qn10, qc10, HQ10⟩ : ∃ qa qn qc, Hid (Value.slice qa qn qc = Value.slice (some ⟨g10, 0, none⟩) (VS.length + 1) c10) := ⟨_, _, _, Lib.hid rfl⟩
                    have HO10 := Lib.hid (show w10.ownsRow (EC + 1) 2 1 (Value.slice qa10 qn10 qc10) (VS ++ [Value.int .i64 vn]).length (VS ++ [Value.int .i64 vn]) by rw [HQ10.out, List.length_append]; exact hown)
                    have HG_10 := Lib.hid (HG_7.out.growV HO10.out hgrow (lies_own HQ10.out hat))
                    clear hown hgrow hat
                    rw [← HQ10.out]
                    refine hK.out _ _ (fun _ => (HKP.out _ HG_10.out.low)) ?_
                    clear hK K
                    (try simp only [ptS, stA, st0, stS])
                    refine wpAnyP_ready (rs := [12]) (by kernel_rfl) (by simp) ?_
                    refine (AllReadyP.cons (by simp only [opA, opS, op0]; exact rfl) (fun K hK => ?_) AllReadyP.nil)
                    rw [if_pos (by kernel_rfl)]
                    have c0 : w10.cell? ⟨EC, 0, none⟩ = some (.slice na1 nl nc1) := by simp [World.cell?, HG_10.out.box]
                    have f0 := thaw HG_10.out.box 0
                    have hbs := cell_lt c0
                    go_simp
                    have HG_12 := Lib.hid (show EnvB EC _ (w10.setCell ⟨EC, 0, none⟩ (Value.slice qa4 qn4 qc4)) #[(Value.slice qa4 qn4 qc4), (.slice va1 vl vc1), (.slice ta1 tl tc1), (.slice ba1 bl bc1), .int .i64 now] _ _ _ _ _ _ _ _ _ from HG_10.out.store 0 (Value.slice qa4 qn4 qc4))
                    generalize w10.setCell ⟨EC, 0, none⟩ (Value.slice qa4 qn4 qc4) = w12 at *
                    clear c0 f0 hbs
                    refine hK.out _ _ (fun _ => (HKP.out _ HG_12.out.low)) ?_
                    clear hK K
                    (try simp only [ptN])
                    refine tkS (i := 13) (v := ?_) (by simp only [opA, opS, op0]; exact rfl) (by kernel_rfl) (by kernel_rfl) (HKP.out _ HG_12.out.low) ?_ ?_
                    rotate_left
                    · intro w hS
                      (try dsimp only at hS); first | (go_simp; done) | (go_simp; with_reducible rfl)
                    (try simp only [ptS, stA, st0, stS])
                    refine wpAnyP_ready (rs := [14]) (by kernel_rfl) (by simp) ?_
                    refine (AllReadyP.cons (by simp only [opA, opS, op0]; exact rfl) (fun K hK => ?_) AllReadyP.nil)
                    rw [if_pos (by kernel_rfl)]
                    have c0 : w12.cell? ⟨EC, 1, none⟩ = some (.slice va1 vl vc1) := by simp [World.cell?, HG_12.out.box]
                    have f0 := thaw HG_12.out.box 1
                    have hbs := cell_lt c0
                    go_simp
                    have HG_14 := Lib.hid (show EnvB EC _ (w12.setCell ⟨EC, 1, none⟩ (Value.slice qa10 qn10 qc10)) #[(Value.slice qa4 qn4 qc4), (Value.slice qa10 qn10 qc10), (.slice ta1 tl tc1), (.slice ba1 bl bc1), .int .i64 now] _ _ _ _ _ _ _ _ _ from HG_12.out.store 1 (Value.slice qa10 qn10 qc10))
                    generalize w12.setCell ⟨EC, 1, none⟩ (Value.slice qa10 qn10 qc10) = w14 at *
                    clear c0 f0 hbs
                    refine hK.out _ _ (gone (by kernel_rfl)) ?_
                    clear hK K
                    (try simp only [ptN])
                    refine wpAnyP_done (by kernel_rfl) ?_ _
                    go_wp2_with fail
                    go_meet
                    exact ⟨_, _, _, _, _, _, HG_14⟩
                · rw [if_pos (by kernel_rfl)]
                  have HA9 := Lib.hid (more_allocD w3 (.cells #[Value.int .i64 vn] 2))
                  have HL9 := Lib.hid (alloc_last w3 (.cells #[Value.int .i64 vn] 2))
                  obtain ⟨B9, HB9⟩ : ∃ B, Hid (B = w3.heap.size) := ⟨_, Lib.hid rfl⟩
                  go_simp
                  rw [← HB9.out] at HL9 ⊢
                  generalize w3.alloc (.cells #[Value.int .i64 vn] 2) = w9 at *
                  have HG_9 := Lib.hid (HG_3.out.more HA9.out)
                  have HL3_9 := Lib.hid ((HA9.out.block (blk_ltD HL3.out)).trans HL3.out)
                  refine hK.out _ _ (fun _ => (HKP.out _ HG_9.out.low)) ?_
                  clear hK K
                  (try simp only [ptS, stA, st0, stS])
                  refine wpAnyP_ready (rs := [4]) (by kernel_rfl) (by simp) ?_
                  refine (AllReadyP.cons (by simp only [opA, opS, op0]; exact rfl) (fun K hK => ?_) AllReadyP.nil)
                  refine step_append_lies _ (by rfl) _ _ _ (by rfl) (EC + 1) 9 i0 _ 1 16 Try.underlying90 hi0 hz0 hz1 hz2 rfl (by omega) qv2 NS.length NS (by rfl) HG_9.out.on ⟨B3, 0, none⟩ 1 1 [Value.string ⟨#[111, 116, 104, 101, 114]⟩] (by rfl) (by rfl) (World.news_of_block (cs := #[Value.string ⟨#[111, 116, 104, 101, 114]⟩]) (t := 9) (fr := (0, 0)) HL3_9.out) (by simp [Value.oneCell']) (by omega) HRn.out.1 HRn.out.2 HG_9.out.ns' w9.heap.size (by rfl) ?_
                  intro g4 c4 w4 hown hgrow hat _
                  obtain ⟨qa4, qn4, qc4, HQ4⟩ : ∃ qa qn qc, Hid (Value.slice qa qn qc = Value.slice (some ⟨g4, 0, none⟩) (NS.length + 1) c4) := ⟨_, _, _, Lib.hid rfl⟩
                  have HO4 := Lib.hid (show w4.ownsRow (EC + 1) 9 1 (Value.slice qa4 qn4 qc4) (NS ++ [Value.string ⟨#[111, 116, 104, 101, 114]⟩]).length (NS ++ [Value.string ⟨#[111, 116, 104, 101, 114]⟩]) by rw [HQ4.out, List.length_append]; exact hown)
                  have HG_4 := Lib.hid (HG_9.out.growN HO4.out hgrow (lies_own HQ4.out hat))
                  have HL9_4 := Lib.hid (blk_grow HG_9.out.on HL9.out (by decide) hgrow)
                  clear hown hgrow hat
                  rw [← HQ4.out]
                  refine hK.out _ _ (fun _ => (HKP.out _ HG_4.out.low)) ?_
                  clear hK K
                  (try simp only [ptS, stA, st0, stS])
                  refine tkS (i := 11) (v := ?_) (by simp only [opA, opS, op0]; exact rfl) (by kernel_rfl) (by kernel_rfl) (HKP.out _ HG_4.out.low) ?_ ?_
                  rotate_left
                  · intro w hS
                    (try dsimp only at hS); first | (go_simp; done) | (go_simp; with_reducible rfl)
                  (try simp only [ptS, stA, st0, stS])
                  refine wpAnyP_ready (rs := [7]) (by kernel_rfl) (by simp) ?_
                  refine (AllReadyP.cons (by simp only [opA, opS, op0]; exact rfl) (fun K hK => ?_) AllReadyP.nil)
                  rw [if_pos (by kernel_rfl)]
                  have HC7 := Lib.hid (clone58_any VS (.slice va1 vl vc1) w4 (fun _ => True) (by have := HVL.out; omega) (HRV.out.below (HLW.out _ HG_4.out.low)) HNDv.out HV1.out)
                  go_simp
                  refine HC7.out.mono ?_
                  rintro e w7 ⟨⟨x7, rfl, ho⟩, hm⟩
                  have HO7 := Lib.hid ho
                  have HM7 := Lib.hid hm
                  clear ho hm HC7
                  obtain ⟨qa7, qc7, hx7, _⟩ := owns_shape HO7.out
                  subst hx7
                  obtain ⟨qn7, HQN7⟩ : ∃ n, Hid (VS.length = n) := ⟨_, Lib.hid rfl⟩
                  rw [HQN7.out]
                  have HG_7 := Lib.hid (HG_4.out.newV HM7.out HO7.out)
                  skip
                  have HL9_4_7 := Lib.hid ((HM7.out.block (blk_ltD HL9_4.out)).trans HL9_4.out)
                  obtain ⟨qv7, HQV7⟩ : ∃ v, Hid (Value.slice qa7 VS.length qc7 = v) := ⟨_, Lib.hid rfl⟩
                  rw [HQV7.out] at HG_7
                  rw [← HQN7.out, HQV7.out]
                  try go_wp2_with fail
                  refine hK.out _ _ (fun _ => (HKP.out _ HG_7.out.low)) ?_
                  clear hK K
                  (try simp only [ptS, stA, st0, stS])
                  refine wpAnyP_ready (rs := [10]) (by kernel_rfl) (by simp) ?_
                  refine (AllReadyP.cons (by simp only [opA, opS, op0]; exact rfl) (fun K hK => ?_) AllReadyP.nil)
                  refine step_append_lies _ (by rfl) _ _ _ (by rfl) (EC + 1) 2 j0 _ 1 8 Try.underlying73 hj0 hy0 hy1 hy2 rfl (by omega) qv7 VS.length VS (by rfl) HG_7.out.ov ⟨B9, 0, none⟩ 1 1 [Value.int .i64 vn] (by rfl) (by rfl) (World.news_of_block (cs := #[Value.int .i64 vn]) (t := 2) (fr := (0, 0)) HL9_4_7.out) (by simp [Value.oneCell']) (by omega) HRv.out.1 HRv.out.2 HG_7.out.ns' w7.heap.size (by rfl) ?_
                  intro g10 c10 w10 hown hgrow hat _
                  obtain ⟨qa10, qn10, qc10, HQ10⟩ : ∃ qa qn qc, Hid (Value.slice qa qn qc = Value.slice (some ⟨g10, 0, none⟩) (VS.length + 1) c10) := ⟨_, _, _, Lib.hid rfl⟩
                  have HO10 := Lib.hid (show w10.ownsRow (EC + 1) 2 1 (Value.slice qa10 qn10 qc10) (VS ++ [Value.int .i64 vn]).length (VS ++ [Value.int .i64 vn]) by rw [HQ10.out, List.length_append]; exact hown)
                  have HG_10 := Lib.hid (HG_7.out.growV HO10.out hgrow (lies_own HQ10.out hat))
                  clear hown hgrow hat
                  rw [← HQ10.out]
                  refine hK.out _ _ (fun _ => (HKP.out _ HG_10.out.low)) ?_
                  clear hK K
                  (try simp only [ptS, stA, st0, stS])
                  refine wpAnyP_ready (rs := [12]) (by kernel_rfl) (by simp) ?_
                  refine (AllReadyP.cons (by simp only [opA, opS, op0]; exact rfl) (fun K hK => ?_) AllReadyP.nil)
                  rw [if_pos (by kernel_rfl)]
                  have c0 : w10.cell? ⟨EC, 0, none⟩ = some (.slice na1 nl nc1) := by simp [World.cell?, HG_10.out.box]
                  have f0 := thaw HG_10.out.box 0
                  have hbs := cell_lt c0
                  go_simp
                  have HG_12 := Lib.hid (show EnvB EC _ (w10.setCell ⟨EC, 0, none⟩ (Value.slice qa4 qn4 qc4)) #[(Value.slice qa4 qn4 qc4), (.slice va1 vl vc1), (.slice ta1 tl tc1), (.slice ba1 bl bc1), .int .i64 now] _ _ _ _ _ _ _ _ _ from HG_10.out.store 0 (Value.slice qa4 qn4 qc4))
                  generalize w10.setCell ⟨EC, 0, none⟩ (Value.slice qa4 qn4 qc4) = w12 at *
                  clear c0 f0 hbs
                  refine hK.out _ _ (fun _ => (HKP.out _ HG_12.out.low)) ?_
                  clear hK K
                  (try simp only [ptN])
                  refine tkS (i := 13) (v := ?_) (by simp only [opA, opS, op0]; exact rfl) (by kernel_rfl) (by kernel_rfl) (HKP.out _ HG_12.out.low) ?_ ?_
                  rotate_left
                  · intro w hS
                    (try dsimp only at hS); first | (go_simp; done) | (go_simp; with_reducible rfl)
                  (try simp only [ptS, stA, st0, stS])
                  refine wpAnyP_ready (rs := [14]) (by kernel_rfl) (by simp) ?_
                  refine (AllReadyP.cons (by simp only [opA, opS, op0]; exact rfl) (fun K hK => ?_) AllReadyP.nil)
                  rw [if_pos (by kernel_rfl)]
                  have c0 : w12.cell? ⟨EC, 1, none⟩ = some (.slice va1 vl vc1) := by simp [World.cell?, HG_12.out.box]
                  have f0 := thaw HG_12.out.box 1
                  have hbs := cell_lt c0
                  go_simp
                  have HG_14 := Lib.hid (show EnvB EC _ (w12.setCell ⟨EC, 1, none⟩ (Value.slice qa10 qn10 qc10)) #[(Value.slice qa4 qn4 qc4), (Value.slice qa10 qn10 qc10), (.slice ta1 tl tc1), (.slice ba1 bl bc1), .int .i64 now] _ _ _ _ _ _ _ _ _ from HG_12.out.store 1 (Value.slice qa10 qn10 qc10))
                  generalize w12.setCell ⟨EC, 1, none⟩ (Value.slice qa10 qn10 qc10) = w14 at *
                  clear c0 f0 hbs
                  refine hK.out _ _ (gone (by kernel_rfl)) ?_
                  clear hK K
                  (try simp only [ptN])
                  refine wpAnyP_done (by kernel_rfl) ?_ _
                  go_wp2_with fail
                  go_meet
                  exact ⟨_, _, _, _, _, _, HG_14⟩
              · rw [if_pos (by kernel_rfl)]
                have HA9 := Lib.hid (more_allocD w2 (.cells #[Value.int .i64 vn] 2))
                have HL9 := Lib.hid (alloc_last w2 (.cells #[Value.int .i64 vn] 2))
                obtain ⟨B9, HB9⟩ : ∃ B, Hid (B = w2.heap.size) := ⟨_, Lib.hid rfl⟩
                go_simp
                rw [← HB9.out] at HL9 ⊢
                generalize w2.alloc (.cells #[Value.int .i64 vn] 2) = w9 at *
                have HG_9 := Lib.hid (HG_2.out.more HA9.out)
                refine hK.out _ _ (fun _ => (HKP.out _ HG_9.out.low)) ?_
                clear hK K
                (try simp only [ptS, stA, st0, stS])
                refine wpAnyP_ready (rs := [3]) (by kernel_rfl) (by simp) ?_
                refine (AllReadyP.cons (by simp only [opA, opS, op0]; exact rfl) (fun K hK => ?_) AllReadyP.nil)
                rw [if_pos (by kernel_rfl)]
                have HA3 := Lib.hid (more_allocD w9 (.cells #[Value.string ⟨#[111, 116, 104, 101, 114]⟩] 9))
                have HL3 := Lib.hid (alloc_last w9 (.cells #[Value.string ⟨#[111, 116, 104, 101, 114]⟩] 9))
                obtain ⟨B3, HB3⟩ : ∃ B, Hid (B = w9.heap.size) := ⟨_, Lib.hid rfl⟩
                go_simp
                rw [← HB3.out] at HL3 ⊢
                generalize w9.alloc (.cells #[Value.string ⟨#[111, 116, 104, 101, 114]⟩] 9) = w3 at *
                have HG_3 := Lib.hid (HG_9.out.more HA3.out)
                have HL9_3 := Lib.hid ((HA3.out.block (blk_ltD HL9.out)).trans HL9.out)
                refine hK.out _ _ (fun _ => (HKP.out _ HG_3.out.low)) ?_
                clear hK K
                (try simp only [ptS, stA, st0, stS])
                refine wpAnyP_ready (rs := [4]) (by kernel_rfl) (by simp) ?_
                refine (AllReadyP.cons (by simp only [opA, opS, op0]; exact rfl) (fun K hK => ?_) AllReadyP.nil)
                refine step_append_lies _ (by rfl) _ _ _ (by rfl) (EC + 1) 9 i0 _ 1 16 Try.underlying90 hi0 hz0 hz1 hz2 rfl (by omega) qv2 NS.length NS (by rfl) HG_3.out.on ⟨B3, 0, none⟩ 1 1 [Value.string ⟨#[111, 116, 104, 101, 114]⟩] (by rfl) (by rfl) (World.news_of_block (cs := #[Value.string ⟨#[111, 116, 104, 101, 114]⟩]) (t := 9) (fr := (0, 0)) HL3.out) (by simp [Value.oneCell']) (by omega) HRn.out.1 HRn.out.2 HG_3.out.ns' w3.heap.size (by rfl) ?_
                intro g4 c4 w4 hown hgrow hat _
                obtain ⟨qa4, qn4, qc4, HQ4⟩ : ∃ qa qn qc, Hid (Value.slice qa qn qc = Value.slice (some ⟨g4, 0, none⟩) (NS.length + 1) c4) := ⟨_, _, _, Lib.hid rfl⟩
                have HO4 := Lib.hid (show w4.ownsRow (EC + 1) 9 1 (Value.slice qa4 qn4 qc4) (NS ++ [Value.string ⟨#[111, 116, 104, 101, 114]⟩]).length (NS ++ [Value.string ⟨#[111, 116, 104, 101, 114]⟩]) by rw [HQ4.out, List.length_append]; exact hown)
                have HG_4 := Lib.hid (HG_3.out.growN HO4.out hgrow (lies_own HQ4.out hat))
                have HL9_3_4 := Lib.hid (blk_grow HG_3.out.on HL9_3.out (by decide) hgrow)
                clear hown hgrow hat
                rw [← HQ4.out]
                refine hK.out _ _ (fun _ => (HKP.out _ HG_4.out.low)) ?_
                clear hK K
                (try simp only [ptS, stA, st0, stS])
                refine tkS (i := 11) (v := ?_) (by simp only [opA, opS, op0]; exact rfl) (by kernel_rfl) (by kernel_rfl) (HKP.out _ HG_4.out.low) ?_ ?_
                rotate_left
                · intro w hS
                  (try dsimp only at hS); first | (go_simp; done) | (go_simp; with_reducible rfl)
                (try simp only [ptS, stA, st0, stS])
                refine wpAnyP_ready (rs := [7]) (by kernel_rfl) (by simp) ?_
                refine (AllReadyP.cons (by simp only [opA, opS, op0]; exact rfl) (fun K hK => ?_) AllReadyP.nil)
                rw [if_pos (by kernel_rfl)]
                have HC7 := Lib.hid (clone58_any VS (.slice va1 vl vc1) w4 (fun _ => True) (by have := HVL.out; omega) (HRV.out.below (HLW.out _ HG_4.out.low)) HNDv.out HV1.out)
                go_simp
                refine HC7.out.mono ?_
                rintro e w7 ⟨⟨x7, rfl, ho⟩, hm⟩
                have HO7 := Lib.hid ho
                have HM7 := Lib.hid hm
                clear ho hm HC7
                obtain ⟨qa7, qc7, hx7, _⟩ := owns_shape HO7.out
                subst hx7
                obtain ⟨qn7, HQN7⟩ : ∃ n, Hid (VS.length = n) := ⟨_, Lib.hid rfl⟩
                rw [HQN7.out]
                have HG_7 := Lib.hid (HG_4.out.newV HM7.out HO7.out)
                skip
                have HL9_3_4_7 := Lib.hid ((HM7.out.block (blk_ltD HL9_3_4.out)).trans HL9_3_4.out)
                obtain ⟨qv7, HQV7⟩ : ∃ v, Hid (Value.slice qa7 VS.length qc7 = v) := ⟨_, Lib.hid rfl⟩
                rw [HQV7.out] at HG_7
                rw [← HQN7.out, HQV7.out]
                try go_wp2_with fail
                refine hK.out _ _ (fun _ => (HKP.out _ HG_7.out.low)) ?_
                clear hK K
                (try simp only [ptS, stA, st0, stS])
                refine wpAnyP_ready (rs := [10]) (by kernel_rfl) (by simp) ?_
                refine (AllReadyP.cons (by simp only [opA, opS, op0]; exact rfl) (fun K hK => ?_) AllReadyP.nil)
                refine step_append_lies _ (by rfl) _ _ _ (by rfl) (EC + 1) 2 j0 _ 1 8 Try.underlying73 hj0 hy0 hy1 hy2 rfl (by omega) qv7 VS.length VS (by rfl) HG_7.out.ov ⟨B9, 0, none⟩ 1 1 [Value.int .i64 vn] (by rfl) (by rfl) (World.news_of_block (cs := #[Value.int .i64 vn]) (t := 2) (fr := (0, 0)) HL9_3_4_7.out) (by simp [Value.oneCell']) (by omega) HRv.out.1 HRv.out.2 HG_7.out.ns' w7.heap.size (by rfl) ?_
                intro g10 c10 w10 hown hgrow hat _
                obtain ⟨qa10, qn10, qc10, HQ10⟩ : ∃ qa qn qc, Hid (Value.slice qa qn qc = Value.slice (some ⟨g10, 0, none⟩) (VS.length + 1) c10) := ⟨_, _, _, Lib.hid rfl⟩
                have HO10 := Lib.hid (show w10.ownsRow (EC + 1) 2 1 (Value.slice qa10 qn10 qc10) (VS ++ [Value.int .i64 vn]).length (VS ++ [Value.int .i64 vn]) by rw [HQ10.out, List.length_append]; exact hown)
                have HG_10 := Lib.hid (HG_7.out.growV HO10.out hgrow (lies_own HQ10.out hat))
                clear hown hgrow hat
                rw [← HQ10.out]
                refine hK.out _ _ (fun _ => (HKP.out _ HG_10.out.low)) ?_
                clear hK K
                (try simp only [ptS, stA, st0, stS])
                refine wpAnyP_ready (rs := [12]) (by kernel_rfl) (by simp) ?_
                refine (AllReadyP.cons (by simp only [opA, opS, op0]; exact rfl) (fun K hK => ?_) AllReadyP.nil)
                rw [if_pos (by kernel_rfl)]
                have c0 : w10.cell? ⟨EC, 0, none⟩ = some (.slice na1 nl nc1) := by simp [World.cell?, HG_10.out.box]
                have f0 := thaw HG_10.out.box 0
                have hbs := cell_lt c0
                go_simp
                have HG_12 := Lib.hid (show EnvB EC _ (w10.setCell ⟨EC, 0, none⟩ (Value.slice qa4 qn4 qc4)) #[(Value.slice qa4 qn4 qc4), (.slice va1 vl vc1), (.slice ta1 tl tc1), (.slice ba1 bl bc1), .int .i64 now] _ _ _ _ _ _ _ _ _ from HG_10.out.store 0 (Value.slice qa4 qn4 qc4))
                generalize w10.setCell ⟨EC, 0, none⟩ (Value.slice qa4 qn4 qc4) = w12 at *
                clear c0 f0 hbs
                refine hK.out _ _ (fun _ => (HKP.out _ HG_12.out.low)) ?_
                clear hK K
                (try simp only [ptN])
                refine tkS (i := 13) (v := ?_) (by simp only [opA, opS, op0]; exact rfl) (by kernel_rfl) (by kernel_rfl) (HKP.out _ HG_12.out.low) ?_ ?_
                rotate_left
                · intro w hS
                  (try dsimp only at hS); first | (go_simp; done) | (go_simp; with_reducible rfl)
                (try simp only [ptS, stA, st0, stS])
                refine wpAnyP_ready (rs := [14]) (by kernel_rfl) (by simp) ?_
                refine (AllReadyP.cons (by simp only [opA, opS, op0]; exact rfl) (fun K hK => ?_) AllReadyP.nil)
                rw [if_pos (by kernel_rfl)]
                have c0 : w12.cell? ⟨EC, 1, none⟩ = some (.slice va1 vl vc1) := by simp [World.cell?, HG_12.out.box]
                have f0 := thaw HG_12.out.box 1
                have hbs := cell_lt c0
                go_simp
                have HG_14 := Lib.hid (show EnvB EC _ (w12.setCell ⟨EC, 1, none⟩ (Value.slice qa10 qn10 qc10)) #[(Value.slice qa4 qn4 qc4), (Value.slice qa10 qn10 qc10), (.slice ta1 tl tc1), (.slice ba1 bl bc1), .int .i64 now] _ _ _ _ _ _ _ _ _ from HG_12.out.store 1 (Value.slice qa10 qn10 qc10))
                generalize w12.setCell ⟨EC, 1, none⟩ (Value.slice qa10 qn10 qc10) = w14 at *
                clear c0 f0 hbs
                refine hK.out _ _ (gone (by kernel_rfl)) ?_
                clear hK K
                (try simp only [ptN])
                refine wpAnyP_done (by kernel_rfl) ?_ _
                go_wp2_with fail
                go_meet
                exact ⟨_, _, _, _, _, _, HG_14⟩
            · rw [if_pos (by kernel_rfl)]
              have HA3 := Lib.hid (more_allocD wd (.cells #[Value.string ⟨#[111, 116, 104, 101, 114]⟩] 9))
              have HL3 := Lib.hid (alloc_last wd (.cells #[Value.string ⟨#[111, 116, 104, 101, 114]⟩] 9))
              obtain ⟨B3, HB3⟩ : ∃ B, Hid (B = wd.heap.size) := ⟨_, Lib.hid rfl⟩
              go_simp
              rw [← HB3.out] at HL3 ⊢
              generalize wd.alloc (.cells #[Value.string ⟨#[111, 116, 104, 101, 114]⟩] 9) = w3 at *
              have HG_3 := Lib.hid (HGd.out.more HA3.out)
              refine hK.out _ _ (fun _ => (HKP.out _ HG_3.out.low)) ?_
              clear hK K
              (try simp only [ptS, stA, st0, stS])
              refine wpAnyP_ready (rs := [2, 9]) (by kernel_rfl) (by simp) ?_
              refine (AllReadyP.cons (by simp only [opA, opS, op0]; exact rfl) (fun K hK => ?_) (AllReadyP.cons (by simp only [opA, opS, op0]; exact rfl) (fun K hK => ?_) AllReadyP.nil))
              · rw [if_pos (by kernel_rfl)]
                have HC2 := Lib.hid (clone57_any NS (.slice na1 nl nc1) w3 (fun _ => True) (by have := HNL.out; omega) (HRN.out.below (HLW.out _ HG_3.out.low)) HNDn.out HN1.out)
                go_simp
                refine HC2.out.mono ?_
                rintro e w2 ⟨⟨x2, rfl, ho⟩, hm⟩
                have HO2 := Lib.hid ho
                have HM2 := Lib.hid hm
                clear ho hm HC2
                obtain ⟨qa2, qc2, hx2, _⟩ := owns_shape HO2.out
                subst hx2
                obtain ⟨qn2, HQN2⟩ : ∃ n, Hid (NS.length = n) := ⟨_, Lib.hid rfl⟩
                rw [HQN2.out]
                have HG_2 := Lib.hid (HG_3.out.newN HM2.out HO2.out)
                skip
                have HL3_2 := Lib.hid ((HM2.out.block (blk_ltD HL3.out)).trans HL3.out)
                obtain ⟨qv2, HQV2⟩ : ∃ v, Hid (Value.slice qa2 NS.length qc2 = v) := ⟨_, Lib.hid rfl⟩
                rw [HQV2.out] at HG_2
                rw [← HQN2.out, HQV2.out]
                try go_wp2_with fail
                refine hK.out _ _ (fun _ => (HKP.out _ HG_2.out.low)) ?_
                clear hK K
                (try simp only [ptS, stA, st0, stS])
                refine wpAnyP_ready (rs := [4, 9]) (by kernel_rfl) (by simp) ?_
                refine (AllReadyP.cons (by simp only [opA, opS, op0]; exact rfl) (fun K hK => ?_) (AllReadyP.cons (by simp only [opA, opS, op0]; exact rfl) (fun K hK => ?_) AllReadyP.nil))
                · refine step_append_lies _ (by rfl) _ _ _ (by rfl) (EC + 1) 9 i0 _ 1 16 Try.underlying90 hi0 hz0 hz1 hz2 rfl (by omega) qv2 NS.length NS (by rfl) HG_2.out.on ⟨B3, 0, none⟩ 1 1 [Value.string ⟨#[111, 116, 104, 101, 114]⟩] (by rfl) (by rfl) (World.news_of_block (cs := #[Value.string ⟨#[111, 116, 104, 101, 114]⟩]) (t := 9) (fr := (0, 0)) HL3_2.out) (by simp [Value.oneCell']) (by omega) HRn.out.1 HRn.out.2 HG_2.out.ns' w2.heap.size (by rfl) ?_
                  intro g4 c4 w4 hown hgrow hat _
                  obtain ⟨qa4, qn4, qc4, HQ4⟩ : ∃ qa qn qc, Hid (Value.slice qa qn qc = Value.slice (some ⟨g4, 0, none⟩) (NS.length + 1) c4) := ⟨_, _, _, Lib.hid rfl⟩
                  have HO4 := Lib.hid (show w4.ownsRow (EC + 1) 9 1 (Value.slice qa4 qn4 qc4) (NS ++ [Value.string ⟨#[111, 116, 104, 101, 114]⟩]).length (NS ++ [Value.string ⟨#[111, 116, 104, 101, 114]⟩]) by rw [HQ4.out, List.length_append]; exact hown)
                  have HG_4 := Lib.hid (HG_2.out.growN HO4.out hgrow (lies_own HQ4.out hat))
                  clear hown hgrow hat
                  rw [← HQ4.out]
                  refine hK.out _ _ (fun _ => (HKP.out _ HG_4.out.low)) ?_
                  clear hK K
                  (try simp only [ptS, stA, st0, stS])
                  refine tkS (i := 11) (v := ?_) (by simp only [opA, opS, op0]; exact rfl) (by kernel_rfl) (by kernel_rfl) (HKP.out _ HG_4.out.low) ?_ ?_
                  rotate_left
                  · intro w hS
                    (try dsimp only at hS); first | (go_simp; done) | (go_simp; with_reducible rfl)
                  (try simp only [ptS, stA, st0, stS])
                  refine wpAnyP_ready (rs := [7, 9]) (by kernel_rfl) (by simp) ?_
                  refine (AllReadyP.cons (by simp only [opA, opS, op0]; exact rfl) (fun K hK => ?_) (AllReadyP.cons (by simp only [opA, opS, op0]; exact rfl) (fun K hK => ?_) AllReadyP.nil))
                  · rw [if_pos (by kernel_rfl)]
                    have HC7 := Lib.hid (clone58_any VS (.slice va1 vl vc1) w4 (fun _ => True) (by have := HVL.out; omega) (HRV.out.below (HLW.out _ HG_4.out.low)) HNDv.out HV1.out)
                    go_simp
                    refine HC7.out.mono ?_
                    rintro e w7 ⟨⟨x7, rfl, ho⟩, hm⟩
                    have HO7 := Lib.hid ho
                    have HM7 := Lib.hid hm
                    clear ho hm HC7
                    obtain ⟨qa7, qc7, hx7, _⟩ := owns_shape HO7.out
                    subst hx7
                    obtain ⟨qn7, HQN7⟩ : ∃ n, Hid (VS.length = n) := ⟨_, Lib.hid rfl⟩
                    rw [HQN7.out]
                    have HG_7 := Lib.hid (HG_4.out.newV HM7.out HO7.out)
                    skip
                    obtain ⟨qv7, HQV7⟩ : ∃ v, Hid (Value.slice qa7 VS.length qc7 = v) := ⟨_, Lib.hid rfl⟩
                    rw [HQV7.out] at HG_7
                    rw [← HQN7.out, HQV7.out]
                    try go_wp2_with fail
                    refine hK.out _ _ (fun _ => (HKP.out _ HG_7.out.low)) ?_
                    clear hK K
                    (try simp only [ptS, stA, st0, stS])
                    refine wpAnyP_ready (rs := [9]) (by kernel_rfl) (by simp) ?_
                    refine (AllReadyP.cons (by simp only [opA, opS, op0]; exact rfl) (fun K hK => ?_) AllReadyP.nil)
                    rw [if_pos (by kernel_rfl)]
                    have HA9 := Lib.hid (more_allocD w7 (.cells #[Value.int .i64 vn] 2))
                    have HL9 := Lib.hid (alloc_last w7 (.cells #[Value.int .i64 vn] 2))
                    obtain ⟨B9, HB9⟩ : ∃ B, Hid (B = w7.heap.size) := ⟨_, Lib.hid rfl⟩
                    go_simp
                    rw [← HB9.out] at HL9 ⊢
                    generalize w7.alloc (.cells #[Value.int .i64 vn] 2) = w9 at *
                    have HG_9 := Lib.hid (HG_7.out.more HA9.out)
                    refine hK.out _ _ (fun _ => (HKP.out _ HG_9.out.low)) ?_
                    clear hK K
                    (try simp only [ptS, stA, st0, stS])
                    refine wpAnyP_ready (rs := [10]) (by kernel_rfl) (by simp) ?_
                    refine (AllReadyP.cons (by simp only [opA, opS, op0]; exact rfl) (fun K hK => ?_) AllReadyP.nil)
                    refine step_append_lies _ (by rfl) _ _ _ (by rfl) (EC + 1) 2 j0 _ 1 8 Try.underlying73 hj0 hy0 hy1 hy2 rfl (by omega) qv7 VS.length VS (by rfl) HG_9.out.ov ⟨B9, 0, none⟩ 1 1 [Value.int .i64 vn] (by rfl) (by rfl) (World.news_of_block (cs := #[Value.int .i64 vn]) (t := 2) (fr := (0, 0)) HL9.out) (by simp [Value.oneCell']) (by omega) HRv.out.1 HRv.out.2 HG_9.out.ns' w9.heap.size (by rfl) ?_
                    intro g10 c10 w10 hown hgrow hat _
                    obtain ⟨qa10, qn10, qc10, HQ10⟩ : ∃ qa qn qc, Hid (Value.slice qa qn qc = Value.slice (some ⟨g10, 0, none⟩) (VS.length + 1) c10) := ⟨_, _, _, Lib.hid rfl⟩
                    have HO10 := Lib.hid (show w10.ownsRow (EC + 1) 2 1 (Value.slice qa10 qn10 qc10) (VS ++ [Value.int .i64 vn]).length (VS ++ [Value.int .i64 vn]) by rw [HQ10.out, List.length_append]; exact hown)
                    have HG_10 := Lib.hid (HG_9.out.growV HO10.out hgrow (lies_own HQ10.out hat))
                    clear hown hgrow hat
                    rw [← HQ10.out]
                    refine hK.out _ _ (fun _ => (HKP.out _ HG_10.out.low)) ?_
                    clear hK K
                    (try simp only [ptS, stA, st0, stS])
                    refine wpAnyP_ready (rs := [12]) (by kernel_rfl) (by simp) ?_
                    refine (AllReadyP.cons (by simp only [opA, opS, op0]; exact rfl) (fun K hK => ?_) AllReadyP.nil)
                    rw [if_pos (by kernel_rfl)]
                    have c0 : w10.cell? ⟨EC, 0, none⟩ = some (.slice na1 nl nc1) := by simp [World.cell?, HG_10.out.box]
                    have f0 := thaw HG_10.out.box 0
                    have hbs := cell_lt c0
                    go_simp
                    have HG_12 := Lib.hid (show EnvB EC _ (w10.setCell ⟨EC, 0, none⟩ (Value.slice qa4 qn4 qc4)) #[(Value.slice qa4 qn4 qc4), (.slice va1 vl vc1), (.slice ta1 tl tc1), (.slice ba1 bl bc1), .int .i64 now] _ _ _ _ _ _ _ _ _ from HG_10.out.store 0 (Value.slice qa4 qn4 qc4))
                    generalize w10.setCell ⟨EC, 0, none⟩ (Value.slice qa4 qn4 qc4) = w12 at *
                    clear c0 f0 hbs
                    refine hK.out _ _ (fun _ => (HKP.out _ HG_12.out.low)) ?_
                    clear hK K
                    (try simp only [ptN])
                    refine tkS (i := 13) (v := ?_) (by simp only [opA, opS, op0]; exact rfl) (by kernel_rfl) (by kernel_rfl) (HKP.out _ HG_12.out.low) ?_ ?_
                    rotate_left
                    · intro w hS
                      (try dsimp only at hS); first | (go_simp; done) | (go_simp; with_reducible rfl)
                    (try simp only [ptS, stA, st0, stS])
                    refine wpAnyP_ready (rs := [14]) (by kernel_rfl) (by simp) ?_
                    refine (AllReadyP.cons (by simp only [opA, opS, op0]; exact rfl) (fun K hK => ?_) AllReadyP.nil)
                    rw [if_pos (by kernel_rfl)]
                    have c0 : w12.cell? ⟨EC, 1, none⟩ = some (.slice va1 vl vc1) := by simp [World.cell?, HG_12.out.box]
                    have f0 := thaw HG_12.out.box 1
                    have hbs := cell_lt c0
                    go_simp
                    have HG_14 := Lib.hid (show EnvB EC _ (w12.setCell ⟨EC, 1, none⟩ (Value.slice qa10 qn10 qc10)) #[(Value.slice qa4 qn4 qc4), (Value.slice qa10 qn10 qc10), (.slice ta1 tl tc1), (.slice ba1 bl bc1), .int .i64 now] _ _ _ _ _ _ _ _ _ from HG_12.out.store 1 (Value.slice qa10 qn10 qc10))
                    generalize w12.setCell ⟨EC, 1, none⟩ (Value.slice qa10 qn10 qc10) = w14 at *
                    clear c0 f0 hbs
                    refine hK.out _ _ (gone (by kernel_rfl)) ?_
                    clear hK K
                    (try simp only [ptN])
                    refine wpAnyP_done (by kernel_rfl) ?_ _
                    go_wp2_with fail
                    go_meet
                    exact ⟨_, _, _, _, _, _, HG_14⟩
                  · rw [if_pos (by kernel_rfl)]
                    have HA9 := Lib.hid (more_allocD w4 (.cells #[Value.int .i64 vn] 2))
                    have HL9 := Lib.hid (alloc_last w4 (.cells #[Value.int .i64 vn] 2))
                    obtain ⟨B9, HB9⟩ : ∃ B, Hid (B = w4.heap.size) := ⟨_, Lib.hid rfl⟩
                    go_simp
                    rw [← HB9.out] at HL9 ⊢
                    generalize w4.alloc (.cells #[Value.int .i64 vn] 2) = w9 at *
                    have HG_9 := Lib.hid (HG_4.out.more HA9.out)
                    refine hK.out _ _ (fun _ => (HKP.out _ HG_9.out.low)) ?_
                    clear hK K
                    (try simp only [ptS, stA, st0, stS])
                    refine wpAnyP_ready (rs := [7]) (by kernel_rfl) (by simp) ?_
                    refine (AllReadyP.cons (by simp only [opA, opS, op0]; exact rfl) (fun K hK => ?_) AllReadyP.nil)
                    rw [if_pos (by kernel_rfl)]
                    have HC7 := Lib.hid (clone58_any VS (.slice va1 vl vc1) w9 (fun _ => True) (by have := HVL.out; omega) (HRV.out.below (HLW.out _ HG_9.out.low)) HNDv.out HV1.out)
                    go_simp
                    refine HC7.out.mono ?_
                    rintro e w7 ⟨⟨x7, rfl, ho⟩, hm⟩
                    have HO7 := Lib.hid ho
                    have HM7 := Lib.hid hm
                    clear ho hm HC7
                    obtain ⟨qa7, qc7, hx7, _⟩ := owns_shape HO7.out
                    subst hx7
                    obtain ⟨qn7, HQN7⟩ : ∃ n, Hid (VS.length = n) := ⟨_, Lib.hid rfl⟩
                    rw [HQN7.out]
                    have HG_7 := Lib.hid (HG_9.out.newV HM7.out HO7.out)
                    skip
                    have HL9_7 := Lib.hid ((HM7.out.block (blk_ltD HL9.out)).trans HL9.out)
                    obtain ⟨qv7, HQV7⟩ : ∃ v, Hid (Value.slice qa7 VS.length qc7 = v) := ⟨_, Lib.hid rfl⟩
                    rw [HQV7.out] at HG_7
                    rw [← HQN7.out, HQV7.out]
                    try go_wp2_with fail
                    refine hK.out _ _ (fun _ => (HKP.out _ HG_7.out.low)) ?_
                    clear hK K
                    (try simp only [ptS, stA, st0, stS])
                    refine wpAnyP_ready (rs := [10]) (by kernel_rfl) (by simp) ?_
                    refine (AllReadyP.cons (by simp only [opA, opS, op0]; exact rfl) (fun K hK => ?_) AllReadyP.nil)
                    refine step_append_lies _ (by rfl) _ _ _ (by rfl) (EC + 1) 2 j0 _ 1 8 Try.underlying73 hj0 hy0 hy1 hy2 rfl (by omega) qv7 VS.length VS (by rfl) HG_7.out.ov ⟨B9, 0, none⟩ 1 1 [Value.int .i64 vn] (by rfl) (by rfl) (World.news_of_block (cs := #[Value.int .i64 vn]) (t := 2) (fr := (0, 0)) HL9_7.out) (by simp [Value.oneCell']) (by omega) HRv.out.1 HRv.out.2 HG_7.out.ns' w7.heap.size (by rfl) ?_
                    intro g10 c10 w10 hown hgrow hat _
                    obtain ⟨qa10, qn10, qc10, HQ10⟩ : ∃ qa qn qc, Hid (Value.slice qa qn qc = Value.slice (some ⟨g10, 0, none⟩) (VS.length + 1) c10) := ⟨_, _, _, Lib.hid rfl⟩
                    have HO10 := Lib.hid (show w10.ownsRow (EC + 1) 2 1 (Value.slice qa10 qn10 qc10) (VS ++ [Value.int .i64 vn]).length (VS ++ [Value.int .i64 vn]) by rw [HQ10.out, List.length_append]; exact hown)
                    have HG_10 := Lib.hid (HG_7.out.growV HO10.out hgrow (lies_own HQ10.out hat))
                    clear hown hgrow hat
                    rw [← HQ10.out]
                    refine hK.out _ _ (fun _ => (HKP.out _ HG_10.out.low)) ?_
                    clear hK K
                    (try simp only [ptS, stA, st0, stS])
                    refine wpAnyP_ready (rs := [12]) (by kernel_rfl) (by simp) ?_
                    refine (AllReadyP.cons (by simp only [opA, opS, op0]; exact rfl) (fun K hK => ?_) AllReadyP.nil)
                    rw [if_pos (by kernel_rfl)]
                    have c0 : w10.cell? ⟨EC, 0, none⟩ = some (.slice na1 nl nc1) := by simp [World.cell?, HG_10.out.box]
                    have f0 := thaw HG_10.out.box 0
                    have hbs := cell_lt c0
                    go_simp
                    have HG_12 := Lib.hid (show EnvB EC _ (w10.setCell ⟨EC, 0, none⟩ (Value.slice qa4 qn4 qc4)) #[(Value.slice qa4 qn4 qc4), (.slice va1 vl vc1), (.slice ta1 tl tc1), (.slice ba1 bl bc1), .int .i64 now] _ _ _ _ _ _ _ _ _ from HG_10.out.store 0 (Value.slice qa4 qn4 qc4))
                    generalize w10.setCell ⟨EC, 0, none⟩ (Value.slice qa4 qn4 qc4) = w12 at *
                    clear c0 f0 hbs
                    refine hK.out _ _ (fun _ => (HKP.out _ HG_12.out.low)) ?_
                    clear hK K
                    (try simp only [ptN])
                    refine tkS (i := 13) (v := ?_) (by simp only [opA, opS, op0]; exact rfl) (by kernel_rfl) (by kernel_rfl) (HKP.out _ HG_12.out.low) ?_ ?_
                    rotate_left
                    · intro w hS
                      (try dsimp only at hS); first | (go_simp; done) | (go_simp; with_reducible rfl)
                    (try simp only [ptS, stA, st0, stS])
                    refine wpAnyP_ready (rs := [14]) (by kernel_rfl) (by simp) ?_
                    refine (AllReadyP.cons (by simp only [opA, opS, op0]; exact rfl) (fun K hK => ?_) AllReadyP.nil)
                    rw [if_pos (by kernel_rfl)]
                    have c0 : w12.cell? ⟨EC, 1, none⟩ = some (.slice va1 vl vc1) := by simp [World.cell?, HG_12.out.box]
                    have f0 := thaw HG_12.out.box 1
                    have hbs := cell_lt c0
                    go_simp
                    have HG_14 := Lib.hid (show EnvB EC _ (w12.setCell ⟨EC, 1, none⟩ (Value.slice qa10 qn10 qc10)) #[(Value.slice qa4 qn4 qc4), (Value.slice qa10 qn10 qc10), (.slice ta1 tl tc1), (.slice ba1 bl bc1), .int .i64 now] _ _ _ _ _ _ _ _ _ from HG_12.out.store 1 (Value.slice qa10 qn10 qc10))
                    generalize w12.setCell ⟨EC, 1, none⟩ (Value.slice qa10 qn10 qc10) = w14 at *
                    clear c0 f0 hbs
                    refine hK.out _ _ (gone (by kernel_rfl)) ?_
                    clear hK K
                    (try simp only [ptN])
                    refine wpAnyP_done (by kernel_rfl) ?_ _
                    go_wp2_with fail
                    go_meet
                    exact ⟨_, _, _, _, _, _, HG_14⟩
                · rw [if_pos (by kernel_rfl)]
                  have HA9 := Lib.hid (more_allocD w2 (.cells #[Value.int .i64 vn] 2))
                  have HL9 := Lib.hid (alloc_last w2 (.cells #[Value.int .i64 vn] 2))
                  obtain ⟨B9, HB9⟩ : ∃ B, Hid (B = w2.heap.size) := ⟨_, Lib.hid rfl⟩
                  go_simp
                  rw [← HB9.out] at HL9 ⊢
                  generalize w2.alloc (.cells #[Value.int .i64 vn] 2) = w9 at *
                  have HG_9 := Lib.hid (HG_2.out.more HA9.out)
                  have HL3_2_9 := Lib.hid ((HA9.out.block (blk_ltD HL3_2.out)).trans HL3_2.out)
                  refine hK.out _ _ (fun _ => (HKP.out _ HG_9.out.low)) ?_
                  clear hK K
                  (try simp only [ptS, stA, st0, stS])
                  refine wpAnyP_ready (rs := [4]) (by kernel_rfl) (by simp) ?_
                  refine (AllReadyP.cons (by simp only [opA, opS, op0]; exact rfl) (fun K hK => ?_) AllReadyP.nil)
                  refine step_append_lies _ (by rfl) _ _ _ (by rfl) (EC + 1) 9 i0 _ 1 16 Try.underlying90 hi0 hz0 hz1 hz2 rfl (by omega) qv2 NS.length NS (by rfl) HG_9.out.on ⟨B3, 0, none⟩ 1 1 [Value.string ⟨#[111, 116, 104, 101, 114]⟩] (by rfl) (by rfl) (World.news_of_block (cs := #[Value.string ⟨#[111, 116, 104, 101, 114]⟩]) (t := 9) (fr := (0, 0)) HL3_2_9.out) (by simp [Value.oneCell']) (by omega) HRn.out.1 HRn.out.2 HG_9.out.ns' w9.heap.size (by rfl) ?_
                  intro g4 c4 w4 hown hgrow hat _
                  obtain ⟨qa4, qn4, qc4, HQ4⟩ : ∃ qa qn qc, Hid (Value.slice qa qn qc = Value.slice (some ⟨g4, 0, none⟩) (NS.length + 1) c4) := ⟨_, _, _, Lib.hid rfl⟩
                  have HO4 := Lib.hid (show w4.ownsRow (EC + 1) 9 1 (Value.slice qa4 qn4 qc4) (NS ++ [Value.string ⟨#[111, 116, 104, 101, 114]⟩]).length (NS ++ [Value.string ⟨#[111, 116, 104, 101, 114]⟩]) by rw [HQ4.out, List.length_append]; exact hown)
                  have HG_4 := Lib.hid (HG_9.out.growN HO4.out hgrow (lies_own HQ4.out hat))
                  have HL9_4 := Lib.hid (blk_grow HG_9.out.on HL9.out (by decide) hgrow)
                  clear hown hgrow hat
                  rw [← HQ4.out]
                  refine hK.out _ _ (fun _ => (HKP.out _ HG_4.out.low)) ?_
                  clear hK K
                  (try simp only [ptS, stA, st0, stS])
                  refine tkS (i := 11) (v := ?_) (by simp only [opA, opS, op0]; exact rfl) (by kernel_rfl) (by kernel_rfl) (HKP.out _ HG_4.out.low) ?_ ?_
                  rotate_left
                  · intro w hS
                    (try dsimp only at hS); first | (go_simp; done) | (go_simp; with_reducible rfl)
                  (try simp only [ptS, stA, st0, stS])
                  refine wpAnyP_ready (rs := [7]) (by kernel_rfl) (by simp) ?_
                  refine (AllReadyP.cons (by simp only [opA, opS, op0]; exact rfl) (fun K hK => ?_) AllReadyP.nil)
                  rw [if_pos (by kernel_rfl)]
                  have HC7 := Lib.hid (clone58_any VS (.slice va1 vl vc1) w4 (fun _ => True) (by have := HVL.out; omega) (HRV.out.below (HLW.out _ HG_4.out.low)) HNDv.out HV1.out)
                  go_simp
                  refine HC7.out.mono ?_
                  rintro e w7 ⟨⟨x7, rfl, ho⟩, hm⟩
                  have HO7 := Lib.hid ho
                  have HM7 := Lib.hid hm
                  clear ho hm HC7
                  obtain ⟨qa7, qc7, hx7, _⟩ := owns_shape HO7.out
                  subst hx7
                  obtain ⟨qn7, HQN7⟩ : ∃ n, Hid (VS.length = n) := ⟨_, Lib.hid rfl⟩
                  rw [HQN7.out]
                  have HG_7 := Lib.hid (HG_4.out.newV HM7.out HO7.out)
                  skip
                  have HL9_4_7 := Lib.hid ((HM7.out.block (blk_ltD HL9_4.out)).trans HL9_4.out)
                  obtain ⟨qv7, HQV7⟩ : ∃ v, Hid (Value.slice qa7 VS.length qc7 = v) := ⟨_, Lib.hid rfl⟩
                  rw [HQV7.out] at HG_7
                  rw [← HQN7.out, HQV7.out]
                  try go_wp2_with fail
                  refine hK.out _ _ (fun _ => (HKP.out _ HG_7.out.low)) ?_
                  clear hK K
                  (try simp only [ptS, stA, st0, stS])
                  refine wpAnyP_ready (rs := [10]) (by kernel_rfl) (by simp) ?_
                  refine (AllReadyP.cons (by simp only [opA, opS, op0]; exact rfl) (fun K hK => ?_) AllReadyP.nil)
                  refine step_append_lies _ (by rfl) _ _ _ (by rfl) (EC + 1) 2 j0 _ 1 8 Try.underlying73 hj0 hy0 hy1 hy2 rfl (by omega) qv7 VS.length VS (by rfl) HG_7.out.ov ⟨B9, 0, none⟩ 1 1 [Value.int .i64 vn] (by rfl) (by rfl) (World.news_of_block (cs := #[Value.int .i64 vn]) (t := 2) (fr := (0, 0)) HL9_4_7.out) (by simp [Value.oneCell']) (by omega) HRv.out.1 HRv.out.2 HG_7.out.ns' w7.heap.size (by rfl) ?_
                  intro g10 c10 w10 hown hgrow hat _
                  obtain ⟨qa10, qn10, qc10, HQ10⟩ : ∃ qa qn qc, Hid (Value.slice qa qn qc = Value.slice (some ⟨g10, 0, none⟩) (VS.length + 1) c10) := ⟨_, _, _, Lib.hid rfl⟩
                  have HO10 := Lib.hid (show w10.ownsRow (EC + 1) 2 1 (Value.slice qa10 qn10 qc10) (VS ++ [Value.int .i64 vn]).length (VS ++ [Value.int .i64 vn]) by rw [HQ10.out, List.length_append]; exact hown)
                  have HG_10 := Lib.hid (HG_7.out.growV HO10.out hgrow (lies_own HQ10.out hat))
                  clear hown hgrow hat
                  rw [← HQ10.out]
                  refine hK.out _ _ (fun _ => (HKP.out _ HG_10.out.low)) ?_
                  clear hK K
                  (try simp only [ptS, stA, st0, stS])
                  refine wpAnyP_ready (rs := [12]) (by kernel_rfl) (by simp) ?_
                  refine (AllReadyP.cons (by simp only [opA, opS, op0]; exact rfl) (fun K hK => ?_) AllReadyP.nil)
                  rw [if_pos (by kernel_rfl)]
                  have c0 : w10.cell? ⟨EC, 0, none⟩ = some (.slice na1 nl nc1) := by simp [World.cell?, HG_10.out.box]
                  have f0 := thaw HG_10.out.box 0
                  have hbs := cell_lt c0
                  go_simp
                  have HG_12 := Lib.hid (show EnvB EC _ (w10.setCell ⟨EC, 0, none⟩ (Value.slice qa4 qn4 qc4)) #[(Value.slice qa4 qn4 qc4), (.slice va1 vl vc1), (.slice ta1 tl tc1), (.slice ba1 bl bc1), .int .i64 now] _ _ _ _ _ _ _ _ _ from HG_10.out.store 0 (Value.slice qa4 qn4 qc4))
                  generalize w10.setCell ⟨EC, 0, none⟩ (Value.slice qa4 qn4 qc4) = w12 at *
                  clear c0 f0 hbs
                  refine hK.out _ _ (fun _ => (HKP.out _ HG_12.out.low)) ?_
                  clear hK K
                  (try simp only [ptN])
                  refine tkS (i := 13) (v := ?_) (by simp only [opA, opS, op0]; exact rfl) (by kernel_rfl) (by kernel_rfl) (HKP.out _ HG_12.out.low) ?_ ?_
                  rotate_left
                  · intro w hS
                    (try dsimp only at hS); first | (go_simp; done) | (go_simp; with_reducible rfl)
                  (try simp only [ptS, stA, st0, stS])
                  refine wpAnyP_ready (rs := [14]) (by kernel_rfl) (by simp) ?_
                  refine (AllReadyP.cons (by simp only [opA, opS, op0]; exact rfl) (fun K hK => ?_) AllReadyP.nil)
                  rw [if_pos (by kernel_rfl)]
                  have c0 : w12.cell? ⟨EC, 1, none⟩ = some (.slice va1 vl vc1) := by simp [World.cell?, HG_12.out.box]
                  have f0 := thaw HG_12.out.box 1
                  have hbs := cell_lt c0
                  go_simp
                  have HG_14 := Lib.hid (show EnvB EC _ (w12.setCell ⟨EC, 1, none⟩ (Value.slice qa10 qn10 qc10)) #[(Value.slice qa4 qn4 qc4), (Value.slice qa10 qn10 qc10), (.slice ta1 tl tc1), (.slice ba1 bl bc1), .int .i64 now] _ _ _ _ _ _ _ _ _ from HG_12.out.store 1 (Value.slice qa10 qn10 qc10))
                  generalize w12.setCell ⟨EC, 1, none⟩ (Value.slice qa10 qn10 qc10) = w14 at *
                  clear c0 f0 hbs
                  refine hK.out _ _ (gone (by kernel_rfl)) ?_
                  clear hK K
                  (try simp only [ptN])
                  refine wpAnyP_done (by kernel_rfl) ?_ _
                  go_wp2_with fail
                  go_meet
                  exact ⟨_, _, _, _, _, _, HG_14⟩
              · rw [if_pos (by kernel_rfl)]
                have HA9 := Lib.hid (more_allocD w3 (.cells #[Value.int .i64 vn] 2))
                have HL9 := Lib.hid (alloc_last w3 (.cells #[Value.int .i64 vn] 2))
                obtain ⟨B9, HB9⟩ : ∃ B, Hid (B = w3.heap.size) := ⟨_, Lib.hid rfl⟩
                go_simp
                rw [← HB9.out] at HL9 ⊢
                generalize w3.alloc (.cells #[Value.int .i64 vn] 2) = w9 at *
                have HG_9 := Lib.hid (HG_3.out.more HA9.out)
                have HL3_9 := Lib.hid ((HA9.out.block (blk_ltD HL3.out)).trans HL3.out)
                refine hK.out _ _ (fun _ => (HKP.out _ HG_9.out.low)) ?_
                clear hK K
                (try simp only [ptS, stA, st0, stS])
                refine wpAnyP_ready (rs := [2]) (by kernel_rfl) (by simp) ?_
                refine (AllReadyP.cons (by simp only [opA, opS, op0]; exact rfl) (fun K hK => ?_) AllReadyP.nil)
                rw [if_pos (by kernel_rfl)]
                have HC2 := Lib.hid (clone57_any NS (.slice na1 nl nc1) w9 (fun _ => True) (by have := HNL.out; omega) (HRN.out.below (HLW.out _ HG_9.out.low)) HNDn.out HN1.out)
                go_simp
                refine HC2.out.mono ?_
                rintro e w2 ⟨⟨x2, rfl, ho⟩, hm⟩
                have HO2 := Lib.hid ho
                have HM2 := Lib.hid hm
                clear ho hm HC2
                obtain ⟨qa2, qc2, hx2, _⟩ := owns_shape HO2.out
                subst hx2
                obtain ⟨qn2, HQN2⟩ : ∃ n, Hid (NS.length = n) := ⟨_, Lib.hid rfl⟩
                rw [HQN2.out]
                have HG_2 := Lib.hid (HG_9.out.newN HM2.out HO2.out)
                skip
                have HL3_9_2 := Lib.hid ((HM2.out.block (blk_ltD HL3_9.out)).trans HL3_9.out)
                have HL9_2 := Lib.hid ((HM2.out.block (blk_ltD HL9.out)).trans HL9.out)
                obtain ⟨qv2, HQV2⟩ : ∃ v, Hid (Value.slice qa2 NS.length qc2 = v) := ⟨_, Lib.hid rfl⟩
                rw [HQV2.out] at HG_2
                rw [← HQN2.out, HQV2.out]
                try go_wp2_with fail
                refine hK.out _ _ (fun _ => (HKP.out _ HG_2.out.low)) ?_
                clear hK K
                (try simp only [ptS, stA, st0, stS])
                refine wpAnyP_ready (rs := [4]) (by kernel_rfl) (by simp) ?_
                refine (AllReadyP.cons (by simp only [opA, opS, op0]; exact rfl) (fun K hK => ?_) AllReadyP.nil)
                refine step_append_lies _ (by rfl) _ _ _ (by rfl) (EC + 1) 9 i0 _ 1 16 Try.underlying90 hi0 hz0 hz1 hz2 rfl (by omega) qv2 NS.length NS (by rfl) HG_2.out.on ⟨B3, 0, none⟩ 1 1 [Value.string ⟨#[111, 116, 104, 101, 114]⟩] (by rfl) (by rfl) (World.news_of_block (cs := #[Value.string ⟨#[111, 116, 104, 101, 114]⟩]) (t := 9) (fr := (0, 0)) HL3_9_2.out) (by simp [Value.oneCell']) (by omega) HRn.out.1 HRn.out.2 HG_2.out.ns' w2.heap.size (by rfl) ?_
                intro g4 c4 w4 hown hgrow hat _
                obtain ⟨qa4, qn4, qc4, HQ4⟩ : ∃ qa qn qc, Hid (Value.slice qa qn qc = Value.slice (some ⟨g4, 0, none⟩) (NS.length + 1) c4) := ⟨_, _, _, Lib.hid rfl⟩
                have HO4 := Lib.hid (show w4.ownsRow (EC + 1) 9 1 (Value.slice qa4 qn4 qc4) (NS ++ [Value.string ⟨#[111, 116, 104, 101, 114]⟩]).length (NS ++ [Value.string ⟨#[111, 116, 104, 101, 114]⟩]) by rw [HQ4.out, List.length_append]; exact hown)
                have HG_4 := Lib.hid (HG_2.out.growN HO4.out hgrow (lies_own HQ4.out hat))
                have HL9_2_4 := Lib.hid (blk_grow HG_2.out.on HL9_2.out (by decide) hgrow)
                clear hown hgrow hat
                rw [← HQ4.out]
                refine hK.out _ _ (fun _ => (HKP.out _ HG_4.out.low)) ?_
                clear hK K
                (try simp only [ptS, stA, st0, stS])
                refine tkS (i := 11) (v := ?_) (by simp only [opA, opS, op0]; exact rfl) (by kernel_rfl) (by kernel_rfl) (HKP.out _ HG_4.out.low) ?_ ?_
                rotate_left
                · intro w hS
                  (try dsimp only at hS); first | (go_simp; done) | (go_simp; with_reducible rfl)
                (try simp only [ptS, stA, st0, stS])
                refine wpAnyP_ready (rs := [7]) (by kernel_rfl) (by simp) ?_
                refine (AllReadyP.cons (by simp only [opA, opS, op0]; exact rfl) (fun K hK => ?_) AllReadyP.nil)
                rw [if_pos (by kernel_rfl)]
                have HC7 := Lib.hid (clone58_any VS (.slice va1 vl vc1) w4 (fun _ => True) (by have := HVL.out; omega) (HRV.out.below (HLW.out _ HG_4.out.low)) HNDv.out HV1.out)
                go_simp
                refine HC7.out.mono ?_
                rintro e w7 ⟨⟨x7, rfl, ho⟩, hm⟩
                have HO7 := Lib.hid ho
                have HM7 := Lib.hid hm
                clear ho hm HC7
                obtain ⟨qa7, qc7, hx7, _⟩ := owns_shape HO7.out
                subst hx7
                obtain ⟨qn7, HQN7⟩ : ∃ n, Hid (VS.length = n) := ⟨_, Lib.hid rfl⟩
                rw [HQN7.out]
                have HG_7 := Lib.hid (HG_4.out.newV HM7.out HO7.out)
                skip
                have HL9_2_4_7 := Lib.hid ((HM7.out.block (blk_ltD HL9_2_4.out)).trans HL9_2_4.out)
                obtain ⟨qv7, HQV7⟩ : ∃ v, Hid (Value.slice qa7 VS.length qc7 = v) := ⟨_, Lib.hid rfl⟩
                rw [HQV7.out] at HG_7
                rw [← HQN7.out, HQV7.out]
                try go_wp2_with fail
                refine hK.out _ _ (fun _ => (HKP.out _ HG_7.out.low)) ?_
                clear hK K
                (try simp only [ptS, stA, st0, stS])
                refine wpAnyP_ready (rs := [10]) (by kernel_rfl) (by simp) ?_
                refine (AllReadyP.cons (by simp only [opA, opS, op0]; exact rfl) (fun K hK => ?_) AllReadyP.nil)
                refine step_append_lies _ (by rfl) _ _ _ (by rfl) (EC + 1) 2 j0 _ 1 8 Try.underlying73 hj0 hy0 hy1 hy2 rfl (by omega) qv7 VS.length VS (by rfl) HG_7.out.ov ⟨B9, 0, none⟩ 1 1 [Value.int .i64 vn] (by rfl) (by rfl) (World.news_of_block (cs := #[Value.int .i64 vn]) (t := 2) (fr := (0, 0)) HL9_2_4_7.out) (by simp [Value.oneCell']) (by omega) HRv.out.1 HRv.out.2 HG_7.out.ns' w7.heap.size (by rfl) ?_
                intro g10 c10 w10 hown hgrow hat _
                obtain ⟨qa10, qn10, qc10, HQ10⟩ : ∃ qa qn qc, Hid (Value.slice qa qn qc = Value.slice (some ⟨g10, 0, none⟩) (VS.length + 1) c10) := ⟨_, _, _, Lib.hid rfl⟩
                have HO10 := Lib.hid (show w10.ownsRow (EC + 1) 2 1 (Value.slice qa10 qn10 qc10) (VS ++ [Value.int .i64 vn]).length (VS ++ [Value.int .i64 vn]) by rw [HQ10.out, List.length_append]; exact hown)
                have HG_10 := Lib.hid (HG_7.out.growV HO10.out hgrow (lies_own HQ10.out hat))
                clear hown hgrow hat
                rw [← HQ10.out]
                refine hK.out _ _ (fun _ => (HKP.out _ HG_10.out.low)) ?_
                clear hK K
                (try simp only [ptS, stA, st0, stS])
                refine wpAnyP_ready (rs := [12]) (by kernel_rfl) (by simp) ?_
                refine (AllReadyP.cons (by simp only [opA, opS, op0]; exact rfl) (fun K hK => ?_) AllReadyP.nil)
                rw [if_pos (by kernel_rfl)]
                have c0 : w10.cell? ⟨EC, 0, none⟩ = some (.slice na1 nl nc1) := by simp [World.cell?, HG_10.out.box]
                have f0 := thaw HG_10.out.box 0
                have hbs := cell_lt c0
                go_simp
                have HG_12 := Lib.hid (show EnvB EC _ (w10.setCell ⟨EC, 0, none⟩ (Value.slice qa4 qn4 qc4)) #[(Value.slice qa4 qn4 qc4), (.slice va1 vl vc1), (.slice ta1 tl tc1), (.slice ba1 bl bc1), .int .i64 now] _ _ _ _ _ _ _ _ _ from HG_10.out.store 0 (Value.slice qa4 qn4 qc4))
                generalize w10.setCell ⟨EC, 0, none⟩ (Value.slice qa4 qn4 qc4) = w12 at *
                clear c0 f0 hbs
                refine hK.out _ _ (fun _ => (HKP.out _ HG_12.out.low)) ?_
                clear hK K
                (try simp only [ptN])
                refine tkS (i := 13) (v := ?_) (by simp only [opA, opS, op0]; exact rfl) (by kernel_rfl) (by kernel_rfl) (HKP.out _ HG_12.out.low) ?_ ?_
                rotate_left
                · intro w hS
                  (try dsimp only at hS); first | (go_simp; done) | (go_simp; with_reducible rfl)
                (try simp only [ptS, stA, st0, stS])
                refine wpAnyP_ready (rs := [14]) (by kernel_rfl) (by simp) ?_
                refine (AllReadyP.cons (by simp only [opA, opS, op0]; exact rfl) (fun K hK => ?_) AllReadyP.nil)
                rw [if_pos (by kernel_rfl)]
                have c0 : w12.cell? ⟨EC, 1, none⟩ = some (.slice va1 vl vc1) := by simp [World.cell?, HG_12.out.box]
                have f0 := thaw HG_12.out.box 1
                have hbs := cell_lt c0
                go_simp
                have HG_14 := Lib.hid (show EnvB EC _ (w12.setCell ⟨EC, 1, none⟩ (Value.slice qa10 qn10 qc10)) #[(Value.slice qa4 qn4 qc4), (Value.slice qa10 qn10 qc10), (.slice ta1 tl tc1), (.slice ba1 bl bc1), .int .i64 now] _ _ _ _ _ _ _ _ _ from HG_12.out.store 1 (Value.slice qa10 qn10 qc10))
                generalize w12.setCell ⟨EC, 1, none⟩ (Value.slice qa10 qn10 qc10) = w14 at *
                clear c0 f0 hbs
                refine hK.out _ _ (gone (by kernel_rfl)) ?_
                clear hK K
                (try simp only [ptN])
                refine wpAnyP_done (by kernel_rfl) ?_ _
                go_wp2_with fail
                go_meet
                exact ⟨_, _, _, _, _, _, HG_14⟩
            · rw [if_pos (by kernel_rfl)]
              have HA9 := Lib.hid (more_allocD wd (.cells #[Value.int .i64 vn] 2))
              have HL9 := Lib.hid (alloc_last wd (.cells #[Value.int .i64 vn] 2))
              obtain ⟨B9, HB9⟩ : ∃ B, Hid (B = wd.heap.size) := ⟨_, Lib.hid rfl⟩
              go_simp
              rw [← HB9.out] at HL9 ⊢
              generalize wd.alloc (.cells #[Value.int .i64 vn] 2) = w9 at *
              have HG_9 := Lib.hid (HGd.out.more HA9.out)
              refine hK.out _ _ (fun _ => (HKP.out _ HG_9.out.low)) ?_
              clear hK K
              (try simp only [ptS, stA, st0, stS])
              refine wpAnyP_ready (rs := [2, 3]) (by kernel_rfl) (by simp) ?_
              refine (AllReadyP.cons (by simp only [opA, opS, op0]; exact rfl) (fun K hK => ?_) (AllReadyP.cons (by simp only [opA, opS, op0]; exact rfl) (fun K hK => ?_) AllReadyP.nil))
              · rw [if_pos (by kernel_rfl)]
                have HC2 := Lib.hid (clone57_any NS (.slice na1 nl nc1) w9 (fun _ => True) (by have := HNL.out; omega) (HRN.out.below (HLW.out _ HG_9.out.low)) HNDn.out HN1.out)
                go_simp
                refine HC2.out.mono ?_
                rintro e w2 ⟨⟨x2, rfl, ho⟩, hm⟩
                have HO2 := Lib.hid ho
                have HM2 := Lib.hid hm
                clear ho hm HC2
                obtain ⟨qa2, qc2, hx2, _⟩ := owns_shape HO2.out
                subst hx2
                obtain ⟨qn2, HQN2⟩ : ∃ n, Hid (NS.length = n) := ⟨_, Lib.hid rfl⟩
                rw [HQN2.out]
                have HG_2 := Lib.hid (HG_9.out.newN HM2.out HO2.out)
                skip
                have HL9_2 := Lib.hid ((HM2.out.block (blk_ltD HL9.out)).trans HL9.out)
                obtain ⟨qv2, HQV2⟩ : ∃ v, Hid (Value.slice qa2 NS.length qc2 = v) := ⟨_, Lib.hid rfl⟩
                rw [HQV2.out] at HG_2
                rw [← HQN2.out, HQV2.out]
                try go_wp2_with fail
                refine hK.out _ _ (fun _ => (HKP.out _ HG_2.out.low)) ?_
                clear hK K
                (try simp only [ptS, stA, st0, stS])
                refine wpAnyP_ready (rs := [3]) (by kernel_rfl) (by simp) ?_
                refine (AllReadyP.cons (by simp only [opA, opS, op0]; exact rfl) (fun K hK => ?_) AllReadyP.nil)
                rw [if_pos (by kernel_rfl)]
                have HA3 := Lib.hid (more_allocD w2 (.cells #[Value.string ⟨#[111, 116, 104, 101, 114]⟩] 9))
                have HL3 := Lib.hid (alloc_last w2 (.cells #[Value.string ⟨#[111, 116, 104, 101, 114]⟩] 9))
                obtain ⟨B3, HB3⟩ : ∃ B, Hid (B = w2.heap.size) := ⟨_, Lib.hid rfl⟩
                go_simp
                rw [← HB3.out] at HL3 ⊢
                generalize w2.alloc (.cells #[Value.string ⟨#[111, 116, 104, 101, 114]⟩] 9) = w3 at *
                have HG_3 := Lib.hid (HG_2.out.more HA3.out)
                have HL9_2_3 := Lib.hid ((HA3.out.block (blk_ltD HL9_2.out)).trans HL9_2.out)
                refine hK.out _ _ (fun _ => (HKP.out _ HG_3.out.low)) ?_
                clear hK K
                (try simp only [ptS, stA, st0, stS])
                refine wpAnyP_ready (rs := [4]) (by kernel_rfl) (by simp) ?_
                refine (AllReadyP.cons (by simp only [opA, opS, op0]; exact rfl) (fun K hK => ?_) AllReadyP.nil)
                refine step_append_lies _ (by rfl) _ _ _ (by rfl) (EC + 1) 9 i0 _ 1 16 Try.underlying90 hi0 hz0 hz1 hz2 rfl (by omega) qv2 NS.length NS (by rfl) HG_3.out.on ⟨B3, 0, none⟩ 1 1 [Value.string ⟨#[111, 116, 104, 101, 114]⟩] (by rfl) (by rfl) (World.news_of_block (cs := #[Value.string ⟨#[111, 116, 104, 101, 114]⟩]) (t := 9) (fr := (0, 0)) HL3.out) (by simp [Value.oneCell']) (by omega) HRn.out.1 HRn.out.2 HG_3.out.ns' w3.heap.size (by rfl) ?_
                intro g4 c4 w4 hown hgrow hat _
                obtain ⟨qa4, qn4, qc4, HQ4⟩ : ∃ qa qn qc, Hid (Value.slice qa qn qc = Value.slice (some ⟨g4, 0, none⟩) (NS.length + 1) c4) := ⟨_, _, _, Lib.hid rfl⟩
                have HO4 := Lib.hid (show w4.ownsRow (EC + 1) 9 1 (Value.slice qa4 qn4 qc4) (NS ++ [Value.string ⟨#[111, 116, 104, 101, 114]⟩]).length (NS ++ [Value.string ⟨#[111, 116, 104, 101, 114]⟩]) by rw [HQ4.out, List.length_append]; exact hown)
                have HG_4 := Lib.hid (HG_3.out.growN HO4.out hgrow (lies_own HQ4.out hat))
                have HL9_2_3_4 := Lib.hid (blk_grow HG_3.out.on HL9_2_3.out (by decide) hgrow)
                clear hown hgrow hat
                rw [← HQ4.out]
                refine hK.out _ _ (fun _ => (HKP.out _ HG_4.out.low)) ?_
                clear hK K
                (try simp only [ptS, stA, st0, stS])
                refine tkS (i := 11) (v := ?_) (by simp only [opA, opS, op0]; exact rfl) (by kernel_rfl) (by kernel_rfl) (HKP.out _ HG_4.out.low) ?_ ?_
                rotate_left
                · intro w hS
                  (try dsimp only at hS); first | (go_simp; done) | (go_simp; with_reducible rfl)
                (try simp only [ptS, stA, st0, stS])
                refine wpAnyP_ready (rs := [7]) (by kernel_rfl) (by simp) ?_
                refine (AllReadyP.cons (by simp only [opA, opS, op0]; exact rfl) (fun K hK => ?_) AllReadyP.nil)
                rw [if_pos (by kernel_rfl)]
                have HC7 := Lib.hid (clone58_any VS (.slice va1 vl vc1) w4 (fun _ => True) (by have := HVL.out; omega) (HRV.out.below (HLW.out _ HG_4.out.low)) HNDv.out HV1.out)
                go_simp
                refine HC7.out.mono ?_
                rintro e w7 ⟨⟨x7, rfl, ho⟩, hm⟩
                have HO7 := Lib.hid ho
                have HM7 := Lib.hid hm
                clear ho hm HC7
                obtain ⟨qa7, qc7, hx7, _⟩ := owns_shape HO7.out
                subst hx7
                obtain ⟨qn7, HQN7⟩ : ∃ n, Hid (VS.length = n) := ⟨_, Lib.hid rfl⟩
                rw [HQN7.out]
                have HG_7 := Lib.hid (HG_4.out.newV HM7.out HO7.out)
                skip
                have HL9_2_3_4_7 := Lib.hid ((HM7.out.block (blk_ltD HL9_2_3_4.out)).trans HL9_2_3_4.out)
                obtain ⟨qv7, HQV7⟩ : ∃ v, Hid (Value.slice qa7 VS.length qc7 = v) := ⟨_, Lib.hid rfl⟩
                rw [HQV7.out] at HG_7
                rw [← HQN7.out, HQV7.out]
                try go_wp2_with fail
                refine hK.out _ _ (fun _ => (HKP.out _ HG_7.out.low)) ?_
                clear hK K
                (try simp only [ptS, stA, st0, stS])
                refine wpAnyP_ready (rs := [10]) (by kernel_rfl) (by simp) ?_
                refine (AllReadyP.cons (by simp only [opA, opS, op0]; exact rfl) (fun K hK => ?_) AllReadyP.nil)
                refine step_append_lies _ (by rfl) _ _ _ (by rfl) (EC + 1) 2 j0 _ 1 8 Try.underlying73 hj0 hy0 hy1 hy2 rfl (by omega) qv7 VS.length VS (by rfl) HG_7.out.ov ⟨B9, 0, none⟩ 1 1 [Value.int .i64 vn] (by rfl) (by rfl) (World.news_of_block (cs := #[Value.int .i64 vn]) (t := 2) (fr := (0, 0)) HL9_2_3_4_7.out) (by simp [Value.oneCell']) (by omega) HRv.out.1 HRv.out.2 HG_7.out.ns' w7.heap.size (by rfl) ?_
                intro g10 c10 w10 hown hgrow hat _
                obtain ⟨qa10, qn10, qc10, HQ10⟩ : ∃ qa qn qc, Hid (Value.slice qa qn qc = Value.slice (some ⟨g10, 0, none⟩) (VS.length + 1) c10) := ⟨_, _, _, Lib.hid rfl⟩
                have HO10 := Lib.hid (show w10.ownsRow (EC + 1) 2 1 (Value.slice qa10 qn10 qc10) (VS ++ [Value.int .i64 vn]).length (VS ++ [Value.int .i64 vn]) by rw [HQ10.out, List.length_append]; exact hown)
                have HG_10 := Lib.hid (HG_7.out.growV HO10.out hgrow (lies_own HQ10.out hat))
                clear hown hgrow hat
                rw [← HQ10.out]
                refine hK.out _ _ (fun _ => (HKP.out _ HG_10.out.low)) ?_
                clear hK K
                (try simp only [ptS, stA, st0, stS])
                refine wpAnyP_ready (rs := [12]) (by kernel_rfl) (by simp) ?_
                refine (AllReadyP.cons (by simp only [opA, opS, op0]; exact rfl) (fun K hK => ?_) AllReadyP.nil)
                rw [if_pos (by kernel_rfl)]
                have c0 : w10.cell? ⟨EC, 0, none⟩ = some (.slice na1 nl nc1) := by simp [World.cell?, HG_10.out.box]
                have f0 := thaw HG_10.out.box 0
                have hbs := cell_lt c0
                go_simp
                have HG_12 := Lib.hid (show EnvB EC _ (w10.setCell ⟨EC, 0, none⟩ (Value.slice qa4 qn4 qc4)) #[(Value.slice qa4 qn4 qc4), (.slice va1 vl vc1), (.slice ta1 tl tc1), (.slice ba1 bl bc1), .int .i64 now] _ _ _ _ _ _ _ _ _ from HG_10.out.store 0 (Value.slice qa4 qn4 qc4))
                generalize w10.setCell ⟨EC, 0, none⟩ (Value.slice qa4 qn4 qc4) = w12 at *
                clear c0 f0 hbs
                refine hK.out _ _ (fun _ => (HKP.out _ HG_12.out.low)) ?_
                clear hK K
                (try simp only [ptN])
                refine tkS (i := 13) (v := ?_) (by simp only [opA, opS, op0]; exact rfl) (by kernel_rfl) (by kernel_rfl) (HKP.out _ HG_12.out.low) ?_ ?_
                rotate_left
                · intro w hS
                  (try dsimp only at hS); first | (go_simp; done) | (go_simp; with_reducible rfl)
                (try simp only [ptS, stA, st0, stS])
                refine wpAnyP_ready (rs := [14]) (by kernel_rfl) (by simp) ?_
                refine (AllReadyP.cons (by simp only [opA, opS, op0]; exact rfl) (fun K hK => ?_) AllReadyP.nil)
                rw [if_pos (by kernel_rfl)]
                have c0 : w12.cell? ⟨EC, 1, none⟩ = some (.slice va1 vl vc1) := by simp [World.cell?, HG_12.out.box]
                have f0 := thaw HG_12.out.box 1
                have hbs := cell_lt c0
                go_simp
                have HG_14 := Lib.hid (show EnvB EC _ (w12.setCell ⟨EC, 1, none⟩ (Value.slice qa10 qn10 qc10)) #[(Value.slice qa4 qn4 qc4), (Value.slice qa10 qn10 qc10), (.slice ta1 tl tc1), (.slice ba1 bl bc1), .int .i64 now] _ _ _ _ _ _ _ _ _ from HG_12.out.store 1 (Value.slice qa10 qn10 qc10))
                generalize w12.setCell ⟨EC, 1, none⟩ (Value.slice qa10 qn10 qc10) = w14 at *
                clear c0 f0 hbs
                refine hK.out _ _ (gone (by kernel_rfl)) ?_
                clear hK K
                (try simp only [ptN])
                refine wpAnyP_done (by kernel_rfl) ?_ _
                go_wp2_with fail
                go_meet
                exact ⟨_, _, _, _, _, _, HG_14⟩
              · rw [if_pos (by kernel_rfl)]
                have HA3 := Lib.hid (more_allocD w9 (.cells #[Value.string ⟨#[111, 116, 104, 101, 114]⟩] 9))
                have HL3 := Lib.hid (alloc_last w9 (.cells #[Value.string ⟨#[111, 116, 104, 101, 114]⟩] 9))
                obtain ⟨B3, HB3⟩ : ∃ B, Hid (B = w9.heap.size) := ⟨_, Lib.hid rfl⟩
                go_simp
                rw [← HB3.out] at HL3 ⊢
                generalize w9.alloc (.cells #[Value.string ⟨#[111, 116, 104, 101, 114]⟩] 9) = w3 at *
                have HG_3 := Lib.hid (HG_9.out.more HA3.out)
                have HL9_3 := Lib.hid ((HA3.out.block (blk_ltD HL9.out)).trans HL9.out)
                refine hK.out _ _ (fun _ => (HKP.out _ HG_3.out.low)) ?_
                clear hK K
                (try simp only [ptS, stA, st0, stS])
                refine wpAnyP_ready (rs := [2]) (by kernel_rfl) (by simp) ?_
                refine (AllReadyP.cons (by simp only [opA, opS, op0]; exact rfl) (fun K hK => ?_) AllReadyP.nil)
                rw [if_pos (by kernel_rfl)]
                have HC2 := Lib.hid (clone57_any NS (.slice na1 nl nc1) w3 (fun _ => True) (by have := HNL.out; omega) (HRN.out.below (HLW.out _ HG_3.out.low)) HNDn.out HN1.out)
                go_simp
                refine HC2.out.mono ?_
                rintro e w2 ⟨⟨x2, rfl, ho⟩, hm⟩
                have HO2 := Lib.hid ho
                have HM2 := Lib.hid hm
                clear ho hm HC2
                obtain ⟨qa2, qc2, hx2, _⟩ := owns_shape HO2.out
                subst hx2
                obtain ⟨qn2, HQN2⟩ : ∃ n, Hid (NS.length = n) := ⟨_, Lib.hid rfl⟩
                rw [HQN2.out]
                have HG_2 := Lib.hid (HG_3.out.newN HM2.out HO2.out)
                skip
                have HL9_3_2 := Lib.hid ((HM2.out.block (blk_ltD HL9_3.out)).trans HL9_3.out)
                have HL3_2 := Lib.hid ((HM2.out.block (blk_ltD HL3.out)).trans HL3.out)
                obtain ⟨qv2, HQV2⟩ : ∃ v, Hid (Value.slice qa2 NS.length qc2 = v) := ⟨_, Lib.hid rfl⟩
                rw [HQV2.out] at HG_2
                rw [← HQN2.out, HQV2.out]
                try go_wp2_with fail
                refine hK.out _ _ (fun _ => (HKP.out _ HG_2.out.low)) ?_
                clear hK K
                (try simp only [ptS, stA, st0, stS])
                refine wpAnyP_ready (rs := [4]) (by kernel_rfl) (by simp) ?_
                refine (AllReadyP.cons (by simp only [opA, opS, op0]; exact rfl) (fun K hK => ?_) AllReadyP.nil)
                refine step_append_lies _ (by rfl) _ _ _ (by rfl) (EC + 1) 9 i0 _ 1 16 Try.underlying90 hi0 hz0 hz1 hz2 rfl (by omega) qv2 NS.length NS (by rfl) HG_2.out.on ⟨B3, 0, none⟩ 1 1 [Value.string ⟨#[111, 116, 104, 101, 114]⟩] (by rfl) (by rfl) (World.news_of_block (cs := #[Value.string ⟨#[111, 116, 104, 101, 114]⟩]) (t := 9) (fr := (0, 0)) HL3_2.out) (by simp [Value.oneCell']) (by omega) HRn.out.1 HRn.out.2 HG_2.out.ns' w2.heap.size (by rfl) ?_
                intro g4 c4 w4 hown hgrow hat _
                obtain ⟨qa4, qn4, qc4, HQ4⟩ : ∃ qa qn qc, Hid (Value.slice qa qn qc = Value.slice (some ⟨g4, 0, none⟩) (NS.length + 1) c4) := ⟨_, _, _, Lib.hid rfl⟩
                have HO4 := Lib.hid (show w4.ownsRow (EC + 1) 9 1 (Value.slice qa4 qn4 qc4) (NS ++ [Value.string ⟨#[111, 116, 104, 101, 114]⟩]).length (NS ++ [Value.string ⟨#[111, 116, 104, 101, 114]⟩]) by rw [HQ4.out, List.length_append]; exact hown)
                have HG_4 := Lib.hid (HG_2.out.growN HO4.out hgrow (lies_own HQ4.out hat))
                have HL9_3_2_4 := Lib.hid (blk_grow HG_2.out.on HL9_3_2.out (by decide) hgrow)
                clear hown hgrow hat
                rw [← HQ4.out]
                refine hK.out _ _ (fun _ => (HKP.out _ HG_4.out.low)) ?_
                clear hK K
                (try simp only [ptS, stA, st0, stS])
                refine tkS (i := 11) (v := ?_) (by simp only [opA, opS, op0]; exact rfl) (by kernel_rfl) (by kernel_rfl) (HKP.out _ HG_4.out.low) ?_ ?_
                rotate_left
                · intro w hS
                  (try dsimp only at hS); first | (go_simp; done) | (go_simp; with_reducible rfl)
                (try simp only [ptS, stA, st0, stS])
                refine wpAnyP_ready (rs := [7]) (by kernel_rfl) (by simp) ?_
                refine (AllReadyP.cons (by simp only [opA, opS, op0]; exact rfl) (fun K hK => ?_) AllReadyP.nil)
                rw [if_pos (by kernel_rfl)]
                have HC7 := Lib.hid (clone58_any VS (.slice va1 vl vc1) w4 (fun _ => True) (by have := HVL.out; omega) (HRV.out.below (HLW.out _ HG_4.out.low)) HNDv.out HV1.out)
                go_simp
                refine HC7.out.mono ?_
                rintro e w7 ⟨⟨x7, rfl, ho⟩, hm⟩
                have HO7 := Lib.hid ho
                have HM7 := Lib.hid hm
                clear ho hm HC7
                obtain ⟨qa7, qc7, hx7, _⟩ := owns_shape HO7.out
                subst hx7
                obtain ⟨qn7, HQN7⟩ : ∃ n, Hid (VS.length = n) := ⟨_, Lib.hid rfl⟩
                rw [HQN7.out]
                have HG_7 := Lib.hid (HG_4.out.newV HM7.out HO7.out)
                skip
                have HL9_3_2_4_7 := Lib.hid ((HM7.out.block (blk_ltD HL9_3_2_4.out)).trans HL9_3_2_4.out)
                obtain ⟨qv7, HQV7⟩ : ∃ v, Hid (Value.slice qa7 VS.length qc7 = v) := ⟨_, Lib.hid rfl⟩
                rw [HQV7.out] at HG_7
                rw [← HQN7.out, HQV7.out]
                try go_wp2_with fail
                refine hK.out _ _ (fun _ => (HKP.out _ HG_7.out.low)) ?_
                clear hK K
                (try simp only [ptS, stA, st0, stS])
                refine wpAnyP_ready (rs := [10]) (by kernel_rfl) (by simp) ?_
                refine (AllReadyP.cons (by simp only [opA, opS, op0]; exact rfl) (fun K hK => ?_) AllReadyP.nil)
                refine step_append_lies _ (by rfl) _ _ _ (by rfl) (EC + 1) 2 j0 _ 1 8 Try.underlying73 hj0 hy0 hy1 hy2 rfl (by omega) qv7 VS.length VS (by rfl) HG_7.out.ov ⟨B9, 0, none⟩ 1 1 [Value.int .i64 vn] (by rfl) (by rfl) (World.news_of_block (cs := #[Value.int .i64 vn]) (t := 2) (fr := (0, 0)) HL9_3_2_4_7.out) (by simp [Value.oneCell']) (by omega) HRv.out.1 HRv.out.2 HG_7.out.ns' w7.heap.size (by rfl) ?_
                intro g10 c10 w10 hown hgrow hat _
                obtain ⟨qa10, qn10, qc10, HQ10⟩ : ∃ qa qn qc, Hid (Value.slice qa qn qc = Value.slice (some ⟨g10, 0, none⟩) (VS.length + 1) c10) := ⟨_, _, _, Lib.hid rfl⟩
                have HO10 := Lib.hid (show w10.ownsRow (EC + 1) 2 1 (Value.slice qa10 qn10 qc10) (VS ++ [Value.int .i64 vn]).length (VS ++ [Value.int .i64 vn]) by rw [HQ10.out, List.length_append]; exact hown)
                have HG_10 := Lib.hid (HG_7.out.growV HO10.out hgrow (lies_own HQ10.out hat))
                clear hown hgrow hat
                rw [← HQ10.out]
                refine hK.out _ _ (fun _ => (HKP.out _ HG_10.out.low)) ?_
                clear hK K
                (try simp only [ptS, stA, st0, stS])
                refine wpAnyP_ready (rs := [12]) (by kernel_rfl) (by simp) ?_
                refine (AllReadyP.cons (by simp only [opA, opS, op0]; exact rfl) (fun K hK => ?_) AllReadyP.nil)
                rw [if_pos (by kernel_rfl)]
                have c0 : w10.cell? ⟨EC, 0, none⟩ = some (.slice na1 nl nc1) := by simp [World.cell?, HG_10.out.box]
                have f0 := thaw HG_10.out.box 0
                have hbs := cell_lt c0
                go_simp
                have HG_12 := Lib.hid (show EnvB EC _ (w10.setCell ⟨EC, 0, none⟩ (Value.slice qa4 qn4 qc4)) #[(Value.slice qa4 qn4 qc4), (.slice va1 vl vc1), (.slice ta1 tl tc1), (.slice ba1 bl bc1), .int .i64 now] _ _ _ _ _ _ _ _ _ from HG_10.out.store 0 (Value.slice qa4 qn4 qc4))
                generalize w10.setCell ⟨EC, 0, none⟩ (Value.slice qa4 qn4 qc4) = w12 at *
                clear c0 f0 hbs
                refine hK.out _ _ (fun _ => (HKP.out _ HG_12.out.low)) ?_
                clear hK K
                (try simp only [ptN])
                refine tkS (i := 13) (v := ?_) (by simp only [opA, opS, op0]; exact rfl) (by kernel_rfl) (by kernel_rfl) (HKP.out _ HG_12.out.low) ?_ ?_
                rotate_left
                · intro w hS
                  (try dsimp only at hS); first | (go_simp; done) | (go_simp; with_reducible rfl)
                (try simp only [ptS, stA, st0, stS])
                refine wpAnyP_ready (rs := [14]) (by kernel_rfl) (by simp) ?_
                refine (AllReadyP.cons (by simp only [opA, opS, op0]; exact rfl) (fun K hK => ?_) AllReadyP.nil)
                rw [if_pos (by kernel_rfl)]
                have c0 : w12.cell? ⟨EC, 1, none⟩ = some (.slice va1 vl vc1) := by simp [World.cell?, HG_12.out.box]
                have f0 := thaw HG_12.out.box 1
                have hbs := cell_lt c0
                go_simp
                have HG_14 := Lib.hid (show EnvB EC _ (w12.setCell ⟨EC, 1, none⟩ (Value.slice qa10 qn10 qc10)) #[(Value.slice qa4 qn4 qc4), (Value.slice qa10 qn10 qc10), (.slice ta1 tl tc1), (.slice ba1 bl bc1), .int .i64 now] _ _ _ _ _ _ _ _ _ from HG_12.out.store 1 (Value.slice qa10 qn10 qc10))
                generalize w12.setCell ⟨EC, 1, none⟩ (Value.slice qa10 qn10 qc10) = w14 at *
                clear c0 f0 hbs
                refine hK.out _ _ (gone (by kernel_rfl)) ?_
                clear hK K
                (try simp only [ptN])
                refine wpAnyP_done (by kernel_rfl) ?_ _
                go_wp2_with fail
                go_meet
                exact ⟨_, _, _, _, _, _, HG_14⟩
          case rest => as_aux_lemma =>
            obtain ⟨q1, q2, q3, p1, p2, p3, HG⟩ := hcut
            go_upto_region 18 with fail
            go_cut [] (fun wx => ∃ (q1 q2 q3 p1 p2 p3 r1 r2 r3 s1 s2 s3 : _) (xx : Value), Hid (EnvB EC wo2 wx #[.slice q1 q2 q3, .slice p1 p2 p3, .slice r1 r2 r3, .slice s1 s2 s3, .int .i64 now] (.slice q1 q2 q3) (.slice p1 p2 p3) (.slice r1 r2 r3) (.slice s1 s2 s3) (NS ++ [Value.string ⟨#[111, 116, 104, 101, 114]⟩]) (VS ++ [Value.int .i64 vn]) (TS ++ [Value.string ⟨#[109, 111, 114, 101]⟩]) (bs ++ [xx]) (TT ++ [ofL [(vn, vn)]])))
            case first => as_aux_lemma =>
              have HGd := Lib.hid (HG.out.more (more_drew _))
              skip
              refine wp_region_heldP (S := fun W => W.cell? ⟨EB, 0, none⟩ = some (.slice na1 nl nc1) ∧ W.cell? ⟨EB, 1, none⟩ = some (.slice va1 vl vc1) ∧ W.cell? ⟨EB, 2, none⟩ = some (.slice ta1 tl tc1) ∧ W.cell? ⟨EB, 3, none⟩ = some (.slice ba1 bl bc1)) 18 (by kernel_rfl) ?_
              generalize wc.drew = wd at *
              refine tkS (i := 0) (v := ?_) (by simp only [opA, op0]; exact rfl) (by kernel_rfl) (by kernel_rfl) (HKP.out _ HGd.out.low) ?_ ?_
              rotate_left
              · intro w hS
                (try dsimp only at hS); first | (go_simp; done) | (go_simp; with_reducible rfl)
              (try simp only [ptS, stA, st0, stS])
              refine tkS (i := 1) (v := ?_) (by simp only [opA, opS, op0]; exact rfl) (by kernel_rfl) (by kernel_rfl) (HKP.out _ HGd.out.low) ?_ ?_
              rotate_left
              · intro w hS
                (try dsimp only at hS); first | (go_simp; done) | (go_simp; with_reducible rfl)
              (try simp only [ptS, stA, st0, stS])
              refine tkS (i := 5) (v := ?_) (by simp only [opA, opS, op0]; exact rfl) (by kernel_rfl) (by kernel_rfl) (HKP.out _ HGd.out.low) ?_ ?_
              rotate_left
              · intro w hS
                (try dsimp only at hS); first | (go_simp; done) | (go_simp; with_reducible rfl)
              (try simp only [ptS, stA, st0, stS])
              refine tkS (i := 6) (v := ?_) (by simp only [opA, opS, op0]; exact rfl) (by kernel_rfl) (by kernel_rfl) (HKP.out _ HGd.out.low) ?_ ?_
              rotate_left
              · intro w hS
                (try dsimp only at hS); first | (go_simp; done) | (go_simp; with_reducible rfl)
              (try simp only [ptS, stA, st0, stS])
              refine tkS (i := 8) (v := ?_) (by simp only [opA, opS, op0]; exact rfl) (by kernel_rfl) (by kernel_rfl) (HKP.out _ HGd.out.low) ?_ ?_
              rotate_left
              · intro w hS
                (try dsimp only at hS); first | (go_simp; done) | (go_simp; with_reducible rfl)
              (try simp only [ptS, stA, st0, stS])
              refine tkS (i := 9) (v := ?_) (by simp only [opA, opS, op0]; exact rfl) (by kernel_rfl) (by kernel_rfl) (HKP.out _ HGd.out.low) ?_ ?_
              rotate_left
              · intro w hS
                (try dsimp only at hS); first | (go_simp; done) | (go_simp; with_reducible rfl)
              (try simp only [ptS, stA, st0, stS])
              refine tkS (i := 10) (v := ?_) (by simp only [opA, opS, op0]; exact rfl) (by kernel_rfl) (by kernel_rfl) (HKP.out _ HGd.out.low) ?_ ?_
              rotate_left
              · intro w hS
                (try dsimp only at hS); first | (go_simp; done) | (go_simp; with_reducible rfl)
              (try simp only [ptS, stA, st0, stS])
              refine wpAnyP_ready (rs := [2, 3, 11]) (by kernel_rfl) (by simp) ?_
              refine (AllReadyP.cons (by simp only [opA, opS, op0]; exact rfl) (fun K hK => ?_) (AllReadyP.cons (by simp only [opA, opS, op0]; exact rfl) (fun K hK => ?_) (AllReadyP.cons (by simp only [opA, opS, op0]; exact rfl) (fun K hK => ?_) AllReadyP.nil)))
              · rw [if_pos (by kernel_rfl)]
                have HC2 := Lib.hid (clone57_any TS (.slice ta1 tl tc1) wd (fun _ => True) (by have := HTL.out; omega) (HRT.out.below (HLW.out _ HGd.out.low)) HNDt.out HT1.out)
                go_simp
                refine HC2.out.mono ?_
                rintro e w2 ⟨⟨x2, rfl, ho⟩, hm⟩
                have HO2 := Lib.hid ho
                have HM2 := Lib.hid hm
                clear ho hm HC2
                obtain ⟨qa2, qc2, hx2, _⟩ := owns_shape HO2.out
                subst hx2
                obtain ⟨qn2, HQN2⟩ : ∃ n, Hid (TS.length = n) := ⟨_, Lib.hid rfl⟩
                rw [HQN2.out]
                have HG_2 := Lib.hid (HGd.out.newT HM2.out HO2.out)
                skip
                obtain ⟨qv2, HQV2⟩ : ∃ v, Hid (Value.slice qa2 TS.length qc2 = v) := ⟨_, Lib.hid rfl⟩
                rw [HQV2.out] at HG_2
                rw [← HQN2.out, HQV2.out]
                try go_wp2_with fail
                refine hK.out _ _ (fun _ => (HKP.out _ HG_2.out.low)) ?_
                clear hK K
                (try simp only [ptS, stA, st0, stS])
                refine wpAnyP_ready (rs := [3, 11]) (by kernel_rfl) (by simp) ?_
                refine (AllReadyP.cons (by simp only [opA, opS, op0]; exact rfl) (fun K hK => ?_) (AllReadyP.cons (by simp only [opA, opS, op0]; exact rfl) (fun K hK => ?_) AllReadyP.nil))
                · rw [if_pos (by kernel_rfl)]
                  have HA3 := Lib.hid (more_allocD w2 (.cells #[Value.string ⟨#[109, 111, 114, 101]⟩] 9))
                  have HL3 := Lib.hid (alloc_last w2 (.cells #[Value.string ⟨#[109, 111, 114, 101]⟩] 9))
                  obtain ⟨B3, HB3⟩ : ∃ B, Hid (B = w2.heap.size) := ⟨_, Lib.hid rfl⟩
                  go_simp
                  rw [← HB3.out] at HL3 ⊢
                  generalize w2.alloc (.cells #[Value.string ⟨#[109, 111, 114, 101]⟩] 9) = w3 at *
                  have HG_3 := Lib.hid (HG_2.out.more HA3.out)
                  refine hK.out _ _ (fun _ => (HKP.out _ HG_3.out.low)) ?_
                  clear hK K
                  (try simp only [ptS, stA, st0, stS])
                  refine wpAnyP_ready (rs := [4, 11]) (by kernel_rfl) (by simp) ?_
                  refine (AllReadyP.cons (by simp only [opA, opS, op0]; exact rfl) (fun K hK => ?_) (AllReadyP.cons (by simp only [opA, opS, op0]; exact rfl) (fun K hK => ?_) AllReadyP.nil))
                  · refine step_append_lies _ (by rfl) _ _ _ (by rfl) (EC + 1) 9 i0 _ 1 16 Try.underlying90 hi0 hz0 hz1 hz2 rfl (by omega) qv2 TS.length TS (by rfl) HG_3.out.ot ⟨B3, 0, none⟩ 1 1 [Value.string ⟨#[109, 111, 114, 101]⟩] (by rfl) (by rfl) (World.news_of_block (cs := #[Value.string ⟨#[109, 111, 114, 101]⟩]) (t := 9) (fr := (0, 0)) HL3.out) (by simp [Value.oneCell']) (by omega) HRt.out.1 HRt.out.2 HG_3.out.ns' w3.heap.size (by rfl) ?_
                    intro g4 c4 w4 hown hgrow hat _
                    obtain ⟨qa4, qn4, qc4, HQ4⟩ : ∃ qa qn qc, Hid (Value.slice qa qn qc = Value.slice (some ⟨g4, 0, none⟩) (TS.length + 1) c4) := ⟨_, _, _, Lib.hid rfl⟩
                    have HO4 := Lib.hid (show w4.ownsRow (EC + 1) 9 1 (Value.slice qa4 qn4 qc4) (TS ++ [Value.string ⟨#[109, 111, 114, 101]⟩]).length (TS ++ [Value.string ⟨#[109, 111, 114, 101]⟩]) by rw [HQ4.out, List.length_append]; exact hown)
                    have HG_4 := Lib.hid (HG_3.out.growT HO4.out hgrow (lies_own HQ4.out hat))
                    clear hown hgrow hat
                    rw [← HQ4.out]
                    refine hK.out _ _ (fun _ => (HKP.out _ HG_4.out.low)) ?_
                    clear hK K
                    (try simp only [ptS, stA, st0, stS])
                    refine tkS (i := 15) (v := ?_) (by simp only [opA, opS, op0]; exact rfl) (by kernel_rfl) (by kernel_rfl) (HKP.out _ HG_4.out.low) ?_ ?_
                    rotate_left
                    · intro w hS
                      (try dsimp only at hS); first | (go_simp; done) | (go_simp; with_reducible rfl)
                    (try simp only [ptS, stA, st0, stS])
                    refine wpAnyP_ready (rs := [7, 11]) (by kernel_rfl) (by simp) ?_
                    refine (AllReadyP.cons (by simp only [opA, opS, op0]; exact rfl) (fun K hK => ?_) (AllReadyP.cons (by simp only [opA, opS, op0]; exact rfl) (fun K hK => ?_) AllReadyP.nil))
                    · rw [if_pos (by kernel_rfl)]
                      have HC7 := Lib.hid (clone59_any bs (.slice ba1 bl bc1) w4 (fun _ => True) (by have := HBL.out; omega) (HRB.out.below (HLW.out _ HG_4.out.low)) HNDb.out HB1.out)
                      go_simp
                      refine HC7.out.mono ?_
                      rintro e w7 ⟨⟨x7, rfl, ho⟩, hm⟩
                      have HO7 := Lib.hid ho
                      have HM7 := Lib.hid hm
                      clear ho hm HC7
                      obtain ⟨qa7, qc7, hx7, _⟩ := owns_shape HO7.out
                      subst hx7
                      obtain ⟨qn7, HQN7⟩ : ∃ n, Hid (bs.length = n) := ⟨_, Lib.hid rfl⟩
                      rw [HQN7.out]
                      have HG_7 := Lib.hid (HG_4.out.newB HM7.out HO7.out HE.out.tl (tab_old HE.out HEC.out HG_4.out (HLW.out _ HG_4.out.low)))
                      skip
                      obtain ⟨qv7, HQV7⟩ : ∃ v, Hid (Value.slice qa7 bs.length qc7 = v) := ⟨_, Lib.hid rfl⟩
                      rw [HQV7.out] at HG_7
                      rw [← HQN7.out, HQV7.out]
                      try go_wp2_with fail
                      refine hK.out _ _ (fun _ => (HKP.out _ HG_7.out.low)) ?_
                      clear hK K
                      (try simp only [ptS, stA, st0, stS])
                      refine wpAnyP_ready (rs := [11]) (by kernel_rfl) (by simp) ?_
                      refine (AllReadyP.cons (by simp only [opA, opS, op0]; exact rfl) (fun K hK => ?_) AllReadyP.nil)
                      rw [if_pos (by kernel_rfl)]
                      have HA11 := Lib.hid (more_allocD w7 (.cells #[.int .i64 vn, .int .i64 vn] 66))
                      have HL11 := Lib.hid (alloc_last w7 (.cells #[.int .i64 vn, .int .i64 vn] 66))
                      obtain ⟨B11, HB11⟩ : ∃ B, Hid (B = w7.heap.size) := ⟨_, Lib.hid rfl⟩
                      go_simp
                      rw [← HB11.out] at HL11 ⊢
                      generalize w7.alloc (.cells #[.int .i64 vn, .int .i64 vn] 66) = w11 at *
                      have HG_11 := Lib.hid (HG_7.out.more HA11.out)
                      refine hK.out _ _ (fun _ => (HKP.out _ HG_11.out.low)) ?_
                      clear hK K
                      (try simp only [ptS, stA, st0, stS])
                      refine wpAnyP_ready (rs := [12]) (by kernel_rfl) (by simp) ?_
                      refine (AllReadyP.cons (by simp only [opA, opS, op0]; exact rfl) (fun K hK => ?_) AllReadyP.nil)
                      rw [if_pos (by kernel_rfl)]
                      have HC12 := Lib.hid (of_any (fun _ => True) [(vn, vn)] (.slice (some ⟨B11, 0, none⟩) 1 1) w11 (by simp) (row_lit (n := 1) (size := 2) HL11.out rfl))
                      go_simp
                      refine HC12.out.mono ?_
                      rintro e w12 ⟨hb, x12, rfl, hr⟩
                      have HM12 := Lib.hid (more_of hb)
                      have HT12 := Lib.hid (tab_new HG_11.out hr)
                      obtain ⟨xa12, xc12, rfl, _⟩ := hr.shape
                      clear hb hr HC12
                      have HG_12 := Lib.hid (HG_11.out.more HM12.out)
                      try go_wp2_with fail
                      refine hK.out _ _ (fun _ => (HKP.out _ HG_12.out.low)) ?_
                      clear hK K
                      (try simp only [ptS, stA, st0, stS])
                      refine wpAnyP_ready (rs := [13]) (by kernel_rfl) (by simp) ?_
                      refine (AllReadyP.cons (by simp only [opA, opS, op0]; exact rfl) (fun K hK => ?_) AllReadyP.nil)
                      rw [if_pos (by kernel_rfl)]
                      have HA13 := Lib.hid (more_allocD w12 (.cells #[(Value.slice xa12 (ofL [(vn, vn)]).length xc12)] 54))
                      have HL13 := Lib.hid (alloc_last w12 (.cells #[(Value.slice xa12 (ofL [(vn, vn)]).length xc12)] 54))
                      obtain ⟨B13, HB13⟩ : ∃ B, Hid (B = w12.heap.size) := ⟨_, Lib.hid rfl⟩
                      go_simp
                      rw [← HB13.out] at HL13 ⊢
                      generalize w12.alloc (.cells #[(Value.slice xa12 (ofL [(vn, vn)]).length xc12)] 54) = w13 at *
                      have HG_13 := Lib.hid (HG_12.out.more HA13.out)
                      have HT12_13 := Lib.hid (HT12.out.mono (fun _ k => k) (fun b off u _ hc => HA13.out.cell hc))
                      refine hK.out _ _ (fun _ => (HKP.out _ HG_13.out.low)) ?_
                      clear hK K
                      (try simp only [ptS, stA, st0, stS])
                      refine wpAnyP_ready (rs := [14]) (by kernel_rfl) (by simp) ?_
                      refine (AllReadyP.cons (by simp only [opA, opS, op0]; exact rfl) (fun K hK => ?_) AllReadyP.nil)
                      refine step_append_lies _ (by rfl) _ _ _ (by rfl) (EC + 1) 54 k0 _ 1 24 Try.underlying47 hk0 hx0 hx1 hx2 rfl (by omega) qv7 bs.length bs (by rfl) HG_13.out.ob ⟨B13, 0, none⟩ 1 1 [(Value.slice xa12 (ofL [(vn, vn)]).length xc12)] (by rfl) (by rfl) (World.news_of_block (cs := #[(Value.slice xa12 (ofL [(vn, vn)]).length xc12)]) (t := 54) (fr := (0, 0)) HL13.out) (by simp [Value.oneCell']) (by omega) HRb.out.1 HRb.out.2 HG_13.out.ns' w13.heap.size (by rfl) ?_
                      intro g14 c14 w14 hown hgrow hat _
                      obtain ⟨qa14, qn14, qc14, HQ14⟩ : ∃ qa qn qc, Hid (Value.slice qa qn qc = Value.slice (some ⟨g14, 0, none⟩) (bs.length + 1) c14) := ⟨_, _, _, Lib.hid rfl⟩
                      have HO14 := Lib.hid (show w14.ownsRow (EC + 1) 54 1 (Value.slice qa14 qn14 qc14) (bs ++ [(Value.slice xa12 (ofL [(vn, vn)]).length xc12)]).length (bs ++ [(Value.slice xa12 (ofL [(vn, vn)]).length xc12)]) by rw [HQ14.out, List.length_append]; exact hown)
                      have HG_14 := Lib.hid (HG_13.out.growB HO14.out hgrow (lies_own HQ14.out hat) (by rw [List.length_append, List.length_append, HG_13.out.tl]; rfl) (tab_push HG_13.out.tr HG_13.out.tl HT12_13.out))
                      clear hown hgrow hat
                      rw [← HQ14.out]
                      refine hK.out _ _ (fun _ => (HKP.out _ HG_14.out.low)) ?_
                      clear hK K
                      (try simp only [ptS, stA, st0, stS])
                      refine wpAnyP_ready (rs := [16]) (by kernel_rfl) (by simp) ?_
                      refine (AllReadyP.cons (by simp only [opA, opS, op0]; exact rfl) (fun K hK => ?_) AllReadyP.nil)
                      rw [if_pos (by kernel_rfl)]
                      have c0 : w14.cell? ⟨EC, 2, none⟩ = some (.slice ta1 tl tc1) := by simp [World.cell?, HG_14.out.box]
                      have f0 := thaw HG_14.out.box 2
                      have hbs := cell_lt c0
                      go_simp
                      have HG_16 := Lib.hid (show EnvB EC _ (w14.setCell ⟨EC, 2, none⟩ (Value.slice qa4 qn4 qc4)) #[.slice q1 q2 q3, .slice p1 p2 p3, (Value.slice qa4 qn4 qc4), (.slice ba1 bl bc1), .int .i64 now] _ _ _ _ _ _ _ _ _ from HG_14.out.store 2 (Value.slice qa4 qn4 qc4))
                      generalize w14.setCell ⟨EC, 2, none⟩ (Value.slice qa4 qn4 qc4) = w16 at *
                      clear c0 f0 hbs
                      refine hK.out _ _ (fun _ => (HKP.out _ HG_16.out.low)) ?_
                      clear hK K
                      (try simp only [ptN])
                      refine tkS (i := 17) (v := ?_) (by simp only [opA, opS, op0]; exact rfl) (by kernel_rfl) (by kernel_rfl) (HKP.out _ HG_16.out.low) ?_ ?_
                      rotate_left
                      · intro w hS
                        (try dsimp only at hS); first | (go_simp; done) | (go_simp; with_reducible rfl)
                      (try simp only [ptS, stA, st0, stS])
                      refine wpAnyP_ready (rs := [18]) (by kernel_rfl) (by simp) ?_
                      refine (AllReadyP.cons (by simp only [opA, opS, op0]; exact rfl) (fun K hK => ?_) AllReadyP.nil)
                      rw [if_pos (by kernel_rfl)]
                      have c0 : w16.cell? ⟨EC, 3, none⟩ = some (.slice ba1 bl bc1) := by simp [World.cell?, HG_16.out.box]
                      have f0 := thaw HG_16.out.box 3
                      have hbs := cell_lt c0
                      go_simp
                      have HG_18 := Lib.hid (show EnvB EC _ (w16.setCell ⟨EC, 3, none⟩ (Value.slice qa14 qn14 qc14)) #[.slice q1 q2 q3, .slice p1 p2 p3, (Value.slice qa4 qn4 qc4), (Value.slice qa14 qn14 qc14), .int .i64 now] _ _ _ _ _ _ _ _ _ from HG_16.out.store 3 (Value.slice qa14 qn14 qc14))
                      generalize w16.setCell ⟨EC, 3, none⟩ (Value.slice qa14 qn14 qc14) = w18 at *
                      clear c0 f0 hbs
                      refine hK.out _ _ (gone (by kernel_rfl)) ?_
                      clear hK K
                      (try simp only [ptN])
                      refine wpAnyP_done (by kernel_rfl) ?_ _
                      go_wp2_with fail
                      go_meet
                      exact ⟨_, _, _, _, _, _, _, _, _, _, _, _, _, HG_18⟩
                    · rw [if_pos (by kernel_rfl)]
                      have HA11 := Lib.hid (more_allocD w4 (.cells #[.int .i64 vn, .int .i64 vn] 66))
                      have HL11 := Lib.hid (alloc_last w4 (.cells #[.int .i64 vn, .int .i64 vn] 66))
                      obtain ⟨B11, HB11⟩ : ∃ B, Hid (B = w4.heap.size) := ⟨_, Lib.hid rfl⟩
                      go_simp
                      rw [← HB11.out] at HL11 ⊢
                      generalize w4.alloc (.cells #[.int .i64 vn, .int .i64 vn] 66) = w11 at *
                      have HG_11 := Lib.hid (HG_4.out.more HA11.out)
                      refine hK.out _ _ (fun _ => (HKP.out _ HG_11.out.low)) ?_
                      clear hK K
                      (try simp only [ptS, stA, st0, stS])
                      refine wpAnyP_ready (rs := [7]) (by kernel_rfl) (by simp) ?_
                      refine (AllReadyP.cons (by simp only [opA, opS, op0]; exact rfl) (fun K hK => ?_) AllReadyP.nil)
                      rw [if_pos (by kernel_rfl)]
                      have HC7 := Lib.hid (clone59_any bs (.slice ba1 bl bc1) w11 (fun _ => True) (by have := HBL.out; omega) (HRB.out.below (HLW.out _ HG_11.out.low)) HNDb.out HB1.out)
                      go_simp
                      refine HC7.out.mono ?_
                      rintro e w7 ⟨⟨x7, rfl, ho⟩, hm⟩
                      have HO7 := Lib.hid ho
                      have HM7 := Lib.hid hm
                      clear ho hm HC7
                      obtain ⟨qa7, qc7, hx7, _⟩ := owns_shape HO7.out
                      subst hx7
                      obtain ⟨qn7, HQN7⟩ : ∃ n, Hid (bs.length = n) := ⟨_, Lib.hid rfl⟩
                      rw [HQN7.out]
                      have HG_7 := Lib.hid (HG_11.out.newB HM7.out HO7.out HE.out.tl (tab_old HE.out HEC.out HG_11.out (HLW.out _ HG_11.out.low)))
                      skip
                      have HL11_7 := Lib.hid ((HM7.out.block (blk_ltD HL11.out)).trans HL11.out)
                      obtain ⟨qv7, HQV7⟩ : ∃ v, Hid (Value.slice qa7 bs.length qc7 = v) := ⟨_, Lib.hid rfl⟩
                      rw [HQV7.out] at HG_7
                      rw [← HQN7.out, HQV7.out]
                      try go_wp2_with fail
                      refine hK.out _ _ (fun _ => (HKP.out _ HG_7.out.low)) ?_
                      clear hK K
                      (try simp only [ptS, stA, st0, stS])
                      refine wpAnyP_ready (rs := [12]) (by kernel_rfl) (by simp) ?_
                      refine (AllReadyP.cons (by simp only [opA, opS, op0]; exact rfl) (fun K hK => ?_) AllReadyP.nil)
                      rw [if_pos (by kernel_rfl)]
                      have HC12 := Lib.hid (of_any (fun _ => True) [(vn, vn)] (.slice (some ⟨B11, 0, none⟩) 1 1) w7 (by simp) (row_lit (n := 1) (size := 2) HL11_7.out rfl))
                      go_simp
                      refine HC12.out.mono ?_
                      rintro e w12 ⟨hb, x12, rfl, hr⟩
                      have HM12 := Lib.hid (more_of hb)
                      have HT12 := Lib.hid (tab_new HG_7.out hr)
                      obtain ⟨xa12, xc12, rfl, _⟩ := hr.shape
                      clear hb hr HC12
                      have HG_12 := Lib.hid (HG_7.out.more HM12.out)
                      try go_wp2_with fail
                      refine hK.out _ _ (fun _ => (HKP.out _ HG_12.out.low)) ?_
                      clear hK K
                      (try simp only [ptS, stA, st0, stS])
                      refine wpAnyP_ready (rs := [13]) (by kernel_rfl) (by simp) ?_
                      refine (AllReadyP.cons (by simp only [opA, opS, op0]; exact rfl) (fun K hK => ?_) AllReadyP.nil)
                      rw [if_pos (by kernel_rfl)]
                      have HA13 := Lib.hid (more_allocD w12 (.cells #[(Value.slice xa12 (ofL [(vn, vn)]).length xc12)] 54))
                      have HL13 := Lib.hid (alloc_last w12 (.cells #[(Value.slice xa12 (ofL [(vn, vn)]).length xc12)] 54))
                      obtain ⟨B13, HB13⟩ : ∃ B, Hid (B = w12.heap.size) := ⟨_, Lib.hid rfl⟩
                      go_simp
                      rw [← HB13.out] at HL13 ⊢
                      generalize w12.alloc (.cells #[(Value.slice xa12 (ofL [(vn, vn)]).length xc12)] 54) = w13 at *
                      have HG_13 := Lib.hid (HG_12.out.more HA13.out)
                      have HT12_13 := Lib.hid (HT12.out.mono (fun _ k => k) (fun b off u _ hc => HA13.out.cell hc))
                      refine hK.out _ _ (fun _ => (HKP.out _ HG_13.out.low)) ?_
                      clear hK K
                      (try simp only [ptS, stA, st0, stS])
                      refine wpAnyP_ready (rs := [14]) (by kernel_rfl) (by simp) ?_
                      refine (AllReadyP.cons (by simp only [opA, opS, op0]; exact rfl) (fun K hK => ?_) AllReadyP.nil)
                      refine step_append_lies _ (by rfl) _ _ _ (by rfl) (EC + 1) 54 k0 _ 1 24 Try.underlying47 hk0 hx0 hx1 hx2 rfl (by omega) qv7 bs.length bs (by rfl) HG_13.out.ob ⟨B13, 0, none⟩ 1 1 [(Value.slice xa12 (ofL [(vn, vn)]).length xc12)] (by rfl) (by rfl) (World.news_of_block (cs := #[(Value.slice xa12 (ofL [(vn, vn)]).length xc12)]) (t := 54) (fr := (0, 0)) HL13.out) (by simp [Value.oneCell']) (by omega) HRb.out.1 HRb.out.2 HG_13.out.ns' w13.heap.size (by rfl) ?_
                      intro g14 c14 w14 hown hgrow hat _
                      obtain ⟨qa14, qn14, qc14, HQ14⟩ : ∃ qa qn qc, Hid (Value.slice qa qn qc = Value.slice (some ⟨g14, 0, none⟩) (bs.length + 1) c14) := ⟨_, _, _, Lib.hid rfl⟩
                      have HO14 := Lib.hid (show w14.ownsRow (EC + 1) 54 1 (Value.slice qa14 qn14 qc14) (bs ++ [(Value.slice xa12 (ofL [(vn, vn)]).length xc12)]).length (bs ++ [(Value.slice xa12 (ofL [(vn, vn)]).length xc12)]) by rw [HQ14.out, List.length_append]; exact hown)
                      have HG_14 := Lib.hid (HG_13.out.growB HO14.out hgrow (lies_own HQ14.out hat) (by rw [List.length_append, List.length_append, HG_13.out.tl]; rfl) (tab_push HG_13.out.tr HG_13.out.tl HT12_13.out))
                      clear hown hgrow hat
                      rw [← HQ14.out]
                      refine hK.out _ _ (fun _ => (HKP.out _ HG_14.out.low)) ?_
                      clear hK K
                      (try simp only [ptS, stA, st0, stS])
                      refine wpAnyP_ready (rs := [16]) (by kernel_rfl) (by simp) ?_
                      refine (AllReadyP.cons (by simp only [opA, opS, op0]; exact rfl) (fun K hK => ?_) AllReadyP.nil)
                      rw [if_pos (by kernel_rfl)]
                      have c0 : w14.cell? ⟨EC, 2, none⟩ = some (.slice ta1 tl tc1) := by simp [World.cell?, HG_14.out.box]
                      have f0 := thaw HG_14.out.box 2
                      have hbs := cell_lt c0
                      go_simp
                      have HG_16 := Lib.hid (show EnvB EC _ (w14.setCell ⟨EC, 2, none⟩ (Value.slice qa4 qn4 qc4)) #[.slice q1 q2 q3, .slice p1 p2 p3, (Value.slice qa4 qn4 qc4), (.slice ba1 bl bc1), .int .i64 now] _ _ _ _ _ _ _ _ _ from HG_14.out.store 2 (Value.slice qa4 qn4 qc4))
                      generalize w14.setCell ⟨EC, 2, none⟩ (Value.slice qa4 qn4 qc4) = w16 at *
                      clear c0 f0 hbs
                      refine hK.out _ _ (fun _ => (HKP.out _ HG_16.out.low)) ?_
                      clear hK K
                      (try simp only [ptN])
                      refine tkS (i := 17) (v := ?_) (by simp only [opA, opS, op0]; exact rfl) (by kernel_rfl) (by kernel_rfl) (HKP.out _ HG_16.out.low) ?_ ?_
                      rotate_left
                      · intro w hS
                        (try dsimp only at hS); first | (go_simp; done) | (go_simp; with_reducible rfl)
                      (try simp only [ptS, stA, st0, stS])
                      refine wpAnyP_ready (rs := [18]) (by kernel_rfl) (by simp) ?_
                      refine (AllReadyP.cons (by simp only [opA, opS, op0]; exact rfl) (fun K hK => ?_) AllReadyP.nil)
                      rw [if_pos (by kernel_rfl)]
                      have c0 : w16.cell? ⟨EC, 3, none⟩ = some (.slice ba1 bl bc1) := by simp [World.cell?, HG_16.out.box]
                      have f0 := thaw HG_16.out.box 3
                      have hbs := cell_lt c0
                      go_simp
                      have HG_18 := Lib.hid (show EnvB EC _ (w16.setCell ⟨EC, 3, none⟩ (Value.slice qa14 qn14 qc14)) #[.slice q1 q2 q3, .slice p1 p2 p3, (Value.slice qa4 qn4 qc4), (Value.slice qa14 qn14 qc14), .int .i64 now] _ _ _ _ _ _ _ _ _ from HG_16.out.store 3 (Value.slice qa14 qn14 qc14))
                      generalize w16.setCell ⟨EC, 3, none⟩ (Value.slice qa14 qn14 qc14) = w18 at *
                      clear c0 f0 hbs
                      refine hK.out _ _ (gone (by kernel_rfl)) ?_
                      clear hK K
                      (try simp only [ptN])
                      refine wpAnyP_done (by kernel_rfl) ?_ _
                      go_wp2_with fail
                      go_meet
                      exact ⟨_, _, _, _, _, _, _, _, _, _, _, _, _, HG_18⟩
                  · rw [if_pos (by kernel_rfl)]
                    have HA11 := Lib.hid (more_allocD w3 (.cells #[.int .i64 vn, .int .i64 vn] 66))
                    have HL11 := Lib.hid (alloc_last w3 (.cells #[.int .i64 vn, .int .i64 vn] 66))
                    obtain ⟨B11, HB11⟩ : ∃ B, Hid (B = w3.heap.size) := ⟨_, Lib.hid rfl⟩
                    go_simp
                    rw [← HB11.out] at HL11 ⊢
                    generalize w3.alloc (.cells #[.int .i64 vn, .int .i64 vn] 66) = w11 at *
                    have HG_11 := Lib.hid (HG_3.out.more HA11.out)
                    have HL3_11 := Lib.hid ((HA11.out.block (blk_ltD HL3.out)).trans HL3.out)
                    refine hK.out _ _ (fun _ => (HKP.out _ HG_11.out.low)) ?_
                    clear hK K
                    (try simp only [ptS, stA, st0, stS])
                    refine wpAnyP_ready (rs := [4]) (by kernel_rfl) (by simp) ?_
                    refine (AllReadyP.cons (by simp only [opA, opS, op0]; exact rfl) (fun K hK => ?_) AllReadyP.nil)
                    refine step_append_lies _ (by rfl) _ _ _ (by rfl) (EC + 1) 9 i0 _ 1 16 Try.underlying90 hi0 hz0 hz1 hz2 rfl (by omega) qv2 TS.length TS (by rfl) HG_11.out.ot ⟨B3, 0, none⟩ 1 1 [Value.string ⟨#[109, 111, 114, 101]⟩] (by rfl) (by rfl) (World.news_of_block (cs := #[Value.string ⟨#[109, 111, 114, 101]⟩]) (t := 9) (fr := (0, 0)) HL3_11.out) (by simp [Value.oneCell']) (by omega) HRt.out.1 HRt.out.2 HG_11.out.ns' w11.heap.size (by rfl) ?_
                    intro g4 c4 w4 hown hgrow hat _
                    obtain ⟨qa4, qn4, qc4, HQ4⟩ : ∃ qa qn qc, Hid (Value.slice qa qn qc = Value.slice (some ⟨g4, 0, none⟩) (TS.length + 1) c4) := ⟨_, _, _, Lib.hid rfl⟩
                    have HO4 := Lib.hid (show w4.ownsRow (EC + 1) 9 1 (Value.slice qa4 qn4 qc4) (TS ++ [Value.string ⟨#[109, 111, 114, 101]⟩]).length (TS ++ [Value.string ⟨#[109, 111, 114, 101]⟩]) by rw [HQ4.out, List.length_append]; exact hown)
                    have HG_4 := Lib.hid (HG_11.out.growT HO4.out hgrow (lies_own HQ4.out hat))
                    have HL11_4 := Lib.hid (blk_grow HG_11.out.ot HL11.out (by decide) hgrow)
                    clear hown hgrow hat
                    rw [← HQ4.out]
                    refine hK.out _ _ (fun _ => (HKP.out _ HG_4.out.low)) ?_
                    clear hK K
                    (try simp only [ptS, stA, st0, stS])
                    refine tkS (i := 15) (v := ?_) (by simp only [opA, opS, op0]; exact rfl) (by kernel_rfl) (by kernel_rfl) (HKP.out _ HG_4.out.low) ?_ ?_
                    rotate_left
                    · intro w hS
                      (try dsimp only at hS); first | (go_simp; done) | (go_simp; with_reducible rfl)
                    (try simp only [ptS, stA, st0, stS])
                    refine wpAnyP_ready (rs := [7]) (by kernel_rfl) (by simp) ?_
                    refine (AllReadyP.cons (by simp only [opA, opS, op0]; exact rfl) (fun K hK => ?_) AllReadyP.nil)
                    rw [if_pos (by kernel_rfl)]
                    have HC7 := Lib.hid (clone59_any bs (.slice ba1 bl bc1) w4 (fun _ => True) (by have := HBL.out; omega) (HRB.out.below (HLW.out _ HG_4.out.low)) HNDb.out HB1.out)
                    go_simp
                    refine HC7.out.mono ?_
                    rintro e w7 ⟨⟨x7, rfl, ho⟩, hm⟩
                    have HO7 := Lib.hid ho
                    have HM7 := Lib.hid hm
                    clear ho hm HC7
                    obtain ⟨qa7, qc7, hx7, _⟩ := owns_shape HO7.out
                    subst hx7
                    obtain ⟨qn7, HQN7⟩ : ∃ n, Hid (bs.length = n) := ⟨_, Lib.hid rfl⟩
                    rw [HQN7.out]
                    have HG_7 := Lib.hid (HG_4.out.newB HM7.out HO7.out HE.out.tl (tab_old HE.out HEC.out HG_4.out (HLW.out _ HG_4.out.low)))
                    skip
                    have HL11_4_7 := Lib.hid ((HM7.out.block (blk_ltD HL11_4.out)).trans HL11_4.out)
                    obtain ⟨qv7, HQV7⟩ : ∃ v, Hid (Value.slice qa7 bs.length qc7 = v) := ⟨_, Lib.hid rfl⟩
                    rw [HQV7.out] at HG_7
                    rw [← HQN7.out, HQV7.out]
                    try go_wp2_with fail
                    refine hK.out _ _ (fun _ => (HKP.out _ HG_7.out.low)) ?_
                    clear hK K
                    (try simp only [ptS, stA, st0, stS])
                    refine wpAnyP_ready (rs := [12]) (by kernel_rfl) (by simp) ?_
                    refine (AllReadyP.cons (by simp only [opA, opS, op0]; exact rfl) (fun K hK => ?_) AllReadyP.nil)
                    rw [if_pos (by kernel_rfl)]
                    have HC12 := Lib.hid (of_any (fun _ => True) [(vn, vn)] (.slice (some ⟨B11, 0, none⟩) 1 1) w7 (by simp) (row_lit (n := 1) (size := 2) HL11_4_7.out rfl))
                    go_simp
                    refine HC12.out.mono ?_
                    rintro e w12 ⟨hb, x12, rfl, hr⟩
                    have HM12 := Lib.hid (more_of hb)
                    have HT12 := Lib.hid (tab_new HG_7.out hr)
                    obtain ⟨xa12, xc12, rfl, _⟩ := hr.shape
                    clear hb hr HC12
                    have HG_12 := Lib.hid (HG_7.out.more HM12.out)
                    try go_wp2_with fail
                    refine hK.out _ _ (fun _ => (HKP.out _ HG_12.out.low)) ?_
                    clear hK K
                    (try simp only [ptS, stA, st0, stS])
                    refine wpAnyP_ready (rs := [13]) (by kernel_rfl) (by simp) ?_
                    refine (AllReadyP.cons (by simp only [opA, opS, op0]; exact rfl) (fun K hK => ?_) AllReadyP.nil)
                    rw [if_pos (by kernel_rfl)]
                    have HA13 := Lib.hid (more_allocD w12 (.cells #[(Value.slice xa12 (ofL [(vn, vn)]).length xc12)] 54))
                    have HL13 := Lib.hid (alloc_last w12 (.cells #[(Value.slice xa12 (ofL [(vn, vn)]).length xc12)] 54))
                    obtain ⟨B13, HB13⟩ : ∃ B, Hid (B = w12.heap.size) := ⟨_, Lib.hid rfl⟩
                    go_simp
                    rw [← HB13.out] at HL13 ⊢
                    generalize w12.alloc (.cells #[(Value.slice xa12 (ofL [(vn, vn)]).length xc12)] 54) = w13 at *
                    have HG_13 := Lib.hid (HG_12.out.more HA13.out)
                    have HT12_13 := Lib.hid (HT12.out.mono (fun _ k => k) (fun b off u _ hc => HA13.out.cell hc))
                    refine hK.out _ _ (fun _ => (HKP.out _ HG_13.out.low)) ?_
                    clear hK K
                    (try simp only [ptS, stA, st0, stS])
                    refine wpAnyP_ready (rs := [14]) (by kernel_rfl) (by simp) ?_
                    refine (AllReadyP.cons (by simp only [opA, opS, op0]; exact rfl) (fun K hK => ?_) AllReadyP.nil)
                    refine step_append_lies _ (by rfl) _ _ _ (by rfl) (EC + 1) 54 k0 _ 1 24 Try.underlying47 hk0 hx0 hx1 hx2 rfl (by omega) qv7 bs.length bs (by rfl) HG_13.out.ob ⟨B13, 0, none⟩ 1 1 [(Value.slice xa12 (ofL [(vn, vn)]).length xc12)] (by rfl) (by rfl) (World.news_of_block (cs := #[(Value.slice xa12 (ofL [(vn, vn)]).length xc12)]) (t := 54) (fr := (0, 0)) HL13.out) (by simp [Value.oneCell']) (by omega) HRb.out.1 HRb.out.2 HG_13.out.ns' w13.heap.size (by rfl) ?_
                    intro g14 c14 w14 hown hgrow hat _
                    obtain ⟨qa14, qn14, qc14, HQ14⟩ : ∃ qa qn qc, Hid (Value.slice qa qn qc = Value.slice (some ⟨g14, 0, none⟩) (bs.length + 1) c14) := ⟨_, _, _, Lib.hid rfl⟩
                    have HO14 := Lib.hid (show w14.ownsRow (EC + 1) 54 1 (Value.slice qa14 qn14 qc14) (bs ++ [(Value.slice xa12 (ofL [(vn, vn)]).length xc12)]).length (bs ++ [(Value.slice xa12 (ofL [(vn, vn)]).length xc12)]) by rw [HQ14.out, List.length_append]; exact hown)
                    have HG_14 := Lib.hid (HG_13.out.growB HO14.out hgrow (lies_own HQ14.out hat) (by rw [List.length_append, List.length_append, HG_13.out.tl]; rfl) (tab_push HG_13.out.tr HG_13.out.tl HT12_13.out))
                    clear hown hgrow hat
                    rw [← HQ14.out]
                    refine hK.out _ _ (fun _ => (HKP.out _ HG_14.out.low)) ?_
                    clear hK K
                    (try simp only [ptS, stA, st0, stS])
                    refine wpAnyP_ready (rs := [16]) (by kernel_rfl) (by simp) ?_
                    refine (AllReadyP.cons (by simp only [opA, opS, op0]; exact rfl) (fun K hK => ?_) AllReadyP.nil)
                    rw [if_pos (by kernel_rfl)]
                    have c0 : w14.cell? ⟨EC, 2, none⟩ = some (.slice ta1 tl tc1) := by simp [World.cell?, HG_14.out.box]
                    have f0 := thaw HG_14.out.box 2
                    have hbs := cell_lt c0
                    go_simp
                    have HG_16 := Lib.hid (show EnvB EC _ (w14.setCell ⟨EC, 2, none⟩ (Value.slice qa4 qn4 qc4)) #[.slice q1 q2 q3, .slice p1 p2 p3, (Value.slice qa4 qn4 qc4), (.slice ba1 bl bc1), .int .i64 now] _ _ _ _ _ _ _ _ _ from HG_14.out.store 2 (Value.slice qa4 qn4 qc4))
                    generalize w14.setCell ⟨EC, 2, none⟩ (Value.slice qa4 qn4 qc4) = w16 at *
                    clear c0 f0 hbs
                    refine hK.out _ _ (fun _ => (HKP.out _ HG_16.out.low)) ?_
                    clear hK K
                    (try simp only [ptN])
                    refine tkS (i := 17) (v := ?_) (by simp only [opA, opS, op0]; exact rfl) (by kernel_rfl) (by kernel_rfl) (HKP.out _ HG_16.out.low) ?_ ?_
                    rotate_left
                    · intro w hS
                      (try dsimp only at hS); first | (go_simp; done) | (go_simp; with_reducible rfl)
                    (try simp only [ptS, stA, st0, stS])
                    refine wpAnyP_ready (rs := [18]) (by kernel_rfl) (by simp) ?_
                    refine (AllReadyP.cons (by simp only [opA, opS, op0]; exact rfl) (fun K hK => ?_) AllReadyP.nil)
                    rw [if_pos (by kernel_rfl)]
                    have c0 : w16.cell? ⟨EC, 3, none⟩ = some (.slice ba1 bl bc1) := by simp [World.cell?, HG_16.out.box]
                    have f0 := thaw HG_16.out.box 3
                    have hbs := cell_lt c0
                    go_simp
                    have HG_18 := Lib.hid (show EnvB EC _ (w16.setCell ⟨EC, 3, none⟩ (Value.slice qa14 qn14 qc14)) #[.slice q1 q2 q3, .slice p1 p2 p3, (Value.slice qa4 qn4 qc4), (Value.slice qa14 qn14 qc14), .int .i64 now] _ _ _ _ _ _ _ _ _ from HG_16.out.store 3 (Value.slice qa14 qn14 qc14))
                    generalize w16.setCell ⟨EC, 3, none⟩ (Value.slice qa14 qn14 qc14) = w18 at *
                    clear c0 f0 hbs
                    refine hK.out _ _ (gone (by kernel_rfl)) ?_
                    clear hK K
                    (try simp only [ptN])
                    refine wpAnyP_done (by kernel_rfl) ?_ _
                    go_wp2_with fail
                    go_meet
                    exact ⟨_, _, _, _, _, _, _, _, _, _, _, _, _, HG_18⟩
                · rw [if_pos (by kernel_rfl)]
                  have HA11 := Lib.hid (more_allocD w2 (.cells #[.int .i64 vn, .int .i64 vn] 66))
                  have HL11 := Lib.hid (alloc_last w2 (.cells #[.int .i64 vn, .int .i64 vn] 66))
                  obtain ⟨B11, HB11⟩ : ∃ B, Hid (B = w2.heap.size) := ⟨_, Lib.hid rfl⟩
                  go_simp
                  rw [← HB11.out] at HL11 ⊢
                  generalize w2.alloc (.cells #[.int .i64 vn, .int .i64 vn] 66) = w11 at *
                  have HG_11 := Lib.hid (HG_2.out.more HA11.out)
                  refine hK.out _ _ (fun _ => (HKP.out _ HG_11.out.low)) ?_
                  clear hK K
                  (try simp only [ptS, stA, st0, stS])
                  refine wpAnyP_ready (rs := [3]) (by kernel_rfl) (by simp) ?_
                  refine (AllReadyP.cons (by simp only [opA, opS, op0]; exact rfl) (fun K hK => ?_) AllReadyP.nil)
                  rw [if_pos (by kernel_rfl)]
                  have HA3 := Lib.hid (more_allocD w11 (.cells #[Value.string ⟨#[109, 111, 114, 101]⟩] 9))
                  have HL3 := Lib.hid (alloc_last w11 (.cells #[Value.string ⟨#[109, 111, 114, 101]⟩] 9))
                  obtain ⟨B3, HB3⟩ : ∃ B, Hid (B = w11.heap.size) := ⟨_, Lib.hid rfl⟩
                  go_simp
                  rw [← HB3.out] at HL3 ⊢
                  generalize w11.alloc (.cells #[Value.string ⟨#[109, 111, 114, 101]⟩] 9) = w3 at *
                  have HG_3 := Lib.hid (HG_11.out.more HA3.out)
                  have HL11_3 := Lib.hid ((HA3.out.block (blk_ltD HL11.out)).trans HL11.out)
                  refine hK.out _ _ (fun _ => (HKP.out _ HG_3.out.low)) ?_
                  clear hK K
                  (try simp only [ptS, stA, st0, stS])
                  refine wpAnyP_ready (rs := [4]) (by kernel_rfl) (by simp) ?_
                  refine (AllReadyP.cons (by simp only [opA, opS, op0]; exact rfl) (fun K hK => ?_) AllReadyP.nil)
                  refine step_append_lies _ (by rfl) _ _ _ (by rfl) (EC + 1) 9 i0 _ 1 16 Try.underlying90 hi0 hz0 hz1 hz2 rfl (by omega) qv2 TS.length TS (by rfl) HG_3.out.ot ⟨B3, 0, none⟩ 1 1 [Value.string ⟨#[109, 111, 114, 101]⟩] (by rfl) (by rfl) (World.news_of_block (cs := #[Value.string ⟨#[109, 111, 114, 101]⟩]) (t := 9) (fr := (0, 0)) HL3.out) (by simp [Value.oneCell']) (by omega) HRt.out.1 HRt.out.2 HG_3.out.ns' w3.heap.size (by rfl) ?_
                  intro g4 c4 w4 hown hgrow hat _
                  obtain ⟨qa4, qn4, qc4, HQ4⟩ : ∃ qa qn qc, Hid (Value.slice qa qn qc = Value.slice (some ⟨g4, 0, none⟩) (TS.length + 1) c4) := ⟨_, _, _, Lib.hid rfl⟩
                  have HO4 := Lib.hid (show w4.ownsRow (EC + 1) 9 1 (Value.slice qa4 qn4 qc4) (TS ++ [Value.string ⟨#[109, 111, 114, 101]⟩]).length (TS ++ [Value.string ⟨#[109, 111, 114, 101]⟩]) by rw [HQ4.out, List.length_append]; exact hown)
                  have HG_4 := Lib.hid (HG_3.out.growT HO4.out hgrow (lies_own HQ4.out hat))
                  have HL11_3_4 := Lib.hid (blk_grow HG_3.out.ot HL11_3.out (by decide) hgrow)
                  clear hown hgrow hat
                  rw [← HQ4.out]
                  refine hK.out _ _ (fun _ => (HKP.out _ HG_4.out.low)) ?_
                  clear hK K
                  (try simp only [ptS, stA, st0, stS])
                  refine tkS (i := 15) (v := ?_) (by simp only [opA, opS, op0]; exact rfl) (by kernel_rfl) (by kernel_rfl) (HKP.out _ HG_4.out.low) ?_ ?_
                  rotate_left
                  · intro w hS
                    (try dsimp only at hS); first | (go_simp; done) | (go_simp; with_reducible rfl)
                  (try simp only [ptS, stA, st0, stS])
                  refine wpAnyP_ready (rs := [7]) (by kernel_rfl) (by simp) ?_
                  refine (AllReadyP.cons (by simp only [opA, opS, op0]; exact rfl) (fun K hK => ?_) AllReadyP.nil)
                  rw [if_pos (by kernel_rfl)]
                  have HC7 := Lib.hid (clone59_any bs (.slice ba1 bl bc1) w4 (fun _ => True) (by have := HBL.out; omega) (HRB.out.below (HLW.out _ HG_4.out.low)) HNDb.out HB1.out)
                  go_simp
                  refine HC7.out.mono ?_
                  rintro e w7 ⟨⟨x7, rfl, ho⟩, hm⟩
                  have HO7 := Lib.hid ho
                  have HM7 := Lib.hid hm
                  clear ho hm HC7
                  obtain ⟨qa7, qc7, hx7, _⟩ := owns_shape HO7.out
                  subst hx7
                  obtain ⟨qn7, HQN7⟩ : ∃ n, Hid (bs.length = n) := ⟨_, Lib.hid rfl⟩
                  rw [HQN7.out]
                  have HG_7 := Lib.hid (HG_4.out.newB HM7.out HO7.out HE.out.tl (tab_old HE.out HEC.out HG_4.out (HLW.out _ HG_4.out.low)))
                  skip
                  have HL11_3_4_7 := Lib.hid ((HM7.out.block (blk_ltD HL11_3_4.out)).trans HL11_3_4.out)
                  obtain ⟨qv7, HQV7⟩ : ∃ v, Hid (Value.slice qa7 bs.length qc7 = v) := ⟨_, Lib.hid rfl⟩
                  rw [HQV7.out] at HG_7
                  rw [← HQN7.out, HQV7.out]
                  try go_wp2_with fail
                  refine hK.out _ _ (fun _ => (HKP.out _ HG_7.out.low)) ?_
                  clear hK K
                  (try simp only [ptS, stA, st0, stS])
                  refine wpAnyP_ready (rs := [12]) (by kernel_rfl) (by simp) ?_
                  refine (AllReadyP.cons (by simp only [opA, opS, op0]; exact rfl) (fun K hK => ?_) AllReadyP.nil)
                  rw [if_pos (by kernel_rfl)]
                  have HC12 := Lib.hid (of_any (fun _ => True) [(vn, vn)] (.slice (some ⟨B11, 0, none⟩) 1 1) w7 (by simp) (row_lit (n := 1) (size := 2) HL11_3_4_7.out rfl))
                  go_simp
                  refine HC12.out.mono ?_
                  rintro e w12 ⟨hb, x12, rfl, hr⟩
                  have HM12 := Lib.hid (more_of hb)
                  have HT12 := Lib.hid (tab_new HG_7.out hr)
                  obtain ⟨xa12, xc12, rfl, _⟩ := hr.shape
                  clear hb hr HC12
                  have HG_12 := Lib.hid (HG_7.out.more HM12.out)
                  try go_wp2_with fail
                  refine hK.out _ _ (fun _ => (HKP.out _ HG_12.out.low)) ?_
                  clear hK K
                  (try simp only [ptS, stA, st0, stS])
                  refine wpAnyP_ready (rs := [13]) (by kernel_rfl) (by simp) ?_
                  refine (AllReadyP.cons (by simp only [opA, opS, op0]; exact rfl) (fun K hK => ?_) AllReadyP.nil)
                  rw [if_pos (by kernel_rfl)]
                  have HA13 := Lib.hid (more_allocD w12 (.cells #[(Value.slice xa12 (ofL [(vn, vn)]).length xc12)] 54))
                  have HL13 := Lib.hid (alloc_last w12 (.cells #[(Value.slice xa12 (ofL [(vn, vn)]).length xc12)] 54))
                  obtain ⟨B13, HB13⟩ : ∃ B, Hid (B = w12.heap.size) := ⟨_, Lib.hid rfl⟩
                  go_simp
                  rw [← HB13.out] at HL13 ⊢
                  generalize w12.alloc (.cells #[(Value.slice xa12 (ofL [(vn, vn)]).length xc12)] 54) = w13 at *
                  have HG_13 := Lib.hid (HG_12.out.more HA13.out)
                  have HT12_13 := Lib.hid (HT12.out.mono (fun _ k => k) (fun b off u _ hc => HA13.out.cell hc))
                  refine hK.out _ _ (fun _ => (HKP.out _ HG_13.out.low)) ?_
                  clear hK K
                  (try simp only [ptS, stA, st0, stS])
                  refine wpAnyP_ready (rs := [14]) (by kernel_rfl) (by simp) ?_
                  refine (AllReadyP.cons (by simp only [opA, opS, op0]; exact rfl) (fun K hK => ?_) AllReadyP.nil)
                  refine step_append_lies _ (by rfl) _ _ _ (by rfl) (EC + 1) 54 k0 _ 1 24 Try.underlying47 hk0 hx0 hx1 hx2 rfl (by omega) qv7 bs.length bs (by rfl) HG_13.out.ob ⟨B13, 0, none⟩ 1 1 [(Value.slice xa12 (ofL [(vn, vn)]).length xc12)] (by rfl) (by rfl) (World.news_of_block (cs := #[(Value.slice xa12 (ofL [(vn, vn)]).length xc12)]) (t := 54) (fr := (0, 0)) HL13.out) (by simp [Value.oneCell']) (by omega) HRb.out.1 HRb.out.2 HG_13.out.ns' w13.heap.size (by rfl) ?_
                  intro g14 c14 w14 hown hgrow hat _
                  obtain ⟨qa14, qn14, qc14, HQ14⟩ : ∃ qa qn qc, Hid (Value.slice qa qn qc = Value.slice (some ⟨g14, 0, none⟩) (bs.length + 1) c14) := ⟨_, _, _, Lib.hid rfl⟩
                  have HO14 := Lib.hid (show w14.ownsRow (EC + 1) 54 1 (Value.slice qa14 qn14 qc14) (bs ++ [(Value.slice xa12 (ofL [(vn, vn)]).length xc12)]).length (bs ++ [(Value.slice xa12 (ofL [(vn, vn)]).length xc12)]) by rw [HQ14.out, List.length_append]; exact hown)
                  have HG_14 := Lib.hid (HG_13.out.growB HO14.out hgrow (lies_own HQ14.out hat) (by rw [List.length_append, List.length_append, HG_13.out.tl]; rfl) (tab_push HG_13.out.tr HG_13.out.tl HT12_13.out))
                  clear hown hgrow hat
                  rw [← HQ14.out]
                  refine hK.out _ _ (fun _ => (HKP.out _ HG_14.out.low)) ?_
                  clear hK K
                  (try simp only [ptS, stA, st0, stS])
                  refine wpAnyP_ready (rs := [16]) (by kernel_rfl) (by simp) ?_
                  refine (AllReadyP.cons (by simp only [opA, opS, op0]; exact rfl) (fun K hK => ?_) AllReadyP.nil)
                  rw [if_pos (by kernel_rfl)]
                  have c0 : w14.cell? ⟨EC, 2, none⟩ = some (.slice ta1 tl tc1) := by simp [World.cell?, HG_14.out.box]
                  have f0 := thaw HG_14.out.box 2
                  have hbs := cell_lt c0
                  go_simp
                  have HG_16 := Lib.hid (show EnvB EC _ (w14.setCell ⟨EC, 2, none⟩ (Value.slice qa4 qn4 qc4)) #[.slice q1 q2 q3, .slice p1 p2 p3, (Value.slice qa4 qn4 qc4), (.slice ba1 bl bc1), .int .i64 now] _ _ _ _ _ _ _ _ _ from HG_14.out.store 2 (Value.slice qa4 qn4 qc4))
                  generalize w14.setCell ⟨EC, 2, none⟩ (Value.slice qa4 qn4 qc4) = w16 at *
                  clear c0 f0 hbs
                  refine hK.out _ _ (fun _ => (HKP.out _ HG_16.out.low)) ?_
                  clear hK K
                  (try simp only [ptN])
                  refine tkS (i := 17) (v := ?_) (by simp only [opA, opS, op0]; exact rfl) (by kernel_rfl) (by kernel_rfl) (HKP.out _ HG_16.out.low) ?_ ?_
                  rotate_left
                  · intro w hS
                    (try dsimp only at hS); first | (go_simp; done) | (go_simp; with_reducible rfl)
                  (try simp only [ptS, stA, st0, stS])
                  refine wpAnyP_ready (rs := [18]) (by kernel_rfl) (by simp) ?_
                  refine (AllReadyP.cons (by simp only [opA, opS, op0]; exact rfl) (fun K hK => ?_) AllReadyP.nil)
                  rw [if_pos (by kernel_rfl)]
                  have c0 : w16.cell? ⟨EC, 3, none⟩ = some (.slice ba1 bl bc1) := by simp [World.cell?, HG_16.out.box]
                  have f0 := thaw HG_16.out.box 3
                  have hbs := cell_lt c0
                  go_simp
                  have HG_18 := Lib.hid (show EnvB EC _ (w16.setCell ⟨EC, 3, none⟩ (Value.slice qa14 qn14 qc14)) #[.slice q1 q2 q3, .slice p1 p2 p3, (Value.slice qa4 qn4 qc4), (Value.slice qa14 qn14 qc14), .int .i64 now] _ _ _ _ _ _ _ _ _ from HG_16.out.store 3 (Value.slice qa14 qn14 qc14))
                  generalize w16.setCell ⟨EC, 3, none⟩ (Value.slice qa14 qn14 qc14) = w18 at *
                  clear c0 f0 hbs
                  refine hK.out _ _ (gone (by kernel_rfl)) ?_
                  clear hK K
                  (try simp only [ptN])
                  refine wpAnyP_done (by kernel_rfl) ?_ _
                  go_wp2_with fail
                  go_meet
                  exact ⟨_, _, _, _, _, _, _, _, _, _, _, _, _, HG_18⟩
              · rw [if_pos (by kernel_rfl)]
                have HA3 := Lib.hid (more_allocD wd (.cells #[Value.string ⟨#[109, 111, 114, 101]⟩] 9))
                have HL3 := Lib.hid (alloc_last wd (.cells #[Value.string ⟨#[109, 111, 114, 101]⟩] 9))
                obtain ⟨B3, HB3⟩ : ∃ B, Hid (B = wd.heap.size) := ⟨_, Lib.hid rfl⟩
                go_simp
                rw [← HB3.out] at HL3 ⊢
                generalize wd.alloc (.cells #[Value.string ⟨#[109, 111, 114, 101]⟩] 9) = w3 at *
                have HG_3 := Lib.hid (HGd.out.more HA3.out)
                refine hK.out _ _ (fun _ => (HKP.out _ HG_3.out.low)) ?_
                clear hK K
                (try simp only [ptS, stA, st0, stS])
                refine wpAnyP_ready (rs := [2, 11]) (by kernel_rfl) (by simp) ?_
                refine (AllReadyP.cons (by simp only [opA, opS, op0]; exact rfl) (fun K hK => ?_) (AllReadyP.cons (by simp only [opA, opS, op0]; exact rfl) (fun K hK => ?_) AllReadyP.nil))
                · rw [if_pos (by kernel_rfl)]
                  have HC2 := Lib.hid (clone57_any TS (.slice ta1 tl tc1) w3 (fun _ => True) (by have := HTL.out; omega) (HRT.out.below (HLW.out _ HG_3.out.low)) HNDt.out HT1.out)
                  go_simp
                  refine HC2.out.mono ?_
                  rintro e w2 ⟨⟨x2, rfl, ho⟩, hm⟩
                  have HO2 := Lib.hid ho
                  have HM2 := Lib.hid hm
                  clear ho hm HC2
                  obtain ⟨qa2, qc2, hx2, _⟩ := owns_shape HO2.out
                  subst hx2
                  obtain ⟨qn2, HQN2⟩ : ∃ n, Hid (TS.length = n) := ⟨_, Lib.hid rfl⟩
                  rw [HQN2.out]
                  have HG_2 := Lib.hid (HG_3.out.newT HM2.out HO2.out)
                  skip
                  have HL3_2 := Lib.hid ((HM2.out.block (blk_ltD HL3.out)).trans HL3.out)
                  obtain ⟨qv2, HQV2⟩ : ∃ v, Hid (Value.slice qa2 TS.length qc2 = v) := ⟨_, Lib.hid rfl⟩
                  rw [HQV2.out] at HG_2
                  rw [← HQN2.out, HQV2.out]
                  try go_wp2_with fail
                  refine hK.out _ _ (fun _ => (HKP.out _ HG_2.out.low)) ?_
                  clear hK K
                  (try simp only [ptS, stA, st0, stS])
                  refine wpAnyP_ready (rs := [4, 11]) (by kernel_rfl) (by simp) ?_
                  refine (AllReadyP.cons (by simp only [opA, opS, op0]; exact rfl) (fun K hK => ?_) (AllReadyP.cons (by simp only [opA, opS, op0]; exact rfl) (fun K hK => ?_) AllReadyP.nil))
                  · refine step_append_lies _ (by rfl) _ _ _ (by rfl) (EC + 1) 9 i0 _ 1 16 Try.underlying90 hi0 hz0 hz1 hz2 rfl (by omega) qv2 TS.length TS (by rfl) HG_2.out.ot ⟨B3, 0, none⟩ 1 1 [Value.string ⟨#[109, 111, 114, 101]⟩] (by rfl) (by rfl) (World.news_of_block (cs := #[Value.string ⟨#[109, 111, 114, 101]⟩]) (t := 9) (fr := (0, 0)) HL3_2.out) (by simp [Value.oneCell']) (by omega) HRt.out.1 HRt.out.2 HG_2.out.ns' w2.heap.size (by rfl) ?_
                    intro g4 c4 w4 hown hgrow hat _
                    obtain ⟨qa4, qn4, qc4, HQ4⟩ : ∃ qa qn qc, Hid (Value.slice qa qn qc = Value.slice (some ⟨g4, 0, none⟩) (TS.length + 1) c4) := ⟨_, _, _, Lib.hid rfl⟩
                    have HO4 := Lib.hid (show w4.ownsRow (EC + 1) 9 1 (Value.slice qa4 qn4 qc4) (TS ++ [Value.string ⟨#[109, 111, 114, 101]⟩]).length (TS ++ [Value.string ⟨#[109, 111, 114, 101]⟩]) by rw [HQ4.out, List.length_append]; exact hown)
                    have HG_4 := Lib.hid (HG_2.out.growT HO4.out hgrow (lies_own HQ4.out hat))
                    clear hown hgrow hat
                    rw [← HQ4.out]
                    refine hK.out _ _ (fun _ => (HKP.out _ HG_4.out.low)) ?_
                    clear hK K
                    (try simp only [ptS, stA, st0, stS])
                    refine tkS (i := 15) (v := ?_) (by simp only [opA, opS, op0]; exact rfl) (by kernel_rfl) (by kernel_rfl) (HKP.out _ HG_4.out.low) ?_ ?_
                    rotate_left
                    · intro w hS
                      (try dsimp only at hS); first | (go_simp; done) | (go_simp; with_reducible rfl)
                    (try simp only [ptS, stA, st0, stS])
                    refine wpAnyP_ready (rs := [7, 11]) (by kernel_rfl) (by simp) ?_
                    refine (AllReadyP.cons (by simp only [opA, opS, op0]; exact rfl) (fun K hK => ?_) (AllReadyP.cons (by simp only [opA, opS, op0]; exact rfl) (fun K hK => ?_) AllReadyP.nil))
                    · rw [if_pos (by kernel_rfl)]
                      have HC7 := Lib.hid (clone59_any bs (.slice ba1 bl bc1) w4 (fun _ => True) (by have := HBL.out; omega) (HRB.out.below (HLW.out _ HG_4.out.low)) HNDb.out HB1.out)
                      go_simp
                      refine HC7.out.mono ?_
                      rintro e w7 ⟨⟨x7, rfl, ho⟩, hm⟩
                      have HO7 := Lib.hid ho
                      have HM7 := Lib.hid hm
                      clear ho hm HC7
                      obtain ⟨qa7, qc7, hx7, _⟩ := owns_shape HO7.out
                      subst hx7
                      obtain ⟨qn7, HQN7⟩ : ∃ n, Hid (bs.length = n) := ⟨_, Lib.hid rfl⟩
                      rw [HQN7.out]
                      have HG_7 := Lib.hid (HG_4.out.newB HM7.out HO7.out HE.out.tl (tab_old HE.out HEC.out HG_4.out (HLW.out _ HG_4.out.low)))
                      skip
                      obtain ⟨qv7, HQV7⟩ : ∃ v, Hid (Value.slice qa7 bs.length qc7 = v) := ⟨_, Lib.hid rfl⟩
                      rw [HQV7.out] at HG_7
                      rw [← HQN7.out, HQV7.out]
                      try go_wp2_with fail
                      refine hK.out _ _ (fun _ => (HKP.out _ HG_7.out.low)) ?_
                      clear hK K
                      (try simp only [ptS, stA, st0, stS])
                      refine wpAnyP_ready (rs := [11]) (by kernel_rfl) (by simp) ?_
                      refine (AllReadyP.cons (by simp only [opA, opS, op0]; exact rfl) (fun K hK => ?_) AllReadyP.nil)
                      rw [if_pos (by kernel_rfl)]
                      have HA11 := Lib.hid (more_allocD w7 (.cells #[.int .i64 vn, .int .i64 vn] 66))
                      have HL11 := Lib.hid (alloc_last w7 (.cells #[.int .i64 vn, .int .i64 vn] 66))
                      obtain ⟨B11, HB11⟩ : ∃ B, Hid (B = w7.heap.size) := ⟨_, Lib.hid rfl⟩
                      go_simp
                      rw [← HB11.out] at HL11 ⊢
                      generalize w7.alloc (.cells #[.int .i64 vn, .int .i64 vn] 66) = w11 at *
                      have HG_11 := Lib.hid (HG_7.out.more HA11.out)
                      refine hK.out _ _ (fun _ => (HKP.out _ HG_11.out.low)) ?_
                      clear hK K
                      (try simp only [ptS, stA, st0, stS])
                      refine wpAnyP_ready (rs := [12]) (by kernel_rfl) (by simp) ?_
                      refine (AllReadyP.cons (by simp only [opA, opS, op0]; exact rfl) (fun K hK => ?_) AllReadyP.nil)
                      rw [if_pos (by kernel_rfl)]
                      have HC12 := Lib.hid (of_any (fun _ => True) [(vn, vn)] (.slice (some ⟨B11, 0, none⟩) 1 1) w11 (by simp) (row_lit (n := 1) (size := 2) HL11.out rfl))
                      go_simp
                      refine HC12.out.mono ?_
                      rintro e w12 ⟨hb, x12, rfl, hr⟩
                      have HM12 := Lib.hid (more_of hb)
                      have HT12 := Lib.hid (tab_new HG_11.out hr)
                      obtain ⟨xa12, xc12, rfl, _⟩ := hr.shape
                      clear hb hr HC12
                      have HG_12 := Lib.hid (HG_11.out.more HM12.out)
                      try go_wp2_with fail
                      refine hK.out _ _ (fun _ => (HKP.out _ HG_12.out.low)) ?_
                      clear hK K
                      (try simp only [ptS, stA, st0, stS])
                      refine wpAnyP_ready (rs := [13]) (by kernel_rfl) (by simp) ?_
                      refine (AllReadyP.cons (by simp only [opA, opS, op0]; exact rfl) (fun K hK => ?_) AllReadyP.nil)
                      rw [if_pos (by kernel_rfl)]
                      have HA13 := Lib.hid (more_allocD w12 (.cells #[(Value.slice xa12 (ofL [(vn, vn)]).length xc12)] 54))
                      have HL13 := Lib.hid (alloc_last w12 (.cells #[(Value.slice xa12 (ofL [(vn, vn)]).length xc12)] 54))
                      obtain ⟨B13, HB13⟩ : ∃ B, Hid (B = w12.heap.size) := ⟨_, Lib.hid rfl⟩
                      go_simp
                      rw [← HB13.out] at HL13 ⊢
                      generalize w12.alloc (.cells #[(Value.slice xa12 (ofL [(vn, vn)]).length xc12)] 54) = w13 at *
                      have HG_13 := Lib.hid (HG_12.out.more HA13.out)
                      have HT12_13 := Lib.hid (HT12.out.mono (fun _ k => k) (fun b off u _ hc => HA13.out.cell hc))
                      refine hK.out _ _ (fun _ => (HKP.out _ HG_13.out.low)) ?_
                      clear hK K
                      (try simp only [ptS, stA, st0, stS])
                      refine wpAnyP_ready (rs := [14]) (by kernel_rfl) (by simp) ?_
                      refine (AllReadyP.cons (by simp only [opA, opS, op0]; exact rfl) (fun K hK => ?_) AllReadyP.nil)
                      refine step_append_lies _ (by rfl) _ _ _ (by rfl) (EC + 1) 54 k0 _ 1 24 Try.underlying47 hk0 hx0 hx1 hx2 rfl (by omega) qv7 bs.length bs (by rfl) HG_13.out.ob ⟨B13, 0, none⟩ 1 1 [(Value.slice xa12 (ofL [(vn, vn)]).length xc12)] (by rfl) (by rfl) (World.news_of_block (cs := #[(Value.slice xa12 (ofL [(vn, vn)]).length xc12)]) (t := 54) (fr := (0, 0)) HL13.out) (by simp [Value.oneCell']) (by omega) HRb.out.1 HRb.out.2 HG_13.out.ns' w13.heap.size (by rfl) ?_
                      intro g14 c14 w14 hown hgrow hat _
                      obtain ⟨qa14, qn14, qc14, HQ14⟩ : ∃ qa qn qc, Hid (Value.slice qa qn qc = Value.slice (some ⟨g14, 0, none⟩) (bs.length + 1) c14) := ⟨_, _, _, Lib.hid rfl⟩
                      have HO14 := Lib.hid (show w14.ownsRow (EC + 1) 54 1 (Value.slice qa14 qn14 qc14) (bs ++ [(Value.slice xa12 (ofL [(vn, vn)]).length xc12)]).length (bs ++ [(Value.slice xa12 (ofL [(vn, vn)]).length xc12)]) by rw [HQ14.out, List.length_append]; exact hown)
                      have HG_14 := Lib.hid (HG_13.out.growB HO14.out hgrow (lies_own HQ14.out hat) (by rw [List.length_append, List.length_append, HG_13.out.tl]; rfl) (tab_push HG_13.out.tr HG_13.out.tl HT12_13.out))
                      clear hown hgrow hat
                      rw [← HQ14.out]
                      refine hK.out _ _ (fun _ => (HKP.out _ HG_14.out.low)) ?_
                      clear hK K
                      (try simp only [ptS, stA, st0, stS])
                      refine wpAnyP_ready (rs := [16]) (by kernel_rfl) (by simp) ?_
                      refine (AllReadyP.cons (by simp only [opA, opS, op0]; exact rfl) (fun K hK => ?_) AllReadyP.nil)
                      rw [if_pos (by kernel_rfl)]
                      have c0 : w14.cell? ⟨EC, 2, none⟩ = some (.slice ta1 tl tc1) := by simp [World.cell?, HG_14.out.box]
                      have f0 := thaw HG_14.out.box 2
                      have hbs := cell_lt c0
                      go_simp
                      have HG_16 := Lib.hid (show EnvB EC _ (w14.setCell ⟨EC, 2, none⟩ (Value.slice qa4 qn4 qc4)) #[.slice q1 q2 q3, .slice p1 p2 p3, (Value.slice qa4 qn4 qc4), (.slice ba1 bl bc1), .int .i64 now] _ _ _ _ _ _ _ _ _ from HG_14.out.store 2 (Value.slice qa4 qn4 qc4))
                      generalize w14.setCell ⟨EC, 2, none⟩ (Value.slice qa4 qn4 qc4) = w16 at *
                      clear c0 f0 hbs
                      refine hK.out _ _ (fun _ => (HKP.out _ HG_16.out.low)) ?_
                      clear hK K
                      (try simp only [ptN])
                      refine tkS (i := 17) (v := ?_) (by simp only [opA, opS, op0]; exact rfl) (by kernel_rfl) (by kernel_rfl) (HKP.out _ HG_16.out.low) ?_ ?_
                      rotate_left
                      · intro w hS
                        (try dsimp only at hS); first | (go_simp; done) | (go_simp; with_reducible rfl)
                      (try simp only [ptS, stA, st0, stS])
                      refine wpAnyP_ready (rs := [18]) (by kernel_rfl) (by simp) ?_
                      refine (AllReadyP.cons (by simp only [opA, opS, op0]; exact rfl) (fun K hK => ?_) AllReadyP.nil)
                      rw [if_pos (by kernel_rfl)]
                      have c0 : w16.cell? ⟨EC, 3, none⟩ = some (.slice ba1 bl bc1) := by simp [World.cell?, HG_16.out.box]
                      have f0 := thaw HG_16.out.box 3
                      have hbs := cell_lt c0
                      go_simp
                      have HG_18 := Lib.hid (show EnvB EC _ (w16.setCell ⟨EC, 3, none⟩ (Value.slice qa14 qn14 qc14)) #[.slice q1 q2 q3, .slice p1 p2 p3, (Value.slice qa4 qn4 qc4), (Value.slice qa14 qn14 qc14), .int .i64 now] _ _ _ _ _ _ _ _ _ from HG_16.out.store 3 (Value.slice qa14 qn14 qc14))
                      generalize w16.setCell ⟨EC, 3, none⟩ (Value.slice qa14 qn14 qc14) = w18 at *
                      clear c0 f0 hbs
                      refine hK.out _ _ (gone (by kernel_rfl)) ?_
                      clear hK K
                      (try simp only [ptN])
                      refine wpAnyP_done (by kernel_rfl) ?_ _
                      go_wp2_with fail
                      go_meet
                      exact ⟨_, _, _, _, _, _, _, _, _, _, _, _, _, HG_18⟩
                    · rw [if_pos (by kernel_rfl)]
                      have HA11 := Lib.hid (more_allocD w4 (.cells #[.int .i64 vn, .int .i64 vn] 66))
                      have HL11 := Lib.hid (alloc_last w4 (.cells #[.int .i64 vn, .int .i64 vn] 66))
                      obtain ⟨B11, HB11⟩ : ∃ B, Hid (B = w4.heap.size) := ⟨_, Lib.hid rfl⟩
                      go_simp
                      rw [← HB11.out] at HL11 ⊢
                      generalize w4.alloc (.cells #[.int .i64 vn, .int .i64 vn] 66) = w11 at *
                      have HG_11 := Lib.hid (HG_4.out.more HA11.out)
                      refine hK.out _ _ (fun _ => (HKP.out _ HG_11.out.low)) ?_
                      clear hK K
                      (try simp only [ptS, stA, st0, stS])
                      refine wpAnyP_ready (rs := [7]) (by kernel_rfl) (by simp) ?_
                      refine (AllReadyP.cons (by simp only [opA, opS, op0]; exact rfl) (fun K hK => ?_) AllReadyP.nil)
                      rw [if_pos (by kernel_rfl)]
                      have HC7 := Lib.hid (clone59_any bs (.slice ba1 bl bc1) w11 (fun _ => True) (by have := HBL.out; omega) (HRB.out.below (HLW.out _ HG_11.out.low)) HNDb.out HB1.out)
                      go_simp
                      refine HC7.out.mono ?_
                      rintro e w7 ⟨⟨x7, rfl, ho⟩, hm⟩
                      have HO7 := Lib.hid ho
                      have HM7 := Lib.hid hm
                      clear ho hm HC7
                      obtain ⟨qa7, qc7, hx7, _⟩ := owns_shape HO7.out
                      subst hx7
                      obtain ⟨qn7, HQN7⟩ : ∃ n, Hid (bs.length = n) := ⟨_, Lib.hid rfl⟩
                      rw [HQN7.out]
                      have HG_7 := Lib.hid (HG_11.out.newB HM7.out HO7.out HE.out.tl (tab_old HE.out HEC.out HG_11.out (HLW.out _ HG_11.out.low)))
                      skip
                      have HL11_7 := Lib.hid ((HM7.out.block (blk_ltD HL11.out)).trans HL11.out)
                      obtain ⟨qv7, HQV7⟩ : ∃ v, Hid (Value.slice qa7 bs.length qc7 = v) := ⟨_, Lib.hid rfl⟩
                      rw [HQV7.out] at HG_7
                      rw [← HQN7.out, HQV7.out]
                      try go_wp2_with fail
                      refine hK.out _ _ (fun _ => (HKP.out _ HG_7.out.low)) ?_
                      clear hK K
                      (try simp only [ptS, stA, st0, stS])
                      refine wpAnyP_ready (rs := [12]) (by kernel_rfl) (by simp) ?_
                      refine (AllReadyP.cons (by simp only [opA, opS, op0]; exact rfl) (fun K hK => ?_) AllReadyP.nil)
                      rw [if_pos (by kernel_rfl)]
                      have HC12 := Lib.hid (of_any (fun _ => True) [(vn, vn)] (.slice (some ⟨B11, 0, none⟩) 1 1) w7 (by simp) (row_lit (n := 1) (size := 2) HL11_7.out rfl))
                      go_simp
                      refine HC12.out.mono ?_
                      rintro e w12 ⟨hb, x12, rfl, hr⟩
                      have HM12 := Lib.hid (more_of hb)
                      have HT12 := Lib.hid (tab_new HG_7.out hr)
                      obtain ⟨xa12, xc12, rfl, _⟩ := hr.shape
                      clear hb hr HC12
                      have HG_12 := Lib.hid (HG_7.out.more HM12.out)
                      try go_wp2_with fail
                      refine hK.out _ _ (fun _ => (HKP.out _ HG_12.out.low)) ?_
                      clear hK K
                      (try simp only [ptS, stA, st0, stS])
                      refine wpAnyP_ready (rs := [13]) (by kernel_rfl) (by simp) ?_
                      refine (AllReadyP.cons (by simp only [opA, opS, op0]; exact rfl) (fun K hK => ?_) AllReadyP.nil)
                      rw [if_pos (by kernel_rfl)]
                      have HA13 := Lib.hid (more_allocD w12 (.cells #[(Value.slice xa12 (ofL [(vn, vn)]).length xc12)] 54))
                      have HL13 := Lib.hid (alloc_last w12 (.cells #[(Value.slice xa12 (ofL [(vn, vn)]).length xc12)] 54))
                      obtain ⟨B13, HB13⟩ : ∃ B, Hid (B = w12.heap.size) := ⟨_, Lib.hid rfl⟩
                      go_simp
                      rw [← HB13.out] at HL13 ⊢
                      generalize w12.alloc (.cells #[(Value.slice xa12 (ofL [(vn, vn)]).length xc12)] 54) = w13 at *
                      have HG_13 := Lib.hid (HG_12.out.more HA13.out)
                      have HT12_13 := Lib.hid (HT12.out.mono (fun _ k => k) (fun b off u _ hc => HA13.out.cell hc))
                      refine hK.out _ _ (fun _ => (HKP.out _ HG_13.out.low)) ?_
                      clear hK K
                      (try simp only [ptS, stA, st0, stS])
                      refine wpAnyP_ready (rs := [14]) (by kernel_rfl) (by simp) ?_
                      refine (AllReadyP.cons (by simp only [opA, opS, op0]; exact rfl) (fun K hK => ?_) AllReadyP.nil)
                      refine step_append_lies _ (by rfl) _ _ _ (by rfl) (EC + 1) 54 k0 _ 1 24 Try.underlying47 hk0 hx0 hx1 hx2 rfl (by omega) qv7 bs.length bs (by rfl) HG_13.out.ob ⟨B13, 0, none⟩ 1 1 [(Value.slice xa12 (ofL [(vn, vn)]).length xc12)] (by rfl) (by rfl) (World.news_of_block (cs := #[(Value.slice xa12 (ofL [(vn, vn)]).length xc12)]) (t := 54) (fr := (0, 0)) HL13.out) (by simp [Value.oneCell']) (by omega) HRb.out.1 HRb.out.2 HG_13.out.ns' w13.heap.size (by rfl) ?_
                      intro g14 c14 w14 hown hgrow hat _
                      obtain ⟨qa14, qn14, qc14, HQ14⟩ : ∃ qa qn qc, Hid (Value.slice qa qn qc = Value.slice (some ⟨g14, 0, none⟩) (bs.length + 1) c14) := ⟨_, _, _, Lib.hid rfl⟩
                      have HO14 := Lib.hid (show w14.ownsRow (EC + 1) 54 1 (Value.slice qa14 qn14 qc14) (bs ++ [(Value.slice xa12 (ofL [(vn, vn)]).length xc12)]).length (bs ++ [(Value.slice xa12 (ofL [(vn, vn)]).length xc12)]) by rw [HQ14.out, List.length_append]; exact hown)
                      have HG_14 := Lib.hid (HG_13.out.growB HO14.out hgrow (lies_own HQ14.out hat) (by rw [List.length_append, List.length_append, HG_13.out.tl]; rfl) (tab_push HG_13.out.tr HG_13.out.tl HT12_13.out))
                      clear hown hgrow hat
                      rw [← HQ14.out]
                      refine hK.out _ _ (fun _ => (HKP.out _ HG_14.out.low)) ?_
                      clear hK K
                      (try simp only [ptS, stA, st0, stS])
                      refine wpAnyP_ready (rs := [16]) (by kernel_rfl) (by simp) ?_
                      refine (AllReadyP.cons (by simp only [opA, opS, op0]; exact rfl) (fun K hK => ?_) AllReadyP.nil)
                      rw [if_pos (by kernel_rfl)]
                      have c0 : w14.cell? ⟨EC, 2, none⟩ = some (.slice ta1 tl tc1) := by simp [World.cell?, HG_14.out.box]
                      have f0 := thaw HG_14.out.box 2
                      have hbs := cell_lt c0
                      go_simp
                      have HG_16 := Lib.hid (show EnvB EC _ (w14.setCell ⟨EC, 2, none⟩ (Value.slice qa4 qn4 qc4)) #[.slice q1 q2 q3, .slice p1 p2 p3, (Value.slice qa4 qn4 qc4), (.slice ba1 bl bc1), .int .i64 now] _ _ _ _ _ _ _ _ _ from HG_14.out.store 2 (Value.slice qa4 qn4 qc4))
                      generalize w14.setCell ⟨EC, 2, none⟩ (Value.slice qa4 qn4 qc4) = w16 at *
                      clear c0 f0 hbs
                      refine hK.out _ _ (fun _ => (HKP.out _ HG_16.out.low)) ?_
                      clear hK K
                      (try simp only [ptN])
                      refine tkS (i := 17) (v := ?_) (by simp only [opA, opS, op0]; exact rfl) (by kernel_rfl) (by kernel_rfl) (HKP.out _ HG_16.out.low) ?_ ?_
                      rotate_left
                      · intro w hS
                        (try dsimp only at hS); first | (go_simp; done) | (go_simp; with_reducible rfl)
                      (try simp only [ptS, stA, st0, stS])
                      refine wpAnyP_ready (rs := [18]) (by kernel_rfl) (by simp) ?_
                      refine (AllReadyP.cons (by simp only [opA, opS, op0]; exact rfl) (fun K hK => ?_) AllReadyP.nil)
                      rw [if_pos (by kernel_rfl)]
                      have c0 : w16.cell? ⟨EC, 3, none⟩ = some (.slice ba1 bl bc1) := by simp [World.cell?, HG_16.out.box]
                      have f0 := thaw HG_16.out.box 3
                      have hbs := cell_lt c0
                      go_simp
                      have HG_18 := Lib.hid (show EnvB EC _ (w16.setCell ⟨EC, 3, none⟩ (Value.slice qa14 qn14 qc14)) #[.slice q1 q2 q3, .slice p1 p2 p3, (Value.slice qa4 qn4 qc4), (Value.slice qa14 qn14 qc14), .int .i64 now] _ _ _ _ _ _ _ _ _ from HG_16.out.store 3 (Value.slice qa14 qn14 qc14))
                      generalize w16.setCell ⟨EC, 3, none⟩ (Value.slice qa14 qn14 qc14) = w18 at *
                      clear c0 f0 hbs
                      refine hK.out _ _ (gone (by kernel_rfl)) ?_
                      clear hK K
                      (try simp only [ptN])
                      refine wpAnyP_done (by kernel_rfl) ?_ _
                      go_wp2_with fail
                      go_meet
                      exact ⟨_, _, _, _, _, _, _, _, _, _, _, _, _, HG_18⟩
                  · rw [if_pos (by kernel_rfl)]
                    have HA11 := Lib.hid (more_allocD w2 (.cells #[.int .i64 vn, .int .i64 vn] 66))
                    have HL11 := Lib.hid (alloc_last w2 (.cells #[.int .i64 vn, .int .i64 vn] 66))
                    obtain ⟨B11, HB11⟩ : ∃ B, Hid (B = w2.heap.size) := ⟨_, Lib.hid rfl⟩
                    go_simp
                    rw [← HB11.out] at HL11 ⊢
                    generalize w2.alloc (.cells #[.int .i64 vn, .int .i64 vn] 66) = w11 at *
                    have HG_11 := Lib.hid (HG_2.out.more HA11.out)
                    have HL3_2_11 := Lib.hid ((HA11.out.block (blk_ltD HL3_2.out)).trans HL3_2.out)
                    refine hK.out _ _ (fun _ => (HKP.out _ HG_11.out.low)) ?_
                    clear hK K
                    (try simp only [ptS, stA, st0, stS])
                    refine wpAnyP_ready (rs := [4]) (by kernel_rfl) (by simp) ?_
                    refine (AllReadyP.cons (by simp only [opA, opS, op0]; exact rfl) (fun K hK => ?_) AllReadyP.nil)
                    refine step_append_lies _ (by rfl) _ _ _ (by rfl) (EC + 1) 9 i0 _ 1 16 Try.underlying90 hi0 hz0 hz1 hz2 rfl (by omega) qv2 TS.length TS (by rfl) HG_11.out.ot ⟨B3, 0, none⟩ 1 1 [Value.string ⟨#[109, 111, 114, 101]⟩] (by rfl) (by rfl) (World.news_of_block (cs := #[Value.string ⟨#[109, 111, 114, 101]⟩]) (t := 9) (fr := (0, 0)) HL3_2_11.out) (by simp [Value.oneCell']) (by omega) HRt.out.1 HRt.out.2 HG_11.out.ns' w11.heap.size (by rfl) ?_
                    intro g4 c4 w4 hown hgrow hat _
                    obtain ⟨qa4, qn4, qc4, HQ4⟩ : ∃ qa qn qc, Hid (Value.slice qa qn qc = Value.slice (some ⟨g4, 0, none⟩) (TS.length + 1) c4) := ⟨_, _, _, Lib.hid rfl⟩
                    have HO4 := Lib.hid (show w4.ownsRow (EC + 1) 9 1 (Value.slice qa4 qn4 qc4) (TS ++ [Value.string ⟨#[109, 111, 114, 101]⟩]).length (TS ++ [Value.string ⟨#[109, 111, 114, 101]⟩]) by rw [HQ4.out, List.length_append]; exact hown)
                    have HG_4 := Lib.hid (HG_11.out.growT HO4.out hgrow (lies_own HQ4.out hat))
                    have HL11_4 := Lib.hid (blk_grow HG_11.out.ot HL11.out (by decide) hgrow)
                    clear hown hgrow hat
                    rw [← HQ4.out]
                    refine hK.out _ _ (fun _ => (HKP.out _ HG_4.out.low)) ?_
                    clear hK K
                    (try simp only [ptS, stA, st0, stS])
                    refine tkS (i := 15) (v := ?_) (by simp only [opA, opS, op0]; exact rfl) (by kernel_rfl) (by kernel_rfl) (HKP.out _ HG_4.out.low) ?_ ?_
                    rotate_left
                    · intro w hS
                      (try dsimp only at hS); first | (go_simp; done) | (go_simp; with_reducible rfl)
                    (try simp only [ptS, stA, st0, stS])
                    refine wpAnyP_ready (rs := [7]) (by kernel_rfl) (by simp) ?_
                    refine (AllReadyP.cons (by simp only [opA, opS, op0]; exact rfl) (fun K hK => ?_) AllReadyP.nil)
                    rw [if_pos (by kernel_rfl)]
                    have HC7 := Lib.hid (clone59_any bs (.slice ba1 bl bc1) w4 (fun _ => True) (by have := HBL.out; omega) (HRB.out.below (HLW.out _ HG_4.out.low)) HNDb.out HB1.out)
                    go_simp
                    refine HC7.out.mono ?_
                    rintro e w7 ⟨⟨x7, rfl, ho⟩, hm⟩
                    have HO7 := Lib.hid ho
                    have HM7 := Lib.hid hm
                    clear ho hm HC7
                    obtain ⟨qa7, qc7, hx7, _⟩ := owns_shape HO7.out
                    subst hx7
                    obtain ⟨qn7, HQN7⟩ : ∃ n, Hid (bs.length = n) := ⟨_, Lib.hid rfl⟩
                    rw [HQN7.out]
                    have HG_7 := Lib.hid (HG_4.out.newB HM7.out HO7.out HE.out.tl (tab_old HE.out HEC.out HG_4.out (HLW.out _ HG_4.out.low)))
                    skip
                    have HL11_4_7 := Lib.hid ((HM7.out.block (blk_ltD HL11_4.out)).trans HL11_4.out)
                    obtain ⟨qv7, HQV7⟩ : ∃ v, Hid (Value.slice qa7 bs.length qc7 = v) := ⟨_, Lib.hid rfl⟩
                    rw [HQV7.out] at HG_7
                    rw [← HQN7.out, HQV7.out]
                    try go_wp2_with fail
                    refine hK.out _ _ (fun _ => (HKP.out _ HG_7.out.low)) ?_
                    clear hK K
                    (try simp only [ptS, stA, st0, stS])
                    refine wpAnyP_ready (rs := [12]) (by kernel_rfl) (by simp) ?_
                    refine (AllReadyP.cons (by simp only [opA, opS, op0]; exact rfl) (fun K hK => ?_) AllReadyP.nil)
                    rw [if_pos (by kernel_rfl)]
                    have HC12 := Lib.hid (of_any (fun _ => True) [(vn, vn)] (.slice (some ⟨B11, 0, none⟩) 1 1) w7 (by simp) (row_lit (n := 1) (size := 2) HL11_4_7.out rfl))
                    go_simp
                    refine HC12.out.mono ?_
                    rintro e w12 ⟨hb, x12, rfl, hr⟩
                    have HM12 := Lib.hid (more_of hb)
                    have HT12 := Lib.hid (tab_new HG_7.out hr)
                    obtain ⟨xa12, xc12, rfl, _⟩ := hr.shape
                    clear hb hr HC12
                    have HG_12 := Lib.hid (HG_7.out.more HM12.out)
                    try go_wp2_with fail
                    refine hK.out _ _ (fun _ => (HKP.out _ HG_12.out.low)) ?_
                    clear hK K
                    (try simp only [ptS, stA, st0, stS])
                    refine wpAnyP_ready (rs := [13]) (by kernel_rfl) (by simp) ?_
                    refine (AllReadyP.cons (by simp only [opA, opS, op0]; exact rfl) (fun K hK => ?_) AllReadyP.nil)
                    rw [if_pos (by kernel_rfl)]
                    have HA13 := Lib.hid (more_allocD w12 (.cells #[(Value.slice xa12 (ofL [(vn, vn)]).length xc12)] 54))
                    have HL13 := Lib.hid (alloc_last w12 (.cells #[(Value.slice xa12 (ofL [(vn, vn)]).length xc12)] 54))
                    obtain ⟨B13, HB13⟩ : ∃ B, Hid (B = w12.heap.size) := ⟨_, Lib.hid rfl⟩
                    go_simp
                    rw [← HB13.out] at HL13 ⊢
                    generalize w12.alloc (.cells #[(Value.slice xa12 (ofL [(vn, vn)]).length xc12)] 54) = w13 at *
                    have HG_13 := Lib.hid (HG_12.out.more HA13.out)
                    have HT12_13 := Lib.hid (HT12.out.mono (fun _ k => k) (fun b off u _ hc => HA13.out.cell hc))
                    refine hK.out _ _ (fun _ => (HKP.out _ HG_13.out.low)) ?_
                    clear hK K
                    (try simp only [ptS, stA, st0, stS])
                    refine wpAnyP_ready (rs := [14]) (by kernel_rfl) (by simp) ?_
                    refine (AllReadyP.cons (by simp only [opA, opS, op0]; exact rfl) (fun K hK => ?_) AllReadyP.nil)
                    refine step_append_lies _ (by rfl) _ _ _ (by rfl) (EC + 1) 54 k0 _ 1 24 Try.underlying47 hk0 hx0 hx1 hx2 rfl (by omega) qv7 bs.length bs (by rfl) HG_13.out.ob ⟨B13, 0, none⟩ 1 1 [(Value.slice xa12 (ofL [(vn, vn)]).length xc12)] (by rfl) (by rfl) (World.news_of_block (cs := #[(Value.slice xa12 (ofL [(vn, vn)]).length xc12)]) (t := 54) (fr := (0, 0)) HL13.out) (by simp [Value.oneCell']) (by omega) HRb.out.1 HRb.out.2 HG_13.out.ns' w13.heap.size (by rfl) ?_
                    intro g14 c14 w14 hown hgrow hat _
                    obtain ⟨qa14, qn14, qc14, HQ14⟩ : ∃ qa qn qc, Hid (Value.slice qa qn qc = Value.slice (some ⟨g14, 0, none⟩) (bs.length + 1) c14) := ⟨_, _, _, Lib.hid rfl⟩
                    have HO14 := Lib.hid (show w14.ownsRow (EC + 1) 54 1 (Value.slice qa14 qn14 qc14) (bs ++ [(Value.slice xa12 (ofL [(vn, vn)]).length xc12)]).length (bs ++ [(Value.slice xa12 (ofL [(vn, vn)]).length xc12)]) by rw [HQ14.out, List.length_append]; exact hown)
                    have HG_14 := Lib.hid (HG_13.out.growB HO14.out hgrow (lies_own HQ14.out hat) (by rw [List.length_append, List.length_append, HG_13.out.tl]; rfl) (tab_push HG_13.out.tr HG_13.out.tl HT12_13.out))
                    clear hown hgrow hat
                    rw [← HQ14.out]
                    refine hK.out _ _ (fun _ => (HKP.out _ HG_14.out.low)) ?_
                    clear hK K
                    (try simp only [ptS, stA, st0, stS])
                    refine wpAnyP_ready (rs := [16]) (by kernel_rfl) (by simp) ?_
                    refine (AllReadyP.cons (by simp only [opA, opS, op0]; exact rfl) (fun K hK => ?_) AllReadyP.nil)
                    rw [if_pos (by kernel_rfl)]
                    have c0 : w14.cell? ⟨EC, 2, none⟩ = some (.slice ta1 tl tc1) := by simp [World.cell?, HG_14.out.box]
                    have f0 := thaw HG_14.out.box 2
                    have hbs := cell_lt c0
                    go_simp
                    have HG_16 := Lib.hid (show EnvB EC _ (w14.setCell ⟨EC, 2, none⟩ (Value.slice qa4 qn4 qc4)) #[.slice q1 q2 q3, .slice p1 p2 p3, (Value.slice qa4 qn4 qc4), (.slice ba1 bl bc1), .int .i64 now] _ _ _ _ _ _ _ _ _ from HG_14.out.store 2 (Value.slice qa4 qn4 qc4))
                    generalize w14.setCell ⟨EC, 2, none⟩ (Value.slice qa4 qn4 qc4) = w16 at *
                    clear c0 f0 hbs
                    refine hK.out _ _ (fun _ => (HKP.out _ HG_16.out.low)) ?_
                    clear hK K
                    (try simp only [ptN])
                    refine tkS (i := 17) (v := ?_) (by simp only [opA, opS, op0]; exact rfl) (by kernel_rfl) (by kernel_rfl) (HKP.out _ HG_16.out.low) ?_ ?_
                    rotate_left
                    · intro w hS
                      (try dsimp only at hS); first | (go_simp; done) | (go_simp; with_reducible rfl)
                    (try simp only [ptS, stA, st0, stS])
                    refine wpAnyP_ready (rs := [18]) (by kernel_rfl) (by simp) ?_
                    refine (AllReadyP.cons (by simp only [opA, opS, op0]; exact rfl) (fun K hK => ?_) AllReadyP.nil)
                    rw [if_pos (by kernel_rfl)]
                    have c0 : w16.cell? ⟨EC, 3, none⟩ = some (.slice ba1 bl bc1) := by simp [World.cell?, HG_16.out.box]
                    have f0 := thaw HG_16.out.box 3
                    have hbs := cell_lt c0
                    go_simp
                    have HG_18 := Lib.hid (show EnvB EC _ (w16.setCell ⟨EC, 3, none⟩ (Value.slice qa14 qn14 qc14)) #[.slice q1 q2 q3, .slice p1 p2 p3, (Value.slice qa4 qn4 qc4), (Value.slice qa14 qn14 qc14), .int .i64 now] _ _ _ _ _ _ _ _ _ from HG_16.out.store 3 (Value.slice qa14 qn14 qc14))
                    generalize w16.setCell ⟨EC, 3, none⟩ (Value.slice qa14 qn14 qc14) = w18 at *
                    clear c0 f0 hbs
                    refine hK.out _ _ (gone (by kernel_rfl)) ?_
                    clear hK K
                    (try simp only [ptN])
                    refine wpAnyP_done (by kernel_rfl) ?_ _
                    go_wp2_with fail
                    go_meet
                    exact ⟨_, _, _, _, _, _, _, _, _, _, _, _, _, HG_18⟩
                · rw [if_pos (by kernel_rfl)]
                  have HA11 := Lib.hid (more_allocD w3 (.cells #[.int .i64 vn, .int .i64 vn] 66))
                  have HL11 := Lib.hid (alloc_last w3 (.cells #[.int .i64 vn, .int .i64 vn] 66))
                  obtain ⟨B11, HB11⟩ : ∃ B, Hid (B = w3.heap.size) := ⟨_, Lib.hid rfl⟩
                  go_simp
                  rw [← HB11.out] at HL11 ⊢
                  generalize w3.alloc (.cells #[.int .i64 vn, .int .i64 vn] 66) = w11 at *
                  have HG_11 := Lib.hid (HG_3.out.more HA11.out)
                  have HL3_11 := Lib.hid ((HA11.out.block (blk_ltD HL3.out)).trans HL3.out)
                  refine hK.out _ _ (fun _ => (HKP.out _ HG_11.out.low)) ?_
                  clear hK K
                  (try simp only [ptS, stA, st0, stS])
                  refine wpAnyP_ready (rs := [2]) (by kernel_rfl) (by simp) ?_
                  refine (AllReadyP.cons (by simp only [opA, opS, op0]; exact rfl) (fun K hK => ?_) AllReadyP.nil)
                  rw [if_pos (by kernel_rfl)]
                  have HC2 := Lib.hid (clone57_any TS (.slice ta1 tl tc1) w11 (fun _ => True) (by have := HTL.out; omega) (HRT.out.below (HLW.out _ HG_11.out.low)) HNDt.out HT1.out)
                  go_simp
                  refine HC2.out.mono ?_
                  rintro e w2 ⟨⟨x2, rfl, ho⟩, hm⟩
                  have HO2 := Lib.hid ho
                  have HM2 := Lib.hid hm
                  clear ho hm HC2
                  obtain ⟨qa2, qc2, hx2, _⟩ := owns_shape HO2.out
                  subst hx2
                  obtain ⟨qn2, HQN2⟩ : ∃ n, Hid (TS.length = n) := ⟨_, Lib.hid rfl⟩
                  rw [HQN2.out]
                  have HG_2 := Lib.hid (HG_11.out.newT HM2.out HO2.out)
                  skip
                  have HL3_11_2 := Lib.hid ((HM2.out.block (blk_ltD HL3_11.out)).trans HL3_11.out)
                  have HL11_2 := Lib.hid ((HM2.out.block (blk_ltD HL11.out)).trans HL11.out)
                  obtain ⟨qv2, HQV2⟩ : ∃ v, Hid (Value.slice qa2 TS.length qc2 = v) := ⟨_, Lib.hid rfl⟩
                  rw [HQV2.out] at HG_2
                  rw [← HQN2.out, HQV2.out]
                  try go_wp2_with fail
                  refine hK.out _ _ (fun _ => (HKP.out _ HG_2.out.low)) ?_
                  clear hK K
                  (try simp only [ptS, stA, st0, stS])
                  refine wpAnyP_ready (rs := [4]) (by kernel_rfl) (by simp) ?_
                  refine (AllReadyP.cons (by simp only [opA, opS, op0]; exact rfl) (fun K hK => ?_) AllReadyP.nil)
                  refine step_append_lies _ (by rfl) _ _ _ (by rfl) (EC + 1) 9 i0 _ 1 16 Try.underlying90 hi0 hz0 hz1 hz2 rfl (by omega) qv2 TS.length TS (by rfl) HG_2.out.ot ⟨B3, 0, none⟩ 1 1 [Value.string ⟨#[109, 111, 114, 101]⟩] (by rfl) (by rfl) (World.news_of_block (cs := #[Value.string ⟨#[109, 111, 114, 101]⟩]) (t := 9) (fr := (0, 0)) HL3_11_2.out) (by simp [Value.oneCell']) (by omega) HRt.out.1 HRt.out.2 HG_2.out.ns' w2.heap.size (by rfl) ?_
                  intro g4 c4 w4 hown hgrow hat _
                  obtain ⟨qa4, qn4, qc4, HQ4⟩ : ∃ qa qn qc, Hid (Value.slice qa qn qc = Value.slice (some ⟨g4, 0, none⟩) (TS.length + 1) c4) := ⟨_, _, _, Lib.hid rfl⟩
                  have HO4 := Lib.hid (show w4.ownsRow (EC + 1) 9 1 (Value.slice qa4 qn4 qc4) (TS ++ [Value.string ⟨#[109, 111, 114, 101]⟩]).length (TS ++ [Value.string ⟨#[109, 111, 114, 101]⟩]) by rw [HQ4.out, List.length_append]; exact hown)
                  have HG_4 := Lib.hid (HG_2.out.growT HO4.out hgrow (lies_own HQ4.out hat))
                  have HL11_2_4 := Lib.hid (blk_grow HG_2.out.ot HL11_2.out (by decide) hgrow)
                  clear hown hgrow hat
                  rw [← HQ4.out]
                  refine hK.out _ _ (fun _ => (HKP.out _ HG_4.out.low)) ?_
                  clear hK K
                  (try simp only [ptS, stA, st0, stS])
                  refine tkS (i := 15) (v := ?_) (by simp only [opA, opS, op0]; exact rfl) (by kernel_rfl) (by kernel_rfl) (HKP.out _ HG_4.out.low) ?_ ?_
                  rotate_left
                  · intro w hS
                    (try dsimp only at hS); first | (go_simp; done) | (go_simp; with_reducible rfl)
                  (try simp only [ptS, stA, st0, stS])
                  refine wpAnyP_ready (rs := [7]) (by kernel_rfl) (by simp) ?_
                  refine (AllReadyP.cons (by simp only [opA, opS, op0]; exact rfl) (fun K hK => ?_) AllReadyP.nil)
                  rw [if_pos (by kernel_rfl)]
                  have HC7 := Lib.hid (clone59_any bs (.slice ba1 bl bc1) w4 (fun _ => True) (by have := HBL.out; omega) (HRB.out.below (HLW.out _ HG_4.out.low)) HNDb.out HB1.out)
                  go_simp
                  refine HC7.out.mono ?_
                  rintro e w7 ⟨⟨x7, rfl, ho⟩, hm⟩
                  have HO7 := Lib.hid ho
                  have HM7 := Lib.hid hm
                  clear ho hm HC7
                  obtain ⟨qa7, qc7, hx7, _⟩ := owns_shape HO7.out
                  subst hx7
                  obtain ⟨qn7, HQN7⟩ : ∃ n, Hid (bs.length = n) := ⟨_, Lib.hid rfl⟩
                  rw [HQN7.out]
                  have HG_7 := Lib.hid (HG_4.out.newB HM7.out HO7.out HE.out.tl (tab_old HE.out HEC.out HG_4.out (HLW.out _ HG_4.out.low)))
                  skip
                  have HL11_2_4_7 := Lib.hid ((HM7.out.block (blk_ltD HL11_2_4.out)).trans HL11_2_4.out)
                  obtain ⟨qv7, HQV7⟩ : ∃ v, Hid (Value.slice qa7 bs.length qc7 = v) := ⟨_, Lib.hid rfl⟩
                  rw [HQV7.out] at HG_7
                  rw [← HQN7.out, HQV7.out]
                  try go_wp2_with fail
                  refine hK.out _ _ (fun _ => (HKP.out _ HG_7.out.low)) ?_
                  clear hK K
                  (try simp only [ptS, stA, st0, stS])
                  refine wpAnyP_ready (rs := [12]) (by kernel_rfl) (by simp) ?_
                  refine (AllReadyP.cons (by simp only [opA, opS, op0]; exact rfl) (fun K hK => ?_) AllReadyP.nil)
                  rw [if_pos (by kernel_rfl)]
                  have HC12 := Lib.hid (of_any (fun _ => True) [(vn, vn)] (.slice (some ⟨B11, 0, none⟩) 1 1) w7 (by simp) (row_lit (n := 1) (size := 2) HL11_2_4_7.out rfl))
                  go_simp
                  refine HC12.out.mono ?_
                  rintro e w12 ⟨hb, x12, rfl, hr⟩
                  have HM12 := Lib.hid (more_of hb)
                  have HT12 := Lib.hid (tab_new HG_7.out hr)
                  obtain ⟨xa12, xc12, rfl, _⟩ := hr.shape
                  clear hb hr HC12
                  have HG_12 := Lib.hid (HG_7.out.more HM12.out)
                  try go_wp2_with fail
                  refine hK.out _ _ (fun _ => (HKP.out _ HG_12.out.low)) ?_
                  clear hK K
                  (try simp only [ptS, stA, st0, stS])
                  refine wpAnyP_ready (rs := [13]) (by kernel_rfl) (by simp) ?_
                  refine (AllReadyP.cons (by simp only [opA, opS, op0]; exact rfl) (fun K hK => ?_) AllReadyP.nil)
                  rw [if_pos (by kernel_rfl)]
                  have HA13 := Lib.hid (more_allocD w12 (.cells #[(Value.slice xa12 (ofL [(vn, vn)]).length xc12)] 54))
                  have HL13 := Lib.hid (alloc_last w12 (.cells #[(Value.slice xa12 (ofL [(vn, vn)]).length xc12)] 54))
                  obtain ⟨B13, HB13⟩ : ∃ B, Hid (B = w12.heap.size) := ⟨_, Lib.hid rfl⟩
                  go_simp
                  rw [← HB13.out] at HL13 ⊢
                  generalize w12.alloc (.cells #[(Value.slice xa12 (ofL [(vn, vn)]).length xc12)] 54) = w13 at *
                  have HG_13 := Lib.hid (HG_12.out.more HA13.out)
                  have HT12_13 := Lib.hid (HT12.out.mono (fun _ k => k) (fun b off u _ hc => HA13.out.cell hc))
                  refine hK.out _ _ (fun _ => (HKP.out _ HG_13.out.low)) ?_
                  clear hK K
                  (try simp only [ptS, stA, st0, stS])
                  refine wpAnyP_ready (rs := [14]) (by kernel_rfl) (by simp) ?_
                  refine (AllReadyP.cons (by simp only [opA, opS, op0]; exact rfl) (fun K hK => ?_) AllReadyP.nil)
                  refine step_append_lies _ (by rfl) _ _ _ (by rfl) (EC + 1) 54 k0 _ 1 24 Try.underlying47 hk0 hx0 hx1 hx2 rfl (by omega) qv7 bs.length bs (by rfl) HG_13.out.ob ⟨B13, 0, none⟩ 1 1 [(Value.slice xa12 (ofL [(vn, vn)]).length xc12)] (by rfl) (by rfl) (World.news_of_block (cs := #[(Value.slice xa12 (ofL [(vn, vn)]).length xc12)]) (t := 54) (fr := (0, 0)) HL13.out) (by simp [Value.oneCell']) (by omega) HRb.out.1 HRb.out.2 HG_13.out.ns' w13.heap.size (by rfl) ?_
                  intro g14 c14 w14 hown hgrow hat _
                  obtain ⟨qa14, qn14, qc14, HQ14⟩ : ∃ qa qn qc, Hid (Value.slice qa qn qc = Value.slice (some ⟨g14, 0, none⟩) (bs.length + 1) c14) := ⟨_, _, _, Lib.hid rfl⟩
                  have HO14 := Lib.hid (show w14.ownsRow (EC + 1) 54 1 (Value.slice qa14 qn14 qc14) (bs ++ [(Value.slice xa12 (ofL [(vn, vn)]).length xc12)]).length (bs ++ [(Value.slice xa12 (ofL [(vn, vn)]).length xc12)]) by rw [HQ14.out, List.length_append]; exact hown)
                  have HG_14 := Lib.hid (HG_13.out.growB HO14.out hgrow (lies_own HQ14.out hat) (by rw [List.length_append, List.length_append, HG_13.out.tl]; rfl) (tab_push HG_13.out.tr HG_13.out.tl HT12_13.out))
                  clear hown hgrow hat
                  rw [← HQ14.out]
                  refine hK.out _ _ (fun _ => (HKP.out _ HG_14.out.low)) ?_
                  clear hK K
                  (try simp only [ptS, stA, st0, stS])
                  refine wpAnyP_ready (rs := [16]) (by kernel_rfl) (by simp) ?_
                  refine (AllReadyP.cons (by simp only [opA, opS, op0]; exact rfl) (fun K hK => ?_) AllReadyP.nil)
                  rw [if_pos (by kernel_rfl)]
                  have c0 : w14.cell? ⟨EC, 2, none⟩ = some (.slice ta1 tl tc1) := by simp [World.cell?, HG_14.out.box]
                  have f0 := thaw HG_14.out.box 2
                  have hbs := cell_lt c0
                  go_simp
                  have HG_16 := Lib.hid (show EnvB EC _ (w14.setCell ⟨EC, 2, none⟩ (Value.slice qa4 qn4 qc4)) #[.slice q1 q2 q3, .slice p1 p2 p3, (Value.slice qa4 qn4 qc4), (.slice ba1 bl bc1), .int .i64 now] _ _ _ _ _ _ _ _ _ from HG_14.out.store 2 (Value.slice qa4 qn4 qc4))
                  generalize w14.setCell ⟨EC, 2, none⟩ (Value.slice qa4 qn4 qc4) = w16 at *
                  clear c0 f0 hbs
                  refine hK.out _ _ (fun _ => (HKP.out _ HG_16.out.low)) ?_
                  clear hK K
                  (try simp only [ptN])
                  refine tkS (i := 17) (v := ?_) (by simp only [opA, opS, op0]; exact rfl) (by kernel_rfl) (by kernel_rfl) (HKP.out _ HG_16.out.low) ?_ ?_
                  rotate_left
                  · intro w hS
                    (try dsimp only at hS); first | (go_simp; done) | (go_simp; with_reducible rfl)
                  (try simp only [ptS, stA, st0, stS])
                  refine wpAnyP_ready (rs := [18]) (by kernel_rfl) (by simp) ?_
                  refine (AllReadyP.cons (by simp only [opA, opS, op0]; exact rfl) (fun K hK => ?_) AllReadyP.nil)
                  rw [if_pos (by kernel_rfl)]
                  have c0 : w16.cell? ⟨EC, 3, none⟩ = some (.slice ba1 bl bc1) := by simp [World.cell?, HG_16.out.box]
                  have f0 := thaw HG_16.out.box 3
                  have hbs := cell_lt c0
                  go_simp
                  have HG_18 := Lib.hid (show EnvB EC _ (w16.setCell ⟨EC, 3, none⟩ (Value.slice qa14 qn14 qc14)) #[.slice q1 q2 q3, .slice p1 p2 p3, (Value.slice qa4 qn4 qc4), (Value.slice qa14 qn14 qc14), .int .i64 now] _ _ _ _ _ _ _ _ _ from HG_16.out.store 3 (Value.slice qa14 qn14 qc14))
                  generalize w16.setCell ⟨EC, 3, none⟩ (Value.slice qa14 qn14 qc14) = w18 at *
                  clear c0 f0 hbs
                  refine hK.out _ _ (gone (by kernel_rfl)) ?_
                  clear hK K
                  (try simp only [ptN])
                  refine wpAnyP_done (by kernel_rfl) ?_ _
                  go_wp2_with fail
                  go_meet
                  exact ⟨_, _, _, _, _, _, _, _, _, _, _, _, _, HG_18⟩
              · rw [if_pos (by kernel_rfl)]
                have HA11 := Lib.hid (more_allocD wd (.cells #[.int .i64 vn, .int .i64 vn] 66))
                have HL11 := Lib.hid (alloc_last wd (.cells #[.int .i64 vn, .int .i64 vn] 66))
                obtain ⟨B11, HB11⟩ : ∃ B, Hid (B = wd.heap.size) := ⟨_, Lib.hid rfl⟩
                go_simp
                rw [← HB11.out] at HL11 ⊢
                generalize wd.alloc (.cells #[.int .i64 vn, .int .i64 vn] 66) = w11 at *
                have HG_11 := Lib.hid (HGd.out.more HA11.out)
                refine hK.out _ _ (fun _ => (HKP.out _ HG_11.out.low)) ?_
                clear hK K
                (try simp only [ptS, stA, st0, stS])
                refine wpAnyP_ready (rs := [2, 3]) (by kernel_rfl) (by simp) ?_
                refine (AllReadyP.cons (by simp only [opA, opS, op0]; exact rfl) (fun K hK => ?_) (AllReadyP.cons (by simp only [opA, opS, op0]; exact rfl) (fun K hK => ?_) AllReadyP.nil))
                · rw [if_pos (by kernel_rfl)]
                  have HC2 := Lib.hid (clone57_any TS (.slice ta1 tl tc1) w11 (fun _ => True) (by have := HTL.out; omega) (HRT.out.below (HLW.out _ HG_11.out.low)) HNDt.out HT1.out)
                  go_simp
                  refine HC2.out.mono ?_
                  rintro e w2 ⟨⟨x2, rfl, ho⟩, hm⟩
                  have HO2 := Lib.hid ho
                  have HM2 := Lib.hid hm
                  clear ho hm HC2
                  obtain ⟨qa2, qc2, hx2, _⟩ := owns_shape HO2.out
                  subst hx2
                  obtain ⟨qn2, HQN2⟩ : ∃ n, Hid (TS.length = n) := ⟨_, Lib.hid rfl⟩
                  rw [HQN2.out]
                  have HG_2 := Lib.hid (HG_11.out.newT HM2.out HO2.out)
                  skip
                  have HL11_2 := Lib.hid ((HM2.out.block (blk_ltD HL11.out)).trans HL11.out)
                  obtain ⟨qv2, HQV2⟩ : ∃ v, Hid (Value.slice qa2 TS.length qc2 = v) := ⟨_, Lib.hid rfl⟩
                  rw [HQV2.out] at HG_2
                  rw [← HQN2.out, HQV2.out]
                  try go_wp2_with fail
                  refine hK.out _ _ (fun _ => (HKP.out _ HG_2.out.low)) ?_
                  clear hK K
                  (try simp only [ptS, stA, st0, stS])
                  refine wpAnyP_ready (rs := [3]) (by kernel_rfl) (by simp) ?_
                  refine (AllReadyP.cons (by simp only [opA, opS, op0]; exact rfl) (fun K hK => ?_) AllReadyP.nil)
                  rw [if_pos (by kernel_rfl)]
                  have HA3 := Lib.hid (more_allocD w2 (.cells #[Value.string ⟨#[109, 111, 114, 101]⟩] 9))
                  have HL3 := Lib.hid (alloc_last w2 (.cells #[Value.string ⟨#[109, 111, 114, 101]⟩] 9))
                  obtain ⟨B3, HB3⟩ : ∃ B, Hid (B = w2.heap.size) := ⟨_, Lib.hid rfl⟩
                  go_simp
                  rw [← HB3.out] at HL3 ⊢
                  generalize w2.alloc (.cells #[Value.string ⟨#[109, 111, 114, 101]⟩] 9) = w3 at *
                  have HG_3 := Lib.hid (HG_2.out.more HA3.out)
                  have HL11_2_3 := Lib.hid ((HA3.out.block (blk_ltD HL11_2.out)).trans HL11_2.out)
                  refine hK.out _ _ (fun _ => (HKP.out _ HG_3.out.low)) ?_
                  clear hK K
                  (try simp only [ptS, stA, st0, stS])
                  refine wpAnyP_ready (rs := [4]) (by kernel_rfl) (by simp) ?_
                  refine (AllReadyP.cons (by simp only [opA, opS, op0]; exact rfl) (fun K hK => ?_) AllReadyP.nil)
                  refine step_append_lies _ (by rfl) _ _ _ (by rfl) (EC + 1) 9 i0 _ 1 16 Try.underlying90 hi0 hz0 hz1 hz2 rfl (by omega) qv2 TS.length TS (by rfl) HG_3.out.ot ⟨B3, 0, none⟩ 1 1 [Value.string ⟨#[109, 111, 114, 101]⟩] (by rfl) (by rfl) (World.news_of_block (cs := #[Value.string ⟨#[109, 111, 114, 101]⟩]) (t := 9) (fr := (0, 0)) HL3.out) (by simp [Value.oneCell']) (by omega) HRt.out.1 HRt.out.2 HG_3.out.ns' w3.heap.size (by rfl) ?_
                  intro g4 c4 w4 hown hgrow hat _
                  obtain ⟨qa4, qn4, qc4, HQ4⟩ : ∃ qa qn qc, Hid (Value.slice qa qn qc = Value.slice (some ⟨g4, 0, none⟩) (TS.length + 1) c4) := ⟨_, _, _, Lib.hid rfl⟩
                  have HO4 := Lib.hid (show w4.ownsRow (EC + 1) 9 1 (Value.slice qa4 qn4 qc4) (TS ++ [Value.string ⟨#[109, 111, 114, 101]⟩]).length (TS ++ [Value.string ⟨#[109, 111, 114, 101]⟩]) by rw [HQ4.out, List.length_append]; exact hown)
                  have HG_4 := Lib.hid (HG_3.out.growT HO4.out hgrow (lies_own HQ4.out hat))
                  have HL11_2_3_4 := Lib.hid (blk_grow HG_3.out.ot HL11_2_3.out (by decide) hgrow)
                  clear hown hgrow hat
                  rw [← HQ4.out]
                  refine hK.out _ _ (fun _ => (HKP.out _ HG_4.out.low)) ?_
                  clear hK K
                  (try simp only [ptS, stA, st0, stS])
                  refine tkS (i := 15) (v := ?_) (by simp only [opA, opS, op0]; exact rfl) (by kernel_rfl) (by kernel_rfl) (HKP.out _ HG_4.out.low) ?_ ?_
                  rotate_left
                  · intro w hS
                    (try dsimp only at hS); first | (go_simp; done) | (go_simp; with_reducible rfl)
                  (try simp only [ptS, stA, st0, stS])
                  refine wpAnyP_ready (rs := [7]) (by kernel_rfl) (by simp) ?_
                  refine (AllReadyP.cons (by simp only [opA, opS, op0]; exact rfl) (fun K hK => ?_) AllReadyP.nil)
                  rw [if_pos (by kernel_rfl)]
                  have HC7 := Lib.hid (clone59_any bs (.slice ba1 bl bc1) w4 (fun _ => True) (by have := HBL.out; omega) (HRB.out.below (HLW.out _ HG_4.out.low)) HNDb.out HB1.out)
                  go_simp
                  refine HC7.out.mono ?_
                  rintro e w7 ⟨⟨x7, rfl, ho⟩, hm⟩
                  have HO7 := Lib.hid ho
                  have HM7 := Lib.hid hm
                  clear ho hm HC7
                  obtain ⟨qa7, qc7, hx7, _⟩ := owns_shape HO7.out
                  subst hx7
                  obtain ⟨qn7, HQN7⟩ : ∃ n, Hid (bs.length = n) := ⟨_, Lib.hid rfl⟩
                  rw [HQN7.out]
                  have HG_7 := Lib.hid (HG_4.out.newB HM7.out HO7.out HE.out.tl (tab_old HE.out HEC.out HG_4.out (HLW.out _ HG_4.out.low)))
                  skip
                  have HL11_2_3_4_7 := Lib.hid ((HM7.out.block (blk_ltD HL11_2_3_4.out)).trans HL11_2_3_4.out)
                  obtain ⟨qv7, HQV7⟩ : ∃ v, Hid (Value.slice qa7 bs.length qc7 = v) := ⟨_, Lib.hid rfl⟩
                  rw [HQV7.out] at HG_7
                  rw [← HQN7.out, HQV7.out]
                  try go_wp2_with fail
                  refine hK.out _ _ (fun _ => (HKP.out _ HG_7.out.low)) ?_
                  clear hK K
                  (try simp only [ptS, stA, st0, stS])
                  refine wpAnyP_ready (rs := [12]) (by kernel_rfl) (by simp) ?_
                  refine (AllReadyP.cons (by simp only [opA, opS, op0]; exact rfl) (fun K hK => ?_) AllReadyP.nil)
                  rw [if_pos (by kernel_rfl)]
                  have HC12 := Lib.hid (of_any (fun _ => True) [(vn, vn)] (.slice (some ⟨B11, 0, none⟩) 1 1) w7 (by simp) (row_lit (n := 1) (size := 2) HL11_2_3_4_7.out rfl))
                  go_simp
                  refine HC12.out.mono ?_
                  rintro e w12 ⟨hb, x12, rfl, hr⟩
                  have HM12 := Lib.hid (more_of hb)
                  have HT12 := Lib.hid (tab_new HG_7.out hr)
                  obtain ⟨xa12, xc12, rfl, _⟩ := hr.shape
                  clear hb hr HC12
                  have HG_12 := Lib.hid (HG_7.out.more HM12.out)
                  try go_wp2_with fail
                  refine hK.out _ _ (fun _ => (HKP.out _ HG_12.out.low)) ?_
                  clear hK K
                  (try simp only [ptS, stA, st0, stS])
                  refine wpAnyP_ready (rs := [13]) (by kernel_rfl) (by simp) ?_
                  refine (AllReadyP.cons (by simp only [opA, opS, op0]; exact rfl) (fun K hK => ?_) AllReadyP.nil)
                  rw [if_pos (by kernel_rfl)]
                  have HA13 := Lib.hid (more_allocD w12 (.cells #[(Value.slice xa12 (ofL [(vn, vn)]).length xc12)] 54))
                  have HL13 := Lib.hid (alloc_last w12 (.cells #[(Value.slice xa12 (ofL [(vn, vn)]).length xc12)] 54))
                  obtain ⟨B13, HB13⟩ : ∃ B, Hid (B = w12.heap.size) := ⟨_, Lib.hid rfl⟩
                  go_simp
                  rw [← HB13.out] at HL13 ⊢
                  generalize w12.alloc (.cells #[(Value.slice xa12 (ofL [(vn, vn)]).length xc12)] 54) = w13 at *
                  have HG_13 := Lib.hid (HG_12.out.more HA13.out)
                  have HT12_13 := Lib.hid (HT12.out.mono (fun _ k => k) (fun b off u _ hc => HA13.out.cell hc))
                  refine hK.out _ _ (fun _ => (HKP.out _ HG_13.out.low)) ?_
                  clear hK K
                  (try simp only [ptS, stA, st0, stS])
                  refine wpAnyP_ready (rs := [14]) (by kernel_rfl) (by simp) ?_
                  refine (AllReadyP.cons (by simp only [opA, opS, op0]; exact rfl) (fun K hK => ?_) AllReadyP.nil)
                  refine step_append_lies _ (by rfl) _ _ _ (by rfl) (EC + 1) 54 k0 _ 1 24 Try.underlying47 hk0 hx0 hx1 hx2 rfl (by omega) qv7 bs.length bs (by rfl) HG_13.out.ob ⟨B13, 0, none⟩ 1 1 [(Value.slice xa12 (ofL [(vn, vn)]).length xc12)] (by rfl) (by rfl) (World.news_of_block (cs := #[(Value.slice xa12 (ofL [(vn, vn)]).length xc12)]) (t := 54) (fr := (0, 0)) HL13.out) (by simp [Value.oneCell']) (by omega) HRb.out.1 HRb.out.2 HG_13.out.ns' w13.heap.size (by rfl) ?_
                  intro g14 c14 w14 hown hgrow hat _
                  obtain ⟨qa14, qn14, qc14, HQ14⟩ : ∃ qa qn qc, Hid (Value.slice qa qn qc = Value.slice (some ⟨g14, 0, none⟩) (bs.length + 1) c14) := ⟨_, _, _, Lib.hid rfl⟩
                  have HO14 := Lib.hid (show w14.ownsRow (EC + 1) 54 1 (Value.slice qa14 qn14 qc14) (bs ++ [(Value.slice xa12 (ofL [(vn, vn)]).length xc12)]).length (bs ++ [(Value.slice xa12 (ofL [(vn, vn)]).length xc12)]) by rw [HQ14.out, List.length_append]; exact hown)
                  have HG_14 := Lib.hid (HG_13.out.growB HO14.out hgrow (lies_own HQ14.out hat) (by rw [List.length_append, List.length_append, HG_13.out.tl]; rfl) (tab_push HG_13.out.tr HG_13.out.tl HT12_13.out))
                  clear hown hgrow hat
                  rw [← HQ14.out]
                  refine hK.out _ _ (fun _ => (HKP.out _ HG_14.out.low)) ?_
                  clear hK K
                  (try simp only [ptS, stA, st0, stS])
                  refine wpAnyP_ready (rs := [16]) (by kernel_rfl) (by simp) ?_
                  refine (AllReadyP.cons (by simp only [opA, opS, op0]; exact rfl) (fun K hK => ?_) AllReadyP.nil)
                  rw [if_pos (by kernel_rfl)]
                  have c0 : w14.cell? ⟨EC, 2, none⟩ = some (.slice ta1 tl tc1) := by simp [World.cell?, HG_14.out.box]
                  have f0 := thaw HG_14.out.box 2
                  have hbs := cell_lt c0
                  go_simp
                  have HG_16 := Lib.hid (show EnvB EC _ (w14.setCell ⟨EC, 2, none⟩ (Value.slice qa4 qn4 qc4)) #[.slice q1 q2 q3, .slice p1 p2 p3, (Value.slice qa4 qn4 qc4), (.slice ba1 bl bc1), .int .i64 now] _ _ _ _ _ _ _ _ _ from HG_14.out.store 2 (Value.slice qa4 qn4 qc4))
                  generalize w14.setCell ⟨EC, 2, none⟩ (Value.slice qa4 qn4 qc4) = w16 at *
                  clear c0 f0 hbs
                  refine hK.out _ _ (fun _ => (HKP.out _ HG_16.out.low)) ?_
                  clear hK K
                  (try simp only [ptN])
                  refine tkS (i := 17) (v := ?_) (by simp only [opA, opS, op0]; exact rfl) (by kernel_rfl) (by kernel_rfl) (HKP.out _ HG_16.out.low) ?_ ?_
                  rotate_left
                  · intro w hS
                    (try dsimp only at hS); first | (go_simp; done) | (go_simp; with_reducible rfl)
                  (try simp only [ptS, stA, st0, stS])
                  refine wpAnyP_ready (rs := [18]) (by kernel_rfl) (by simp) ?_
                  refine (AllReadyP.cons (by simp only [opA, opS, op0]; exact rfl) (fun K hK => ?_) AllReadyP.nil)
                  rw [if_pos (by kernel_rfl)]
                  have c0 : w16.cell? ⟨EC, 3, none⟩ = some (.slice ba1 bl bc1) := by simp [World.cell?, HG_16.out.box]
                  have f0 := thaw HG_16.out.box 3
                  have hbs := cell_lt c0
                  go_simp
                  have HG_18 := Lib.hid (show EnvB EC _ (w16.setCell ⟨EC, 3, none⟩ (Value.slice qa14 qn14 qc14)) #[.slice q1 q2 q3, .slice p1 p2 p3, (Value.slice qa4 qn4 qc4), (Value.slice qa14 qn14 qc14), .int .i64 now] _ _ _ _ _ _ _ _ _ from HG_16.out.store 3 (Value.slice qa14 qn14 qc14))
                  generalize w16.setCell ⟨EC, 3, none⟩ (Value.slice qa14 qn14 qc14) = w18 at *
                  clear c0 f0 hbs
                  refine hK.out _ _ (gone (by kernel_rfl)) ?_
                  clear hK K
                  (try simp only [ptN])
                  refine wpAnyP_done (by kernel_rfl) ?_ _
                  go_wp2_with fail
                  go_meet
                  exact ⟨_, _, _, _, _, _, _, _, _, _, _, _, _, HG_18⟩
                · rw [if_pos (by kernel_rfl)]
                  have HA3 := Lib.hid (more_allocD w11 (.cells #[Value.string ⟨#[109, 111, 114, 101]⟩] 9))
                  have HL3 := Lib.hid (alloc_last w11 (.cells #[Value.string ⟨#[109, 111, 114, 101]⟩] 9))
                  obtain ⟨B3, HB3⟩ : ∃ B, Hid (B = w11.heap.size) := ⟨_, Lib.hid rfl⟩
                  go_simp
                  rw [← HB3.out] at HL3 ⊢
                  generalize w11.alloc (.cells #[Value.string ⟨#[109, 111, 114, 101]⟩] 9) = w3 at *
                  have HG_3 := Lib.hid (HG_11.out.more HA3.out)
                  have HL11_3 := Lib.hid ((HA3.out.block (blk_ltD HL11.out)).trans HL11.out)
                  refine hK.out _ _ (fun _ => (HKP.out _ HG_3.out.low)) ?_
                  clear hK K
                  (try simp only [ptS, stA, st0, stS])
                  refine wpAnyP_ready (rs := [2]) (by kernel_rfl) (by simp) ?_
                  refine (AllReadyP.cons (by simp only [opA, opS, op0]; exact rfl) (fun K hK => ?_) AllReadyP.nil)
                  rw [if_pos (by kernel_rfl)]
                  have HC2 := Lib.hid (clone57_any TS (.slice ta1 tl tc1) w3 (fun _ => True) (by have := HTL.out; omega) (HRT.out.below (HLW.out _ HG_3.out.low)) HNDt.out HT1.out)
                  go_simp
                  refine HC2.out.mono ?_
                  rintro e w2 ⟨⟨x2, rfl, ho⟩, hm⟩
                  have HO2 := Lib.hid ho
                  have HM2 := Lib.hid hm
                  clear ho hm HC2
                  obtain ⟨qa2, qc2, hx2, _⟩ := owns_shape HO2.out
                  subst hx2
                  obtain ⟨qn2, HQN2⟩ : ∃ n, Hid (TS.length = n) := ⟨_, Lib.hid rfl⟩
                  rw [HQN2.out]
                  have HG_2 := Lib.hid (HG_3.out.newT HM2.out HO2.out)
                  skip
                  have HL11_3_2 := Lib.hid ((HM2.out.block (blk_ltD HL11_3.out)).trans HL11_3.out)
                  have HL3_2 := Lib.hid ((HM2.out.block (blk_ltD HL3.out)).trans HL3.out)
                  obtain ⟨qv2, HQV2⟩ : ∃ v, Hid (Value.slice qa2 TS.length qc2 = v) := ⟨_, Lib.hid rfl⟩
                  rw [HQV2.out] at HG_2
                  rw [← HQN2.out, HQV2.out]
                  try go_wp2_with fail
                  refine hK.out _ _ (fun _ => (HKP.out _ HG_2.out.low)) ?_
                  clear hK K
                  (try simp only [ptS, stA, st0, stS])
                  refine wpAnyP_ready (rs := [4]) (by kernel_rfl) (by simp) ?_
                  refine (AllReadyP.cons (by simp only [opA, opS, op0]; exact rfl) (fun K hK => ?_) AllReadyP.nil)
                  refine step_append_lies _ (by rfl) _ _ _ (by rfl) (EC + 1) 9 i0 _ 1 16 Try.underlying90 hi0 hz0 hz1 hz2 rfl (by omega) qv2 TS.length TS (by rfl) HG_2.out.ot ⟨B3, 0, none⟩ 1 1 [Value.string ⟨#[109, 111, 114, 101]⟩] (by rfl) (by rfl) (World.news_of_block (cs := #[Value.string ⟨#[109, 111, 114, 101]⟩]) (t := 9) (fr := (0, 0)) HL3_2.out) (by simp [Value.oneCell']) (by omega) HRt.out.1 HRt.out.2 HG_2.out.ns' w2.heap.size (by rfl) ?_
                  intro g4 c4 w4 hown hgrow hat _
                  obtain ⟨qa4, qn4, qc4, HQ4⟩ : ∃ qa qn qc, Hid (Value.slice qa qn qc = Value.slice (some ⟨g4, 0, none⟩) (TS.length + 1) c4) := ⟨_, _, _, Lib.hid rfl⟩
                  have HO4 := Lib.hid (show w4.ownsRow (EC + 1) 9 1 (Value.slice qa4 qn4 qc4) (TS ++ [Value.string ⟨#[109, 111, 114, 101]⟩]).length (TS ++ [Value.string ⟨#[109, 111, 114, 101]⟩]) by rw [HQ4.out, List.length_append]; exact hown)
                  have HG_4 := Lib.hid (HG_2.out.growT HO4.out hgrow (lies_own HQ4.out hat))
                  have HL11_3_2_4 := Lib.hid (blk_grow HG_2.out.ot HL11_3_2.out (by decide) hgrow)
                  clear hown hgrow hat
                  rw [← HQ4.out]
                  refine hK.out _ _ (fun _ => (HKP.out _ HG_4.out.low)) ?_
                  clear hK K
                  (try simp only [ptS, stA, st0, stS])
                  refine tkS (i := 15) (v := ?_) (by simp only [opA, opS, op0]; exact rfl) (by kernel_rfl) (by kernel_rfl) (HKP.out _ HG_4.out.low) ?_ ?_
                  rotate_left
                  · intro w hS
                    (try dsimp only at hS); first | (go_simp; done) | (go_simp; with_reducible rfl)
                  (try simp only [ptS, stA, st0, stS])
                  refine wpAnyP_ready (rs := [7]) (by kernel_rfl) (by simp) ?_
                  refine (AllReadyP.cons (by simp only [opA, opS, op0]; exact rfl) (fun K hK => ?_) AllReadyP.nil)
                  rw [if_pos (by kernel_rfl)]
                  have HC7 := Lib.hid (clone59_any bs (.slice ba1 bl bc1) w4 (fun _ => True) (by have := HBL.out; omega) (HRB.out.below (HLW.out _ HG_4.out.low)) HNDb.out HB1.out)
                  go_simp
                  refine HC7.out.mono ?_
                  rintro e w7 ⟨⟨x7, rfl, ho⟩, hm⟩
                  have HO7 := Lib.hid ho
                  have HM7 := Lib.hid hm
                  clear ho hm HC7
                  obtain ⟨qa7, qc7, hx7, _⟩ := owns_shape HO7.out
                  subst hx7
                  obtain ⟨qn7, HQN7⟩ : ∃ n, Hid (bs.length = n) := ⟨_, Lib.hid rfl⟩
                  rw [HQN7.out]
                  have HG_7 := Lib.hid (HG_4.out.newB HM7.out HO7.out HE.out.tl (tab_old HE.out HEC.out HG_4.out (HLW.out _ HG_4.out.low)))
                  skip
                  have HL11_3_2_4_7 := Lib.hid ((HM7.out.block (blk_ltD HL11_3_2_4.out)).trans HL11_3_2_4.out)
                  obtain ⟨qv7, HQV7⟩ : ∃ v, Hid (Value.slice qa7 bs.length qc7 = v) := ⟨_, Lib.hid rfl⟩
                  rw [HQV7.out] at HG_7
                  rw [← HQN7.out, HQV7.out]
                  try go_wp2_with fail
                  refine hK.out _ _ (fun _ => (HKP.out _ HG_7.out.low)) ?_
                  clear hK K
                  (try simp only [ptS, stA, st0, stS])
                  refine wpAnyP_ready (rs := [12]) (by kernel_rfl) (by simp) ?_
                  refine (AllReadyP.cons (by simp only [opA, opS, op0]; exact rfl) (fun K hK => ?_) AllReadyP.nil)
                  rw [if_pos (by kernel_rfl)]
                  have HC12 := Lib.hid (of_any (fun _ => True) [(vn, vn)] (.slice (some ⟨B11, 0, none⟩) 1 1) w7 (by simp) (row_lit (n := 1) (size := 2) HL11_3_2_4_7.out rfl))
                  go_simp
                  refine HC12.out.mono ?_
                  rintro e w12 ⟨hb, x12, rfl, hr⟩
                  have HM12 := Lib.hid (more_of hb)
                  have HT12 := Lib.hid (tab_new HG_7.out hr)
                  obtain ⟨xa12, xc12, rfl, _⟩ := hr.shape
                  clear hb hr HC12
                  have HG_12 := Lib.hid (HG_7.out.more HM12.out)
                  try go_wp2_with fail
                  refine hK.out _ _ (fun _ => (HKP.out _ HG_12.out.low)) ?_
                  clear hK K
                  (try simp only [ptS, stA, st0, stS])
                  refine wpAnyP_ready (rs := [13]) (by kernel_rfl) (by simp) ?_
                  refine (AllReadyP.cons (by simp only [opA, opS, op0]; exact rfl) (fun K hK => ?_) AllReadyP.nil)
                  rw [if_pos (by kernel_rfl)]
                  have HA13 := Lib.hid (more_allocD w12 (.cells #[(Value.slice xa12 (ofL [(vn, vn)]).length xc12)] 54))
                  have HL13 := Lib.hid (alloc_last w12 (.cells #[(Value.slice xa12 (ofL [(vn, vn)]).length xc12)] 54))
                  obtain ⟨B13, HB13⟩ : ∃ B, Hid (B = w12.heap.size) := ⟨_, Lib.hid rfl⟩
                  go_simp
                  rw [← HB13.out] at HL13 ⊢
                  generalize w12.alloc (.cells #[(Value.slice xa12 (ofL [(vn, vn)]).length xc12)] 54) = w13 at *
                  have HG_13 := Lib.hid (HG_12.out.more HA13.out)
                  have HT12_13 := Lib.hid (HT12.out.mono (fun _ k => k) (fun b off u _ hc => HA13.out.cell hc))
                  refine hK.out _ _ (fun _ => (HKP.out _ HG_13.out.low)) ?_
                  clear hK K
                  (try simp only [ptS, stA, st0, stS])
                  refine wpAnyP_ready (rs := [14]) (by kernel_rfl) (by simp) ?_
                  refine (AllReadyP.cons (by simp only [opA, opS, op0]; exact rfl) (fun K hK => ?_) AllReadyP.nil)
                  refine step_append_lies _ (by rfl) _ _ _ (by rfl) (EC + 1) 54 k0 _ 1 24 Try.underlying47 hk0 hx0 hx1 hx2 rfl (by omega) qv7 bs.length bs (by rfl) HG_13.out.ob ⟨B13, 0, none⟩ 1 1 [(Value.slice xa12 (ofL [(vn, vn)]).length xc12)] (by rfl) (by rfl) (World.news_of_block (cs := #[(Value.slice xa12 (ofL [(vn, vn)]).length xc12)]) (t := 54) (fr := (0, 0)) HL13.out) (by simp [Value.oneCell']) (by omega) HRb.out.1 HRb.out.2 HG_13.out.ns' w13.heap.size (by rfl) ?_
                  intro g14 c14 w14 hown hgrow hat _
                  obtain ⟨qa14, qn14, qc14, HQ14⟩ : ∃ qa qn qc, Hid (Value.slice qa qn qc = Value.slice (some ⟨g14, 0, none⟩) (bs.length + 1) c14) := ⟨_, _, _, Lib.hid rfl⟩
                  have HO14 := Lib.hid (show w14.ownsRow (EC + 1) 54 1 (Value.slice qa14 qn14 qc14) (bs ++ [(Value.slice xa12 (ofL [(vn, vn)]).length xc12)]).length (bs ++ [(Value.slice xa12 (ofL [(vn, vn)]).length xc12)]) by rw [HQ14.out, List.length_append]; exact hown)
                  have HG_14 := Lib.hid (HG_13.out.growB HO14.out hgrow (lies_own HQ14.out hat) (by rw [List.length_append, List.length_append, HG_13.out.tl]; rfl) (tab_push HG_13.out.tr HG_13.out.tl HT12_13.out))
                  clear hown hgrow hat
                  rw [← HQ14.out]
                  refine hK.out _ _ (fun _ => (HKP.out _ HG_14.out.low)) ?_
                  clear hK K
                  (try simp only [ptS, stA, st0, stS])
                  refine wpAnyP_ready (rs := [16]) (by kernel_rfl) (by simp) ?_
                  refine (AllReadyP.cons (by simp only [opA, opS, op0]; exact rfl) (fun K hK => ?_) AllReadyP.nil)
                  rw [if_pos (by kernel_rfl)]
                  have c0 : w14.cell? ⟨EC, 2, none⟩ = some (.slice ta1 tl tc1) := by simp [World.cell?, HG_14.out.box]
                  have f0 := thaw HG_14.out.box 2
                  have hbs := cell_lt c0
                  go_simp
                  have HG_16 := Lib.hid (show EnvB EC _ (w14.setCell ⟨EC, 2, none⟩ (Value.slice qa4 qn4 qc4)) #[.slice q1 q2 q3, .slice p1 p2 p3, (Value.slice qa4 qn4 qc4), (.slice ba1 bl bc1), .int .i64 now] _ _ _ _ _ _ _ _ _ from HG_14.out.store 2 (Value.slice qa4 qn4 qc4))
                  generalize w14.setCell ⟨EC, 2, none⟩ (Value.slice qa4 qn4 qc4) = w16 at *
                  clear c0 f0 hbs
                  refine hK.out _ _ (fun _ => (HKP.out _ HG_16.out.low)) ?_
                  clear hK K
                  (try simp only [ptN])
                  refine tkS (i := 17) (v := ?_) (by simp only [opA, opS, op0]; exact rfl) (by kernel_rfl) (by kernel_rfl) (HKP.out _ HG_16.out.low) ?_ ?_
                  rotate_left
                  · intro w hS
                    (try dsimp only at hS); first | (go_simp; done) | (go_simp; with_reducible rfl)
                  (try simp only [ptS, stA, st0, stS])
                  refine wpAnyP_ready (rs := [18]) (by kernel_rfl) (by simp) ?_
                  refine (AllReadyP.cons (by simp only [opA, opS, op0]; exact rfl) (fun K hK => ?_) AllReadyP.nil)
                  rw [if_pos (by kernel_rfl)]
                  have c0 : w16.cell? ⟨EC, 3, none⟩ = some (.slice ba1 bl bc1) := by simp [World.cell?, HG_16.out.box]
                  have f0 := thaw HG_16.out.box 3
                  have hbs := cell_lt c0
                  go_simp
                  have HG_18 := Lib.hid (show EnvB EC _ (w16.setCell ⟨EC, 3, none⟩ (Value.slice qa14 qn14 qc14)) #[.slice q1 q2 q3, .slice p1 p2 p3, (Value.slice qa4 qn4 qc4), (Value.slice qa14 qn14 qc14), .int .i64 now] _ _ _ _ _ _ _ _ _ from HG_16.out.store 3 (Value.slice qa14 qn14 qc14))
                  generalize w16.setCell ⟨EC, 3, none⟩ (Value.slice qa14 qn14 qc14) = w18 at *
                  clear c0 f0 hbs
                  refine hK.out _ _ (gone (by kernel_rfl)) ?_
                  clear hK K
                  (try simp only [ptN])
                  refine wpAnyP_done (by kernel_rfl) ?_ _
                  go_wp2_with fail
                  go_meet
                  exact ⟨_, _, _, _, _, _, _, _, _, _, _, _, _, HG_18⟩
            case rest => as_aux_lemma =>
              obtain ⟨q1, q2, q3, p1, p2, p3, r1, r2, r3, s1, s2, s3, xx, HG⟩ := hcut
              obtain ⟨e, HED⟩ : ∃ e : EnvD, Hid (e = (⟨PA, valsD vn pn, PB, tabsD vn now qn, now⟩ : EnvD)) := ⟨_, Lib.hid rfl⟩
              rw [← HNS.out, ← HVS.out, ← HTS.out, ← HTT.out] at HE
              rw [← HNS.out, ← HVS.out, ← HTS.out, ← HTT.out] at HG
              have HLV := Lib.hid (show PA.length = (valsD vn pn).length by rw [HPN.out, valsD_len])
              have HLT := Lib.hid (show PB.length = (tabsD vn now qn).length by rw [HQN.out, tabsD_len])
              have HTI := Lib.hid (tabs_in HV.out HW.out HLB.out)
              have HTN := Lib.hid (show ((ofL [(vn, vn)]).length < 4294967296 ∧ Asc (ofL [(vn, vn)])) ∧ ∀ x ∈ ofL [(vn, vn)], In64 x.1 ∧ In64 x.2 from ⟨⟨Nat.lt_of_le_of_lt (ofL_len _) (by simp), asc_of _⟩, tab_in (fun x hx => by rw [List.mem_singleton] at hx; subst hx; exact ⟨HV.out, HV.out⟩)⟩)
              have HP1 := Lib.hid (show EnvP (fun _ => True) wo2 e (.slice na1 nl nc1) (.slice va1 vl vc1) (.slice ta1 tl tc1) (.slice ba1 bl bc1) from by
                  rw [HED.out]
                  exact EnvB.env (⟨PA, valsD vn pn, PB, tabsD vn now qn, now⟩ : EnvD) HE.out ⟨by rw [HPN.out]; have := HLA.out; omega, by rw [valsD_len]; have := HLA.out; omega, by rw [HQN.out]; have := HLB.out; omega, by rw [tabsD_len]; have := HLB.out; omega, fun T hT => (HTI.out T hT).1.1⟩ ⟨HW.out, vals_in _ _, fun T hT => (HTI.out T hT).2⟩ (fun T hT => (HTI.out T hT).1.2) ⟨HTA.out, HTB.out⟩)
              have HP2 := Lib.hid (show EnvP (fun _ => True) wc (extE e ⟨#[111, 116, 104, 101, 114]⟩ ⟨#[109, 111, 114, 101]⟩ vn (ofL [(vn, vn)])) (.slice q1 q2 q3) (.slice p1 p2 p3) (.slice r1 r2 r3) (.slice s1 s2 s3) from by
                  rw [HED.out]
                  refine EnvB.env (extE (⟨PA, valsD vn pn, PB, tabsD vn now qn, now⟩ : EnvD) ⟨#[111, 116, 104, 101, 114]⟩ ⟨#[109, 111, 114, 101]⟩ vn (ofL [(vn, vn)])) (by unfold extE; dsimp only; rw [List.map_append, List.map_append, List.map_append]; exact HG.out) ⟨?_, ?_, ?_, ?_, fun T hT => ?_⟩ ⟨HW.out, fun x hx => ?_, fun T hT => ?_⟩ (fun T hT => ?_) ⟨fun x hx => ?_, fun x hx => ?_⟩
                  all_goals (unfold extE at *; dsimp only at *)
                  · rw [List.length_append, HPN.out]; have := HLA.out; simp; omega
                  · rw [List.length_append, valsD_len]; have := HLA.out; simp; omega
                  · rw [List.length_append, HQN.out]; have := HLB.out; simp; omega
                  · rw [List.length_append, tabsD_len]; have := HLB.out; simp; omega
                  · rcases List.mem_append.1 hT with h | h
                    · exact (HTI.out T h).1.1
                    · rw [List.mem_singleton] at h; rw [h]; exact HTN.out.1.1
                  · rcases List.mem_append.1 hx with h | h
                    · exact vals_in _ _ x h
                    · rw [List.mem_singleton] at h; rw [h]; exact HV.out
                  · rcases List.mem_append.1 hT with h | h
                    · exact (HTI.out T h).2
                    · rw [List.mem_singleton] at h; rw [h]; exact HTN.out.2
                  · rcases List.mem_append.1 hT with h | h
                    · exact (HTI.out T h).1.2
                    · rw [List.mem_singleton] at h; rw [h]; exact HTN.out.1.2
                  · rcases List.mem_append.1 hx with h | h
                    · exact HTA.out x h
                    · rw [List.mem_singleton] at h; rw [h]; unfold maxLen; decide
                  · rcases List.mem_append.1 hx with h | h
                    · exact HTB.out x h
                    · rw [List.mem_singleton] at h; rw [h]; unfold maxLen; decide)
              have HEV := Lib.hid (show evalV (extE e ⟨#[111, 116, 104, 101, 114]⟩ ⟨#[109, 111, 114, 101]⟩ vn (ofL [(vn, vn)])) t = evalV e t ∧ (evalV e t).2 ≠ 9 ∧ (evalV e t).2 ≠ 1 from by
                  rw [HED.out]
                  exact evalV_ext (e := (⟨PA, valsD vn pn, PB, tabsD vn now qn, now⟩ : EnvD)) HLV.out HLT.out t HIA.out HIB.out)
              have HBW := Lib.hid (HLW.out wc HG.out.low)
              have HB2 := Lib.hid (show Below w6.heap.size w6 wo2 by have h := HE.out.low; rwa [HEB.out] at h)
              have HM2 := Lib.hid (more_trans (more_of HB2.out) (more_of HBW.out))
              have HXc := Lib.hid ((HM2.out.block (blk_ltD HX6.out)).trans HX6.out)
              have HRc := Lib.hid (show RepS .u8 (fun _ => True) wc 30 t.args (.slice a4 t.args.length cap4) from HR6.out.mono (fun _ k => k) (fun _ _ _ _ hc => HM2.out.cell hc) (Nat.le_refl _))
              have HEc := Lib.hid ((HBW.out.block EB (blk_ltD HBX.out)).trans HBX.out)
              have HGb := Lib.hid HG.out.box
              have HC1 := Lib.hid (eval_any 30 (fun _ => True) (fun _ => True) t (.slice a4 t.args.length cap4) e _ _ _ _ wc HFU.out HRc.out (HP1.out.below HBW.out))
              have hnow9 : e.now = now := by rw [HED.out]
              unfold agg aggE at HC1
              rw [hnow9] at HC1
              obtain ⟨X, HX⟩ : ∃ X, Hid ((evalV e t).1 = X) := ⟨_, Lib.hid rfl⟩
              obtain ⟨F, HF⟩ : ∃ X, Hid ((evalV e t).2 = X) := ⟨_, Lib.hid rfl⟩
              rw [HX.out, HF.out] at HC1
              have s0_ : wc.cell? ⟨XB, 0, none⟩ = some (.int .u8 t.op) := by simp [World.cell?, HXc.out]
              have s1_ : wc.cell? ⟨XB, 1, none⟩ = some (.string t.name) := by simp [World.cell?, HXc.out]
              have s2_ : wc.cell? ⟨XB, 2, none⟩ = some (.int .i64 t.n) := by simp [World.cell?, HXc.out]
              have s3_ : wc.cell? ⟨XB, 3, none⟩ = some (.slice a4 t.args.length cap4) := by simp [World.cell?, HXc.out]
              have n0 : wc.cell? ⟨EB, 0, none⟩ = some (.slice na1 nl nc1) := by simp [World.cell?, HEc.out]
              have n1 : wc.cell? ⟨EB, 1, none⟩ = some (.slice va1 vl vc1) := by simp [World.cell?, HEc.out]
              have n2 : wc.cell? ⟨EB, 2, none⟩ = some (.slice ta1 tl tc1) := by simp [World.cell?, HEc.out]
              have n3 : wc.cell? ⟨EB, 3, none⟩ = some (.slice ba1 bl bc1) := by simp [World.cell?, HEc.out]
              have n4 : wc.cell? ⟨EB, 4, none⟩ = some (.int .i64 now) := by simp [World.cell?, HEc.out]
              have hbe := cell_lt n0
              go_wp2_with fail
              refine HC1.out.mono ?_
              rintro r w20 ⟨hb20, rfl⟩
              have HM20 := Lib.hid (more_of hb20)
              clear n0 n1 n2 n3 n4 hbe s0_ s1_ s2_ s3_ HC1
              have HC2 := Lib.hid (eval_any 30 (fun _ => True) (fun _ => True) t (.slice a4 t.args.length cap4) _ _ _ _ _ w20 HFU.out (HRc.out.mono (fun _ k => k) (fun _ _ _ _ hc => HM20.out.cell hc) (Nat.le_refl _)) (HP2.out.below hb20))
              have hnow8 : (extE e ⟨#[111, 116, 104, 101, 114]⟩ ⟨#[109, 111, 114, 101]⟩ vn (ofL [(vn, vn)])).now = now := by rw [HED.out]; rfl
              unfold agg aggE at HC2
              rw [hnow8, HEV.out.1, HX.out, HF.out] at HC2
              have HF9 := Lib.hid HEV.out.2
              rw [HF.out] at HF9
              have HX2 := Lib.hid ((HM20.out.block (blk_ltD HXc.out)).trans HXc.out)
              have HG2 := Lib.hid ((HM20.out.block (blk_ltD HGb.out)).trans HGb.out)
              clear hb20 hnow9 hnow8
              have s0_ : w20.cell? ⟨XB, 0, none⟩ = some (.int .u8 t.op) := by simp [World.cell?, HX2.out]
              have s1_ : w20.cell? ⟨XB, 1, none⟩ = some (.string t.name) := by simp [World.cell?, HX2.out]
              have s2_ : w20.cell? ⟨XB, 2, none⟩ = some (.int .i64 t.n) := by simp [World.cell?, HX2.out]
              have s3_ : w20.cell? ⟨XB, 3, none⟩ = some (.slice a4 t.args.length cap4) := by simp [World.cell?, HX2.out]
              have n0 : w20.cell? ⟨EC, 0, none⟩ = some (.slice q1 q2 q3) := by simp [World.cell?, HG2.out]
              have n1 : w20.cell? ⟨EC, 1, none⟩ = some (.slice p1 p2 p3) := by simp [World.cell?, HG2.out]
              have n2 : w20.cell? ⟨EC, 2, none⟩ = some (.slice r1 r2 r3) := by simp [World.cell?, HG2.out]
              have n3 : w20.cell? ⟨EC, 3, none⟩ = some (.slice s1 s2 s3) := by simp [World.cell?, HG2.out]
              have n4 : w20.cell? ⟨EC, 4, none⟩ = some (.int .i64 now) := by simp [World.cell?, HG2.out]
              have hbe := cell_lt n0
              go_wp2_with fail
              refine HC2.out.mono ?_
              rintro r w21 ⟨hb21, rfl⟩
              have HM21 := Lib.hid (more_of hb21)
              clear n0 n1 n2 n3 n4 hbe s0_ s1_ s2_ s3_ HC2 hb21
              have hF9 : (F == 9) = false := beq_eq_false_iff_ne.2 HF9.out.1
              have hF1 : (F == 1) = false := beq_eq_false_iff_ne.2 HF9.out.2
              have hG9 : (F != 9) = true := by rw [bne_iff_ne]; exact HF9.out.1
              have hG1 : (F != 1) = true := by rw [bne_iff_ne]; exact HF9.out.2
              go_wp2_with fail
              go_ret
              have b6 := HB6.out
              exact ⟨rfl, b6.trans ((more_trans HM2.out (more_trans HM20.out HM21.out)).below.mono b6.size)⟩
end Go.Proofs.Ytekhoanjpnjaeaa

