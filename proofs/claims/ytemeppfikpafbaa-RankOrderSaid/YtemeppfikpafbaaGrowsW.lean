/- The walk of RankGrows (5). -/
import Derived.Test.YtemeppfikpafbaaAppR
import Derived.Test.YtemeppfikpafbaaInvS
import Derived.Deep.DeepCutAuto
namespace Go.Proofs.Ytemeppfikpafbaa
open Go.RowKit Go.ChangeShapes Go.WideShapes Go.Sort Go.Shelf
set_option maxRecDepth 100000 in
theorem open_iv {H : Type} {enc : TypeId × Value → H} {w : World} {base : Nat} {spare : Nat → Bool} {held : Bool} {r : Reach} {b0 : Nat} {v : Value} {d : DataW H} {ps : List MemPlace} (hv : Value.okWide Try.prog w r b0 36 v) (h : DataW.Trod enc Try.prog w base spare held 36 v d ps) :
    ∃ x : (Value × Value) × Cau, v = .agg #[x.1.1, x.1.2] ∧ IvOk w x := by
  obtain ⟨cs, rfl, _⟩ := okWide_struct Try.underlying36 hv
  obtain ⟨fuel, hf⟩ := h
  obtain ⟨x, hx, hc⟩ := iv_elem _ _ _ hf
  refine ⟨x, ?_, hx⟩
  have : cs.toList = [x.1.1, x.1.2] := by simpa [Value.cells, pC] using hc
  congr 1
  exact Array.toList_inj.1 this
theorem CVs.one {w : World} {l : List Cau} {vs : List (Value × Value)} (h : CVs w l vs) : ∀ u ∈ flatC pC vs, u.oneCell' = true := by
  intro u hu
  obtain ⟨p, hp, hm⟩ := List.mem_flatMap.1 hu
  obtain ⟨i, hi, rfl⟩ := List.getElem_of_mem hp
  obtain ⟨⟨h1, h2⟩, _⟩ := h.2 i (by rw [← h.1]; exact hi) hi
  obtain ⟨a1, c1, e1, _⟩ := h1.shape
  obtain ⟨a2, c2, e2, _⟩ := h2.shape
  simp only [pC, List.mem_cons, List.not_mem_nil, or_false] at hm
  rcases hm with rfl | rfl
  · rw [e1]; rfl
  · rw [e2]; rfl
/-- A further cause lowers no degree. -/
theorem grows_le {L : List Cau} {c : Cau} {s t : List Shr} (hs : IsShares L (s.map shN)) (ht : IsShares (L ++ [c]) (t.map shN)) {x y : Shr} (hx : x ∈ s) (hy : y ∈ t) (e : y.1 = x.1) : ¬ 0 < cmpR (degR x.2.val) (degR y.2.val) := by
  obtain ⟨h1, h2⟩ := (hs.2 (shN x)).1 (List.mem_map_of_mem hx)
  obtain ⟨h3, h4⟩ := (ht.2 (shN y)).1 (List.mem_map_of_mem hy)
  simp only [shN] at h1 h2 h3 h4
  rw [e] at h3 h4
  have := joint_push (c := c) h1
  rw [cmpR_pos]
  omega
theorem shares_len {l : List Cau} {s : List Shr} (h : IsShares l (s.map shN)) : s.length ≤ (keysL l).length := by
  have e := h.unique (refDeg_is l)
  have : s.length = (refDeg l).length := by rw [← e, List.length_map]
  rw [this]
  unfold refDeg
  rw [shF_len]
  exact sortS_le _ _
theorem keysL_bound {l : List Cau} (h : ∀ c ∈ l, c.Ok) (hl : l.length ≤ 8) : (keysL l).length ≤ 3200 := by
  have g : ∀ m : List Cau, (∀ c ∈ m, c.Ok) → (keysL m).length ≤ m.length * 400 := by
    intro m
    induction m with
    | nil => intro _; simp [keysL]
    | cons c r ih =>
      intro h
      have h1 := ih (fun d hd => h d (List.mem_cons_of_mem _ hd))
      have h2 := (h c (by simp)).lu
      unfold keysL at h1 ⊢
      rw [List.flatMap_cons, List.length_append, List.length_cons]
      omega
  have := g l h
  omega
theorem grows_in {L : List Cau} {c : Cau} {s t : List Shr} (hs : IsShares L (s.map shN)) (ht : IsShares (L ++ [c]) (t.map shN)) {x : Shr} (hx : x ∈ s) : ∃ y ∈ t, y.1 = x.1 := by
  obtain ⟨h1, _⟩ := (hs.2 (shN x)).1 (List.mem_map_of_mem hx)
  simp only [shN] at h1
  obtain ⟨y, hy, e⟩ := List.mem_map.1 ((ht.2 (x.1, jointN (L ++ [c]) [x.1])).2 ⟨(joint_push h1).1, rfl⟩)
  exact ⟨y, hy, by have := congrArg Prod.fst e; simpa [shN] using this⟩
structure InvG (w0 w1 : World) (L M : List Cau) (vs : List (Value × Value)) (v vu vh : Value) (b0 b1 b2 b3 b4 b5 b6 b7 b8 b9 : Bool) (x15 x16 x17 x18 x19 x20 x21 x22 x23 x5 : Value) (W : World) : Prop where
  hl : Hid (More w1 W)
  g0 : b0 = true → b2 = false → ∃ B, x15 = .slice (some ⟨B, 0, none⟩) 0 0 ∧ w1.heap.size ≤ B ∧ W.heap[B]? = some (.cells #[] 36)
  g1 : b1 = true → x16 = v
  g2 : b2 = true → b6 = false → Hid (W.ownsRow w1.heap.size 36 2 x17 vs.length (flatC pC vs))
  g3 : b3 = true → x18 = .agg #[vu, vh]
  g4 : b4 = true → b5 = false → ∃ B, x19 = .slice (some ⟨B, 0, none⟩) 1 1 ∧ W.heap[B]? = some (.cells #[vu, vh] 36)
  g5 : b5 = true → b6 = false → ∃ us : List (Value × Value), Hid (CVs w0 M us) ∧ Hid (Row anyB W 2 us.length x20 (flatC pC us)) ∧ Hid (NilA x20)
  g6 : b6 = true → b7 = false → Hid (CRow W (L ++ M) x21)
  g7 : b7 = true → b8 = false → Hid (CRow W (L ++ M) x22)
  g8 : b8 = true → ∃ s : List Shr, Hid (IsShares (L ++ M) (s.map shN)) ∧ Hid (Row anyB W 6 s.length x23 (flatC sC s))
  g9 : b9 = true → ∃ s : List Shr, Hid (IsShares (L ++ M) (s.map shN)) ∧ Hid (Row anyB W 6 s.length x5 (flatC sC s))
  d2_0 : b2 = true → b0 = true
  d5_2 : b5 = true → b2 = true
  d5_4 : b5 = true → b4 = true
  d6_5 : b6 = true → b5 = true
  d7_6 : b7 = true → b6 = true
  d8_7 : b8 = true → b7 = true
  d9_8 : b9 = true → b8 = true
set_option maxRecDepth 100000 in
set_option maxHeartbeats 40000000 in
theorem rankGrows_walk (l0 : List Cau) (x : (Value × Value) × Cau) (v : Value) (w : World) (h : InL w l0 v) (hx : IvOk w x) : Calls Try.prog 5 #[v, .agg #[x.1.1, x.1.2]] w fun e w' => e = .returned (.bool true) ∧ Below w.heap.size w w' := by
  obtain ⟨⟨vu, vh⟩, c⟩ := x
  have HI := Lib.hid h; clear h
  have HX := Lib.hid hx; clear hx
  have HAW := Lib.hid (fun W => awake_any W)
  obtain ⟨i0, hi0, hz0, hz1, hz2⟩ := info_parts info36
  dsimp only
  go_enter Try.func5, Try.ntmps5
  go_wp2_with fail
  refine (HAW.out _).mono ?_
  rintro e w1 ⟨rfl, hm1⟩
  have HP := Lib.hid ((hm1.block (by simp)).trans (alloc_last w (.cells #[vu, vh] 36)))
  have HM1 := Lib.hid (more_trans (more_alloc w (.cells #[vu, vh] 36)) hm1)
  clear hm1 HAW
  obtain ⟨PB, HPB⟩ : ∃ PB, Hid (PB = w.heap.size) := ⟨_, Lib.hid rfl⟩
  have HP := Lib.hid (show w1.heap[PB]? = some (.cells #[vu, vh] 36) by rw [HPB.out]; exact HP.out)
  rw [← HPB.out]
  go_wp2_with fail
  obtain ⟨vs0, hv1, hv2, hv3⟩ := HI.out.row
  refine (few_own l0 _ w1 HI.out.len HI.out.each w vs0 ⟨hv1, hv3⟩ (hv2.below HM1.out.below)).mono ?_
  rintro e w2 ⟨⟨v2, vs, rfl, hcv, ho2⟩, hb2⟩
  have HOK := Lib.hid (fewL_ok HI.out.ok)
  have HLN := Lib.hid (fewL_len l0)
  have HCV := Lib.hid hcv
  have HROW := Lib.hid ((Row.of_owns ho2).mono (S' := anyB) (fun _ _ => trivial) (fun _ _ _ _ h => h))
  have HNIL := Lib.hid (owns_nil ho2)
  have HONE := Lib.hid hcv.one
  have HMS := Lib.hid (more_trans HM1.out (more_of hb2))
  have HP2 := Lib.hid (((more_of hb2).block (blk_lt HP.out)).trans HP.out)
  have HM := Lib.hid (show fewL [c] = [c.cut] from rfl)
  have HVL := Lib.hid (show vs.length ≤ 8 by rw [hcv.1]; exact fewL_len l0)
  have HVE := Lib.hid hcv.1
  clear hcv ho2 hb2 hv1 hv2 hv3 HM1 HP
  generalize fewL l0 = L at *
  have HROW' := Lib.hid (show Row anyB w2 2 L.length v2 (flatC pC vs) by rw [← HVE.out]; exact HROW.out)
  obtain ⟨a2, cap2, rfl, _⟩ := HROW'.out.shape
  have HCM := Lib.hid (show c.cut.Ok from fewL_ok (l := [c]) (fun d hd => by rw [List.mem_singleton] at hd; subst hd; exact ⟨HX.out.ku, HX.out.mh⟩) c.cut (by rw [HM.out]; simp))
  go_upto_region 4 with (fail)
  go_cut [5] (fun s5 wx => ∃ s : List Shr, Hid (IsShares (L ++ [c.cut]) (s.map shN)) ∧ Hid (More w2 wx) ∧ Hid (Row anyB wx 6 s.length s5 (flatC sC s)))
  case first =>
    have HLA := Lib.hid (show 0 + vs.length ≤ maxLen ∧ (0 + vs.length) * 48 ≤ 140737488355328 from ⟨by unfold maxLen; have := HVL.out; omega, by have := HVL.out; omega⟩)
    have HML := Lib.hid (show ∀ us : List (Value × Value), CVs w [c.cut] us → vs.length + us.length ≤ maxLen ∧ (vs.length + us.length) * 48 ≤ 140737488355328 from fun us hus => by have h1 := hus.1; have h2 := HVL.out; simp at h1; exact ⟨by unfold maxLen; omega, by omega⟩)
    have HFEW := Lib.hid (show ∀ (W : World) (B : Nat), W.heap[B]? = some (.cells #[vu, vh] 36) → Calls Try.prog 20 #[.slice (some ⟨B, 0, none⟩) 1 1] W fun e w' => (∃ v' us, e = .returned v' ∧ CVs w [c.cut] us ∧ w'.ownsRow W.heap.size 36 2 v' us.length (flatC pC us)) ∧ Below W.heap.size W w' from fun W B hB =>
      few_own [c] _ W (by unfold maxLen; simp) (fun d hd => by rw [List.mem_singleton] at hd; subst hd; exact ⟨HX.out.lu, HX.out.lh⟩) w [(vu, vh)] ((CVs.nil w).push HX.out.u HX.out.h (fun n k => ⟨HX.out.nu n k, HX.out.nh n k⟩)) (row_blk1 pC_len [(vu, vh)] hB rfl))
    have HLM := Lib.hid (show (L ++ [c.cut]).length ≤ 1000 by rw [List.length_append]; have := HLN.out; simp; omega)
    have HLM4 := Lib.hid (show (L ++ [c.cut]).length ≤ 400 by rw [List.length_append]; have := HLN.out; simp; omega)
    have HOKLM := Lib.hid (show ∀ d ∈ L ++ [c.cut], d.Ok from fun d hd => by
      rcases List.mem_append.1 hd with h | h
      · exact HOK.out d h
      · rw [List.mem_singleton] at h; subst h; exact HCM.out)
    have HW01 := HMS
    have HL0 := Lib.hid (more_drew w2)
    have HK := Lib.hid (show ∀ W, More w2 W → W.cell? ⟨PB, 0, none⟩ = some vu ∧ W.cell? ⟨PB, 1, none⟩ = some vh from fun W h => ⟨h.cell (cell_of_blk HP2.out rfl), h.cell (cell_of_blk HP2.out rfl)⟩)
    refine wp_region_inv0 (fun iA il ia W => ∃ (b0 b1 b2 b3 b4 b5 b6 b7 b8 b9 : Bool) (x15 x16 x17 x18 x19 x20 x21 x22 x23 x5 : Value), il = #[b0, b1, b2, b3, b4, b5, b6, b7, b8, b9] ∧ ia = ((((((((((iA.put (some 15) x15).put (some 16) x16).put (some 17) x17).put (some 18) x18).put (some 19) x19).put (some 20) x20).put (some 21) x21).put (some 22) x22).put (some 23) x23).put (some 5) x5) ∧ InvG w w2 L [c.cut] vs (.slice a2 L.length cap2) vu vh b0 b1 b2 b3 b4 b5 b6 b7 b8 b9 x15 x16 x17 x18 x19 x20 x21 x22 x23 x5 W) (by kernel_rfl) (by kernel_rfl) ?size ?start ⟨?op0, ?op1, ?op2, ?op3, ?op4, ?op5, ?op6, ?op7, ?op8, ?op9, trivial⟩ ?last
    case size =>
      intro _ _ _ h
      obtain ⟨b0, b1, b2, b3, b4, b5, b6, b7, b8, b9, x15, x16, x17, x18, x19, x20, x21, x22, x23, x5, rfl, rfl, _⟩ := h
      rfl
    case start =>
      exact ⟨false, false, false, false, false, false, false, false, false, false, _, _, _, _, _, _, _, _, _, _, rfl, (put_back (put_back (put_back (put_back (put_back (put_back (put_back (put_back (put_back (put_back rfl)))))))))), ⟨HL0, by simp, by simp, by simp, by simp, by simp, by simp, by simp, by simp, by simp, by simp, by simp, by simp, by simp, by simp, by simp, by simp, by simp⟩⟩
    case op0 =>
      refine InvOp.pass rfl fun il ia W h hl hd K hK0 => ?_
      obtain ⟨b0, b1, b2, b3, b4, b5, b6, b7, b8, b9, x15, x16, x17, x18, x19, x20, x21, x22, x23, x5, rfl, rfl, hJ⟩ := h
      have hb : b0 = false := hl
      subst hb
      clear hl
      have hK := fun (x15' x16' x17' x18' x19' x20' x21' x22' x23' x5' : Value) (W' : World) h => hK0 _ W' ⟨true, b1, b2, b3, b4, b5, b6, b7, b8, b9, x15', x16', x17', x18', x19', x20', x21', x22', x23', x5', rfl, rfl, h⟩
      clear hK0 hd
      simp only [Act.put, List.setIfInBounds_toArray, List.set_cons_succ, List.set_cons_zero] at hK ⊢
      obtain rfl : b2 = false := by cases b2 with
        | false => rfl
        | true => exact absurd (hJ.d2_0 rfl) (by simp)
      obtain rfl : b5 = false := by cases b5 with
        | false => rfl
        | true => exact absurd (hJ.d5_2 rfl) (by simp)
      obtain rfl : b6 = false := by cases b6 with
        | false => rfl
        | true => exact absurd (hJ.d6_5 rfl) (by simp)
      obtain rfl : b7 = false := by cases b7 with
        | false => rfl
        | true => exact absurd (hJ.d7_6 rfl) (by simp)
      obtain rfl : b8 = false := by cases b8 with
        | false => rfl
        | true => exact absurd (hJ.d8_7 rfl) (by simp)
      obtain rfl : b9 = false := by cases b9 with
        | false => rfl
        | true => exact absurd (hJ.d9_8 rfl) (by simp)
      go_simp
      exact hK _ _ _ _ _ _ _ _ _ _ _ { hJ with g0 := fun _ _ => ⟨W.heap.size, rfl, hJ.hl.out.size, alloc_last _ _⟩, d2_0 := fun _ => rfl, g2 := fun h => (by cases h), g5 := fun h => (by cases h), g6 := fun h => (by cases h), g7 := fun h => (by cases h), g8 := fun h => (by cases h), g9 := fun h => (by cases h), hl := Lib.hid (more_trans hJ.hl.out (more_alloc W _)), g4 := fun hb => fun h' => (by obtain ⟨B, e, h2⟩ := (hJ.g4 hb) h'; exact ⟨B, e, ((more_alloc W _).block (blk_lt h2)).trans h2⟩) }
    case op1 =>
      refine InvOp.pass rfl fun il ia W h hl hd K hK0 => ?_
      obtain ⟨b0, b1, b2, b3, b4, b5, b6, b7, b8, b9, x15, x16, x17, x18, x19, x20, x21, x22, x23, x5, rfl, rfl, hJ⟩ := h
      have hb : b1 = false := hl
      subst hb
      clear hl
      have hK := fun (x15' x16' x17' x18' x19' x20' x21' x22' x23' x5' : Value) (W' : World) h => hK0 _ W' ⟨b0, true, b2, b3, b4, b5, b6, b7, b8, b9, x15', x16', x17', x18', x19', x20', x21', x22', x23', x5', rfl, rfl, h⟩
      clear hK0 hd
      simp only [Act.put, List.setIfInBounds_toArray, List.set_cons_succ, List.set_cons_zero] at hK ⊢
      go_simp
      exact hK _ _ _ _ _ _ _ _ _ _ _ { hJ with g1 := fun _ => rfl }
    case op2 =>
      refine InvOp.pass rfl fun il ia W h hl hd K hK0 => ?_
      obtain ⟨b0, b1, b2, b3, b4, b5, b6, b7, b8, b9, x15, x16, x17, x18, x19, x20, x21, x22, x23, x5, rfl, rfl, hJ⟩ := h
      have hb : b2 = false := hl
      subst hb
      clear hl
      have hb : b0 = true := hd _ (.head _) rfl
      subst hb
      have hb : b1 = true := hd _ (.tail _ (.head _)) rfl
      subst hb
      have hK := fun (x15' x16' x17' x18' x19' x20' x21' x22' x23' x5' : Value) (W' : World) h => hK0 _ W' ⟨true, true, true, b3, b4, b5, b6, b7, b8, b9, x15', x16', x17', x18', x19', x20', x21', x22', x23', x5', rfl, rfl, h⟩
      clear hK0 hd
      simp only [Act.put, List.setIfInBounds_toArray, List.set_cons_succ, List.set_cons_zero] at hK ⊢
      obtain rfl := hJ.g1 rfl
      obtain rfl : b5 = false := by cases b5 with
        | false => rfl
        | true => exact absurd (hJ.d5_2 rfl) (by simp)
      obtain rfl : b6 = false := by cases b6 with
        | false => rfl
        | true => exact absurd (hJ.d6_5 rfl) (by simp)
      obtain rfl : b7 = false := by cases b7 with
        | false => rfl
        | true => exact absurd (hJ.d7_6 rfl) (by simp)
      obtain rfl : b8 = false := by cases b8 with
        | false => rfl
        | true => exact absurd (hJ.d8_7 rfl) (by simp)
      obtain rfl : b9 = false := by cases b9 with
        | false => rfl
        | true => exact absurd (hJ.d9_8 rfl) (by simp)
      obtain ⟨B, rfl, hB, hblk⟩ := hJ.g0 rfl rfl
      have HO := Lib.hid (show W.ownsRow w2.heap.size 36 2 (.slice (some ⟨B, 0, none⟩) 0 0) 0 [] from ⟨by simp, Or.inr ⟨B, 0, #[], rfl, hB, hblk, Nat.le_refl _, by unfold maxLen; omega, by simp, by simp⟩⟩)
      refine wp_append_row _ _ _ rfl w2.heap.size 36 i0 _ 2 48 Try.underlying22 hi0 hz0 hz1 hz2 rfl (by omega) _ 0 [] rfl HO.out _ vs.length (flatC pC vs) rfl (HROW.out.below hJ.hl.out.below) HNIL.out HONE.out HLA.out.1 HLA.out.2 hJ.hl.out.size ?_
      intro v6 w6 hown6 hgrow6
      simp only [Act.put, List.setIfInBounds_toArray, List.set_cons_succ, List.set_cons_zero]
      exact hK _ _ _ _ _ _ _ _ _ _ _ { hJ with hl := Lib.hid (moreGrown hJ.hl.out hgrow6 (fun b e => (by cases e; exact hB))), g0 := fun _ h => absurd h (by simp), g2 := fun _ _ => Lib.hid (by simpa using hown6), g4 := fun hb h' => (by obtain ⟨B4, e, h4⟩ := hJ.g4 hb h'; exact ⟨B4, e, (hgrow6.block B4 (blk_lt h4) (fun e' => by cases e'; rw [h4] at hblk; simp at hblk)).trans h4⟩), d2_0 := fun _ => rfl, d5_2 := fun _ => rfl, g5 := fun h => (by cases h), g6 := fun h => (by cases h), g7 := fun h => (by cases h), g8 := fun h => (by cases h), g9 := fun h => (by cases h) }
    case op3 =>
      refine InvOp.pass rfl fun il ia W h hl hd K hK0 => ?_
      obtain ⟨b0, b1, b2, b3, b4, b5, b6, b7, b8, b9, x15, x16, x17, x18, x19, x20, x21, x22, x23, x5, rfl, rfl, hJ⟩ := h
      have hb : b3 = false := hl
      subst hb
      clear hl
      have hK := fun (x15' x16' x17' x18' x19' x20' x21' x22' x23' x5' : Value) (W' : World) h => hK0 _ W' ⟨b0, b1, b2, true, b4, b5, b6, b7, b8, b9, x15', x16', x17', x18', x19', x20', x21', x22', x23', x5', rfl, rfl, h⟩
      clear hK0 hd
      simp only [Act.put, List.setIfInBounds_toArray, List.set_cons_succ, List.set_cons_zero] at hK ⊢
      obtain ⟨k0, k1⟩ := HK.out _ hJ.hl.out
      go_simp
      exact hK _ _ _ _ _ _ _ _ _ _ _ { hJ with g3 := fun _ => rfl }
    case op4 =>
      refine InvOp.pass rfl fun il ia W h hl hd K hK0 => ?_
      obtain ⟨b0, b1, b2, b3, b4, b5, b6, b7, b8, b9, x15, x16, x17, x18, x19, x20, x21, x22, x23, x5, rfl, rfl, hJ⟩ := h
      have hb : b4 = false := hl
      subst hb
      clear hl
      have hb : b3 = true := hd _ (.head _) rfl
      subst hb
      have hK := fun (x15' x16' x17' x18' x19' x20' x21' x22' x23' x5' : Value) (W' : World) h => hK0 _ W' ⟨b0, b1, b2, true, true, b5, b6, b7, b8, b9, x15', x16', x17', x18', x19', x20', x21', x22', x23', x5', rfl, rfl, h⟩
      clear hK0 hd
      simp only [Act.put, List.setIfInBounds_toArray, List.set_cons_succ, List.set_cons_zero] at hK ⊢
      obtain rfl := hJ.g3 rfl
      obtain rfl : b5 = false := by cases b5 with
        | false => rfl
        | true => exact absurd (hJ.d5_4 rfl) (by simp)
      obtain rfl : b6 = false := by cases b6 with
        | false => rfl
        | true => exact absurd (hJ.d6_5 rfl) (by simp)
      obtain rfl : b7 = false := by cases b7 with
        | false => rfl
        | true => exact absurd (hJ.d7_6 rfl) (by simp)
      obtain rfl : b8 = false := by cases b8 with
        | false => rfl
        | true => exact absurd (hJ.d8_7 rfl) (by simp)
      obtain rfl : b9 = false := by cases b9 with
        | false => rfl
        | true => exact absurd (hJ.d9_8 rfl) (by simp)
      go_simp
      exact hK _ _ _ _ _ _ _ _ _ _ _ { hJ with g4 := fun _ _ => ⟨W.heap.size, rfl, alloc_last _ _⟩, d5_4 := fun _ => rfl, g5 := fun h => (by cases h), g6 := fun h => (by cases h), g7 := fun h => (by cases h), g8 := fun h => (by cases h), g9 := fun h => (by cases h), hl := Lib.hid (more_trans hJ.hl.out (more_alloc W _)), g0 := fun hb => fun h' => (by obtain ⟨B, e, h1, h2⟩ := (hJ.g0 hb) h'; exact ⟨B, e, h1, ((more_alloc W _).block (blk_lt h2)).trans h2⟩), g2 := fun hb => fun h' => Lib.hid (owns_keep ((hJ.g2 hb) h').out (fun z hz => (more_alloc W _).block ((owns_shape ((hJ.g2 hb) h').out).choose_spec.choose_spec.2 z hz).2)) }
    case op5 =>
      refine InvOp.pass rfl fun il ia W h hl hd K hK0 => ?_
      obtain ⟨b0, b1, b2, b3, b4, b5, b6, b7, b8, b9, x15, x16, x17, x18, x19, x20, x21, x22, x23, x5, rfl, rfl, hJ⟩ := h
      have hb : b5 = false := hl
      subst hb
      clear hl
      have hb : b4 = true := hd _ (.head _) rfl
      subst hb
      have hb : b2 = true := hd _ (.tail _ (.head _)) rfl
      subst hb
      have hK := fun (x15' x16' x17' x18' x19' x20' x21' x22' x23' x5' : Value) (W' : World) h => hK0 _ W' ⟨b0, b1, true, b3, true, true, b6, b7, b8, b9, x15', x16', x17', x18', x19', x20', x21', x22', x23', x5', rfl, rfl, h⟩
      clear hK0 hd
      simp only [Act.put, List.setIfInBounds_toArray, List.set_cons_succ, List.set_cons_zero] at hK ⊢
      obtain rfl : b6 = false := by cases b6 with
        | false => rfl
        | true => exact absurd (hJ.d6_5 rfl) (by simp)
      obtain rfl : b7 = false := by cases b7 with
        | false => rfl
        | true => exact absurd (hJ.d7_6 rfl) (by simp)
      obtain rfl : b8 = false := by cases b8 with
        | false => rfl
        | true => exact absurd (hJ.d8_7 rfl) (by simp)
      obtain rfl : b9 = false := by cases b9 with
        | false => rfl
        | true => exact absurd (hJ.d9_8 rfl) (by simp)
      obtain ⟨B4, rfl, h4⟩ := hJ.g4 rfl rfl
      go_simp
      go_at_call 20
      refine (HFEW.out W B4 h4).mono ?_
      rintro e w6 ⟨⟨v6, us, rfl, hus, ho6⟩, hb6⟩
      have hm6 := more_of hb6
      go_simp
      exact hK _ _ _ _ _ _ _ _ _ _ _ { hJ with g4 := fun _ h => absurd h (by simp), g5 := fun _ _ => ⟨us, Lib.hid hus, Lib.hid ((Row.of_owns ho6).mono (fun _ _ => trivial) (fun _ _ _ _ h => h)), Lib.hid (owns_nil ho6)⟩, d5_2 := fun _ => rfl, d5_4 := fun _ => rfl, d6_5 := fun _ => rfl, g6 := fun h => (by cases h), g7 := fun h => (by cases h), g8 := fun h => (by cases h), g9 := fun h => (by cases h), hl := Lib.hid (more_trans hJ.hl.out hm6), g0 := fun hb => fun h' => (by obtain ⟨B, e, h1, h2⟩ := (hJ.g0 hb) h'; exact ⟨B, e, h1, (hm6.block (blk_lt h2)).trans h2⟩), g2 := fun hb => fun h' => Lib.hid (owns_keep ((hJ.g2 hb) h').out (fun z hz => hm6.block ((owns_shape ((hJ.g2 hb) h').out).choose_spec.choose_spec.2 z hz).2)) }
    case op6 =>
      refine InvOp.pass rfl fun il ia W h hl hd K hK0 => ?_
      obtain ⟨b0, b1, b2, b3, b4, b5, b6, b7, b8, b9, x15, x16, x17, x18, x19, x20, x21, x22, x23, x5, rfl, rfl, hJ⟩ := h
      have hb : b6 = false := hl
      subst hb
      clear hl
      have hb : b2 = true := hd _ (.head _) rfl
      subst hb
      have hb : b5 = true := hd _ (.tail _ (.head _)) rfl
      subst hb
      have hK := fun (x15' x16' x17' x18' x19' x20' x21' x22' x23' x5' : Value) (W' : World) h => hK0 _ W' ⟨b0, b1, true, b3, b4, true, true, b7, b8, b9, x15', x16', x17', x18', x19', x20', x21', x22', x23', x5', rfl, rfl, h⟩
      clear hK0 hd
      simp only [Act.put, List.setIfInBounds_toArray, List.set_cons_succ, List.set_cons_zero] at hK ⊢
      obtain rfl : b7 = false := by cases b7 with
        | false => rfl
        | true => exact absurd (hJ.d7_6 rfl) (by simp)
      obtain rfl : b8 = false := by cases b8 with
        | false => rfl
        | true => exact absurd (hJ.d8_7 rfl) (by simp)
      obtain rfl : b9 = false := by cases b9 with
        | false => rfl
        | true => exact absurd (hJ.d9_8 rfl) (by simp)
      obtain ⟨us, hus, hru, hnu⟩ := hJ.g5 rfl rfl
      have HO := hJ.g2 rfl rfl
      have HUL := Lib.hid (HML.out us hus.out)
      refine wp_append_row _ _ _ rfl w2.heap.size 36 i0 _ 2 48 Try.underlying22 hi0 hz0 hz1 hz2 rfl (by omega) _ vs.length (flatC pC vs) rfl HO.out _ us.length (flatC pC us) rfl hru.out hnu.out hus.out.one HUL.out.1 HUL.out.2 hJ.hl.out.size ?_
      intro v6 w6 hown6 hgrow6
      simp only [Act.put, List.setIfInBounds_toArray, List.set_cons_succ, List.set_cons_zero]
      have hm6 := moreGrown hJ.hl.out hgrow6 (fun b e => ((owns_shape HO.out).choose_spec.choose_spec.2 b e).1)
      exact hK _ _ _ _ _ _ _ _ _ _ _ { hJ with hl := Lib.hid hm6, g0 := fun _ h => absurd h (by simp), g2 := fun _ h => absurd h (by simp), g4 := fun _ h => absurd h (by simp), g5 := fun _ h => absurd h (by simp), g6 := fun _ _ => Lib.hid (((HCV.out.append hus.out).below (more_trans HW01.out hm6).below).row (by rw [List.length_append, flatC_append]; exact hown6)), d6_5 := fun _ => rfl, d7_6 := fun _ => rfl, g7 := fun h => (by cases h), g8 := fun h => (by cases h), g9 := fun h => (by cases h) }
    case op7 =>
      refine InvOp.pass rfl fun il ia W h hl hd K hK0 => ?_
      obtain ⟨b0, b1, b2, b3, b4, b5, b6, b7, b8, b9, x15, x16, x17, x18, x19, x20, x21, x22, x23, x5, rfl, rfl, hJ⟩ := h
      have hb : b7 = false := hl
      subst hb
      clear hl
      have hb : b6 = true := hd _ (.head _) rfl
      subst hb
      have hK := fun (x15' x16' x17' x18' x19' x20' x21' x22' x23' x5' : Value) (W' : World) h => hK0 _ W' ⟨b0, b1, b2, b3, b4, b5, true, true, b8, b9, x15', x16', x17', x18', x19', x20', x21', x22', x23', x5', rfl, rfl, h⟩
      clear hK0 hd
      simp only [Act.put, List.setIfInBounds_toArray, List.set_cons_succ, List.set_cons_zero] at hK ⊢
      obtain rfl : b8 = false := by cases b8 with
        | false => rfl
        | true => exact absurd (hJ.d8_7 rfl) (by simp)
      obtain rfl : b9 = false := by cases b9 with
        | false => rfl
        | true => exact absurd (hJ.d9_8 rfl) (by simp)
      have hcr := hJ.g6 rfl rfl
      go_simp
      go_at_call 21
      refine (causes_any (L ++ [c.cut]) _ W HLM.out hcr.out).mono ?_
      rintro e w6 ⟨⟨v6, rfl, hc6⟩, hb6⟩
      have hm6 := more_of hb6
      go_simp
      exact hK _ _ _ _ _ _ _ _ _ _ _ { hJ with g6 := fun _ h => absurd h (by simp), g7 := fun _ _ => Lib.hid hc6, d7_6 := fun _ => rfl, d8_7 := fun _ => rfl, g8 := fun h => (by cases h), g9 := fun h => (by cases h), hl := Lib.hid (more_trans hJ.hl.out hm6), g0 := fun hb => fun h' => (by obtain ⟨B, e, h1, h2⟩ := (hJ.g0 hb) h'; exact ⟨B, e, h1, (hm6.block (blk_lt h2)).trans h2⟩), g2 := fun hb => fun h' => Lib.hid (owns_keep ((hJ.g2 hb) h').out (fun z hz => hm6.block ((owns_shape ((hJ.g2 hb) h').out).choose_spec.choose_spec.2 z hz).2)), g4 := fun hb => fun h' => (by obtain ⟨B, e, h2⟩ := (hJ.g4 hb) h'; exact ⟨B, e, (hm6.block (blk_lt h2)).trans h2⟩), g5 := fun hb => fun h' => (by obtain ⟨us, h1, h2, h3⟩ := (hJ.g5 hb) h'; exact ⟨us, h1, Lib.hid (h2.out.below hm6.below), h3⟩) }
    case op8 =>
      refine InvOp.pass rfl fun il ia W h hl hd K hK0 => ?_
      obtain ⟨b0, b1, b2, b3, b4, b5, b6, b7, b8, b9, x15, x16, x17, x18, x19, x20, x21, x22, x23, x5, rfl, rfl, hJ⟩ := h
      have hb : b8 = false := hl
      subst hb
      clear hl
      have hb : b7 = true := hd _ (.head _) rfl
      subst hb
      have hK := fun (x15' x16' x17' x18' x19' x20' x21' x22' x23' x5' : Value) (W' : World) h => hK0 _ W' ⟨b0, b1, b2, b3, b4, b5, b6, true, true, b9, x15', x16', x17', x18', x19', x20', x21', x22', x23', x5', rfl, rfl, h⟩
      clear hK0 hd
      simp only [Act.put, List.setIfInBounds_toArray, List.set_cons_succ, List.set_cons_zero] at hK ⊢
      obtain rfl : b9 = false := by cases b9 with
        | false => rfl
        | true => exact absurd (hJ.d9_8 rfl) (by simp)
      have hcr := hJ.g7 rfl rfl
      go_simp
      go_at_call 26
      refine (degrees_any (L ++ [c.cut]) _ W HLM4.out HOKLM.out hcr.out).mono ?_
      rintro e w6 ⟨s6, v6, his6, rfl, ho6, hb6⟩
      have hm6 := more_of hb6
      go_simp
      exact hK _ _ _ _ _ _ _ _ _ _ _ { hJ with g7 := fun _ h => absurd h (by simp), g8 := fun _ => ⟨s6, Lib.hid his6, Lib.hid ((Row.of_owns ho6).mono (fun _ _ => trivial) (fun _ _ _ _ h => h))⟩, d8_7 := fun _ => rfl, d9_8 := fun _ => rfl, g9 := fun h => (by cases h), hl := Lib.hid (more_trans hJ.hl.out hm6), g0 := fun hb => fun h' => (by obtain ⟨B, e, h1, h2⟩ := (hJ.g0 hb) h'; exact ⟨B, e, h1, (hm6.block (blk_lt h2)).trans h2⟩), g2 := fun hb => fun h' => Lib.hid (owns_keep ((hJ.g2 hb) h').out (fun z hz => hm6.block ((owns_shape ((hJ.g2 hb) h').out).choose_spec.choose_spec.2 z hz).2)), g4 := fun hb => fun h' => (by obtain ⟨B, e, h2⟩ := (hJ.g4 hb) h'; exact ⟨B, e, (hm6.block (blk_lt h2)).trans h2⟩), g5 := fun hb => fun h' => (by obtain ⟨us, h1, h2, h3⟩ := (hJ.g5 hb) h'; exact ⟨us, h1, Lib.hid (h2.out.below hm6.below), h3⟩), g6 := fun hb => fun h' => Lib.hid (((hJ.g6 hb) h').out.more hm6) }
    case op9 =>
      refine InvOp.pass rfl fun il ia W h hl hd K hK0 => ?_
      obtain ⟨b0, b1, b2, b3, b4, b5, b6, b7, b8, b9, x15, x16, x17, x18, x19, x20, x21, x22, x23, x5, rfl, rfl, hJ⟩ := h
      have hb : b9 = false := hl
      subst hb
      clear hl
      have hb : b8 = true := hd _ (.head _) rfl
      subst hb
      have hb : b0 = true := hd _ (.tail _ (.tail _ (.head _))) rfl
      subst hb
      have hb : b1 = true := hd _ (.tail _ (.tail _ (.tail _ (.head _)))) rfl
      subst hb
      have hb : b2 = true := hd _ (.tail _ (.tail _ (.tail _ (.tail _ (.head _))))) rfl
      subst hb
      have hb : b3 = true := hd _ (.tail _ (.tail _ (.tail _ (.tail _ (.tail _ (.head _)))))) rfl
      subst hb
      have hb : b4 = true := hd _ (.tail _ (.tail _ (.tail _ (.tail _ (.tail _ (.tail _ (.head _))))))) rfl
      subst hb
      have hb : b5 = true := hd _ (.tail _ (.tail _ (.tail _ (.tail _ (.tail _ (.tail _ (.tail _ (.head _)))))))) rfl
      subst hb
      have hb : b6 = true := hd _ (.tail _ (.tail _ (.tail _ (.tail _ (.tail _ (.tail _ (.tail _ (.tail _ (.head _))))))))) rfl
      subst hb
      have hb : b7 = true := hd _ (.tail _ (.tail _ (.tail _ (.tail _ (.tail _ (.tail _ (.tail _ (.tail _ (.tail _ (.head _)))))))))) rfl
      subst hb
      have hK := fun (x15' x16' x17' x18' x19' x20' x21' x22' x23' x5' : Value) (W' : World) h => hK0 _ W' ⟨true, true, true, true, true, true, true, true, true, true, x15', x16', x17', x18', x19', x20', x21', x22', x23', x5', rfl, rfl, h⟩
      clear hK0 hd
      simp only [Act.put, List.setIfInBounds_toArray, List.set_cons_succ, List.set_cons_zero] at hK ⊢
      obtain rfl := hJ.g1 rfl
      obtain rfl := hJ.g3 rfl
      go_simp
      exact hK _ _ _ _ _ _ _ _ _ _ _ { hJ with g9 := fun _ => hJ.g8 rfl, d9_8 := fun _ => rfl }
    case last =>
      intro il ia W h hall
      obtain ⟨b0, b1, b2, b3, b4, b5, b6, b7, b8, b9, x15, x16, x17, x18, x19, x20, x21, x22, x23, x5, rfl, rfl, hJ⟩ := h
      simp only [Act.put, List.setIfInBounds_toArray, List.set_cons_succ, List.set_cons_zero]
      have hb : b0 = true := hall 0 (Nat.le_of_ble_eq_true rfl)
      subst hb
      have hb : b1 = true := hall 1 (Nat.le_of_ble_eq_true rfl)
      subst hb
      have hb : b2 = true := hall 2 (Nat.le_of_ble_eq_true rfl)
      subst hb
      have hb : b3 = true := hall 3 (Nat.le_of_ble_eq_true rfl)
      subst hb
      have hb : b4 = true := hall 4 (Nat.le_of_ble_eq_true rfl)
      subst hb
      have hb : b5 = true := hall 5 (Nat.le_of_ble_eq_true rfl)
      subst hb
      have hb : b6 = true := hall 6 (Nat.le_of_ble_eq_true rfl)
      subst hb
      have hb : b7 = true := hall 7 (Nat.le_of_ble_eq_true rfl)
      subst hb
      have hb : b8 = true := hall 8 (Nat.le_of_ble_eq_true rfl)
      subst hb
      have hb : b9 = true := hall 9 (Nat.le_of_ble_eq_true rfl)
      subst hb
      clear hall
      obtain ⟨s, h1, h2⟩ := hJ.g9 rfl
      go_wp2_with fail
      go_meet
      exact ⟨s, h1, hJ.hl, h2⟩
  case rest =>
    obtain ⟨t, HT, HMW, HTR⟩ := hcut
    obtain ⟨ta, tcap, rfl, _⟩ := HTR.out.shape
    have HKL := Lib.hid (show (keysL L).length ≤ 3200 from keysL_bound HOK.out HLN.out)
    have HTL := Lib.hid (show t.length ≤ 4000 from by
      have h1 := shares_len HT.out
      have h2 : keysL (L ++ [c.cut]) = keysL L ++ c.cut.undo := by unfold keysL; simp
      rw [h2, List.length_append] at h1
      have := HKL.out
      have := HCM.out.lu
      omega)
    have HCR := Lib.hid (show CRow wc L (.slice a2 L.length cap2) from ⟨vs, HCV.out.1, HROW'.out.below HMW.out.below, (HCV.out.below (more_trans HMS.out HMW.out).below).2⟩)
    go_wp2_with fail
    refine (causes_any L _ wc (by have := HLN.out; omega) HCR.out).mono ?_
    rintro e w5 ⟨⟨v5, rfl, hc5⟩, hb5⟩
    have HC5 := Lib.hid hc5
    have HM5 := Lib.hid (more_of hb5)
    clear hc5 hb5
    go_wp2_with fail
    refine (degrees_any L _ w5 (by have := HLN.out; omega) HOK.out HC5.out).mono ?_
    rintro e w6 ⟨s, sv, his, rfl, ho6, hb6⟩
    have HS := Lib.hid his
    have HSR := Lib.hid ((Row.of_owns ho6).mono (S' := anyB) (fun _ _ => trivial) (fun _ _ _ _ h => h))
    have HM6 := Lib.hid (more_trans HM5.out (more_of hb6))
    have HSL := Lib.hid (show s.length ≤ 4000 by have h1 := shares_len his; have := HKL.out; omega)
    obtain ⟨sa, scap, rfl, _⟩ := HSR.out.shape
    have HTR6 := Lib.hid (HTR.out.below HM6.out.below)
    have HM0 := Lib.hid (more_trans HMS.out (more_trans HMW.out HM6.out))
    clear his ho6 hb6
    have hsl := HSL.out
    have htl := HTL.out
    go_wp2_with fail
    go_loopw [28] (fun i wr => ∃ j : Nat, j ≤ s.length ∧ i = .int .i64 j ∧ Hid (More w6 wr)) (fun i _ => s.length - (intOf i).toNat)
    case atStart => exact ⟨0, Nat.zero_le _, rfl, Lib.hid (World.grownBy.refl _ _)⟩
    case round =>
      obtain ⟨j, hj, rfl, HMr⟩ := hrel
      by_cases hlt : j < s.length
      · obtain ⟨b, off, rfl, _, hc⟩ := HSR.out.atC sC_len hlt
        have HIN := Lib.hid (grows_in HS.out HT.out (List.getElem_mem hlt))
        have HGL := Lib.hid (fun y (hy : y ∈ t) e => grows_le HS.out HT.out (List.getElem_mem hlt) hy e)
        generalize s[j] = x at *
        have g0 := HMr.out.cell (hc 0 (.int .u8 x.1.kind) rfl)
        have g1 := HMr.out.cell (hc 1 (.int .i64 x.1.a) rfl)
        have g2 := HMr.out.cell (hc 2 (.int .i64 x.1.b) rfl)
        have g3 := HMr.out.cell (hc 3 (.int .i64 x.1.n) rfl)
        have g4 := HMr.out.cell (hc 4 (.int .i64 (degR x.2.val).1) rfl)
        have g5 := HMr.out.cell (hc 5 (.int .i64 (degR x.2.val).2) rfl)
        rw [Nat.add_zero] at g0
        clear hc
        have hbg := cell_lt g0
        go_wp2_with fail
        have HXB := Lib.hid (alloc_last wr (.cells #[.int .u8 x.1.kind, .int .i64 x.1.a, .int .i64 x.1.b, .int .i64 x.1.n, .int .i64 (degR x.2.val).1, .int .i64 (degR x.2.val).2] 50))
        have HM1 := Lib.hid (more_trans HMr.out (more_alloc wr (.cells #[.int .u8 x.1.kind, .int .i64 x.1.a, .int .i64 x.1.b, .int .i64 x.1.n, .int .i64 (degR x.2.val).1, .int .i64 (degR x.2.val).2] 50)))
        clear g0 g1 g2 g3 g4 g5 hbg
        generalize wr.alloc (.cells #[.int .u8 x.1.kind, .int .i64 x.1.a, .int .i64 x.1.b, .int .i64 x.1.n, .int .i64 (degR x.2.val).1, .int .i64 (degR x.2.val).2] 50) = w7 at *
        generalize wr.heap.size = XB at *
        obtain ⟨wo, rfl⟩ : ∃ wo : World, wo = wr := ⟨_, rfl⟩
        go_loopw [8, 34] (fun fl i wx => ∃ k : Nat, k ≤ t.length ∧ i = .int .i64 k ∧ fl = .bool ((t.take k).any fun y => decide (y.1 = x.1)) ∧ Hid (More w6 wx) ∧ Hid (wx.heap[XB]? = some (.cells #[.int .u8 x.1.kind, .int .i64 x.1.a, .int .i64 x.1.b, .int .i64 x.1.n, .int .i64 (degR x.2.val).1, .int .i64 (degR x.2.val).2] 50))) (fun _ i _ => t.length - (intOf i).toNat)
        case atStart => exact ⟨0, Nat.zero_le _, rfl, by simp, HM1, HXB⟩
        case round =>
          obtain ⟨k, hk, rfl, rfl, HMy, HXy⟩ := hrel
          clear HM1 HXB
          by_cases hkl : k < t.length
          · obtain ⟨b2, off2, rfl, _, hc⟩ := HTR6.out.atC sC_len hkl
            have HYM := Lib.hid (List.getElem_mem hkl)
            have HTK := Lib.hid (show t.take (k + 1) = t.take k ++ [t[k]] from List.take_succ_eq_append_getElem hkl)
            generalize t[k] = y at *
            have e0 := HMy.out.cell (hc 0 (.int .u8 y.1.kind) rfl)
            have e1 := HMy.out.cell (hc 1 (.int .i64 y.1.a) rfl)
            have e2 := HMy.out.cell (hc 2 (.int .i64 y.1.b) rfl)
            have e3 := HMy.out.cell (hc 3 (.int .i64 y.1.n) rfl)
            have e4 := HMy.out.cell (hc 4 (.int .i64 (degR y.2.val).1) rfl)
            have e5 := HMy.out.cell (hc 5 (.int .i64 (degR y.2.val).2) rfl)
            rw [Nat.add_zero] at e0
            clear hc
            have hbg := cell_lt e0
            have x0 : wr.cell? ⟨XB, 0, none⟩ = some (.int .u8 x.1.kind) := cell_of_blk HXy.out rfl
            have x1 : wr.cell? ⟨XB, 1, none⟩ = some (.int .i64 x.1.a) := cell_of_blk HXy.out rfl
            have x2 : wr.cell? ⟨XB, 2, none⟩ = some (.int .i64 x.1.b) := cell_of_blk HXy.out rfl
            have x3 : wr.cell? ⟨XB, 3, none⟩ = some (.int .i64 x.1.n) := cell_of_blk HXy.out rfl
            have x4 : wr.cell? ⟨XB, 4, none⟩ = some (.int .i64 (degR x.2.val).1) := cell_of_blk HXy.out rfl
            have x5 : wr.cell? ⟨XB, 5, none⟩ = some (.int .i64 (degR x.2.val).2) := cell_of_blk HXy.out rfl
            have hxb := cell_lt x0
            have heq := fun W => run_eqK x.1 y.1 W
            obtain ⟨q, HQ⟩ : ∃ q, Hid (decide (x.1 = y.1) = q) := ⟨_, Lib.hid rfl⟩
            rw [HQ.out] at heq
            have HCMP := Lib.hid (show ∀ W, Calls Try.prog 30 #[.agg #[.int .i64 (degR x.2.val).1, .int .i64 (degR x.2.val).2], .agg #[.int .i64 (degR y.2.val).1, .int .i64 (degR y.2.val).2]] W fun e w' => e = .returned (.int .i64 (cmpR (degR x.2.val) (degR y.2.val))) ∧ Lay W w' from fun W => cmpR_any _ _ W (degR_ok (by have := x.2.isLt; omega)) (degR_ok (by have := y.2.isLt; omega)))
            have HNP := Lib.hid (fun e => HGL.out y HYM.out e)
            obtain ⟨r, HRR⟩ : ∃ r, Hid (cmpR (degR x.2.val) (degR y.2.val) = r) := ⟨_, Lib.hid rfl⟩
            rw [HRR.out] at HCMP HNP
            have HY := Lib.hid (alloc_last wr (.cells #[.int .u8 y.1.kind, .int .i64 y.1.a, .int .i64 y.1.b, .int .i64 y.1.n, .int .i64 (degR y.2.val).1, .int .i64 (degR y.2.val).2] 50))
            have HMO := Lib.hid (more_alloc wr (.cells #[.int .u8 y.1.kind, .int .i64 y.1.a, .int .i64 y.1.b, .int .i64 y.1.n, .int .i64 (degR y.2.val).1, .int .i64 (degR y.2.val).2] 50))
            have HX2 := Lib.hid ((HMO.out.block hxb).trans HXy.out)
            obtain ⟨fl, HFL⟩ : ∃ fl, Hid (((t.take k).any fun y => decide (y.1 = x.1)) = fl) := ⟨_, Lib.hid rfl⟩
            rw [HFL.out]
            have HNEXT := Lib.hid (show ((t.take (k + 1)).any fun y => decide (y.1 = x.1)) = (fl || q) by
              rw [HTK.out, List.any_append, HFL.out]
              have : decide (y.1 = x.1) = q := by rw [← HQ.out]; exact decide_eq_decide.2 eq_comm
              simp [this])
            cases q with
            | true =>
              have hr : r ≤ 0 := by
                have := HNP.out (by have := HQ.out; simpa [eq_comm] using this)
                simpa using this
              have t1 : decide (r ≤ 0) = true := by simp [hr]
              go_wp2_with fail
              refine (HCMP.out _).mono ?_
              rintro e w9 ⟨rfl, hl9⟩
              have HM9 := Lib.hid (more_trans HMy.out (more_trans HMO.out hl9.1))
              have HX9 := Lib.hid ((hl9.1.block (blk_lt HX2.out)).trans HX2.out)
              clear hl9 e0 e1 e2 e3 e4 e5 x0 x1 x2 x3 x4 x5 hbg hxb heq
              go_wp2_with fail
              go_roundw
              case rel => exact ⟨k + 1, by omega, by go_num, by rw [HNEXT.out, Bool.or_true], HM9, HX9⟩
              case measure => simp [intOf]; omega
            | false =>
              go_wp2_with fail
              go_roundw
              case rel => exact ⟨k + 1, by omega, by go_num, by rw [HNEXT.out, Bool.or_false], Lib.hid (more_trans HMy.out HMO.out), HX2⟩
              case measure => simp [intOf]; omega
          · obtain rfl : k = t.length := by omega
            have hany : ((t.take t.length).any fun y => decide (y.1 = x.1)) = true := by
              obtain ⟨y, hy, e⟩ := HIN.out
              rw [List.take_of_length_le (Nat.le_refl _), List.any_eq_true]
              exact ⟨y, hy, by simp [e]⟩
            rw [hany]
            clear hany
            go_wp2_with fail
            go_roundw
            case rel => exact ⟨j + 1, by omega, by go_num, HMy⟩
            case measure => simp [intOf]; omega
      · obtain rfl : j = s.length := by omega
        go_wp2_with fail
        go_ret
        exact ⟨rfl, (more_trans HM0.out HMr.out).below⟩
end Go.Proofs.Ytemeppfikpafbaa
