/- The walk of CertificateChecks (16). -/
import Derived.Test.YtemeppfikpafbaaOfG
import Derived.Test.YtemeppfikpafbaaAwkG
namespace Go.Proofs.Ytemeppfikpafbaa
open Go.RowKit
theorem raw_size (x : RawC) : x.cells.toArray.size = 12 := rfl
theorem info94 : (Try.prog.info? 94).map (·.size) = some 12 := by kernel_rfl
theorem wpList_load94 {ops : Array Oper} {rest : List Oper} {o : Oper} {a : Act} {w : World} {Q : Exit → Act → World → Prop} (hgd : o.guard = none) (x : Operand) (ho : o.op = .load 94 x) (g : Nat) (hx : a.eval x = .pointer (some ⟨g, 0, none⟩)) (cs : Array Value) (hg : w.heap[g]? = some (.cells cs 94)) (hs : cs.size = 12)
    (h : wpList Try.prog ops Q rest (a.put o.dst (.agg cs)) w) : wpList Try.prog ops Q (o :: rest) a w :=
  wpList_plain hgd fun _ hK => wp_load_row 94 x ho g hx 94 cs (0, 0) _ hg Try.underlying94 rfl (by rw [hs]; exact info94) (hK _ _ h)
theorem cert_ones {w : World} {arr : Array Value} {c : Cert} (h : CertAt w arr c) (k : CertOk arr c) : arr.all (·.oneCell') = true := by
  obtain ⟨a1, c1, e1, _⟩ := h.set.row.shape
  obtain ⟨a2, c2, e2, _⟩ := h.und.shape
  obtain ⟨a3, c3, e3, _⟩ := h.hol.shape
  rw [Array.all_eq_true_iff_forall_mem]
  intro v hv
  obtain ⟨i, hi, e⟩ := Array.getElem_of_mem hv
  have hsz := h.size
  have hg : arr[i]? = some v := by rw [← e]; exact Array.getElem?_eq_getElem hi
  by_cases h32 : i < 32
  · obtain ⟨n, hn, _⟩ := k.fl i h32
    rw [hn] at hg; cases hg; rfl
  · have hj : i = 32 ∨ i = 33 ∨ i = 34 ∨ i = 35 ∨ i = 36 ∨ i = 37 ∨ i = 38 := by omega
    rcases hj with rfl | rfl | rfl | rfl | rfl | rfl | rfl
    · rw [h.q] at hg; cases hg; rfl
    · rw [h.hor] at hg; cases hg; rfl
    · rw [h.sv, e1] at hg; cases hg; rfl
    · rw [h.uv, e2] at hg; cases hg; rfl
    · rw [h.hv, e3] at hg; cases hg; rfl
    · rw [h.wit] at hg; cases hg; rfl
    · rw [h.spl] at hg; cases hg; rfl
theorem RawC.Ok.more {w w' : World} {x : RawC} (h : x.Ok w) (hm : More w w') : x.Ok w' :=
  ⟨h.fl, h.q, h.hor, h.wit, h.spl, h.C.below hm.below, fun p hp => ⟨(h.Ce p hp).arg.more hm, (h.Ce p hp).key, (h.Ce p hp).t, (h.Ce p hp).d, (h.Ce p hp).len, (h.Ce p hp).i64⟩, h.Cl, h.U.below hm.below, h.Ue, h.Ul, h.H.below hm.below, fun p hp => ⟨(h.He p hp).at'.more hm, (h.He p hp).m, fun a ha => ⟨((h.He p hp).ars a ha).row.below hm.below, ((h.He p hp).ars a ha).nil, ((h.He p hp).ars a ha).tk, ((h.He p hp).ars a ha).hd, ((h.He p hp).ars a ha).len, ((h.He p hp).ars a ha).i64⟩⟩, h.Hl, h.O.below hm.below, h.Oe, h.Ol⟩
theorem RefAt.more {w w' : World} {arr : Array Value} {c : Cert} {kv : Value} (h : RefAt w arr c kv) (hm : More w w') : RefAt w' arr c kv :=
  ⟨h.q, h.hor, h.k35, h.uv, h.hv, h.wit, h.spl, h.keys.below hm.below, h.und.below hm.below, h.hol.below hm.below, fun p hp => (h.each p hp).more hm, h.ulen, h.hlen, h.slen, h.asize, by obtain ⟨bv, h1, h2⟩ := h.bys; exact ⟨bv, h1, h2.more hm⟩⟩
set_option maxRecDepth 100000 in
set_option maxHeartbeats 4000000 in
theorem checks_walk (x : RawC) (w : World) (hx : x.Ok w) : Calls Try.prog 16 #[.agg x.cells.toArray] w fun e w' => e = .returned (.bool true) ∧ Below w.heap.size w w' := by
  have HX := Lib.hid hx; clear hx
  have HSR := Lib.hid (raw_size x)
  have HC49 := Lib.hid (fun W (hW : More w W) => of49_any x W (HX.out.more hW))
  generalize x.cells.toArray = R at *
  obtain ⟨N, HN⟩ : ∃ N, Hid (N = w.heap.size) := ⟨_, Lib.hid rfl⟩
  have HB1 := Lib.hid (alloc_last w (.cells R 94))
  have HM1 := Lib.hid (more_alloc w (.cells R 94))
  rw [← HN.out] at HB1 ⊢
  go_enter Try.func16, Try.ntmps16
  go_upto_region 1 with (fail)
  rw [← HN.out]
  generalize w.alloc (.cells R 94) = w1 at *
  go_wp2_with fail
  refine (awake48_any w1).mono ?_
  rintro e w2 ⟨rfl, hb2⟩
  have HM2 := Lib.hid (more_trans HM1.out (more_of hb2))
  have HB2 := Lib.hid (((more_of hb2).block (blk_lt HB1.out)).trans HB1.out)
  clear hb2
  go_wp2_with (refine wpList_load94 rfl _ rfl N rfl R HB2.out HSR.out ?_)
  refine (HC49.out w2 HM2.out).mono ?_
  rintro e w3 ⟨⟨A, c, rfl, hca, hco⟩, hb3⟩
  have HCA := Lib.hid hca
  have HCO := Lib.hid hco
  have HM3 := Lib.hid (more_trans HM2.out (more_of hb3))
  have HAS := Lib.hid hca.size
  clear hca hco hb3
  have HA1 := Lib.hid (show A.all (·.oneCell') = true from cert_ones HCA.out HCO.out)
  have HZ := Lib.hid (alloc_last w3 (.cells (#[.int .u8 0, .int .u8 0, .int .u8 0, .int .u8 0, .int .u8 0, .int .u8 0, .int .u8 0, .int .u8 0, .int .u8 0, .int .u8 0, .int .u8 0, .int .u8 0, .int .u8 0, .int .u8 0, .int .u8 0, .int .u8 0, .int .u8 0, .int .u8 0, .int .u8 0, .int .u8 0, .int .u8 0, .int .u8 0, .int .u8 0, .int .u8 0, .int .u8 0, .int .u8 0, .int .u8 0, .int .u8 0, .int .u8 0, .int .u8 0, .int .u8 0, .int .u8 0, .string (ByteArray.mk #[]), .int .i64 0, .slice none 0 0, .slice none 0 0, .slice none 0 0, .int .i64 0, .int .i64 0] : Array Value) 98))
  have HM4 := Lib.hid (more_alloc w3 (.cells (#[.int .u8 0, .int .u8 0, .int .u8 0, .int .u8 0, .int .u8 0, .int .u8 0, .int .u8 0, .int .u8 0, .int .u8 0, .int .u8 0, .int .u8 0, .int .u8 0, .int .u8 0, .int .u8 0, .int .u8 0, .int .u8 0, .int .u8 0, .int .u8 0, .int .u8 0, .int .u8 0, .int .u8 0, .int .u8 0, .int .u8 0, .int .u8 0, .int .u8 0, .int .u8 0, .int .u8 0, .int .u8 0, .int .u8 0, .int .u8 0, .int .u8 0, .int .u8 0, .string (ByteArray.mk #[]), .int .i64 0, .slice none 0 0, .slice none 0 0, .slice none 0 0, .int .i64 0, .int .i64 0] : Array Value) 98))
  go_upto_region 4 with (refine wpList_store_row rfl 98 _ _ rfl w3.heap.size A rfl rfl 98 _ HZ.out (by rw [HAS.out]; exact info98) (by rw [HAS.out]; rfl) HA1.out ?_)
  try simp only [Act.put]
  have HB5 := Lib.hid (setRow_heap (w3.alloc (.cells (#[.int .u8 0, .int .u8 0, .int .u8 0, .int .u8 0, .int .u8 0, .int .u8 0, .int .u8 0, .int .u8 0, .int .u8 0, .int .u8 0, .int .u8 0, .int .u8 0, .int .u8 0, .int .u8 0, .int .u8 0, .int .u8 0, .int .u8 0, .int .u8 0, .int .u8 0, .int .u8 0, .int .u8 0, .int .u8 0, .int .u8 0, .int .u8 0, .int .u8 0, .int .u8 0, .int .u8 0, .int .u8 0, .int .u8 0, .int .u8 0, .int .u8 0, .int .u8 0, .string (ByteArray.mk #[]), .int .i64 0, .slice none 0 0, .slice none 0 0, .slice none 0 0, .int .i64 0, .int .i64 0] : Array Value) 98)) w3.heap.size _ A 98 (0, 0) HZ.out)
  have HM5 := Lib.hid (show More w3 ((w3.alloc (.cells (#[.int .u8 0, .int .u8 0, .int .u8 0, .int .u8 0, .int .u8 0, .int .u8 0, .int .u8 0, .int .u8 0, .int .u8 0, .int .u8 0, .int .u8 0, .int .u8 0, .int .u8 0, .int .u8 0, .int .u8 0, .int .u8 0, .int .u8 0, .int .u8 0, .int .u8 0, .int .u8 0, .int .u8 0, .int .u8 0, .int .u8 0, .int .u8 0, .int .u8 0, .int .u8 0, .int .u8 0, .int .u8 0, .int .u8 0, .int .u8 0, .int .u8 0, .int .u8 0, .string (ByteArray.mk #[]), .int .i64 0, .slice none 0 0, .slice none 0 0, .slice none 0 0, .int .i64 0, .int .i64 0] : Array Value) 98)).setRow w3.heap.size A) from more_of (below_setRow HM4.out.below (Nat.le_refl _) _))
  generalize (w3.alloc (.cells (#[.int .u8 0, .int .u8 0, .int .u8 0, .int .u8 0, .int .u8 0, .int .u8 0, .int .u8 0, .int .u8 0, .int .u8 0, .int .u8 0, .int .u8 0, .int .u8 0, .int .u8 0, .int .u8 0, .int .u8 0, .int .u8 0, .int .u8 0, .int .u8 0, .int .u8 0, .int .u8 0, .int .u8 0, .int .u8 0, .int .u8 0, .int .u8 0, .int .u8 0, .int .u8 0, .int .u8 0, .int .u8 0, .int .u8 0, .int .u8 0, .int .u8 0, .int .u8 0, .string (ByteArray.mk #[]), .int .i64 0, .slice none 0 0, .slice none 0 0, .slice none 0 0, .int .i64 0, .int .i64 0] : Array Value) 98)).setRow w3.heap.size A = w5 at *
  generalize w3.heap.size = CB at *
  have HC50 := Lib.hid (fun W (hW : More w5 W) => check50_any A c W (HCA.out.more (more_trans HM5.out hW)))
  have HC52 := Lib.hid (fun W (hW : More w5 W) => told52_any A c W (HCA.out.more (more_trans HM5.out hW)) (fun i hi => by obtain ⟨n, h1, _⟩ := HCO.out.fl i hi; exact ⟨n, h1⟩) HCO.out.si)
  have HK := Lib.hid (show ∀ W, More w5 W → W.heap[CB]? = some (.cells A 98) from fun W h => (h.block (blk_lt HB5.out)).trans HB5.out)
  have HL := Lib.hid (more_drew w5)
  refine wp_region_held_drew (S := fun W => W.heap[CB]? = some (.cells A 98)) (by kernel_rfl) (HK.out _ HL.out) (fun hHeld => ?_)
  refine wpAnyH_take (i := 0) (v := ?_) (by simp only [List.getElem?_toArray, List.getElem?_cons_zero]; exact rfl) (by kernel_rfl) (by kernel_rfl) (by kernel_rfl) (by exact fun _ _ _ h => h) (Or.inl ⟨by kernel_rfl, ?_⟩) hHeld ?_
  rotate_left
  · intro w hSw
    (try dsimp only at hSw)
    first | (go_simp; done) | (go_simp; with_reducible rfl)
  (try simp only [Act.put, List.setIfInBounds_toArray, List.set_cons_zero, List.set_cons_succ])
  refine wpAnyH_take (i := 1) (v := ?_) (by simp only [List.getElem?_toArray, List.getElem?_cons_succ, List.getElem?_cons_zero]; exact rfl) (by kernel_rfl) (by kernel_rfl) (by kernel_rfl) (by exact fun _ _ _ h => h) (Or.inl ⟨by kernel_rfl, ?_⟩) hHeld ?_
  rotate_left
  · intro w hSw
    (try dsimp only at hSw)
    first | (go_simp; done) | (go_simp; with_reducible rfl)
  (try simp only [Act.put, List.setIfInBounds_toArray, List.set_cons_zero, List.set_cons_succ])
  refine wpAnyH_take (i := 2) (v := .agg A) (by simp only [List.getElem?_toArray, List.getElem?_cons_succ, List.getElem?_cons_zero]; exact rfl) (by kernel_rfl) (by kernel_rfl) (by kernel_rfl) (by exact fun _ _ _ h => h) (yieldsIf_load98 (by kernel_rfl) _ rfl CB rfl A HAS.out (fun _ h => h)) hHeld ?_
  (try simp only [Act.put, List.setIfInBounds_toArray, List.set_cons_zero, List.set_cons_succ])
  refine wpAnyH_take (i := 4) (v := .agg A) (by simp only [List.getElem?_toArray, List.getElem?_cons_succ, List.getElem?_cons_zero]; exact rfl) (by kernel_rfl) (by kernel_rfl) (by kernel_rfl) (by exact fun _ _ _ h => h) (yieldsIf_load98 (by kernel_rfl) _ rfl CB rfl A HAS.out (fun _ h => h)) hHeld ?_
  (try simp only [Act.put, List.setIfInBounds_toArray, List.set_cons_zero, List.set_cons_succ])
  refine wpAnyH_ready (rs := [3]) (by kernel_rfl) (by simp) ?_
  refine AllReadyH.cons (by simp only [List.getElem?_toArray, List.getElem?_cons_succ, List.getElem?_cons_zero]; exact rfl) (fun K hK => ?_) AllReadyH.nil
  rw [if_pos (by kernel_rfl)]
  go_simp
  refine (HC50.out _ HL.out).mono ?_
  rintro e w6 ⟨⟨E, rfl, hE⟩, hb⟩
  have HE := Lib.hid hE
  have HL := Lib.hid (more_trans HL.out (more_of hb))
  have K9 := HK.out _ HL.out
  clear hE hb
  try go_wp2_with fail
  refine hK.out _ _ K9 (fun hHeld => ?_)
  clear hK K
  (try simp only [Act.put, List.setIfInBounds_toArray, List.set_cons_zero, List.set_cons_succ])
  refine wpAnyH_ready (rs := [5]) (by kernel_rfl) (by simp) ?_
  refine AllReadyH.cons (by simp only [List.getElem?_toArray, List.getElem?_cons_succ, List.getElem?_cons_zero]; exact rfl) (fun K hK => ?_) AllReadyH.nil
  rw [if_pos (by kernel_rfl)]
  go_simp
  refine (HC52.out _ HL.out).mono ?_
  rintro e w7 ⟨⟨B, kv, rfl, hrf, _⟩, hb⟩
  have HRF := Lib.hid hrf
  have HL := Lib.hid (more_trans HL.out (more_of hb))
  have K9 := HK.out _ HL.out
  clear hrf hb
  try go_wp2_with fail
  refine hK.out _ _ K9 (fun hHeld => ?_)
  clear hK K
  (try simp only [Act.put, List.setIfInBounds_toArray, List.set_cons_zero, List.set_cons_succ])
  refine wpAnyH_ready (rs := [6]) (by kernel_rfl) (by simp) ?_
  refine AllReadyH.cons (by simp only [List.getElem?_toArray, List.getElem?_cons_succ, List.getElem?_cons_zero]; exact rfl) (fun K hK => ?_) AllReadyH.nil
  rw [if_pos (by kernel_rfl)]
  go_simp
  refine (check51_any B c kv _ HRF.out).mono ?_
  rintro e w8 ⟨⟨F, rfl, hF⟩, hb⟩
  obtain rfl : F = E := hF.same HE.out
  have HL := Lib.hid (more_trans HL.out (more_of hb))
  have K9 := HK.out _ HL.out
  clear hF hb
  try go_wp2_with fail
  refine hK.out _ _ K9 (fun hHeld => ?_)
  clear hK K
  (try simp only [Act.put, List.setIfInBounds_toArray, List.set_cons_zero, List.set_cons_succ])
  refine wpAnyH_take (i := 7) (v := ?_) (by simp only [List.getElem?_toArray, List.getElem?_cons_succ, List.getElem?_cons_zero]; exact rfl) (by kernel_rfl) (by kernel_rfl) (by kernel_rfl) (by exact fun _ _ _ h => h) (Or.inl ⟨by kernel_rfl, ?_⟩) hHeld ?_
  rotate_left
  · intro w hSw
    (try dsimp only at hSw)
    first | (go_simp; done) | (go_simp; with_reducible rfl)
  (try simp only [Act.put, List.setIfInBounds_toArray, List.set_cons_zero, List.set_cons_succ])
  refine wpAnyH_take (i := 8) (v := ?_) (by simp only [List.getElem?_toArray, List.getElem?_cons_succ, List.getElem?_cons_zero]; exact rfl) (by kernel_rfl) (by kernel_rfl) (by kernel_rfl) (by exact fun _ _ _ h => h) (Or.inl ⟨by kernel_rfl, ?_⟩) hHeld ?_
  rotate_left
  · intro w hSw
    (try dsimp only at hSw)
    first | (go_simp; done) | (go_simp; with_reducible rfl)
  (try simp only [Act.put, List.setIfInBounds_toArray, List.set_cons_zero, List.set_cons_succ])
  refine wpAnyH_take (i := 9) (v := ?_) (by simp only [List.getElem?_toArray, List.getElem?_cons_succ, List.getElem?_cons_zero]; exact rfl) (by kernel_rfl) (by kernel_rfl) (by kernel_rfl) (by exact fun _ _ _ h => h) (Or.inl ⟨by kernel_rfl, ?_⟩) hHeld ?_
  rotate_left
  · intro w hSw
    (try dsimp only at hSw)
    first | (go_simp; done) | (go_simp; with_reducible rfl)
  (try simp only [Act.put, List.setIfInBounds_toArray, List.set_cons_zero, List.set_cons_succ])
  refine wpAnyH_done (by kernel_rfl) ?_ _
  go_wp2_with fail
  go_ret
  exact ⟨rfl, by rw [HN.out]; exact (more_trans HM3.out (more_trans HM5.out HL.out)).below⟩
end Go.Proofs.Ytemeppfikpafbaa
