/- Texts DigS, laid together. -/
import Derived.Test.YtemeppfikpafbaaGreatDoorBo
import Derived.Test.YtemeppfikpafbaaGreatDoorBy
/- digest.New (27), (*digest.Hash).Sum (29), digest.Sum (11). -/
namespace Go.Proofs.YtemeppfikpafbaaGreatDoor
open Go.RowKit
theorem info112 : (Tryz.prog.info? 112).map (·.size) = some 73 := by kernel_rfl
theorem info31 : (Tryz.prog.info? 31).map (·.size) = some 32 := by kernel_rfl
theorem HashAt.ones (ws bs : List Int) (tot : Int) : (uV ws ++ (bV bs ++ [Value.int .u64 tot])).toArray.all (·.oneCell') = true := by
  rw [Array.all_eq_true_iff_forall_mem]
  intro v hv
  rw [List.mem_toArray, List.mem_append, List.mem_append, List.mem_singleton] at hv
  unfold uV bV at hv
  rcases hv with hv | hv | hv
  · obtain ⟨x, _, rfl⟩ := List.mem_map.1 hv; rfl
  · obtain ⟨x, _, rfl⟩ := List.mem_map.1 hv; rfl
  · subst hv; rfl
theorem HashAt.size {W : World} {hb : Nat} {ws bs : List Int} {tot : Int} (h : HashAt W hb ws bs tot) : (uV ws ++ (bV bs ++ [Value.int .u64 tot])).toArray.size = 73 := by
  rw [List.size_toArray, List.length_append, List.length_append, h.uvl, h.bvl]; rfl
/-- The number of padding bytes ahead of the length. -/
def padN (i : Nat) : Nat := if i < 56 then 56 - i else 120 - i
def padL (n : Nat) (tot : Int) : List Int := 128 :: List.replicate (n - 1) 0 ++ eightF (tot * 8) 8
theorem pad_set {n : Nat} (h : 0 < n) : (bV (List.replicate n 0)).set 0 (.int .u8 128) = bV (128 :: List.replicate (n - 1) 0) := by
  obtain ⟨k, rfl⟩ : ∃ k, n = k + 1 := ⟨n - 1, by omega⟩
  rw [List.replicate_succ, Nat.add_sub_cancel]
  rfl
theorem Row.cell0 {S : Nat → Prop} {w : World} {g n cap : Nat} (h : Row S w 1 n (.slice (some ⟨g, 0, none⟩) n cap) (bV (List.replicate n 0))) (hn : 0 < n) : w.cell? ⟨g, 0, none⟩ = some (.int .u8 0) := by
  obtain ⟨b, off, e, _, _, hc⟩ := h.at (by omega)
  cases e
  obtain ⟨k, rfl⟩ : ∃ k, n = k + 1 := ⟨n - 1, by omega⟩
  exact hc 0 (.int .u8 0) rfl
theorem idx31 (N : Nat) (x : Int) (j : Nat) (hx : x = j) (hj : j < 32) (w : World) : (Instr.indexAt 31 (.pointer (some ⟨N, 0, none⟩)) (.int .i64 x)).run Tryz.prog w = .ok (.pointer (some ⟨N, j, none⟩)) w := by
  subst hx
  have h := run_indexAt_array (P := Tryz.prog) w 31 ⟨N, 0, none⟩ .i64 j (by kernel_rfl)
  obtain ⟨i5, hi, _⟩ := info_parts infoB
  rw [h, show Tryz.prog.arrayLen 31 = 32 by kernel_rfl, if_pos ⟨by omega, by omega⟩, show Tryz.prog.elem 31 = 5 by kernel_rfl, run_sizeOf w hi, show Tryz.prog.cellsOf 5 = 1 by kernel_rfl]
  simp only [Result.andThen_ok, Int.toNat_natCast, Nat.mul_one]
  rw [Addr.add_mid, Nat.zero_add]
theorem bV_getD (l : List Int) (j : Nat) (h : j < l.length) : (bV l)[j]? = some (Value.int .u8 (l.getD j 0)) := by
  unfold bV
  rw [List.getElem?_map, List.getD_eq_getElem?_getD, List.getElem?_eq_getElem h]
  rfl
theorem bV_setA (l : List Int) (j : Nat) (x : Int) : (bV l).toArray.setIfInBounds j (Value.int .u8 x) = (bV (l.set j x)).toArray := by
  unfold bV
  rw [List.setIfInBounds_toArray, List.map_set]
theorem bV_ones (l : List Int) : (bV l).toArray.all (·.oneCell') = true := by
  rw [Array.all_eq_true_iff_forall_mem]
  intro v hv
  rw [List.mem_toArray] at hv
  unfold bV at hv
  obtain ⟨x, _, rfl⟩ := List.mem_map.1 hv
  rfl
theorem ByV.lt' {S : Nat → Prop} {w : World} {l : List Int} {v : Value} {B : Nat} (h : ByV S w l v) (hB : B = w.heap.size) : ByV (fun b => b < B) w l v := by
  obtain ⟨a, c, e, hr, hp⟩ := h
  subst hB
  exact ⟨a, c, e, row_lt (by omega) hr, hp⟩
theorem ByV.below' {w w' : World} {l : List Int} {v : Value} {B : Nat} (h : ByV (fun b => b < B) w l v) (hm : More w w') (_hB : B = w.heap.size) : ByV (fun b => b < B) w' l v := ByV.below hm.below h
theorem wrF_tot (KK : List Int) : ∀ (f : Nat) (ws bs : List Int) (tot : Nat) (l : List Int), (wrF KK f ws bs tot l).2.2 ≤ tot + l.length
  | 0, _, _, tot, l => Nat.le_add_right _ _
  | f + 1, ws, bs, tot, l => by
    by_cases h : l = []
    · rw [wrF, if_pos h]; exact Nat.le_add_right _ _
    · rw [wrF, if_neg h]
      refine Nat.le_trans (wrF_tot KK f _ _ _ _) ?_
      rw [List.length_drop]
      omega
theorem made_row (w : World) (n m : Nat) (hn : n ≤ m) (hm : m ≤ 1000000) : (w.alloc (.cells (madeCells #[.int .u8 0] m) 5)).ownsRow w.heap.size 5 1 (.slice (some ⟨w.heap.size, 0, none⟩) n m) n (bV (List.replicate n 0)) := by
  have e : madeCells #[Value.int .u8 0] m = (bV (List.replicate m 0)).toArray := by
    apply Array.ext
    · simp [madeCells, bV]
    · intro i h1 h2
      simp [madeCells, bV, Nat.mod_one]
  refine ⟨by unfold bV; rw [List.length_map, List.length_replicate, Nat.mul_one], Or.inr ⟨w.heap.size, m, _, rfl, Nat.le_refl _, by rw [e]; exact alloc_last w _, hn, by unfold maxLen; omega, by rw [List.size_toArray]; unfold bV; rw [List.length_map, List.length_replicate, Nat.mul_one], ?_⟩⟩
  unfold bV
  rw [Nat.mul_one, ← List.map_take, List.take_replicate, Nat.min_eq_left hn]
def ivW : List Int := [1779033703, 3144134277, 1013904242, 2773480762, 1359893119, 2600822924, 528734635, 1541459225]
set_option maxRecDepth 100000 in
set_option maxHeartbeats 2000000 in
theorem new27_any (w : World) : Calls Tryz.prog 27 #[] w fun e w' => e = .returned (.pointer (some ⟨w.heap.size, 0, none⟩)) ∧ HashAt w' w.heap.size ivW (List.replicate 64 0) 0 ∧ More w w' := by
  have HZ := Lib.hid (alloc_last w (.cells (uV ivW ++ (bV (List.replicate 64 0) ++ [Value.int .u64 0])).toArray 112))
  have HM := Lib.hid (more_alloc w (.cells (uV ivW ++ (bV (List.replicate 64 0) ++ [Value.int .u64 0])).toArray 112))
  go_enter Tryz.func27, Tryz.ntmps27
  go_wp2_with fail
  go_ret
  refine ⟨rfl, ⟨(alloc_last w _).trans (congrArg (fun z => some (Obj.cells z 112)) (by kernel_rfl)), rfl, by rw [List.length_replicate]⟩, more_alloc _ _⟩
/-- The digest's bytes. -/
def dS (ws : List Int) : Nat → List Int
  | 0 => List.replicate 32 0
  | j + 1 => ((((dS ws j).set (4 * j) (ws.getD j 0 / 16777216 % 256)).set (4 * j + 1) (ws.getD j 0 / 65536 % 256)).set (4 * j + 2) (ws.getD j 0 / 256 % 256)).set (4 * j + 3) (ws.getD j 0 % 256)
theorem dS_len (ws : List Int) : ∀ j, (dS ws j).length = 32
  | 0 => by simp [dS]
  | j + 1 => by rw [dS, List.length_set, List.length_set, List.length_set, List.length_set, dS_len ws j]
def sumW (KK ws bs : List Int) (tot : Nat) : List Int := (wrF KK (padL (padN (tot % 64)) tot).length ws bs tot (padL (padN (tot % 64)) tot)).1
def sumF (KK ws bs : List Int) (tot : Nat) : List Int := dS (sumW KK ws bs tot) 8
theorem sumF_eq {KK ws bs L W L8 : List Int} {tot j m n : Nat} (hm : m = 8) (hE : eightF ((tot : Int) * 8) m = L8) (hP : padN (tot % 64) = n) (hL : 128 :: List.replicate (n - 1) 0 ++ L8 = L) (hW : (wrF KK L.length ws bs tot L).1 = W) (hj : j = 8) : dS W j = sumF KK ws bs tot := by
  subst hW; subst hL; subst hP; subst hE; subst hm; subst hj; rfl
theorem eight60L (n : Int) (m : Nat) (L : List Int) (w : World) (hm : m = 8) (hL : eightF n m = L) :
    Calls Tryz.prog 60 #[.int .u64 n] w fun e w' => (∃ v, e = .returned v ∧ w'.ownsRow w.heap.size 5 1 v 8 (bV L)) ∧ Below w.heap.size w w' := by
  subst hL; subst hm; exact eight60_any n w
set_option maxRecDepth 100000 in
set_option maxHeartbeats 8000000 in
theorem sum29_any (hb : Nat) (ws bs : List Int) (tot : Nat) (KK : List Int) (w : World) (ht : tot ≤ 1000000) (h : HashAt w hb ws bs tot) (hK : GlobK w KK) :
    Calls Tryz.prog 29 #[.pointer (some ⟨hb, 0, none⟩)] w fun e w' => e = .returned (.agg (bV (sumF KK ws bs tot)).toArray) ∧ More w w' := by
  have H := Lib.hid h; clear h
  have HGK := Lib.hid hK; clear hK
  obtain ⟨i0, hi0, hz0, hz1, hz2⟩ := info_parts infoB
  obtain ⟨RB, HRB⟩ : ∃ B, Hid (B = w.heap.size) := ⟨_, Lib.hid rfl⟩
  have HR0 := Lib.hid (alloc_last w (.cells (#[.int .u8 0, .int .u8 0, .int .u8 0, .int .u8 0, .int .u8 0, .int .u8 0, .int .u8 0, .int .u8 0, .int .u8 0, .int .u8 0, .int .u8 0, .int .u8 0, .int .u8 0, .int .u8 0, .int .u8 0, .int .u8 0, .int .u8 0, .int .u8 0, .int .u8 0, .int .u8 0, .int .u8 0, .int .u8 0, .int .u8 0, .int .u8 0, .int .u8 0, .int .u8 0, .int .u8 0, .int .u8 0, .int .u8 0, .int .u8 0, .int .u8 0, .int .u8 0] : Array Value) 31))
  have HM1 := Lib.hid (more_alloc w (.cells (#[.int .u8 0, .int .u8 0, .int .u8 0, .int .u8 0, .int .u8 0, .int .u8 0, .int .u8 0, .int .u8 0, .int .u8 0, .int .u8 0, .int .u8 0, .int .u8 0, .int .u8 0, .int .u8 0, .int .u8 0, .int .u8 0, .int .u8 0, .int .u8 0, .int .u8 0, .int .u8 0, .int .u8 0, .int .u8 0, .int .u8 0, .int .u8 0, .int .u8 0, .int .u8 0, .int .u8 0, .int .u8 0, .int .u8 0, .int .u8 0, .int .u8 0, .int .u8 0] : Array Value) 31))
  rw [← HRB.out] at HR0
  go_enter Tryz.func29, Tryz.ntmps29
  go_upto_region 1 with fail
  rw [← HRB.out]
  have H1 := Lib.hid (H.out.keep (HM1.out.block (blk_lt H.out.blk)))
  have HSZ1 := Lib.hid (show RB < (w.alloc (.cells (#[.int .u8 0, .int .u8 0, .int .u8 0, .int .u8 0, .int .u8 0, .int .u8 0, .int .u8 0, .int .u8 0, .int .u8 0, .int .u8 0, .int .u8 0, .int .u8 0, .int .u8 0, .int .u8 0, .int .u8 0, .int .u8 0, .int .u8 0, .int .u8 0, .int .u8 0, .int .u8 0, .int .u8 0, .int .u8 0, .int .u8 0, .int .u8 0, .int .u8 0, .int .u8 0, .int .u8 0, .int .u8 0, .int .u8 0, .int .u8 0, .int .u8 0, .int .u8 0] : Array Value) 31)).heap.size from blk_lt HR0.out)
  generalize w.alloc (.cells (#[.int .u8 0, .int .u8 0, .int .u8 0, .int .u8 0, .int .u8 0, .int .u8 0, .int .u8 0, .int .u8 0, .int .u8 0, .int .u8 0, .int .u8 0, .int .u8 0, .int .u8 0, .int .u8 0, .int .u8 0, .int .u8 0, .int .u8 0, .int .u8 0, .int .u8 0, .int .u8 0, .int .u8 0, .int .u8 0, .int .u8 0, .int .u8 0, .int .u8 0, .int .u8 0, .int .u8 0, .int .u8 0, .int .u8 0, .int .u8 0, .int .u8 0, .int .u8 0] : Array Value) 31) = w1 at *
  obtain ⟨arr, HARR⟩ : ∃ arr, Hid (arr = (uV ws ++ (bV bs ++ [Value.int .u64 (tot : Nat)])).toArray) := ⟨_, Lib.hid rfl⟩
  have HAS := Lib.hid (show arr.size = 73 by rw [HARR.out]; exact H1.out.size)
  have HAO := Lib.hid (show arr.all (·.oneCell') = true by rw [HARR.out]; exact HashAt.ones ws bs tot)
  have HBK := Lib.hid (show w1.heap[hb]? = some (.cells arr 112) by rw [HARR.out]; exact H1.out.blk)
  have HZ := Lib.hid (alloc_last w1 (.cells Tryz.zeroCells112 112))
  have HM2 := Lib.hid (more_alloc w1 (.cells Tryz.zeroCells112 112))
  go_upto_region 4 with (first | (refine wpList_load_row rfl 112 _ rfl hb rfl 112 arr (0, 0) _ HBK.out Tryz.underlying112 rfl (by rw [HAS.out]; exact info112) ?_) | (refine wpList_store_row rfl 112 _ _ rfl w1.heap.size arr rfl rfl 112 _ HZ.out (by rw [HAS.out]; exact info112) (by rw [HAS.out]; kernel_rfl) HAO.out ?_))
  try simp only [Act.put]
  have HC3 := Lib.hid (show HashAt ((w1.alloc (.cells Tryz.zeroCells112 112)).setRow w1.heap.size arr) w1.heap.size ws bs (tot : Nat) from ⟨by rw [← HARR.out]; exact setRow_heap _ _ _ _ _ _ HZ.out, H1.out.wl, H1.out.bl⟩)
  have HM3 := Lib.hid (show More w1 ((w1.alloc (.cells Tryz.zeroCells112 112)).setRow w1.heap.size arr) from more_of (below_setRow HM2.out.below (Nat.le_refl _) _))
  generalize (w1.alloc (.cells Tryz.zeroCells112 112)).setRow w1.heap.size arr = w3 at *
  have HRC := Lib.hid (show RB < w1.heap.size from HSZ1.out)
  generalize w1.heap.size = CB at *
  clear HZ HM2 HAS HAO HBK HARR
  have HR3 := Lib.hid ((HM3.out.block (blk_lt HR0.out)).trans HR0.out)
  have HH3 := Lib.hid (H1.out.keep (HM3.out.block (blk_lt H1.out.blk)))
  have HM13 := Lib.hid (more_trans HM1.out HM3.out)
  have ct : w3.cell? ⟨CB, 72, none⟩ = some (.int .u64 (tot : Nat)) := HC3.out.t
  have hbt := cell_lt ct
  obtain ⟨i, HI⟩ : ∃ i, Hid (tot % 64 = i) := ⟨_, Lib.hid rfl⟩
  have hi : i < 64 := by rw [← HI.out]; exact Nat.mod_lt _ (by omega)
  have hrem : Int.tmod (tot : Int) 64 = (i : Int) := by rw [Int.tmod_eq_emod_of_nonneg (by omega), ← HI.out]; omega
  have hrem2 : (tot : Int) % 64 = (i : Int) := by rw [← HI.out]; omega
  have hw56 : IntKind.i64.wrap (56 - (i : Int)) = 56 - i := by rw [IntKind.wrap_i64]; omega
  go_upto_region 6 with fail
  obtain ⟨n, HPN⟩ : ∃ n, Hid (padN (tot % 64) = n) := ⟨_, Lib.hid rfl⟩
  obtain ⟨m8, HM8⟩ : ∃ m, Hid (m = 8) := ⟨_, Lib.hid rfl⟩
  obtain ⟨L8, HE8⟩ : ∃ l, Hid (eightF ((tot : Int) * 8) m8 = l) := ⟨_, Lib.hid rfl⟩
  have HNI := Lib.hid (show (i < 56 → n = 56 - i) ∧ (¬ i < 56 → n = 120 - i) from by rw [← HPN.out, HI.out]; unfold padN; exact ⟨fun h => if_pos h, fun h => if_neg h⟩)
  clear ct hbt hrem hrem2 hw56
  by_cases h56 : i < 56
  · have hle : decide (56 - (i : Int) ≤ 0) = false := decide_eq_false (by omega)
    have hnle : ¬ (56 - (i : Int) ≤ 0) := by omega
    have hn : 0 < n ∧ n ≤ 64 := by have := HNI.out.1 h56; omega
    have e56 : (56 : Int) - i = n := by have := HNI.out.1 h56; omega
    go_upto_region 8 with fail
    rw [e56]
    clear hle hnle e56 h56
    have hwn : IntKind.i64.wrap ((n : Int) + 8) = n + 8 := by rw [IntKind.wrap_i64]; omega
    have hmk : (Instr.makeSlice 26 (.int .i64 (n : Int)) (.int .i64 ((n : Int) + 8))).run Tryz.prog w3 = .ok (.slice (some ⟨w3.heap.size, 0, none⟩) n (n + 8)) (w3.alloc (.cells (madeCells #[.int .u8 0] (n + 8)) 5)) := by
      have h := make26_any n (n + 8) (by omega) (by omega) w3
      rwa [show ((n + 8 : Nat) : Int) = (n : Int) + 8 by omega] at h
    have HO4 := Lib.hid (made_row w3 n (n + 8) (by omega) (by omega))
    have HM4 := Lib.hid (more_alloc w3 (.cells (madeCells #[.int .u8 0] (n + 8)) 5))
    have HLT3 := Lib.hid (show CB < w3.heap.size from blk_lt HC3.out.blk)
    go_upto_region 9 with fail
    clear hmk hwn
    generalize w3.alloc (.cells (madeCells #[.int .u8 0] (n + 8)) 5) = w4 at *
    obtain ⟨EB, HEB⟩ : ∃ B, Hid (B = w3.heap.size) := ⟨_, Lib.hid rfl⟩
    rw [← HEB.out] at HO4 HLT3 ⊢
    have HB4 := Lib.hid (show Below EB w3 w4 by rw [HEB.out]; exact HM4.out.below)
    have e0 : w4.cell? ⟨EB, 0, none⟩ = some (.int .u8 0) := (Row.of_owns HO4.out).cell0 (by omega)
    have hbe := cell_lt e0
    have fz : w4.frozen? ⟨EB, 0, none⟩ = false := HO4.out.frozenAt 0
    have ST := Lib.hid (HO4.out.stored 0 (.int .u8 128))
    have hnpos : (0 : Int) < n := by omega
    go_upto_region 10 with fail
    clear e0 hbe fz hnpos
    have HO5 := Lib.hid (show (w4.setCell ⟨EB, 0, none⟩ (.int .u8 128)).ownsRow EB 5 1 (.slice (some ⟨EB, 0, none⟩) n (n + 8)) n (bV (128 :: List.replicate (n - 1) 0)) by rw [← pad_set (by omega)]; exact ST.out.1)
    have HB5 := Lib.hid (show Below EB w3 (w4.setCell ⟨EB, 0, none⟩ (.int .u8 128)) from HB4.out.setCell (Nat.le_refl _) _)
    generalize w4.setCell ⟨EB, 0, none⟩ (.int .u8 128) = w5 at *
    have HHB := Lib.hid (show hb < EB by rw [HEB.out]; exact blk_lt HH3.out.blk)
    have HH5 := Lib.hid (HH3.out.keep (HB5.out.block hb HHB.out))
    have ct : w5.cell? ⟨hb, 72, none⟩ = some (.int .u64 (tot : Nat)) := HH5.out.t
    have hbt := cell_lt ct
    have hw8 : IntKind.u64.wrap ((tot : Int) * 8) = tot * 8 := by rw [IntKind.wrap_u64]; omega
    have HC60 := Lib.hid (eight60L ((tot : Int) * 8) m8 L8 w5 HM8.out HE8.out)
    go_wp2_with fail
    refine HC60.out.mono ?_
    rintro e w6 ⟨⟨v6, rfl, ho6⟩, hb6⟩
    have HO6 := Lib.hid ho6
    have HM6 := Lib.hid (more_of hb6)
    obtain ⟨va6, vc6, rfl, _⟩ := owns_shape ho6
    clear ho6 hb6 HC60 ct hbt hw8
    have HO56 := Lib.hid (owns_keep HO5.out (fun z hz => HM6.out.block (HO5.out.lt z hz).2))
    have HR6 := Lib.hid ((Row.of_owns HO6.out).mono (S' := anyB) (fun _ _ => trivial) (fun _ _ _ _ h => h))
    go_wp2_with (at_builtin; refine wpList_append_rowC rfl _ _ 26 rfl EB 5 i0 _ 1 1 Tryz.underlying26 hi0 hz0 hz1 hz2 rfl (by omega) (.slice (some ⟨EB, 0, none⟩) n (n + 8)) n (bV (128 :: List.replicate (n - 1) 0)) rfl HO56.out (.slice va6 8 vc6) 8 (bV L8) rfl HR6.out (owns_nil HO6.out) (bV_one L8) (by unfold maxLen; omega) (by omega) (Nat.le_trans (Nat.le_of_lt (HO5.out.lt EB rfl).2) HM6.out.size) ?_; intro v7 w7 hown7 hgrow7; obtain ⟨ga, gc, rfl, _⟩ := owns_shape hown7)
    obtain ⟨L, HL⟩ : ∃ L, Hid (128 :: List.replicate (n - 1) 0 ++ L8 = L) := ⟨_, Lib.hid rfl⟩
    have HLL := Lib.hid (show L.length = n + 8 by have h8 := HO6.out.1; unfold bV at h8; rw [List.length_map] at h8; rw [← HL.out, List.length_append, List.length_cons, List.length_replicate, h8]; omega)
    have HQ := Lib.hid (show w7.ownsRow EB 5 1 (.slice ga L.length gc) L.length (bV L) by rw [HLL.out, ← HL.out, bV_append]; exact hown7)
    have HB7 := Lib.hid (show Below EB w3 w7 from (HB5.out.trans (HM6.out.below.mono (Nat.le_of_lt (HO5.out.lt EB rfl).2))).grown hgrow7 (by rw [HEB.out]; exact Nat.le_trans HB5.out.size HM6.out.size) (fun z hz => (HO56.out.lt z hz).1))
    clear hown7 hgrow7
    have HC7 := Lib.hid (HC3.out.keep (HB7.out.block CB HLT3.out))
    have HK7 := Lib.hid (HGK.out.keep (Nat.le_trans HM13.out.size HB7.out.size) ((HB7.out.block 0 (by have := HLT3.out; omega)).trans (HM13.out.block HGK.out.1)))
    obtain ⟨R, HRR⟩ : ∃ R, Hid (wrF KK L.length ws bs tot L = R) := ⟨_, Lib.hid rfl⟩
    have HC28 := Lib.hid (write28_any CB (fun b => EB ≤ b) L _ ws bs tot KK w7 (by rw [HLL.out]; omega) ht HC7.out (ByV.of_owns HQ.out) (fun b hb => by have h1 : EB ≤ b := hb; have := HLT3.out; omega) HK7.out (by have := HRC.out; omega))
    rw [HRR.out, HLL.out] at HC28
    refine HC28.out.mono ?_
    rintro e w8 ⟨rfl, hh8, hg8⟩
    have HC8 := Lib.hid hh8
    have HB8 := Lib.hid (show Below RB w w8 from ((HM13.out.below.mono (by rw [HRB.out]; exact Nat.le_refl _)).trans (HB7.out.mono (by have := HRC.out; have := HLT3.out; omega))).grown hg8 (by rw [HRB.out]; exact Nat.le_trans HM13.out.size HB7.out.size) (fun z hz => by cases hz; exact Nat.le_of_lt HRC.out))
    have HR8 := Lib.hid (((hg8.block RB (Nat.lt_of_lt_of_le (blk_lt HR3.out) HB7.out.size) (by intro e; injection e with e; have := HRC.out; omega)).trans (HB7.out.block RB (by have := HRC.out; have := HLT3.out; omega))).trans HR3.out)
    clear hh8 hg8 HC28
    have HD9 := Lib.hid (alloc_last w8 (.cells (#[.int .u8 0, .int .u8 0, .int .u8 0, .int .u8 0, .int .u8 0, .int .u8 0, .int .u8 0, .int .u8 0, .int .u8 0, .int .u8 0, .int .u8 0, .int .u8 0, .int .u8 0, .int .u8 0, .int .u8 0, .int .u8 0, .int .u8 0, .int .u8 0, .int .u8 0, .int .u8 0, .int .u8 0, .int .u8 0, .int .u8 0, .int .u8 0, .int .u8 0, .int .u8 0, .int .u8 0, .int .u8 0, .int .u8 0, .int .u8 0, .int .u8 0, .int .u8 0] : Array Value) 31))
    have HM9 := Lib.hid (more_alloc w8 (.cells (#[.int .u8 0, .int .u8 0, .int .u8 0, .int .u8 0, .int .u8 0, .int .u8 0, .int .u8 0, .int .u8 0, .int .u8 0, .int .u8 0, .int .u8 0, .int .u8 0, .int .u8 0, .int .u8 0, .int .u8 0, .int .u8 0, .int .u8 0, .int .u8 0, .int .u8 0, .int .u8 0, .int .u8 0, .int .u8 0, .int .u8 0, .int .u8 0, .int .u8 0, .int .u8 0, .int .u8 0, .int .u8 0, .int .u8 0, .int .u8 0, .int .u8 0, .int .u8 0] : Array Value) 31))
    go_upto_region 12 with fail
    have HC9 := Lib.hid (HC8.out.keep (HM9.out.block (blk_lt HC8.out.blk)))
    have HR9 := Lib.hid ((HM9.out.block (blk_lt HR8.out)).trans HR8.out)
    have HRD := Lib.hid (show RB < w8.heap.size from blk_lt HR8.out)
    have HB9 := Lib.hid (show Below RB w (w8.alloc (.cells (#[.int .u8 0, .int .u8 0, .int .u8 0, .int .u8 0, .int .u8 0, .int .u8 0, .int .u8 0, .int .u8 0, .int .u8 0, .int .u8 0, .int .u8 0, .int .u8 0, .int .u8 0, .int .u8 0, .int .u8 0, .int .u8 0, .int .u8 0, .int .u8 0, .int .u8 0, .int .u8 0, .int .u8 0, .int .u8 0, .int .u8 0, .int .u8 0, .int .u8 0, .int .u8 0, .int .u8 0, .int .u8 0, .int .u8 0, .int .u8 0, .int .u8 0, .int .u8 0] : Array Value) 31)) from HB8.out.trans (HM9.out.below.mono (Nat.le_of_lt HRD.out)))
    generalize w8.alloc (.cells (#[.int .u8 0, .int .u8 0, .int .u8 0, .int .u8 0, .int .u8 0, .int .u8 0, .int .u8 0, .int .u8 0, .int .u8 0, .int .u8 0, .int .u8 0, .int .u8 0, .int .u8 0, .int .u8 0, .int .u8 0, .int .u8 0, .int .u8 0, .int .u8 0, .int .u8 0, .int .u8 0, .int .u8 0, .int .u8 0, .int .u8 0, .int .u8 0, .int .u8 0, .int .u8 0, .int .u8 0, .int .u8 0, .int .u8 0, .int .u8 0, .int .u8 0, .int .u8 0] : Array Value) 31) = w9 at *
    generalize w8.heap.size = DB at *
    obtain ⟨W1, HW1⟩ : ∃ l, Hid (R.1 = l) := ⟨_, Lib.hid rfl⟩
    rw [HW1.out] at HC9
    obtain ⟨b0, b1, b2, b3, b4, b5, b6, b7, hb8⟩ := list8 HC9.out.wl
    have c0 : w9.cell? ⟨CB, 0, none⟩ = some (.int .u32 b0) := by have h := HC9.out.w (j := 0) (by omega); rwa [hb8] at h
    have c1 : w9.cell? ⟨CB, 1, none⟩ = some (.int .u32 b1) := by have h := HC9.out.w (j := 1) (by omega); rwa [hb8] at h
    have c2 : w9.cell? ⟨CB, 2, none⟩ = some (.int .u32 b2) := by have h := HC9.out.w (j := 2) (by omega); rwa [hb8] at h
    have c3 : w9.cell? ⟨CB, 3, none⟩ = some (.int .u32 b3) := by have h := HC9.out.w (j := 3) (by omega); rwa [hb8] at h
    have c4 : w9.cell? ⟨CB, 4, none⟩ = some (.int .u32 b4) := by have h := HC9.out.w (j := 4) (by omega); rwa [hb8] at h
    have c5 : w9.cell? ⟨CB, 5, none⟩ = some (.int .u32 b5) := by have h := HC9.out.w (j := 5) (by omega); rwa [hb8] at h
    have c6 : w9.cell? ⟨CB, 6, none⟩ = some (.int .u32 b6) := by have h := HC9.out.w (j := 6) (by omega); rwa [hb8] at h
    have c7 : w9.cell? ⟨CB, 7, none⟩ = some (.int .u32 b7) := by have h := HC9.out.w (j := 7) (by omega); rwa [hb8] at h
    have hbc := cell_lt c0
    have HB8E := Lib.hid hb8
    clear hb8
    go_upto_region 13 with fail
    clear c0 c1 c2 c3 c4 c5 c6 c7 hbc
    have HIX := Lib.hid (fun (j : Nat) (hj : j < 8) (W : World) => index109 b0 b1 b2 b3 b4 b5 b6 b7 j hj W)
    rw [← HB8E.out] at HIX
    obtain ⟨AG, HAG⟩ : ∃ AG, Hid (AG = Value.agg #[.int .u32 b0, .int .u32 b1, .int .u32 b2, .int .u32 b3, .int .u32 b4, .int .u32 b5, .int .u32 b6, .int .u32 b7]) := ⟨_, Lib.hid rfl⟩
    rw [← HAG.out]
    rw [← HAG.out] at HIX
    go_loopw [43] (fun i wr => ∃ j : Nat, j ≤ 8 ∧ i = .int .i64 j ∧ Hid (wr.heap[DB]? = some (.cells (bV (dS W1 j)).toArray 31)) ∧ Hid (Below DB w9 wr)) (fun i _ => 8 - (intOf i).toNat)
    case atStart => exact ⟨0, Nat.zero_le _, rfl, HD9, Lib.hid (Below.refl _ _)⟩
    case round =>
      obtain ⟨r, hr, rfl, HDB, HBD⟩ := hrel
      obtain ⟨wo, rfl⟩ : ∃ wo : World, wo = wr := ⟨_, rfl⟩
      by_cases hlt : r < 8
      · have HJ := Lib.hid hlt
        have hri : (r : Int) < 8 := by omega
        have hix := fun W => HIX.out r hlt W
        have HWR := Lib.hid (show dS W1 (r + 1) = ((((dS W1 r).set (4 * r) (W1.getD r 0 / 16777216 % 256)).set (4 * r + 1) (W1.getD r 0 / 65536 % 256)).set (4 * r + 2) (W1.getD r 0 / 256 % 256)).set (4 * r + 3) (W1.getD r 0 % 256) from rfl)
        have hm4 : IntKind.i64.wrap (4 * (r : Int)) = 4 * r := by rw [IntKind.wrap_i64]; omega
        have hm41 : IntKind.i64.wrap (4 * (r : Int) + 1) = 4 * r + 1 := by rw [IntKind.wrap_i64]; omega
        have hm42 : IntKind.i64.wrap (4 * (r : Int) + 2) = 4 * r + 2 := by rw [IntKind.wrap_i64]; omega
        have hm43 : IntKind.i64.wrap (4 * (r : Int) + 3) = 4 * r + 3 := by rw [IntKind.wrap_i64]; omega
        have hx0 := fun W => idx31 DB (4 * (r : Int)) (4 * r) (by omega) (by omega) W
        have hx1 := fun W => idx31 DB (4 * (r : Int) + 1) (4 * r + 1) (by omega) (by omega) W
        have hx2 := fun W => idx31 DB (4 * (r : Int) + 2) (4 * r + 2) (by omega) (by omega) W
        have hx3 := fun W => idx31 DB (4 * (r : Int) + 3) (4 * r + 3) (by omega) (by omega) W
        have c0 : wo.cell? ⟨DB, 4 * r, none⟩ = some (.int .u8 ((dS W1 r).getD (4 * r) 0)) := cell_of_blk HDB.out (by rw [List.getElem?_toArray]; exact bV_getD _ _ (by rw [dS_len]; omega))
        have c1 : wo.cell? ⟨DB, 4 * r + 1, none⟩ = some (.int .u8 ((dS W1 r).getD (4 * r + 1) 0)) := cell_of_blk HDB.out (by rw [List.getElem?_toArray]; exact bV_getD _ _ (by rw [dS_len]; omega))
        have c2 : wo.cell? ⟨DB, 4 * r + 2, none⟩ = some (.int .u8 ((dS W1 r).getD (4 * r + 2) 0)) := cell_of_blk HDB.out (by rw [List.getElem?_toArray]; exact bV_getD _ _ (by rw [dS_len]; omega))
        have c3 : wo.cell? ⟨DB, 4 * r + 3, none⟩ = some (.int .u8 ((dS W1 r).getD (4 * r + 3) 0)) := cell_of_blk HDB.out (by rw [List.getElem?_toArray]; exact bV_getD _ _ (by rw [dS_len]; omega))
        have fz0 := thaw HDB.out (4 * r)
        have fz1 := thaw HDB.out (4 * r + 1)
        have fz2 := thaw HDB.out (4 * r + 2)
        have fz3 := thaw HDB.out (4 * r + 3)
        have hbc := cell_lt c0
        generalize W1.getD r 0 = x at *
        go_upto_region 16 with fail
        have HDN := Lib.hid (show ((((wo.setCell ⟨DB, 4 * r, none⟩ (.int .u8 (x / 16777216 % 256))).setCell ⟨DB, 4 * r + 1, none⟩ (.int .u8 (x / 65536 % 256))).setCell ⟨DB, 4 * r + 2, none⟩ (.int .u8 (x / 256 % 256))).setCell ⟨DB, 4 * r + 3, none⟩ (.int .u8 (x % 256))).heap[DB]? = some (.cells (bV (dS W1 (r + 1))).toArray 31) by
          rw [HWR.out, ← bV_setA, ← bV_setA, ← bV_setA, ← bV_setA]
          exact setCell_heap (setCell_heap (setCell_heap (setCell_heap HDB.out))))
        have HBN := Lib.hid (show Below DB w9 ((((wo.setCell ⟨DB, 4 * r, none⟩ (.int .u8 (x / 16777216 % 256))).setCell ⟨DB, 4 * r + 1, none⟩ (.int .u8 (x / 65536 % 256))).setCell ⟨DB, 4 * r + 2, none⟩ (.int .u8 (x / 256 % 256))).setCell ⟨DB, 4 * r + 3, none⟩ (.int .u8 (x % 256))) from (((HBD.out.setCell (Nat.le_refl _) _).setCell (Nat.le_refl _) _).setCell (Nat.le_refl _) _).setCell (Nat.le_refl _) _)
        clear c0 c1 c2 c3 fz0 fz1 fz2 fz3 hbc hm4 hm41 hm42 hm43 hx0 hx1 hx2 hx3 hix
        have hlt9 := HJ.out
        go_wp2_with fail
        go_roundw
        case rel => exact ⟨r + 1, by have := HJ.out; omega, by go_num, HDN, HBN⟩
        case measure => have := HJ.out; simp [intOf]; omega
      · have HR8E := Lib.hid (show r = 8 by omega)
        have hd8 : decide ((r : Int) < 8) = false := by rw [HR8E.out]; rfl
        have hn8 : ¬ (r : Int) < 8 := by omega
        clear hlt hr
        obtain ⟨arrD, HAD⟩ : ∃ a, Hid (a = (bV (dS W1 r)).toArray) := ⟨_, Lib.hid rfl⟩
        rw [← HAD.out] at HDB
        have HADS := Lib.hid (show arrD.size = 32 by rw [HAD.out, List.size_toArray]; unfold bV; rw [List.length_map, dS_len])
        have HADO := Lib.hid (show arrD.all (·.oneCell') = true by rw [HAD.out]; exact bV_ones _)
        have HRE := Lib.hid ((HBD.out.block RB HRD.out).trans HR9.out)
        go_wp2_with (first | (refine wpList_load_row rfl 31 _ rfl DB rfl 31 arrD (0, 0) _ HDB.out Tryz.underlying31 rfl (by rw [HADS.out]; exact info31) ?_) | (refine wpList_store_row rfl 31 _ _ rfl RB arrD rfl rfl 31 _ HRE.out (by rw [HADS.out]; exact info31) (by rw [HADS.out]; rfl) HADO.out ?_))
        try simp only [Act.put]
        refine bodyPost_ret (v := .agg arrD) (results_cell_row Tryz.results29 _ _ RB 31 _ (0, 0) _ rfl (setRow_heap wo RB _ _ 31 (0, 0) HRE.out) Tryz.underlying31 rfl (by rw [HADS.out]; exact info31)) rfl ?_
        exact ⟨by rw [HAD.out, sumF_eq HM8.out HE8.out HPN.out HL.out (by rw [HRR.out]; exact HW1.out) HR8E.out], more_of (by rw [← HRB.out]; exact below_setRow (HB9.out.trans (HBD.out.mono (Nat.le_of_lt HRD.out))) (Nat.le_refl _) _)⟩
  · have hle : decide (56 - (i : Int) ≤ 0) = true := decide_eq_true (by omega)
    have hn : 0 < n ∧ n ≤ 64 := by have := HNI.out.2 h56; omega
    have hw120 : IntKind.i64.wrap (56 - (i : Int) + 64) = n := by rw [IntKind.wrap_i64]; have := HNI.out.2 h56; omega
    have hpl : 56 - (i : Int) ≤ 0 := by omega
    go_upto_region 8 with fail
    clear hle h56 hw120 hpl
    have hwn : IntKind.i64.wrap ((n : Int) + 8) = n + 8 := by rw [IntKind.wrap_i64]; omega
    have hmk : (Instr.makeSlice 26 (.int .i64 (n : Int)) (.int .i64 ((n : Int) + 8))).run Tryz.prog w3 = .ok (.slice (some ⟨w3.heap.size, 0, none⟩) n (n + 8)) (w3.alloc (.cells (madeCells #[.int .u8 0] (n + 8)) 5)) := by
      have h := make26_any n (n + 8) (by omega) (by omega) w3
      rwa [show ((n + 8 : Nat) : Int) = (n : Int) + 8 by omega] at h
    have HO4 := Lib.hid (made_row w3 n (n + 8) (by omega) (by omega))
    have HM4 := Lib.hid (more_alloc w3 (.cells (madeCells #[.int .u8 0] (n + 8)) 5))
    have HLT3 := Lib.hid (show CB < w3.heap.size from blk_lt HC3.out.blk)
    go_upto_region 9 with fail
    clear hmk hwn
    generalize w3.alloc (.cells (madeCells #[.int .u8 0] (n + 8)) 5) = w4 at *
    obtain ⟨EB, HEB⟩ : ∃ B, Hid (B = w3.heap.size) := ⟨_, Lib.hid rfl⟩
    rw [← HEB.out] at HO4 HLT3 ⊢
    have HB4 := Lib.hid (show Below EB w3 w4 by rw [HEB.out]; exact HM4.out.below)
    have e0 : w4.cell? ⟨EB, 0, none⟩ = some (.int .u8 0) := (Row.of_owns HO4.out).cell0 (by omega)
    have hbe := cell_lt e0
    have fz : w4.frozen? ⟨EB, 0, none⟩ = false := HO4.out.frozenAt 0
    have ST := Lib.hid (HO4.out.stored 0 (.int .u8 128))
    have hnpos : (0 : Int) < n := by omega
    go_upto_region 10 with fail
    clear e0 hbe fz hnpos
    have HO5 := Lib.hid (show (w4.setCell ⟨EB, 0, none⟩ (.int .u8 128)).ownsRow EB 5 1 (.slice (some ⟨EB, 0, none⟩) n (n + 8)) n (bV (128 :: List.replicate (n - 1) 0)) by rw [← pad_set (by omega)]; exact ST.out.1)
    have HB5 := Lib.hid (show Below EB w3 (w4.setCell ⟨EB, 0, none⟩ (.int .u8 128)) from HB4.out.setCell (Nat.le_refl _) _)
    generalize w4.setCell ⟨EB, 0, none⟩ (.int .u8 128) = w5 at *
    have HHB := Lib.hid (show hb < EB by rw [HEB.out]; exact blk_lt HH3.out.blk)
    have HH5 := Lib.hid (HH3.out.keep (HB5.out.block hb HHB.out))
    have ct : w5.cell? ⟨hb, 72, none⟩ = some (.int .u64 (tot : Nat)) := HH5.out.t
    have hbt := cell_lt ct
    have hw8 : IntKind.u64.wrap ((tot : Int) * 8) = tot * 8 := by rw [IntKind.wrap_u64]; omega
    have HC60 := Lib.hid (eight60L ((tot : Int) * 8) m8 L8 w5 HM8.out HE8.out)
    go_wp2_with fail
    refine HC60.out.mono ?_
    rintro e w6 ⟨⟨v6, rfl, ho6⟩, hb6⟩
    have HO6 := Lib.hid ho6
    have HM6 := Lib.hid (more_of hb6)
    obtain ⟨va6, vc6, rfl, _⟩ := owns_shape ho6
    clear ho6 hb6 HC60 ct hbt hw8
    have HO56 := Lib.hid (owns_keep HO5.out (fun z hz => HM6.out.block (HO5.out.lt z hz).2))
    have HR6 := Lib.hid ((Row.of_owns HO6.out).mono (S' := anyB) (fun _ _ => trivial) (fun _ _ _ _ h => h))
    go_wp2_with (at_builtin; refine wpList_append_rowC rfl _ _ 26 rfl EB 5 i0 _ 1 1 Tryz.underlying26 hi0 hz0 hz1 hz2 rfl (by omega) (.slice (some ⟨EB, 0, none⟩) n (n + 8)) n (bV (128 :: List.replicate (n - 1) 0)) rfl HO56.out (.slice va6 8 vc6) 8 (bV L8) rfl HR6.out (owns_nil HO6.out) (bV_one L8) (by unfold maxLen; omega) (by omega) (Nat.le_trans (Nat.le_of_lt (HO5.out.lt EB rfl).2) HM6.out.size) ?_; intro v7 w7 hown7 hgrow7; obtain ⟨ga, gc, rfl, _⟩ := owns_shape hown7)
    obtain ⟨L, HL⟩ : ∃ L, Hid (128 :: List.replicate (n - 1) 0 ++ L8 = L) := ⟨_, Lib.hid rfl⟩
    have HLL := Lib.hid (show L.length = n + 8 by have h8 := HO6.out.1; unfold bV at h8; rw [List.length_map] at h8; rw [← HL.out, List.length_append, List.length_cons, List.length_replicate, h8]; omega)
    have HQ := Lib.hid (show w7.ownsRow EB 5 1 (.slice ga L.length gc) L.length (bV L) by rw [HLL.out, ← HL.out, bV_append]; exact hown7)
    have HB7 := Lib.hid (show Below EB w3 w7 from (HB5.out.trans (HM6.out.below.mono (Nat.le_of_lt (HO5.out.lt EB rfl).2))).grown hgrow7 (by rw [HEB.out]; exact Nat.le_trans HB5.out.size HM6.out.size) (fun z hz => (HO56.out.lt z hz).1))
    clear hown7 hgrow7
    have HC7 := Lib.hid (HC3.out.keep (HB7.out.block CB HLT3.out))
    have HK7 := Lib.hid (HGK.out.keep (Nat.le_trans HM13.out.size HB7.out.size) ((HB7.out.block 0 (by have := HLT3.out; omega)).trans (HM13.out.block HGK.out.1)))
    obtain ⟨R, HRR⟩ : ∃ R, Hid (wrF KK L.length ws bs tot L = R) := ⟨_, Lib.hid rfl⟩
    have HC28 := Lib.hid (write28_any CB (fun b => EB ≤ b) L _ ws bs tot KK w7 (by rw [HLL.out]; omega) ht HC7.out (ByV.of_owns HQ.out) (fun b hb => by have h1 : EB ≤ b := hb; have := HLT3.out; omega) HK7.out (by have := HRC.out; omega))
    rw [HRR.out, HLL.out] at HC28
    refine HC28.out.mono ?_
    rintro e w8 ⟨rfl, hh8, hg8⟩
    have HC8 := Lib.hid hh8
    have HB8 := Lib.hid (show Below RB w w8 from ((HM13.out.below.mono (by rw [HRB.out]; exact Nat.le_refl _)).trans (HB7.out.mono (by have := HRC.out; have := HLT3.out; omega))).grown hg8 (by rw [HRB.out]; exact Nat.le_trans HM13.out.size HB7.out.size) (fun z hz => by cases hz; exact Nat.le_of_lt HRC.out))
    have HR8 := Lib.hid (((hg8.block RB (Nat.lt_of_lt_of_le (blk_lt HR3.out) HB7.out.size) (by intro e; injection e with e; have := HRC.out; omega)).trans (HB7.out.block RB (by have := HRC.out; have := HLT3.out; omega))).trans HR3.out)
    clear hh8 hg8 HC28
    have HD9 := Lib.hid (alloc_last w8 (.cells (#[.int .u8 0, .int .u8 0, .int .u8 0, .int .u8 0, .int .u8 0, .int .u8 0, .int .u8 0, .int .u8 0, .int .u8 0, .int .u8 0, .int .u8 0, .int .u8 0, .int .u8 0, .int .u8 0, .int .u8 0, .int .u8 0, .int .u8 0, .int .u8 0, .int .u8 0, .int .u8 0, .int .u8 0, .int .u8 0, .int .u8 0, .int .u8 0, .int .u8 0, .int .u8 0, .int .u8 0, .int .u8 0, .int .u8 0, .int .u8 0, .int .u8 0, .int .u8 0] : Array Value) 31))
    have HM9 := Lib.hid (more_alloc w8 (.cells (#[.int .u8 0, .int .u8 0, .int .u8 0, .int .u8 0, .int .u8 0, .int .u8 0, .int .u8 0, .int .u8 0, .int .u8 0, .int .u8 0, .int .u8 0, .int .u8 0, .int .u8 0, .int .u8 0, .int .u8 0, .int .u8 0, .int .u8 0, .int .u8 0, .int .u8 0, .int .u8 0, .int .u8 0, .int .u8 0, .int .u8 0, .int .u8 0, .int .u8 0, .int .u8 0, .int .u8 0, .int .u8 0, .int .u8 0, .int .u8 0, .int .u8 0, .int .u8 0] : Array Value) 31))
    go_upto_region 12 with fail
    have HC9 := Lib.hid (HC8.out.keep (HM9.out.block (blk_lt HC8.out.blk)))
    have HR9 := Lib.hid ((HM9.out.block (blk_lt HR8.out)).trans HR8.out)
    have HRD := Lib.hid (show RB < w8.heap.size from blk_lt HR8.out)
    have HB9 := Lib.hid (show Below RB w (w8.alloc (.cells (#[.int .u8 0, .int .u8 0, .int .u8 0, .int .u8 0, .int .u8 0, .int .u8 0, .int .u8 0, .int .u8 0, .int .u8 0, .int .u8 0, .int .u8 0, .int .u8 0, .int .u8 0, .int .u8 0, .int .u8 0, .int .u8 0, .int .u8 0, .int .u8 0, .int .u8 0, .int .u8 0, .int .u8 0, .int .u8 0, .int .u8 0, .int .u8 0, .int .u8 0, .int .u8 0, .int .u8 0, .int .u8 0, .int .u8 0, .int .u8 0, .int .u8 0, .int .u8 0] : Array Value) 31)) from HB8.out.trans (HM9.out.below.mono (Nat.le_of_lt HRD.out)))
    generalize w8.alloc (.cells (#[.int .u8 0, .int .u8 0, .int .u8 0, .int .u8 0, .int .u8 0, .int .u8 0, .int .u8 0, .int .u8 0, .int .u8 0, .int .u8 0, .int .u8 0, .int .u8 0, .int .u8 0, .int .u8 0, .int .u8 0, .int .u8 0, .int .u8 0, .int .u8 0, .int .u8 0, .int .u8 0, .int .u8 0, .int .u8 0, .int .u8 0, .int .u8 0, .int .u8 0, .int .u8 0, .int .u8 0, .int .u8 0, .int .u8 0, .int .u8 0, .int .u8 0, .int .u8 0] : Array Value) 31) = w9 at *
    generalize w8.heap.size = DB at *
    obtain ⟨W1, HW1⟩ : ∃ l, Hid (R.1 = l) := ⟨_, Lib.hid rfl⟩
    rw [HW1.out] at HC9
    obtain ⟨b0, b1, b2, b3, b4, b5, b6, b7, hb8⟩ := list8 HC9.out.wl
    have c0 : w9.cell? ⟨CB, 0, none⟩ = some (.int .u32 b0) := by have h := HC9.out.w (j := 0) (by omega); rwa [hb8] at h
    have c1 : w9.cell? ⟨CB, 1, none⟩ = some (.int .u32 b1) := by have h := HC9.out.w (j := 1) (by omega); rwa [hb8] at h
    have c2 : w9.cell? ⟨CB, 2, none⟩ = some (.int .u32 b2) := by have h := HC9.out.w (j := 2) (by omega); rwa [hb8] at h
    have c3 : w9.cell? ⟨CB, 3, none⟩ = some (.int .u32 b3) := by have h := HC9.out.w (j := 3) (by omega); rwa [hb8] at h
    have c4 : w9.cell? ⟨CB, 4, none⟩ = some (.int .u32 b4) := by have h := HC9.out.w (j := 4) (by omega); rwa [hb8] at h
    have c5 : w9.cell? ⟨CB, 5, none⟩ = some (.int .u32 b5) := by have h := HC9.out.w (j := 5) (by omega); rwa [hb8] at h
    have c6 : w9.cell? ⟨CB, 6, none⟩ = some (.int .u32 b6) := by have h := HC9.out.w (j := 6) (by omega); rwa [hb8] at h
    have c7 : w9.cell? ⟨CB, 7, none⟩ = some (.int .u32 b7) := by have h := HC9.out.w (j := 7) (by omega); rwa [hb8] at h
    have hbc := cell_lt c0
    have HB8E := Lib.hid hb8
    clear hb8
    go_upto_region 13 with fail
    clear c0 c1 c2 c3 c4 c5 c6 c7 hbc
    have HIX := Lib.hid (fun (j : Nat) (hj : j < 8) (W : World) => index109 b0 b1 b2 b3 b4 b5 b6 b7 j hj W)
    rw [← HB8E.out] at HIX
    obtain ⟨AG, HAG⟩ : ∃ AG, Hid (AG = Value.agg #[.int .u32 b0, .int .u32 b1, .int .u32 b2, .int .u32 b3, .int .u32 b4, .int .u32 b5, .int .u32 b6, .int .u32 b7]) := ⟨_, Lib.hid rfl⟩
    rw [← HAG.out]
    rw [← HAG.out] at HIX
    go_loopw [43] (fun i wr => ∃ j : Nat, j ≤ 8 ∧ i = .int .i64 j ∧ Hid (wr.heap[DB]? = some (.cells (bV (dS W1 j)).toArray 31)) ∧ Hid (Below DB w9 wr)) (fun i _ => 8 - (intOf i).toNat)
    case atStart => exact ⟨0, Nat.zero_le _, rfl, HD9, Lib.hid (Below.refl _ _)⟩
    case round =>
      obtain ⟨r, hr, rfl, HDB, HBD⟩ := hrel
      obtain ⟨wo, rfl⟩ : ∃ wo : World, wo = wr := ⟨_, rfl⟩
      by_cases hlt : r < 8
      · have HJ := Lib.hid hlt
        have hri : (r : Int) < 8 := by omega
        have hix := fun W => HIX.out r hlt W
        have HWR := Lib.hid (show dS W1 (r + 1) = ((((dS W1 r).set (4 * r) (W1.getD r 0 / 16777216 % 256)).set (4 * r + 1) (W1.getD r 0 / 65536 % 256)).set (4 * r + 2) (W1.getD r 0 / 256 % 256)).set (4 * r + 3) (W1.getD r 0 % 256) from rfl)
        have hm4 : IntKind.i64.wrap (4 * (r : Int)) = 4 * r := by rw [IntKind.wrap_i64]; omega
        have hm41 : IntKind.i64.wrap (4 * (r : Int) + 1) = 4 * r + 1 := by rw [IntKind.wrap_i64]; omega
        have hm42 : IntKind.i64.wrap (4 * (r : Int) + 2) = 4 * r + 2 := by rw [IntKind.wrap_i64]; omega
        have hm43 : IntKind.i64.wrap (4 * (r : Int) + 3) = 4 * r + 3 := by rw [IntKind.wrap_i64]; omega
        have hx0 := fun W => idx31 DB (4 * (r : Int)) (4 * r) (by omega) (by omega) W
        have hx1 := fun W => idx31 DB (4 * (r : Int) + 1) (4 * r + 1) (by omega) (by omega) W
        have hx2 := fun W => idx31 DB (4 * (r : Int) + 2) (4 * r + 2) (by omega) (by omega) W
        have hx3 := fun W => idx31 DB (4 * (r : Int) + 3) (4 * r + 3) (by omega) (by omega) W
        have c0 : wo.cell? ⟨DB, 4 * r, none⟩ = some (.int .u8 ((dS W1 r).getD (4 * r) 0)) := cell_of_blk HDB.out (by rw [List.getElem?_toArray]; exact bV_getD _ _ (by rw [dS_len]; omega))
        have c1 : wo.cell? ⟨DB, 4 * r + 1, none⟩ = some (.int .u8 ((dS W1 r).getD (4 * r + 1) 0)) := cell_of_blk HDB.out (by rw [List.getElem?_toArray]; exact bV_getD _ _ (by rw [dS_len]; omega))
        have c2 : wo.cell? ⟨DB, 4 * r + 2, none⟩ = some (.int .u8 ((dS W1 r).getD (4 * r + 2) 0)) := cell_of_blk HDB.out (by rw [List.getElem?_toArray]; exact bV_getD _ _ (by rw [dS_len]; omega))
        have c3 : wo.cell? ⟨DB, 4 * r + 3, none⟩ = some (.int .u8 ((dS W1 r).getD (4 * r + 3) 0)) := cell_of_blk HDB.out (by rw [List.getElem?_toArray]; exact bV_getD _ _ (by rw [dS_len]; omega))
        have fz0 := thaw HDB.out (4 * r)
        have fz1 := thaw HDB.out (4 * r + 1)
        have fz2 := thaw HDB.out (4 * r + 2)
        have fz3 := thaw HDB.out (4 * r + 3)
        have hbc := cell_lt c0
        generalize W1.getD r 0 = x at *
        go_upto_region 16 with fail
        have HDN := Lib.hid (show ((((wo.setCell ⟨DB, 4 * r, none⟩ (.int .u8 (x / 16777216 % 256))).setCell ⟨DB, 4 * r + 1, none⟩ (.int .u8 (x / 65536 % 256))).setCell ⟨DB, 4 * r + 2, none⟩ (.int .u8 (x / 256 % 256))).setCell ⟨DB, 4 * r + 3, none⟩ (.int .u8 (x % 256))).heap[DB]? = some (.cells (bV (dS W1 (r + 1))).toArray 31) by
          rw [HWR.out, ← bV_setA, ← bV_setA, ← bV_setA, ← bV_setA]
          exact setCell_heap (setCell_heap (setCell_heap (setCell_heap HDB.out))))
        have HBN := Lib.hid (show Below DB w9 ((((wo.setCell ⟨DB, 4 * r, none⟩ (.int .u8 (x / 16777216 % 256))).setCell ⟨DB, 4 * r + 1, none⟩ (.int .u8 (x / 65536 % 256))).setCell ⟨DB, 4 * r + 2, none⟩ (.int .u8 (x / 256 % 256))).setCell ⟨DB, 4 * r + 3, none⟩ (.int .u8 (x % 256))) from (((HBD.out.setCell (Nat.le_refl _) _).setCell (Nat.le_refl _) _).setCell (Nat.le_refl _) _).setCell (Nat.le_refl _) _)
        clear c0 c1 c2 c3 fz0 fz1 fz2 fz3 hbc hm4 hm41 hm42 hm43 hx0 hx1 hx2 hx3 hix
        have hlt9 := HJ.out
        go_wp2_with fail
        go_roundw
        case rel => exact ⟨r + 1, by have := HJ.out; omega, by go_num, HDN, HBN⟩
        case measure => have := HJ.out; simp [intOf]; omega
      · have HR8E := Lib.hid (show r = 8 by omega)
        have hd8 : decide ((r : Int) < 8) = false := by rw [HR8E.out]; rfl
        have hn8 : ¬ (r : Int) < 8 := by omega
        clear hlt hr
        obtain ⟨arrD, HAD⟩ : ∃ a, Hid (a = (bV (dS W1 r)).toArray) := ⟨_, Lib.hid rfl⟩
        rw [← HAD.out] at HDB
        have HADS := Lib.hid (show arrD.size = 32 by rw [HAD.out, List.size_toArray]; unfold bV; rw [List.length_map, dS_len])
        have HADO := Lib.hid (show arrD.all (·.oneCell') = true by rw [HAD.out]; exact bV_ones _)
        have HRE := Lib.hid ((HBD.out.block RB HRD.out).trans HR9.out)
        go_wp2_with (first | (refine wpList_load_row rfl 31 _ rfl DB rfl 31 arrD (0, 0) _ HDB.out Tryz.underlying31 rfl (by rw [HADS.out]; exact info31) ?_) | (refine wpList_store_row rfl 31 _ _ rfl RB arrD rfl rfl 31 _ HRE.out (by rw [HADS.out]; exact info31) (by rw [HADS.out]; rfl) HADO.out ?_))
        try simp only [Act.put]
        refine bodyPost_ret (v := .agg arrD) (results_cell_row Tryz.results29 _ _ RB 31 _ (0, 0) _ rfl (setRow_heap wo RB _ _ 31 (0, 0) HRE.out) Tryz.underlying31 rfl (by rw [HADS.out]; exact info31)) rfl ?_
        exact ⟨by rw [HAD.out, sumF_eq HM8.out HE8.out HPN.out HL.out (by rw [HRR.out]; exact HW1.out) HR8E.out], more_of (by rw [← HRB.out]; exact below_setRow (HB9.out.trans (HBD.out.mono (Nat.le_of_lt HRD.out))) (Nat.le_refl _) _)⟩
/-- SHA-256 as a function of the bytes. -/
def shaF (KK l : List Int) : List Int := sumF KK (wrF KK l.length ivW (List.replicate 64 0) 0 l).1 (wrF KK l.length ivW (List.replicate 64 0) 0 l).2.1 (wrF KK l.length ivW (List.replicate 64 0) 0 l).2.2
set_option maxRecDepth 100000 in
set_option maxHeartbeats 4000000 in
theorem sum11_any (S : Nat → Prop) (l : List Int) (v : Value) (KK : List Int) (w : World) (hl : l.length ≤ 1000000) (hv : ByV S w l v) (hK : GlobK w KK) :
    Calls Tryz.prog 11 #[v] w fun e w' => e = .returned (.agg (bV (shaF KK l)).toArray) ∧ More w w' := by
  obtain ⟨Z, HZE⟩ : ∃ Z, Hid (Z = List.replicate 64 (0 : Int)) := ⟨_, Lib.hid rfl⟩
  have HF := Lib.hid (show shaF KK l = sumF KK (wrF KK l.length ivW Z 0 l).1 (wrF KK l.length ivW Z 0 l).2.1 (wrF KK l.length ivW Z 0 l).2.2 by rw [HZE.out]; rfl)
  rw [HF.out]
  clear HF
  have hT : (wrF KK l.length ivW Z 0 l).2.2 ≤ 1000000 := by have := wrF_tot KK l.length ivW Z 0 l; omega
  have HK := Lib.hid hK; clear hK
  have HV := Lib.hid hv; clear hv
  obtain ⟨RB, HRB⟩ : ∃ B, Hid (B = w.heap.size) := ⟨_, Lib.hid rfl⟩
  have HR0 := Lib.hid (alloc_last w (.cells (#[.int .u8 0, .int .u8 0, .int .u8 0, .int .u8 0, .int .u8 0, .int .u8 0, .int .u8 0, .int .u8 0, .int .u8 0, .int .u8 0, .int .u8 0, .int .u8 0, .int .u8 0, .int .u8 0, .int .u8 0, .int .u8 0, .int .u8 0, .int .u8 0, .int .u8 0, .int .u8 0, .int .u8 0, .int .u8 0, .int .u8 0, .int .u8 0, .int .u8 0, .int .u8 0, .int .u8 0, .int .u8 0, .int .u8 0, .int .u8 0, .int .u8 0, .int .u8 0] : Array Value) 31))
  have HM1 := Lib.hid (more_alloc w (.cells (#[.int .u8 0, .int .u8 0, .int .u8 0, .int .u8 0, .int .u8 0, .int .u8 0, .int .u8 0, .int .u8 0, .int .u8 0, .int .u8 0, .int .u8 0, .int .u8 0, .int .u8 0, .int .u8 0, .int .u8 0, .int .u8 0, .int .u8 0, .int .u8 0, .int .u8 0, .int .u8 0, .int .u8 0, .int .u8 0, .int .u8 0, .int .u8 0, .int .u8 0, .int .u8 0, .int .u8 0, .int .u8 0, .int .u8 0, .int .u8 0, .int .u8 0, .int .u8 0] : Array Value) 31))
  rw [← HRB.out] at HR0
  obtain ⟨va, vc, hve, _⟩ := HV.out
  subst hve
  go_enter Tryz.func11, Tryz.ntmps11
  go_upto_region 1 with fail
  rw [← HRB.out]
  generalize w.alloc (.cells (#[.int .u8 0, .int .u8 0, .int .u8 0, .int .u8 0, .int .u8 0, .int .u8 0, .int .u8 0, .int .u8 0, .int .u8 0, .int .u8 0, .int .u8 0, .int .u8 0, .int .u8 0, .int .u8 0, .int .u8 0, .int .u8 0, .int .u8 0, .int .u8 0, .int .u8 0, .int .u8 0, .int .u8 0, .int .u8 0, .int .u8 0, .int .u8 0, .int .u8 0, .int .u8 0, .int .u8 0, .int .u8 0, .int .u8 0, .int .u8 0, .int .u8 0, .int .u8 0] : Array Value) 31) = w1 at *
  have HN := Lib.hid (new27_any w1)
  go_wp2_with fail
  refine HN.out.mono ?_
  rintro e w2 ⟨rfl, hh2, hm2⟩
  rw [← HZE.out] at hh2
  have HH2 := Lib.hid hh2
  have HM2 := Lib.hid (more_trans HM1.out hm2)
  have HRL := Lib.hid (show RB < w1.heap.size from blk_lt HR0.out)
  have HR2 := Lib.hid ((hm2.block (blk_lt HR0.out)).trans HR0.out)
  clear hh2 hm2 HN
  generalize w1.heap.size = HB at *
  have HV2 := Lib.hid (show ByV (fun b => b < RB) w2 l (.slice va l.length vc) from (ByV.lt' HV.out HRB.out).below' HM2.out HRB.out)
  have HC28 := Lib.hid (write28_any HB (fun b => b < RB) l _ ivW Z 0 KK w2 hl (by omega) HH2.out HV2.out (fun b hb => by have h1 : b < RB := hb; have := HRL.out; omega) (HK.out.keep HM2.out.size (HM2.out.block HK.out.1)) (by have := HRL.out; omega))
  obtain ⟨R, HRR⟩ : ∃ R, Hid (R = wrF KK l.length ivW Z 0 l) := ⟨_, Lib.hid rfl⟩
  rw [← HRR.out] at hT HC28
  go_wp2_with fail
  refine HC28.out.mono ?_
  rintro e w3 ⟨rfl, hh3, hg3⟩
  have HH3 := Lib.hid hh3
  have HB3 := Lib.hid (show Below RB w w3 from (HM2.out.below.mono (by rw [HRB.out]; exact Nat.le_refl _)).grown hg3 (by rw [HRB.out]; exact HM2.out.size) (fun z hz => by cases hz; exact Nat.le_of_lt HRL.out))
  have HR3 := Lib.hid ((hg3.block RB (blk_lt HR2.out) (by intro e; injection e with e; have := HRL.out; omega)).trans HR2.out)
  clear hh3 hg3 HC28
  have HC29 := Lib.hid (sum29_any HB R.1 R.2.1 R.2.2 KK w3 hT HH3.out (HK.out.keep (by rw [HRB.out] at HB3; exact HB3.out.size) (HB3.out.block 0 (by rw [HRB.out]; exact HK.out.1))))
  obtain ⟨arrD, HAD⟩ : ∃ a, Hid (a = (bV (sumF KK R.1 R.2.1 R.2.2)).toArray) := ⟨_, Lib.hid rfl⟩
  rw [← HAD.out] at HC29
  have HADS := Lib.hid (show arrD.size = 32 by rw [HAD.out, List.size_toArray]; unfold bV sumF; rw [List.length_map, dS_len])
  have HADO := Lib.hid (show arrD.all (·.oneCell') = true by rw [HAD.out]; exact bV_ones _)
  go_wp2_with fail
  refine HC29.out.mono ?_
  rintro e w4 ⟨rfl, hm4⟩
  have HB4 := Lib.hid (HB3.out.trans (hm4.below.mono (Nat.le_of_lt (blk_lt HR3.out))))
  have HR4 := Lib.hid ((hm4.block (blk_lt HR3.out)).trans HR3.out)
  clear hm4 HC29
  go_wp2_with (refine wpList_store_row rfl 31 _ _ rfl RB arrD rfl rfl 31 _ HR4.out (by rw [HADS.out]; exact info31) (by rw [HADS.out]; rfl) HADO.out ?_)
  try simp only [Act.put]
  refine bodyPost_ret (v := .agg arrD) (results_cell_row Tryz.results11 _ _ RB 31 _ (0, 0) _ rfl (setRow_heap w4 RB _ _ 31 (0, 0) HR4.out) Tryz.underlying31 rfl (by rw [HADS.out]; exact info31)) rfl ?_
  exact ⟨by rw [HAD.out, HRR.out], more_of (by rw [← HRB.out]; exact below_setRow HB4.out (Nat.le_refl _) _)⟩
end Go.Proofs.YtemeppfikpafbaaGreatDoor

