/- Texts BytW, Law, Facts, laid together. -/
import Derived.Carry
import Derived.ChangeSame
import Derived.ProofKit
import Derived.JoinedOf
import Derived.Test.YtemeppfikpafbaaGreatDoorRows
import Derived.KernelRfl
import Derived.Test.YtemeppfikpafbaaGreatDoorBa
import Derived.Test.YtemeppfikpafbaaGreatDoorBn
import Derived.Test.YtemeppfikpafbaaGreatDoorBx
import Derived.Test.YtemeppfikpafbaaGreatDoorBz
/- (certificate.Certificate).ID (10) and the walk of CertificateBytes (3). -/
namespace Go.Proofs.YtemeppfikpafbaaGreatDoor
open Go.RowKit
/-- The bytes of a certificate that Check accepts; none for another one. -/
def PEnc (fl : List Int) (c : Cert) (p : List Int) : Prop := (Chk c 0 ∧ p = encCt fl c) ∨ (¬ Chk c 0 ∧ p = [])
theorem PEnc.ex (fl : List Int) (c : Cert) : ∃ p, PEnc fl c p := by
  by_cases h : Chk c 0
  · exact ⟨_, Or.inl ⟨h, rfl⟩⟩
  · exact ⟨_, Or.inr ⟨h, rfl⟩⟩
theorem PEnc.len {fl p : List Int} {c : Cert} (h : PEnc fl c p) (hf : fl.length = 32) (hsl : c.S.length ≤ 96) (hok : ∀ x ∈ c.S, CgOk x.2) (hi : ∀ x ∈ c.S, ∀ n ∈ x.2.l, In64 n) (hh : ∀ x ∈ c.H, ∀ a ∈ x.2.al, ∀ n ∈ a.2.l, In64 n) : p.length ≤ 100000 := by
  rcases h with ⟨h, rfl⟩ | ⟨_, rfl⟩
  · exact encCt_len hf hsl hok hi hh h
  · exact Nat.zero_le _
theorem bytes6_enc (arr : Array Value) (c : Cert) (fl p : List Int) (w : World) (hp : PEnc fl c p) (hc : CertAt w arr c) (hfl : fl.length = 32) (hfa : ∀ (j : Nat) (n : Int), fl[j]? = some n → arr[j]? = some (.int .u8 n)) (hi : ∀ p ∈ c.S, ∀ n ∈ p.2.l, In64 n) (hh : ∀ p ∈ c.H, ∀ a ∈ p.2.al, ∀ n ∈ a.2.l, In64 n) :
    Calls Tryz.prog 6 #[.agg arr] w fun e w' => (∃ v, e = .returned v ∧ w'.ownsRow w.heap.size 5 1 v p.length (bV p)) ∧ Below w.heap.size w w' := by
  rcases hp with ⟨hk, rfl⟩ | ⟨hk, rfl⟩
  · exact bytes56_ok arr c fl w hc hfl hfa hi hh hk
  · refine (bytes56_bad arr c w hc hk).mono ?_
    rintro e w' ⟨rfl, hb⟩
    exact ⟨⟨_, rfl, World.ownsRow_nil _ _ _ _⟩, hb⟩
theorem refB8_enc (arr : Array Value) (c : Cert) (kv : Value) (fl p : List Int) (w : World) (hp : PEnc fl c p) (hc : RefAt w arr c kv) (hfl : fl.length = 32) (hfa : ∀ (j : Nat) (n : Int), fl[j]? = some n → arr[j]? = some (.int .u8 n)) (hok : ∀ p ∈ c.S, CgOk p.2) (hi : ∀ p ∈ c.S, ∀ n ∈ p.2.l, In64 n) (hh : ∀ p ∈ c.H, ∀ a ∈ p.2.al, ∀ n ∈ a.2.l, In64 n) :
    Calls Tryz.prog 8 #[.agg arr] w fun e w' => (∃ v, e = .returned v ∧ w'.ownsRow w.heap.size 5 1 v p.length (bV p)) ∧ Below w.heap.size w w' := by
  rcases hp with ⟨hk, rfl⟩ | ⟨hk, rfl⟩
  · exact refB8_ok arr c kv fl w hc hfl hfa hok hi hh hk
  · refine (refB8_bad arr c kv w hc hk).mono ?_
    rintro e w' ⟨rfl, hb⟩
    exact ⟨⟨_, rfl, World.ownsRow_nil _ _ _ _⟩, hb⟩
theorem more_refl (w : World) : More w w := more_of (Below.refl _ _)
theorem shaF_len (KK l : List Int) : (shaF KK l).length = 32 := by
  unfold shaF
  simp only [sumF, dS_len]
theorem sha_items (KK l : List Int) : ∀ v ∈ bV (shaF KK l), ∃ n : Int, v = .int .u8 n := fun v hv => by
  unfold bV at hv
  obtain ⟨x, _, rfl⟩ := List.mem_map.1 hv
  exact ⟨x, rfl⟩
/-- Two sums of the same bytes are not different. -/
theorem neq31_same {fl : List Value} (hl : fl.length = 32) (h : ∀ v ∈ fl, ∃ n : Int, v = .int .u8 n) (w : World) : (binOp .neq 31 (.agg fl.toArray) (.agg fl.toArray)).run Tryz.prog w = .ok (.bool false) w := by
  have h1 := eqFl_same hl h w
  rw [run_eql_struct] at h1
  rw [run_neq_struct]
  cases hr : (Op.equalIn 10000 31 (.agg fl.toArray) (.agg fl.toArray)).run Tryz.prog w with
  | ok b w1 =>
    rw [hr] at h1
    simp only [Result.andThen, Result.ok.injEq, Value.bool.injEq] at h1 ⊢
    obtain ⟨rfl, rfl⟩ := h1
    exact ⟨rfl, rfl⟩
  | halt e w1 =>
    rw [hr] at h1
    simp only [Result.andThen] at h1
    cases h1
set_option maxRecDepth 100000 in
set_option maxHeartbeats 2000000 in
theorem id10_any (arr : Array Value) (p KK : List Int) (w : World) (hs : arr.size = 39) (hl : p.length ≤ 1000000) (hK : GlobK w KK)
    (hP : ∀ W, More w W → Calls Tryz.prog 6 #[.agg arr] W fun e w' => (∃ v, e = .returned v ∧ w'.ownsRow W.heap.size 5 1 v p.length (bV p)) ∧ Below W.heap.size W w') :
    Calls Tryz.prog 10 #[.agg arr] w fun e w' => e = .returned (.agg (bV (shaF KK p)).toArray) ∧ More w w' := by
  have HP := Lib.hid hP; clear hP
  have HK := Lib.hid hK; clear hK
  have HS := Lib.hid hs; clear hs
  have HL := Lib.hid hl; clear hl
  obtain ⟨N, HN⟩ : ∃ N, Hid (N = w.heap.size) := ⟨_, Lib.hid rfl⟩
  have HB0 := Lib.hid (alloc_last w (.cells arr 35))
  have HM0 := Lib.hid (more_alloc w (.cells arr 35))
  obtain ⟨wa, HWA⟩ : ∃ wa, Hid (wa = w.alloc (.cells arr 35)) := ⟨_, Lib.hid rfl⟩
  rw [← HWA.out] at HB0 HM0
  rw [← HN.out] at HB0
  have HR1 := Lib.hid (alloc_last wa (.cells (#[.int .u8 0, .int .u8 0, .int .u8 0, .int .u8 0, .int .u8 0, .int .u8 0, .int .u8 0, .int .u8 0, .int .u8 0, .int .u8 0, .int .u8 0, .int .u8 0, .int .u8 0, .int .u8 0, .int .u8 0, .int .u8 0, .int .u8 0, .int .u8 0, .int .u8 0, .int .u8 0, .int .u8 0, .int .u8 0, .int .u8 0, .int .u8 0, .int .u8 0, .int .u8 0, .int .u8 0, .int .u8 0, .int .u8 0, .int .u8 0, .int .u8 0, .int .u8 0] : Array Value) 31))
  have HM1 := Lib.hid (more_alloc wa (.cells (#[.int .u8 0, .int .u8 0, .int .u8 0, .int .u8 0, .int .u8 0, .int .u8 0, .int .u8 0, .int .u8 0, .int .u8 0, .int .u8 0, .int .u8 0, .int .u8 0, .int .u8 0, .int .u8 0, .int .u8 0, .int .u8 0, .int .u8 0, .int .u8 0, .int .u8 0, .int .u8 0, .int .u8 0, .int .u8 0, .int .u8 0, .int .u8 0, .int .u8 0, .int .u8 0, .int .u8 0, .int .u8 0, .int .u8 0, .int .u8 0, .int .u8 0, .int .u8 0] : Array Value) 31))
  go_enter Tryz.func10, Tryz.ntmps10
  go_upto_region 1 with fail
  rw [← HN.out, ← HWA.out]
  generalize wa.alloc (.cells (#[.int .u8 0, .int .u8 0, .int .u8 0, .int .u8 0, .int .u8 0, .int .u8 0, .int .u8 0, .int .u8 0, .int .u8 0, .int .u8 0, .int .u8 0, .int .u8 0, .int .u8 0, .int .u8 0, .int .u8 0, .int .u8 0, .int .u8 0, .int .u8 0, .int .u8 0, .int .u8 0, .int .u8 0, .int .u8 0, .int .u8 0, .int .u8 0, .int .u8 0, .int .u8 0, .int .u8 0, .int .u8 0, .int .u8 0, .int .u8 0, .int .u8 0, .int .u8 0] : Array Value) 31) = w1 at *
  obtain ⟨RB, HRB⟩ : ∃ B, Hid (B = wa.heap.size) := ⟨_, Lib.hid rfl⟩
  have HRB2 := Lib.hid (show N + 1 = RB by rw [HRB.out, HWA.out, World.size_alloc, HN.out])
  rw [← HRB.out] at HR1
  rw [HRB2.out]
  have HB1 := Lib.hid ((HM1.out.block (blk_lt HB0.out)).trans HB0.out)
  have HMA := Lib.hid (more_trans HM0.out HM1.out)
  have HRN := Lib.hid (show N ≤ RB by rw [HRB.out]; exact Nat.le_of_lt (blk_lt HB0.out))
  go_wp2_with (refine wpList_load98 rfl _ rfl N rfl arr HB1.out HS.out ?_)
  refine (HP.out w1 HMA.out).mono ?_
  rintro e w2 ⟨⟨v, rfl, hv⟩, hb2⟩
  have HV := Lib.hid hv
  have HM2 := Lib.hid (more_trans HMA.out (more_of hb2))
  have HR2 := Lib.hid (((more_of hb2).block (blk_lt HR1.out)).trans HR1.out)
  obtain ⟨va, vc, rfl, _⟩ := owns_shape hv
  clear hv hb2
  have HC := Lib.hid (sum11_any (fun z => w1.heap.size ≤ z) p _ KK w2 HL.out (ByV.of_owns HV.out) (HK.out.keep HM2.out.size (HM2.out.block HK.out.1)))
  obtain ⟨arrD, HAD⟩ : ∃ a, Hid (a = (bV (shaF KK p)).toArray) := ⟨_, Lib.hid rfl⟩
  rw [← HAD.out] at HC
  have HADS := Lib.hid (show arrD.size = 32 by rw [HAD.out, List.size_toArray]; unfold bV; rw [List.length_map, shaF_len])
  have HADO := Lib.hid (show arrD.all (·.oneCell') = true by rw [HAD.out]; exact bV_ones _)
  go_wp2_with fail
  refine HC.out.mono ?_
  rintro e w3 ⟨rfl, hm3⟩
  have HR3 := Lib.hid ((hm3.block (blk_lt HR2.out)).trans HR2.out)
  have HM3 := Lib.hid (more_trans HM2.out hm3)
  clear hm3 HC
  go_wp2_with (refine wpList_store_row rfl 31 _ _ rfl RB arrD rfl rfl 31 _ HR3.out (by rw [HADS.out]; exact info31) (by rw [HADS.out]; rfl) HADO.out ?_)
  try simp only [Act.put]
  refine bodyPost_ret (v := .agg arrD) (results_cell_row Tryz.results10 _ _ RB 31 _ (0, 0) _ rfl (setRow_heap w3 RB _ _ 31 (0, 0) HR3.out) Tryz.underlying31 rfl (by rw [HADS.out]; exact info31)) rfl ?_
  exact ⟨by rw [HAD.out], more_of (below_setRow HM3.out.below (by rw [← HN.out]; exact HRN.out) _)⟩
set_option maxRecDepth 100000 in
set_option maxHeartbeats 8000000 in
theorem bytes_walk (x : RawC) (KK : List Int) (w : World) (hx : x.Ok w) (hK : GlobK w KK) : Calls Tryz.prog 3 #[.agg x.cells.toArray] w fun e w' => e = .returned (.bool true) ∧ Below w.heap.size w w' := by
  have HX := Lib.hid hx; clear hx
  have HK := Lib.hid hK; clear hK
  have HSR := Lib.hid (raw_size x)
  have HC49 := Lib.hid (fun W (hW : More w W) => of49_any x W (HX.out.more hW))
  generalize x.cells.toArray = R at *
  obtain ⟨N, HN⟩ : ∃ N, Hid (N = w.heap.size) := ⟨_, Lib.hid rfl⟩
  have HB1 := Lib.hid (alloc_last w (.cells R 28))
  have HM1 := Lib.hid (more_alloc w (.cells R 28))
  rw [← HN.out] at HB1 ⊢
  go_enter Tryz.func3, Tryz.ntmps3
  go_upto_region 1 with (fail)
  rw [← HN.out]
  generalize w.alloc (.cells R 28) = w1 at *
  go_wp2_with fail
  refine (awake48_any w1).mono ?_
  rintro e w2 ⟨rfl, hb2⟩
  have HM2 := Lib.hid (more_trans HM1.out (more_of hb2))
  have HB2 := Lib.hid (((more_of hb2).block (blk_lt HB1.out)).trans HB1.out)
  clear hb2
  go_wp2_with (refine wpList_load94 rfl _ rfl N rfl R HB2.out HSR.out ?_)
  refine (HC49.out w2 HM2.out).mono ?_
  rintro e w3 ⟨⟨A, c, rfl, hca, hco⟩, hb3⟩
  have HCA := Lib.hid hca
  have HCO := Lib.hid hco
  have HM3 := Lib.hid (more_trans HM2.out (more_of hb3))
  have HAS := Lib.hid hca.size
  clear hca hco hb3
  have HA1 := Lib.hid (show A.all (·.oneCell') = true from cert_ones HCA.out HCO.out)
  have HZ := Lib.hid (alloc_last w3 (.cells (#[.int .u8 0, .int .u8 0, .int .u8 0, .int .u8 0, .int .u8 0, .int .u8 0, .int .u8 0, .int .u8 0, .int .u8 0, .int .u8 0, .int .u8 0, .int .u8 0, .int .u8 0, .int .u8 0, .int .u8 0, .int .u8 0, .int .u8 0, .int .u8 0, .int .u8 0, .int .u8 0, .int .u8 0, .int .u8 0, .int .u8 0, .int .u8 0, .int .u8 0, .int .u8 0, .int .u8 0, .int .u8 0, .int .u8 0, .int .u8 0, .int .u8 0, .int .u8 0, .string (ByteArray.mk #[]), .int .i64 0, .slice none 0 0, .slice none 0 0, .slice none 0 0, .int .i64 0, .int .i64 0] : Array Value) 35))
  have HM4 := Lib.hid (more_alloc w3 (.cells (#[.int .u8 0, .int .u8 0, .int .u8 0, .int .u8 0, .int .u8 0, .int .u8 0, .int .u8 0, .int .u8 0, .int .u8 0, .int .u8 0, .int .u8 0, .int .u8 0, .int .u8 0, .int .u8 0, .int .u8 0, .int .u8 0, .int .u8 0, .int .u8 0, .int .u8 0, .int .u8 0, .int .u8 0, .int .u8 0, .int .u8 0, .int .u8 0, .int .u8 0, .int .u8 0, .int .u8 0, .int .u8 0, .int .u8 0, .int .u8 0, .int .u8 0, .int .u8 0, .string (ByteArray.mk #[]), .int .i64 0, .slice none 0 0, .slice none 0 0, .slice none 0 0, .int .i64 0, .int .i64 0] : Array Value) 35))
  go_upto_region 4 with (refine wpList_store_row rfl 35 _ _ rfl w3.heap.size A rfl rfl 35 _ HZ.out (by rw [HAS.out]; exact info98) (by rw [HAS.out]; rfl) HA1.out ?_)
  try simp only [Act.put]
  have HB5 := Lib.hid (setRow_heap (w3.alloc (.cells (#[.int .u8 0, .int .u8 0, .int .u8 0, .int .u8 0, .int .u8 0, .int .u8 0, .int .u8 0, .int .u8 0, .int .u8 0, .int .u8 0, .int .u8 0, .int .u8 0, .int .u8 0, .int .u8 0, .int .u8 0, .int .u8 0, .int .u8 0, .int .u8 0, .int .u8 0, .int .u8 0, .int .u8 0, .int .u8 0, .int .u8 0, .int .u8 0, .int .u8 0, .int .u8 0, .int .u8 0, .int .u8 0, .int .u8 0, .int .u8 0, .int .u8 0, .int .u8 0, .string (ByteArray.mk #[]), .int .i64 0, .slice none 0 0, .slice none 0 0, .slice none 0 0, .int .i64 0, .int .i64 0] : Array Value) 35)) w3.heap.size _ A 35 (0, 0) HZ.out)
  have HM5 := Lib.hid (show More w3 ((w3.alloc (.cells (#[.int .u8 0, .int .u8 0, .int .u8 0, .int .u8 0, .int .u8 0, .int .u8 0, .int .u8 0, .int .u8 0, .int .u8 0, .int .u8 0, .int .u8 0, .int .u8 0, .int .u8 0, .int .u8 0, .int .u8 0, .int .u8 0, .int .u8 0, .int .u8 0, .int .u8 0, .int .u8 0, .int .u8 0, .int .u8 0, .int .u8 0, .int .u8 0, .int .u8 0, .int .u8 0, .int .u8 0, .int .u8 0, .int .u8 0, .int .u8 0, .int .u8 0, .int .u8 0, .string (ByteArray.mk #[]), .int .i64 0, .slice none 0 0, .slice none 0 0, .slice none 0 0, .int .i64 0, .int .i64 0] : Array Value) 35)).setRow w3.heap.size A) from more_of (below_setRow HM4.out.below (Nat.le_refl _) _))
  generalize (w3.alloc (.cells (#[.int .u8 0, .int .u8 0, .int .u8 0, .int .u8 0, .int .u8 0, .int .u8 0, .int .u8 0, .int .u8 0, .int .u8 0, .int .u8 0, .int .u8 0, .int .u8 0, .int .u8 0, .int .u8 0, .int .u8 0, .int .u8 0, .int .u8 0, .int .u8 0, .int .u8 0, .int .u8 0, .int .u8 0, .int .u8 0, .int .u8 0, .int .u8 0, .int .u8 0, .int .u8 0, .int .u8 0, .int .u8 0, .int .u8 0, .int .u8 0, .int .u8 0, .int .u8 0, .string (ByteArray.mk #[]), .int .i64 0, .slice none 0 0, .slice none 0 0, .slice none 0 0, .int .i64 0, .int .i64 0] : Array Value) 35)).setRow w3.heap.size A = w5 at *
  generalize w3.heap.size = CB at *
  obtain ⟨fl, hfl⟩ := certFl HCO.out
  have HFL := Lib.hid hfl
  clear hfl
  obtain ⟨p, hp⟩ := PEnc.ex fl c
  have HP := Lib.hid hp
  clear hp
  have HPL := Lib.hid (HP.out.len HFL.out.1 HCA.out.set.len HCA.out.set.ok HCO.out.si HCO.out.hi)
  have HM15 := Lib.hid (more_trans HM3.out HM5.out)
  have HC5 := Lib.hid (HCA.out.more HM5.out)
  have HC6 := Lib.hid (fun W (hW : More w5 W) => bytes6_enc A c fl p W HP.out (HC5.out.more hW) HFL.out.1 HFL.out.2.2 HCO.out.si HCO.out.hi)
  go_wp2_with (refine wpList_load98 rfl _ rfl CB rfl A HB5.out HAS.out ?_)
  refine (HC6.out w5 (more_refl w5)).mono ?_
  rintro e w6 ⟨⟨pv, rfl, hpo⟩, hb6⟩
  have HPO := Lib.hid hpo
  have HMA := Lib.hid (more_of hb6)
  have HB6 := Lib.hid ((HMA.out.block (blk_lt HB5.out)).trans HB5.out)
  obtain ⟨pa, pc, rfl, _⟩ := owns_shape hpo
  have HPA := Lib.hid (plain_owns hpo)
  clear hpo hb6
  have HPG := Lib.hid (ByG.of_owns HPO.out)
  have HT9 := Lib.hid (told52_any A c w6 (HC5.out.more HMA.out) (fun i hi => by obtain ⟨n, hn, _⟩ := HCO.out.fl i hi; exact ⟨n, hn⟩) HCO.out.si)
  obtain ⟨pn, HPN⟩ : ∃ n, Hid (p.length = n) := ⟨_, Lib.hid rfl⟩
  rw [HPN.out]
  go_wp2_with (refine wpList_load98 rfl _ rfl CB rfl A HB6.out HAS.out ?_)
  refine HT9.out.mono ?_
  rintro e w7 ⟨⟨A', kv, rfl, href, hfst⟩, hb7⟩
  have HM7 := Lib.hid (more_trans HMA.out (more_of hb7))
  have HP7 := Lib.hid (HPG.out.more (more_of hb7))
  have HB7 := Lib.hid (((more_of hb7).block (blk_lt HB6.out)).trans HB6.out)
  have HC8 := Lib.hid (refB8_enc A' c kv fl p w7 HP.out href HFL.out.1 (fun j n hj => by
    have h1 : j < 32 := by rw [← HFL.out.1]; exact (List.getElem?_eq_some_iff.1 hj).1
    rw [hfst j h1]
    exact HFL.out.2.2 j n hj) HCA.out.set.ok HCO.out.si HCO.out.hi)
  clear href hfst hb7 HT9
  go_wp2_with fail
  refine HC8.out.mono ?_
  rintro e w8 ⟨⟨rv, rfl, hro⟩, hb8⟩
  have HM8 := Lib.hid (more_trans HM7.out (more_of hb8))
  have HP8 := Lib.hid (HP7.out.more (more_of hb8))
  have HB8 := Lib.hid (((more_of hb8).block (blk_lt HB7.out)).trans HB7.out)
  have HC7 := Lib.hid (same59_any p p _ _ w8 (by have := HPL.out; omega) (by have := HPL.out; omega) HP8.out (ByG.of_owns hro))
  rw [decide_eq_true rfl, HPN.out] at HC7
  obtain ⟨ra, rc, rfl, _⟩ := owns_shape hro
  clear hro hb8 HC8
  rw [HPN.out]
  try rw [HPN.out] at HC7
  go_wp2_with fail
  refine HC7.out.mono ?_
  rintro e w9 ⟨rfl, hm9⟩
  have HM9 := Lib.hid (more_trans HM8.out hm9)
  have HP9 := Lib.hid (HP8.out.more hm9)
  have HB9 := Lib.hid ((hm9.block (blk_lt HB8.out)).trans HB8.out)
  clear hm9 HC7
  have HG9 := Lib.hid (HK.out.keep (more_trans HM15.out HM9.out).size ((more_trans HM15.out HM9.out).block HK.out.1))
  have HI := Lib.hid (id10_any A p KK w9 HAS.out (by have := HPL.out; omega) HG9.out (fun W hW => HC6.out W (more_trans HM9.out hW)))
  have HSL := Lib.hid (show (bV (shaF KK p)).length = 32 by unfold bV; rw [List.length_map, shaF_len])
  have HSI := Lib.hid (sha_items KK p)
  go_wp2_with (refine wpList_load98g (by kernel_rfl) _ rfl CB rfl A HB9.out HAS.out ?_)
  refine HI.out.mono ?_
  rintro e w10 ⟨rfl, hm10⟩
  have HM10 := Lib.hid (more_trans HM9.out hm10)
  have HP10 := Lib.hid (HP9.out.more hm10)
  have HB10 := Lib.hid ((hm10.block (blk_lt HB9.out)).trans HB9.out)
  have HG10 := Lib.hid (HG9.out.keep hm10.size (hm10.block HG9.out.1))
  clear hm10 HI
  have HPV := Lib.hid (show ByV anyB w10 p (.slice pa p.length pc) from ⟨pa, pc, rfl, HP10.out.row, HPA.out⟩)
  have HC11 := Lib.hid (sum11_any anyB p _ KK w10 (by have := HPL.out; omega) HPV.out HG10.out)
  rw [HPN.out] at HC11
  generalize bV (shaF KK p) = sl at *
  have hne : ∀ W, (binOp .neq 31 (.agg sl.toArray) (.agg sl.toArray)).run Tryz.prog W = .ok (.bool false) W := fun W => neq31_same HSL.out HSI.out W
  generalize sl.toArray = sa at *
  go_wp2_with fail
  refine HC11.out.mono ?_
  rintro e w11 ⟨rfl, hm11⟩
  have HM11 := Lib.hid (more_trans HM10.out hm11)
  have HP11 := Lib.hid (HP10.out.more hm11)
  have HB11 := Lib.hid ((hm11.block (blk_lt HB10.out)).trans HB10.out)
  clear hm11 HC11 HG10 HPV
  rcases HP.out with ⟨hk, hpe⟩ | ⟨hk, hpe⟩
  · have HCK := Lib.hid hk
    have HPE := Lib.hid hpe
    clear hk hpe
    have hpos : 0 < pn := by rw [← HPN.out, HPE.out]; unfold encCt encCs; simp only [List.length_append, List.length_cons]; omega
    have hz : ((pn : Int) == 0) = false := beq_eq_false_iff_ne.2 (by omega)
    have HBY := Lib.hid (show Byts p by rw [HPE.out]; exact encCt_byts HFL.out.2.1 HCA.out.set.ok HCK.out)
    have HRD := Lib.hid (read57_any anyB p _ w11 (by have := HPL.out; omega) HBY.out (show ByV anyB w11 p (.slice pa p.length pc) from ⟨pa, pc, rfl, HP11.out.row, HPA.out⟩))
    rw [HPN.out] at HRD
    go_wp2_with fail
    refine HRD.out.mono ?_
    rintro e w12 ⟨⟨D, E, rfl, hde⟩, hb12⟩
    have HM12 := Lib.hid (more_trans HM11.out (more_of hb12))
    have HP12 := Lib.hid (HP11.out.more (more_of hb12))
    have HB12 := Lib.hid (((more_of hb12).block (blk_lt HB11.out)).trans HB11.out)
    clear hb12 HRD
    rcases hde with ⟨rfl, rfl, hno⟩ | ⟨rfl, fl2, d, hf2, hcd, hfi, hdi, hdh, hk2, henc⟩
    · exact absurd HPE.out.symm (hno fl c HFL.out.1 HCA.out.set.ok HCA.out.set.asc HCA.out.set.len HCO.out.si HCO.out.hi HCK.out)
    · have h1 := rCert_enc HFL.out.1 HCK.out HCA.out.set.ok HCA.out.set.asc HCA.out.set.len HCO.out.si HCO.out.hi
      have h2 := rCert_enc hf2 hk2 hcd.set.ok hcd.set.asc hcd.set.len hdi hdh
      rw [henc, HPE.out, h1] at h2
      have h3 := Option.some.inj h2
      simp only [RC.mk.injEq] at h3
      obtain ⟨g1, g2, g3, g4, g5, g6, g7, g8⟩ := h3
      have kc := (chk0 HCK.out).2.1
      have kd := (chk0 hk2).2.1
      unfold R2 at kc kd
      have HCD := Lib.hid hcd
      have HDS := Lib.hid hcd.size
      have HD1 := Lib.hid (cert_ones2 hcd (fun i hi => ⟨_, hfi i hi⟩))
      have HENC := Lib.hid henc
      have HF2 := Lib.hid hf2
      have HFI := Lib.hid hfi
      have HDI := Lib.hid hdi
      have HDH := Lib.hid hdh
      have HK2 := Lib.hid hk2
      have HEQ := Lib.hid (fun W (hm : More w12 W) => equal58_same A D c d (fl.map (Value.int .u8)) W (HC5.out.more (more_trans HM12.out hm)) (hcd.more hm) (by rw [List.length_map]; exact HFL.out.1) (fun v hv => by obtain ⟨n, _, rfl⟩ := List.mem_map.1 hv; exact ⟨n, rfl⟩) (fun j v hj => by
        rw [List.getElem?_map, Option.map_eq_some_iff] at hj
        obtain ⟨n, hj, rfl⟩ := hj
        exact HFL.out.2.2 j n hj) (fun j v hj => by
        rw [List.getElem?_map, Option.map_eq_some_iff] at hj
        obtain ⟨n, hj, rfl⟩ := hj
        have h1 : j < 32 := by rw [← HFL.out.1]; exact (List.getElem?_eq_some_iff.1 hj).1
        rw [HFI.out j h1, ← g1, List.getD_eq_getElem?_getD, hj]
        rfl) (qB_inj g2) (by omega) (by omega) (by omega) g4 g5 g6 (fun p hp => by have h := (HCA.out.set.ok p hp).l; unfold maxLen; split at h <;> omega))
      clear hcd henc hf2 hfi hdi hdh hk2 h1 h2 g1 g2 g3 g4 g5 g6 g7 g8 kc kd
      have HZ9 := Lib.hid (alloc_last w12 (.cells (#[.int .u8 0, .int .u8 0, .int .u8 0, .int .u8 0, .int .u8 0, .int .u8 0, .int .u8 0, .int .u8 0, .int .u8 0, .int .u8 0, .int .u8 0, .int .u8 0, .int .u8 0, .int .u8 0, .int .u8 0, .int .u8 0, .int .u8 0, .int .u8 0, .int .u8 0, .int .u8 0, .int .u8 0, .int .u8 0, .int .u8 0, .int .u8 0, .int .u8 0, .int .u8 0, .int .u8 0, .int .u8 0, .int .u8 0, .int .u8 0, .int .u8 0, .int .u8 0, .string (ByteArray.mk #[]), .int .i64 0, .slice none 0 0, .slice none 0 0, .slice none 0 0, .int .i64 0, .int .i64 0] : Array Value) 35))
      have HMZ := Lib.hid (more_alloc w12 (.cells (#[.int .u8 0, .int .u8 0, .int .u8 0, .int .u8 0, .int .u8 0, .int .u8 0, .int .u8 0, .int .u8 0, .int .u8 0, .int .u8 0, .int .u8 0, .int .u8 0, .int .u8 0, .int .u8 0, .int .u8 0, .int .u8 0, .int .u8 0, .int .u8 0, .int .u8 0, .int .u8 0, .int .u8 0, .int .u8 0, .int .u8 0, .int .u8 0, .int .u8 0, .int .u8 0, .int .u8 0, .int .u8 0, .int .u8 0, .int .u8 0, .int .u8 0, .int .u8 0, .string (ByteArray.mk #[]), .int .i64 0, .slice none 0 0, .slice none 0 0, .slice none 0 0, .int .i64 0, .int .i64 0] : Array Value) 35))
      go_upto_region 12 with (refine wpList_store_row rfl 35 _ _ rfl w12.heap.size D rfl rfl 35 _ HZ9.out (by rw [HDS.out]; exact info98) (by rw [HDS.out]; rfl) HD1.out ?_)
      try simp only [Act.put]
      have HD13 := Lib.hid (setRow_heap (w12.alloc (.cells (#[.int .u8 0, .int .u8 0, .int .u8 0, .int .u8 0, .int .u8 0, .int .u8 0, .int .u8 0, .int .u8 0, .int .u8 0, .int .u8 0, .int .u8 0, .int .u8 0, .int .u8 0, .int .u8 0, .int .u8 0, .int .u8 0, .int .u8 0, .int .u8 0, .int .u8 0, .int .u8 0, .int .u8 0, .int .u8 0, .int .u8 0, .int .u8 0, .int .u8 0, .int .u8 0, .int .u8 0, .int .u8 0, .int .u8 0, .int .u8 0, .int .u8 0, .int .u8 0, .string (ByteArray.mk #[]), .int .i64 0, .slice none 0 0, .slice none 0 0, .slice none 0 0, .int .i64 0, .int .i64 0] : Array Value) 35)) w12.heap.size _ D 35 (0, 0) HZ9.out)
      have HM13 := Lib.hid (show More w12 ((w12.alloc (.cells (#[.int .u8 0, .int .u8 0, .int .u8 0, .int .u8 0, .int .u8 0, .int .u8 0, .int .u8 0, .int .u8 0, .int .u8 0, .int .u8 0, .int .u8 0, .int .u8 0, .int .u8 0, .int .u8 0, .int .u8 0, .int .u8 0, .int .u8 0, .int .u8 0, .int .u8 0, .int .u8 0, .int .u8 0, .int .u8 0, .int .u8 0, .int .u8 0, .int .u8 0, .int .u8 0, .int .u8 0, .int .u8 0, .int .u8 0, .int .u8 0, .int .u8 0, .int .u8 0, .string (ByteArray.mk #[]), .int .i64 0, .slice none 0 0, .slice none 0 0, .slice none 0 0, .int .i64 0, .int .i64 0] : Array Value) 35)).setRow w12.heap.size D) from more_of (below_setRow HMZ.out.below (Nat.le_refl _) _))
      generalize (w12.alloc (.cells (#[.int .u8 0, .int .u8 0, .int .u8 0, .int .u8 0, .int .u8 0, .int .u8 0, .int .u8 0, .int .u8 0, .int .u8 0, .int .u8 0, .int .u8 0, .int .u8 0, .int .u8 0, .int .u8 0, .int .u8 0, .int .u8 0, .int .u8 0, .int .u8 0, .int .u8 0, .int .u8 0, .int .u8 0, .int .u8 0, .int .u8 0, .int .u8 0, .int .u8 0, .int .u8 0, .int .u8 0, .int .u8 0, .int .u8 0, .int .u8 0, .int .u8 0, .int .u8 0, .string (ByteArray.mk #[]), .int .i64 0, .slice none 0 0, .slice none 0 0, .slice none 0 0, .int .i64 0, .int .i64 0] : Array Value) 35)).setRow w12.heap.size D = w13 at *
      generalize w12.heap.size = DB at *
      have HB13 := Lib.hid ((HM13.out.block (blk_lt HB12.out)).trans HB12.out)
      have HC13 := Lib.hid (HEQ.out w13 HM13.out)
      go_wp2_with (first | (refine wpList_load98g (by kernel_rfl) _ rfl CB rfl A HB13.out HAS.out ?_) | (refine wpList_load98g (by kernel_rfl) _ rfl DB rfl D HD13.out HDS.out ?_))
      refine HC13.out.mono ?_
      rintro e w14 ⟨rfl, hm14⟩
      have HM14 := Lib.hid (more_trans HM13.out hm14)
      have HD14 := Lib.hid ((hm14.block (blk_lt HD13.out)).trans HD13.out)
      clear hm14 HC13
      have H56 := Lib.hid (bytes56_ok D d fl2 w14 (HCD.out.more HM14.out) HF2.out (fun j n hj => by
        have h1 : j < 32 := by rw [← HF2.out]; exact (List.getElem?_eq_some_iff.1 hj).1
        rw [HFI.out j h1, List.getD_eq_getElem?_getD, hj]
        rfl) HDI.out HDH.out HK2.out)
      rw [HENC.out] at H56
      go_wp2_with (refine wpList_load98g (by kernel_rfl) _ rfl DB rfl D HD14.out HDS.out ?_)
      refine H56.out.mono ?_
      rintro e w15 ⟨⟨bv, rfl, hbo⟩, hb15⟩
      have HM15b := Lib.hid (more_trans HM14.out (more_of hb15))
      have H59 := Lib.hid (same59_any p p bv _ w15 (by have := HPL.out; omega) (by have := HPL.out; omega) (ByG.of_owns hbo) (HP12.out.more HM15b.out))
      rw [decide_eq_true rfl] at H59
      obtain ⟨ba, bc, rfl, _⟩ := owns_shape hbo
      clear hbo hb15 H56
      rw [HPN.out] at H59 ⊢
      go_wp2_with fail
      refine H59.out.mono ?_
      rintro e w16 ⟨rfl, hm16⟩
      go_wp2_with fail
      go_ret
      exact ⟨rfl, by rw [HN.out]; exact (more_trans HM15.out (more_trans HM12.out (more_trans HM15b.out hm16))).below⟩
  · have hn0 : pn = 0 := by rw [← HPN.out, hpe]; rfl
    subst hn0
    clear hk hpe
    go_wp2_with fail
    go_ret
    exact ⟨rfl, by rw [HN.out]; exact (more_trans HM15.out HM11.out).below⟩
end Go.Proofs.YtemeppfikpafbaaGreatDoor

/- The last step of every law: the call returned true and changed nothing that was there. -/
namespace Go.Proofs.YtemeppfikpafbaaGreatDoor
open Go.RowKit Go.WideShapes Go.ChangeShapes
section
variable {H : Type} {enc : TypeId × Value → H} {P : Program}
theorem trodAll_stays (hl : laidOutB P = true) {W W' : World} (hb : Below W.heap.size W W') : ∀ (ts : List TypeId) (vs : List Value) (ds : List (DataW H)) (ps : List MemPlace),
    (∀ t ∈ ts, P.readableRec t = true ∧ t < P.types.size) → (∀ p ∈ ps, p.block < W.heap.size) → DataW.TrodAll enc P W 0 (fun _ => true) true ts vs ds ps → DataW.TrodAll enc P W' 0 (fun b => decide (b < W.heap.size)) true ts vs ds ps
  | [], [], [], ps, _, _, h => h
  | t :: ts, v :: vs, d :: ds, ps, ht, hp, h => by
    obtain ⟨p, q, h1, h2, rfl⟩ := h
    exact ⟨p, q, Below.trod hl (ht t List.mem_cons_self).1 (ht t List.mem_cons_self).2 h1 hb (fun x hx => hp x (List.mem_append_left _ hx)),
      trodAll_stays hl hb ts vs ds q (fun t' h' => ht t' (List.mem_cons_of_mem _ h')) (fun x hx => hp x (List.mem_append_right _ hx)) h2, rfl⟩
theorem law_post {f : Func} {s : ChangeSpec} {B : TypeId} {W W' : World} {args : Array Value} {ds gs : List (DataW H)} {before : List MemPlace}
    (hl : laidOutB P = true) (hok : ∀ t ∈ f.params.toList, P.readableRec t = true ∧ t < P.types.size) (hv : s.vars = []) (hres : f.resultTypes = #[B]) (hB : P.underlying B = some .bool)
    (hW : DataW.Whole enc P f.params.toList s.vars false W args.toList ds gs before)
    (hfn : (s.fn H (ds ++ gs)).results = [.lit (.bool true)]) (hfa : (s.fn H (ds ++ gs)).args = ds) (hfv : (s.fn H (ds ++ gs)).vars = []) (hb : Below W.heap.size W W') :
    s.post enc P f false true false false W args (.bool true) W' := by
  obtain ⟨p, q, hA, hV, hps, hz, hn⟩ := hW
  rw [hv] at hV
  obtain ⟨rfl, rfl⟩ := trodVars_none hV
  have hlt : ∀ x ∈ p, x.block < W.heap.size := fun x hx => DataW.Whole.lt (show DataW.Whole enc P f.params.toList s.vars false W args.toList ds [] before from ⟨p, [], hA, by rw [hv]; exact hV, hps, hz, hn⟩) x (by rw [hps]; simpa using hx)
  refine ⟨ds, [], before, [], p, [], ⟨p, [], hA, by rw [hv]; exact hV, hps, hz, hn⟩, ?_, ?_, ?_, World.keptBut_mono (fun x hx => ⟨hx, ?_⟩) (hb.frame (· ∈ before)), fun h => by cases h⟩
  · rw [hfn, hres]
    exact ⟨[], [], shut_bool hB true, rfl, rfl⟩
  · rw [hfa]; exact trodAll_stays hl hb _ _ _ _ hok hlt hA
  · rw [hfv, hv]; rfl
  · rw [hps] at hx; simp at hx; exact Or.inr (Or.inl hx)

/-- The closed facts of a row, each by itself (one declaration for all of them wants too much memory). -/
theorem closed_of {P : Program} {f : FuncId} {fn : Func} {s : ChangeSpec} {c : OpenClaim}
    (k1 : c.wf (OpenSpec.ofChange s) = true) (k2 : laidOutB P = true) (k3 : mapsRowed P = true) (k4 : fn.params.all (P.readableRec ·) = true) (k5 : namedTie P c.named s.vars = true)
    (k6 : (c.stops == []) = true) (k7 : (P.stops == []) = true) (k8 : (c.knobs == []) = true) (k9 : (P.stopKnobs == []) = true)
    (k10 : (c.inPlace == P.inPlace f) = true) (k11 : (c.unfollowed == P.unfollowed f) = true) (k12 : (c.recurses == P.recurses f) = true) (k13 : (c.named == P.varsNamed f) = true)
    (k14 : (c.maps == (fn.params.toList ++ s.plain.varTypes P).any (P.mapsRec ·)) = true) (k15 : (c.ifaces == (fn.params.toList ++ s.plain.varTypes P).any (P.ifacesRec ·)) = true) (k16 : (c.mapsOut == P.mapsAmong fn.resultTypes.toList) = true)
    (k17 : (c.loops == (fn.params.toList ++ s.plain.varTypes P).any (P.loopsFrom ·)) = true) (k17b : (c.wideKeys == (fn.params.toList ++ s.plain.varTypes P ++ fn.resultTypes.toList).any (P.wideKeysFrom ·)) = true)
    (k18 : s.vars.all (P.varReadable ·) = true) (k19 : fn.resultTypes.all (fun t => P.readableRec t && decide (t < P.types.size)) = true) (k20 : (c.ifacesOut == fn.resultTypes.toList.any (P.ifacesRec ·)) = true) (k21 : (c.loopsOut == fn.resultTypes.toList.any (P.loopsFrom ·)) = true)
    (k22 : (c.plainKeys == P.plainKeys) = true) (k23 : c.shortTexts.isNone = true) (k23b : P.stopsHeard = true) (k24 : P.mayEnter = true) (k24b : (c.lifted == P.liftsFinal) = true) (k24c : (P.make == some c.make) = true)
    (k25 : c.domain.isEmpty = true ∧ (c.kinds == []) = true) (k26 : (c.pinned == c.pinnedBy) = true)
    (k27 : (c.veiled == (fn.params.toList ++ s.plain.varTypes P ++ fn.resultTypes.toList).any (P.veiledRec ·)) = true) (k28 : c.veiledFits P fn.params.toList (fn.params.toList ++ s.plain.varTypes P ++ fn.resultTypes.toList) = true) :
    joinedFacts P f fn s c = true := by
  unfold joinedFacts
  rw [k1, k2, k3, k4, k5, k6, k7, k8, k9, k10, k11, k12, k13, k14, k15, k16, k17, k17b, k18, k19, k20, k21, k22, k23, k23b, k24, k24b, k24c, if_pos k25.1, k25.2, k26, k27, k28]
  rfl
end
end Go.Proofs.YtemeppfikpafbaaGreatDoor

/- Closed facts on the loaded program, each by itself: every row of this seat asks them. -/
namespace Go.Proofs.YtemeppfikpafbaaGreatDoor
theorem kOwn : ownKnob Tryz.prog.godebug = none := by kernel_rfl
theorem kMaps : mapsRowed Tryz.prog = true := by kernel_rfl
theorem kStops : (Tryz.prog.stops == []) = true := by kernel_rfl
theorem kKnobs : (Tryz.prog.stopKnobs == []) = true := by kernel_rfl
theorem kKeys : (Rows.certificateBytesRow.plainKeys == Tryz.prog.plainKeys) = true := by kernel_rfl
theorem kHeard : Tryz.prog.stopsHeard = true := by kernel_rfl
theorem kEnter : Tryz.prog.mayEnter = true := by kernel_rfl
theorem kMake : (Tryz.prog.make == some Rows.certificateBytesRow.make) = true := by kernel_rfl
theorem kLift : (Rows.certificateBytesRow.lifted == Tryz.prog.liftsFinal) = true := by kernel_rfl
end Go.Proofs.YtemeppfikpafbaaGreatDoor

