/- Texts RdsW, laid together. -/
import Derived.Test.YtemeppfikpafbaaRba
import Derived.Test.YtemeppfikpafbaaRbh
import Derived.Test.YtemeppfikpafbaaRbi
/- The walk of CertificateReads (18). -/
namespace Go.Proofs.Ytemeppfikpafbaa
open Go.RowKit
set_option maxRecDepth 100000 in
theorem wpList_builtg {w : World} {ops : Array Oper} {rest : List Oper} {o : Oper} {a : Act} {Q : Exit → Act → World → Prop} (hw : Region.wanted o (yielded ops a.tmps) = true) (ho : o.op = .build 98 #[])
    (h : wpList Try.prog ops Q rest (a.put o.dst (.agg z98)) w) : wpList Try.prog ops Q (o :: rest) a w := by
  have hm : ((#[] : Array (Nat × Operand)).map fun (i, x) => (i, a.eval x)) = #[] := by simp
  have hb : Try.prog.built 98 ((#[] : Array (Nat × Operand)).map fun (i, x) => (i, a.eval x)).toList = some z98 := by rw [hm]; exact z98_built
  exact BigFrame.wpList_want hw fun _ hK => wp_build 98 #[] ho (by rw [hb]; rfl) (hK _ _ (by rw [hb]; exact h))
def byteAt (arr : Array Value) (i : Nat) : Int := match arr[i]? with | some (.int _ n) => n | _ => 0
theorem certFl {arr : Array Value} {c : Cert} (h : CertOk arr c) : ∃ fl : List Int, fl.length = 32 ∧ Byts fl ∧ ∀ (j : Nat) (n : Int), fl[j]? = some n → arr[j]? = some (.int .u8 n) := by
  refine ⟨(List.range 32).map (byteAt arr), by simp, fun b hb => ?_, fun j n hj => ?_⟩
  · obtain ⟨i, hi, rfl⟩ := List.mem_map.1 hb
    obtain ⟨n, hn, h0, h1⟩ := h.fl i (List.mem_range.1 hi)
    unfold byteAt
    rw [hn]
    exact ⟨h0, h1⟩
  · rw [List.getElem?_map, Option.map_eq_some_iff] at hj
    obtain ⟨i, hi, rfl⟩ := hj
    obtain ⟨hl, hi⟩ := List.getElem?_eq_some_iff.1 hi
    rw [List.getElem_range] at hi
    subst hi
    rw [List.length_range] at hl
    obtain ⟨n, hn, _⟩ := h.fl j hl
    unfold byteAt
    rw [hn]
/-- The bytes of any certificate. -/
theorem bytes56_all (arr : Array Value) (c : Cert) (fl : List Int) (w : World) (hc : CertAt w arr c) (hfl : fl.length = 32) (hby : Byts fl) (hfa : ∀ (j : Nat) (n : Int), fl[j]? = some n → arr[j]? = some (.int .u8 n)) (hi : ∀ p ∈ c.S, ∀ n ∈ p.2.l, In64 n) (hh : ∀ p ∈ c.H, ∀ a ∈ p.2.al, ∀ n ∈ a.2.l, In64 n) :
    Calls Try.prog 56 #[.agg arr] w fun e w' => (∃ v p, e = .returned v ∧ w'.ownsRow w.heap.size 5 1 v p.length (bV p) ∧ Byts p ∧ p.length ≤ 100000 ∧ ∀ q, NoCert q → p = [] ∨ p ≠ q) ∧ Below w.heap.size w w' := by
  by_cases hk : Chk c 0
  · refine (bytes56_ok arr c fl w hc hfl hfa hi hh hk).mono ?_
    rintro e w' ⟨⟨v, rfl, ho⟩, hb⟩
    exact ⟨⟨v, _, rfl, ho, encCt_byts hby hc.set.ok hk, encCt_len hfl hc.set.len hc.set.ok hi hh hk, fun q hq => Or.inr (hq fl c hfl hc.set.ok hc.set.asc hc.set.len hi hh hk)⟩, hb⟩
  · refine (bytes56_bad arr c w hc hk).mono ?_
    rintro e w' ⟨rfl, hb⟩
    exact ⟨⟨_, [], rfl, World.ownsRow_nil _ _ _ _, Byts.nil, Nat.zero_le _, fun q _ => Or.inl rfl⟩, hb⟩
theorem z98_cert (w : World) : CertAt w z98 ⟨ByteArray.mk #[], 0, .slice none 0 0, [], .slice none 0 0, [], .slice none 0 0, [], 0, 0⟩ :=
  ⟨rfl, rfl, rfl, rfl, rfl, rfl, rfl, rfl, ⟨Row.nil _ _ _ _ _, fun p hp => (by cases hp), fun p hp => (by cases hp), List.Pairwise.nil, Nat.zero_le _⟩, Row.nil _ _ _ _ _, Row.nil _ _ _ _ _, fun p hp => (by cases hp), Nat.zero_le _, Nat.zero_le _⟩
theorem equal58_zero (w : World) : Calls Try.prog 58 #[.agg z98, .agg z98] w fun e w' => e = .returned (.bool true) ∧ More w w' :=
  equal58_same z98 z98 _ _ (List.replicate 32 (.int .u8 0)) w (z98_cert w) (z98_cert w) (by simp) (fun v hv => ⟨0, (List.mem_replicate.1 hv).2⟩) (fun j v hj => by
    have hj2 : j < 32 := by have := (List.getElem?_eq_some_iff.1 hj).1; simpa using this
    have e := (z98_rd w.heap.size (W := w.alloc (.cells z98 98)) (alloc_last w (.cells z98 98))).fl j hj2
    rw [List.getElem?_replicate, if_pos hj2] at hj
    rw [e, ← hj]
    rfl) (fun j v hj => by
    have hj2 : j < 32 := by have := (List.getElem?_eq_some_iff.1 hj).1; simpa using this
    have e := (z98_rd w.heap.size (W := w.alloc (.cells z98 98)) (alloc_last w (.cells z98 98))).fl j hj2
    rw [List.getElem?_replicate, if_pos hj2] at hj
    rw [e, ← hj]
    rfl) rfl rfl rfl rfl rfl rfl rfl (fun p hp => (by cases hp))
theorem bV_set (l : List Int) (j : Nat) (v : Int) : (bV l).set j (.int .u8 v) = bV (l.set j v) := by
  unfold bV
  rw [List.map_set]
theorem Byts.set {l : List Int} (h : Byts l) (j : Nat) {v : Int} (hv : 0 ≤ v ∧ v ≤ 255) : Byts (l.set j v) := fun b hb => by
  rcases List.mem_or_eq_of_mem_set hb with k | k
  · exact h b k
  · subst k; exact hv
theorem u16_natR {n : Int} (h : (Lit.int .u16 n).wf = true) : ∃ k : Nat, n = k ∧ k < 65536 := by
  simp [Lit.wf, IntKind.min, IntKind.max, IntKind.signed, IntKind.bits] at h
  exact ⟨n.toNat, by omega, by omega⟩
theorem u8_natR {n : Int} (h : (Lit.int .u8 n).wf = true) : ∃ k : Nat, n = k ∧ k < 256 := by
  simp [Lit.wf, IntKind.min, IntKind.max, IntKind.signed, IntKind.bits] at h
  exact ⟨n.toNat, by omega, by omega⟩
theorem cert_ones2 {w : World} {arr : Array Value} {c : Cert} (h : CertAt w arr c) (k : ∀ i, i < 32 → ∃ n : Int, arr[i]? = some (.int .u8 n)) : arr.all (·.oneCell') = true :=
  CertS.ones (S := anyB) (w := w) (c := c) ⟨h.size, h.q, h.hor, h.sv, h.uv, h.hv, h.wit, h.spl, h.set, h.und, h.hol, h.each, h.ulen, h.hlen⟩ k
set_option maxRecDepth 100000 in
set_option maxHeartbeats 8000000 in
theorem reads_walk (x : RawC) (kn vn : Nat) (w : World) (hx : x.Ok w) (hkn : kn < 65536) (hvn : vn < 256) : Calls Try.prog 18 #[.agg x.cells.toArray, .int .u16 kn, .int .u8 vn] w fun e w' => e = .returned (.bool true) ∧ Below w.heap.size w w' := by
  have HX := Lib.hid hx; clear hx
  have HSR := Lib.hid (raw_size x)
  have HC49 := Lib.hid (fun W (hW : More w W) => of49_any x W (HX.out.more hW))
  generalize x.cells.toArray = R at *
  obtain ⟨i0, hi0, hz0, hz1, hz2⟩ := info_parts infoB
  obtain ⟨N, HN⟩ : ∃ N, Hid (N = w.heap.size) := ⟨_, Lib.hid rfl⟩
  have HB1 := Lib.hid (alloc_last w (.cells R 94))
  have HM1 := Lib.hid (more_alloc w (.cells R 94))
  rw [← HN.out] at HB1 ⊢
  go_enter Try.func18, Try.ntmps18
  go_upto_region 1 with (fail)
  rw [← HN.out]
  generalize w.alloc (.cells R 94) = w1 at *
  go_wp2_with fail
  refine (awake48_any w1).mono ?_
  rintro e w2 ⟨rfl, hb2⟩
  have HM2 := Lib.hid (more_trans HM1.out (more_of hb2))
  have HB2 := Lib.hid (((more_of hb2).block (blk_lt HB1.out)).trans HB1.out)
  clear hb2
  go_wp2_with (refine wpList_load94 rfl _ rfl N rfl R HB2.out HSR.out ?_)
  refine (HC49.out w2 HM2.out).mono ?_
  rintro e w3 ⟨⟨A, c, rfl, hca, hco⟩, hb3⟩
  have HCA := Lib.hid hca
  have HCO := Lib.hid hco
  have HM3 := Lib.hid (more_trans HM2.out (more_of hb3))
  have HAS := Lib.hid hca.size
  clear hca hco hb3
  have HA1 := Lib.hid (show A.all (·.oneCell') = true from cert_ones HCA.out HCO.out)
  have HZ := Lib.hid (alloc_last w3 (.cells (#[.int .u8 0, .int .u8 0, .int .u8 0, .int .u8 0, .int .u8 0, .int .u8 0, .int .u8 0, .int .u8 0, .int .u8 0, .int .u8 0, .int .u8 0, .int .u8 0, .int .u8 0, .int .u8 0, .int .u8 0, .int .u8 0, .int .u8 0, .int .u8 0, .int .u8 0, .int .u8 0, .int .u8 0, .int .u8 0, .int .u8 0, .int .u8 0, .int .u8 0, .int .u8 0, .int .u8 0, .int .u8 0, .int .u8 0, .int .u8 0, .int .u8 0, .int .u8 0, .string (ByteArray.mk #[]), .int .i64 0, .slice none 0 0, .slice none 0 0, .slice none 0 0, .int .i64 0, .int .i64 0] : Array Value) 98))
  have HM4 := Lib.hid (more_alloc w3 (.cells (#[.int .u8 0, .int .u8 0, .int .u8 0, .int .u8 0, .int .u8 0, .int .u8 0, .int .u8 0, .int .u8 0, .int .u8 0, .int .u8 0, .int .u8 0, .int .u8 0, .int .u8 0, .int .u8 0, .int .u8 0, .int .u8 0, .int .u8 0, .int .u8 0, .int .u8 0, .int .u8 0, .int .u8 0, .int .u8 0, .int .u8 0, .int .u8 0, .int .u8 0, .int .u8 0, .int .u8 0, .int .u8 0, .int .u8 0, .int .u8 0, .int .u8 0, .int .u8 0, .string (ByteArray.mk #[]), .int .i64 0, .slice none 0 0, .slice none 0 0, .slice none 0 0, .int .i64 0, .int .i64 0] : Array Value) 98))
  go_upto_region 4 with (refine wpList_store_row rfl 98 _ _ rfl w3.heap.size A rfl rfl 98 _ HZ.out (by rw [HAS.out]; exact info98) (by rw [HAS.out]; rfl) HA1.out ?_)
  try simp only [Act.put]
  have HB5 := Lib.hid (setRow_heap (w3.alloc (.cells (#[.int .u8 0, .int .u8 0, .int .u8 0, .int .u8 0, .int .u8 0, .int .u8 0, .int .u8 0, .int .u8 0, .int .u8 0, .int .u8 0, .int .u8 0, .int .u8 0, .int .u8 0, .int .u8 0, .int .u8 0, .int .u8 0, .int .u8 0, .int .u8 0, .int .u8 0, .int .u8 0, .int .u8 0, .int .u8 0, .int .u8 0, .int .u8 0, .int .u8 0, .int .u8 0, .int .u8 0, .int .u8 0, .int .u8 0, .int .u8 0, .int .u8 0, .int .u8 0, .string (ByteArray.mk #[]), .int .i64 0, .slice none 0 0, .slice none 0 0, .slice none 0 0, .int .i64 0, .int .i64 0] : Array Value) 98)) w3.heap.size _ A 98 (0, 0) HZ.out)
  have HM5 := Lib.hid (show More w3 ((w3.alloc (.cells (#[.int .u8 0, .int .u8 0, .int .u8 0, .int .u8 0, .int .u8 0, .int .u8 0, .int .u8 0, .int .u8 0, .int .u8 0, .int .u8 0, .int .u8 0, .int .u8 0, .int .u8 0, .int .u8 0, .int .u8 0, .int .u8 0, .int .u8 0, .int .u8 0, .int .u8 0, .int .u8 0, .int .u8 0, .int .u8 0, .int .u8 0, .int .u8 0, .int .u8 0, .int .u8 0, .int .u8 0, .int .u8 0, .int .u8 0, .int .u8 0, .int .u8 0, .int .u8 0, .string (ByteArray.mk #[]), .int .i64 0, .slice none 0 0, .slice none 0 0, .slice none 0 0, .int .i64 0, .int .i64 0] : Array Value) 98)).setRow w3.heap.size A) from more_of (below_setRow HM4.out.below (Nat.le_refl _) _))
  generalize (w3.alloc (.cells (#[.int .u8 0, .int .u8 0, .int .u8 0, .int .u8 0, .int .u8 0, .int .u8 0, .int .u8 0, .int .u8 0, .int .u8 0, .int .u8 0, .int .u8 0, .int .u8 0, .int .u8 0, .int .u8 0, .int .u8 0, .int .u8 0, .int .u8 0, .int .u8 0, .int .u8 0, .int .u8 0, .int .u8 0, .int .u8 0, .int .u8 0, .int .u8 0, .int .u8 0, .int .u8 0, .int .u8 0, .int .u8 0, .int .u8 0, .int .u8 0, .int .u8 0, .int .u8 0, .string (ByteArray.mk #[]), .int .i64 0, .slice none 0 0, .slice none 0 0, .slice none 0 0, .int .i64 0, .int .i64 0] : Array Value) 98)).setRow w3.heap.size A = w5 at *
  generalize w3.heap.size = CB at *
  obtain ⟨fl, hfl⟩ := certFl HCO.out
  have HFL := Lib.hid hfl
  clear hfl
  have HC56 := Lib.hid (bytes56_all A c fl w5 (HCA.out.more HM5.out) HFL.out.1 HFL.out.2.1 HFL.out.2.2 HCO.out.si HCO.out.hi)
  go_wp2_with (refine wpList_load98 rfl _ rfl CB rfl A HB5.out HAS.out ?_)
  refine HC56.out.mono ?_
  rintro e w6 ⟨⟨pv, p, rfl, hpo, hpb, hpl, hpq⟩, hb6⟩
  have HPO := Lib.hid hpo
  have HPB := Lib.hid hpb
  have HPL := Lib.hid hpl
  have HPQ := Lib.hid hpq
  have HM6 := Lib.hid (show More w w6 from more_trans HM3.out (more_trans HM5.out (more_of hb6)))
  clear hb6 HC56 hpb hpq
  obtain ⟨pa, pc, rfl, _⟩ := owns_shape hpo
  clear hpo
  have HPG := Lib.hid (ByG.of_owns HPO.out)
  clear HCA HCO HB5 HZ HM4 HFL HA1 HAS HC49 HX HSR HB1 HB2 HM5 HM1 HM2 HM3
  obtain ⟨n, HPN⟩ : ∃ n, Hid (p.length = n) := ⟨_, Lib.hid rfl⟩
  have hpl := HPL.out
  rw [HPN.out] at hpl HPO HPG ⊢
  have HE0 := Lib.hid (ownsRow_empty w6 5 1)
  have HM7 := Lib.hid (more_alloc w6 (.cells #[] 5))
  have HPG2 := Lib.hid (HPG.out.more HM7.out)
  have HPR2 := Lib.hid (show Row anyB (w6.alloc (.cells #[] 5)) 1 n (.slice pa n pc) (bV p) by have h := HPG2.out.row; rwa [HPN.out] at h)
  go_upto_region 8 with (at_builtin; refine wpList_append_rowC rfl _ _ 92 rfl w6.heap.size 5 i0 _ 1 1 Try.underlying92 hi0 hz0 hz1 hz2 rfl (by omega) (.slice (some ⟨w6.heap.size, 0, none⟩) 0 0) 0 [] rfl HE0.out (.slice pa n pc) n (bV p) rfl HPR2.out HPG2.out.nil (bV_one p) (by unfold maxLen; omega) (by omega) (Nat.le_of_lt (blk_lt (alloc_last w6 (.cells #[] 5)))) ?_; intro v7 w7 hown7 hgrow7; obtain ⟨qa, qc, rfl, _⟩ := owns_shape hown7)
  have HB7 := Lib.hid (show Below w6.heap.size w6 w7 from HM7.out.below.grown hgrow7 HM7.out.size (fun z hz => (HE0.out.lt z hz).1))
  have HQO := Lib.hid (show w7.ownsRow w6.heap.size 5 1 (.slice qa n qc) n (bV p) by have h := hown7; simp only [Nat.zero_add, List.nil_append] at h; exact h)
  try rw [Nat.zero_add]
  clear hown7 hgrow7 HPG2 HPR2 HE0 HM7
  by_cases hn0 : n = 0
  · subst hn0
    go_upto_region 10 with fail
    have HLE := HPN
    have HQB0 := HPB
    by_cases hv16 : vn % 16 = 0
    · have hv16b : ((vn : Int) % 16 == 0) = true := by rw [beq_iff_eq]; omega
      have hv16t : (Int.tmod (vn : Int) 16 == 0) = true := by rw [Int.tmod_eq_emod_of_nonneg (by omega)]; exact hv16b
      clear hv16
      have HR1 := Lib.hid (show 0 + 1 ≤ maxLen ∧ (0 + 1) * 1 ≤ 140737488355328 by unfold maxLen; omega)
      have HMV := Lib.hid (more_alloc w7 (.cells #[.int .u8 vn] 5))
      have HQV := Lib.hid (owns_keep HQO.out (fun z hz => HMV.out.block (HQO.out.lt z hz).2))
      go_upto_region 12 with (at_builtin; refine wpList_append_own _ rfl _ _ 92 rfl w6.heap.size 5 i0 _ 1 1 Try.underlying92 hi0 hz0 hz1 hz2 rfl (by omega) (.slice qa 0 qc) 0 (bV p) rfl HQV.out ⟨w7.heap.size, 0, none⟩ 1 1 [.int .u8 vn] rfl rfl (World.news_of_block (cs := #[.int .u8 vn]) (t := 5) (fr := (0, 0)) (alloc_last _ _)) (by simp [Value.oneCell']) HR1.out.1 HR1.out.2 (by rw [World.size_alloc]; exact Nat.le_succ_of_le HB7.out.size) ?_; intro v8 w8 hown8 hgrow8 _)
      have HBW := Lib.hid (show Below w6.heap.size w6 w8 from (HB7.out.trans (HMV.out.below.mono HB7.out.size)).grown hgrow8 (Nat.le_trans HB7.out.size HMV.out.size) (fun z hz => (HQV.out.lt z hz).1))
      obtain ⟨q2, HQ2⟩ : ∃ q2, Hid (q2 = p ++ [(vn : Int)]) := ⟨_, Lib.hid rfl⟩
      have HQ := Lib.hid (show w8.ownsRow w6.heap.size 5 1 v8 q2.length (bV q2) by rw [HQ2.out, List.length_append, List.length_singleton, HLE.out, bV_append]; exact hown8)
      have HQB := Lib.hid (show Byts q2 by rw [HQ2.out]; exact HQB0.out.append (Byts.cons ⟨by omega, by omega⟩ Byts.nil))
      have HQL := Lib.hid (show q2.length ≤ 100001 by rw [HQ2.out, List.length_append, List.length_singleton, HLE.out]; omega)
      clear hown8 hgrow8 HQV HMV HR1
      obtain ⟨xa, xc, rfl, _⟩ := owns_shape HQ.out
      have HQG := Lib.hid (ByG.of_owns HQ.out)
      have HRD := Lib.hid (read57_any (fun z => w6.heap.size ≤ z) q2 _ w8 (by have := HQL.out; omega) HQB.out (ByV.of_owns HQ.out))
      clear HQ
      go_wp2_with fail
      refine HRD.out.mono ?_
      rintro e w9 ⟨⟨D, E, rfl, hde⟩, hb9⟩
      have HB9 := Lib.hid (HBW.out.trans (hb9.mono HBW.out.size))
      have HQ9 := Lib.hid (HQG.out.row.below hb9)
      have HQN := Lib.hid HQG.out.nil
      clear hb9 HRD HQG HBW
      have HZ9 := Lib.hid (alloc_last w9 (.cells (#[.int .u8 0, .int .u8 0, .int .u8 0, .int .u8 0, .int .u8 0, .int .u8 0, .int .u8 0, .int .u8 0, .int .u8 0, .int .u8 0, .int .u8 0, .int .u8 0, .int .u8 0, .int .u8 0, .int .u8 0, .int .u8 0, .int .u8 0, .int .u8 0, .int .u8 0, .int .u8 0, .int .u8 0, .int .u8 0, .int .u8 0, .int .u8 0, .int .u8 0, .int .u8 0, .int .u8 0, .int .u8 0, .int .u8 0, .int .u8 0, .int .u8 0, .int .u8 0, .string (ByteArray.mk #[]), .int .i64 0, .slice none 0 0, .slice none 0 0, .slice none 0 0, .int .i64 0, .int .i64 0] : Array Value) 98))
      have HM9 := Lib.hid (more_alloc w9 (.cells (#[.int .u8 0, .int .u8 0, .int .u8 0, .int .u8 0, .int .u8 0, .int .u8 0, .int .u8 0, .int .u8 0, .int .u8 0, .int .u8 0, .int .u8 0, .int .u8 0, .int .u8 0, .int .u8 0, .int .u8 0, .int .u8 0, .int .u8 0, .int .u8 0, .int .u8 0, .int .u8 0, .int .u8 0, .int .u8 0, .int .u8 0, .int .u8 0, .int .u8 0, .int .u8 0, .int .u8 0, .int .u8 0, .int .u8 0, .int .u8 0, .int .u8 0, .int .u8 0, .string (ByteArray.mk #[]), .int .i64 0, .slice none 0 0, .slice none 0 0, .slice none 0 0, .int .i64 0, .int .i64 0] : Array Value) 98))
      rcases hde with ⟨rfl, rfl, hno⟩ | ⟨rfl, fl2, d, hf2, hcd, hfi, hdi, hdh, hk, henc⟩
      · have HNO := Lib.hid (HPQ.out _ hno)
        clear hno
        go_upto_region 13 with (refine wpList_store_row rfl 98 _ _ rfl w9.heap.size z98 rfl rfl 98 _ HZ9.out (by exact info98) (by rfl) (by kernel_rfl) ?_)
        try simp only [Act.put]
        have HD10 := Lib.hid (setRow_heap (w9.alloc (.cells (#[.int .u8 0, .int .u8 0, .int .u8 0, .int .u8 0, .int .u8 0, .int .u8 0, .int .u8 0, .int .u8 0, .int .u8 0, .int .u8 0, .int .u8 0, .int .u8 0, .int .u8 0, .int .u8 0, .int .u8 0, .int .u8 0, .int .u8 0, .int .u8 0, .int .u8 0, .int .u8 0, .int .u8 0, .int .u8 0, .int .u8 0, .int .u8 0, .int .u8 0, .int .u8 0, .int .u8 0, .int .u8 0, .int .u8 0, .int .u8 0, .int .u8 0, .int .u8 0, .string (ByteArray.mk #[]), .int .i64 0, .slice none 0 0, .slice none 0 0, .slice none 0 0, .int .i64 0, .int .i64 0] : Array Value) 98)) w9.heap.size _ z98 98 (0, 0) HZ9.out)
        have HM10 := Lib.hid (show More w9 ((w9.alloc (.cells (#[.int .u8 0, .int .u8 0, .int .u8 0, .int .u8 0, .int .u8 0, .int .u8 0, .int .u8 0, .int .u8 0, .int .u8 0, .int .u8 0, .int .u8 0, .int .u8 0, .int .u8 0, .int .u8 0, .int .u8 0, .int .u8 0, .int .u8 0, .int .u8 0, .int .u8 0, .int .u8 0, .int .u8 0, .int .u8 0, .int .u8 0, .int .u8 0, .int .u8 0, .int .u8 0, .int .u8 0, .int .u8 0, .int .u8 0, .int .u8 0, .int .u8 0, .int .u8 0, .string (ByteArray.mk #[]), .int .i64 0, .slice none 0 0, .slice none 0 0, .slice none 0 0, .int .i64 0, .int .i64 0] : Array Value) 98)).setRow w9.heap.size z98) from more_of (below_setRow HM9.out.below (Nat.le_refl _) _))
        generalize (w9.alloc (.cells (#[.int .u8 0, .int .u8 0, .int .u8 0, .int .u8 0, .int .u8 0, .int .u8 0, .int .u8 0, .int .u8 0, .int .u8 0, .int .u8 0, .int .u8 0, .int .u8 0, .int .u8 0, .int .u8 0, .int .u8 0, .int .u8 0, .int .u8 0, .int .u8 0, .int .u8 0, .int .u8 0, .int .u8 0, .int .u8 0, .int .u8 0, .int .u8 0, .int .u8 0, .int .u8 0, .int .u8 0, .int .u8 0, .int .u8 0, .int .u8 0, .int .u8 0, .int .u8 0, .string (ByteArray.mk #[]), .int .i64 0, .slice none 0 0, .slice none 0 0, .slice none 0 0, .int .i64 0, .int .i64 0] : Array Value) 98)).setRow w9.heap.size z98 = w10 at *
        generalize w9.heap.size = DB at *
        have HB10 := Lib.hid (HB9.out.trans (HM10.out.below.mono HB9.out.size))
        have H58 := Lib.hid (equal58_zero w10)
        go_wp2_with (first | (refine wpList_load98g (by kernel_rfl) _ rfl DB rfl z98 HD10.out rfl ?_) | (refine wpList_builtg (by kernel_rfl) rfl ?_))
        refine H58.out.mono ?_
        rintro e w11 ⟨rfl, hm11⟩
        have HB11 := Lib.hid (HB10.out.trans (hm11.below.mono HB10.out.size))
        have HM11 := Lib.hid (more_trans HM10.out hm11)
        clear hm11 H58
        have H59 := Lib.hid (same59_any p q2 (.slice pa 0 pc) (.slice xa q2.length xc) w11 (by rw [HPN.out]; omega) (by have := HQL.out; omega) ⟨(HPG.out.row.below HB11.out), HPG.out.nil⟩ ⟨HQ9.out.below HM11.out.below, HQN.out⟩)
        by_cases hpe : p = q2
        · have hdec : decide (p = q2) = true := decide_eq_true hpe
          rw [hdec] at H59
          clear hdec hpe
          go_wp2_with fail
          refine H59.out.mono ?_
          rintro e w12 ⟨rfl, hm12⟩
          have HB12 := Lib.hid (HB11.out.trans (hm12.below.mono HB11.out.size))
          clear hm12 H59
          go_wp2_with fail
          go_ret
          exact ⟨rfl, by rw [HN.out]; exact (HM6.out.below.trans (HB12.out.mono HM6.out.size))⟩
        · have hdec : decide (p = q2) = false := decide_eq_false hpe
          rw [hdec] at H59
          clear hdec hpe
          go_wp2_with fail
          refine H59.out.mono ?_
          rintro e w12 ⟨rfl, hm12⟩
          have HB12 := Lib.hid (HB11.out.trans (hm12.below.mono HB11.out.size))
          clear hm12 H59
          go_wp2_with fail
          go_ret
          exact ⟨rfl, by rw [HN.out]; exact (HM6.out.below.trans (HB12.out.mono HM6.out.size))⟩
      · have HCD := Lib.hid hcd
        have HFI := Lib.hid hfi
        have HDI := Lib.hid hdi
        have HDH := Lib.hid hdh
        have HK := Lib.hid hk
        have HENC := Lib.hid henc
        have HF2 := Lib.hid hf2
        have HDS := Lib.hid hcd.size
        have HD1 := Lib.hid (cert_ones2 hcd (fun i hi => ⟨_, hfi i hi⟩))
        clear hcd hfi hdi hdh hk henc hf2
        go_upto_region 13 with (refine wpList_store_row rfl 98 _ _ rfl w9.heap.size D rfl rfl 98 _ HZ9.out (by rw [HDS.out]; exact info98) (by rw [HDS.out]; rfl) HD1.out ?_)
        try simp only [Act.put]
        have HD10 := Lib.hid (setRow_heap (w9.alloc (.cells (#[.int .u8 0, .int .u8 0, .int .u8 0, .int .u8 0, .int .u8 0, .int .u8 0, .int .u8 0, .int .u8 0, .int .u8 0, .int .u8 0, .int .u8 0, .int .u8 0, .int .u8 0, .int .u8 0, .int .u8 0, .int .u8 0, .int .u8 0, .int .u8 0, .int .u8 0, .int .u8 0, .int .u8 0, .int .u8 0, .int .u8 0, .int .u8 0, .int .u8 0, .int .u8 0, .int .u8 0, .int .u8 0, .int .u8 0, .int .u8 0, .int .u8 0, .int .u8 0, .string (ByteArray.mk #[]), .int .i64 0, .slice none 0 0, .slice none 0 0, .slice none 0 0, .int .i64 0, .int .i64 0] : Array Value) 98)) w9.heap.size _ D 98 (0, 0) HZ9.out)
        have HM10 := Lib.hid (show More w9 ((w9.alloc (.cells (#[.int .u8 0, .int .u8 0, .int .u8 0, .int .u8 0, .int .u8 0, .int .u8 0, .int .u8 0, .int .u8 0, .int .u8 0, .int .u8 0, .int .u8 0, .int .u8 0, .int .u8 0, .int .u8 0, .int .u8 0, .int .u8 0, .int .u8 0, .int .u8 0, .int .u8 0, .int .u8 0, .int .u8 0, .int .u8 0, .int .u8 0, .int .u8 0, .int .u8 0, .int .u8 0, .int .u8 0, .int .u8 0, .int .u8 0, .int .u8 0, .int .u8 0, .int .u8 0, .string (ByteArray.mk #[]), .int .i64 0, .slice none 0 0, .slice none 0 0, .slice none 0 0, .int .i64 0, .int .i64 0] : Array Value) 98)).setRow w9.heap.size D) from more_of (below_setRow HM9.out.below (Nat.le_refl _) _))
        generalize (w9.alloc (.cells (#[.int .u8 0, .int .u8 0, .int .u8 0, .int .u8 0, .int .u8 0, .int .u8 0, .int .u8 0, .int .u8 0, .int .u8 0, .int .u8 0, .int .u8 0, .int .u8 0, .int .u8 0, .int .u8 0, .int .u8 0, .int .u8 0, .int .u8 0, .int .u8 0, .int .u8 0, .int .u8 0, .int .u8 0, .int .u8 0, .int .u8 0, .int .u8 0, .int .u8 0, .int .u8 0, .int .u8 0, .int .u8 0, .int .u8 0, .int .u8 0, .int .u8 0, .int .u8 0, .string (ByteArray.mk #[]), .int .i64 0, .slice none 0 0, .slice none 0 0, .slice none 0 0, .int .i64 0, .int .i64 0] : Array Value) 98)).setRow w9.heap.size D = w10 at *
        generalize w9.heap.size = DB at *
        have HB10 := Lib.hid (HB9.out.trans (HM10.out.below.mono HB9.out.size))
        have H50 := Lib.hid (check50_any D d w10 (HCD.out.more HM10.out))
        go_wp2_with (refine wpList_load98 rfl _ rfl DB rfl D HD10.out HDS.out ?_)
        refine H50.out.mono ?_
        rintro e w11 ⟨⟨E2, rfl, hE2⟩, hb11⟩
        obtain rfl : E2 = 0 := hE2.same HK.out
        have HM11 := Lib.hid (more_trans HM10.out (more_of hb11))
        have HD11 := Lib.hid (((more_of hb11).block (blk_lt HD10.out)).trans HD10.out)
        have HB11 := Lib.hid (HB10.out.trans (hb11.mono HB10.out.size))
        clear hb11 H50 hE2
        have H56 := Lib.hid (bytes56_ok D d fl2 w11 (HCD.out.more HM11.out) HF2.out (fun j n hj => by
          have h1 : j < 32 := by rw [← HF2.out]; exact (List.getElem?_eq_some_iff.1 hj).1
          rw [HFI.out j h1, List.getD_eq_getElem?_getD, hj]
          rfl) HDI.out HDH.out HK.out)
        rw [HENC.out] at H56
        go_wp2_with (refine wpList_load98g (by kernel_rfl) _ rfl DB rfl D HD11.out HDS.out ?_)
        refine H56.out.mono ?_
        rintro e w12 ⟨⟨bv, rfl, hbo⟩, hb12⟩
        have HM12 := Lib.hid (more_trans HM11.out (more_of hb12))
        have HB12 := Lib.hid (HB11.out.trans (hb12.mono HB11.out.size))
        have H59 := Lib.hid (same59_any q2 q2 bv (.slice xa q2.length xc) w12 (by have := HQL.out; omega) (by have := HQL.out; omega) (ByG.of_owns hbo) ⟨HQ9.out.below HM12.out.below, HQN.out⟩)
        rw [decide_eq_true rfl] at H59
        obtain ⟨ba, bc, rfl, _⟩ := owns_shape hbo
        clear hbo hb12 H56
        go_wp2_with fail
        refine H59.out.mono ?_
        rintro e w13 ⟨rfl, hm13⟩
        have HB13 := Lib.hid (HB12.out.trans (hm13.below.mono HB12.out.size))
        clear hm13 H59
        go_wp2_with fail
        go_ret
        exact ⟨rfl, by rw [HN.out]; exact (HM6.out.below.trans (HB13.out.mono HM6.out.size))⟩
    · have hv16b : ((vn : Int) % 16 == 0) = false := by rw [beq_eq_false_iff_ne]; omega
      have hv16t : (Int.tmod (vn : Int) 16 == 0) = false := by rw [Int.tmod_eq_emod_of_nonneg (by omega)]; exact hv16b
      clear hv16
      obtain ⟨q2, HQ2⟩ : ∃ q2, Hid (q2 = p) := ⟨_, Lib.hid rfl⟩
      rw [← HQ2.out] at HLE HQB0 HQO
      have HQ := Lib.hid (show w7.ownsRow w6.heap.size 5 1 (.slice qa q2.length qc) q2.length (bV q2) by rw [HLE.out]; exact HQO.out)
      have HQB := HQB0
      have HQL := Lib.hid (show q2.length ≤ 100001 by rw [HLE.out]; omega)
      have HBW := Lib.hid HB7.out
      have HQG := Lib.hid (ByG.of_owns HQ.out)
      have HRD := Lib.hid (read57_any (fun z => w6.heap.size ≤ z) q2 _ w7 (by have := HQL.out; omega) HQB.out (ByV.of_owns HQ.out))
      rw [HLE.out] at HRD
      clear HQ
      have HQG := Lib.hid (show ByG w7 q2 (.slice qa 0 qc) by have h := HQG.out; rwa [HLE.out] at h)
      go_upto_region 12 with fail
      go_wp2_with fail
      refine HRD.out.mono ?_
      rintro e w9 ⟨⟨D, E, rfl, hde⟩, hb9⟩
      have HB9 := Lib.hid (HBW.out.trans (hb9.mono HBW.out.size))
      have HQ9 := Lib.hid (HQG.out.row.below hb9)
      have HQN := Lib.hid HQG.out.nil
      clear hb9 HRD HQG HBW
      have HZ9 := Lib.hid (alloc_last w9 (.cells (#[.int .u8 0, .int .u8 0, .int .u8 0, .int .u8 0, .int .u8 0, .int .u8 0, .int .u8 0, .int .u8 0, .int .u8 0, .int .u8 0, .int .u8 0, .int .u8 0, .int .u8 0, .int .u8 0, .int .u8 0, .int .u8 0, .int .u8 0, .int .u8 0, .int .u8 0, .int .u8 0, .int .u8 0, .int .u8 0, .int .u8 0, .int .u8 0, .int .u8 0, .int .u8 0, .int .u8 0, .int .u8 0, .int .u8 0, .int .u8 0, .int .u8 0, .int .u8 0, .string (ByteArray.mk #[]), .int .i64 0, .slice none 0 0, .slice none 0 0, .slice none 0 0, .int .i64 0, .int .i64 0] : Array Value) 98))
      have HM9 := Lib.hid (more_alloc w9 (.cells (#[.int .u8 0, .int .u8 0, .int .u8 0, .int .u8 0, .int .u8 0, .int .u8 0, .int .u8 0, .int .u8 0, .int .u8 0, .int .u8 0, .int .u8 0, .int .u8 0, .int .u8 0, .int .u8 0, .int .u8 0, .int .u8 0, .int .u8 0, .int .u8 0, .int .u8 0, .int .u8 0, .int .u8 0, .int .u8 0, .int .u8 0, .int .u8 0, .int .u8 0, .int .u8 0, .int .u8 0, .int .u8 0, .int .u8 0, .int .u8 0, .int .u8 0, .int .u8 0, .string (ByteArray.mk #[]), .int .i64 0, .slice none 0 0, .slice none 0 0, .slice none 0 0, .int .i64 0, .int .i64 0] : Array Value) 98))
      rcases hde with ⟨rfl, rfl, hno⟩ | ⟨rfl, fl2, d, hf2, hcd, hfi, hdi, hdh, hk, henc⟩
      · have HNO := Lib.hid (HPQ.out _ hno)
        clear hno
        go_upto_region 13 with (refine wpList_store_row rfl 98 _ _ rfl w9.heap.size z98 rfl rfl 98 _ HZ9.out (by exact info98) (by rfl) (by kernel_rfl) ?_)
        try simp only [Act.put]
        have HD10 := Lib.hid (setRow_heap (w9.alloc (.cells (#[.int .u8 0, .int .u8 0, .int .u8 0, .int .u8 0, .int .u8 0, .int .u8 0, .int .u8 0, .int .u8 0, .int .u8 0, .int .u8 0, .int .u8 0, .int .u8 0, .int .u8 0, .int .u8 0, .int .u8 0, .int .u8 0, .int .u8 0, .int .u8 0, .int .u8 0, .int .u8 0, .int .u8 0, .int .u8 0, .int .u8 0, .int .u8 0, .int .u8 0, .int .u8 0, .int .u8 0, .int .u8 0, .int .u8 0, .int .u8 0, .int .u8 0, .int .u8 0, .string (ByteArray.mk #[]), .int .i64 0, .slice none 0 0, .slice none 0 0, .slice none 0 0, .int .i64 0, .int .i64 0] : Array Value) 98)) w9.heap.size _ z98 98 (0, 0) HZ9.out)
        have HM10 := Lib.hid (show More w9 ((w9.alloc (.cells (#[.int .u8 0, .int .u8 0, .int .u8 0, .int .u8 0, .int .u8 0, .int .u8 0, .int .u8 0, .int .u8 0, .int .u8 0, .int .u8 0, .int .u8 0, .int .u8 0, .int .u8 0, .int .u8 0, .int .u8 0, .int .u8 0, .int .u8 0, .int .u8 0, .int .u8 0, .int .u8 0, .int .u8 0, .int .u8 0, .int .u8 0, .int .u8 0, .int .u8 0, .int .u8 0, .int .u8 0, .int .u8 0, .int .u8 0, .int .u8 0, .int .u8 0, .int .u8 0, .string (ByteArray.mk #[]), .int .i64 0, .slice none 0 0, .slice none 0 0, .slice none 0 0, .int .i64 0, .int .i64 0] : Array Value) 98)).setRow w9.heap.size z98) from more_of (below_setRow HM9.out.below (Nat.le_refl _) _))
        generalize (w9.alloc (.cells (#[.int .u8 0, .int .u8 0, .int .u8 0, .int .u8 0, .int .u8 0, .int .u8 0, .int .u8 0, .int .u8 0, .int .u8 0, .int .u8 0, .int .u8 0, .int .u8 0, .int .u8 0, .int .u8 0, .int .u8 0, .int .u8 0, .int .u8 0, .int .u8 0, .int .u8 0, .int .u8 0, .int .u8 0, .int .u8 0, .int .u8 0, .int .u8 0, .int .u8 0, .int .u8 0, .int .u8 0, .int .u8 0, .int .u8 0, .int .u8 0, .int .u8 0, .int .u8 0, .string (ByteArray.mk #[]), .int .i64 0, .slice none 0 0, .slice none 0 0, .slice none 0 0, .int .i64 0, .int .i64 0] : Array Value) 98)).setRow w9.heap.size z98 = w10 at *
        generalize w9.heap.size = DB at *
        have HB10 := Lib.hid (HB9.out.trans (HM10.out.below.mono HB9.out.size))
        have H58 := Lib.hid (equal58_zero w10)
        go_wp2_with (first | (refine wpList_load98g (by kernel_rfl) _ rfl DB rfl z98 HD10.out rfl ?_) | (refine wpList_builtg (by kernel_rfl) rfl ?_))
        refine H58.out.mono ?_
        rintro e w11 ⟨rfl, hm11⟩
        have HB11 := Lib.hid (HB10.out.trans (hm11.below.mono HB10.out.size))
        have HM11 := Lib.hid (more_trans HM10.out hm11)
        clear hm11 H58
        have H59 := Lib.hid (same59_any p q2 (.slice pa 0 pc) (.slice qa 0 qc) w11 (by rw [HPN.out]; omega) (by have := HQL.out; omega) ⟨(HPG.out.row.below HB11.out), HPG.out.nil⟩ ⟨HQ9.out.below HM11.out.below, HQN.out⟩)
        by_cases hpe : p = q2
        · have hdec : decide (p = q2) = true := decide_eq_true hpe
          rw [hdec] at H59
          clear hdec hpe
          go_wp2_with fail
          refine H59.out.mono ?_
          rintro e w12 ⟨rfl, hm12⟩
          have HB12 := Lib.hid (HB11.out.trans (hm12.below.mono HB11.out.size))
          clear hm12 H59
          go_wp2_with fail
          go_ret
          exact ⟨rfl, by rw [HN.out]; exact (HM6.out.below.trans (HB12.out.mono HM6.out.size))⟩
        · have hdec : decide (p = q2) = false := decide_eq_false hpe
          rw [hdec] at H59
          clear hdec hpe
          go_wp2_with fail
          refine H59.out.mono ?_
          rintro e w12 ⟨rfl, hm12⟩
          have HB12 := Lib.hid (HB11.out.trans (hm12.below.mono HB11.out.size))
          clear hm12 H59
          go_wp2_with fail
          go_ret
          exact ⟨rfl, by rw [HN.out]; exact (HM6.out.below.trans (HB12.out.mono HM6.out.size))⟩
      · have HCD := Lib.hid hcd
        have HFI := Lib.hid hfi
        have HDI := Lib.hid hdi
        have HDH := Lib.hid hdh
        have HK := Lib.hid hk
        have HENC := Lib.hid henc
        have HF2 := Lib.hid hf2
        have HDS := Lib.hid hcd.size
        have HD1 := Lib.hid (cert_ones2 hcd (fun i hi => ⟨_, hfi i hi⟩))
        clear hcd hfi hdi hdh hk henc hf2
        go_upto_region 13 with (refine wpList_store_row rfl 98 _ _ rfl w9.heap.size D rfl rfl 98 _ HZ9.out (by rw [HDS.out]; exact info98) (by rw [HDS.out]; rfl) HD1.out ?_)
        try simp only [Act.put]
        have HD10 := Lib.hid (setRow_heap (w9.alloc (.cells (#[.int .u8 0, .int .u8 0, .int .u8 0, .int .u8 0, .int .u8 0, .int .u8 0, .int .u8 0, .int .u8 0, .int .u8 0, .int .u8 0, .int .u8 0, .int .u8 0, .int .u8 0, .int .u8 0, .int .u8 0, .int .u8 0, .int .u8 0, .int .u8 0, .int .u8 0, .int .u8 0, .int .u8 0, .int .u8 0, .int .u8 0, .int .u8 0, .int .u8 0, .int .u8 0, .int .u8 0, .int .u8 0, .int .u8 0, .int .u8 0, .int .u8 0, .int .u8 0, .string (ByteArray.mk #[]), .int .i64 0, .slice none 0 0, .slice none 0 0, .slice none 0 0, .int .i64 0, .int .i64 0] : Array Value) 98)) w9.heap.size _ D 98 (0, 0) HZ9.out)
        have HM10 := Lib.hid (show More w9 ((w9.alloc (.cells (#[.int .u8 0, .int .u8 0, .int .u8 0, .int .u8 0, .int .u8 0, .int .u8 0, .int .u8 0, .int .u8 0, .int .u8 0, .int .u8 0, .int .u8 0, .int .u8 0, .int .u8 0, .int .u8 0, .int .u8 0, .int .u8 0, .int .u8 0, .int .u8 0, .int .u8 0, .int .u8 0, .int .u8 0, .int .u8 0, .int .u8 0, .int .u8 0, .int .u8 0, .int .u8 0, .int .u8 0, .int .u8 0, .int .u8 0, .int .u8 0, .int .u8 0, .int .u8 0, .string (ByteArray.mk #[]), .int .i64 0, .slice none 0 0, .slice none 0 0, .slice none 0 0, .int .i64 0, .int .i64 0] : Array Value) 98)).setRow w9.heap.size D) from more_of (below_setRow HM9.out.below (Nat.le_refl _) _))
        generalize (w9.alloc (.cells (#[.int .u8 0, .int .u8 0, .int .u8 0, .int .u8 0, .int .u8 0, .int .u8 0, .int .u8 0, .int .u8 0, .int .u8 0, .int .u8 0, .int .u8 0, .int .u8 0, .int .u8 0, .int .u8 0, .int .u8 0, .int .u8 0, .int .u8 0, .int .u8 0, .int .u8 0, .int .u8 0, .int .u8 0, .int .u8 0, .int .u8 0, .int .u8 0, .int .u8 0, .int .u8 0, .int .u8 0, .int .u8 0, .int .u8 0, .int .u8 0, .int .u8 0, .int .u8 0, .string (ByteArray.mk #[]), .int .i64 0, .slice none 0 0, .slice none 0 0, .slice none 0 0, .int .i64 0, .int .i64 0] : Array Value) 98)).setRow w9.heap.size D = w10 at *
        generalize w9.heap.size = DB at *
        have HB10 := Lib.hid (HB9.out.trans (HM10.out.below.mono HB9.out.size))
        have H50 := Lib.hid (check50_any D d w10 (HCD.out.more HM10.out))
        go_wp2_with (refine wpList_load98 rfl _ rfl DB rfl D HD10.out HDS.out ?_)
        refine H50.out.mono ?_
        rintro e w11 ⟨⟨E2, rfl, hE2⟩, hb11⟩
        obtain rfl : E2 = 0 := hE2.same HK.out
        have HM11 := Lib.hid (more_trans HM10.out (more_of hb11))
        have HD11 := Lib.hid (((more_of hb11).block (blk_lt HD10.out)).trans HD10.out)
        have HB11 := Lib.hid (HB10.out.trans (hb11.mono HB10.out.size))
        clear hb11 H50 hE2
        have H56 := Lib.hid (bytes56_ok D d fl2 w11 (HCD.out.more HM11.out) HF2.out (fun j n hj => by
          have h1 : j < 32 := by rw [← HF2.out]; exact (List.getElem?_eq_some_iff.1 hj).1
          rw [HFI.out j h1, List.getD_eq_getElem?_getD, hj]
          rfl) HDI.out HDH.out HK.out)
        rw [HENC.out] at H56
        go_wp2_with (refine wpList_load98g (by kernel_rfl) _ rfl DB rfl D HD11.out HDS.out ?_)
        refine H56.out.mono ?_
        rintro e w12 ⟨⟨bv, rfl, hbo⟩, hb12⟩
        have HM12 := Lib.hid (more_trans HM11.out (more_of hb12))
        have HB12 := Lib.hid (HB11.out.trans (hb12.mono HB11.out.size))
        have H59 := Lib.hid (same59_any q2 q2 bv (.slice qa 0 qc) w12 (by have := HQL.out; omega) (by have := HQL.out; omega) (ByG.of_owns hbo) ⟨HQ9.out.below HM12.out.below, HQN.out⟩)
        rw [decide_eq_true rfl] at H59
        obtain ⟨ba, bc, rfl, _⟩ := owns_shape hbo
        clear hbo hb12 H56
        go_wp2_with fail
        refine H59.out.mono ?_
        rintro e w13 ⟨rfl, hm13⟩
        have HB13 := Lib.hid (HB12.out.trans (hm13.below.mono HB12.out.size))
        clear hm13 H59
        go_wp2_with fail
        go_ret
        exact ⟨rfl, by rw [HN.out]; exact (HM6.out.below.trans (HB13.out.mono HM6.out.size))⟩
  · have hn1 : 0 < n := by omega
    have hp : kn % n < n := Nat.mod_lt _ hn1
    have hpp : kn % n < p.length := by rw [HPN.out]; exact hp
    have hrem : Int.tmod (kn : Int) (n : Int) = ((kn % n : Nat) : Int) := by rw [Int.tmod_eq_emod_of_nonneg (by omega)]; exact (Int.natCast_emod kn n).symm
    obtain ⟨g, rfl⟩ : ∃ g, qa = some ⟨g, 0, none⟩ := by
      rcases HQO.out.2 with ⟨h, h0⟩ | ⟨g, cap, cur, h, _⟩
      · omega
      · exact ⟨g, by injection h⟩
    obtain ⟨b, off, hbo, _, _, hcell⟩ := (Row.of_owns HQO.out).at (by omega)
    have hkv : IntKind.i64.wrap (kn : Int) = kn := by rw [IntKind.wrap_i64]; omega
    generalize kn % n = r at *
    have hkz : ((n : Int) == 0) = false := beq_eq_false_iff_ne.2 (by omega)
    have hri : (r : Int) < n := by omega
    have e0 : w7.cell? ⟨g, r, none⟩ = some (.int .u8 (p[r]'hpp)) := by
      cases hbo
      have := hcell r (.int .u8 (p[r]'hpp)) (by simp [bV, hpp])
      rwa [Nat.zero_add] at this
    clear hcell hbo
    have hbe := cell_lt e0
    generalize p[r]'hpp = old at *
    have ST := Lib.hid (HQO.out.stored r (.int .u8 vn))
    have fz : w7.frozen? ⟨g, r, none⟩ = false := HQO.out.frozenAt r
    clear hn0 hpp
    go_upto_region 10 with fail
    have HLE := Lib.hid (show (p.set r (vn : Int)).length = n by rw [List.length_set, HPN.out])
    have HQB0 := Lib.hid (show Byts (p.set r (vn : Int)) from HPB.out.set r ⟨by omega, by omega⟩)
    have HQO8 := Lib.hid (show (w7.setCell ⟨g, r, none⟩ (.int .u8 vn)).ownsRow w6.heap.size 5 1 (.slice (some ⟨g, 0, none⟩) n qc) n (bV (p.set r (vn : Int))) by rw [← bV_set]; exact ST.out.1)
    have HB8 := Lib.hid (show Below w6.heap.size w6 (w7.setCell ⟨g, r, none⟩ (.int .u8 vn)) from HB7.out.grown ST.out.2 HB7.out.size (fun z hz => (HQO.out.lt z hz).1))
    generalize w7.setCell ⟨g, r, none⟩ (.int .u8 vn) = w8a at *
    clear e0 hbe fz ST HQO HB7 hkz hrem hkv
    obtain ⟨q1, HQ1⟩ : ∃ q1, Hid (q1 = p.set r (vn : Int)) := ⟨_, Lib.hid rfl⟩
    rw [← HQ1.out] at HLE HQB0 HQO8
    obtain ⟨qa, HQA⟩ : ∃ qa, Hid (qa = some (⟨g, 0, none⟩ : Addr)) := ⟨_, Lib.hid rfl⟩
    rw [← HQA.out] at HQO8 ⊢
    by_cases hv16 : vn % 16 = 0
    · have hv16b : ((vn : Int) % 16 == 0) = true := by rw [beq_iff_eq]; omega
      have hv16t : (Int.tmod (vn : Int) 16 == 0) = true := by rw [Int.tmod_eq_emod_of_nonneg (by omega)]; exact hv16b
      clear hv16
      have HR1 := Lib.hid (show n + 1 ≤ maxLen ∧ (n + 1) * 1 ≤ 140737488355328 by unfold maxLen; omega)
      have HMV := Lib.hid (more_alloc w8a (.cells #[.int .u8 vn] 5))
      have HQV := Lib.hid (owns_keep HQO8.out (fun z hz => HMV.out.block (HQO8.out.lt z hz).2))
      go_upto_region 12 with (at_builtin; refine wpList_append_own _ rfl _ _ 92 rfl w6.heap.size 5 i0 _ 1 1 Try.underlying92 hi0 hz0 hz1 hz2 rfl (by omega) (.slice qa n qc) n (bV q1) rfl HQV.out ⟨w8a.heap.size, 0, none⟩ 1 1 [.int .u8 vn] rfl rfl (World.news_of_block (cs := #[.int .u8 vn]) (t := 5) (fr := (0, 0)) (alloc_last _ _)) (by simp [Value.oneCell']) HR1.out.1 HR1.out.2 (by rw [World.size_alloc]; exact Nat.le_succ_of_le HB8.out.size) ?_; intro v8 w8 hown8 hgrow8 _)
      have HBW := Lib.hid (show Below w6.heap.size w6 w8 from (HB8.out.trans (HMV.out.below.mono HB8.out.size)).grown hgrow8 (Nat.le_trans HB8.out.size HMV.out.size) (fun z hz => (HQV.out.lt z hz).1))
      obtain ⟨q2, HQ2⟩ : ∃ q2, Hid (q2 = q1 ++ [(vn : Int)]) := ⟨_, Lib.hid rfl⟩
      have HQ := Lib.hid (show w8.ownsRow w6.heap.size 5 1 v8 q2.length (bV q2) by rw [HQ2.out, List.length_append, List.length_singleton, HLE.out, bV_append]; exact hown8)
      have HQB := Lib.hid (show Byts q2 by rw [HQ2.out]; exact HQB0.out.append (Byts.cons ⟨by omega, by omega⟩ Byts.nil))
      have HQL := Lib.hid (show q2.length ≤ 100001 by rw [HQ2.out, List.length_append, List.length_singleton, HLE.out]; omega)
      clear hown8 hgrow8 HQV HMV HR1
      obtain ⟨xa, xc, rfl, _⟩ := owns_shape HQ.out
      have HQG := Lib.hid (ByG.of_owns HQ.out)
      have HRD := Lib.hid (read57_any (fun z => w6.heap.size ≤ z) q2 _ w8 (by have := HQL.out; omega) HQB.out (ByV.of_owns HQ.out))
      clear HQ
      go_wp2_with fail
      refine HRD.out.mono ?_
      rintro e w9 ⟨⟨D, E, rfl, hde⟩, hb9⟩
      have HB9 := Lib.hid (HBW.out.trans (hb9.mono HBW.out.size))
      have HQ9 := Lib.hid (HQG.out.row.below hb9)
      have HQN := Lib.hid HQG.out.nil
      clear hb9 HRD HQG HBW
      have HZ9 := Lib.hid (alloc_last w9 (.cells (#[.int .u8 0, .int .u8 0, .int .u8 0, .int .u8 0, .int .u8 0, .int .u8 0, .int .u8 0, .int .u8 0, .int .u8 0, .int .u8 0, .int .u8 0, .int .u8 0, .int .u8 0, .int .u8 0, .int .u8 0, .int .u8 0, .int .u8 0, .int .u8 0, .int .u8 0, .int .u8 0, .int .u8 0, .int .u8 0, .int .u8 0, .int .u8 0, .int .u8 0, .int .u8 0, .int .u8 0, .int .u8 0, .int .u8 0, .int .u8 0, .int .u8 0, .int .u8 0, .string (ByteArray.mk #[]), .int .i64 0, .slice none 0 0, .slice none 0 0, .slice none 0 0, .int .i64 0, .int .i64 0] : Array Value) 98))
      have HM9 := Lib.hid (more_alloc w9 (.cells (#[.int .u8 0, .int .u8 0, .int .u8 0, .int .u8 0, .int .u8 0, .int .u8 0, .int .u8 0, .int .u8 0, .int .u8 0, .int .u8 0, .int .u8 0, .int .u8 0, .int .u8 0, .int .u8 0, .int .u8 0, .int .u8 0, .int .u8 0, .int .u8 0, .int .u8 0, .int .u8 0, .int .u8 0, .int .u8 0, .int .u8 0, .int .u8 0, .int .u8 0, .int .u8 0, .int .u8 0, .int .u8 0, .int .u8 0, .int .u8 0, .int .u8 0, .int .u8 0, .string (ByteArray.mk #[]), .int .i64 0, .slice none 0 0, .slice none 0 0, .slice none 0 0, .int .i64 0, .int .i64 0] : Array Value) 98))
      rcases hde with ⟨rfl, rfl, hno⟩ | ⟨rfl, fl2, d, hf2, hcd, hfi, hdi, hdh, hk, henc⟩
      · have HNO := Lib.hid (HPQ.out _ hno)
        clear hno
        go_upto_region 13 with (refine wpList_store_row rfl 98 _ _ rfl w9.heap.size z98 rfl rfl 98 _ HZ9.out (by exact info98) (by rfl) (by kernel_rfl) ?_)
        try simp only [Act.put]
        have HD10 := Lib.hid (setRow_heap (w9.alloc (.cells (#[.int .u8 0, .int .u8 0, .int .u8 0, .int .u8 0, .int .u8 0, .int .u8 0, .int .u8 0, .int .u8 0, .int .u8 0, .int .u8 0, .int .u8 0, .int .u8 0, .int .u8 0, .int .u8 0, .int .u8 0, .int .u8 0, .int .u8 0, .int .u8 0, .int .u8 0, .int .u8 0, .int .u8 0, .int .u8 0, .int .u8 0, .int .u8 0, .int .u8 0, .int .u8 0, .int .u8 0, .int .u8 0, .int .u8 0, .int .u8 0, .int .u8 0, .int .u8 0, .string (ByteArray.mk #[]), .int .i64 0, .slice none 0 0, .slice none 0 0, .slice none 0 0, .int .i64 0, .int .i64 0] : Array Value) 98)) w9.heap.size _ z98 98 (0, 0) HZ9.out)
        have HM10 := Lib.hid (show More w9 ((w9.alloc (.cells (#[.int .u8 0, .int .u8 0, .int .u8 0, .int .u8 0, .int .u8 0, .int .u8 0, .int .u8 0, .int .u8 0, .int .u8 0, .int .u8 0, .int .u8 0, .int .u8 0, .int .u8 0, .int .u8 0, .int .u8 0, .int .u8 0, .int .u8 0, .int .u8 0, .int .u8 0, .int .u8 0, .int .u8 0, .int .u8 0, .int .u8 0, .int .u8 0, .int .u8 0, .int .u8 0, .int .u8 0, .int .u8 0, .int .u8 0, .int .u8 0, .int .u8 0, .int .u8 0, .string (ByteArray.mk #[]), .int .i64 0, .slice none 0 0, .slice none 0 0, .slice none 0 0, .int .i64 0, .int .i64 0] : Array Value) 98)).setRow w9.heap.size z98) from more_of (below_setRow HM9.out.below (Nat.le_refl _) _))
        generalize (w9.alloc (.cells (#[.int .u8 0, .int .u8 0, .int .u8 0, .int .u8 0, .int .u8 0, .int .u8 0, .int .u8 0, .int .u8 0, .int .u8 0, .int .u8 0, .int .u8 0, .int .u8 0, .int .u8 0, .int .u8 0, .int .u8 0, .int .u8 0, .int .u8 0, .int .u8 0, .int .u8 0, .int .u8 0, .int .u8 0, .int .u8 0, .int .u8 0, .int .u8 0, .int .u8 0, .int .u8 0, .int .u8 0, .int .u8 0, .int .u8 0, .int .u8 0, .int .u8 0, .int .u8 0, .string (ByteArray.mk #[]), .int .i64 0, .slice none 0 0, .slice none 0 0, .slice none 0 0, .int .i64 0, .int .i64 0] : Array Value) 98)).setRow w9.heap.size z98 = w10 at *
        generalize w9.heap.size = DB at *
        have HB10 := Lib.hid (HB9.out.trans (HM10.out.below.mono HB9.out.size))
        have H58 := Lib.hid (equal58_zero w10)
        go_wp2_with (first | (refine wpList_load98g (by kernel_rfl) _ rfl DB rfl z98 HD10.out rfl ?_) | (refine wpList_builtg (by kernel_rfl) rfl ?_))
        refine H58.out.mono ?_
        rintro e w11 ⟨rfl, hm11⟩
        have HB11 := Lib.hid (HB10.out.trans (hm11.below.mono HB10.out.size))
        have HM11 := Lib.hid (more_trans HM10.out hm11)
        clear hm11 H58
        have H59 := Lib.hid (same59_any p q2 (.slice pa n pc) (.slice xa q2.length xc) w11 (by rw [HPN.out]; omega) (by have := HQL.out; omega) ⟨(HPG.out.row.below HB11.out), HPG.out.nil⟩ ⟨HQ9.out.below HM11.out.below, HQN.out⟩)
        by_cases hpe : p = q2
        · exfalso
          have h1 := HNO.out.resolve_right (fun h => h hpe)
          have h2 := HPN.out
          rw [h1] at h2
          have h3 : (0 : Nat) = n := h2
          omega
        · have hdec : decide (p = q2) = false := decide_eq_false hpe
          rw [hdec] at H59
          clear hdec hpe
          go_wp2_with fail
          refine H59.out.mono ?_
          rintro e w12 ⟨rfl, hm12⟩
          have HB12 := Lib.hid (HB11.out.trans (hm12.below.mono HB11.out.size))
          clear hm12 H59
          go_wp2_with fail
          go_ret
          exact ⟨rfl, by rw [HN.out]; exact (HM6.out.below.trans (HB12.out.mono HM6.out.size))⟩
      · have HCD := Lib.hid hcd
        have HFI := Lib.hid hfi
        have HDI := Lib.hid hdi
        have HDH := Lib.hid hdh
        have HK := Lib.hid hk
        have HENC := Lib.hid henc
        have HF2 := Lib.hid hf2
        have HDS := Lib.hid hcd.size
        have HD1 := Lib.hid (cert_ones2 hcd (fun i hi => ⟨_, hfi i hi⟩))
        clear hcd hfi hdi hdh hk henc hf2
        go_upto_region 13 with (refine wpList_store_row rfl 98 _ _ rfl w9.heap.size D rfl rfl 98 _ HZ9.out (by rw [HDS.out]; exact info98) (by rw [HDS.out]; rfl) HD1.out ?_)
        try simp only [Act.put]
        have HD10 := Lib.hid (setRow_heap (w9.alloc (.cells (#[.int .u8 0, .int .u8 0, .int .u8 0, .int .u8 0, .int .u8 0, .int .u8 0, .int .u8 0, .int .u8 0, .int .u8 0, .int .u8 0, .int .u8 0, .int .u8 0, .int .u8 0, .int .u8 0, .int .u8 0, .int .u8 0, .int .u8 0, .int .u8 0, .int .u8 0, .int .u8 0, .int .u8 0, .int .u8 0, .int .u8 0, .int .u8 0, .int .u8 0, .int .u8 0, .int .u8 0, .int .u8 0, .int .u8 0, .int .u8 0, .int .u8 0, .int .u8 0, .string (ByteArray.mk #[]), .int .i64 0, .slice none 0 0, .slice none 0 0, .slice none 0 0, .int .i64 0, .int .i64 0] : Array Value) 98)) w9.heap.size _ D 98 (0, 0) HZ9.out)
        have HM10 := Lib.hid (show More w9 ((w9.alloc (.cells (#[.int .u8 0, .int .u8 0, .int .u8 0, .int .u8 0, .int .u8 0, .int .u8 0, .int .u8 0, .int .u8 0, .int .u8 0, .int .u8 0, .int .u8 0, .int .u8 0, .int .u8 0, .int .u8 0, .int .u8 0, .int .u8 0, .int .u8 0, .int .u8 0, .int .u8 0, .int .u8 0, .int .u8 0, .int .u8 0, .int .u8 0, .int .u8 0, .int .u8 0, .int .u8 0, .int .u8 0, .int .u8 0, .int .u8 0, .int .u8 0, .int .u8 0, .int .u8 0, .string (ByteArray.mk #[]), .int .i64 0, .slice none 0 0, .slice none 0 0, .slice none 0 0, .int .i64 0, .int .i64 0] : Array Value) 98)).setRow w9.heap.size D) from more_of (below_setRow HM9.out.below (Nat.le_refl _) _))
        generalize (w9.alloc (.cells (#[.int .u8 0, .int .u8 0, .int .u8 0, .int .u8 0, .int .u8 0, .int .u8 0, .int .u8 0, .int .u8 0, .int .u8 0, .int .u8 0, .int .u8 0, .int .u8 0, .int .u8 0, .int .u8 0, .int .u8 0, .int .u8 0, .int .u8 0, .int .u8 0, .int .u8 0, .int .u8 0, .int .u8 0, .int .u8 0, .int .u8 0, .int .u8 0, .int .u8 0, .int .u8 0, .int .u8 0, .int .u8 0, .int .u8 0, .int .u8 0, .int .u8 0, .int .u8 0, .string (ByteArray.mk #[]), .int .i64 0, .slice none 0 0, .slice none 0 0, .slice none 0 0, .int .i64 0, .int .i64 0] : Array Value) 98)).setRow w9.heap.size D = w10 at *
        generalize w9.heap.size = DB at *
        have HB10 := Lib.hid (HB9.out.trans (HM10.out.below.mono HB9.out.size))
        have H50 := Lib.hid (check50_any D d w10 (HCD.out.more HM10.out))
        go_wp2_with (refine wpList_load98 rfl _ rfl DB rfl D HD10.out HDS.out ?_)
        refine H50.out.mono ?_
        rintro e w11 ⟨⟨E2, rfl, hE2⟩, hb11⟩
        obtain rfl : E2 = 0 := hE2.same HK.out
        have HM11 := Lib.hid (more_trans HM10.out (more_of hb11))
        have HD11 := Lib.hid (((more_of hb11).block (blk_lt HD10.out)).trans HD10.out)
        have HB11 := Lib.hid (HB10.out.trans (hb11.mono HB10.out.size))
        clear hb11 H50 hE2
        have H56 := Lib.hid (bytes56_ok D d fl2 w11 (HCD.out.more HM11.out) HF2.out (fun j n hj => by
          have h1 : j < 32 := by rw [← HF2.out]; exact (List.getElem?_eq_some_iff.1 hj).1
          rw [HFI.out j h1, List.getD_eq_getElem?_getD, hj]
          rfl) HDI.out HDH.out HK.out)
        rw [HENC.out] at H56
        go_wp2_with (refine wpList_load98g (by kernel_rfl) _ rfl DB rfl D HD11.out HDS.out ?_)
        refine H56.out.mono ?_
        rintro e w12 ⟨⟨bv, rfl, hbo⟩, hb12⟩
        have HM12 := Lib.hid (more_trans HM11.out (more_of hb12))
        have HB12 := Lib.hid (HB11.out.trans (hb12.mono HB11.out.size))
        have H59 := Lib.hid (same59_any q2 q2 bv (.slice xa q2.length xc) w12 (by have := HQL.out; omega) (by have := HQL.out; omega) (ByG.of_owns hbo) ⟨HQ9.out.below HM12.out.below, HQN.out⟩)
        rw [decide_eq_true rfl] at H59
        obtain ⟨ba, bc, rfl, _⟩ := owns_shape hbo
        clear hbo hb12 H56
        go_wp2_with fail
        refine H59.out.mono ?_
        rintro e w13 ⟨rfl, hm13⟩
        have HB13 := Lib.hid (HB12.out.trans (hm13.below.mono HB12.out.size))
        clear hm13 H59
        go_wp2_with fail
        go_ret
        exact ⟨rfl, by rw [HN.out]; exact (HM6.out.below.trans (HB13.out.mono HM6.out.size))⟩
    · have hv16b : ((vn : Int) % 16 == 0) = false := by rw [beq_eq_false_iff_ne]; omega
      have hv16t : (Int.tmod (vn : Int) 16 == 0) = false := by rw [Int.tmod_eq_emod_of_nonneg (by omega)]; exact hv16b
      clear hv16
      obtain ⟨q2, HQ2⟩ : ∃ q2, Hid (q2 = q1) := ⟨_, Lib.hid rfl⟩
      rw [← HQ2.out] at HLE HQB0 HQO8
      have HQ := Lib.hid (show w8a.ownsRow w6.heap.size 5 1 (.slice qa q2.length qc) q2.length (bV q2) by rw [HLE.out]; exact HQO8.out)
      have HQB := HQB0
      have HQL := Lib.hid (show q2.length ≤ 100001 by rw [HLE.out]; omega)
      have HBW := Lib.hid HB8.out
      have HQG := Lib.hid (ByG.of_owns HQ.out)
      have HRD := Lib.hid (read57_any (fun z => w6.heap.size ≤ z) q2 _ w8a (by have := HQL.out; omega) HQB.out (ByV.of_owns HQ.out))
      rw [HLE.out] at HRD
      clear HQ
      have HQG := Lib.hid (show ByG w8a q2 (.slice qa n qc) by have h := HQG.out; rwa [HLE.out] at h)
      go_upto_region 12 with fail
      go_wp2_with fail
      refine HRD.out.mono ?_
      rintro e w9 ⟨⟨D, E, rfl, hde⟩, hb9⟩
      have HB9 := Lib.hid (HBW.out.trans (hb9.mono HBW.out.size))
      have HQ9 := Lib.hid (HQG.out.row.below hb9)
      have HQN := Lib.hid HQG.out.nil
      clear hb9 HRD HQG HBW
      have HZ9 := Lib.hid (alloc_last w9 (.cells (#[.int .u8 0, .int .u8 0, .int .u8 0, .int .u8 0, .int .u8 0, .int .u8 0, .int .u8 0, .int .u8 0, .int .u8 0, .int .u8 0, .int .u8 0, .int .u8 0, .int .u8 0, .int .u8 0, .int .u8 0, .int .u8 0, .int .u8 0, .int .u8 0, .int .u8 0, .int .u8 0, .int .u8 0, .int .u8 0, .int .u8 0, .int .u8 0, .int .u8 0, .int .u8 0, .int .u8 0, .int .u8 0, .int .u8 0, .int .u8 0, .int .u8 0, .int .u8 0, .string (ByteArray.mk #[]), .int .i64 0, .slice none 0 0, .slice none 0 0, .slice none 0 0, .int .i64 0, .int .i64 0] : Array Value) 98))
      have HM9 := Lib.hid (more_alloc w9 (.cells (#[.int .u8 0, .int .u8 0, .int .u8 0, .int .u8 0, .int .u8 0, .int .u8 0, .int .u8 0, .int .u8 0, .int .u8 0, .int .u8 0, .int .u8 0, .int .u8 0, .int .u8 0, .int .u8 0, .int .u8 0, .int .u8 0, .int .u8 0, .int .u8 0, .int .u8 0, .int .u8 0, .int .u8 0, .int .u8 0, .int .u8 0, .int .u8 0, .int .u8 0, .int .u8 0, .int .u8 0, .int .u8 0, .int .u8 0, .int .u8 0, .int .u8 0, .int .u8 0, .string (ByteArray.mk #[]), .int .i64 0, .slice none 0 0, .slice none 0 0, .slice none 0 0, .int .i64 0, .int .i64 0] : Array Value) 98))
      rcases hde with ⟨rfl, rfl, hno⟩ | ⟨rfl, fl2, d, hf2, hcd, hfi, hdi, hdh, hk, henc⟩
      · have HNO := Lib.hid (HPQ.out _ hno)
        clear hno
        go_upto_region 13 with (refine wpList_store_row rfl 98 _ _ rfl w9.heap.size z98 rfl rfl 98 _ HZ9.out (by exact info98) (by rfl) (by kernel_rfl) ?_)
        try simp only [Act.put]
        have HD10 := Lib.hid (setRow_heap (w9.alloc (.cells (#[.int .u8 0, .int .u8 0, .int .u8 0, .int .u8 0, .int .u8 0, .int .u8 0, .int .u8 0, .int .u8 0, .int .u8 0, .int .u8 0, .int .u8 0, .int .u8 0, .int .u8 0, .int .u8 0, .int .u8 0, .int .u8 0, .int .u8 0, .int .u8 0, .int .u8 0, .int .u8 0, .int .u8 0, .int .u8 0, .int .u8 0, .int .u8 0, .int .u8 0, .int .u8 0, .int .u8 0, .int .u8 0, .int .u8 0, .int .u8 0, .int .u8 0, .int .u8 0, .string (ByteArray.mk #[]), .int .i64 0, .slice none 0 0, .slice none 0 0, .slice none 0 0, .int .i64 0, .int .i64 0] : Array Value) 98)) w9.heap.size _ z98 98 (0, 0) HZ9.out)
        have HM10 := Lib.hid (show More w9 ((w9.alloc (.cells (#[.int .u8 0, .int .u8 0, .int .u8 0, .int .u8 0, .int .u8 0, .int .u8 0, .int .u8 0, .int .u8 0, .int .u8 0, .int .u8 0, .int .u8 0, .int .u8 0, .int .u8 0, .int .u8 0, .int .u8 0, .int .u8 0, .int .u8 0, .int .u8 0, .int .u8 0, .int .u8 0, .int .u8 0, .int .u8 0, .int .u8 0, .int .u8 0, .int .u8 0, .int .u8 0, .int .u8 0, .int .u8 0, .int .u8 0, .int .u8 0, .int .u8 0, .int .u8 0, .string (ByteArray.mk #[]), .int .i64 0, .slice none 0 0, .slice none 0 0, .slice none 0 0, .int .i64 0, .int .i64 0] : Array Value) 98)).setRow w9.heap.size z98) from more_of (below_setRow HM9.out.below (Nat.le_refl _) _))
        generalize (w9.alloc (.cells (#[.int .u8 0, .int .u8 0, .int .u8 0, .int .u8 0, .int .u8 0, .int .u8 0, .int .u8 0, .int .u8 0, .int .u8 0, .int .u8 0, .int .u8 0, .int .u8 0, .int .u8 0, .int .u8 0, .int .u8 0, .int .u8 0, .int .u8 0, .int .u8 0, .int .u8 0, .int .u8 0, .int .u8 0, .int .u8 0, .int .u8 0, .int .u8 0, .int .u8 0, .int .u8 0, .int .u8 0, .int .u8 0, .int .u8 0, .int .u8 0, .int .u8 0, .int .u8 0, .string (ByteArray.mk #[]), .int .i64 0, .slice none 0 0, .slice none 0 0, .slice none 0 0, .int .i64 0, .int .i64 0] : Array Value) 98)).setRow w9.heap.size z98 = w10 at *
        generalize w9.heap.size = DB at *
        have HB10 := Lib.hid (HB9.out.trans (HM10.out.below.mono HB9.out.size))
        have H58 := Lib.hid (equal58_zero w10)
        go_wp2_with (first | (refine wpList_load98g (by kernel_rfl) _ rfl DB rfl z98 HD10.out rfl ?_) | (refine wpList_builtg (by kernel_rfl) rfl ?_))
        refine H58.out.mono ?_
        rintro e w11 ⟨rfl, hm11⟩
        have HB11 := Lib.hid (HB10.out.trans (hm11.below.mono HB10.out.size))
        have HM11 := Lib.hid (more_trans HM10.out hm11)
        clear hm11 H58
        have H59 := Lib.hid (same59_any p q2 (.slice pa n pc) (.slice qa n qc) w11 (by rw [HPN.out]; omega) (by have := HQL.out; omega) ⟨(HPG.out.row.below HB11.out), HPG.out.nil⟩ ⟨HQ9.out.below HM11.out.below, HQN.out⟩)
        by_cases hpe : p = q2
        · exfalso
          have h1 := HNO.out.resolve_right (fun h => h hpe)
          have h2 := HPN.out
          rw [h1] at h2
          have h3 : (0 : Nat) = n := h2
          omega
        · have hdec : decide (p = q2) = false := decide_eq_false hpe
          rw [hdec] at H59
          clear hdec hpe
          go_wp2_with fail
          refine H59.out.mono ?_
          rintro e w12 ⟨rfl, hm12⟩
          have HB12 := Lib.hid (HB11.out.trans (hm12.below.mono HB11.out.size))
          clear hm12 H59
          go_wp2_with fail
          go_ret
          exact ⟨rfl, by rw [HN.out]; exact (HM6.out.below.trans (HB12.out.mono HM6.out.size))⟩
      · have HCD := Lib.hid hcd
        have HFI := Lib.hid hfi
        have HDI := Lib.hid hdi
        have HDH := Lib.hid hdh
        have HK := Lib.hid hk
        have HENC := Lib.hid henc
        have HF2 := Lib.hid hf2
        have HDS := Lib.hid hcd.size
        have HD1 := Lib.hid (cert_ones2 hcd (fun i hi => ⟨_, hfi i hi⟩))
        clear hcd hfi hdi hdh hk henc hf2
        go_upto_region 13 with (refine wpList_store_row rfl 98 _ _ rfl w9.heap.size D rfl rfl 98 _ HZ9.out (by rw [HDS.out]; exact info98) (by rw [HDS.out]; rfl) HD1.out ?_)
        try simp only [Act.put]
        have HD10 := Lib.hid (setRow_heap (w9.alloc (.cells (#[.int .u8 0, .int .u8 0, .int .u8 0, .int .u8 0, .int .u8 0, .int .u8 0, .int .u8 0, .int .u8 0, .int .u8 0, .int .u8 0, .int .u8 0, .int .u8 0, .int .u8 0, .int .u8 0, .int .u8 0, .int .u8 0, .int .u8 0, .int .u8 0, .int .u8 0, .int .u8 0, .int .u8 0, .int .u8 0, .int .u8 0, .int .u8 0, .int .u8 0, .int .u8 0, .int .u8 0, .int .u8 0, .int .u8 0, .int .u8 0, .int .u8 0, .int .u8 0, .string (ByteArray.mk #[]), .int .i64 0, .slice none 0 0, .slice none 0 0, .slice none 0 0, .int .i64 0, .int .i64 0] : Array Value) 98)) w9.heap.size _ D 98 (0, 0) HZ9.out)
        have HM10 := Lib.hid (show More w9 ((w9.alloc (.cells (#[.int .u8 0, .int .u8 0, .int .u8 0, .int .u8 0, .int .u8 0, .int .u8 0, .int .u8 0, .int .u8 0, .int .u8 0, .int .u8 0, .int .u8 0, .int .u8 0, .int .u8 0, .int .u8 0, .int .u8 0, .int .u8 0, .int .u8 0, .int .u8 0, .int .u8 0, .int .u8 0, .int .u8 0, .int .u8 0, .int .u8 0, .int .u8 0, .int .u8 0, .int .u8 0, .int .u8 0, .int .u8 0, .int .u8 0, .int .u8 0, .int .u8 0, .int .u8 0, .string (ByteArray.mk #[]), .int .i64 0, .slice none 0 0, .slice none 0 0, .slice none 0 0, .int .i64 0, .int .i64 0] : Array Value) 98)).setRow w9.heap.size D) from more_of (below_setRow HM9.out.below (Nat.le_refl _) _))
        generalize (w9.alloc (.cells (#[.int .u8 0, .int .u8 0, .int .u8 0, .int .u8 0, .int .u8 0, .int .u8 0, .int .u8 0, .int .u8 0, .int .u8 0, .int .u8 0, .int .u8 0, .int .u8 0, .int .u8 0, .int .u8 0, .int .u8 0, .int .u8 0, .int .u8 0, .int .u8 0, .int .u8 0, .int .u8 0, .int .u8 0, .int .u8 0, .int .u8 0, .int .u8 0, .int .u8 0, .int .u8 0, .int .u8 0, .int .u8 0, .int .u8 0, .int .u8 0, .int .u8 0, .int .u8 0, .string (ByteArray.mk #[]), .int .i64 0, .slice none 0 0, .slice none 0 0, .slice none 0 0, .int .i64 0, .int .i64 0] : Array Value) 98)).setRow w9.heap.size D = w10 at *
        generalize w9.heap.size = DB at *
        have HB10 := Lib.hid (HB9.out.trans (HM10.out.below.mono HB9.out.size))
        have H50 := Lib.hid (check50_any D d w10 (HCD.out.more HM10.out))
        go_wp2_with (refine wpList_load98 rfl _ rfl DB rfl D HD10.out HDS.out ?_)
        refine H50.out.mono ?_
        rintro e w11 ⟨⟨E2, rfl, hE2⟩, hb11⟩
        obtain rfl : E2 = 0 := hE2.same HK.out
        have HM11 := Lib.hid (more_trans HM10.out (more_of hb11))
        have HD11 := Lib.hid (((more_of hb11).block (blk_lt HD10.out)).trans HD10.out)
        have HB11 := Lib.hid (HB10.out.trans (hb11.mono HB10.out.size))
        clear hb11 H50 hE2
        have H56 := Lib.hid (bytes56_ok D d fl2 w11 (HCD.out.more HM11.out) HF2.out (fun j n hj => by
          have h1 : j < 32 := by rw [← HF2.out]; exact (List.getElem?_eq_some_iff.1 hj).1
          rw [HFI.out j h1, List.getD_eq_getElem?_getD, hj]
          rfl) HDI.out HDH.out HK.out)
        rw [HENC.out] at H56
        go_wp2_with (refine wpList_load98g (by kernel_rfl) _ rfl DB rfl D HD11.out HDS.out ?_)
        refine H56.out.mono ?_
        rintro e w12 ⟨⟨bv, rfl, hbo⟩, hb12⟩
        have HM12 := Lib.hid (more_trans HM11.out (more_of hb12))
        have HB12 := Lib.hid (HB11.out.trans (hb12.mono HB11.out.size))
        have H59 := Lib.hid (same59_any q2 q2 bv (.slice qa n qc) w12 (by have := HQL.out; omega) (by have := HQL.out; omega) (ByG.of_owns hbo) ⟨HQ9.out.below HM12.out.below, HQN.out⟩)
        rw [decide_eq_true rfl] at H59
        obtain ⟨ba, bc, rfl, _⟩ := owns_shape hbo
        clear hbo hb12 H56
        go_wp2_with fail
        refine H59.out.mono ?_
        rintro e w13 ⟨rfl, hm13⟩
        have HB13 := Lib.hid (HB12.out.trans (hm13.below.mono HB12.out.size))
        clear hm13 H59
        go_wp2_with fail
        go_ret
        exact ⟨rfl, by rw [HN.out]; exact (HM6.out.below.trans (HB13.out.mono HM6.out.size))⟩
end Go.Proofs.Ytemeppfikpafbaa

