/- Table.Put (44). -/
import Derived.Test.YtekhoanjpnjaeaaDelete
import Derived.Test.YtekhoanjpnjaeaaDiffL
namespace Go.Proofs.Ytekhoanjpnjaeaa
open Go.RowKit

theorem PlainA.zero {a : Option Addr} {c : Nat} (h : PlainA a c) : a = none → c = 0 := h.nil

theorem put_cat (S : Nat → Prop) (k v : Int) (L T D : List (Int × Int)) (n1 n2 : Nat) (a ar : Option Addr) (cap cr : Nat) (w w3 : World) (hM : More w w3) (hn1 : T.length = n1) (hn2 : D.length = n2)
    (hT : Row S w 2 T.length (.slice a T.length cap) (flat2 T)) (hTn : a = none → cap = 0) (hD : Row S w 2 D.length (.slice ar D.length cr) (flat2 D)) (hDn : ar = none → cr = 0) (hput : L = T ++ (k, v) :: D) (hlen : L.length < 4294967296) :
    Calls Try.prog 81 #[.slice (some ⟨w3.heap.size + 1, 0, none⟩) 3 3] ((w3.alloc (.cells #[.int .i64 k, .int .i64 v] 151)).alloc (.cells #[.slice a n1 cap, .slice (some ⟨w3.heap.size, 0, none⟩) 1 1, .slice ar n2 cr] 52)) fun e w' =>
      More ((w3.alloc (.cells #[.int .i64 k, .int .i64 v] 151)).alloc (.cells #[.slice a n1 cap, .slice (some ⟨w3.heap.size, 0, none⟩) 1 1, .slice ar n2 cr] 52)) w' ∧ ∃ a' c', e = .returned (.slice a' L.length c') ∧ Row (fun x => w3.heap.size ≤ x) w' 2 L.length (.slice a' L.length c') (flat2 L) ∧ PlainA a' c' := by
  subst hn1 hn2
  generalize hW : (w3.alloc (.cells #[.int .i64 k, .int .i64 v] 151)).alloc (.cells #[.slice a T.length cap, .slice (some ⟨w3.heap.size, 0, none⟩) 1 1, .slice ar D.length cr] 52) = W
  have hm3 : More w3 W := by rw [← hW]; exact grownBy_alloc2 _ _ _ _
  have hmW : More w W := more_trans hM hm3
  have hcat : catL [T, [(k, v)], D] = L := by rw [hput]; simp [catL]
  have hsum : sumL [T, [(k, v)], D] < 4294967296 := by rw [← catL_len, hcat]; exact hlen
  have hB1 : W.heap[w3.heap.size + 1]? = some (.cells #[.slice a T.length cap, .slice (some ⟨w3.heap.size, 0, none⟩) 1 1, .slice ar D.length cr] 52) := by rw [← hW]; exact alloc_at _ _ (by simp)
  have hB0 : W.heap[w3.heap.size]? = some (.cells #[.int .i64 k, .int .i64 v] 151) := by rw [← hW, Below.heap_alloc _ _ _ (by simp)]; exact alloc_last _ _
  have hs : w3.heap.size ≤ W.heap.size := hm3.size
  have hc := concat_any (fun _ => True) (fun x => S x ∨ w3.heap.size ≤ x) [T, [(k, v)], D] [.slice a T.length cap, .slice (some ⟨w3.heap.size, 0, none⟩) 1 1, .slice ar D.length cr] (.slice (some ⟨w3.heap.size + 1, 0, none⟩) 3 3) W (show 3 < 1000 by decide) hsum (row_blk hB1 rfl rfl (Nat.le_refl _) trivial) (fun i hi => by
    rcases (show i = 0 ∨ i = 1 ∨ i = 2 by have : i < 3 := hi; omega) with rfl | rfl | rfl
    · exact ⟨a, cap, rfl, (hT.below hmW.below).mono (fun _ h => Or.inl h) (fun _ _ _ _ h => h), hTn⟩
    · exact ⟨some ⟨w3.heap.size, 0, none⟩, 1, rfl, row_blk hB0 rfl rfl (Nat.le_refl _) (Or.inr (Nat.le_refl _)), (fun h => by cases h)⟩
    · exact ⟨ar, cr, rfl, (hD.below hmW.below).mono (fun _ h => Or.inl h) (fun _ _ _ _ h => h), hDn⟩)
  rw [hcat] at hc
  refine hc.mono ?_
  rintro e w' ⟨hb, a', c', rfl, hr, hn'⟩
  exact ⟨more_of hb, a', c', rfl, hr.mono (fun x hx => Nat.le_trans hs hx) (fun _ _ _ _ h => h), hn'⟩

theorem slice_from (a : Option Addr) (n cap p : Nat) (hp : p ≤ n) (hc : n ≤ cap) (hnil : PlainA a cap) : ∃ a', PlainA a' (cap - p) ∧
    (∀ w, (Instr.slice 52 (.slice a n cap) (some (.int .i64 (p : Int))) none none).run Try.prog w = .ok (.slice a' (n - p) (cap - p)) w) ∧
    ∀ S w (l : List (Int × Int)), l.length = n → Row S w 2 n (.slice a n cap) (flat2 l) → Row S w 2 (n - p) (.slice a' (n - p) (cap - p)) (flat2 (l.drop p)) := by
  rcases hnil with ⟨rfl, rfl⟩ | ⟨b, off, rfl⟩
  · obtain rfl : n = 0 := by omega
    obtain rfl : p = 0 := by omega
    exact ⟨none, Or.inl ⟨rfl, rfl⟩, fun w => by simp [go_sem, sliced], fun S w l _ h => by simpa using h⟩
  · by_cases e : cap = p
    · obtain rfl : n = p := by omega
      subst e
      refine ⟨some ⟨b, off, none⟩, Or.inr ⟨b, off, rfl⟩, fun w => ?_, fun S w l hl h => ?_⟩
      · simp [go_sem, sliced]
      · rw [List.drop_of_length_le (by omega), Nat.sub_self]
        exact Row.nil _ _ _ _ _
    · refine ⟨some ⟨b, off + p * 2, none⟩, Or.inr ⟨b, _, rfl⟩, fun w => ?_, fun S w l hl h => ?_⟩
      · simp [go_sem, sliced]
        rw [if_pos (by omega), if_neg e]
      · rw [← flat2_drop]; exact h.drop hp
theorem slice_to (a : Option Addr) (n cap p : Nat) (hp : p ≤ cap) (hnil : PlainA a cap) : ∀ w, (Instr.slice 52 (.slice a n cap) none (some (.int .i64 (p : Int))) none).run Try.prog w = .ok (.slice a p cap) w := by
  intro w
  rcases hnil with ⟨rfl, rfl⟩ | ⟨b, off, rfl⟩
  · obtain rfl : p = 0 := by omega
    simp [go_sem, sliced]
  · simp [go_sem, sliced]
    omega

set_option maxRecDepth 100000 in
set_option maxHeartbeats 4000000 in
theorem put_any (S : Nat → Prop) (l : List (Int × Int)) (k v : Int) (a : Option Addr) (cap : Nat) (w : World) (hl : l.length < 1000000) (hasc : Asc l) (h : Row S w 2 l.length (.slice a l.length cap) (flat2 l)) (hnil : PlainA a cap) :
    Calls Try.prog 44 #[.agg #[.slice a l.length cap], .int .i64 k, .int .i64 v] w fun e w' => Below w.heap.size w w' ∧ ∃ a' c', e = .returned (.agg #[.slice a' (putL l k v).length c']) ∧ Row (fun x => S x ∨ w.heap.size ≤ x) w' 2 (putL l k v).length (.slice a' (putL l k v).length c') (flat2 (putL l k v)) ∧ PlainA a' c' := by
  have hcap : l.length ≤ cap := by obtain ⟨_, _, _, he, hc, _⟩ := h; cases he; exact hc
  have HR := Lib.hid h; clear h
  have HA := Lib.hid hasc; clear hasc
  have HNIL := Lib.hid hnil; clear hnil
  have HLEN := Lib.hid (show (putL l k v).length < 4294967296 by have := putL_len l k v; omega)
  go_enter Try.func44, Try.ntmps44
  go_wp2_with fail
  generalize hw2 : (w.alloc (.cells #[.slice a l.length cap] 54)).alloc (.cells #[.slice none 0 0] 54) = w2
  have hm2 : More w w2 := by rw [← hw2]; exact grownBy_alloc2 _ _ _ _
  have x2 : w2.heap[w.heap.size]? = some (.cells #[.slice a l.length cap] 54) := by rw [← hw2, Below.heap_alloc _ _ _ (by simp)]; exact alloc_last _ _
  have y2 : w2.heap[w.heap.size + 1]? = some (.cells #[.slice none 0 0] 54) := by rw [← hw2]; exact alloc_at _ _ (by simp)
  have hs2 : w.heap.size + 1 < w2.heap.size := by rw [← hw2]; simp
  clear hw2
  refine (find_any S l k (.slice a l.length cap) w2 (by omega) HA.out (HR.out.below hm2.below)).mono ?_
  rintro e w3 ⟨hb3, p, hp, rfl⟩
  have hm3 := more_of hb3
  have x3 := (hm3.block (b := w.heap.size) (by omega)).trans x2
  have y3 := (hm3.block hs2).trans y2
  have HM3 := Lib.hid (more_trans hm2 hm3)
  have HP := Lib.hid hp
  have g0 : w3.cell? ⟨w.heap.size, 0, none⟩ = some (.slice a l.length cap) := by simp [World.cell?, x3]
  have z0 : w3.cell? ⟨w.heap.size + 1, 0, none⟩ = some (.slice none 0 0) := by simp [World.cell?, y3]
  have f0 := thaw y3 0
  have hs3 := cell_lt z0
  have hple := hp.1
  clear hm2 x2 y2 hs2 hb3 hm3 x3 y3 hp
  have HT1 := Lib.hid (show (l.take p).length = p by rw [List.length_take]; omega)
  have HTR := Lib.hid (row_take HR.out hple)
  obtain ⟨a1, hpl1, hs1, hrow1⟩ := slice_from a l.length cap p hple hcap HNIL.out
  have hst := slice_to a l.length cap p (by omega) HNIL.out
  have HPL1 := Lib.hid hpl1; clear hpl1
  have HROW1 := Lib.hid (hrow1 S w l rfl HR.out); clear hrow1
  by_cases hq : l[p]?.map (·.1) = some k
  · have hin : p < l.length := by
      by_cases h : p < l.length
      · exact h
      · rw [List.getElem?_eq_none (by omega)] at hq; cases hq
    have hk : l[p].1 = k := by rw [List.getElem?_eq_getElem hin] at hq; simpa using hq
    have HK := Lib.hid hk
    have t1 : (l[p]?.map (·.1) == some k) = true := by simp [hq]
    rw [t1]
    clear hq t1 hk
    obtain ⟨b, off, rfl, _, _, hc⟩ := HR.out.at (by omega)
    have gv := HM3.out.cell (hc _ _ (flat2_get l p hin).2)
    rw [← Nat.add_assoc] at gv
    clear hc
    have hbv := cell_lt gv
    by_cases hv : l[p].2 = v
    · have HE := Lib.hid (put_same HP.out HA.out hin HK.out hv)
      rw [hv] at gv
      clear hv hs1 hst
      go_wp2_with fail
      refine bodyPost_ret (v := .agg #[.slice (some ⟨b, off, none⟩) l.length cap]) (by simp [results, Try.results44, go_sem, z0]) rfl ?_
      refine ⟨HM3.out.below.setCell (p := ⟨_, _, _⟩) (Nat.le_succ _) _, some ⟨b, off, none⟩, cap, by rw [HE.out], ?_, HNIL.out⟩
      rw [HE.out]
      refine HR.out.mono2 (by omega) (fun x o u hx hu => ⟨Or.inl hx, ?_⟩)
      have hlt := cell_lt hu
      exact (World.cell?_of_block (w := w3) (a := ⟨x, o, none⟩) (Below.heap_setCell _ _ _ _ (by simp; omega))).trans (HM3.out.cell hu)
    · have t2 : (l[p].2 == v) = false := by simpa using hv
      clear hv
      have HD := Lib.hid (put_found v HP.out HA.out hin HK.out)
      generalize l[p].2 = y at *
      obtain ⟨a2, hpl2, hs2, hrow2⟩ := slice_from a1 (l.length - p) (cap - p) 1 (by omega) (by omega) HPL1.out
      have HPL2 := Lib.hid hpl2; clear hpl2
      have HROW2 := Lib.hid (hrow2 S w (l.drop p) List.length_drop HROW1.out); clear hrow2
      have hs2' : ∀ w, (Instr.slice 52 (.slice a1 (l.length - p) (cap - p)) (some (.int .i64 1)) none none).run Try.prog w = .ok (.slice a2 (l.length - p - 1) (cap - p - 1)) w := hs2
      clear hs2
      rw [List.drop_drop] at HROW2
      have HL2 := Lib.hid (show (l.drop (p + 1)).length = l.length - p - 1 by rw [List.length_drop]; omega)
      have HC := Lib.hid (put_cat S k v (putL l k v) (l.take p) (l.drop (p + 1)) p (l.length - p - 1) (some ⟨b, off, none⟩) a2 cap (cap - p - 1) w w3 HM3.out HT1.out HL2.out HTR.out (fun h => by cases h) (by rw [HL2.out]; exact HROW2.out) HPL2.out.zero HD.out HLEN.out)
      generalize hDD : putL l k v = D at *
      have HDD := Lib.hid hDD; clear hDD
      generalize l.length - p - 1 = n2 at *
      generalize cap - p - 1 = c2 at *
      generalize l.length - p = n1 at *
      generalize cap - p = c1 at *
      go_wp2_with fail
      refine HC.out.mono ?_
      rintro e w5 ⟨hm5, a5, c5, rfl, hr5, hn5⟩
      have k1 := hm5.cell (alloc_cell _ (alloc_cell (w := w3) (.cells #[.int .i64 k, .int .i64 v] 151) z0))
      have k2 := hm5.frozen (b := w.heap.size + 1) (o := 0) (by simp; omega) (alloc_thaw _ (alloc_cell (w := w3) (.cells #[.int .i64 k, .int .i64 v] 151) z0) (alloc_thaw (w := w3) (.cells #[.int .i64 k, .int .i64 v] 151) z0 f0))
      have hs5 := cell_lt k1
      have HM5 := Lib.hid (more_trans (more_trans HM3.out (grownBy_alloc2 _ _ _ _)) hm5)
      have HR5 := Lib.hid (And.intro hr5 hn5)
      have HS5 := Lib.hid (show w.heap.size + 1 < w3.heap.size from hs3)
      clear hm5 hr5 hn5
      go_wp2_with fail
      refine bodyPost_ret (v := .agg #[.slice a5 D.length c5]) (by simp [results, Try.results44, go_sem, k1]) rfl ?_
      refine ⟨HM5.out.below.setCell (p := ⟨_, _, _⟩) (Nat.le_succ _) _, a5, c5, by rw [HDD.out], ?_, HR5.out.2⟩
      rw [HDD.out]
      refine HR5.out.1.mono2 (by omega) (fun x o u hx hu => ⟨Or.inr ?_, ?_⟩)
      · have h1 : w3.heap.size ≤ x := hx; have := HS5.out; omega
      · have h1 : w3.heap.size ≤ x := hx; have := HS5.out
        exact (World.cell?_of_block (w := w5) (a := ⟨x, o, none⟩) (Below.heap_setCell _ _ _ _ (by simp; omega))).trans hu
  · have HD := Lib.hid (put_new v HP.out HA.out hq)
    have t1 : (l[p]?.map (·.1) == some k) = false := by simp [hq]
    rw [t1]
    clear hq t1
    have HL2 := Lib.hid (show (l.drop p).length = l.length - p by rw [List.length_drop])
    have HC := Lib.hid (put_cat S k v (putL l k v) (l.take p) (l.drop p) p (l.length - p) a a1 cap (cap - p) w w3 HM3.out HT1.out HL2.out HTR.out HNIL.out.zero (by rw [HL2.out]; exact HROW1.out) HPL1.out.zero HD.out HLEN.out)
    generalize hDD : putL l k v = D at *
    have HDD := Lib.hid hDD; clear hDD
    generalize l.length - p = n1 at *
    generalize cap - p = c1 at *
    go_wp2_with fail
    refine HC.out.mono ?_
    rintro e w5 ⟨hm5, a5, c5, rfl, hr5, hn5⟩
    have k1 := hm5.cell (alloc_cell _ (alloc_cell (w := w3) (.cells #[.int .i64 k, .int .i64 v] 151) z0))
    have k2 := hm5.frozen (b := w.heap.size + 1) (o := 0) (by simp; omega) (alloc_thaw _ (alloc_cell (w := w3) (.cells #[.int .i64 k, .int .i64 v] 151) z0) (alloc_thaw (w := w3) (.cells #[.int .i64 k, .int .i64 v] 151) z0 f0))
    have hs5 := cell_lt k1
    have HM5 := Lib.hid (more_trans (more_trans HM3.out (grownBy_alloc2 _ _ _ _)) hm5)
    have HR5 := Lib.hid (And.intro hr5 hn5)
    have HS5 := Lib.hid (show w.heap.size + 1 < w3.heap.size from hs3)
    clear hm5 hr5 hn5
    go_wp2_with fail
    refine bodyPost_ret (v := .agg #[.slice a5 D.length c5]) (by simp [results, Try.results44, go_sem, k1]) rfl ?_
    refine ⟨HM5.out.below.setCell (p := ⟨_, _, _⟩) (Nat.le_succ _) _, a5, c5, by rw [HDD.out], ?_, HR5.out.2⟩
    rw [HDD.out]
    refine HR5.out.1.mono2 (by omega) (fun x o u hx hu => ⟨Or.inr ?_, ?_⟩)
    · have h1 : w3.heap.size ≤ x := hx; have := HS5.out; omega
    · have h1 : w3.heap.size ≤ x := hx; have := HS5.out
      exact (World.cell?_of_block (w := w5) (a := ⟨x, o, none⟩) (Below.heap_setCell _ _ _ _ (by simp; omega))).trans hu
end Go.Proofs.Ytekhoanjpnjaeaa
