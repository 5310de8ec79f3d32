/- Table.Delete (40). -/
import Derived.Test.YtekhoanjpnjaeaaConcat
namespace Go.Proofs.Ytekhoanjpnjaeaa
open Go.RowKit

theorem split_at {l : List (Int × Int)} {p : Nat} (h : p < l.length) : l = l.take p ++ l[p] :: l.drop (p + 1) := by
  conv => lhs; rw [← List.take_append_drop p l]
  rw [List.drop_eq_getElem_cons h]
theorem take_lt {l : List (Int × Int)} {k : Int} {p : Nat} (hp : PlaceOf l k p) : ∀ y ∈ l.take p, y.1 < k := fun y hy => by
  obtain ⟨i, hi, rfl⟩ := List.getElem_of_mem hy
  rw [List.length_take] at hi
  rw [List.getElem_take]
  exact hp.2.1 i (by omega) (by omega)
theorem drop_ge {l : List (Int × Int)} {k : Int} {p : Nat} (hp : PlaceOf l k p) : ∀ y ∈ l.drop p, k ≤ y.1 := fun y hy => by
  obtain ⟨i, hi, rfl⟩ := List.getElem_of_mem hy
  rw [List.length_drop] at hi
  rw [List.getElem_drop]
  exact hp.2.2 (p + i) (by omega) (by omega)
theorem del_found {l : List (Int × Int)} {k : Int} {p : Nat} (hp : PlaceOf l k p) (ha : Asc l) (h : p < l.length) (e : l[p].1 = k) : delL l k = l.take p ++ l.drop (p + 1) := by
  have hs := split_at h
  unfold delL
  conv => lhs; rw [hs]
  have h1 : (l.take p).filter (fun x => !(x.1 == k)) = l.take p := List.filter_eq_self.2 fun y hy => by have := take_lt hp y hy; simp; omega
  have h2 : (l.drop (p + 1)).filter (fun x => !(x.1 == k)) = l.drop (p + 1) := List.filter_eq_self.2 fun y hy => by
    obtain ⟨i, hi, rfl⟩ := List.getElem_of_mem hy
    rw [List.length_drop] at hi
    rw [List.getElem_drop]
    have := List.pairwise_iff_getElem.1 ha p (p + 1 + i) h (by omega) (by omega)
    simp; omega
  rw [List.filter_append, List.filter_cons, if_neg (by simp [e]), h1, h2]
theorem del_none {l : List (Int × Int)} {k : Int} (h : getL l k = none) : delL l k = l := by
  unfold delL
  refine List.filter_eq_self.2 fun y hy => ?_
  have : ¬ y.1 = k := fun e => by
    have h1 : k ∈ l.map (·.1) := List.mem_map.2 ⟨y, hy, e⟩
    rw [keys_get, h] at h1; cases h1
  simpa using this

theorem row_blk {S : Nat → Prop} {w : World} {b size n cap : Nat} {arr : Array Value} {ty : TypeId} {xs : List Value} (h : w.heap[b]? = some (.cells arr ty)) (hx : arr.toList = xs) (hl : xs.length = n * size) (hc : n ≤ cap) (hS : S b) : Row S w size n (.slice (some ⟨b, 0, none⟩) n cap) xs := by
  refine ⟨hl, _, _, rfl, hc, fun _ => ⟨b, 0, rfl, hS, fun j u hj => ?_⟩⟩
  subst hx
  rw [Nat.zero_add]
  simpa [World.cell?, h] using hj
theorem row_take {S : Nat → Prop} {w : World} {l : List (Int × Int)} {a : Option Addr} {cap p : Nat} (h : Row S w 2 l.length (.slice a l.length cap) (flat2 l)) (hp : p ≤ l.length) : Row S w 2 (l.take p).length (.slice a (l.take p).length cap) (flat2 (l.take p)) := by
  have e : (l.take p).length = p := by rw [List.length_take]; omega
  rw [flat2_take', e]
  exact h.take hp
theorem row_drop {S : Nat → Prop} {w : World} {l : List (Int × Int)} {b off cap p : Nat} (h : Row S w 2 l.length (.slice (some ⟨b, off, none⟩) l.length cap) (flat2 l)) (hp : p ≤ l.length) : Row S w 2 (l.drop p).length (.slice (some ⟨b, off + p * 2, none⟩) (l.drop p).length (cap - p)) (flat2 (l.drop p)) := by
  rw [← flat2_drop, List.length_drop]
  exact h.drop hp

set_option maxRecDepth 100000 in
set_option maxHeartbeats 2000000 in
theorem del_any (S : Nat → Prop) (l : List (Int × Int)) (k : Int) (a : Option Addr) (cap : Nat) (w : World) (hl : l.length < 1000000) (hasc : Asc l) (h : Row S w 2 l.length (.slice a l.length cap) (flat2 l)) (hnil : PlainA a cap) :
    Calls Try.prog 40 #[.agg #[.slice a l.length cap], .int .i64 k] w fun e w' => Below w.heap.size w w' ∧ ∃ a' c', e = .returned (.agg #[.slice a' (delL l k).length c']) ∧ Row (fun x => S x ∨ w.heap.size ≤ x) w' 2 (delL l k).length (.slice a' (delL l k).length c') (flat2 (delL l k)) ∧ PlainA a' c' := by
  have hcap : l.length ≤ cap := by obtain ⟨_, _, _, he, hc, _⟩ := h; cases he; exact hc
  have HR := Lib.hid h; clear h
  have HA := Lib.hid hasc; clear hasc
  have HNIL := Lib.hid hnil; clear hnil
  go_enter Try.func40, Try.ntmps40
  go_wp2_with fail
  generalize hw2 : (w.alloc (.cells #[.slice a l.length cap] 54)).alloc (.cells #[.slice none 0 0] 54) = w2
  have hm2 : More w w2 := by rw [← hw2]; exact grownBy_alloc2 _ _ _ _
  have x2 : w2.heap[w.heap.size]? = some (.cells #[.slice a l.length cap] 54) := by rw [← hw2, Below.heap_alloc _ _ _ (by simp)]; exact alloc_last _ _
  have y2 : w2.heap[w.heap.size + 1]? = some (.cells #[.slice none 0 0] 54) := by rw [← hw2]; exact alloc_at _ _ (by simp)
  have hs2 : w.heap.size + 1 < w2.heap.size := by rw [← hw2]; simp
  clear hw2
  refine (find_any S l k (.slice a l.length cap) w2 (by omega) HA.out (HR.out.below hm2.below)).mono ?_
  rintro e w3 ⟨hb3, p, hp, rfl⟩
  have hm3 := more_of hb3
  have x3 := (hm3.block (b := w.heap.size) (by omega)).trans x2
  have y3 := (hm3.block hs2).trans y2
  have HM3 := Lib.hid (more_trans hm2 hm3)
  have HP := Lib.hid hp
  have g0 : w3.cell? ⟨w.heap.size, 0, none⟩ = some (.slice a l.length cap) := by simp [World.cell?, x3]
  have z0 : w3.cell? ⟨w.heap.size + 1, 0, none⟩ = some (.slice none 0 0) := by simp [World.cell?, y3]
  have f0 := thaw y3 0
  have hs3 := cell_lt z0
  have HY3 := Lib.hid y3
  clear hm2 x2 y2 hs2 hb3 hm3 x3 y3 hp
  by_cases hq : l[p]?.map (·.1) = some k
  · have hin : p < l.length := by
      by_cases h : p < l.length
      · exact h
      · rw [List.getElem?_eq_none (by omega)] at hq; cases hq
    have hk : l[p].1 = k := by rw [List.getElem?_eq_getElem hin] at hq; simpa using hq
    have HD := Lib.hid (del_found HP.out HA.out hin hk)
    have t1 : (l[p]?.map (·.1) == some k) = true := by simp [hq]
    rw [t1]
    clear hq t1 hk
    obtain ⟨b, off, rfl, _, _, _⟩ := HR.out.at (by omega)
    have hl1 : (l.take p).length = p := by rw [List.length_take]; omega
    have hl2 : (l.drop (p + 1)).length = l.length - (p + 1) := List.length_drop
    have HL := Lib.hid (And.intro hl1 hl2); clear hl1 hl2
    have q0 : w3.drew.cell? ⟨w.heap.size, 0, none⟩ = some (.slice (some ⟨b, off, none⟩) l.length cap) := g0
    have HC81 := Lib.hid (fun (v2 : Option Addr) (hv : Row S w 2 (l.drop (p + 1)).length (.slice v2 (l.length - (p + 1)) (cap - (p + 1))) (flat2 (l.drop (p + 1)))) (hn : v2 ≠ none) =>
      show Calls Try.prog 81 #[.slice (some ⟨w3.heap.size, 0, none⟩) 2 2] (w3.drew.alloc (.cells #[.slice (some ⟨b, off, none⟩) p cap, .slice v2 (l.length - (p + 1)) (cap - (p + 1))] 52)) fun e w' => More (w3.drew.alloc (.cells #[.slice (some ⟨b, off, none⟩) p cap, .slice v2 (l.length - (p + 1)) (cap - (p + 1))] 52)) w' ∧ ∃ a' c', e = .returned (.slice a' (delL l k).length c') ∧ Row (fun x => w3.heap.size ≤ x) w' 2 (delL l k).length (.slice a' (delL l k).length c') (flat2 (delL l k)) ∧ PlainA a' c' by
      have hmW : More w (w3.drew.alloc (.cells #[.slice (some ⟨b, off, none⟩) p cap, .slice v2 (l.length - (p + 1)) (cap - (p + 1))] 52)) := more_trans (more_trans HM3.out (more_drew w3)) (World.grownBy_alloc _ _ _)
      have hcat : catL [l.take p, l.drop (p + 1)] = delL l k := by rw [HD.out]; simp [catL]
      have hsum : sumL [l.take p, l.drop (p + 1)] < 4294967296 := by rw [← catL_len, hcat]; have := delL_le l k; omega
      have hc := concat_any (fun _ => True) S [l.take p, l.drop (p + 1)] [.slice (some ⟨b, off, none⟩) p cap, .slice v2 (l.length - (p + 1)) (cap - (p + 1))] (.slice (some ⟨w3.heap.size, 0, none⟩) 2 2) _ (show 2 < 1000 by decide) hsum (row_blk (heap_alloc_new w3.drew _) rfl rfl (Nat.le_refl _) trivial) (fun i hi => by
        rcases (show i = 0 ∨ i = 1 by have : i < 2 := hi; omega) with rfl | rfl
        · refine ⟨some ⟨b, off, none⟩, cap, ?_, (row_take HR.out (by omega)).below hmW.below, fun h => by cases h⟩
          show some (Value.slice (some ⟨b, off, none⟩) p cap) = some (.slice (some ⟨b, off, none⟩) (l.take p).length cap)
          rw [HL.out.1]
        · refine ⟨v2, cap - (p + 1), ?_, ?_, fun h => absurd h hn⟩
          · show some (Value.slice v2 (l.length - (p + 1)) (cap - (p + 1))) = some (.slice v2 (l.drop (p + 1)).length (cap - (p + 1)))
            rw [HL.out.2]
          · show Row S _ 2 (l.drop (p + 1)).length (.slice v2 (l.drop (p + 1)).length (cap - (p + 1))) (flat2 (l.drop (p + 1)))
            have := hv.below hmW.below
            rwa [HL.out.2] at this ⊢)
      rw [hcat] at hc
      refine hc.mono ?_
      rintro e w' ⟨hb, a', c', rfl, hr, hn'⟩
      exact ⟨more_of hb, a', c', rfl, hr.mono (fun x hx => by have h1 : (w3.drew.alloc _).heap.size ≤ x := hx; rw [World.size_alloc] at h1; have h2 : w3.heap.size + 1 ≤ x := h1; show w3.heap.size ≤ x; omega) (fun _ _ _ _ h => h), hn'⟩)
    have b1 : (0 : Int) ≤ (p : Int) := by omega
    have b2 : (p : Int) ≤ (cap : Int) := by omega
    have b3 : (0 : Int) ≤ (p : Int) + 1 := by omega
    have b4 : (p : Int) + 1 ≤ (l.length : Int) := by omega
    have b5 : (l.length : Int) ≤ (cap : Int) := by omega
    rcases (show p + 1 = cap ∨ p + 1 < cap by omega) with hcp | hcp
    · obtain rfl : cap = p + 1 := hcp.symm
      have HC := Lib.hid (HC81.out (some ⟨b, off, none⟩) (by
        have hnil : l.drop (p + 1) = [] := List.drop_of_length_le (by omega)
        rw [hnil, show l.length - (p + 1) = 0 by omega]
        exact Row.nil _ _ _ _ _) (by simp))
      have hln : l.length - (p + 1) = 0 := by omega
      rw [hln, Nat.sub_self] at HC
      clear hln hcp
      have b7 : (p : Int) ≤ (p : Int) + 1 := by omega
      have b8 : (l.length : Int) ≤ (p : Int) + 1 := by omega
      have b9 : p ≤ p + 1 := by omega
      generalize hDD : delL l k = D at *
      have HDD := Lib.hid hDD; clear hDD
      go_wp2_with fail
      have wq : IntKind.i64.wrap ((p : Int) + 1) = (p : Int) + 1 := by rw [IntKind.wrap_i64]; omega
      have nq : ((p : Int) + 1).toNat = p + 1 := by omega
      go_region_held3 (fun wx => wx.cell? ⟨w.heap.size, 0, none⟩ = some (.slice (some ⟨b, off, none⟩) l.length (p + 1))) (first | with_reducible exact q0 | exact alloc_cell _ q0 | with_reducible exact k0 | exact (World.cell?_of_block (w := w5) (a := ⟨w.heap.size, 0, none⟩) (Below.heap_setCell _ _ _ _ (by simp))).trans k0) (first | (go_at_call 81; refine HC.out.mono ?_; rintro e w5 ⟨hm5, a5, c5, rfl, hr5, hn5⟩; have k0 := hm5.cell (alloc_cell _ q0); have k1 := hm5.cell (alloc_cell (w := w3.drew) _ z0); have k2 := hm5.frozen (b := w.heap.size + 1) (o := 0) (by simp; omega) (alloc_thaw (w := w3.drew) _ z0 f0); have hs5 := cell_lt k1))
      clear wq nq
      have HM5 := Lib.hid (more_trans (more_trans HM3.out (more_drew w3)) (more_trans (World.grownBy_alloc _ _ _) hm5))
      have HR5 := Lib.hid (And.intro hr5 hn5)
      have HS5 := Lib.hid (show w.heap.size + 1 < w3.heap.size from hs3)
      clear hm5 hr5 hn5 k0 k2
      go_wp2_with fail
      refine bodyPost_ret (v := .agg #[.slice a5 D.length c5]) (by simp [results, Try.results40, go_sem, k1]) rfl ?_
      refine ⟨HM5.out.below.setCell (p := ⟨_, _, _⟩) (Nat.le_succ _) _, a5, c5, by rw [HDD.out], ?_, HR5.out.2⟩
      rw [HDD.out]
      refine HR5.out.1.mono2 (by omega) (fun x o u hx hu => ⟨Or.inr ?_, ?_⟩)
      · have h1 : w3.heap.size ≤ x := hx; have := HS5.out; omega
      · have h1 : w3.heap.size ≤ x := hx; have := HS5.out
        exact (World.cell?_of_block (w := w5) (a := ⟨x, o, none⟩) (Below.heap_setCell _ _ _ _ (by simp; omega))).trans hu
    · have HC := Lib.hid (HC81.out (some ⟨b, off + (p + 1) * 2, none⟩) (by
        have := row_drop HR.out (p := p + 1) (by omega)
        rwa [HL.out.2] at this ⊢) (by simp))
      generalize hDD : delL l k = D at *
      have HDD := Lib.hid hDD; clear hDD
      go_wp2_with fail
      have wq : IntKind.i64.wrap ((p : Int) + 1) = (p : Int) + 1 := by rw [IntKind.wrap_i64]; omega
      have nq : ((p : Int) + 1).toNat = p + 1 := by omega
      have hne : ¬ cap = p + 1 := by omega
      have b6 : (p : Int) + 1 ≤ (cap : Int) := by omega
      go_region_held3 (fun wx => wx.cell? ⟨w.heap.size, 0, none⟩ = some (.slice (some ⟨b, off, none⟩) l.length cap)) (first | with_reducible exact q0 | exact alloc_cell _ q0 | with_reducible exact k0 | exact (World.cell?_of_block (w := w5) (a := ⟨w.heap.size, 0, none⟩) (Below.heap_setCell _ _ _ _ (by simp))).trans k0) (first | (go_at_call 81; refine HC.out.mono ?_; rintro e w5 ⟨hm5, a5, c5, rfl, hr5, hn5⟩; have k0 := hm5.cell (alloc_cell _ q0); have k1 := hm5.cell (alloc_cell (w := w3.drew) _ z0); have k2 := hm5.frozen (b := w.heap.size + 1) (o := 0) (by simp; omega) (alloc_thaw (w := w3.drew) _ z0 f0); have hs5 := cell_lt k1))
      clear wq nq
      have HM5 := Lib.hid (more_trans (more_trans HM3.out (more_drew w3)) (more_trans (World.grownBy_alloc _ _ _) hm5))
      have HR5 := Lib.hid (And.intro hr5 hn5)
      have HS5 := Lib.hid (show w.heap.size + 1 < w3.heap.size from hs3)
      clear hm5 hr5 hn5 k0 k2
      go_wp2_with fail
      refine bodyPost_ret (v := .agg #[.slice a5 D.length c5]) (by simp [results, Try.results40, go_sem, k1]) rfl ?_
      refine ⟨HM5.out.below.setCell (p := ⟨_, _, _⟩) (Nat.le_succ _) _, a5, c5, by rw [HDD.out], ?_, HR5.out.2⟩
      rw [HDD.out]
      refine HR5.out.1.mono2 (by omega) (fun x o u hx hu => ⟨Or.inr ?_, ?_⟩)
      · have h1 : w3.heap.size ≤ x := hx; have := HS5.out; omega
      · have h1 : w3.heap.size ≤ x := hx; have := HS5.out
        exact (World.cell?_of_block (w := w5) (a := ⟨x, o, none⟩) (Below.heap_setCell _ _ _ _ (by simp; omega))).trans hu
  · have HG := Lib.hid (del_none (getL_none HP.out HA.out hq))
    have t1 : (l[p]?.map (·.1) == some k) = false := by simp [hq]
    rw [t1]
    clear hq t1
    go_wp2_with fail
    refine bodyPost_ret (v := .agg #[.slice a l.length cap]) (by simp [results, Try.results40, go_sem, z0]) rfl ?_
    refine ⟨HM3.out.below.setCell (p := ⟨_, _, _⟩) (Nat.le_succ _) _, a, cap, by rw [HG.out], ?_, HNIL.out⟩
    rw [HG.out]
    refine HR.out.mono2 (by omega) (fun x o u hx hu => ⟨Or.inl hx, ?_⟩)
    have hlt := cell_lt hu
    exact (World.cell?_of_block (w := w3) (a := ⟨x, o, none⟩) (Below.heap_setCell _ _ _ _ (by simp; omega))).trans (HM3.out.cell hu)
end Go.Proofs.Ytekhoanjpnjaeaa
