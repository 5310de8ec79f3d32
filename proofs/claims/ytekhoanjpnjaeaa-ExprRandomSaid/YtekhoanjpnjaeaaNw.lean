/- Texts RevL, MkH, laid together. -/
import Derived.Test.YtekhoanjpnjaeaaNu
import Derived.Test.YtekhoanjpnjaeaaNv
/- slices.Reverse at strings (61) and at numbers (62): a row of the call's own, in place. -/
namespace Go.Proofs.Ytekhoanjpnjaeaa
open Go.RowKit
/-- What i rounds have made of the first n cells of xs. -/
def RevI (xs : List Value) (cur : Array Value) (cap i : Nat) : Prop :=
  cur.size = cap ∧ ∀ j, j < xs.length → cur[j]? = if j < i ∨ xs.length ≤ j + i then xs[xs.length - 1 - j]? else xs[j]?
theorem RevI.zero {xs : List Value} {cur : Array Value} {cap : Nat} (hs : cur.size = cap) (h : cur.toList.take xs.length = xs) : RevI xs cur cap 0 := by
  refine ⟨hs, fun j hj => ?_⟩
  rw [if_neg (by omega)]
  have h1 : xs[j]? = (cur.toList.take xs.length)[j]? := by rw [h]
  rw [h1, List.getElem?_take, if_pos hj, Array.getElem?_toList]
theorem RevI.last {xs : List Value} {cur : Array Value} {cap i : Nat} (h : RevI xs cur cap i) (hi : xs.length ≤ 2 * i + 1) (_hc : xs.length ≤ cap) : cur.toList.take xs.length = xs.reverse := by
  apply List.ext_getElem?
  intro j
  rw [List.getElem?_take]
  by_cases hj : j < xs.length
  · rw [if_pos hj, Array.getElem?_toList, h.2 j hj, List.getElem?_reverse hj]
    split
    · rfl
    · congr 1; omega
  · rw [if_neg hj, List.getElem?_eq_none (by rw [List.length_reverse]; omega)]
theorem RevI.step {xs : List Value} {cur : Array Value} {cap i : Nat} {u v : Value} (h : RevI xs cur cap i) (hi : 2 * i + 1 < xs.length) (hc : xs.length ≤ cap) (hu : xs[i]? = some u) (hv : xs[xs.length - 1 - i]? = some v) : RevI xs ((cur.setIfInBounds i v).setIfInBounds (xs.length - 1 - i) u) cap (i + 1) := by
  refine ⟨by rw [Array.size_setIfInBounds, Array.size_setIfInBounds]; exact h.1, fun j hj => ?_⟩
  have hs := h.1
  by_cases h1 : j = xs.length - 1 - i
  · subst h1
    rw [Array.getElem?_setIfInBounds_self_of_lt (by rw [Array.size_setIfInBounds]; omega), if_pos (by omega), ← hu]
    congr 1; omega
  · rw [Array.getElem?_setIfInBounds_ne (by omega)]
    by_cases h2 : j = i
    · subst h2
      rw [Array.getElem?_setIfInBounds_self_of_lt (by omega), if_pos (by omega), hv]
    · rw [Array.getElem?_setIfInBounds_ne (by omega), h.2 j hj]
      by_cases h3 : j < i ∨ xs.length ≤ j + i
      · rw [if_pos h3, if_pos (by omega)]
      · rw [if_neg h3, if_neg (by omega)]
theorem RevI.at {xs : List Value} {cur : Array Value} {cap i : Nat} (h : RevI xs cur cap i) (hi : 2 * i + 1 < xs.length) : cur[i]? = xs[i]? ∧ cur[xs.length - 1 - i]? = xs[xs.length - 1 - i]? := by
  constructor
  · rw [h.2 i (by omega), if_neg (by omega)]
  · rw [h.2 _ (by omega), if_neg (by omega)]
set_option maxRecDepth 100000 in
set_option maxHeartbeats 2000000 in
theorem rev61_any (l : List ByteArray) (v : Value) (B : Nat) (w : World) (hl : l.length ≤ 1000000) (h : w.ownsRow B 9 1 v l.length (l.map (Value.string))) :
    Calls Try.prog 61 #[v] w fun e w' => e = .returned (.tuple #[]) ∧ w'.ownsRow B 9 1 v l.length (l.map (Value.string)).reverse ∧ w.grownBy w' v.ownBlock := by
  obtain ⟨n, HN⟩ : ∃ n, Hid (l.length = n) := ⟨_, Lib.hid rfl⟩
  have HXL := Lib.hid (show (l.map (Value.string)).length = n by rw [List.length_map, HN.out])
  rw [HN.out] at h hl ⊢
  by_cases h0 : n = 0
  · subst h0
    have hx : (l.map (Value.string)) = [] := List.length_eq_zero_iff.1 HXL.out
    rw [hx] at h ⊢
    obtain ⟨a, cap, rfl, _⟩ := owns_shape h
    have H := Lib.hid h; clear h
    go_enter Try.func61, Try.ntmps61
    go_wp2_with fail
    go_loopw [2, 3] (fun a b wr => a = .int .i64 0 ∧ b = .int .i64 (-1) ∧ wr = w) (fun _ _ _ => 0)
    case atStart => exact ⟨rfl, rfl, rfl⟩
    case round =>
      obtain ⟨rfl, rfl, rfl⟩ := hrel
      go_wp2_with fail
      go_end0
      exact ⟨rfl, H.out, World.grownBy.refl _ _⟩
  · obtain ⟨_, h | ⟨g, cap, cur, rfl, hB, hg, hcap, hml, hsz, ht⟩⟩ := h
    · exact absurd h.2 h0
    have HB := Lib.hid hB
    have HC := Lib.hid (And.intro hcap hml)
    have HG0 := Lib.hid hg
    have HR0 := Lib.hid (show RevI (l.map (Value.string)) cur cap 0 from RevI.zero (by omega) (by rw [HXL.out]; rw [Nat.mul_one] at ht; exact ht))
    clear hB hcap hml hg hsz ht
    have hn1 : IntKind.i64.wrap ((n : Int) - 1) = n - 1 := by rw [IntKind.wrap_i64]; omega
    go_enter Try.func61, Try.ntmps61
    go_wp2_with fail
    go_loopw [2, 3] (fun a b wr => ∃ (i : Nat) (cu : Array Value), 2 * i ≤ n + 1 ∧ a = .int .i64 (i : Int) ∧ b = .int .i64 ((n : Int) - 1 - i) ∧ Hid (wr.heap[g]? = some (.cells cu 9)) ∧ Hid (RevI (l.map (Value.string)) cu cap i) ∧ Hid (w.grownBy wr (some g))) (fun a _ _ => n + 1 - (intOf a).toNat)
    case atStart => exact ⟨0, cur, by omega, rfl, by simp, HG0, HR0, Lib.hid ⟨rfl, rfl, rfl, Nat.le_refl _, fun _ _ _ => rfl⟩⟩
    case round =>
      obtain ⟨i, cu, hi, rfl, rfl, HG, HR, HW⟩ := hrel
      obtain ⟨w1, rfl⟩ : ∃ wo : World, wo = wr := ⟨_, rfl⟩
      by_cases hlt : 2 * i + 1 < n
      · skip
        have hii : (i : Int) < (n : Int) - 1 - i := by omega
        have HLT := Lib.hid hlt
        obtain ⟨j, HJ⟩ : ∃ j, Hid (n - 1 - i = j) := ⟨_, Lib.hid rfl⟩
        have hij : (n : Int) - 1 - i = (j : Int) := by have := HJ.out; omega
        have HJN := Lib.hid (show j < n ∧ i < n from by have := HJ.out; omega)
        have hil : i < l.length := by have := HN.out; have := HJN.out; omega
        have hjl : j < l.length := by have := HN.out; have := HJN.out; omega
        have HU := Lib.hid (show (l.map (Value.string))[i]? = some (Value.string l[i]) by simp [hil])
        have HV := Lib.hid (show (l.map (Value.string))[j]? = some (Value.string l[j]) by simp [hjl])
        generalize l[i] = x at *
        generalize l[j] = y at *
        clear hil hjl
        have hat := HR.out.at (by rw [HXL.out]; exact hlt)
        rw [HXL.out, HJ.out] at hat
        have HCI := Lib.hid (show w1.cell? ⟨g, i, none⟩ = some (Value.string x) ∧ w1.cell? ⟨g, j, none⟩ = some (Value.string y) from ⟨by simp only [World.cell?, HG.out]; exact hat.1.trans HU.out, by simp only [World.cell?, HG.out]; exact hat.2.trans HV.out⟩)
        clear hat
        have HST := Lib.hid (HR.out.step (by rw [HXL.out]; exact hlt) (by rw [HXL.out]; exact HC.out.1) HU.out (by rw [HXL.out, HJ.out]; exact HV.out))
        rw [HXL.out, HJ.out] at HST
        rw [hij]
        rw [hij] at hii
        clear hlt
        have hin : (i : Int) < (n : Int) := by have := HJN.out; omega
        have hjn : (j : Int) < (n : Int) := by have := HJN.out; omega
        have hin2 : i < n := HJN.out.2
        have hjn2 : j < n := HJN.out.1
        have hwj : IntKind.i64.wrap ((j : Int) - 1) = (j : Int) - 1 := by rw [IntKind.wrap_i64]; omega
        have hwi : IntKind.i64.wrap ((i : Int) + 1) = (i : Int) + 1 := by rw [IntKind.wrap_i64]; omega
        go_upto_region 3 with fail
        have HDR := Lib.hid (more_drew w1)
        refine wp_region_heldP (S := fun W => W.cell? ⟨g, j, none⟩ = some (Value.string y) ∧ W.cell? ⟨g, i, none⟩ = some (Value.string x)) 13 (by kernel_rfl) ?_
        generalize w1.drew = w9 at *
        have HG9 := Lib.hid ((HDR.out.block (blk_ltD HG.out)).trans HG.out)
        have HK9 := Lib.hid (show w9.cell? ⟨g, j, none⟩ = some (Value.string y) ∧ w9.cell? ⟨g, i, none⟩ = some (Value.string x) from ⟨HDR.out.cell HCI.out.2, HDR.out.cell HCI.out.1⟩)
        have HW9 := Lib.hid (grow_trans HW.out (grow_more HDR.out))
        have hs1 := cell_lt HK9.out.1
        have fz1 := thaw HG9.out i
        have fz2 := thaw HG9.out j
        refine tkS (i := 0) (v := ?_) (by simp only [opA, op0]; exact rfl) (by kernel_rfl) (by kernel_rfl) HK9.out ?_ ?_
        rotate_left
        · intro w hS
          (try dsimp only at hS); first | (go_simp; done) | (go_simp; with_reducible rfl)
        (try simp only [ptS, stA, st0, stS])
        refine tkS (i := 1) (v := ?_) (by simp only [opA, opS, op0]; exact rfl) (by kernel_rfl) (by kernel_rfl) HK9.out ?_ ?_
        rotate_left
        · intro w hS
          (try dsimp only at hS); first | (go_simp; done) | (go_simp; with_reducible rfl)
        (try simp only [ptS, stA, st0, stS])
        refine tkW (i := 2) (v := ?_) (by simp only [opA, opS, op0]; exact rfl) (by kernel_rfl) (by kernel_rfl) (fun _ => HK9.out) ?_ ?_
        rotate_left
        · intro w hS
          first | (go_simp; done) | (go_simp; with_reducible rfl)
        (try simp only [ptS, stA, st0, stS])
        refine tkW (i := 3) (v := ?_) (by simp only [opA, opS, op0]; exact rfl) (by kernel_rfl) (by kernel_rfl) (fun _ => HK9.out) ?_ ?_
        rotate_left
        · intro w hS
          first | (go_simp; done) | (go_simp; with_reducible rfl)
        (try simp only [ptS, stA, st0, stS])
        refine tkS (i := 4) (v := ?_) (by simp only [opA, opS, op0]; exact rfl) (by kernel_rfl) (by kernel_rfl) HK9.out ?_ ?_
        rotate_left
        · intro w hS
          (try dsimp only at hS); first | (go_simp; done) | (go_simp; with_reducible rfl)
        (try simp only [ptS, stA, st0, stS])
        refine tkS (i := 5) (v := ?_) (by simp only [opA, opS, op0]; exact rfl) (by kernel_rfl) (by kernel_rfl) HK9.out ?_ ?_
        rotate_left
        · intro w hS
          (try dsimp only at hS); first | (go_simp; done) | (go_simp; with_reducible rfl)
        (try simp only [ptS, stA, st0, stS])
        refine tkS (i := 6) (v := ?_) (by simp only [opA, opS, op0]; exact rfl) (by kernel_rfl) (by kernel_rfl) HK9.out ?_ ?_
        rotate_left
        · intro w hS
          (try dsimp only at hS); first | (go_simp; done) | (go_simp; with_reducible rfl)
        (try simp only [ptS, stA, st0, stS])
        refine tkS (i := 7) (v := ?_) (by simp only [opA, opS, op0]; exact rfl) (by kernel_rfl) (by kernel_rfl) HK9.out ?_ ?_
        rotate_left
        · intro w hS
          (try dsimp only at hS); first | (go_simp; done) | (go_simp; with_reducible rfl)
        (try simp only [ptS, stA, st0, stS])
        refine tkW (i := 8) (v := ?_) (by simp only [opA, opS, op0]; exact rfl) (by kernel_rfl) (by kernel_rfl) (fun _ => HK9.out) ?_ ?_
        rotate_left
        · intro w hS
          first | (go_simp; done) | (go_simp; with_reducible rfl)
        (try simp only [ptS, stA, st0, stS])
        refine tkW (i := 9) (v := ?_) (by simp only [opA, opS, op0]; exact rfl) (by kernel_rfl) (by kernel_rfl) (fun _ => HK9.out) ?_ ?_
        rotate_left
        · intro w hS
          first | (go_simp; done) | (go_simp; with_reducible rfl)
        (try simp only [ptS, stA, st0, stS])
        refine tkW (i := 10) (v := ?_) (by simp only [opA, opS, op0]; exact rfl) (by kernel_rfl) (by kernel_rfl) (fun _ => HK9.out) ?_ ?_
        rotate_left
        · intro w hS
          first | (go_simp; done) | (go_simp; with_reducible rfl)
        (try simp only [ptS, stA, st0, stS])
        refine tkS (i := 11) (v := ?_) (by simp only [opA, opS, op0]; exact rfl) (by kernel_rfl) (by kernel_rfl) HK9.out ?_ ?_
        rotate_left
        · intro w hS
          (try dsimp only at hS); first | (go_simp; done) | (go_simp; with_reducible rfl)
        (try simp only [ptS, stA, st0, stS])
        refine tkS (i := 12) (v := ?_) (by simp only [opA, opS, op0]; exact rfl) (by kernel_rfl) (by kernel_rfl) HK9.out ?_ ?_
        rotate_left
        · intro w hS
          (try dsimp only at hS); first | (go_simp; done) | (go_simp; with_reducible rfl)
        (try simp only [ptS, stA, st0, stS])
        refine wpAnyP_ready (rs := [13]) (by kernel_rfl) (by simp) ?_
        refine (AllReadyP.cons (by simp only [opA, opS, op0]; exact rfl) (fun K hK => ?_) AllReadyP.nil)
        rw [if_pos (by kernel_rfl)]
        have g1 := HK9.out.2
        have g2 := HK9.out.1
        go_simp
        refine hK.out _ _ (gone (by kernel_rfl)) ?_
        clear hK K
        (try simp only [ptN])
        refine tkW (i := 14) (v := ?_) (by simp only [opA, opS, op0]; exact rfl) (by kernel_rfl) (by kernel_rfl) (gone (by kernel_rfl)) ?_ ?_
        rotate_left
        · intro w hS
          first | (go_simp; done) | (go_simp; with_reducible rfl)
        (try simp only [ptS, stA, st0, stS])
        refine wpAnyP_ready (rs := [15]) (by kernel_rfl) (by simp) ?_
        refine (AllReadyP.cons (by simp only [opA, opS, op0]; exact rfl) (fun K hK => ?_) AllReadyP.nil)
        rw [if_pos (by kernel_rfl)]
        have HG10 := Lib.hid (setCell_heapD (o := i) (v := Value.string y) HG9.out)
        have g3 : (w9.setCell ⟨g, i, none⟩ (Value.string y)).cell? ⟨g, j, none⟩ = some (Value.string y) := by
          have hjs : j ≠ i := by intro e; subst e; omega
          rw [World.cell?, HG10.out]
          have h2 := g2
          rw [World.cell?, HG9.out] at h2
          simp only at h2 ⊢
          rw [Array.getElem?_setIfInBounds_ne (Ne.symm hjs)]
          exact h2
        have fz3 := thaw HG10.out j
        have hs3 := cell_lt g3
        go_simp
        refine hK.out _ _ (gone (by kernel_rfl)) ?_
        clear hK K
        (try simp only [ptN])
        refine wpAnyP_done (by kernel_rfl) ?_ _
        clear g1 g2 g3 fz1 fz2 fz3 hs1 hs3
        have hlt9 := HLT.out
        go_wp2_with fail
        go_roundw
        case rel => exact ⟨i + 1, _, by have := HLT.out; omega, by go_num, by have := HJ.out; congr 1; omega, Lib.hid (setCell_heapD (o := j) (v := Value.string x) HG10.out), HST, Lib.hid (grow_trans HW9.out (grow_trans (set1_grown _ g i (Value.string y)) (set1_grown _ g j (Value.string x))))⟩
        case measure => have := HLT.out; simp [intOf]; omega
      · have hii : (n : Int) - 1 - i ≤ (i : Int) := by omega
        have HLS := Lib.hid (HR.out.last (by rw [HXL.out]; omega) (by rw [HXL.out]; exact HC.out.1))
        go_wp2_with fail
        go_end0
        exact ⟨rfl, ⟨by rw [List.length_reverse, HXL.out, Nat.mul_one], Or.inr ⟨g, cap, cu, rfl, HB.out, HG.out, HC.out.1, HC.out.2, by rw [HR.out.1, Nat.mul_one], by rw [Nat.mul_one, ← HXL.out]; exact HLS.out⟩⟩, HW.out⟩
set_option maxRecDepth 100000 in
set_option maxHeartbeats 2000000 in
theorem rev62_any (l : List Int) (v : Value) (B : Nat) (w : World) (hl : l.length ≤ 1000000) (h : w.ownsRow B 2 1 v l.length (l.map (Value.int .i64))) :
    Calls Try.prog 62 #[v] w fun e w' => e = .returned (.tuple #[]) ∧ w'.ownsRow B 2 1 v l.length (l.map (Value.int .i64)).reverse ∧ w.grownBy w' v.ownBlock := by
  obtain ⟨n, HN⟩ : ∃ n, Hid (l.length = n) := ⟨_, Lib.hid rfl⟩
  have HXL := Lib.hid (show (l.map (Value.int .i64)).length = n by rw [List.length_map, HN.out])
  rw [HN.out] at h hl ⊢
  by_cases h0 : n = 0
  · subst h0
    have hx : (l.map (Value.int .i64)) = [] := List.length_eq_zero_iff.1 HXL.out
    rw [hx] at h ⊢
    obtain ⟨a, cap, rfl, _⟩ := owns_shape h
    have H := Lib.hid h; clear h
    go_enter Try.func62, Try.ntmps62
    go_wp2_with fail
    go_loopw [2, 3] (fun a b wr => a = .int .i64 0 ∧ b = .int .i64 (-1) ∧ wr = w) (fun _ _ _ => 0)
    case atStart => exact ⟨rfl, rfl, rfl⟩
    case round =>
      obtain ⟨rfl, rfl, rfl⟩ := hrel
      go_wp2_with fail
      go_end0
      exact ⟨rfl, H.out, World.grownBy.refl _ _⟩
  · obtain ⟨_, h | ⟨g, cap, cur, rfl, hB, hg, hcap, hml, hsz, ht⟩⟩ := h
    · exact absurd h.2 h0
    have HB := Lib.hid hB
    have HC := Lib.hid (And.intro hcap hml)
    have HG0 := Lib.hid hg
    have HR0 := Lib.hid (show RevI (l.map (Value.int .i64)) cur cap 0 from RevI.zero (by omega) (by rw [HXL.out]; rw [Nat.mul_one] at ht; exact ht))
    clear hB hcap hml hg hsz ht
    have hn1 : IntKind.i64.wrap ((n : Int) - 1) = n - 1 := by rw [IntKind.wrap_i64]; omega
    go_enter Try.func62, Try.ntmps62
    go_wp2_with fail
    go_loopw [2, 3] (fun a b wr => ∃ (i : Nat) (cu : Array Value), 2 * i ≤ n + 1 ∧ a = .int .i64 (i : Int) ∧ b = .int .i64 ((n : Int) - 1 - i) ∧ Hid (wr.heap[g]? = some (.cells cu 2)) ∧ Hid (RevI (l.map (Value.int .i64)) cu cap i) ∧ Hid (w.grownBy wr (some g))) (fun a _ _ => n + 1 - (intOf a).toNat)
    case atStart => exact ⟨0, cur, by omega, rfl, by simp, HG0, HR0, Lib.hid ⟨rfl, rfl, rfl, Nat.le_refl _, fun _ _ _ => rfl⟩⟩
    case round =>
      obtain ⟨i, cu, hi, rfl, rfl, HG, HR, HW⟩ := hrel
      obtain ⟨w1, rfl⟩ : ∃ wo : World, wo = wr := ⟨_, rfl⟩
      by_cases hlt : 2 * i + 1 < n
      · skip
        have hii : (i : Int) < (n : Int) - 1 - i := by omega
        have HLT := Lib.hid hlt
        obtain ⟨j, HJ⟩ : ∃ j, Hid (n - 1 - i = j) := ⟨_, Lib.hid rfl⟩
        have hij : (n : Int) - 1 - i = (j : Int) := by have := HJ.out; omega
        have HJN := Lib.hid (show j < n ∧ i < n from by have := HJ.out; omega)
        have hil : i < l.length := by have := HN.out; have := HJN.out; omega
        have hjl : j < l.length := by have := HN.out; have := HJN.out; omega
        have HU := Lib.hid (show (l.map (Value.int .i64))[i]? = some (Value.int .i64 l[i]) by simp [hil])
        have HV := Lib.hid (show (l.map (Value.int .i64))[j]? = some (Value.int .i64 l[j]) by simp [hjl])
        generalize l[i] = x at *
        generalize l[j] = y at *
        clear hil hjl
        have hat := HR.out.at (by rw [HXL.out]; exact hlt)
        rw [HXL.out, HJ.out] at hat
        have HCI := Lib.hid (show w1.cell? ⟨g, i, none⟩ = some (Value.int .i64 x) ∧ w1.cell? ⟨g, j, none⟩ = some (Value.int .i64 y) from ⟨by simp only [World.cell?, HG.out]; exact hat.1.trans HU.out, by simp only [World.cell?, HG.out]; exact hat.2.trans HV.out⟩)
        clear hat
        have HST := Lib.hid (HR.out.step (by rw [HXL.out]; exact hlt) (by rw [HXL.out]; exact HC.out.1) HU.out (by rw [HXL.out, HJ.out]; exact HV.out))
        rw [HXL.out, HJ.out] at HST
        rw [hij]
        rw [hij] at hii
        clear hlt
        have hin : (i : Int) < (n : Int) := by have := HJN.out; omega
        have hjn : (j : Int) < (n : Int) := by have := HJN.out; omega
        have hin2 : i < n := HJN.out.2
        have hjn2 : j < n := HJN.out.1
        have hwj : IntKind.i64.wrap ((j : Int) - 1) = (j : Int) - 1 := by rw [IntKind.wrap_i64]; omega
        have hwi : IntKind.i64.wrap ((i : Int) + 1) = (i : Int) + 1 := by rw [IntKind.wrap_i64]; omega
        go_upto_region 3 with fail
        have HDR := Lib.hid (more_drew w1)
        refine wp_region_heldP (S := fun W => W.cell? ⟨g, j, none⟩ = some (Value.int .i64 y) ∧ W.cell? ⟨g, i, none⟩ = some (Value.int .i64 x)) 13 (by kernel_rfl) ?_
        generalize w1.drew = w9 at *
        have HG9 := Lib.hid ((HDR.out.block (blk_ltD HG.out)).trans HG.out)
        have HK9 := Lib.hid (show w9.cell? ⟨g, j, none⟩ = some (Value.int .i64 y) ∧ w9.cell? ⟨g, i, none⟩ = some (Value.int .i64 x) from ⟨HDR.out.cell HCI.out.2, HDR.out.cell HCI.out.1⟩)
        have HW9 := Lib.hid (grow_trans HW.out (grow_more HDR.out))
        have hs1 := cell_lt HK9.out.1
        have fz1 := thaw HG9.out i
        have fz2 := thaw HG9.out j
        refine tkS (i := 0) (v := ?_) (by simp only [opA, op0]; exact rfl) (by kernel_rfl) (by kernel_rfl) HK9.out ?_ ?_
        rotate_left
        · intro w hS
          (try dsimp only at hS); first | (go_simp; done) | (go_simp; with_reducible rfl)
        (try simp only [ptS, stA, st0, stS])
        refine tkS (i := 1) (v := ?_) (by simp only [opA, opS, op0]; exact rfl) (by kernel_rfl) (by kernel_rfl) HK9.out ?_ ?_
        rotate_left
        · intro w hS
          (try dsimp only at hS); first | (go_simp; done) | (go_simp; with_reducible rfl)
        (try simp only [ptS, stA, st0, stS])
        refine tkW (i := 2) (v := ?_) (by simp only [opA, opS, op0]; exact rfl) (by kernel_rfl) (by kernel_rfl) (fun _ => HK9.out) ?_ ?_
        rotate_left
        · intro w hS
          first | (go_simp; done) | (go_simp; with_reducible rfl)
        (try simp only [ptS, stA, st0, stS])
        refine tkW (i := 3) (v := ?_) (by simp only [opA, opS, op0]; exact rfl) (by kernel_rfl) (by kernel_rfl) (fun _ => HK9.out) ?_ ?_
        rotate_left
        · intro w hS
          first | (go_simp; done) | (go_simp; with_reducible rfl)
        (try simp only [ptS, stA, st0, stS])
        refine tkS (i := 4) (v := ?_) (by simp only [opA, opS, op0]; exact rfl) (by kernel_rfl) (by kernel_rfl) HK9.out ?_ ?_
        rotate_left
        · intro w hS
          (try dsimp only at hS); first | (go_simp; done) | (go_simp; with_reducible rfl)
        (try simp only [ptS, stA, st0, stS])
        refine tkS (i := 5) (v := ?_) (by simp only [opA, opS, op0]; exact rfl) (by kernel_rfl) (by kernel_rfl) HK9.out ?_ ?_
        rotate_left
        · intro w hS
          (try dsimp only at hS); first | (go_simp; done) | (go_simp; with_reducible rfl)
        (try simp only [ptS, stA, st0, stS])
        refine tkS (i := 6) (v := ?_) (by simp only [opA, opS, op0]; exact rfl) (by kernel_rfl) (by kernel_rfl) HK9.out ?_ ?_
        rotate_left
        · intro w hS
          (try dsimp only at hS); first | (go_simp; done) | (go_simp; with_reducible rfl)
        (try simp only [ptS, stA, st0, stS])
        refine tkS (i := 7) (v := ?_) (by simp only [opA, opS, op0]; exact rfl) (by kernel_rfl) (by kernel_rfl) HK9.out ?_ ?_
        rotate_left
        · intro w hS
          (try dsimp only at hS); first | (go_simp; done) | (go_simp; with_reducible rfl)
        (try simp only [ptS, stA, st0, stS])
        refine tkW (i := 8) (v := ?_) (by simp only [opA, opS, op0]; exact rfl) (by kernel_rfl) (by kernel_rfl) (fun _ => HK9.out) ?_ ?_
        rotate_left
        · intro w hS
          first | (go_simp; done) | (go_simp; with_reducible rfl)
        (try simp only [ptS, stA, st0, stS])
        refine tkW (i := 9) (v := ?_) (by simp only [opA, opS, op0]; exact rfl) (by kernel_rfl) (by kernel_rfl) (fun _ => HK9.out) ?_ ?_
        rotate_left
        · intro w hS
          first | (go_simp; done) | (go_simp; with_reducible rfl)
        (try simp only [ptS, stA, st0, stS])
        refine tkW (i := 10) (v := ?_) (by simp only [opA, opS, op0]; exact rfl) (by kernel_rfl) (by kernel_rfl) (fun _ => HK9.out) ?_ ?_
        rotate_left
        · intro w hS
          first | (go_simp; done) | (go_simp; with_reducible rfl)
        (try simp only [ptS, stA, st0, stS])
        refine tkS (i := 11) (v := ?_) (by simp only [opA, opS, op0]; exact rfl) (by kernel_rfl) (by kernel_rfl) HK9.out ?_ ?_
        rotate_left
        · intro w hS
          (try dsimp only at hS); first | (go_simp; done) | (go_simp; with_reducible rfl)
        (try simp only [ptS, stA, st0, stS])
        refine tkS (i := 12) (v := ?_) (by simp only [opA, opS, op0]; exact rfl) (by kernel_rfl) (by kernel_rfl) HK9.out ?_ ?_
        rotate_left
        · intro w hS
          (try dsimp only at hS); first | (go_simp; done) | (go_simp; with_reducible rfl)
        (try simp only [ptS, stA, st0, stS])
        refine wpAnyP_ready (rs := [13]) (by kernel_rfl) (by simp) ?_
        refine (AllReadyP.cons (by simp only [opA, opS, op0]; exact rfl) (fun K hK => ?_) AllReadyP.nil)
        rw [if_pos (by kernel_rfl)]
        have g1 := HK9.out.2
        have g2 := HK9.out.1
        go_simp
        refine hK.out _ _ (gone (by kernel_rfl)) ?_
        clear hK K
        (try simp only [ptN])
        refine tkW (i := 14) (v := ?_) (by simp only [opA, opS, op0]; exact rfl) (by kernel_rfl) (by kernel_rfl) (gone (by kernel_rfl)) ?_ ?_
        rotate_left
        · intro w hS
          first | (go_simp; done) | (go_simp; with_reducible rfl)
        (try simp only [ptS, stA, st0, stS])
        refine wpAnyP_ready (rs := [15]) (by kernel_rfl) (by simp) ?_
        refine (AllReadyP.cons (by simp only [opA, opS, op0]; exact rfl) (fun K hK => ?_) AllReadyP.nil)
        rw [if_pos (by kernel_rfl)]
        have HG10 := Lib.hid (setCell_heapD (o := i) (v := Value.int .i64 y) HG9.out)
        have g3 : (w9.setCell ⟨g, i, none⟩ (Value.int .i64 y)).cell? ⟨g, j, none⟩ = some (Value.int .i64 y) := by
          have hjs : j ≠ i := by intro e; subst e; omega
          rw [World.cell?, HG10.out]
          have h2 := g2
          rw [World.cell?, HG9.out] at h2
          simp only at h2 ⊢
          rw [Array.getElem?_setIfInBounds_ne (Ne.symm hjs)]
          exact h2
        have fz3 := thaw HG10.out j
        have hs3 := cell_lt g3
        go_simp
        refine hK.out _ _ (gone (by kernel_rfl)) ?_
        clear hK K
        (try simp only [ptN])
        refine wpAnyP_done (by kernel_rfl) ?_ _
        clear g1 g2 g3 fz1 fz2 fz3 hs1 hs3
        have hlt9 := HLT.out
        go_wp2_with fail
        go_roundw
        case rel => exact ⟨i + 1, _, by have := HLT.out; omega, by go_num, by have := HJ.out; congr 1; omega, Lib.hid (setCell_heapD (o := j) (v := Value.int .i64 x) HG10.out), HST, Lib.hid (grow_trans HW9.out (grow_trans (set1_grown _ g i (Value.int .i64 y)) (set1_grown _ g j (Value.int .i64 x))))⟩
        case measure => have := HLT.out; simp [intOf]; omega
      · have hii : (n : Int) - 1 - i ≤ (i : Int) := by omega
        have HLS := Lib.hid (HR.out.last (by rw [HXL.out]; omega) (by rw [HXL.out]; exact HC.out.1))
        go_wp2_with fail
        go_end0
        exact ⟨rfl, ⟨by rw [List.length_reverse, HXL.out, Nat.mul_one], Or.inr ⟨g, cap, cu, rfl, HB.out, HG.out, HC.out.1, HC.out.2, by rw [HR.out.1, Nat.mul_one], by rw [Nat.mul_one, ← HXL.out]; exact HLS.out⟩⟩, HW.out⟩
end Go.Proofs.Ytekhoanjpnjaeaa

/- (*maker).stmt (141): the arm k = 11 where it nests. -/
namespace Go.Proofs.Ytekhoanjpnjaeaa
open Go.RowKit
theorem RepS.flds {S : Nat → Prop} {W : World} {D : Nat} {ts : List Ex} {c : Value} (h : RepS .i64 S W D ts c) : ∀ x ∈ ts, Flds .i64 x := fun x hx => by
  obtain ⟨a, cap, rfl⟩ := h.shape
  obtain ⟨_, b, off, _, _, _, _, hi⟩ := h.at (List.ne_nil_of_mem hx)
  obtain ⟨i, hi', rfl⟩ := List.getElem_of_mem hx
  exact (hi i hi').2.2.2.1
set_option maxRecDepth 100000 in
set_option maxHeartbeats 4000000 in
theorem stmt11_any (f : Nat) (hbs : BodySaid f) (MB : Nat) (d : MkD) (prm left dp : Int) (l : List Int) (w : World) (h : MkAt w MB d prm left l) (hd : d.Ok prm) (hfl : 0 ≤ d.flags ∧ d.flags ≤ 2) (har : ArOk w MB d) (hl0 : 0 ≤ left) (hl9 : left ≤ 12) (hdp : dp + 1 + f = 3) (h0 : 0 ≤ dp) :
    Calls Try.prog 141 #[.pointer (some ⟨MB, 0, none⟩), .int .i64 11, .int .i64 dp] w fun e w' => ∃ cs left' l', e = .returned (.agg cs.toArray) ∧ StmtC (fun b => w.heap.size ≤ b) w' cs ∧ MkAt w' MB d prm left' l' ∧ 0 ≤ left' ∧ left' ≤ left ∧ w.grownBy w' (some MB) := by
  have HD := Lib.hid hd
  have HFG := Lib.hid hfl
  have HLL := Lib.hid (And.intro hl0 hl9)
  have HA := Lib.hid (more_allocD w (.cells #[.int .i64 0, .string ⟨#[]⟩, .string ⟨#[]⟩, .slice none 0 0, .slice none 0 0, .slice none 0 0] 128))
  have HN1 := Lib.hid (alloc_last w (.cells #[.int .i64 0, .string ⟨#[]⟩, .string ⟨#[]⟩, .slice none 0 0, .slice none 0 0, .slice none 0 0] 128))
  have HM1 := Lib.hid (h.more HA.out)
  have HLT := Lib.hid h.lt
  have HAR := Lib.hid har
  clear h hd hfl har hl0 hl9
  obtain ⟨NB, HNB⟩ : ∃ B, Hid (B = w.heap.size) := ⟨_, Lib.hid rfl⟩
  rw [← HNB.out] at HN1
  have HG1 := Lib.hid (show w.grownBy _ (some MB) from grow_more (B := MB) HA.out)
  have HBS := Lib.hid hbs
  have HDF := Lib.hid (show dp + 1 + (f : Int) = 3 ∧ 0 ≤ dp + 1 from ⟨hdp, by omega⟩)
  have hdp3 : dp < 3 := by omega
  have hwr : IntKind.i64.wrap (dp + 1) = dp + 1 := by rw [IntKind.wrap_i64]; omega
  clear hbs hdp
  go_enter Try.func141, Try.ntmps141
  go_wp2_with fail
  rw [← HNB.out]
  generalize w.alloc (.cells #[.int .i64 0, .string ⟨#[]⟩, .string ⟨#[]⟩, .slice none 0 0, .slice none 0 0, .slice none 0 0] 128) = w1 at *
  have HCJ := Lib.hid (next_any MB d prm left 2 l w1 HM1.out (by omega) (by omega))
  obtain ⟨z, lz, hzl⟩ : ∃ z r, nextB l 2 = (z, r) := ⟨_, _, rfl⟩
  rw [hzl] at HCJ
  dsimp only at HCJ
  clear hzl
  refine HCJ.out.mono ?_
  rintro e w2 ⟨rfl, hmk, hg⟩
  have HM2 := Lib.hid hmk
  have HG2 := Lib.hid (grow_trans HG1.out hg)
  have HN2 := Lib.hid ((hg.block NB (blk_ltD HN1.out) (fun e => by have := HLT.out; have := HNB.out; injection e with e; omega)).trans HN1.out)
  clear hmk hg HCJ
  by_cases hz : z = 0
  · subst hz
    go_wp2_with fail
    have HCR := Lib.hid (numbers_any MB d prm left 2 lz w2 HM2.out HD.out (by omega))
    obtain ⟨ts, l3, hR⟩ : ∃ t r, numsF d prm 2 lz = (t, r) := ⟨_, _, rfl⟩
    have HFO3 := Lib.hid (show ∀ t ∈ ts, t.formed = true by have := numsF_formed d prm lz 2; rw [hR] at this; exact this)
    have HLN := Lib.hid (show ts.length = 2 by have := numsF_len d prm lz 2; rw [hR] at this; exact this)
    rw [hR] at HCR
    clear hR
    dsimp only at HCR
    refine HCR.out.mono ?_
    rintro e w3 ⟨c3, rfl, hr, hmk, hg⟩
    have HM3 := Lib.hid hmk
    have HG3 := Lib.hid (grow_trans HG2.out hg)
    have HN3 := Lib.hid ((hg.block NB (blk_ltD HN2.out) (fun e => by have := HLT.out; have := HNB.out; injection e with e; omega)).trans HN2.out)
    have HR3 := Lib.hid (show RepS .i64 (fun b => NB < b) w3 4 ts c3 from hr.mono (fun b hb => by have h9 : w2.heap.size ≤ b := hb; have := blk_ltD HN2.out; omega) (fun _ _ _ _ hc => hc) (Nat.le_refl _))
    have HFl3 := Lib.hid hr.flds
    have HTL := Lib.hid (show ∀ L : List Ex, L = ts → L.length ≤ 3 from fun L e => by rw [e]; have h := HLN.out; omega)
    clear HLN
    obtain ⟨ca3, cc3, hsh⟩ := hr.shape
    subst hsh
    clear hr hmk hg HCR
    generalize hlen : ts.length = tn at *
    clear hlen
    go_wp2_with fail
    have HCB := Lib.hid (HBS.out MB d prm left (dp + 1) l3 w3 HM3.out HD.out HFG.out (HAR.out.grown (Nat.le_of_lt HLT.out) HG3.out) HLL.out.1 HLL.out.2 HDF.out.1 HDF.out.2)
    skip
    refine HCB.out.mono ?_
    rintro e w4 ⟨sv4, n4, lf4, l4, rfl, _, hb, hmk, h0, h1, hg⟩
    obtain ⟨sa4, sc4, rfl, _⟩ := hb.shape
    have HM4 := Lib.hid hmk
    have Hlf4 := Lib.hid (show 0 ≤ lf4 ∧ lf4 ≤ 12 from ⟨h0, by have := HLL.out; omega⟩)
    have HQlf4 := Lib.hid (show lf4 ≤ left from by omega)
    have HG4 := Lib.hid (grow_trans HG3.out hg)
    have HN4 := Lib.hid ((hg.block NB (blk_ltD HN3.out) (fun e => by have := HLT.out; have := HNB.out; injection e with e; omega)).trans HN3.out)
    have HR4 := Lib.hid (show RepS .i64 (fun b => NB < b) w4 4 ts (.slice ca3 tn cc3) from HR3.out.mono2 (fun b off u hb hc => ⟨hb, by rw [World.cell?_of_block (w := w3) (a := ⟨b, off, none⟩) (hg.block b (World.block_lt_of_cell? w3 ⟨b, off, none⟩ hc) (fun e => by have := HLT.out; have := HNB.out; have h9 : NB < b := hb; injection e with e; omega))]; exact hc⟩) (Nat.le_refl _))
    clear hb hmk h0 h1 hg HCB
    have n0' : w4.cell? ⟨NB, 0, none⟩ = some (.int .i64 0) := by simp [World.cell?, HN4.out]
    have f0' := thaw HN4.out 0
    have n1' : w4.cell? ⟨NB, 1, none⟩ = some (.string ⟨#[]⟩) := by simp [World.cell?, HN4.out]
    have f1' := thaw HN4.out 1
    have n2' : w4.cell? ⟨NB, 2, none⟩ = some (.string ⟨#[]⟩) := by simp [World.cell?, HN4.out]
    have f2' := thaw HN4.out 2
    have n3' : w4.cell? ⟨NB, 3, none⟩ = some (.slice none 0 0) := by simp [World.cell?, HN4.out]
    have f3' := thaw HN4.out 3
    have n4' : w4.cell? ⟨NB, 4, none⟩ = some (.slice none 0 0) := by simp [World.cell?, HN4.out]
    have f4' := thaw HN4.out 4
    have n5' : w4.cell? ⟨NB, 5, none⟩ = some (.slice none 0 0) := by simp [World.cell?, HN4.out]
    have f5' := thaw HN4.out 5
    have hbn := cell_lt n0'
    go_wp2_with fail
    have HW := set6D HN4.out (.int .i64 8) (.string ⟨#[]⟩) (.string ⟨#[]⟩) (.slice ca3 tn cc3) (.slice none 0 0) (.slice sa4 n4 sc4)
    refine bodyPost_ret (v := .agg #[.int .i64 8, .string ⟨#[]⟩, .string ⟨#[]⟩, .slice ca3 tn cc3, .slice none 0 0, .slice sa4 n4 sc4]) (results_cell_row Try.results141 _ _ NB 128 _ (0, 0) _ rfl HW Try.underlying128 rfl (by kernel_rfl)) rfl ?_
    exact ⟨[.int .i64 8, .string ⟨#[]⟩, .string ⟨#[]⟩, .slice ca3 tn cc3, .slice none 0 0, .slice sa4 n4 sc4], lf4, l4, rfl, (fin6 HNB.out HLT.out HG4.out HM4.out (repUp HR4.out (by omega)) HFO3.out HFl3.out (HTL.out _ rfl)).1, (fin6 HNB.out HLT.out HG4.out HM4.out (repUp HR4.out (by omega)) HFO3.out HFl3.out (HTL.out _ rfl)).2.1, Hlf4.out.1, HQlf4.out, (fin6 HNB.out HLT.out HG4.out HM4.out (repUp HR4.out (by omega)) HFO3.out HFl3.out (HTL.out _ rfl)).2.2⟩
  · have hzb : (z == 0) = false := beq_eq_false_iff_ne.2 hz
    go_wp2_with fail
    have HCI := Lib.hid (integer_any MB d prm left lz w2 HM2.out HD.out.i0 HD.out.i1)
    obtain ⟨nm, HNM⟩ : ∃ s, Hid (nmB 120 (nextB lz d.ints).1.toNat = s) := ⟨_, Lib.hid rfl⟩
    obtain ⟨l3, HL3⟩ : ∃ s, Hid ((nextB lz d.ints).2 = s) := ⟨_, Lib.hid rfl⟩
    rw [HNM.out, HL3.out] at HCI
    refine HCI.out.mono ?_
    rintro e w3 ⟨rfl, hmk, hg⟩
    have HM3 := Lib.hid hmk
    have HG3 := Lib.hid (grow_trans HG2.out hg)
    have HN3 := Lib.hid ((hg.block NB (blk_ltD HN2.out) (fun e => by have := HLT.out; have := HNB.out; injection e with e; omega)).trans HN2.out)
    clear hmk hg HCI
    go_wp2_with fail
    have HCR := Lib.hid (number_any 4 MB d prm left 0 l3 w3 HM3.out HD.out (by omega) (by omega) (by omega))
    obtain ⟨t4, l4, hR⟩ : ∃ t r, numF d prm 4 0 l3 = (t, r) := ⟨_, _, rfl⟩
    have HFO4 := Lib.hid (show t4.formed = true by have := numF_formed d prm 4 0 l3; rw [hR] at this; exact this)
    rw [hR] at HCR
    clear hR
    refine HCR.out.mono ?_
    rintro e w4 ⟨c4, rfl, hf, hr, hmk, hg⟩
    have HFl4 := Lib.hid hf
    have HM4 := Lib.hid hmk
    have HG4 := Lib.hid (grow_trans HG3.out hg)
    have HN4 := Lib.hid ((hg.block NB (blk_ltD HN3.out) (fun e => by have := HLT.out; have := HNB.out; injection e with e; omega)).trans HN3.out)
    have HR4 := Lib.hid (show RepS .i64 (fun b => NB < b) w4 4 t4.args c4 from hr.mono (fun b hb => by have h9 : w3.heap.size ≤ b := hb; have := blk_ltD HN3.out; omega) (fun _ _ _ _ hc => hc) (Nat.le_refl _))
    obtain ⟨ca4, cc4, hsh⟩ := hr.shape
    dsimp only at hsh
    subst hsh
    clear hf hr hmk hg HCR
    unfold agg
    have HX := Lib.hid (more_allocD w4 (.cells #[.int .i64 t4.op, .string t4.name, .int .i64 t4.n, .slice ca4 t4.args.length cc4] 36))
    have HTB5 := Lib.hid (alloc_last w4 (.cells #[.int .i64 t4.op, .string t4.name, .int .i64 t4.n, .slice ca4 t4.args.length cc4] 36))
    obtain ⟨TB, HTBE⟩ : ∃ B, Hid (B = w4.heap.size) := ⟨_, Lib.hid rfl⟩
    rw [← HTBE.out] at HTB5
    have HTBN := Lib.hid (show NB < TB by rw [HTBE.out]; exact blk_ltD HN4.out)
    go_upto_region 28 with fail
    rw [← HTBE.out]
    generalize w4.alloc (.cells #[.int .i64 t4.op, .string t4.name, .int .i64 t4.n, .slice ca4 t4.args.length cc4] 36) = w5 at *
    have HG5 := Lib.hid (grow_trans HG4.out (grow_more HX.out))
    have HN5 := Lib.hid ((HX.out.block (blk_ltD HN4.out)).trans HN4.out)
    have HM5 := Lib.hid (HM4.out.more HX.out)
    have HR5 := Lib.hid (show RepS .i64 (fun b => NB < b) w5 4 t4.args (.slice ca4 t4.args.length cc4) from HR4.out.mono (fun _ k => k) (fun _ _ _ _ hc => HX.out.cell hc) (Nat.le_refl _))
    have HXt4_5 := HR5
    clear HM1 HN1 HG1 HM2 HN2 HG2 HM3 HN3 HG3 HM4 HN4 HG4 HR4 hz hzb
    have HKT := Lib.hid (show ∀ W : World, W.heap[TB]? = some (.cells #[.int .i64 t4.op, .string t4.name, .int .i64 t4.n, .slice ca4 t4.args.length cc4] 36) → (W.cell? ⟨TB, 0, none⟩ = some (.int .i64 t4.op) ∧ W.cell? ⟨TB, 1, none⟩ = some (.string t4.name) ∧ W.cell? ⟨TB, 2, none⟩ = some (.int .i64 t4.n) ∧ W.cell? ⟨TB, 3, none⟩ = some (.slice ca4 t4.args.length cc4)) from fun W h => ⟨by simp [World.cell?, h], by simp [World.cell?, h], by simp [World.cell?, h], by simp [World.cell?, h]⟩)
    have hbt := blk_ltD HTB5.out
    have HDR := Lib.hid (more_drew w5)
    refine wp_region_heldP (S := fun W => W.cell? ⟨TB, 0, none⟩ = some (.int .i64 t4.op) ∧ W.cell? ⟨TB, 1, none⟩ = some (.string t4.name) ∧ W.cell? ⟨TB, 2, none⟩ = some (.int .i64 t4.n) ∧ W.cell? ⟨TB, 3, none⟩ = some (.slice ca4 t4.args.length cc4)) 8 (by kernel_rfl) ?_
    generalize w5.drew = w90 at *
    have HG90 := Lib.hid (grow_trans HG5.out (grow_more HDR.out))
    have HN90 := Lib.hid ((HDR.out.block (blk_ltD HN5.out)).trans HN5.out)
    have HM90 := Lib.hid (HM5.out.more HDR.out)
    have HTB90 := Lib.hid ((HDR.out.block (blk_ltD HTB5.out)).trans HTB5.out)
    have HXt4_90 := Lib.hid (show RepS .i64 (fun b => NB < b) w90 4 t4.args (.slice ca4 t4.args.length cc4) from HXt4_5.out.mono (fun _ k => k) (fun _ _ _ _ hc => HDR.out.cell hc) (Nat.le_refl _))
    refine tkS (i := 0) (v := ?_) (by simp only [opA, op0]; exact rfl) (by kernel_rfl) (by kernel_rfl) (HKT.out _ HTB90.out) ?_ ?_
    rotate_left
    · intro w hS
      (try dsimp only at hS); first | (go_simp; done) | (go_simp; with_reducible rfl)
    (try simp only [ptS, stA, st0, stS])
    refine tkS (i := 1) (v := ?_) (by simp only [opA, opS, op0]; exact rfl) (by kernel_rfl) (by kernel_rfl) (HKT.out _ HTB90.out) ?_ ?_
    rotate_left
    · intro w hS
      (try dsimp only at hS); first | (go_simp; done) | (go_simp; with_reducible rfl)
    (try simp only [ptS, stA, st0, stS])
    refine tkS (i := 3) (v := ?_) (by simp only [opA, opS, op0]; exact rfl) (by kernel_rfl) (by kernel_rfl) (HKT.out _ HTB90.out) ?_ ?_
    rotate_left
    · intro w hS
      (try dsimp only at hS); first | (go_simp; done) | (go_simp; with_reducible rfl)
    (try simp only [ptS, stA, st0, stS])
    refine tkS (i := 4) (v := ?_) (by simp only [opA, opS, op0]; exact rfl) (by kernel_rfl) (by kernel_rfl) (HKT.out _ HTB90.out) ?_ ?_
    rotate_left
    · intro w hS
      (try dsimp only at hS); first | (go_simp; done) | (go_simp; with_reducible rfl)
    (try simp only [ptS, stA, st0, stS])
    refine tkS (i := 5) (v := ?_) (by simp only [opA, opS, op0]; exact rfl) (by kernel_rfl) (by kernel_rfl) (HKT.out _ HTB90.out) ?_ ?_
    rotate_left
    · intro w hS
      (try dsimp only at hS); first | (go_simp; done) | (go_simp; with_reducible rfl)
    (try simp only [ptS, stA, st0, stS])
    refine wpAnyP_ready (rs := [2, 6]) (by kernel_rfl) (by simp) ?_
    refine (AllReadyP.cons (by simp only [opA, opS, op0]; exact rfl) (fun K hK => ?_) (AllReadyP.cons (by simp only [opA, opS, op0]; exact rfl) (fun K hK => ?_) AllReadyP.nil))
    · rw [if_pos (by kernel_rfl)]
      have HY91 := Lib.hid (more_allocD w90 (.cells #[.int .i64 t4.op, .string t4.name, .int .i64 t4.n, .slice ca4 t4.args.length cc4] 36))
      have HB91 := Lib.hid (alloc_last w90 (.cells #[.int .i64 t4.op, .string t4.name, .int .i64 t4.n, .slice ca4 t4.args.length cc4] 36))
      obtain ⟨RB, HRE⟩ : ∃ B, Hid (B = w90.heap.size) := ⟨_, Lib.hid rfl⟩
      go_simp
      rw [← HRE.out] at HB91 ⊢
      generalize w90.alloc (.cells #[.int .i64 t4.op, .string t4.name, .int .i64 t4.n, .slice ca4 t4.args.length cc4] 36) = w91 at *
      have HG91 := Lib.hid (grow_trans HG90.out (grow_more HY91.out))
      have HN91 := Lib.hid ((HY91.out.block (blk_ltD HN90.out)).trans HN90.out)
      have HM91 := Lib.hid (HM90.out.more HY91.out)
      have HTB91 := Lib.hid ((HY91.out.block (blk_ltD HTB90.out)).trans HTB90.out)
      have HXt4_91 := Lib.hid (show RepS .i64 (fun b => NB < b) w91 4 t4.args (.slice ca4 t4.args.length cc4) from HXt4_90.out.mono (fun _ k => k) (fun _ _ _ _ hc => HY91.out.cell hc) (Nat.le_refl _))
      have HROW_91 := Lib.hid (show RepS .i64 (fun b => NB < b) w91 7 [t4] (.slice (some ⟨RB, 0, none⟩) 1 1) from repUp (rep1D HB91.out (by rw [HRE.out]; exact blk_ltD HN90.out) HFl4.out HXt4_91.out) (by omega))
      refine hK.out _ _ (fun _ => (HKT.out _ HTB91.out)) ?_
      clear hK K
      (try simp only [ptS, stA, st0, stS])
      refine wpAnyP_ready (rs := [6]) (by kernel_rfl) (by simp) ?_
      refine (AllReadyP.cons (by simp only [opA, opS, op0]; exact rfl) (fun K hK => ?_) AllReadyP.nil)
      rw [if_pos (by kernel_rfl)]
      have HCB := Lib.hid (HBS.out MB d prm left (dp + 1) l4 w91 HM91.out HD.out HFG.out (HAR.out.grown (Nat.le_of_lt HLT.out) HG91.out) HLL.out.1 HLL.out.2 HDF.out.1 HDF.out.2)
      go_simp
      refine HCB.out.mono ?_
      rintro e w92 ⟨sv92, n92, lf92, l92, rfl, _, hb, hmk, h0, h1, hg⟩
      obtain ⟨sa92, sc92, rfl, _⟩ := hb.shape
      have HM92 := Lib.hid hmk
      have Hlf92 := Lib.hid (show 0 ≤ lf92 ∧ lf92 ≤ 12 from ⟨h0, by have := HLL.out; omega⟩)
      have HQlf92 := Lib.hid (show lf92 ≤ left from by omega)
      have HG92 := Lib.hid (grow_trans HG91.out hg)
      have HN92 := Lib.hid ((hg.block NB (blk_ltD HN91.out) (fun e => by have := HLT.out; have := HNB.out; injection e with e; omega)).trans HN91.out)
      have HTB92 := Lib.hid ((hg.block TB (blk_ltD HTB91.out) (fun e => by have := HLT.out; have := HNB.out; have := HTBN.out; injection e with e; omega)).trans HTB91.out)
      have HROW_92 := Lib.hid (show RepS .i64 (fun b => NB < b) w92 7 [t4] (.slice (some ⟨RB, 0, none⟩) 1 1) from HROW_91.out.mono2 (fun b off u hb hc => ⟨hb, by rw [World.cell?_of_block (w := w91) (a := ⟨b, off, none⟩) (hg.block b (World.block_lt_of_cell? w91 ⟨b, off, none⟩ hc) (fun e => by have := HLT.out; have := HNB.out; have h9 : NB < b := hb; injection e with e; omega))]; exact hc⟩) (Nat.le_refl _))
      clear hb hmk h0 h1 hg HCB
      try go_wp2_with fail
      refine hK.out _ _ (fun _ => (HKT.out _ HTB92.out)) ?_
      clear hK K
      (try simp only [ptS, stA, st0, stS])
      refine tkS (i := 7) (v := ?_) (by simp only [opA, opS, op0]; exact rfl) (by kernel_rfl) (by kernel_rfl) (HKT.out _ HTB92.out) ?_ ?_
      rotate_left
      · intro w hS
        (try dsimp only at hS); first | (go_simp; done) | (go_simp; with_reducible rfl)
      (try simp only [ptS, stA, st0, stS])
      refine wpAnyP_ready (rs := [8]) (by kernel_rfl) (by simp) ?_
      refine (AllReadyP.cons (by simp only [opA, opS, op0]; exact rfl) (fun K hK => ?_) AllReadyP.nil)
      rw [if_pos (by kernel_rfl)]
      have n0' : w92.cell? ⟨NB, 0, none⟩ = some (.int .i64 0) := by simp [World.cell?, HN92.out]
      have f0' := thaw HN92.out 0
      have n1' : w92.cell? ⟨NB, 1, none⟩ = some (.string ⟨#[]⟩) := by simp [World.cell?, HN92.out]
      have f1' := thaw HN92.out 1
      have n2' : w92.cell? ⟨NB, 2, none⟩ = some (.string ⟨#[]⟩) := by simp [World.cell?, HN92.out]
      have f2' := thaw HN92.out 2
      have n3' : w92.cell? ⟨NB, 3, none⟩ = some (.slice none 0 0) := by simp [World.cell?, HN92.out]
      have f3' := thaw HN92.out 3
      have n4' : w92.cell? ⟨NB, 4, none⟩ = some (.slice none 0 0) := by simp [World.cell?, HN92.out]
      have f4' := thaw HN92.out 4
      have n5' : w92.cell? ⟨NB, 5, none⟩ = some (.slice none 0 0) := by simp [World.cell?, HN92.out]
      have f5' := thaw HN92.out 5
      have hbn := cell_lt n0'
      go_simp
      refine hK.out _ _ (gone (by kernel_rfl)) ?_
      clear hK K
      (try simp only [ptN])
      refine wpAnyP_done (by kernel_rfl) ?_ _
      go_wp2_with fail
      have HW := set6D HN92.out (.int .i64 9) (.string nm) (.string ⟨#[]⟩) (.slice (some ⟨RB, 0, none⟩) 1 1) (.slice none 0 0) (.slice sa92 n92 sc92)
      refine bodyPost_ret (v := .agg #[.int .i64 9, .string nm, .string ⟨#[]⟩, .slice (some ⟨RB, 0, none⟩) 1 1, .slice none 0 0, .slice sa92 n92 sc92]) (results_cell_row Try.results141 _ _ NB 128 _ (0, 0) _ rfl HW Try.underlying128 rfl (by kernel_rfl)) rfl ?_
      exact ⟨[.int .i64 9, .string nm, .string ⟨#[]⟩, .slice (some ⟨RB, 0, none⟩) 1 1, .slice none 0 0, .slice sa92 n92 sc92], lf92, l92, rfl, (fin6 HNB.out HLT.out HG92.out HM92.out HROW_92.out (one_fo HFO4.out) (one_fl HFl4.out) (by simp)).1, (fin6 HNB.out HLT.out HG92.out HM92.out HROW_92.out (one_fo HFO4.out) (one_fl HFl4.out) (by simp)).2.1, Hlf92.out.1, HQlf92.out, (fin6 HNB.out HLT.out HG92.out HM92.out HROW_92.out (one_fo HFO4.out) (one_fl HFl4.out) (by simp)).2.2⟩
    · rw [if_pos (by kernel_rfl)]
      have HCB := Lib.hid (HBS.out MB d prm left (dp + 1) l4 w90 HM90.out HD.out HFG.out (HAR.out.grown (Nat.le_of_lt HLT.out) HG90.out) HLL.out.1 HLL.out.2 HDF.out.1 HDF.out.2)
      go_simp
      refine HCB.out.mono ?_
      rintro e w91 ⟨sv91, n91, lf91, l91, rfl, _, hb, hmk, h0, h1, hg⟩
      obtain ⟨sa91, sc91, rfl, _⟩ := hb.shape
      have HM91 := Lib.hid hmk
      have Hlf91 := Lib.hid (show 0 ≤ lf91 ∧ lf91 ≤ 12 from ⟨h0, by have := HLL.out; omega⟩)
      have HQlf91 := Lib.hid (show lf91 ≤ left from by omega)
      have HG91 := Lib.hid (grow_trans HG90.out hg)
      have HN91 := Lib.hid ((hg.block NB (blk_ltD HN90.out) (fun e => by have := HLT.out; have := HNB.out; injection e with e; omega)).trans HN90.out)
      have HTB91 := Lib.hid ((hg.block TB (blk_ltD HTB90.out) (fun e => by have := HLT.out; have := HNB.out; have := HTBN.out; injection e with e; omega)).trans HTB90.out)
      have HXt4_91 := Lib.hid (show RepS .i64 (fun b => NB < b) w91 4 t4.args (.slice ca4 t4.args.length cc4) from HXt4_90.out.mono2 (fun b off u hb hc => ⟨hb, by rw [World.cell?_of_block (w := w90) (a := ⟨b, off, none⟩) (hg.block b (World.block_lt_of_cell? w90 ⟨b, off, none⟩ hc) (fun e => by have := HLT.out; have := HNB.out; have h9 : NB < b := hb; injection e with e; omega))]; exact hc⟩) (Nat.le_refl _))
      clear hb hmk h0 h1 hg HCB
      try go_wp2_with fail
      refine hK.out _ _ (fun _ => (HKT.out _ HTB91.out)) ?_
      clear hK K
      (try simp only [ptS, stA, st0, stS])
      refine wpAnyP_ready (rs := [2]) (by kernel_rfl) (by simp) ?_
      refine (AllReadyP.cons (by simp only [opA, opS, op0]; exact rfl) (fun K hK => ?_) AllReadyP.nil)
      rw [if_pos (by kernel_rfl)]
      have HY92 := Lib.hid (more_allocD w91 (.cells #[.int .i64 t4.op, .string t4.name, .int .i64 t4.n, .slice ca4 t4.args.length cc4] 36))
      have HB92 := Lib.hid (alloc_last w91 (.cells #[.int .i64 t4.op, .string t4.name, .int .i64 t4.n, .slice ca4 t4.args.length cc4] 36))
      obtain ⟨RB, HRE⟩ : ∃ B, Hid (B = w91.heap.size) := ⟨_, Lib.hid rfl⟩
      go_simp
      rw [← HRE.out] at HB92 ⊢
      generalize w91.alloc (.cells #[.int .i64 t4.op, .string t4.name, .int .i64 t4.n, .slice ca4 t4.args.length cc4] 36) = w92 at *
      have HG92 := Lib.hid (grow_trans HG91.out (grow_more HY92.out))
      have HN92 := Lib.hid ((HY92.out.block (blk_ltD HN91.out)).trans HN91.out)
      have HM92 := Lib.hid (HM91.out.more HY92.out)
      have HTB92 := Lib.hid ((HY92.out.block (blk_ltD HTB91.out)).trans HTB91.out)
      have HXt4_92 := Lib.hid (show RepS .i64 (fun b => NB < b) w92 4 t4.args (.slice ca4 t4.args.length cc4) from HXt4_91.out.mono (fun _ k => k) (fun _ _ _ _ hc => HY92.out.cell hc) (Nat.le_refl _))
      have HROW_92 := Lib.hid (show RepS .i64 (fun b => NB < b) w92 7 [t4] (.slice (some ⟨RB, 0, none⟩) 1 1) from repUp (rep1D HB92.out (by rw [HRE.out]; exact blk_ltD HN91.out) HFl4.out HXt4_92.out) (by omega))
      refine hK.out _ _ (fun _ => (HKT.out _ HTB92.out)) ?_
      clear hK K
      (try simp only [ptS, stA, st0, stS])
      refine tkS (i := 7) (v := ?_) (by simp only [opA, opS, op0]; exact rfl) (by kernel_rfl) (by kernel_rfl) (HKT.out _ HTB92.out) ?_ ?_
      rotate_left
      · intro w hS
        (try dsimp only at hS); first | (go_simp; done) | (go_simp; with_reducible rfl)
      (try simp only [ptS, stA, st0, stS])
      refine wpAnyP_ready (rs := [8]) (by kernel_rfl) (by simp) ?_
      refine (AllReadyP.cons (by simp only [opA, opS, op0]; exact rfl) (fun K hK => ?_) AllReadyP.nil)
      rw [if_pos (by kernel_rfl)]
      have n0' : w92.cell? ⟨NB, 0, none⟩ = some (.int .i64 0) := by simp [World.cell?, HN92.out]
      have f0' := thaw HN92.out 0
      have n1' : w92.cell? ⟨NB, 1, none⟩ = some (.string ⟨#[]⟩) := by simp [World.cell?, HN92.out]
      have f1' := thaw HN92.out 1
      have n2' : w92.cell? ⟨NB, 2, none⟩ = some (.string ⟨#[]⟩) := by simp [World.cell?, HN92.out]
      have f2' := thaw HN92.out 2
      have n3' : w92.cell? ⟨NB, 3, none⟩ = some (.slice none 0 0) := by simp [World.cell?, HN92.out]
      have f3' := thaw HN92.out 3
      have n4' : w92.cell? ⟨NB, 4, none⟩ = some (.slice none 0 0) := by simp [World.cell?, HN92.out]
      have f4' := thaw HN92.out 4
      have n5' : w92.cell? ⟨NB, 5, none⟩ = some (.slice none 0 0) := by simp [World.cell?, HN92.out]
      have f5' := thaw HN92.out 5
      have hbn := cell_lt n0'
      go_simp
      refine hK.out _ _ (gone (by kernel_rfl)) ?_
      clear hK K
      (try simp only [ptN])
      refine wpAnyP_done (by kernel_rfl) ?_ _
      go_wp2_with fail
      have HW := set6D HN92.out (.int .i64 9) (.string nm) (.string ⟨#[]⟩) (.slice (some ⟨RB, 0, none⟩) 1 1) (.slice none 0 0) (.slice sa91 n91 sc91)
      refine bodyPost_ret (v := .agg #[.int .i64 9, .string nm, .string ⟨#[]⟩, .slice (some ⟨RB, 0, none⟩) 1 1, .slice none 0 0, .slice sa91 n91 sc91]) (results_cell_row Try.results141 _ _ NB 128 _ (0, 0) _ rfl HW Try.underlying128 rfl (by kernel_rfl)) rfl ?_
      exact ⟨[.int .i64 9, .string nm, .string ⟨#[]⟩, .slice (some ⟨RB, 0, none⟩) 1 1, .slice none 0 0, .slice sa91 n91 sc91], lf91, l91, rfl, (fin6 HNB.out HLT.out HG92.out HM92.out HROW_92.out (one_fo HFO4.out) (one_fl HFl4.out) (by simp)).1, (fin6 HNB.out HLT.out HG92.out HM92.out HROW_92.out (one_fo HFO4.out) (one_fl HFl4.out) (by simp)).2.1, Hlf91.out.1, HQlf91.out, (fin6 HNB.out HLT.out HG92.out HM92.out HROW_92.out (one_fo HFO4.out) (one_fl HFl4.out) (by simp)).2.2⟩
end Go.Proofs.Ytekhoanjpnjaeaa

