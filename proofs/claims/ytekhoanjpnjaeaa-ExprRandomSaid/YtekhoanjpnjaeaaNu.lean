/- Texts MkP, MkR, MkC, MkY, MkZ, laid together. -/
import Derived.Test.YtekhoanjpnjaeaaNa
import Derived.Test.YtekhoanjpnjaeaaNf
import Derived.Test.YtekhoanjpnjaeaaNp
import Derived.Test.YtekhoanjpnjaeaaNt
/- Every expression that a maker makes is well formed. No program in sight. -/
namespace Go.Proofs.Ytekhoanjpnjaeaa
open Go.RowKit
theorem numF_formed (d : MkD) (prm : Int) : ∀ (f : Nat) (dp : Int) (l : List Int), (numF d prm f dp l).1.formed = true
  | 0, dp, l => formed_mk rfl (fun _ ht => absurd ht List.not_mem_nil)
  | f + 1, dp, l => by
    have ih := numF_formed d prm f
    have ho : opnd (opsN (nextB (nextB l 12).2 6).1) = 2 := by
      unfold opsN
      repeat' split
      all_goals rfl
    unfold numF
    repeat' split
    all_goals first
      | exact formed_mk rfl (fun _ ht => absurd ht List.not_mem_nil)
      | exact formed_mk rfl (fun t ht => by rw [List.mem_singleton] at ht; rw [ht]; exact ih _ _)
      | exact formed_mk (by rw [ho]; rfl) (fun t ht => by
          rcases List.mem_cons.1 ht with e | ht
          · rw [e]; exact ih _ _
          · rw [List.mem_singleton] at ht; rw [ht]; exact ih _ _)
theorem opnd_two {z : Int} (h : 0 ≤ z) (h8 : z < 8) : opnd (16 + z) = 2 := by
  have : z = 0 ∨ z = 1 ∨ z = 2 ∨ z = 3 ∨ z = 4 ∨ z = 5 ∨ z = 6 ∨ z = 7 := by omega
  rcases this with rfl | rfl | rfl | rfl | rfl | rfl | rfl | rfl <;> rfl
theorem opnd_none {z : Int} (h : 0 ≤ z) (h8 : z < 2) : opnd (2 + z) = 0 := by
  have : z = 0 ∨ z = 1 := by omega
  rcases this with rfl | rfl <;> rfl
theorem truF_formed (d : MkD) (prm : Int) : ∀ (f : Nat) (dp : Int) (l : List Int), (truF d prm f dp l).1.formed = true
  | 0, dp, l => formed_mk rfl (fun _ ht => absurd ht List.not_mem_nil)
  | f + 1, dp, l => by
    have ih := truF_formed d prm f
    have hn := numF_formed d prm
    have h10 := nextB_rng l (n := 10) (by omega)
    have h2 := nextB_rng (nextB l 10).2 (n := 2) (by omega)
    have h6 := nextB_rng (nextB l 10).2 (n := 6) (by omega)
    unfold truF
    repeat' split
    all_goals first
      | exact formed_mk (by rw [opnd_none h2.1 h2.2]; rfl) (fun _ ht => absurd ht List.not_mem_nil)
      | exact formed_mk rfl (fun _ ht => absurd ht List.not_mem_nil)
      | exact formed_mk rfl (fun t ht => by rw [List.mem_singleton] at ht; rw [ht]; exact hn _ _ _)
      | exact formed_mk rfl (fun t ht => by rw [List.mem_singleton] at ht; rw [ht]; exact ih _ _)
      | exact formed_mk (by rw [opnd_two h10.1 (by omega)]; rfl) (fun t ht => by
          rcases List.mem_cons.1 ht with e | ht
          · rw [e]; exact ih _ _
          · rw [List.mem_singleton] at ht; rw [ht]; exact ih _ _)
      | exact formed_mk (by rw [opnd_two h6.1 (by omega)]; rfl) (fun t ht => by
          rcases List.mem_cons.1 ht with e | ht
          · rw [e]; exact hn _ _ _
          · rw [List.mem_singleton] at ht; rw [ht]; exact hn _ _ _)
theorem numsF_formed (d : MkD) (prm : Int) (l : List Int) : ∀ (k : Nat), ∀ t ∈ (numsF d prm k l).1, t.formed = true
  | 0, t, h => by simp [numsF] at h
  | k + 1, t, h => by
    rcases List.mem_append.1 h with h | h
    · exact numsF_formed d prm l k t h
    · rw [List.mem_singleton] at h; rw [h]; exact numF_formed d prm _ _ _
end Go.Proofs.Ytekhoanjpnjaeaa

/- rootcauseref05.arity (106). -/
namespace Go.Proofs.Ytekhoanjpnjaeaa
open Go.RowKit
theorem Try.info3s : (Try.prog.info? 3).map (fun i => (i.zero, i.size, i.bytes)) = some (some (.int .i64 0), 1, 8) := by kernel_rfl
/-- A slice of handlers' plans: each has a byte as its first cell. -/
structure HRow (w : World) (a : Option Addr) (n : Nat) (x : Nat → Int) : Prop where
  at' : 0 < n → ∃ b off, a = some ⟨b, off, none⟩ ∧ b < w.heap.size ∧ ∀ i, i < n → w.cell? ⟨b, off + i * 2, none⟩ = some (.int .u8 (x i)) ∧ 0 ≤ x i ∧ x i ≤ 255
def arL (n2 n3 : Nat) (x2 x3 : Nat → Int) : Nat → List Int
  | 0 => []
  | j + 1 => arL n2 n3 x2 x3 j ++ (if j < n2 then [x2 j % 3] else if j = 0 then [1] else if j < n3 then [x3 j % 3] else [])
def iV (l : List Int) : List Value := l.map (.int .i64)
theorem arL_le (n2 n3 : Nat) (x2 x3 : Nat → Int) : ∀ j, (arL n2 n3 x2 x3 j).length ≤ j
  | 0 => Nat.le_refl _
  | j + 1 => by
    have := arL_le n2 n3 x2 x3 j
    unfold arL
    rw [List.length_append]
    repeat' split
    all_goals simp; omega
set_option maxRecDepth 100000 in
set_option maxHeartbeats 2000000 in
theorem arityM_any (p q : Int) (a2 a3 : Option Addr) (n2 n3 c2 c3 : Nat) (x2 x3 : Nat → Int) (w : World) (h2 : HRow w a2 n2 x2) (h3 : HRow w a3 n3 x3) :
    Calls Try.prog 106 #[.agg #[.int .u8 p, .int .u8 q, .slice a2 n2 c2, .slice a3 n3 c3]] w fun e w' => (∃ v, e = .returned v ∧ w'.ownsRow (w.heap.size + 1) 3 1 v (arL n2 n3 x2 x3 3).length (iV (arL n2 n3 x2 x3 3))) ∧ More w w' := by
  have H2 := Lib.hid h2; clear h2
  have H3 := Lib.hid h3; clear h3
  obtain ⟨i0, hi0, hz0, hz1, hz2⟩ := info_parts Try.info3s
  have HB := Lib.hid (alloc_last w (.cells #[.int .u8 p, .int .u8 q, .slice a2 n2 c2, .slice a3 n3 c3] 191))
  have HA := Lib.hid (more_allocD w (.cells #[.int .u8 p, .int .u8 q, .slice a2 n2 c2, .slice a3 n3 c3] 191))
  have HS := Lib.hid (show (w.alloc (.cells #[.int .u8 p, .int .u8 q, .slice a2 n2 c2, .slice a3 n3 c3] 191)).heap.size = w.heap.size + 1 from World.size_alloc _ _)
  obtain ⟨XB, HXB⟩ : ∃ B, Hid (B = w.heap.size) := ⟨_, Lib.hid rfl⟩
  rw [← HXB.out] at HB HS ⊢
  go_enter Try.func106, Try.ntmps106
  go_wp2_with fail
  rw [← HXB.out]
  generalize w.alloc (.cells #[.int .u8 p, .int .u8 q, .slice a2 n2 c2, .slice a3 n3 c3] 191) = w1 at *
  go_loopw [3, 4] (fun v k wr => ∃ j : Nat, j ≤ 3 ∧ k = .int .i64 j ∧ Hid (wr.ownsRow (XB + 1) 3 1 v (arL n2 n3 x2 x3 j).length (iV (arL n2 n3 x2 x3 j))) ∧ Hid (More w1 wr)) (fun _ k _ => 3 - (intOf k).toNat)
  case atStart => exact ⟨0, Nat.zero_le _, rfl, Lib.hid (World.ownsRow_nil _ _ _ _), Lib.hid (more_of (Below.refl _ _))⟩
  case round =>
    obtain ⟨j, hj, rfl, HO, HM⟩ := hrel
    obtain ⟨wo, rfl⟩ : ∃ wo : World, wo = wr := ⟨_, rfl⟩
    obtain ⟨oa, oc, rfl, _⟩ := owns_shape HO.out
    by_cases hlt : j < 3
    · have HLT := Lib.hid hlt
      have hlti : (j : Int) < 3 := by omega
      have HBo := Lib.hid ((HM.out.block (blk_ltD HB.out)).trans HB.out)
      have e2 : wo.cell? ⟨XB, 2, none⟩ = some (.slice a2 n2 c2) := by simp [World.cell?, HBo.out]
      have e3 : wo.cell? ⟨XB, 3, none⟩ = some (.slice a3 n3 c3) := by simp [World.cell?, HBo.out]
      have hbx := cell_lt e2
      have HLE := Lib.hid (arL_le n2 n3 x2 x3 j)
      have HST := Lib.hid (show arL n2 n3 x2 x3 (j + 1) = arL n2 n3 x2 x3 j ++ (if j < n2 then [x2 j % 3] else if j = 0 then [1] else if j < n3 then [x3 j % 3] else []) from rfl)
      generalize hL : arL n2 n3 x2 x3 j = L at *
      clear hL
      obtain ⟨ln, HLN⟩ : ∃ n, Hid (L.length = n) := ⟨_, Lib.hid rfl⟩
      rw [HLN.out] at HO HLE ⊢
      have hm1 : ln + 1 ≤ maxLen := by have := HLE.out; unfold maxLen; omega
      have hm2 : (ln + 1) * 8 ≤ 140737488355328 := by have := HLE.out; omega
      have HNX := Lib.hid (fun (x : Int) (g2 cc2 : Nat) (w2 : World) (hs : arL n2 n3 x2 x3 (j + 1) = L ++ [x]) (hown : w2.ownsRow (XB + 1) 3 1 (.slice (some ⟨g2, 0, none⟩) (ln + 1) cc2) (ln + 1) (iV L ++ [.int .i64 x])) (hgrow : (wo.alloc (.cells #[.int .i64 x] 3)).grownBy w2 (Value.slice oa ln oc).ownBlock) =>
        show w2.ownsRow (XB + 1) 3 1 (.slice (some ⟨g2, 0, none⟩) (ln + 1) cc2) (arL n2 n3 x2 x3 (j + 1)).length (iV (arL n2 n3 x2 x3 (j + 1))) ∧ More w1 w2 by
          refine ⟨?_, more_of ((more_trans HM.out (more_allocD _ _)).below.grown hgrow (more_trans HM.out (more_allocD _ _)).size (fun z hz => by have := (HO.out.lt z hz).1; have h2 := HS.out; omega))⟩
          rw [hs, List.length_append, HLN.out]
          unfold iV at *
          rw [List.map_append]
          exact hown)
      have HOX := Lib.hid (fun (x : Int) => owns_keep (w' := wo.alloc (.cells #[.int .i64 x] 3)) HO.out (fun z hz => (more_allocD wo _).block (HO.out.lt z hz).2))
      have HBS := Lib.hid (fun (x : Int) => show XB + 1 ≤ (wo.alloc (.cells #[.int .i64 x] 3)).heap.size from by have h := HM.out.size; have h2 := HS.out; rw [World.size_alloc]; omega)
      by_cases hc : j < n2
      · have hci : (j : Int) < n2 := by omega
        obtain ⟨b, off, rfl, hb, hat⟩ := H2.out.at' (by omega)
        obtain ⟨hx, hx0, hx9⟩ := hat j hc
        have hx' : wo.cell? ⟨b, off + j * 2, none⟩ = some (.int .u8 (x2 j)) := HM.out.cell (HA.out.cell hx)
        have hbb := cell_lt hx'
        generalize hxx : x2 j = x at *
        have hrem : Int.tmod x 3 = x % 3 := Int.tmod_eq_emod_of_nonneg hx0
        have hw1 : IntKind.u8.wrap (x % 3) = x % 3 := by rw [IntKind.wrap_u8]; omega
        have hw2 : IntKind.i64.wrap (x % 3) = x % 3 := by rw [IntKind.wrap_i64]; omega
        have HSS := Lib.hid (show arL n2 n3 x2 x3 (j + 1) = L ++ [x % 3] by rw [HST.out, if_pos hc])
        clear hat hx hxx hb
        go_wp2_with (at_builtin; refine wpList_append_lies _ rfl _ _ _ rfl (XB + 1) 3 i0 _ 1 8 Try.underlying198 hi0 hz0 hz1 hz2 rfl (by omega) (.slice oa ln oc) ln (iV L) rfl (HOX.out _) ⟨wo.heap.size, 0, none⟩ 1 1 [.int .i64 (x % 3)] rfl rfl (World.news_of_block (cs := #[.int .i64 (x % 3)]) (t := 3) (fr := (0, 0)) (alloc_last _ _)) (by simp [Value.oneCell']) (by omega) hm1 hm2 (HBS.out _) _ rfl ?_; intro g2 cc2 w2 hown hgrow hat hlt2; have HN := Lib.hid (HNX.out _ g2 cc2 w2 HSS.out hown hgrow); clear hown hgrow hat hlt2)
        go_roundw
        case rel => exact ⟨j + 1, by have := HLT.out; omega, by go_num, Lib.hid HN.out.1, Lib.hid HN.out.2⟩
        case measure => have := HLT.out; simp [intOf]; omega
      · have hc2 : n2 ≤ j := by omega
        have hci : (n2 : Int) ≤ j := by omega
        clear hc
        by_cases hz : j = 0
        · subst hz
          have HSS := Lib.hid (show arL n2 n3 x2 x3 (0 + 1) = L ++ [1] by rw [HST.out, if_neg (by omega), if_pos rfl])
          go_wp2_with (at_builtin; refine wpList_append_lies _ rfl _ _ _ rfl (XB + 1) 3 i0 _ 1 8 Try.underlying198 hi0 hz0 hz1 hz2 rfl (by omega) (.slice oa ln oc) ln (iV L) rfl (HOX.out _) ⟨wo.heap.size, 0, none⟩ 1 1 [.int .i64 (1)] rfl rfl (World.news_of_block (cs := #[.int .i64 (1)]) (t := 3) (fr := (0, 0)) (alloc_last _ _)) (by simp [Value.oneCell']) (by omega) hm1 hm2 (HBS.out _) _ rfl ?_; intro g2 cc2 w2 hown hgrow hat hlt2; have HN := Lib.hid (HNX.out _ g2 cc2 w2 HSS.out hown hgrow); clear hown hgrow hat hlt2)
          go_roundw
          case rel => exact ⟨0 + 1, by have := HLT.out; omega, by go_num, Lib.hid HN.out.1, Lib.hid HN.out.2⟩
          case measure => simp [intOf]
        · have hzi : ((j : Int) == 0) = false := beq_eq_false_iff_ne.2 (by omega)
          by_cases hc3 : j < n3
          · have hc3i : (j : Int) < n3 := by omega
            obtain ⟨b, off, rfl, hb, hat⟩ := H3.out.at' (by omega)
            obtain ⟨hx, hx0, hx9⟩ := hat j hc3
            have hx' : wo.cell? ⟨b, off + j * 2, none⟩ = some (.int .u8 (x3 j)) := HM.out.cell (HA.out.cell hx)
            have hbb := cell_lt hx'
            generalize hxx : x3 j = x at *
            have hrem : Int.tmod x 3 = x % 3 := Int.tmod_eq_emod_of_nonneg hx0
            have hw1 : IntKind.u8.wrap (x % 3) = x % 3 := by rw [IntKind.wrap_u8]; omega
            have hw2 : IntKind.i64.wrap (x % 3) = x % 3 := by rw [IntKind.wrap_i64]; omega
            have HSS := Lib.hid (show arL n2 n3 x2 x3 (j + 1) = L ++ [x % 3] by rw [HST.out, if_neg (by omega), if_neg hz, if_pos hc3])
            clear hat hx hxx hb
            go_wp2_with (at_builtin; refine wpList_append_lies _ rfl _ _ _ rfl (XB + 1) 3 i0 _ 1 8 Try.underlying198 hi0 hz0 hz1 hz2 rfl (by omega) (.slice oa ln oc) ln (iV L) rfl (HOX.out _) ⟨wo.heap.size, 0, none⟩ 1 1 [.int .i64 (x % 3)] rfl rfl (World.news_of_block (cs := #[.int .i64 (x % 3)]) (t := 3) (fr := (0, 0)) (alloc_last _ _)) (by simp [Value.oneCell']) (by omega) hm1 hm2 (HBS.out _) _ rfl ?_; intro g2 cc2 w2 hown hgrow hat hlt2; have HN := Lib.hid (HNX.out _ g2 cc2 w2 HSS.out hown hgrow); clear hown hgrow hat hlt2)
            go_roundw
            case rel => exact ⟨j + 1, by have := HLT.out; omega, by go_num, Lib.hid HN.out.1, Lib.hid HN.out.2⟩
            case measure => have := HLT.out; simp [intOf]; omega
          · have hc3i : (n3 : Int) ≤ j := by omega
            have HSS := Lib.hid (show arL n2 n3 x2 x3 (j + 1) = L by rw [HST.out, if_neg (by omega), if_neg hz, if_neg hc3, List.append_nil])
            go_wp2_with fail
            go_roundw
            case rel => exact ⟨j + 1, by have := HLT.out; omega, by go_num, Lib.hid (by rw [HSS.out, HLN.out]; exact HO.out), HM⟩
            case measure => have := HLT.out; simp [intOf]; omega
    · obtain rfl : j = 3 := by omega
      go_wp2_with fail
      go_ret
      exact ⟨⟨_, rfl, HO.out⟩, more_trans HA.out HM.out⟩
end Go.Proofs.Ytekhoanjpnjaeaa

/- What a maker's arities are, and its cells that change. No program in sight. -/
namespace Go.Proofs.Ytekhoanjpnjaeaa
open Go.RowKit
/-- A row of one to three numbers of parameters, each at most 2, in a block before MB. -/
def ArRow (W : World) (MB : Nat) (v : Value) : Prop :=
  ∃ b off m c, v = .slice (some ⟨b, off, none⟩) m c ∧ 1 ≤ m ∧ m ≤ 3 ∧ b < MB ∧ ∀ i, i < m → ∃ x, W.cell? ⟨b, off + i, none⟩ = some (.int .i64 x) ∧ 0 ≤ x ∧ x ≤ 2
/-- The maker's rows of arities, one for each of its components; its own component is among them. -/
def ArOk (W : World) (MB : Nat) (d : MkD) : Prop :=
  ∃ b off n c, d.ar = .slice (some ⟨b, off, none⟩) n c ∧ n ≤ 3 ∧ 0 ≤ d.own ∧ d.own < n ∧ b < MB ∧ ∀ i, i < n → ∃ v, W.cell? ⟨b, off + i, none⟩ = some v ∧ ArRow W MB v
theorem ArRow.keep {W W' : World} {MB : Nat} {v : Value} (h : ArRow W MB v) (hb : ∀ x, x < MB → W'.heap[x]? = W.heap[x]?) : ArRow W' MB v := by
  obtain ⟨b, off, m, c, hv, h1, h2, h3, h4⟩ := h
  refine ⟨b, off, m, c, hv, h1, h2, h3, fun i hi => ?_⟩
  obtain ⟨x, hx, hr⟩ := h4 i hi
  exact ⟨x, by rw [World.cell?_of_block (w := W) (a := ⟨b, off + i, none⟩) (hb b h3)]; exact hx, hr⟩
theorem ArOk.keep {W W' : World} {MB : Nat} {d : MkD} (h : ArOk W MB d) (hb : ∀ x, x < MB → W'.heap[x]? = W.heap[x]?) : ArOk W' MB d := by
  obtain ⟨b, off, n, c, hv, h1, h2, h3, h4, h5⟩ := h
  refine ⟨b, off, n, c, hv, h1, h2, h3, h4, fun i hi => ?_⟩
  obtain ⟨v, hc, hr⟩ := h5 i hi
  exact ⟨v, by rw [World.cell?_of_block (w := W) (a := ⟨b, off + i, none⟩) (hb b h4)]; exact hc, hr.keep hb⟩
theorem ArOk.grown {W W' : World} {MB : Nat} {d : MkD} (h : ArOk W MB d) (hM : MB ≤ W.heap.size) (hg : W.grownBy W' (some MB)) : ArOk W' MB d :=
  h.keep (fun x hx => hg.block x (Nat.lt_of_lt_of_le hx hM) (fun e => by injection e with e; omega))
/-- Cell 7 (left) of a maker written. -/
theorem MkAt.setLeft {w : World} {MB : Nat} {d : MkD} {prm left : Int} {l : List Int} (h : MkAt w MB d prm left l) (z : Int) :
    MkAt (w.setCell ⟨MB, 7, none⟩ (.int .i64 z)) MB d prm z l ∧ w.grownBy (w.setCell ⟨MB, 7, none⟩ (.int .i64 z)) (some MB) := by
  obtain ⟨a, c, hb, hr⟩ := h.ex
  have hk : ∀ b, b ≠ MB → (w.setCell ⟨MB, 7, none⟩ (.int .i64 z)).heap[b]? = w.heap[b]? := fun b hb => Below.heap_setCell _ _ _ _ hb
  have h2 := setCell_heapD (o := 7) (v := .int .i64 z) hb
  refine ⟨⟨⟨a, c, h2, hr.mono (fun _ k => k) (fun b off u hb hc => by rw [World.cell?_of_block (a := ⟨b, off, none⟩) (hk b (Nat.ne_of_lt hb))]; exact hc)⟩, h.by', h.len⟩, ⟨rfl, rfl, rfl, by simp [World.setCell], fun k _ hk' => hk k (fun e => hk' (by rw [e]))⟩⟩
/-- Cell 5 (params) of a maker written. -/
theorem MkAt.setPrm {w : World} {MB : Nat} {d : MkD} {prm left : Int} {l : List Int} (h : MkAt w MB d prm left l) (z : Int) :
    MkAt (w.setCell ⟨MB, 5, none⟩ (.int .i64 z)) MB d z left l ∧ w.grownBy (w.setCell ⟨MB, 5, none⟩ (.int .i64 z)) (some MB) := by
  obtain ⟨a, c, hb, hr⟩ := h.ex
  have hk : ∀ b, b ≠ MB → (w.setCell ⟨MB, 5, none⟩ (.int .i64 z)).heap[b]? = w.heap[b]? := fun b hb => Below.heap_setCell _ _ _ _ hb
  have h2 := setCell_heapD (o := 5) (v := .int .i64 z) hb
  refine ⟨⟨⟨a, c, h2, hr.mono (fun _ k => k) (fun b off u hb hc => by rw [World.cell?_of_block (a := ⟨b, off, none⟩) (hk b (Nat.ne_of_lt hb))]; exact hc)⟩, h.by', h.len⟩, ⟨rfl, rfl, rfl, by simp [World.setCell], fun k _ hk' => hk k (fun e => hk' (by rw [e]))⟩⟩
/-- A statement's cells: its expressions are formed trees in blocks of S; its two nested bodies are slices of any content. -/
def StmtC (S : Nat → Prop) (W : World) (cs : List Value) : Prop :=
  ∃ op a b c t e ts, cs = [.int .i64 op, .string a, .string b, c, t, e] ∧ RepS .i64 S W 7 ts c ∧ (∀ x ∈ ts, x.formed = true) ∧ (∀ x ∈ ts, Flds .i64 x) ∧ (∃ p n m, t = .slice p n m) ∧ (∃ p n m, e = .slice p n m) ∧ ts.length ≤ 3
theorem StmtC.keep {S S' : Nat → Prop} {W W' : World} {cs : List Value} (h : StmtC S W cs) (hw : ∀ b off u, S b → W.cell? ⟨b, off, none⟩ = some u → S' b ∧ W'.cell? ⟨b, off, none⟩ = some u) : StmtC S' W' cs := by
  obtain ⟨op, a, b, c, t, e, ts, hv, hr, k⟩ := h
  exact ⟨op, a, b, c, t, e, ts, hv, hr.mono2 hw (Nat.le_refl _), k⟩
/-- A body being laid: a row of the call's own from block B on; the operands of its statements lie in other blocks. -/
def BRow (B : Nat) (w : World) (sv : Value) (n : Nat) : Prop :=
  ∃ ss : List (List Value), ss.length = n ∧ w.ownsRow B 128 6 sv n ss.flatten ∧ ∀ s ∈ ss, StmtC (fun x => B ≤ x ∧ sv.ownBlock ≠ some x) w s
theorem BRow.nil (B : Nat) (w : World) : BRow B w (.slice none 0 0) 0 := ⟨[], rfl, ⟨rfl, Or.inl ⟨rfl, rfl⟩⟩, fun _ h => absurd h List.not_mem_nil⟩
theorem BRow.shape {B : Nat} {w : World} {sv : Value} {n : Nat} (h : BRow B w sv n) : ∃ a cap, sv = .slice a n cap ∧ (∀ x, sv.ownBlock = some x → B ≤ x ∧ x < w.heap.size) := by
  obtain ⟨_, _, ho, _⟩ := h
  exact owns_shape ho
theorem BRow.keep {B : Nat} {w w' : World} {sv : Value} {n : Nat} (h : BRow B w sv n) (hb : ∀ x, B ≤ x → x < w.heap.size → w'.heap[x]? = w.heap[x]?) : BRow B w' sv n := by
  obtain ⟨ss, hl, ho, hc⟩ := h
  obtain ⟨a, cap, _, hx⟩ := owns_shape ho
  refine ⟨ss, hl, owns_keep ho (fun x hx' => hb x (hx x hx').1 (hx x hx').2), fun s hs => (hc s hs).keep (fun b o u h1 h2 => ⟨h1, ?_⟩)⟩
  rw [World.cell?_of_block (w := w) (hb b h1.1 (cell_lt h2))]; exact h2
/-- What the append's law asks, and what to do with what it leaves. -/
theorem BRow.open {B : Nat} {w : World} {sv : Value} {n : Nat} (h : BRow B w sv n) :
    ∃ xs, w.ownsRow B 128 6 sv n xs ∧ ∀ (w1 : World) (g cap H : Nat) (cs : List Value),
      w1.ownsRow B 128 6 (.slice (some ⟨g, 0, none⟩) (n + 1) cap) (n + 1) (xs ++ cs) → w.grownBy w1 sv.ownBlock → (sv.ownBlock = some g ∨ g = H) → w.heap.size ≤ H →
      StmtC (fun x => B ≤ x ∧ sv.ownBlock ≠ some x) w cs → BRow B w1 (.slice (some ⟨g, 0, none⟩) (n + 1) cap) (n + 1) := by
  obtain ⟨ss, hl, ho, hc⟩ := h
  refine ⟨ss.flatten, ho, fun w1 g cap H cs ho1 hg hat hH hs => ?_⟩
  have hmono : ∀ {s : List Value}, StmtC (fun x => B ≤ x ∧ sv.ownBlock ≠ some x) w s → StmtC (fun x => B ≤ x ∧ (Value.slice (some ⟨g, 0, none⟩) (n + 1) cap).ownBlock ≠ some x) w1 s := by
    intro s h
    refine h.keep (fun x o u hx hu => ?_)
    have hne : (Value.slice (some ⟨g, 0, none⟩) (n + 1) cap).ownBlock ≠ some x := by
      intro e
      have e' : g = x := by simpa [Value.ownBlock] using e
      rcases hat with hat | hat
      · exact hx.2 (by rw [hat, e'])
      · have := cell_lt hu; omega
    refine ⟨⟨hx.1, hne⟩, ?_⟩
    rw [World.cell?_of_block (w := w) (a := ⟨x, o, none⟩) (hg.block x (cell_lt hu) (fun e => hx.2 e.symm))]; exact hu
  refine ⟨ss ++ [cs], by simp [hl], ?_, fun s h => ?_⟩
  · rw [List.flatten_append, List.flatten_singleton]; exact ho1
  · rcases List.mem_append.1 h with h | h
    · exact hmono (hc s h)
    · rw [List.mem_singleton] at h; rw [h]; exact hmono hs
/-- (*maker).stmt and (*maker).body, f levels from the deepest that nests. -/
def StmtSaid (f : Nat) : Prop := ∀ (MB : Nat) (d : MkD) (prm left k dp : Int) (l : List Int) (w : World), MkAt w MB d prm left l → d.Ok prm → 0 ≤ d.flags ∧ d.flags ≤ 2 → ArOk w MB d → 0 ≤ k → k < 13 → 0 ≤ left → left ≤ 12 → dp + f = 3 → 0 ≤ dp →
  Calls Try.prog 141 #[.pointer (some ⟨MB, 0, none⟩), .int .i64 k, .int .i64 dp] w fun e w' => ∃ cs left' l', e = .returned (.agg cs.toArray) ∧ StmtC (fun b => w.heap.size ≤ b) w' cs ∧ MkAt w' MB d prm left' l' ∧ 0 ≤ left' ∧ left' ≤ left ∧ w.grownBy w' (some MB)
def BodySaid (f : Nat) : Prop := ∀ (MB : Nat) (d : MkD) (prm left dp : Int) (l : List Int) (w : World), MkAt w MB d prm left l → d.Ok prm → 0 ≤ d.flags ∧ d.flags ≤ 2 → ArOk w MB d → 0 ≤ left → left ≤ 12 → dp + f = 3 → 0 ≤ dp →
  Calls Try.prog 133 #[.pointer (some ⟨MB, 0, none⟩), .int .i64 dp] w fun e w' => ∃ sv n left' l', e = .returned sv ∧ n ≤ 12 ∧ BRow w.heap.size w' sv n ∧ MkAt w' MB d prm left' l' ∧ 0 ≤ left' ∧ left' ≤ left ∧ w.grownBy w' (some MB)
end Go.Proofs.Ytekhoanjpnjaeaa

/- (*maker).body (133) from stmt. -/
namespace Go.Proofs.Ytekhoanjpnjaeaa
open Go.RowKit
theorem Try.info128s : (Try.prog.info? 128).map (fun i => (i.zero, i.size, i.bytes)) = some (some (.agg #[.int .i64 0, .string ⟨#[]⟩, .string ⟨#[]⟩, .slice none 0 0, .slice none 0 0, .slice none 0 0]), 6, 112) := by kernel_rfl
def leftOf (w : World) (MB : Nat) : Nat := match w.cell? ⟨MB, 7, none⟩ with | some (.int _ z) => z.toNat | _ => 0
theorem MkAt.c6 {W : World} {MB : Nat} {d : MkD} {prm left : Int} {l : List Int} (h : MkAt W MB d prm left l) : ∃ a cap, W.cell? ⟨MB, 6, none⟩ = some (.slice a l.length cap) := by
  obtain ⟨a, cap, h1, _⟩ := h.ex
  exact ⟨a, cap, by simp [World.cell?, h1, mkC]⟩
theorem MkAt.c7 {W : World} {MB : Nat} {d : MkD} {prm left : Int} {l : List Int} (h : MkAt W MB d prm left l) : W.cell? ⟨MB, 7, none⟩ = some (.int .i64 left) ∧ W.frozen? ⟨MB, 7, none⟩ = false := by
  obtain ⟨a, cap, h1, _⟩ := h.ex
  exact ⟨by simp [World.cell?, h1, mkC], thaw h1 7⟩
theorem MkAt.leftOf {W : World} {MB : Nat} {d : MkD} {prm left : Int} {l : List Int} (h : MkAt W MB d prm left l) : leftOf W MB = left.toNat := by
  unfold Go.Proofs.Ytekhoanjpnjaeaa.leftOf; rw [h.c7.1]
set_option maxRecDepth 100000 in
set_option maxHeartbeats 2000000 in
theorem body_of (f : Nat) (ih : StmtSaid f) : BodySaid f := by
  intro MB d prm left dp l w h hd hfl har hl0 hl9 hdp h0
  have IH := Lib.hid ih; clear ih
  have HM := Lib.hid h; clear h
  have HD := Lib.hid hd; clear hd
  have HFG := Lib.hid hfl; clear hfl
  have HAR := Lib.hid har; clear har
  have HDP := Lib.hid hdp; clear hdp
  have HLT := Lib.hid HM.out.lt
  obtain ⟨i0, hi0, hz0, hz1, hz2⟩ := info_parts Try.info128s
  go_enter Try.func133, Try.ntmps133
  go_wp2_with fail
  go_loopw [5] (fun sv wr => ∃ (n : Nat) (lf : Int) (m : List Int), Hid (n + lf ≤ left ∧ 0 ≤ lf) ∧ Hid (BRow w.heap.size wr sv n) ∧ Hid (MkAt wr MB d prm lf m) ∧ Hid (w.grownBy wr (some MB))) (fun _ wr => leftOf wr MB)
  case atStart => exact ⟨0, left, l, Lib.hid ⟨by simp, hl0⟩, Lib.hid (BRow.nil _ _), HM, Lib.hid ⟨rfl, rfl, rfl, Nat.le_refl _, fun _ _ _ => rfl⟩⟩
  case round =>
    obtain ⟨n, lf, m, HN, HB, HMK, HG⟩ := hrel
    obtain ⟨wo, rfl⟩ : ∃ wo : World, wo = wr := ⟨_, rfl⟩
    obtain ⟨av, capv, rfl, hown⟩ := HB.out.shape
    have HOWN := Lib.hid hown; clear hown
    obtain ⟨ba, bc, e6⟩ := HMK.out.c6
    obtain ⟨e7, f7⟩ := HMK.out.c7
    have hbm := cell_lt e7
    have hlf0 := HN.out.2
    by_cases hc : 0 < m.length ∧ 0 < lf
    · obtain ⟨hm, hlf⟩ := hc
      have hmi : (0 : Int) < (m.length : Int) := by omega
      have HC := Lib.hid (next_any MB d prm lf 14 m wo HMK.out (by omega) (by omega))
      have HR := Lib.hid (nextB_rng m (n := 14) (by omega))
      obtain ⟨k, l1, hkl⟩ : ∃ k r, nextB m 14 = (k, r) := ⟨_, _, rfl⟩
      rw [hkl] at HC HR
      dsimp only at HC HR
      clear hkl
      go_wp2_with fail
      refine HC.out.mono ?_
      rintro e w1 ⟨rfl, hm1, hg1⟩
      have HM1 := Lib.hid hm1; clear hm1
      have HG1 := Lib.hid (grow_trans HG.out hg1)
      have HB1 := Lib.hid (HB.out.keep (fun z hz1 hz2 => hg1.block z hz2 (fun e => by have := HLT.out; injection e with e; omega)))
      have hs1 := hg1.size
      clear hg1
      have hk0 := HR.out.1
      have hk9 := HR.out.2
      by_cases hk : k = 13
      · subst hk
        go_wp2_with fail
        go_ret
        exact ⟨_, n, lf, l1, rfl, by have := HN.out; omega, HB1.out, HM1.out, HN.out.2, by have := HN.out; omega, HG1.out⟩
      · have hkb : (k == 13) = false := beq_eq_false_iff_ne.2 hk
        obtain ⟨g7, f9⟩ := HM1.out.c7
        have hbm1 := cell_lt g7
        have hw : IntKind.i64.wrap (lf - 1) = lf - 1 := by have := HN.out; rw [IntKind.wrap_i64]; omega
        have HSL := Lib.hid (HM1.out.setLeft (lf - 1))
        have HG2 := Lib.hid (grow_trans HG1.out HSL.out.2)
        have HM2 := Lib.hid HSL.out.1
        have HB2 := Lib.hid (HB1.out.keep (fun z hz1 hz2 => HSL.out.2.block z hz2 (fun e => by have := HLT.out; injection e with e; omega)))
        have hs2 := HSL.out.2.size
        have HCS := Lib.hid (IH.out MB d prm (lf - 1) k dp l1 _ HM2.out HD.out HFG.out (HAR.out.grown (Nat.le_of_lt HLT.out) HG2.out) hk0 (by omega) (by omega) (by have := HN.out; omega) HDP.out h0)
        go_upto_region 7 with fail
        generalize w1.setCell ⟨MB, 7, none⟩ (.int .i64 (lf - 1)) = w2 at *
        clear g7 f9 hbm1 hw hbm e6 e7 f7
        go_wp2_with fail
        refine HCS.out.mono ?_
        rintro e w3 ⟨cs, lf3, l3, rfl, hst, hm3, hlf3, hlf4, hg3⟩
        obtain ⟨op, sa, sb, sc, st, se, ts, rfl, hr, hfo, hfl2, ⟨tp, tn, tm, rfl⟩, ⟨ep, en, em, rfl⟩, htl⟩ := hst
        have HTL := Lib.hid htl; clear htl
        obtain ⟨cp, cc, rfl⟩ := hr.shape
        have HRC := Lib.hid hr; clear hr
        have HFO := Lib.hid (And.intro hfo hfl2); clear hfo hfl2
        have HM3 := Lib.hid hm3; clear hm3
        have hs3 := hg3.size
        have hs0 := HG.out.size
        have HA3 := Lib.hid (more_allocD w3 (.cells #[.int .i64 op, .string sa, .string sb, .slice cp ts.length cc, .slice tp tn tm, .slice ep en em] 128))
        have HAL := Lib.hid (alloc_last w3 (.cells #[.int .i64 op, .string sa, .string sb, .slice cp ts.length cc, .slice tp tn tm, .slice ep en em] 128))
        have HGA := Lib.hid (grow_trans hg3 (grow_more HA3.out)); clear hg3
        obtain ⟨xs, hox, hpush⟩ := (HB2.out.keep (w' := w3.alloc (.cells #[.int .i64 op, .string sa, .string sb, .slice cp ts.length cc, .slice tp tn tm, .slice ep en em] 128)) (fun z hz1 hz2 => HGA.out.block z hz2 (fun e => by have := HLT.out; injection e with e; omega))).open
        have HOX := Lib.hid hox
        have HPU := Lib.hid hpush
        clear hox hpush
        have hm1 : n + 1 ≤ maxLen := by have := HN.out; unfold maxLen; omega
        have hm2 : (n + 1) * 112 ≤ 140737488355328 := by have := HN.out; omega
        have hbs : w.heap.size ≤ (w3.alloc (.cells #[.int .i64 op, .string sa, .string sb, .slice cp ts.length cc, .slice tp tn tm, .slice ep en em] 128)).heap.size := by rw [World.size_alloc]; omega
        have HNS := Lib.hid (fun (w4 : World) (gg cap2 : Nat) (h1 : w4.ownsRow w.heap.size 128 6 (.slice (some ⟨gg, 0, none⟩) (n + 1) cap2) (n + 1) (xs ++ [.int .i64 op, .string sa, .string sb, .slice cp ts.length cc, .slice tp tn tm, .slice ep en em]))
            (h2 : (w3.alloc (.cells #[.int .i64 op, .string sa, .string sb, .slice cp ts.length cc, .slice tp tn tm, .slice ep en em] 128)).grownBy w4 (Value.slice av n capv).ownBlock) (h3 : (Value.slice av n capv).ownBlock = some gg ∨ gg = (w3.alloc (.cells #[.int .i64 op, .string sa, .string sb, .slice cp ts.length cc, .slice tp tn tm, .slice ep en em] 128)).heap.size) =>
          show BRow w.heap.size w4 (.slice (some ⟨gg, 0, none⟩) (n + 1) cap2) (n + 1) ∧ MkAt w4 MB d prm lf3 l3 ∧ w.grownBy w4 (some MB) by
            have hOW : ∀ x, (Value.slice av n capv).ownBlock = some x → w.heap.size ≤ x ∧ x < wo.heap.size := HOWN.out
            have hlt3 := HM3.out.lt
            refine ⟨HPU.out w4 gg cap2 _ _ h1 h2 h3 (Nat.le_refl _) ⟨op, sa, sb, _, _, _, ts, rfl, HRC.out.mono2 (fun z o v hz hv => ⟨⟨by have h9 : w2.heap.size ≤ z := hz; omega, fun e => by have h9 : w2.heap.size ≤ z := hz; have := (hOW _ e).2; omega⟩, alloc_cell _ hv⟩) (Nat.le_refl _), HFO.out.1, HFO.out.2, ⟨_, _, _, rfl⟩, ⟨_, _, _, rfl⟩, HTL.out⟩,
              (HM3.out.more HA3.out).keep (fun x hx => h2.block x (by rw [World.size_alloc]; omega) (fun e => by have := (hOW x e.symm).1; have := HLT.out; omega)), grow_own (grow_trans HG2.out HGA.out) h2 (fun x e => (hOW x e).1)⟩)
        go_wp2_with (at_builtin; refine wpList_append_lies _ rfl _ _ _ rfl w.heap.size 128 i0 _ 6 112 Try.underlying124 hi0 hz0 hz1 hz2 rfl (by omega) (.slice av n capv) n xs rfl HOX.out ⟨w3.heap.size, 0, none⟩ 1 1 [.int .i64 op, .string sa, .string sb, .slice cp ts.length cc, .slice tp tn tm, .slice ep en em] rfl rfl (World.news_of_block (cs := #[.int .i64 op, .string sa, .string sb, .slice cp ts.length cc, .slice tp tn tm, .slice ep en em]) (t := 128) (fr := (0, 0)) HAL.out) (by simp [Value.oneCell']) (by omega) hm1 hm2 hbs _ rfl ?_; intro gg cap2 w4 hown2 hgrow2 hat2 hlt2; have HNX := Lib.hid (HNS.out w4 gg cap2 hown2 hgrow2 hat2); clear hown2 hgrow2 hat2)
        go_roundw
        case rel => exact ⟨n + 1, lf3, l3, Lib.hid ⟨by have := HN.out; omega, hlf3⟩, Lib.hid HNX.out.1, Lib.hid HNX.out.2.1, Lib.hid HNX.out.2.2⟩
        case measure => rw [HNX.out.2.1.leftOf, HMK.out.leftOf]; omega
    · by_cases hm : m.length = 0
      · have hmi : decide ((0 : Int) < (m.length : Int)) = false := decide_eq_false (by omega)
        rw [hm] at e6
        go_wp2_with fail
        go_ret
        exact ⟨_, n, lf, m, rfl, by have := HN.out; omega, HB.out, HMK.out, HN.out.2, by have := HN.out; omega, HG.out⟩
      · have hmi : (0 : Int) < (m.length : Int) := by omega
        have hl1 : lf ≤ 0 := by omega
        go_wp2_with fail
        go_ret
        exact ⟨_, n, lf, m, rfl, by have := HN.out; omega, HB.out, HMK.out, HN.out.2, by have := HN.out; omega, HG.out⟩
end Go.Proofs.Ytekhoanjpnjaeaa

/- (*maker).stmt (141): arms. UNDER WAY. -/
namespace Go.Proofs.Ytekhoanjpnjaeaa
open Go.RowKit
theorem set6D {w : World} {B : Nat} {a b c d e f : Value} (h : w.heap[B]? = some (.cells #[a, b, c, d, e, f] 128)) (x y z u v t : Value) : ((((((w.setCell ⟨B, 0, none⟩ x).setCell ⟨B, 1, none⟩ y).setCell ⟨B, 2, none⟩ z).setCell ⟨B, 3, none⟩ u).setCell ⟨B, 4, none⟩ v).setCell ⟨B, 5, none⟩ t).heap[B]? = some (.cells #[x, y, z, u, v, t] 128) := by
  have h1 := setCell_heapD (o := 0) (v := x) h
  have h2 := setCell_heapD (o := 1) (v := y) h1
  have h3 := setCell_heapD (o := 2) (v := z) h2
  have h4 := setCell_heapD (o := 3) (v := u) h3
  have h5 := setCell_heapD (o := 4) (v := v) h4
  exact setCell_heapD (o := 5) (v := t) h5
theorem set6_sizeD (w : World) (B : Nat) (x y z u v t : Value) : ((((((w.setCell ⟨B, 0, none⟩ x).setCell ⟨B, 1, none⟩ y).setCell ⟨B, 2, none⟩ z).setCell ⟨B, 3, none⟩ u).setCell ⟨B, 4, none⟩ v).setCell ⟨B, 5, none⟩ t).heap.size = w.heap.size := by simp [World.setCell]
theorem set1_grown (w : World) (B o : Nat) (x : Value) : w.grownBy (w.setCell ⟨B, o, none⟩ x) (some B) :=
  ⟨rfl, rfl, rfl, by simp [World.setCell], fun k _ hk => Below.heap_setCell _ _ _ _ (fun e => hk (by rw [e]))⟩
theorem set6_grown (w : World) (B : Nat) (x y z u v t : Value) : w.grownBy ((((((w.setCell ⟨B, 0, none⟩ x).setCell ⟨B, 1, none⟩ y).setCell ⟨B, 2, none⟩ z).setCell ⟨B, 3, none⟩ u).setCell ⟨B, 4, none⟩ v).setCell ⟨B, 5, none⟩ t) (some B) :=
  grow_trans (grow_trans (grow_trans (grow_trans (grow_trans (set1_grown w B 0 x) (set1_grown _ B 1 y)) (set1_grown _ B 2 z)) (set1_grown _ B 3 u)) (set1_grown _ B 4 v)) (set1_grown _ B 5 t)
/-- What is left at the end of an arm: the result's block NB is the only old block that was written behind w3. -/
theorem fin_grown {w w3 W : World} {NB MB : Nat} {d : MkD} {prm left : Int} {l : List Int} (hn : NB = w.heap.size) (hM : MB < w.heap.size) (hg : w.grownBy w3 (some MB)) (hmk : MkAt w3 MB d prm left l) (hW : w3.grownBy W (some NB)) : MkAt W MB d prm left l ∧ w.grownBy W (some MB) := by
  have hs := hg.size
  refine ⟨hmk.keep (fun x hx => hW.block x (by omega) (fun e => by injection e with e; omega)), ⟨hW.os.trans hg.os, hW.tape.trans hg.tape, hW.output.trans hg.output, Nat.le_trans hs hW.size, fun j hj hnj => (hW.block j (by omega) (fun e => by injection e with e; omega)).trans (hg.block j hj hnj)⟩⟩
set_option maxRecDepth 100000 in
set_option maxHeartbeats 2000000 in
theorem stmt2_any (MB : Nat) (d : MkD) (prm left dp : Int) (l : List Int) (w : World) (h : MkAt w MB d prm left l) (hd : d.Ok prm) (hfl : 0 ≤ d.flags ∧ d.flags ≤ 2) :
    Calls Try.prog 141 #[.pointer (some ⟨MB, 0, none⟩), .int .i64 2, .int .i64 dp] w fun e w' => ∃ cs l', e = .returned (.agg cs.toArray) ∧ StmtC (fun b => w.heap.size ≤ b) w' cs ∧ MkAt w' MB d prm left l' ∧ w.grownBy w' (some MB) := by
  have HD := Lib.hid hd
  have HFG := Lib.hid hfl; clear hfl
  have HA := Lib.hid (more_allocD w (.cells #[.int .i64 0, .string ⟨#[]⟩, .string ⟨#[]⟩, .slice none 0 0, .slice none 0 0, .slice none 0 0] 128))
  have HN1 := Lib.hid (alloc_last w (.cells #[.int .i64 0, .string ⟨#[]⟩, .string ⟨#[]⟩, .slice none 0 0, .slice none 0 0, .slice none 0 0] 128))
  have HM1 := Lib.hid (h.more HA.out)
  have HLT := Lib.hid h.lt
  clear h hd
  obtain ⟨NB, HNB⟩ : ∃ B, Hid (B = w.heap.size) := ⟨_, Lib.hid rfl⟩
  rw [← HNB.out] at HN1
  go_enter Try.func141, Try.ntmps141
  go_wp2_with fail
  rw [← HNB.out]
  generalize w.alloc (.cells #[.int .i64 0, .string ⟨#[]⟩, .string ⟨#[]⟩, .slice none 0 0, .slice none 0 0, .slice none 0 0] 128) = w1 at *
  have HCR := Lib.hid (truthM_any 3 MB d prm left 0 l w1 HM1.out HD.out HFG.out (by omega) (by omega) (by omega))
  obtain ⟨t3, l3, hR⟩ : ∃ t r, truF d prm 3 0 l = (t, r) := ⟨_, _, rfl⟩
  have HFO := Lib.hid (show t3.formed = true by have := truF_formed d prm 3 0 l; rw [hR] at this; exact this)
  rw [hR] at HCR
  clear hR
  refine HCR.out.mono ?_
  rintro e w3 ⟨c3, rfl, hf, hr, hmk, hg⟩
  have HFl := Lib.hid hf
  have HRp := Lib.hid hr
  have HM3 := Lib.hid hmk
  have HG3 := Lib.hid (grow_trans (grow_more HA.out) hg)
  have HN3 := Lib.hid ((hg.block NB (blk_ltD HN1.out) (fun e => by have := HLT.out; have := HNB.out; injection e with e; omega)).trans HN1.out)
  obtain ⟨ca3, cc3, hsh⟩ := hr.shape
  dsimp only at hsh
  subst hsh
  clear hf hr hmk hg HCR
  unfold agg
  have n0 : w3.cell? ⟨NB, 0, none⟩ = some (.int .i64 0) := by simp [World.cell?, HN3.out]
  have n1 : w3.cell? ⟨NB, 1, none⟩ = some (.string ⟨#[]⟩) := by simp [World.cell?, HN3.out]
  have n2 : w3.cell? ⟨NB, 2, none⟩ = some (.string ⟨#[]⟩) := by simp [World.cell?, HN3.out]
  have n3 : w3.cell? ⟨NB, 3, none⟩ = some (.slice none 0 0) := by simp [World.cell?, HN3.out]
  have n4 : w3.cell? ⟨NB, 4, none⟩ = some (.slice none 0 0) := by simp [World.cell?, HN3.out]
  have n5 : w3.cell? ⟨NB, 5, none⟩ = some (.slice none 0 0) := by simp [World.cell?, HN3.out]
  have hbn := cell_lt n0
  have f0 := thaw HN3.out 0
  have f1 := thaw HN3.out 1
  have f2 := thaw HN3.out 2
  have f3 := thaw HN3.out 3
  have f4 := thaw HN3.out 4
  have f5 := thaw HN3.out 5
  go_wp2_with fail
  have HW := set6D HN3.out (.int .i64 1) (.string ⟨#[98, 48]⟩) (.string ⟨#[]⟩) (.slice (some ⟨w3.heap.size, 0, none⟩) 1 1) (.slice none 0 0) (.slice none 0 0)
  have hWg := set6_grown w3 NB (.int .i64 1) (.string ⟨#[98, 48]⟩) (.string ⟨#[]⟩) (.slice (some ⟨w3.heap.size, 0, none⟩) 1 1) (.slice none 0 0) (.slice none 0 0)
  have hWs := set6_sizeD w3 NB (.int .i64 1) (.string ⟨#[98, 48]⟩) (.string ⟨#[]⟩) (.slice (some ⟨w3.heap.size, 0, none⟩) 1 1) (.slice none 0 0) (.slice none 0 0)
  refine bodyPost_ret (v := .agg #[.int .i64 1, .string ⟨#[98, 48]⟩, .string ⟨#[]⟩, .slice (some ⟨w3.heap.size, 0, none⟩) 1 1, .slice none 0 0, .slice none 0 0]) (results_cell_row Try.results141 _ _ NB 128 _ (0, 0) _ rfl (((more_allocD _ _).block (blk_ltD HW)).trans HW) Try.underlying128 rfl (by kernel_rfl)) rfl ?_
  generalize (((((w3.setCell ⟨NB, 0, none⟩ (.int .i64 1)).setCell ⟨NB, 1, none⟩ (.string ⟨#[98, 48]⟩)).setCell ⟨NB, 2, none⟩ (.string ⟨#[]⟩)).setCell ⟨NB, 3, none⟩ (.slice (some ⟨w3.heap.size, 0, none⟩) 1 1)).setCell ⟨NB, 4, none⟩ (.slice none 0 0)).setCell ⟨NB, 5, none⟩ (.slice none 0 0) = W at *
  have hNew := alloc_last W (.cells #[.int .i64 t3.op, .string t3.name, .int .i64 t3.n, .slice ca3 t3.args.length cc3] 36)
  rw [hWs] at hNew
  have hM := more_allocD W (.cells #[.int .i64 t3.op, .string t3.name, .int .i64 t3.n, .slice ca3 t3.args.length cc3] 36)
  have hn1 := blk_ltD HN1.out
  have hs3 := HG3.out.size
  have hk := HRp.out.mono2 (S' := fun b => w.heap.size ≤ b) (w' := W.alloc (.cells #[.int .i64 t3.op, .string t3.name, .int .i64 t3.n, .slice ca3 t3.args.length cc3] 36)) (fun b off v hb hc => ⟨by have h9 : w1.heap.size ≤ b := hb; have := HNB.out; omega, hM.cell (by
    have h9 : w1.heap.size ≤ b := hb
    rw [World.cell?_of_block (w := w3) (a := ⟨b, off, none⟩) (hWg.block b (World.block_lt_of_cell? w3 ⟨b, off, none⟩ hc) (fun e => by injection e with e; omega))]; exact hc)⟩) (Nat.le_refl _)
  obtain ⟨k1, k2⟩ := fin_grown HNB.out HLT.out HG3.out HM3.out (grow_trans hWg (grow_more hM))
  exact ⟨[.int .i64 1, .string ⟨#[98, 48]⟩, .string ⟨#[]⟩, .slice (some ⟨w3.heap.size, 0, none⟩) 1 1, .slice none 0 0, .slice none 0 0], l3, rfl, ⟨1, _, _, _, _, _, [t3], rfl, rep1D hNew hs3 HFl.out hk, (fun x hx => by rw [List.mem_singleton] at hx; rw [hx]; exact HFO.out), (fun x hx => by rw [List.mem_singleton] at hx; rw [hx]; exact HFl.out), ⟨_, _, _, rfl⟩, ⟨_, _, _, rfl⟩, by simp⟩, k1, k2⟩
end Go.Proofs.Ytekhoanjpnjaeaa

