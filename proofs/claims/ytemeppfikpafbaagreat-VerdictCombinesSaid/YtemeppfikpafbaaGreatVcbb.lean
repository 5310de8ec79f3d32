/- Texts SamV, VExZ, AwkZ, OpnV, laid together. -/
import Derived.Deep.QuietTactic
import Derived.BigQuiet
import Derived.Deep.CutBlock
import Derived.Deep.RegionHeld3
import Derived.Deep.Slices
import Derived.ProofKit
import Derived.Test.YtemeppfikpafbaaGreatVcq
import Derived.Test.YtemeppfikpafbaaGreatVct
import Derived.Test.YtemeppfikpafbaaGreatVcw
import Derived.Test.YtemeppfikpafbaaGreatVcx
/- law49's same (15). -/
namespace Go.Proofs.YtemeppfikpafbaaGreat
open Go.RowKit
set_option maxRecDepth 100000 in
set_option maxHeartbeats 4000000 in
theorem same15_any (R : List Tld) (A : List CV) (L : List RTd) (tv av lv : Value) (w : World) (hr : Row anyB w 5 R.length tv (flatC tC R)) (ha : Row anyB w 2 A.length av (flatC qC A)) (hl : Row anyB w 4 L.length lv (flatC rC L))
    (hR : ∀ t ∈ R, TldAt w t) (hA : ∀ a ∈ A, CauAt w a.2.2 a.1 a.2.1) (hlen : R.length = L.length) (h36 : R.length ≤ 1000) (_h37 : A.length ≤ 1000) (hs : ∀ t ∈ R, 0 ≤ t.s ∧ t.s < 256)
    (hag : ∀ i (hi : i < R.length) (hj : i < L.length), ∃ hx : L[i].x < A.length, keyC R[i].c = keyC A[L[i].x].2.2 ∧ R[i].s = L[i].s ∧ R[i].i = L[i].i ∧ R[i].o = L[i].o) :
    Calls Tryz.prog 15 #[tv, av, lv] w fun e w' => e = .returned (.bool true) ∧ More w w' := by
  obtain ⟨ta, tc, rfl, _⟩ := hr.shape
  obtain ⟨aa, ac, rfl, _⟩ := ha.shape
  obtain ⟨la, lc, rfl, _⟩ := hl.shape
  have HRR := Lib.hid hr
  have HRA := Lib.hid ha
  have HRL := Lib.hid hl
  have HCR := Lib.hid hR
  have HCA := Lib.hid hA
  have HAG := Lib.hid hag
  have HSS := Lib.hid hs
  obtain ⟨n, HN⟩ : ∃ n, Hid (R.length = n ∧ L.length = n) := ⟨_, Lib.hid ⟨hlen, rfl⟩⟩
  clear hr ha hl hR hA hag hs
  rw [HN.out.2] at hlen HRL ⊢
  rw [hlen] at h36 HRR ⊢
  clear hlen
  go_enter Tryz.func15, Tryz.ntmps15
  go_wp2_with fail
  go_loopw [17] (fun i wr => ∃ j : Nat, j ≤ n ∧ i = .int .i64 j ∧ Hid (More w wr)) (fun i _ => n - (intOf i).toNat)
  case atStart => exact ⟨0, Nat.zero_le _, rfl, Lib.hid (World.grownBy.refl _ _)⟩
  case round =>
    obtain ⟨j, hj, rfl, HM⟩ := hrel
    by_cases hlt : j < n
    · have hjR : j < R.length := by have := HN.out; omega
      have hjL : j < L.length := by have := HN.out; omega
      obtain ⟨hx, hk, h1, h2, h3⟩ := HAG.out j hjR hjL
      have HK0 := Lib.hid hk
      obtain ⟨b, off, hab, _, hc⟩ := (show Row anyB w 5 R.length (.slice ta n tc) (flatC tC R) by rw [HN.out.1]; exact HRR.out).atC tC_len hjR
      subst hab
      have e0 := HM.out.cell (hc 0 _ rfl)
      have e1 := HM.out.cell (hc 1 _ rfl)
      have e2 := HM.out.cell (hc 2 _ rfl)
      have e3 := HM.out.cell (hc 3 _ rfl)
      have e4 := HM.out.cell (hc 4 _ rfl)
      rw [Nat.add_zero] at e0
      clear hc
      obtain ⟨b2, off2, hab, _, hc⟩ := (show Row anyB w 4 L.length (.slice la n lc) (flatC rC L) by rw [HN.out.2]; exact HRL.out).atC rC_len hjL
      subst hab
      have f0 := HM.out.cell (hc 0 _ rfl)
      have f1 := HM.out.cell (hc 1 _ rfl)
      have f2 := HM.out.cell (hc 2 _ rfl)
      have f3 := HM.out.cell (hc 3 _ rfl)
      rw [Nat.add_zero] at f0
      clear hc
      obtain ⟨b3, off3, hab, _, hc⟩ := HRA.out.atC qC_len hx
      subst hab
      have a0 := HM.out.cell (hc 0 _ rfl)
      have a1 := HM.out.cell (hc 1 _ rfl)
      rw [Nat.add_zero] at a0
      clear hc
      have HTA := Lib.hid (CauAt.more (HCR.out _ (List.getElem_mem hjR)) HM.out)
      have HQA := Lib.hid (CauAt.more (HCA.out _ (List.getElem_mem hx)) HM.out)
      have hs9 := HSS.out _ (List.getElem_mem hjR)
      generalize R[j] = t at *
      generalize L[j] = l at *
      obtain ⟨lx, lS, lI, lO⟩ := l
      dsimp only at *
      generalize A[lx] = q at *
      obtain ⟨qu, qh, qc⟩ := q
      obtain ⟨tcc, tua, tun, tuc, tha, thn, thc, ts, ti, tq⟩ := t
      dsimp only at *
      obtain ⟨qua, quc, rfl, _⟩ := HQA.out.ru.shape
      obtain ⟨qha, qhc, rfl, _⟩ := HQA.out.rh.shape
      subst h1 h2 h3
      have HEQ := Lib.hid (fun W (hW : More wr W) => equalCause_any tcc qc (.slice tua tun tuc) (.slice tha thn thc) _ _ W (CauAt.more HTA.out hW) (CauAt.more HQA.out hW))
      rw [show decide (cmpCau tcc qc = 0) = true from decide_eq_true ((cmpCau_zero tcc qc).2 HK0.out)] at HEQ
      generalize qc.undo.length = n1 at *
      generalize qc.hold.length = n2 at *
      have hbt := cell_lt e0
      have hbl := cell_lt f0
      obtain ⟨hs1, hs2⟩ := hs9
      have jz1 : (j : Int) < (n : Int) := by omega
      have jz2 : (lx : Int) < (A.length : Int) := by omega
      go_upto_region 7 with (fail)
      obtain ⟨k1, k2, hm⟩ := boxed2 wr (.cells #[.slice tua tun tuc, .slice tha thn thc, .int .u8 ts, .int .i64 ti, .int .i64 tq] 81) (.cells #[.int .i64 lx, .int .i64 ts, .int .i64 ti, .int .i64 tq] 77)
      have HMB := Lib.hid (more_trans HM.out hm.1)
      have a0' := hm.1.cell a0
      have a1' := hm.1.cell a1
      have HEQ2 := Lib.hid (fun W hW => HEQ.out W (more_trans hm.1 hW))
      generalize (wr.alloc (.cells #[.slice tua tun tuc, .slice tha thn thc, .int .u8 ts, .int .i64 ti, .int .i64 tq] 81)).alloc (.cells #[.int .i64 lx, .int .i64 ts, .int .i64 ti, .int .i64 tq] 77) = w2 at *
      obtain ⟨XB, HXE⟩ : ∃ XB, Hid (XB = wr.heap.size) := ⟨_, Lib.hid rfl⟩
      rw [← HXE.out] at k1 k2 ⊢
      have HK := Lib.hid (show ∀ W, More w2 W → (W.cell? ⟨XB, 0, none⟩ = some (.slice tua tun tuc) ∧ W.cell? ⟨XB, 1, none⟩ = some (.slice tha thn thc) ∧ W.cell? ⟨XB, 2, none⟩ = some (.int .u8 ts) ∧ W.cell? ⟨XB, 3, none⟩ = some (.int .i64 ti) ∧ W.cell? ⟨XB, 4, none⟩ = some (.int .i64 tq) ∧ W.cell? ⟨XB + 1, 0, none⟩ = some (.int .i64 lx) ∧ W.cell? ⟨XB + 1, 1, none⟩ = some (.int .i64 ts) ∧ W.cell? ⟨XB + 1, 2, none⟩ = some (.int .i64 ti) ∧ W.cell? ⟨XB + 1, 3, none⟩ = some (.int .i64 tq) ∧ W.cell? ⟨b3, off3 + lx * 2, none⟩ = some (.slice qua n1 quc) ∧ W.cell? ⟨b3, off3 + lx * 2 + 1, none⟩ = some (.slice qha n2 qhc))
        from fun W h => ⟨h.cell (cell_of_blk k1 rfl), h.cell (cell_of_blk k1 rfl), h.cell (cell_of_blk k1 rfl), h.cell (cell_of_blk k1 rfl), h.cell (cell_of_blk k1 rfl), h.cell (cell_of_blk k2 rfl), h.cell (cell_of_blk k2 rfl), h.cell (cell_of_blk k2 rfl), h.cell (cell_of_blk k2 rfl), h.cell a0', h.cell a1'⟩)
      clear e0 e1 e2 e3 e4 f0 f1 f2 f3 a0 a1 a0' a1' k1 k2 hm HEQ hbt hbl
      have hwts : IntKind.i64.wrap ts = ts := by rw [IntKind.wrap_i64]; omega
      have hbq : (ts != ts) = false := by simp
      have HL := Lib.hid (more_drew w2)
      go_region_held3 (fun W => W.cell? ⟨XB, 0, none⟩ = some (.slice tua tun tuc) ∧ W.cell? ⟨XB, 1, none⟩ = some (.slice tha thn thc) ∧ W.cell? ⟨XB, 2, none⟩ = some (.int .u8 ts) ∧ W.cell? ⟨XB, 3, none⟩ = some (.int .i64 ti) ∧ W.cell? ⟨XB, 4, none⟩ = some (.int .i64 tq) ∧ W.cell? ⟨XB + 1, 0, none⟩ = some (.int .i64 lx) ∧ W.cell? ⟨XB + 1, 1, none⟩ = some (.int .i64 ts) ∧ W.cell? ⟨XB + 1, 2, none⟩ = some (.int .i64 ti) ∧ W.cell? ⟨XB + 1, 3, none⟩ = some (.int .i64 tq) ∧ W.cell? ⟨b3, off3 + lx * 2, none⟩ = some (.slice qua n1 quc) ∧ W.cell? ⟨b3, off3 + lx * 2 + 1, none⟩ = some (.slice qha n2 qhc)) (first | with_reducible exact HK.out _ HL.out) (first | (go_at_call 10; refine (HEQ2.out _ HL.out).mono ?_; rintro e w9 ⟨rfl, hm9⟩; have HL := Lib.hid (more_trans HL.out hm9); clear hm9))
      all_goals
        go_wp2_with fail
        go_roundw
        case rel => exact ⟨j + 1, by omega, by go_num, Lib.hid (more_trans HMB.out HL.out)⟩
        case measure => simp [intOf]; omega
    · obtain rfl : j = n := by omega
      go_wp2_with fail
      go_ret
      exact ⟨rfl, HM.out⟩
end Go.Proofs.YtemeppfikpafbaaGreat

/- The example of law49's awake: plain. -/
namespace Go.Proofs.YtemeppfikpafbaaGreat
open Go.RowKit
def xC : Cau := ⟨[⟨4, 0, 0, 0⟩], []⟩
def yC : Cau := ⟨[⟨5, 0, 0, 0⟩], []⟩
theorem cmpCau_one (k m : K4) : cmpCau ⟨[k], []⟩ ⟨[m], []⟩ = sgnK k m := by
  have e1 : ∀ k : K4, srtSK [k] = [k] := fun k => by unfold srtSK; exact List.mergeSort_singleton _
  have e2 : srtSM [] = [] := by unfold srtSM; simp
  unfold cmpCau
  dsimp only
  rw [e1, e1, e2]
  have e3 : cmpL sgnK [k] [m] = sgnK k m := by
    unfold cmpL
    rw [if_pos (by simp)]
    unfold firstNZ
    split
    · rename_i h; rw [h]; rfl
    · rfl
  rw [e3]
  split
  · rename_i h; rw [h]; rfl
  · rfl
theorem sgnC_xx : sgnC xC xC = 0 := by unfold sgnC xC; rw [cmpCau_one]; decide
theorem sgnC_yy : sgnC yC yC = 0 := by unfold sgnC yC; rw [cmpCau_one]; decide
theorem sgnC_xy : sgnC xC yC = -1 := by unfold sgnC xC yC; rw [cmpCau_one]; decide
theorem sgnC_yx : sgnC yC xC = 1 := by unfold sgnC xC yC; rw [cmpCau_one, cmpCau_one]; decide
theorem eq_xx : decide (cmpCau xC xC = 0) = true := by unfold xC; rw [cmpCau_one]; decide
theorem eq_xy : decide (cmpCau xC yC = 0) = false := by unfold xC yC; rw [cmpCau_one]; decide
theorem ex_ne : keyC xC ≠ keyC yC := fun h => of_decide_eq_false eq_xy ((cmpCau_zero xC yC).2 h)
theorem ex_two {kx ky : KC} (hne : kx ≠ ky) {R : List Tld} (h : ToldR [(kx, 0), (ky, 0), (kx, 1)] 2 true R) :
    ∃ a b, R = [a, b] ∧ keyC a.c = kx ∧ a.s = 1 ∧ a.i = 2 ∧ b.s = 2 ∧ b.i = 1 ∧ a.o = 2 ∧ b.o = 2 := by
  have c1 : cardP 2 [(kx, 0), (ky, 0), (kx, 1)] kx = 2 := by
    unfold cardP
    simp [List.range_succ, hne]
  have c2 : cardP 2 [(kx, 0), (ky, 0), (kx, 1)] ky = 1 := by
    unfold cardP
    simp [List.range_succ, Ne.symm hne]
  have key : ∀ t ∈ R, (keyC t.c = kx ∧ t.i = 2 ∧ t.s = 1 ∧ t.o = 2) ∨ (keyC t.c = ky ∧ t.i = 1 ∧ t.s = 2 ∧ t.o = 2) := fun t ht => by
    obtain ⟨n, hn⟩ := h.sub t ht
    obtain ⟨h1, h2, h3⟩ := h.num t ht
    have hk : keyC t.c = kx ∨ keyC t.c = ky := by
      simp only [List.mem_cons, Prod.mk.injEq, List.not_mem_nil, or_false] at hn
      rcases hn with h | h | h
      · exact Or.inl h.1
      · exact Or.inr h.1
      · exact Or.inl h.1
    rcases hk with hk | hk
    · rw [hk, c1] at h1
      rw [h1] at h3
      exact Or.inl ⟨hk, h1, h3, h2⟩
    · rw [hk, c2] at h1
      rw [h1] at h3
      exact Or.inr ⟨hk, h1, h3, h2⟩
  have dif : ∀ a b, a ∈ R → b ∈ R → cfT a b < 0 → keyC a.c = kx ∧ keyC b.c = ky := fun a b ha hb hab => by
    have hz : ∀ x y : Tld, keyC x.c = keyC y.c → x.s = y.s → x.i = y.i → cfT x y = 0 := fun x y e1 e2 e3 => by
      unfold cfT
      rw [e2, e3, cmpI_zero.2 rfl, cmpI_zero.2 rfl, (sgnC_zero _ _).2 e1]
      rfl
    rcases key a ha with ⟨k1, i1, s1, _⟩ | ⟨k1, i1, s1, _⟩ <;> rcases key b hb with ⟨k2, i2, s2, _⟩ | ⟨k2, i2, s2, _⟩
    · rw [hz a b (k1.trans k2.symm) (s1.trans s2.symm) (i1.trans i2.symm)] at hab; omega
    · exact ⟨k1, k2⟩
    · unfold cfT at hab
      rw [s1, s2, show cmpI 2 1 = 1 by decide] at hab
      exact absurd hab (by show ¬ (1 : Int) < 0; decide)
    · rw [hz a b (k1.trans k2.symm) (s1.trans s2.symm) (i1.trans i2.symm)] at hab; omega
  obtain ⟨tx, htx, hkx⟩ := h.all (kx, 0) (by simp)
  obtain ⟨ty, hty, hky⟩ := h.all (ky, 0) (by simp)
  dsimp only at hkx hky
  have hs := h.srt
  match R, hs, key, dif, htx, hty with
  | [], _, _, _, htx, _ => simp at htx
  | [a], _, _, _, htx, hty =>
    rw [List.mem_singleton] at htx hty
    subst htx
    subst hty
    exact absurd (hkx.symm.trans hky) hne
  | [a, b], hs, key, dif, _, _ =>
    have h1 := dif a b (by simp) (by simp) ((List.pairwise_cons.1 hs).1 b (by simp))
    have ka := key a (by simp)
    have kb := key b (by simp)
    rcases ka with ⟨k1, i1, s1, o1⟩ | ⟨k1, _⟩
    · rcases kb with ⟨k2, _⟩ | ⟨k2, i2, s2, o2⟩
      · exact absurd (k2.symm.trans h1.2) hne
      · exact ⟨a, b, rfl, k1, s1, i1, s2, i2, o1, o2⟩
    · exact absurd (h1.1.symm.trans k1) hne
  | a :: b :: c :: r, hs, _, dif, _, _ =>
    have h1 := dif a b (by simp) (by simp) ((List.pairwise_cons.1 hs).1 b (by simp))
    have h2 := dif b c (by simp) (by simp) ((List.pairwise_cons.1 (List.pairwise_cons.1 hs).2).1 c (by simp))
    exact absurd (h2.1.symm.trans h1.2) hne
end Go.Proofs.YtemeppfikpafbaaGreat

/- law49's awake (14). -/
namespace Go.Proofs.YtemeppfikpafbaaGreat
open Go.RowKit
theorem alloc7 (w : World) (o0 o1 o2 o3 o4 o5 o6 : Obj) : ∀ W, W = (((((((w.alloc o0).alloc o1).alloc o2).alloc o3).alloc o4).alloc o5).alloc o6) →
    W.heap[w.heap.size]? = some o0 ∧ W.heap[w.heap.size + 1]? = some o1 ∧ W.heap[w.heap.size + 1 + 1]? = some o2 ∧ W.heap[w.heap.size + 1 + 1 + 1]? = some o3 ∧ W.heap[w.heap.size + 1 + 1 + 1 + 1]? = some o4 ∧ W.heap[w.heap.size + 1 + 1 + 1 + 1 + 1]? = some o5 ∧ W.heap[w.heap.size + 1 + 1 + 1 + 1 + 1 + 1]? = some o6 ∧ More w W := by
  rintro W rfl
  have m0 := more_alloc w o0
  have m1 := more_alloc (w.alloc o0) o1
  have m2 := more_alloc ((w.alloc o0).alloc o1) o2
  have m3 := more_alloc (((w.alloc o0).alloc o1).alloc o2) o3
  have m4 := more_alloc ((((w.alloc o0).alloc o1).alloc o2).alloc o3) o4
  have m5 := more_alloc (((((w.alloc o0).alloc o1).alloc o2).alloc o3).alloc o4) o5
  have m6 := more_alloc ((((((w.alloc o0).alloc o1).alloc o2).alloc o3).alloc o4).alloc o5) o6
  have k0 := alloc_last w o0
  have k1 := alloc_last (w.alloc o0) o1
  have k2 := alloc_last ((w.alloc o0).alloc o1) o2
  have k3 := alloc_last (((w.alloc o0).alloc o1).alloc o2) o3
  have k4 := alloc_last ((((w.alloc o0).alloc o1).alloc o2).alloc o3) o4
  have k5 := alloc_last (((((w.alloc o0).alloc o1).alloc o2).alloc o3).alloc o4) o5
  have k6 := alloc_last ((((((w.alloc o0).alloc o1).alloc o2).alloc o3).alloc o4).alloc o5) o6
  simp only [World.size_alloc] at k1 k2 k3 k4 k5 k6
  have n5 := more_trans m5 m6
  have n4 := more_trans m4 n5
  have n3 := more_trans m3 n4
  have n2 := more_trans m2 n3
  have n1 := more_trans m1 n2
  exact ⟨(n1.block (blk_lt k0)).trans k0, (n2.block (blk_lt k1)).trans k1, (n3.block (blk_lt k2)).trans k2, (n4.block (blk_lt k3)).trans k3, (n5.block (blk_lt k4)).trans k4, (m6.block (blk_lt k5)).trans k5, k6, more_trans m0 n1⟩
def exU (A : Nat) : Value := .slice (some ⟨A, 0, none⟩) 1 1
def exLs (A : Nat) : List LV := [(.slice (some ⟨A + 1 + 1 + 1 + 1, 0, none⟩) 2 2, [(exU A, .slice none 0 0, xC), (exU (A + 1), .slice none 0 0, yC)]), (.slice (some ⟨A + 1 + 1 + 1 + 1 + 1, 0, none⟩) 1 1, [(exU A, .slice none 0 0, xC)])]
theorem blk_row {α : Type} {c : α → List Value} {k : Nat} (hc : ∀ x, (c x).length = k) {w : World} {b : Nat} {arr : Array Value} {ty : TypeId} (l : List α) (h : w.heap[b]? = some (.cells arr ty)) (hx : arr.toList = flatC c l) : Row anyB w k l.length (.slice (some ⟨b, 0, none⟩) l.length l.length) (flatC c l) :=
  row_blkC hc h hx (Nat.le_refl _) trivial
theorem nilA_some (b n c : Nat) : NilA (.slice (some ⟨b, 0, none⟩) n c) := fun _ _ e => by cases e
theorem nilA_nil : NilA (.slice none 0 0) := fun _ _ e => by cases e; rfl
theorem ex_cau {W : World} {A : Nat} {n : Int} (h : W.heap[A]? = some (.cells #[.int .u8 n, .int .i64 0, .int .i64 0, .int .i64 0] 54)) : CauAt W ⟨[⟨n, 0, 0, 0⟩], []⟩ (exU A) (.slice none 0 0) :=
  ⟨blk_row kC_len [⟨n, 0, 0, 0⟩] h rfl, Row.nil _ _ _ _ _, nilA_some _ _ _, nilA_nil, by simp, by simp⟩
theorem ex_lists {W : World} {A : Nat} (h0 : W.heap[A]? = some (.cells #[.int .u8 4, .int .i64 0, .int .i64 0, .int .i64 0] 54)) (h1 : W.heap[A + 1]? = some (.cells #[.int .u8 5, .int .i64 0, .int .i64 0, .int .i64 0] 54))
    (h4 : W.heap[A + 1 + 1 + 1 + 1]? = some (.cells #[exU A, .slice none 0 0, exU (A + 1), .slice none 0 0] 34)) (h5 : W.heap[A + 1 + 1 + 1 + 1 + 1]? = some (.cells #[exU A, .slice none 0 0] 34))
    (h6 : W.heap[A + 1 + 1 + 1 + 1 + 1 + 1]? = some (.cells #[.slice (some ⟨A + 1 + 1 + 1 + 1, 0, none⟩) 2 2, .slice (some ⟨A + 1 + 1 + 1 + 1 + 1, 0, none⟩) 1 1] 25)) : ListsAt W (exLs A) (.slice (some ⟨A + 1 + 1 + 1 + 1 + 1 + 1, 0, none⟩) 2 2) := by
  refine ⟨blk_row lC_len (exLs A) h6 rfl, ?_, ?_, by simp [exLs], ?_⟩
  · intro p hp
    simp only [exLs, List.mem_cons, List.not_mem_nil, or_false] at hp
    rcases hp with rfl | rfl
    · exact blk_row qC_len _ h4 rfl
    · exact blk_row qC_len _ h5 rfl
  · intro p hp q hq
    simp only [exLs, List.mem_cons, List.not_mem_nil, or_false] at hp
    rcases hp with rfl | rfl
    · simp only [List.mem_cons, List.not_mem_nil, or_false] at hq
      rcases hq with rfl | rfl
      · exact ex_cau h0
      · exact ex_cau h1
    · simp only [List.mem_cons, List.not_mem_nil, or_false] at hq
      subst hq
      exact ex_cau h0
  · intro p hp
    simp only [exLs, List.mem_cons, List.not_mem_nil, or_false] at hp
    rcases hp with rfl | rfl <;> simp
/-- What Combine returns at the example. -/
theorem ex_comb {A : Nat} {e : Ending} {w : World} (h : CombE (exLs A) true e w) : ∃ (B cap : Nat) (c : Cau) (ua ha : Option Addr) (un uc hn hc : Nat), e = .returned (.slice (some ⟨B, 0, none⟩) 2 cap) ∧ keyC c = keyC xC ∧ CauAt w c (.slice ua un uc) (.slice ha hn hc) ∧
    w.cell? ⟨B, 0, none⟩ = some (.slice ua un uc) ∧ w.cell? ⟨B, 1, none⟩ = some (.slice ha hn hc) ∧ w.cell? ⟨B, 2, none⟩ = some (.int .u8 1) ∧ w.cell? ⟨B, 3, none⟩ = some (.int .i64 2) ∧ w.cell? ⟨B, 7, none⟩ = some (.int .u8 2) ∧ w.cell? ⟨B, 8, none⟩ = some (.int .i64 1) ∧ w.cell? ⟨B, 9, none⟩ = some (.int .i64 2) := by
  obtain ⟨R, B, cap, rfl, _, hH, hT, hR⟩ := h
  obtain ⟨a, b, rfl, hk, s1, i1, s2, i2, o1, o2⟩ := ex_two (kx := keyC xC) (ky := keyC yC) ex_ne hR
  have h0 := fun r u hu => (hH 0 (show 0 < 2 by decide) r u hu).1
  have h1 := fun r u hu => (hH 1 (show 1 < 2 by decide) r u hu).1
  refine ⟨B, cap, a.c, a.ua, a.ha, a.un, a.uc, a.hn, a.hc, rfl, hk, hT _ (List.mem_cons_self), h0 0 _ rfl, h0 1 _ rfl, ?_, ?_, ?_, ?_, ?_⟩
  · rw [← s1]; exact h0 2 _ rfl
  · rw [← i1]; exact h0 3 _ rfl
  · rw [← s2]; exact h1 2 _ rfl
  · rw [← i2]; exact h1 3 _ rfl
  · rw [← o2]; exact h1 4 _ rfl
set_option maxRecDepth 100000 in
set_option maxHeartbeats 4000000 in
theorem awake14_any (w : World) : Calls Tryz.prog 14 #[] w fun e w' => e = .returned (.bool true) ∧ Below w.heap.size w w' := by
  have HAL := Lib.hid (fun o4 o5 o6 => alloc7 w (.cells #[.int .u8 4, .int .i64 0, .int .i64 0, .int .i64 0] 54) (.cells #[.int .u8 5, .int .i64 0, .int .i64 0, .int .i64 0] 54) (.cells #[.slice (some ⟨w.heap.size, 0, none⟩) 1 1, .slice none 0 0] 34) (.cells #[.slice (some ⟨w.heap.size + 1, 0, none⟩) 1 1, .slice none 0 0] 34) o4 o5 o6)
  go_enter Tryz.func14, Tryz.ntmps14
  go_wp2_with fail
  obtain ⟨W, HW⟩ : ∃ W, Hid (W = ((((((w.alloc (.cells #[.int .u8 4, .int .i64 0, .int .i64 0, .int .i64 0] 54)).alloc (.cells #[.int .u8 5, .int .i64 0, .int .i64 0, .int .i64 0] 54)).alloc (.cells #[.slice (some ⟨w.heap.size, 0, none⟩) 1 1, .slice none 0 0] 34)).alloc (.cells #[.slice (some ⟨w.heap.size + 1, 0, none⟩) 1 1, .slice none 0 0] 34)).alloc (.cells #[.slice (some ⟨w.heap.size, 0, none⟩) 1 1, .slice none 0 0, .slice (some ⟨w.heap.size + 1, 0, none⟩) 1 1, .slice none 0 0] 34)).alloc (.cells #[.slice (some ⟨w.heap.size, 0, none⟩) 1 1, .slice none 0 0] 34)).alloc (.cells #[.slice (some ⟨w.heap.size + 1 + 1 + 1 + 1, 0, none⟩) 2 2, .slice (some ⟨w.heap.size + 1 + 1 + 1 + 1 + 1, 0, none⟩) 1 1] 25)) := ⟨_, Lib.hid rfl⟩
  obtain ⟨h0, h1, h2, _, h4, h5, h6, hm⟩ := HAL.out _ _ _ W HW.out
  rw [← HW.out]
  have HL := Lib.hid (ex_lists h0 h1 h4 h5 h6)
  have H0 := Lib.hid h0
  have H2 := Lib.hid h2
  have HM := Lib.hid hm
  clear h0 h1 h2 h4 h5 h6 hm HAL HW
  generalize w.heap.size = A at *
  refine (combine_any (exLs A) _ true W HL.out (show (3 : Nat) ≤ 40 by decide) (show 0 < (3 : Nat) by decide)).mono ?_
  rintro e w1 ⟨he, hb1⟩
  obtain ⟨B, cap, cx, ua, ha, un, uc, hn, hc, rfl, hkx, hcau, b0, b1, b2, b3, b7, b8, b9⟩ := ex_comb he
  have HB := Lib.hid hb1
  have HC := Lib.hid hcau
  have HX := Lib.hid (CauAt.below (ex_cau H0.out) hb1)
  have c0 := below_cell hb1 (cell_of_blk (j := 0) H2.out rfl)
  have c1 := below_cell hb1 (cell_of_blk (j := 1) H2.out rfl)
  have HEQ := Lib.hid (fun W' (hW : More w1 W') => equalCause_any cx xC (.slice ua un uc) (.slice ha hn hc) (exU A) (.slice none 0 0) W' (CauAt.more HC.out hW) (CauAt.more HX.out hW))
  rw [show decide (cmpCau cx xC = 0) = true from decide_eq_true ((cmpCau_zero cx xC).2 hkx)] at HEQ
  have HK := Lib.hid (show ∀ W', More w1 W' → (W'.cell? ⟨B, 0, none⟩ = some (.slice ua un uc) ∧ W'.cell? ⟨B, 1, none⟩ = some (.slice ha hn hc) ∧ W'.cell? ⟨B, 2, none⟩ = some (.int .u8 1) ∧ W'.cell? ⟨B, 3, none⟩ = some (.int .i64 2) ∧ W'.cell? ⟨B, 7, none⟩ = some (.int .u8 2) ∧ W'.cell? ⟨B, 8, none⟩ = some (.int .i64 1) ∧ W'.cell? ⟨B, 9, none⟩ = some (.int .i64 2) ∧ W'.cell? ⟨A + 1 + 1, 0, none⟩ = some (.slice (some ⟨A, 0, none⟩) 1 1) ∧ W'.cell? ⟨A + 1 + 1, 1, none⟩ = some (.slice none 0 0)) from fun W' h => ⟨h.cell b0, h.cell b1, h.cell b2, h.cell b3, h.cell b7, h.cell b8, h.cell b9, h.cell c0, h.cell c1⟩)
  clear he hcau b0 b1 b2 b3 b7 b8 b9 c0 c1 hb1
  go_upto_region 3 with (fail)
  have HL := Lib.hid (more_drew w1)
  go_region_held3 (fun W' => W'.cell? ⟨B, 0, none⟩ = some (.slice ua un uc) ∧ W'.cell? ⟨B, 1, none⟩ = some (.slice ha hn hc) ∧ W'.cell? ⟨B, 2, none⟩ = some (.int .u8 1) ∧ W'.cell? ⟨B, 3, none⟩ = some (.int .i64 2) ∧ W'.cell? ⟨B, 7, none⟩ = some (.int .u8 2) ∧ W'.cell? ⟨B, 8, none⟩ = some (.int .i64 1) ∧ W'.cell? ⟨B, 9, none⟩ = some (.int .i64 2) ∧ W'.cell? ⟨A + 1 + 1, 0, none⟩ = some (.slice (some ⟨A, 0, none⟩) 1 1) ∧ W'.cell? ⟨A + 1 + 1, 1, none⟩ = some (.slice none 0 0)) (first | with_reducible exact HK.out _ HL.out) (first | (go_at_call 10; refine (HEQ.out _ HL.out).mono ?_; rintro e w9 ⟨rfl, hm9⟩; have HL := Lib.hid (more_trans HL.out hm9); clear hm9))
  all_goals
    go_wp2_with fail
    go_ret
    exact ⟨rfl, (HM.out.below.trans (HB.out.mono HM.out.size)).trans (HL.out.below.mono (Nat.le_trans HM.out.size HB.out.size))⟩
end Go.Proofs.YtemeppfikpafbaaGreat

/- The argument of VerdictCombines: lists of raw causes (types 36, 38, 41, 39), opened. -/
namespace Go.Proofs.YtemeppfikpafbaaGreat
open Go.RowKit Go.ChangeShapes Go.WideShapes
section
variable {H : Type} {enc : TypeId × Value → H} {P : Program} {w : World} {base : Nat} {spare : Nat → Bool} {held : Bool}

theorem flatMap_get {α : Type} (g : α → List Value) (C : Nat) (hg : ∀ x, (g x).length = C) : ∀ (xs : List α) (j : Nat) (u : Value), (xs.flatMap g)[j]? = some u → ∃ i r, ∃ h : i < xs.length, r < C ∧ j = i * C + r ∧ (g xs[i])[r]? = some u
  | [], j, u, h => by simp at h
  | x :: xs, j, u, h => by
    rw [List.flatMap_cons] at h
    by_cases hj : j < C
    · rw [List.getElem?_append_left (by rw [hg]; exact hj)] at h
      exact ⟨0, j, by simp, hj, by simp, by simpa using h⟩
    · rw [List.getElem?_append_right (by rw [hg]; omega), hg] at h
      obtain ⟨i, r, hi, hr, hjr, hu⟩ := flatMap_get g C hg xs _ u h
      exact ⟨i + 1, r, by simpa using hi, hr, by rw [Nat.add_mul]; omega, by simpa using hu⟩
theorem flatMap_len {α : Type} (g : α → List Value) (C : Nat) (hg : ∀ x, (g x).length = C) (xs : List α) : (xs.flatMap g).length = xs.length * C := by
  induction xs with
  | nil => simp
  | cons x xs ih => rw [List.flatMap_cons, List.length_append, hg, ih, List.length_cons, Nat.add_mul]; omega

theorem cell_spot {w : World} {a : Addr} {v : Value} (h : w.cell? a = some v) : a.spot = none := by
  unfold World.cell? at h
  split at h
  · split at h
    · cases h
    · rename_i hs; simpa using hs
  · cases h

/-- A slice whose elements are each known cell by cell. -/
theorem open_rows {α : Type} [Inhabited α] {t e : TypeId} {v : Value} {d : DataW H} {ps : List MemPlace} (g : α → List Value) (Ok : α → Prop) (C : Nat) (hg : ∀ x, (g x).length = C) (hC0 : 0 < C) (ht : P.underlying t = some (.slice e)) (hC : P.cellsOf e = C)
    (helem : ∀ fuel cs y, DataW.trod enc P w base spare held fuel e cs = some y → ∃ x, Ok x ∧ cs = g x)
    (hv : ∃ a len cap, v = .slice a len cap) (h : DataW.Trod enc P w base spare held t v d ps) : ∃ xs : List α, (∀ x ∈ xs, Ok x) ∧ xs.length ≤ maxLen ∧ Row (fun _ => True) w C xs.length v (xs.flatMap g) := by
  obtain ⟨va, vl, vc, rfl⟩ := hv
  obtain ⟨fuel, hf⟩ := h
  rcases Deep.open_slice ht hf with ⟨h0, _⟩ | ⟨a, len, cap, m, n, D, Pl, hcs, _, hl, hm, hmm, _, hi⟩
  · have h0' : Value.slice va vl vc = .slice none 0 0 := by simpa [Value.cells] using h0
    rw [h0']
    exact ⟨[], fun x hx => by (cases hx), Nat.zero_le _, Row.nil _ _ _ _ _⟩
  · have hc' : Value.slice va vl vc = .slice (some a) len cap := by simpa [Value.cells] using hcs
    rw [hc']
    have hlm : len ≤ m := by rw [hmm]; split <;> omega
    have hex : ∀ i, i < len → ∃ x, Ok x ∧ w.cells? base (a.add (i * C)) C = some (g x) := by
      intro i hil
      obtain ⟨cs', h1, h2⟩ := hi i (by omega)
      rw [hC] at h1
      obtain ⟨x, hx, rfl⟩ := helem _ _ _ h2
      exact ⟨x, hx, h1⟩
    obtain ⟨f, hf'⟩ := Deep.choose_lt hex
    refine ⟨(List.range len).map f, fun x hx => ?_, by simp; omega, ?_⟩
    · obtain ⟨i, hi', rfl⟩ := List.mem_map.1 hx
      exact (hf' i (by simpa using hi')).1
    · refine ⟨flatMap_len g C hg _, some a, cap, by simp, by simpa using hl, fun hn => ?_⟩
      have hlen : 0 < len := by simp at hn; omega
      have hcell : ∀ i, i < len → ∀ r, r < C → w.cell? (a.add (i * C + r)) = (g (f i))[r]? := by
        intro i hil r hr
        obtain ⟨_, _, h3⟩ := World.cells?_some (hf' i hil).2
        rw [← Deep.add_add]; exact h3 r hr
      have hsp : a.spot = none := by
        have h00 := hcell 0 hlen 0 hC0
        rw [List.getElem?_eq_getElem (by rw [hg]; exact hC0)] at h00
        have := cell_spot h00
        simpa [Addr.add] using this
      obtain ⟨b, off, sp⟩ := a
      simp only at hsp
      subst hsp
      refine ⟨b, off, rfl, trivial, fun j u hj => ?_⟩
      obtain ⟨i, r, hi', hr, rfl, hu⟩ := flatMap_get g C hg _ j u hj
      have hil : i < len := by simpa using hi'
      have := hcell i hil r hr
      simp only [List.getElem_map, List.getElem_range] at hu
      rw [hu] at this
      rw [← this]
      unfold Addr.add
      split
      · rename_i h0; rw [h0]; rfl
      · rfl
end
section
variable {H : Type} {enc : TypeId × Value → H} {w : World} {base : Nat} {spare : Nat → Bool} {held : Bool}
/-- A nil slice has no capacity. -/
theorem open_rows_at {P : Program} {α : Type} [Inhabited α] {t e : TypeId} {fuel : Nat} {cs : List Value} {y : DataW H × List MemPlace} (g : α → List Value) (Ok : α → Prop) (C : Nat) (hg : ∀ x, (g x).length = C) (hC0 : 0 < C) (ht : P.underlying t = some (.slice e)) (hC : P.cellsOf e = C)
    (helem : ∀ fuel cs y, DataW.trod enc P w base spare held fuel e cs = some y → ∃ x, Ok x ∧ cs = g x)
    (h : DataW.trod enc P w base spare held fuel t cs = some y) : ∃ (v : Value) (xs : List α), cs = [v] ∧ (∀ x ∈ xs, Ok x) ∧ xs.length ≤ maxLen ∧ Row anyB w C xs.length v (flatC g xs) ∧ NilA v := by
  rcases Deep.open_slice ht h with ⟨h0, _⟩ | ⟨a, len, cap, _, _, _, _, h0, _⟩
  · obtain ⟨xs, h1, h2, h3⟩ := open_rows (d := y.1) (ps := y.2) g Ok C hg hC0 ht hC helem (v := .slice none 0 0) ⟨_, _, _, rfl⟩ ⟨fuel, by simpa [Value.cells, h0] using h⟩
    exact ⟨_, xs, h0, h1, h2, h3, fun n c e => by cases e; rfl⟩
  · obtain ⟨xs, h1, h2, h3⟩ := open_rows (d := y.1) (ps := y.2) g Ok C hg hC0 ht hC helem (v := .slice (some a) len cap) ⟨_, _, _, rfl⟩ ⟨fuel, by simpa [Value.cells, h0] using h⟩
    exact ⟨_, xs, h0, h1, h2, h3, fun n c e => by cases e⟩
theorem in64_of {n : Int} (h : (Lit.int .i64 n).wf = true) : In64 n := by
  unfold In64
  simp [Lit.wf, IntKind.min, IntKind.max, IntKind.signed, IntKind.bits] at h; omega
theorem u8_of {n : Int} (h : (Lit.int .u8 n).wf = true) : 0 ≤ n ∧ n ≤ 255 := by
  simpa [Lit.wf, IntKind.min, IntKind.max, IntKind.signed, IntKind.bits] using h
theorem one_of {l : List Value} {j : Nat} {v : Value} (h : (l.drop j).take 1 = [v]) : l[j]? = some v := by
  have := congrArg (·[0]?) h
  simpa using this
theorem four_of {l : List Value} (hl : l.length = 4) {a b c d : Value} (h0 : l[0]? = some a) (h1 : l[1]? = some b) (h2 : l[2]? = some c) (h3 : l[3]? = some d) : l = [a, b, c, d] := by
  match l, hl with
  | [_, _, _, _], _ => simp_all
theorem three_of {l : List Value} (hl : l.length = 3) {a b c : Value} (h0 : l[0]? = some a) (h1 : l[1]? = some b) (h2 : l[2]? = some c) : l = [a, b, c] := by
  match l, hl with
  | [_, _, _], _ => simp_all
theorem two_of {l : List Value} (hl : l.length = 2) {a b : Value} (h0 : l[0]? = some a) (h1 : l[1]? = some b) : l = [a, b] := by
  match l, hl with
  | [_, _], _ => simp_all
end
/-- A raw cause: its two slices, and what they hold. -/
abbrev RV := (Value × Value) × (List Int × List Int)
def rvC (r : RV) : List Value := [r.1.1, r.1.2]
theorem rvC_len (r : RV) : (rvC r).length = 2 := rfl
abbrev RL := Value × List RV
def rlC (p : RL) : List Value := [p.1]
theorem rlC_len (p : RL) : (rlC p).length = 1 := rfl
structure RawsAt (w : World) (rs : List RL) (v : Value) : Prop where
  row : Row anyB w 1 rs.length v (flatC rlC rs)
  inner : ∀ p ∈ rs, Row anyB w 2 p.2.length p.1 (flatC rvC p.2)
  each : ∀ p ∈ rs, ∀ r ∈ p.2, RawAt w r.2.1 r.2.2 r.1.1 r.1.2
  len : rs.length ≤ maxLen
  lens : ∀ p ∈ rs, p.2.length ≤ maxLen
theorem RawsAt.below {w w' : World} {rs : List RL} {v : Value} (h : RawsAt w rs v) (hb : Below w.heap.size w w') : RawsAt w' rs v :=
  ⟨h.row.below hb, fun p hp => (h.inner p hp).below hb, fun p hp r hr => (h.each p hp r hr).below hb, h.len, h.lens⟩
theorem u8_natV {n : Int} (h : (Lit.int .u8 n).wf = true) : ∃ k : Nat, n = k ∧ k ≤ 255 := by
  have := u8_of h
  exact ⟨n.toNat, by omega, by omega⟩
theorem cellsV5 : Tryz.prog.cellsOf 5 = 1 := by kernel_rfl
theorem cellsV39 : Tryz.prog.cellsOf 39 = 1 := by kernel_rfl
theorem cellsV41 : Tryz.prog.cellsOf 41 = 2 := by kernel_rfl
theorem cellsV38 : Tryz.prog.cellsOf 38 = 1 := by kernel_rfl
instance : Inhabited RV := ⟨((.slice none 0 0, .slice none 0 0), ([], []))⟩
instance : Inhabited RL := ⟨(.slice none 0 0, [])⟩
section
variable {H : Type} {enc : TypeId × Value → H} {w : World} {base : Nat} {spare : Nat → Bool} {held : Bool}
theorem byt_elem (fuel : Nat) (cs : List Value) (y : DataW H × List MemPlace) (h : DataW.trod enc Tryz.prog w base spare held fuel 5 cs = some y) : ∃ x : Int, (0 ≤ x ∧ x ≤ 255) ∧ cs = bC x := by
  obtain ⟨n0, c0, _, w0⟩ := DataW.trod_int Tryz.underlying5 h
  exact ⟨n0, u8_of w0, c0⟩
theorem raw_elem (fuel : Nat) (cs : List Value) (y : DataW H × List MemPlace) (h : DataW.trod enc Tryz.prog w base spare held fuel 41 cs = some y) : ∃ x : RV, RawAt w x.2.1 x.2.2 x.1.1 x.1.2 ∧ cs = rvC x := by
  obtain ⟨xs, n, _, _, hl, hxl, hf⟩ := DataW.trod_struct Tryz.underlying41 h
  rw [cellsV41] at hl
  have f0 := hf 0 _ rfl
  have f1 := hf 1 _ rfl
  have g : ∀ j, j < 2 → ∃ z, xs[j]? = some z := fun j hj => ⟨_, List.getElem?_eq_getElem (by rw [hxl]; exact hj)⟩
  obtain ⟨z0, e0⟩ := g 0 (by omega)
  obtain ⟨z1, e1⟩ := g 1 (by omega)
  rw [e0] at f0; rw [e1] at f1
  obtain ⟨v0, l0, c0, k0, m0, r0, _⟩ := open_rows_at bC (fun x => 0 ≤ x ∧ x ≤ 255) 1 bC_len (by omega) Tryz.underlying39 cellsV5 byt_elem f0
  obtain ⟨v1, l1, c1, k1, m1, r1, _⟩ := open_rows_at bC (fun x => 0 ≤ x ∧ x ≤ 255) 1 bC_len (by omega) Tryz.underlying39 cellsV5 byt_elem f1
  change (cs.drop 0).take (Tryz.prog.cellsOf 39) = _ at c0
  change (cs.drop 1).take (Tryz.prog.cellsOf 39) = _ at c1
  rw [cellsV39] at c0 c1
  exact ⟨((v0, v1), (l0, l1)), ⟨r0, r1, k0, k1, m0, m1⟩, two_of hl (one_of c0) (one_of c1)⟩
theorem raws_elem (fuel : Nat) (cs : List Value) (y : DataW H × List MemPlace) (h : DataW.trod enc Tryz.prog w base spare held fuel 38 cs = some y) : ∃ p : RL, (Row anyB w 2 p.2.length p.1 (flatC rvC p.2) ∧ (∀ r ∈ p.2, RawAt w r.2.1 r.2.2 r.1.1 r.1.2) ∧ p.2.length ≤ maxLen) ∧ cs = rlC p := by
  obtain ⟨v0, l0, c0, k0, m0, r0, _⟩ := open_rows_at rvC (fun r => RawAt w r.2.1 r.2.2 r.1.1 r.1.2) 2 rvC_len (by omega) Tryz.underlying38 cellsV41 raw_elem h
  exact ⟨(v0, l0), ⟨r0, k0, m0⟩, c0⟩
theorem open_raws {v : Value} {d : DataW H} {ps : List MemPlace} (hv : ∃ a len cap, v = .slice a len cap) (h : DataW.Trod enc Tryz.prog w base spare held 36 v d ps) : ∃ rs : List RL, RawsAt w rs v := by
  obtain ⟨xs, h1, h2, h3⟩ := open_rows rlC (fun p : RL => Row anyB w 2 p.2.length p.1 (flatC rvC p.2) ∧ (∀ r ∈ p.2, RawAt w r.2.1 r.2.2 r.1.1 r.1.2) ∧ p.2.length ≤ maxLen) 1 rlC_len (by omega) Tryz.underlying36 cellsV38 raws_elem hv h
  exact ⟨xs, ⟨h3, fun p hp => (h1 p hp).1, fun p hp => (h1 p hp).2.1, h2, fun p hp => (h1 p hp).2.2⟩⟩
end
end Go.Proofs.YtemeppfikpafbaaGreat

