/- Texts DepP, RAdd, RefBound, RefEval, Insert, Stable, Of, laid together. -/
import Derived.Deep.AppendLies
import Derived.Deep.RegionHeld3
import Derived.Deep.QuietTactic
import Derived.BigQuiet
import Derived.ArgAppend
import Derived.Test.YtekhoanjpnjaeaaNd
import Derived.Test.YtekhoanjpnjaeaaNh
import Derived.Test.YtekhoanjpnjaeaaNm
/- Plain: names and tables that an expression does not read do not matter to its value. -/
namespace Go.Proofs.Ytekhoanjpnjaeaa
open Go.RowKit
theorem placeN_mem : ∀ (l : List ByteArray) (s : ByteArray), s ∈ l → ∃ k, placeN l s = some k
  | [], _, h => by cases h
  | x :: xs, s, h => by
    by_cases hx : (x.toList == s.toList) = true
    · exact ⟨0, by simp only [placeN, hx, if_true]⟩
    · have hs : s ∈ xs := by
        rcases List.mem_cons.1 h with rfl | h
        · exact absurd (beq_self_eq_true _) hx
        · exact h
      obtain ⟨k, hk⟩ := placeN_mem xs s hs
      exact ⟨k + 1, by simp only [placeN, hx, hk]; rfl⟩
theorem nmsL_mem (k : Bool) : ∀ (l : List Ex) (x : ByteArray), x ∈ nmsL k l ↔ ∃ t ∈ l, x ∈ nms k t
  | [], x => by simp [nmsL]
  | t :: ts, x => by
    rw [nmsL, List.mem_append, nmsL_mem k ts x]
    constructor
    · rintro (h | ⟨u, h1, h2⟩)
      · exact ⟨t, List.mem_cons_self, h⟩
      · exact ⟨u, List.mem_cons_of_mem _ h1, h2⟩
    · rintro ⟨u, h1, h2⟩
      rcases List.mem_cons.1 h1 with rfl | h1
      · exact Or.inl h2
      · exact Or.inr ⟨u, h1, h2⟩
section
variable {e : EnvD} {a b : ByteArray} {v : Int} {tb : List (Int × Int)} (hv : e.names.length = e.vals.length) (ht : e.tnames.length = e.tabs.length)
theorem nms_node {k : Bool} {op n : Int} {name : ByteArray} {args : List Ex} {N : List ByteArray} (h : ∀ x ∈ nms k (.node op name n args), x ∈ N) : (if k then 6 ≤ op ∧ op ≤ 8 else op = 5) → name ∈ N := fun hc => h _ (by rw [nms, if_pos hc]; simp)
theorem nms_arg {k : Bool} {op n : Int} {name : ByteArray} {args : List Ex} {N : List ByteArray} (h : ∀ x ∈ nms k (.node op name n args), x ∈ N) {t : Ex} (ht : t ∈ args) : ∀ x ∈ nms k t, x ∈ N := fun x hx => h x (by rw [nms, List.mem_append]; exact Or.inr ((nmsL_mem k args x).2 ⟨t, ht, hx⟩))
theorem boundT_all : ∀ t, (∀ x ∈ nms false t, x ∈ e.names) → (∀ x ∈ nms true t, x ∈ e.tnames) → boundT e t = true := by
  apply Ex.indT
  intro op name n args ih h1 h2
  rw [boundT_eq, Bool.and_eq_true, boundL_iff]
  refine ⟨?_, fun t m => ih t m (nms_arg h1 m) (nms_arg h2 m)⟩
  unfold boundN
  simp only [Ex.op, Ex.name]
  rw [Bool.and_eq_true, Bool.not_eq_true', Bool.not_eq_true', Bool.and_eq_false_iff, Bool.and_eq_false_iff]
  constructor
  · by_cases h5 : op = 5
    · obtain ⟨k, hk⟩ := placeN_mem _ _ (nms_node h1 (by simpa using h5))
      exact Or.inr (by rw [hk]; rfl)
    · exact Or.inl (decide_eq_false h5)
  · by_cases h68 : 6 ≤ op ∧ op ≤ 8
    · obtain ⟨k, hk⟩ := placeN_mem _ _ (nms_node h2 (by simpa using h68))
      exact Or.inr (by rw [hk]; rfl)
    · exact Or.inl (decide_eq_false h68)
end
theorem mem_one {c : Prop} [Decidable c] {x a : ByteArray} (h : x ∈ (if c then [a] else [])) : x = a := by
  by_cases hc : c
  · rw [if_pos hc, List.mem_singleton] at h; exact h
  · rw [if_neg hc] at h; cases h
theorem nms_text {k : Bool} {S : Nat → Prop} {w : World} : ∀ (d : Nat) (t : Ex) (c : Value), Flds .u8 t → RepS .u8 S w d t.args c → ∀ x ∈ nms k t, x.size ≤ maxLen := by
  intro d
  induction d with
  | zero =>
    intro t c hf hr x hx
    obtain ⟨op, name, n, args⟩ := t
    rw [nms, List.mem_append] at hx
    have h0 := hr.1
    simp only [Ex.args] at h0
    subst h0
    rcases hx with hx | hx
    · rw [mem_one hx]; exact hf.name
    · cases hx
  | succ d ih =>
    intro t c hf hr x hx
    obtain ⟨op, name, n, args⟩ := t
    rw [nms, List.mem_append] at hx
    rcases hx with hx | hx
    · rw [mem_one hx]; exact hf.name
    · obtain ⟨u, hu, hxu⟩ := (nmsL_mem k args x).1 hx
      obtain ⟨a, cap, rfl, he⟩ := hr
      obtain ⟨i, hi, rfl⟩ := List.getElem_of_mem hu
      obtain ⟨b, off, _, _, hc⟩ := he (List.ne_nil_of_mem hu)
      obtain ⟨_, _, _, hfi, c2, _, hri⟩ := hc i hi
      exact ih _ _ hfi hri x hxu
end Go.Proofs.Ytekhoanjpnjaeaa

/- rootcauseref10.add (103): a name into a sorted list. -/
namespace Go.Proofs.Ytekhoanjpnjaeaa
open Go.RowKit
theorem Try.info9s : (Try.prog.info? 9).map (fun i => (i.zero, i.size, i.bytes)) = some (some (.string ⟨#[]⟩), 1, 16) := by kernel_rfl
def sV (l : List ByteArray) : List Value := l.map .string
theorem eq_of (a b : ByteArray) : (a.toList == b.toList) = true ↔ a = b := by
  rw [beq_iff_eq, Lib.toList_data, Lib.toList_data]
  exact ⟨fun h => ba_inj h, fun h => by rw [h]⟩
end Go.Proofs.Ytekhoanjpnjaeaa

/- ref10.Bound (98). -/
namespace Go.Proofs.Ytekhoanjpnjaeaa
open Go.RowKit

end Go.Proofs.Ytekhoanjpnjaeaa

/- ref10.Eval (53). -/
namespace Go.Proofs.Ytekhoanjpnjaeaa
open Go.RowKit

end Go.Proofs.Ytekhoanjpnjaeaa

/- slices.insertionSortCmpFunc (134) at table's entries. -/
namespace Go.Proofs.Ytekhoanjpnjaeaa
open Go.RowKit Go.Sort
theorem insInner_no (a j : Nat) (d : Array (Int × Int)) (h : ¬ a < j) : insInner keyLt a j d = d := by
  cases j with
  | zero => rfl
  | succ j => unfold insInner; rw [if_neg (by simp; omega)]
theorem insInner_stop (a j : Nat) (d : Array (Int × Int)) (h : ¬ d[j + 1]!.1 < d[j]!.1) : insInner keyLt a (j + 1) d = d := by
  unfold insInner
  rw [if_neg (by simp [keyLt]; omega)]
theorem insInner_go (a j : Nat) (d : Array (Int × Int)) (ha : a < j + 1) (h : d[j + 1]!.1 < d[j]!.1) : insInner keyLt a (j + 1) d = insInner keyLt a j (swp d (j + 1) j) := by
  conv => lhs; unfold insInner
  rw [if_pos (by simp [keyLt]; omega)]
theorem insOuter_go (a b i : Nat) (d : Array (Int × Int)) (h : i < b) : insOuter keyLt a b i d = insOuter keyLt a b (i + 1) (insInner keyLt a i d) := by
  conv => lhs; unfold insOuter
  rw [if_pos h]
theorem insOuter_stop (a b i : Nat) (d : Array (Int × Int)) (h : ¬ i < b) : insOuter keyLt a b i d = d := by
  unfold insOuter
  rw [if_neg h]

set_option maxHeartbeats 2000000 in
set_option maxRecDepth 100000 in
theorem insert_any (d : Array (Int × Int)) (B off cap a b : Nat) (w : World) (hab : a ≤ b) (hb : b ≤ d.size) (hsz : d.size < 4294967296) (_hB : B < w.heap.size) (hH : HoldE w B off d) :
    Calls Try.prog 134 #[.slice (some ⟨B, off, none⟩) d.size cap, .int .i64 a, .int .i64 b, .func (.func 78) #[] #[]] w fun e w' => e = .returned (.tuple #[]) ∧ w.grownBy w' (some B) ∧ HoldE w' B off (insertionSort keyLt d a b) := by
  have HH := Lib.hid hH; clear hH
  go_enter Try.func134, Try.ntmps134
  go_wp2_with fail
  go_loopw [8] (fun vi wr => ∃ (i : Nat) (dk : Array (Int × Int)), vi = .int .i64 i ∧ a < i ∧ i ≤ b + 1 ∧ Hid (w.grownBy wr (some B)) ∧ Hid (HoldE wr B off dk) ∧ Hid (dk.size = d.size ∧ insOuter keyLt a b i dk = insertionSort keyLt d a b)) (fun i _ => b - (intOf i).toNat)
  case atStart => exact ⟨a + 1, d, by go_num, by omega, by omega, Lib.hid (World.grownBy.refl _ _), HH, Lib.hid ⟨rfl, rfl⟩⟩
  case round =>
    obtain ⟨i, dk, rfl, hai, hib, HG, HK, HE⟩ := hrel
    obtain ⟨wo, rfl⟩ : ∃ wo : World, wo = wr := ⟨_, rfl⟩
    by_cases hlt : i < b
    · go_wp2_with fail
      go_loopw [9] (fun vj wr => ∃ (j : Nat) (dj : Array (Int × Int)), vj = .int .i64 j ∧ a ≤ j ∧ j ≤ i ∧ Hid (w.grownBy wr (some B)) ∧ Hid (HoldE wr B off dj) ∧ Hid (dj.size = d.size ∧ insOuter keyLt a b (i + 1) (insInner keyLt a j dj) = insertionSort keyLt d a b)) (fun j _ => (intOf j).toNat)
      case atStart => exact ⟨i, dk, rfl, by omega, Nat.le_refl _, HG, HK, Lib.hid ⟨HE.out.1, by rw [← HE.out.2, insOuter_go a b i dk hlt]⟩⟩
      case round =>
        obtain ⟨j, dj, rfl, haj, hji, HGJ, HJ, HEJ⟩ := hrel
        by_cases hja : a < j
        · obtain ⟨jp, rfl⟩ : ∃ jp, j = jp + 1 := ⟨j - 1, by omega⟩
          have hs := HEJ.out.1
          have c1 := HJ.out (jp + 1) (by omega)
          have c2 := HJ.out jp (by omega)
          have HN := Lib.hid (fun (w' : World) (h : w'.heap[B]? = wr.heap[B]?) => swW_holds (HJ.out.keep h) (i := jp + 1) (j := jp) (by omega) (by omega))
          have HX := Lib.hid (show (dj[jp + 1]!.1 < dj[jp]!.1 → insInner keyLt a (jp + 1) dj = insInner keyLt a jp (swp dj (jp + 1) jp)) ∧ (¬ dj[jp + 1]!.1 < dj[jp]!.1 → insInner keyLt a (jp + 1) dj = dj) from ⟨insInner_go a jp dj hja, insInner_stop a jp dj⟩)
          clear hs
          generalize hx : dj[jp + 1]! = x at *
          generalize hy : dj[jp]! = y at *
          clear hx hy
          obtain ⟨p0, p1, f0, f1⟩ := c1
          obtain ⟨q0, q1, f2, f3⟩ := c2
          have hsz' : (jp : Int) + 1 < d.size := by omega
          have hBr : B < wr.heap.size := cell_lt p0
          by_cases hc : x.1 < y.1
          · have t1 : decide (cmpI x.1 y.1 < 0) = true := by simp [cmpI_neg, hc]
            have HC := Lib.hid hc; clear hc
            have s0 : wr.drew.cell? ⟨B, off + (jp + 1) * 2, none⟩ = some (.int .i64 x.1) := p0
            have s1 : wr.drew.cell? ⟨B, off + (jp + 1) * 2 + 1, none⟩ = some (.int .i64 x.2) := p1
            have s2 : wr.drew.cell? ⟨B, off + jp * 2, none⟩ = some (.int .i64 y.1) := q0
            have s3 : wr.drew.cell? ⟨B, off + jp * 2 + 1, none⟩ = some (.int .i64 y.2) := q1
            go_wp2_with fail
            have hwp : IntKind.i64.wrap (jp : Int) = (jp : Int) := by rw [IntKind.wrap_i64]; omega
            have jz1 : (jp : Int) < (d.size : Int) := by omega
            have hjaz' : (a : Int) < (jp : Int) + 1 := by omega
            have z0 : (0 : Int) ≤ (jp : Int) + 1 := by omega
            have e0 : ((jp : Int) + 1).toNat = jp + 1 := by omega
            go_region_held3 (fun wx => wx.cell? ⟨B, off + (jp + 1) * 2, none⟩ = some (.int .i64 x.1) ∧ wx.cell? ⟨B, off + (jp + 1) * 2 + 1, none⟩ = some (.int .i64 x.2) ∧ wx.cell? ⟨B, off + jp * 2, none⟩ = some (.int .i64 y.1) ∧ wx.cell? ⟨B, off + jp * 2 + 1, none⟩ = some (.int .i64 y.2)) (first | with_reducible exact ⟨s0, s1, s2, s3⟩ | with_reducible exact ⟨k0, k1, k2, k3⟩) (first | (go_at_call 78; refine (cmp78 x y _).mono ?_; rintro e w1 ⟨rfl, hw1⟩; have k0 := hw1.cell s0; have k1 := hw1.cell s1; have k2 := hw1.cell s2; have k3 := hw1.cell s3))
            clear hwp e0
            have g0 := hw1.frozen (b := B) (o := off + (jp + 1) * 2) hBr f0
            have g1 := hw1.frozen (b := B) (o := off + (jp + 1) * 2 + 1) hBr f1
            have g2 := hw1.frozen (b := B) (o := off + jp * 2) hBr f2
            have g3 := hw1.frozen (b := B) (o := off + jp * 2 + 1) hBr f3
            have HN2 := Lib.hid (HN.out w1 (hw1.block hBr))
            have HG2 := Lib.hid (swW_grown (grownBy_more (grownBy_more HGJ.out (more_drew wr)) hw1) off (jp + 1) jp x y)
            have HS2 := Lib.hid (show (swp dj (jp + 1) jp).size = d.size ∧ insOuter keyLt a b (i + 1) (insInner keyLt a jp (swp dj (jp + 1) jp)) = insertionSort keyLt d a b from ⟨by rw [size_swp]; exact HEJ.out.1, by rw [← HX.out.1 HC.out]; exact HEJ.out.2⟩)
            clear hw1 p0 p1 q0 q1 s0 s1 s2 s3 f0 f1 f2 f3
            go_wp2_with fail
            go_region
            go_wp2_with fail
            go_roundw
            case rel => exact ⟨jp, swp dj (jp + 1) jp, by go_num, by omega, by omega, HG2, HN2, HS2⟩
            case measure => simp [intOf]
          · have t1 : decide (cmpI x.1 y.1 < 0) = false := by simp [cmpI_neg, hc]
            have HC := Lib.hid hc; clear hc
            have s0 : wr.drew.cell? ⟨B, off + (jp + 1) * 2, none⟩ = some (.int .i64 x.1) := p0
            have s1 : wr.drew.cell? ⟨B, off + (jp + 1) * 2 + 1, none⟩ = some (.int .i64 x.2) := p1
            have s2 : wr.drew.cell? ⟨B, off + jp * 2, none⟩ = some (.int .i64 y.1) := q0
            have s3 : wr.drew.cell? ⟨B, off + jp * 2 + 1, none⟩ = some (.int .i64 y.2) := q1
            go_wp2_with fail
            have hwp : IntKind.i64.wrap (jp : Int) = (jp : Int) := by rw [IntKind.wrap_i64]; omega
            have jz1 : (jp : Int) < (d.size : Int) := by omega
            have hjaz' : (a : Int) < (jp : Int) + 1 := by omega
            have z0 : (0 : Int) ≤ (jp : Int) + 1 := by omega
            have e0 : ((jp : Int) + 1).toNat = jp + 1 := by omega
            go_region_held3 (fun wx => wx.cell? ⟨B, off + (jp + 1) * 2, none⟩ = some (.int .i64 x.1) ∧ wx.cell? ⟨B, off + (jp + 1) * 2 + 1, none⟩ = some (.int .i64 x.2) ∧ wx.cell? ⟨B, off + jp * 2, none⟩ = some (.int .i64 y.1) ∧ wx.cell? ⟨B, off + jp * 2 + 1, none⟩ = some (.int .i64 y.2)) (first | with_reducible exact ⟨s0, s1, s2, s3⟩ | with_reducible exact ⟨k0, k1, k2, k3⟩) (first | (go_at_call 78; refine (cmp78 x y _).mono ?_; rintro e w1 ⟨rfl, hw1⟩; have k0 := hw1.cell s0; have k1 := hw1.cell s1; have k2 := hw1.cell s2; have k3 := hw1.cell s3))
            clear hwp e0
            have HG2 := Lib.hid (grownBy_more (grownBy_more HGJ.out (more_drew wr)) hw1)
            have HN2 := Lib.hid (HJ.out.keep (hw1.block hBr))
            have HS2 := Lib.hid (show dj.size = d.size ∧ insOuter keyLt a b (i + 1) dj = insertionSort keyLt d a b from ⟨HEJ.out.1, by rw [← HEJ.out.2, HX.out.2 HC.out]⟩)
            clear hw1 p0 p1 q0 q1 s0 s1 s2 s3 f0 f1 f2 f3 k0 k1 k2 k3
            go_wp2_with fail
            go_roundw
            case rel => exact ⟨i + 1, dj, by go_num, by omega, by omega, HG2, HN2, HS2⟩
            case measure => simp [intOf]; omega
        · have t0 : decide (a < j) = false := by simpa using hja
          have HS2 := Lib.hid (show dj.size = d.size ∧ insOuter keyLt a b (i + 1) dj = insertionSort keyLt d a b from ⟨HEJ.out.1, by rw [← HEJ.out.2, insInner_no a j dj hja]⟩)
          go_wp2_with fail
          go_quiet (fail)
          go_wp2_with fail
          go_roundw
          case rel => exact ⟨i + 1, dj, by go_num, by omega, by omega, Lib.hid (grownBy_trans HGJ.out (grownBy_drewN _ _ _)), Lib.hid (HJ.out.keep rfl), HS2⟩
          case measure => simp [intOf]; omega
    · have hE : dk = insertionSort keyLt d a b := by rw [← HE.out.2, insOuter_stop a b i dk hlt]
      have HE' := Lib.hid hE; clear hE
      go_wp2_with fail
      go_end0
      exact ⟨rfl, HG.out, by rw [← HE'.out]; exact HK.out⟩
end Go.Proofs.Ytekhoanjpnjaeaa

/- slices.stableCmpFunc (118) and slices.SortStableFunc (77) at no more than 20 entries. -/
namespace Go.Proofs.Ytekhoanjpnjaeaa
open Go.RowKit Go.Sort
theorem insert_none (d : Array (Int × Int)) (a b : Nat) (h : b ≤ a + 1) : insertionSort keyLt d a b = d := by
  unfold insertionSort
  exact insOuter_stop a b (a + 1) d (by omega)

theorem insert_at (d : Array (Int × Int)) (B off cap a b N : Nat) (w : World) (hN : d.size = N) (hab : a ≤ b) (hb : b ≤ N) (hsz : N < 4294967296) (hB : B < w.heap.size) (hH : HoldE w B off d) :
    Calls Try.prog 134 #[.slice (some ⟨B, off, none⟩) N cap, .int .i64 a, .int .i64 b, .func (.func 78) #[] #[]] w fun e w' => e = .returned (.tuple #[]) ∧ w.grownBy w' (some B) ∧ HoldE w' B off (insertionSort keyLt d a b) := by
  subst hN
  exact insert_any d B off cap a b w hab hb hsz hB hH

set_option maxHeartbeats 1000000 in
set_option maxRecDepth 100000 in
theorem stable_small (d : Array (Int × Int)) (B off cap : Nat) (w : World) (hsz : d.size ≤ 20) (hB : B < w.heap.size) (hH : HoldE w B off d) :
    Calls Try.prog 118 #[.slice (some ⟨B, off, none⟩) d.size cap, .int .i64 d.size, .func (.func 78) #[] #[]] w fun e w' => e = .returned (.tuple #[]) ∧ w.grownBy w' (some B) ∧ HoldE w' B off (insertionSort keyLt d 0 d.size) := by
  have HH := Lib.hid hH; clear hH
  go_enter Try.func118, Try.ntmps118
  go_wp2_with fail
  go_loopw [7, 8] (fun va vb wr => ∃ (c a : Nat) (dk : Array (Int × Int)), va = .int .i64 a ∧ vb = .int .i64 (a + 20) ∧ a ≤ d.size ∧ Hid (w.grownBy wr (some B)) ∧ Hid (HoldE wr B off dk) ∧ Hid (dk.size = d.size ∧ insertionSort keyLt dk a d.size = insertionSort keyLt d 0 d.size)) (fun va _ _ => d.size - (intOf va).toNat)
  case atStart => exact ⟨0, 0, d, rfl, rfl, Nat.zero_le _, Lib.hid (World.grownBy.refl _ _), HH, Lib.hid ⟨rfl, rfl⟩⟩
  case round =>
    obtain ⟨c, a, dk, rfl, rfl, ha, HG, HK, HE⟩ := hrel
    have hBw : B < wr.heap.size := Nat.lt_of_lt_of_le hB HG.out.size
    have hs := HE.out.1
    have HS := Lib.hid hs; clear hs
    by_cases hlt : a + 20 ≤ d.size
    · have ha0 : a = 0 := by omega
      subst ha0
      go_wp2_with fail
      refine (insert_at dk B off cap 0 20 d.size wr HS.out (by omega) (by omega) (by omega) hBw HK.out).mono ?_
      rintro e w1 ⟨rfl, hg1, hh1⟩
      have hs1 := (insertion_stab dk 0 20 (by omega) (by rw [HS.out]; omega)).2.1
      have HR := Lib.hid (show (insertionSort keyLt dk 0 20).size = d.size ∧ insertionSort keyLt (insertionSort keyLt dk 0 20) 20 d.size = insertionSort keyLt d 0 d.size by
        have h20 : d.size = 20 := by omega
        refine ⟨by rw [hs1]; exact HS.out, ?_⟩
        have h2 := HE.out.2
        rw [h20] at h2 ⊢
        rw [h2]
        exact insert_none _ 20 20 (by omega))
      have HG1 := Lib.hid (grownBy_trans HG.out hg1)
      have HH1 := Lib.hid hh1
      clear hg1 hh1 hs1
      go_wp2_with fail
      go_roundw
      case rel => exact ⟨0, 20, _, by first | rfl | go_num, by first | rfl | go_num, by omega, HG1, HH1, HR⟩
      case measure => simp [intOf]; omega
    · go_wp2_with fail
      refine (insert_at dk B off cap a d.size d.size wr HS.out (by omega) (by omega) (by omega) hBw HK.out).mono ?_
      rintro e w1 ⟨rfl, hg1, hh1⟩
      have HG1 := Lib.hid (grownBy_trans HG.out hg1)
      have HH1 := Lib.hid (show HoldE w1 B off (insertionSort keyLt d 0 d.size) by rw [← HE.out.2]; exact hh1)
      clear hg1 hh1 
      go_wp2_with fail
      refine wp_loop_rounds 1 ?_
      rw [rounds_succ]
      go_wp2_with fail
      go_end0
      exact ⟨rfl, HG1.out, HH1.out⟩

theorem sort_small (d : Array (Int × Int)) (B off cap : Nat) (w : World) (hsz : d.size ≤ 20) (hB : B < w.heap.size) (hH : HoldE w B off d) :
    Calls Try.prog 77 #[.slice (some ⟨B, off, none⟩) d.size cap, .func (.func 78) #[] #[]] w fun e w' => e = .returned (.tuple #[]) ∧ w.grownBy w' (some B) ∧ HoldE w' B off (insertionSort keyLt d 0 d.size) := by
  have HH := Lib.hid hH; clear hH
  go_enter Try.func77, Try.ntmps77
  go_wp2_with fail
  refine (stable_small d B off cap w hsz hB HH.out).mono ?_
  rintro e w1 ⟨rfl, hg1, hh1⟩
  have HG1 := Lib.hid hg1
  have HH1 := Lib.hid hh1
  clear hg1 hh1
  go_wp2_with fail
  go_end0
  exact ⟨rfl, HG1.out, HH1.out⟩
end Go.Proofs.Ytekhoanjpnjaeaa

/- table.Of (38) at no more than 20 entries. -/
namespace Go.Proofs.Ytekhoanjpnjaeaa
open Go.RowKit Go.Sort

theorem sort_any (d : Array (Int × Int)) (B off cap N : Nat) (w : World) (hN : d.size = N) (hsz : N ≤ 20) (hB : B < w.heap.size) (hH : HoldE w B off d) :
    Calls Try.prog 77 #[.slice (some ⟨B, off, none⟩) N cap, .func (.func 78) #[] #[]] w fun e w' => e = .returned (.tuple #[]) ∧ w.grownBy w' (some B) ∧ ∃ d', d'.size = N ∧ Stab d.toList d'.toList ∧ Srt d'.toList ∧ HoldE w' B off d' := by
  subst hN
  refine (sort_small d B off cap w hsz hB hH).mono ?_
  rintro e w' ⟨rfl, hg, hh⟩
  obtain ⟨h1, h2, _, h4⟩ := insertion_stab d 0 d.size (Nat.zero_le _) (Nat.le_refl _)
  exact ⟨rfl, hg, _, h2, h1, srt_of (by rw [h2]; exact h4), hh⟩

theorem Try.info151b : (Try.prog.info? 151).map (fun i => (i.zero, i.size, i.bytes)) = some (some (.agg #[.int .i64 0, .int .i64 0]), 2, 16) := by kernel_rfl
theorem run_make151 (n : Nat) (hn : n < 4294967296) (w : World) :
    (Instr.makeSlice 52 (.int .i64 (n : Int)) (.int .i64 (n : Int))).run Try.prog w = .ok (.slice (some ⟨w.heap.size, 0, none⟩) n n) (w.alloc (.cells (madeCells #[.int .i64 0, .int .i64 0] (n * 2)) 151)) := by
  obtain ⟨i, hi, hzz⟩ := Option.map_eq_some_iff.1 Try.info151b
  simp only [Prod.mk.injEq] at hzz
  obtain ⟨hz, hs, hb⟩ := hzz
  have hr := run_make (P := Try.prog) w 52 151 i _ Try.underlying52 hi hz .i64 .i64 n n (by omega) (Int.le_refl _) (by rw [hb]; omega) (by omega)
  simp only [Int.toNat_natCast, hs] at hr
  exact hr

/-- The world at the head of the first loop: k entries are copied. -/
structure OfInv (w : World) (l : List (Int × Int)) (k : Nat) (wr : World) : Prop where
  below : Below w.heap.size w wr
  size : w.heap.size + 1 + 1 ≤ wr.heap.size
  res : wr.heap[w.heap.size]? = some (.cells #[.slice none 0 0] 54)
  arr : ∃ arr : Array Value, wr.heap[w.heap.size + 1]? = some (.cells arr 151) ∧ arr.size = l.length * 2 ∧ ∀ i (h : i < l.length), i < k → arr[i * 2]? = some (.int .i64 l[i].1) ∧ arr[i * 2 + 1]? = some (.int .i64 l[i].2)
theorem OfInv.start (w : World) (l : List (Int × Int)) : OfInv w l 0 ((w.alloc (.cells #[.slice none 0 0] 54)).alloc (.cells (madeCells #[.int .i64 0, .int .i64 0] (l.length * 2)) 151)) := by
  refine ⟨((Below.refl _ _).alloc (Nat.le_refl _) _).alloc (by simp) _, by simp, ?_, _, alloc_at _ _ (by simp), ?_, fun _ _ h => absurd h (Nat.not_lt_zero _)⟩
  · rw [Below.heap_alloc _ _ _ (by simp)]; exact alloc_last _ _
  · simp [madeCells]

theorem OfInv.step {w wr : World} {l : List (Int × Int)} {k : Nat} (h : OfInv w l k wr) (hk : k < l.length) (o : Obj) : OfInv w l (k + 1) ((set2 wr (w.heap.size + 1) (k * 2) (.int .i64 l[k].1) (.int .i64 l[k].2)).alloc o) := by
  obtain ⟨arr, ha, hsz, hc⟩ := h.arr
  have hs := h.size
  have hss : (set2 wr (w.heap.size + 1) (k * 2) (.int .i64 l[k].1) (.int .i64 l[k].2)).heap.size = wr.heap.size := by simp [set2, World.setCell]
  refine ⟨((h.below.setCell (p := ⟨_, _, _⟩) (by simp) _).setCell (p := ⟨_, _, _⟩) (by simp) _).alloc (by show _ ≤ (set2 wr _ _ _ _).heap.size; rw [hss]; omega) _, by rw [World.size_alloc, hss]; omega, ?_, (arr.setIfInBounds (k * 2) (.int .i64 l[k].1)).setIfInBounds (k * 2 + 1) (.int .i64 l[k].2), ?_, by simpa using hsz, fun i hi hik => ?_⟩
  · rw [Below.heap_alloc _ _ _ (by rw [hss]; omega)]
    unfold set2
    rw [Below.heap_setCell _ _ _ _ (by simp), Below.heap_setCell _ _ _ _ (by simp)]
    exact h.res
  · rw [Below.heap_alloc _ _ _ (by rw [hss]; omega)]
    exact heap_setCell_same _ _ _ _ _ _ (heap_setCell_same _ _ _ _ _ _ ha)
  · simp only [Array.getElem?_setIfInBounds]
    by_cases e : i = k
    · subst e
      simp; omega
    · have := hc i hi (by omega)
      rw [if_neg (by omega), if_neg (by omega), if_neg (by omega), if_neg (by omega)]
      exact this
theorem OfInv.hold {w wr : World} {l : List (Int × Int)} (h : OfInv w l l.length wr) : HoldE wr (w.heap.size + 1) 0 l.toArray := by
  obtain ⟨arr, ha, hsz, hc⟩ := h.arr
  intro i hi
  have hi' : i < l.length := by simpa using hi
  obtain ⟨h1, h2⟩ := hc i hi' hi'
  have e : l.toArray[i]! = l[i] := by simp [hi']
  rw [e, Nat.zero_add]
  exact ⟨by simpa [World.cell?, ha] using h1, by simpa [World.cell?, ha] using h2, thaw ha _, thaw ha _⟩

theorem flat2_some {l : List (Int × Int)} {j : Nat} {u : Value} (h : (flat2 l)[j]? = some u) : ∃ i, ∃ hi : i < l.length, (j = i * 2 ∧ u = .int .i64 l[i].1) ∨ (j = i * 2 + 1 ∧ u = .int .i64 l[i].2) := by
  have hj : j < l.length * 2 := by rw [← flat2_length]; exact (List.getElem?_eq_some_iff.1 h).1
  have hi : j / 2 < l.length := by omega
  obtain ⟨h1, h2⟩ := flat2_get l (j / 2) hi
  refine ⟨j / 2, hi, ?_⟩
  rcases (show j = j / 2 * 2 ∨ j = j / 2 * 2 + 1 by omega) with e | e
  · rw [← e, h] at h1
    exact Or.inl ⟨e, Option.some.inj h1⟩
  · rw [← e, h] at h2
    exact Or.inr ⟨e, Option.some.inj h2⟩
theorem row_of_hold {S : Nat → Prop} {w : World} {B m cap : Nat} {d : Array (Int × Int)} {O : List (Int × Int)} (h : HoldE w B 0 d) (ht : d.toList.take m = O) (hm : O.length = m) (hc : m ≤ cap) (hS : S B) : Row S w 2 m (.slice (some ⟨B, 0, none⟩) m cap) (flat2 O) := by
  refine ⟨by rw [flat2_length, hm], _, _, rfl, hc, fun _ => ⟨B, 0, rfl, hS, fun j u hj => ?_⟩⟩
  obtain ⟨i, hi, hij⟩ := flat2_some hj
  have hd : i < d.size := by
    have : (d.toList.take m).length = m := by rw [ht, hm]
    rw [List.length_take, Array.length_toList] at this
    omega
  have e : d[i]! = O[i] := by
    rw [getElem!_pos d i hd]
    subst ht
    simp
  obtain ⟨h1, h2, _⟩ := h i hd
  rw [e] at h1 h2
  rcases hij with ⟨rfl, rfl⟩ | ⟨rfl, rfl⟩
  · exact h1
  · exact h2

/-- The world at the head of the second loop: of the sorted list s the first k entries are looked at, O of them are kept. -/
structure OfInv2 (w : World) (s : List (Int × Int)) (k : Nat) (O : List (Int × Int)) (wr : World) : Prop where
  below : Below w.heap.size w wr
  size : w.heap.size + 1 + 1 ≤ wr.heap.size
  res : wr.heap[w.heap.size]? = some (.cells #[.slice none 0 0] 54)
  hold : ∃ d : Array (Int × Int), HoldE wr (w.heap.size + 1) 0 d ∧ d.size = s.length ∧ d.toList.take O.length = O ∧ d.toList.drop k = s.drop k
  le : O.length ≤ k
  acc : O ++ lastsL (s.drop k) = lastsL s
def keepB (s : List (Int × Int)) (k : Nat) : Bool := if h : k + 1 < s.length then !(s[k + 1].1 == s[k].1) else true
theorem lasts_keep {s : List (Int × Int)} {k : Nat} (hk : k < s.length) : lastsL (s.drop k) = if keepB s k = true then s[k] :: lastsL (s.drop (k + 1)) else lastsL (s.drop (k + 1)) := by
  rw [List.drop_eq_getElem_cons hk]
  unfold keepB
  by_cases h : k + 1 < s.length
  · rw [dif_pos h, List.drop_eq_getElem_cons h, lastsL]
    by_cases e : s[k + 1].1 = s[k].1
    · rw [if_pos e, if_neg (by simp [e])]
    · rw [if_neg e, if_pos (by simp [e])]
  · rw [dif_neg h, if_pos rfl, List.drop_of_length_le (by omega)]; rfl
theorem OfInv2.at {w wr : World} {s O : List (Int × Int)} {k : Nat} (h : OfInv2 w s k O wr) {i : Nat} (hki : k ≤ i) (hi : i < s.length) :
    wr.cell? ⟨w.heap.size + 1, i * 2, none⟩ = some (.int .i64 s[i].1) ∧ wr.cell? ⟨w.heap.size + 1, i * 2 + 1, none⟩ = some (.int .i64 s[i].2) := by
  obtain ⟨d, hd, hsz, _, hdr⟩ := h.hold
  have hid : i < d.size := by omega
  have e : d[i]! = s[i] := by
    have h1 : (d.toList.drop k)[i - k]? = (s.drop k)[i - k]? := by rw [hdr]
    rw [List.getElem?_drop, List.getElem?_drop, show k + (i - k) = i by omega, List.getElem?_eq_getElem hi, List.getElem?_eq_getElem (by simpa using hid)] at h1
    rw [getElem!_pos d i hid]
    simpa using h1
  obtain ⟨h1, h2, _⟩ := hd i hid
  rw [e, Nat.zero_add] at h1 h2
  exact ⟨h1, h2⟩
theorem OfInv2.more {w wr : World} {s O : List (Int × Int)} {k : Nat} (h : OfInv2 w s k O wr) {w' : World} (hm : More wr w') : OfInv2 w s k O w' := by
  obtain ⟨d, hd, hsz, h3, h4⟩ := h.hold
  have hs := h.size
  exact ⟨h.below.trans (hm.below.mono h.below.size), by have := hm.size; omega, by rw [hm.block (by omega)]; exact h.res, ⟨d, hd.keep (hm.block (by omega)), hsz, h3, h4⟩, h.le, h.acc⟩
theorem OfInv2.spare {w wr : World} {s O : List (Int × Int)} {k : Nat} (h : OfInv2 w s k O wr) (hk : k < s.length) :
    ∃ v0 v1, wr.cell? ⟨w.heap.size + 1, O.length * 2, none⟩ = some v0 ∧ wr.cell? ⟨w.heap.size + 1, O.length * 2 + 1, none⟩ = some v1 ∧ wr.frozen? ⟨w.heap.size + 1, O.length * 2, none⟩ = false ∧ wr.frozen? ⟨w.heap.size + 1, O.length * 2 + 1, none⟩ = false := by
  obtain ⟨d, hd, hsz, _⟩ := h.hold
  have hle := h.le
  obtain ⟨h1, h2, h3, h4⟩ := hd O.length (by omega)
  rw [Nat.zero_add] at h1 h2 h3 h4
  exact ⟨_, _, h1, h2, h3, h4⟩
theorem OfInv2.skip {w wr : World} {s O : List (Int × Int)} {k : Nat} (h : OfInv2 w s k O wr) (hk : k < s.length) (hb : keepB s k = false) {w' : World} (hm : More wr w') : OfInv2 w s (k + 1) O w' := by
  obtain ⟨d, hd, hsz, h3, h4⟩ := h.hold
  have hs := h.size
  refine ⟨h.below.trans (hm.below.mono h.below.size), by have := hm.size; omega, by rw [hm.block (by omega)]; exact h.res, ⟨d, hd.keep (hm.block (by omega)), hsz, h3, ?_⟩, by have := h.le; omega, ?_⟩
  · rw [← List.drop_drop, ← List.drop_drop, h4]
  · rw [← h.acc, lasts_keep hk, hb]; rfl
theorem OfInv2.push {w wr : World} {s O : List (Int × Int)} {k : Nat} (h : OfInv2 w s k O wr) (hk : k < s.length) (hb : keepB s k = true) {w' : World} (hm : More wr w') :
    OfInv2 w s (k + 1) (O ++ [s[k]]) (set2 w' (w.heap.size + 1) (O.length * 2) (.int .i64 s[k].1) (.int .i64 s[k].2)) := by
  obtain ⟨d, hd, hsz, h3, h4⟩ := h.hold
  have hs := h.size
  have hle := h.le
  have hB := hm.size
  have hh := set2_cell (hd.keep (hm.block (b := w.heap.size + 1) (by omega))) (i := O.length) (by omega) s[k]
  rw [Nat.zero_add] at hh
  refine ⟨?_, by simp [set2, World.setCell]; omega, ?_, ⟨_, hh, by simpa using hsz, ?_, ?_⟩, by simp; omega, ?_⟩
  · exact ((h.below.trans (hm.below.mono h.below.size)).setCell (p := ⟨_, _, _⟩) (by simp) _).setCell (p := ⟨_, _, _⟩) (by simp) _
  · unfold set2
    rw [Below.heap_setCell _ _ _ _ (by simp), Below.heap_setCell _ _ _ _ (by simp), hm.block (by omega)]; exact h.res
  · have hl : O.length < d.toList.length := by simp; omega
    rw [Array.toList_setIfInBounds, List.length_append, List.length_singleton, List.take_succ_eq_append_getElem (by simpa using hl), List.take_set_of_le (Nat.le_refl _), h3]
    simp
  · rw [Array.toList_setIfInBounds, List.drop_set_of_lt (by omega), ← List.drop_drop, ← List.drop_drop, h4]
  · rw [← h.acc, lasts_keep hk, hb]; simp

set_option maxHeartbeats 2000000 in
set_option maxRecDepth 100000 in
theorem of_any (S : Nat → Prop) (l : List (Int × Int)) (v : Value) (w : World) (hl : l.length ≤ 20) (h : Row S w 2 l.length v (flat2 l)) :
    Calls Try.prog 38 #[v] w fun e w' => Below w.heap.size w w' ∧ ∃ tv, e = .returned (.agg #[tv]) ∧ Row (fun x => w.heap.size ≤ x) w' 2 (ofL l).length tv (flat2 (ofL l)) := by
  obtain ⟨a, cap, rfl, hcap⟩ := h.shape
  have HR := Lib.hid h; clear h
  have hmk := run_make151 l.length (by omega)
  go_enter Try.func38, Try.ntmps38
  go_wp2_with fail
  clear hmk
  go_loopw [14] (fun i wr => ∃ k : Nat, k ≤ l.length ∧ i = .int .i64 k ∧ Hid (OfInv w l k wr)) (fun i _ => l.length - (intOf i).toNat)
  case atStart => exact ⟨0, Nat.zero_le _, rfl, Lib.hid (OfInv.start w l)⟩
  case round =>
    obtain ⟨k, hk, rfl, HI⟩ := hrel
    by_cases hlt : k < l.length
    · obtain ⟨b, off, rfl, _, _, hc⟩ := HR.out.at (by omega)
      have g0 := below_cell HI.out.below (hc _ _ (flat2_get l k hlt).1)
      have g1 := below_cell HI.out.below (hc _ _ (flat2_get l k hlt).2)
      clear hc
      rw [← Nat.add_assoc] at g1
      have HN := Lib.hid (HI.out.step hlt (.cells #[.int .i64 l[k].1, .int .i64 l[k].2] 66))
      obtain ⟨arr, ha, hsz, _⟩ := HI.out.arr
      have c0 : wr.cell? ⟨w.heap.size + 1, k * 2, none⟩ = some arr[k * 2] := by simp [World.cell?, ha]
      have c1 : wr.cell? ⟨w.heap.size + 1, k * 2 + 1, none⟩ = some arr[k * 2 + 1] := by simp [World.cell?, ha]
      have f0 := thaw ha (k * 2)
      have f1 := thaw ha (k * 2 + 1)
      have hBl := cell_lt c0
      clear ha
      generalize arr[k * 2] = v0 at *
      generalize arr[k * 2 + 1] = v1 at *
      clear hsz
      go_wp2_with fail
      go_roundw
      case rel => exact ⟨k + 1, by omega, by go_num, HN⟩
      case measure => simp [intOf]; omega
    · obtain rfl : k = l.length := by omega
      have hs1 := HI.out.size
      go_wp2_with fail
      refine (sort_any l.toArray (w.heap.size + 1) 0 l.length l.length wr (by simp) hl (by omega) HI.out.hold).mono ?_
      rintro e w1 ⟨rfl, hg1, d1, hd1, hst, hsr, hh1⟩
      have HL := Lib.hid (lasts_of hsr hst)
      have HI2 := Lib.hid (show OfInv2 w d1.toList 0 [] w1 from ⟨HI.out.below.grown hg1 HI.out.below.size (fun k e => by cases e; omega), by have := hg1.size; omega, by rw [hg1.block _ (by omega) (by simp)]; exact HI.out.res, ⟨d1, hh1, by simp, rfl, rfl⟩, Nat.zero_le _, rfl⟩)
      have hsl : d1.toList.length = l.length := by simpa using hd1
      generalize d1.toList = s at *
      have HSL := Lib.hid hsl
      clear hg1 hd1 hst hsr hh1 HI hsl
      go_wp2_with fail
      go_loopw [6, 34] (fun lv i wr => ∃ (k : Nat) (O : List (Int × Int)), k ≤ l.length ∧ i = .int .i64 k ∧ lv = .slice (some ⟨w.heap.size + 1, 0, none⟩) O.length l.length ∧ Hid (OfInv2 w s k O wr)) (fun _ i _ => l.length - (intOf i).toNat)
      case atStart => exact ⟨0, [], Nat.zero_le _, rfl, rfl, HI2⟩
      case round =>
        obtain ⟨k, O, hk, rfl, rfl, HI⟩ := hrel
        have hsz := HI.out.size
        by_cases hlt : k < l.length
        · have hks : k < s.length := by have := HSL.out; omega
          obtain ⟨x0, x1⟩ := HI.out.at (Nat.le_refl k) hks
          have hB := cell_lt x0
          have hOk := HI.out.le
          have HSK := Lib.hid (fun (w' : World) (hm : More wr w') (hb : keepB s k = false) => HI.out.skip hks hb hm)
          have HPU := Lib.hid (fun (w' : World) (hm : More wr w') (hb : keepB s k = true) => HI.out.push hks hb hm)
          obtain ⟨v0, v1, c0, c1, f0, f1⟩ := HI.out.spare hks
          by_cases hlast : k + 1 = l.length
          · have t1 : ((k : Int) + 1 == (l.length : Int)) = true := by simp; omega
            have HKB := Lib.hid (show keepB s k = true by unfold keepB; rw [dif_neg (by have := HSL.out; omega)])
            clear hlast
            generalize s[k] = x at *
            go_wp2_with fail
            go_quiet (fail)
            generalize hw2 : (wr.alloc (.cells #[.int .i64 x.1, .int .i64 x.2] 151)).drewN nq = w2
            have hm2 : More wr w2 := by rw [← hw2]; exact grownBy_trans (World.grownBy_alloc _ _ _) (grownBy_drewN _ _ _)
            have hx2 : w2.heap[wr.heap.size]? = some (.cells #[.int .i64 x.1, .int .i64 x.2] 151) := by rw [← hw2]; exact alloc_last _ _
            clear hw2
            have d0 := hm2.cell c0
            have d1 := hm2.cell c1
            have e0 := hm2.frozen hB f0
            have e1 := hm2.frozen hB f1
            have b0 : w2.cell? ⟨wr.heap.size, 0, none⟩ = some (.int .i64 x.1) := by simp [World.cell?, hx2]
            have b1 : w2.cell? ⟨wr.heap.size, 1, none⟩ = some (.int .i64 x.2) := by simp [World.cell?, hx2]
            have hB2 := cell_lt d0
            have HP := Lib.hid ((HPU.out w2 hm2 HKB.out).more (World.grownBy_alloc _ (.cells #[.int .i64 x.1, .int .i64 x.2] 151) _))
            clear hm2 hx2 c0 c1 f0 f1 x0 x1
            go_wp2_with fail
            go_roundw
            case rel => exact ⟨k + 1, O ++ [x], by omega, by go_num, by simp, HP⟩
            case measure => simp [intOf]; omega
          · have t1 : ((k : Int) + 1 == (l.length : Int)) = false := by simp; omega
            have hk1 : k + 1 < s.length := by have := HSL.out; omega
            obtain ⟨y0, y1⟩ := HI.out.at (Nat.le_succ k) hk1
            have hk1' : k + 1 < l.length := by omega
            clear hlast
            have HKB := Lib.hid (show keepB s k = !(s[k + 1].1 == s[k].1) by unfold keepB; rw [dif_pos hk1])
            generalize s[k] = x at *
            generalize s[k + 1] = y at *
            cases hc : (y.1 == x.1) with
            | true =>
              have HC := Lib.hid (show keepB s k = false by rw [HKB.out, hc]; rfl)
              have t2 : (y.1 != x.1) = false := by rw [bne, hc]; rfl
              clear hc
              go_wp2_with fail
              go_quiet (fail)
              go_wp2_with fail
              go_roundw
              case rel => exact ⟨k + 1, O, by omega, by go_num, rfl, Lib.hid (HSK.out _ (grownBy_trans (World.grownBy_alloc _ _ _) (grownBy_drewN _ _ _)) HC.out)⟩
              case measure => simp [intOf]; omega
            | false =>
              have HC := Lib.hid (show keepB s k = true by rw [HKB.out, hc]; rfl)
              have t2 : (y.1 != x.1) = true := by rw [bne, hc]; rfl
              clear hc
              go_wp2_with fail
              go_quiet (fail)
              generalize hw2 : (wr.alloc (.cells #[.int .i64 x.1, .int .i64 x.2] 151)).drewN nq = w2
              have hm2 : More wr w2 := by rw [← hw2]; exact grownBy_trans (World.grownBy_alloc _ _ _) (grownBy_drewN _ _ _)
              have hx2 : w2.heap[wr.heap.size]? = some (.cells #[.int .i64 x.1, .int .i64 x.2] 151) := by rw [← hw2]; exact alloc_last _ _
              clear hw2
              have d0 := hm2.cell c0
              have d1 := hm2.cell c1
              have e0 := hm2.frozen hB f0
              have e1 := hm2.frozen hB f1
              have b0 : w2.cell? ⟨wr.heap.size, 0, none⟩ = some (.int .i64 x.1) := by simp [World.cell?, hx2]
              have b1 : w2.cell? ⟨wr.heap.size, 1, none⟩ = some (.int .i64 x.2) := by simp [World.cell?, hx2]
              have hB2 := cell_lt d0
              have HP := Lib.hid ((HPU.out w2 hm2 HC.out).more (World.grownBy_alloc _ (.cells #[.int .i64 x.1, .int .i64 x.2] 151) _))
              clear hm2 hx2 c0 c1 f0 f1 x0 x1
              go_wp2_with fail
              go_roundw
              case rel => exact ⟨k + 1, O ++ [x], by omega, by go_num, by simp, HP⟩
              case measure => simp [intOf]; omega
        · obtain rfl : k = l.length := by omega
          have z0 : wr.cell? ⟨w.heap.size, 0, none⟩ = some (.slice none 0 0) := by simp [World.cell?, HI.out.res]
          have f0 := thaw HI.out.res 0
          have hz := cell_lt z0
          have HO := Lib.hid (show O = ofL l by
            have h1 := HI.out.acc
            rw [List.drop_of_length_le (by have := HSL.out; omega), lastsL, List.append_nil] at h1
            rw [h1]; exact HL.out)
          go_wp2_with fail
          refine bodyPost_ret (v := .agg #[.slice (some ⟨w.heap.size + 1, 0, none⟩) O.length l.length]) (by simp [results, Try.results38, go_sem, z0]) rfl ?_
          refine ⟨HI.out.below.setCell (p := ⟨_, _, _⟩) (Nat.le_refl _) _, _, rfl, ?_⟩
          rw [← HO.out]
          obtain ⟨d, hd, hdz, h3, h4⟩ := HI.out.hold
          exact row_of_hold (hd.keep (Below.heap_setCell _ _ _ _ (by simp))) h3 rfl HI.out.le (by omega)
end Go.Proofs.Ytekhoanjpnjaeaa

