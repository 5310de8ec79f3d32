/- Texts MkS, laid together. -/
import Derived.Test.YtekhoanjpnjaeaaNh
import Derived.Test.YtekhoanjpnjaeaaNr
/- (*maker).numbers (156). -/
namespace Go.Proofs.Ytekhoanjpnjaeaa
open Go.RowKit
/-- k int expressions made of bytes, one behind the other. -/
def numsF (d : MkD) (prm : Int) : Nat → List Int → List Ex × List Int
  | 0, l => ([], l)
  | k + 1, l => ((numsF d prm k l).1 ++ [(numF d prm 3 1 (numsF d prm k l).2).1], (numF d prm 3 1 (numsF d prm k l).2).2)
theorem numsF_len (d : MkD) (prm : Int) (l : List Int) : ∀ k, (numsF d prm k l).1.length = k
  | 0 => rfl
  | k + 1 => by simp [numsF, numsF_len d prm l k]
theorem MkAt.keep {W W' : World} {MB : Nat} {d : MkD} {prm left : Int} {l : List Int} (h : MkAt W MB d prm left l) (hb : ∀ x, x ≤ MB → W'.heap[x]? = W.heap[x]?) : MkAt W' MB d prm left l := by
  obtain ⟨a, cap, h1, h2⟩ := h.ex
  exact ⟨⟨a, cap, (hb MB (Nat.le_refl _)).trans h1, h2.mono (fun _ k => k) (fun b off u hS hc => by rw [World.cell?_of_block (a := ⟨b, off, none⟩) (hb b (Nat.le_of_lt hS))]; exact hc)⟩, h.by', h.len⟩
theorem grow_own {a b c : World} {B : Nat} {o : Option Nat} (h : a.grownBy b (some B)) (k : b.grownBy c o) (ho : ∀ x, o = some x → a.heap.size ≤ x) : a.grownBy c (some B) :=
  ⟨k.os.trans h.os, k.tape.trans h.tape, k.output.trans h.output, Nat.le_trans h.size k.size, fun j hj hn => (k.block j (Nat.lt_of_lt_of_le hj h.size) (fun e => by have := ho j e.symm; omega)).trans (h.block j hj hn)⟩
theorem alloc_more (w : World) (o : Obj) : More w (w.alloc o) := more_allocD w o
set_option maxRecDepth 100000 in
set_option maxHeartbeats 2000000 in
theorem numbersG_any (MB : Nat) (d : MkD) (prm left : Int) (n : Nat) (l : List Int) (w : World) (h : MkAt w MB d prm left l) (hd : d.Ok prm) (hn : n ≤ 1000) :
    Calls Try.prog 156 #[.pointer (some ⟨MB, 0, none⟩), .int .i64 n] w fun e w' => ∃ c, e = .returned c ∧ Grow .i64 36 w.heap.size w' 3 c (numsF d prm n l).1 ∧ MkAt w' MB d prm left (numsF d prm n l).2 ∧ w.grownBy w' (some MB) := by
  have HM := Lib.hid h; clear h
  have HD := Lib.hid hd; clear hd
  have HLT := Lib.hid HM.out.lt
  obtain ⟨i0, hi0, hz0, hz1, hz2⟩ := info_parts Try.info36
  go_enter Try.func156, Try.ntmps156
  go_wp2_with fail
  go_loopw [5, 6] (fun sv i wr => ∃ k : Nat, k ≤ n ∧ i = .int .i64 k ∧ Grow .i64 36 w.heap.size wr 3 sv (numsF d prm k l).1 ∧ MkAt wr MB d prm left (numsF d prm k l).2 ∧ w.grownBy wr (some MB)) (fun _ i _ => n - (intOf i).toNat)
  case atStart => exact ⟨0, Nat.zero_le _, rfl, Grow.nil _ _ _ _ _, HM.out, ⟨rfl, rfl, rfl, Nat.le_refl _, fun _ _ _ => rfl⟩⟩
  case round =>
    obtain ⟨k, hk, rfl, hgr, hmk, hgb⟩ := hrel
    have HGR := Lib.hid hgr; clear hgr
    have HMK := Lib.hid hmk; clear hmk
    have HGB := Lib.hid hgb; clear hgb
    have HLN := Lib.hid (numsF_len d prm l k)
    by_cases hlt : k < n
    · have t1 : decide ((k : Int) < (n : Int)) = true := decide_eq_true (by omega)
      have HC := Lib.hid (number_any 3 MB d prm left 1 (numsF d prm k l).2 wr HMK.out HD.out (by omega) (by omega) (by omega))
      have HST := Lib.hid (show numsF d prm (k + 1) l = ((numsF d prm k l).1 ++ [(numF d prm 3 1 (numsF d prm k l).2).1], (numF d prm 3 1 (numsF d prm k l).2).2) from rfl)
      generalize hR : numF d prm 3 1 (numsF d prm k l).2 = R at *
      clear hR
      generalize hX : numsF d prm k l = X at *
      clear hX
      obtain ⟨y, l2⟩ := R
      obtain ⟨ts, l1⟩ := X
      dsimp only at HC HST HMK HGR HLN
      obtain ⟨asv, capsv, rfl, hown⟩ := HGR.out.shape
      rw [HLN.out] at hown
      have HOWN := Lib.hid hown; clear hown
      rw [HLN.out] at HGR
      rw [HLN.out]
      go_wp2_with fail
      refine HC.out.mono ?_
      rintro e w1 ⟨c1, rfl, hf1, hr1, hm1, hg1⟩
      obtain ⟨a1, cap1, rfl⟩ := hr1.shape
      have HY := Lib.hid (And.intro hf1 hr1); clear hf1 hr1
      have HM1 := Lib.hid hm1; clear hm1
      have HG1 := Lib.hid hg1; clear hg1
      have hsz1 := HG1.out.size
      have hszb := HGB.out.size
      dsimp only at HY HM1
      unfold agg
      have HA1 := Lib.hid (alloc_more w1 (.cells #[.int .i64 y.op, .string y.name, .int .i64 y.n, .slice a1 y.args.length cap1] 36))
      have HLT2 := Lib.hid (show MB < w1.heap.size from HM1.out.lt)
      have HG2 := Lib.hid (grow_trans HG1.out (grow_more HA1.out))
      obtain ⟨xs, hox, hpush⟩ := (HGR.out.keep (w' := w1.alloc (.cells #[.int .i64 y.op, .string y.name, .int .i64 y.n, .slice a1 y.args.length cap1] 36)) (fun z hz1 hz2 => HG2.out.block z hz2 (fun e => by have := HLT.out; simp only [Option.some.injEq] at e; omega))).open
      rw [HLN.out] at hox
      have HOX := Lib.hid hox
      have HPU := Lib.hid hpush
      clear hox hpush
      have hm1 : k + 1 ≤ maxLen := by unfold maxLen; omega
      have hm2 : (k + 1) * 56 ≤ 140737488355328 := by omega
      have hbs : w.heap.size ≤ (w1.alloc (.cells #[.int .i64 y.op, .string y.name, .int .i64 y.n, .slice a1 y.args.length cap1] 36)).heap.size := by simp; omega
      have HNS := Lib.hid (fun (w2 : World) (gg cap2 : Nat) (h1 : w2.ownsRow w.heap.size 36 4 (.slice (some ⟨gg, 0, none⟩) (k + 1) cap2) (k + 1) (xs ++ [.int .i64 y.op, .string y.name, .int .i64 y.n, .slice a1 y.args.length cap1]))
          (h2 : (w1.alloc (.cells #[.int .i64 y.op, .string y.name, .int .i64 y.n, .slice a1 y.args.length cap1] 36)).grownBy w2 (Value.slice asv k capsv).ownBlock)
          (h3 : (Value.slice asv k capsv).ownBlock = some gg ∨ gg = (w1.alloc (.cells #[.int .i64 y.op, .string y.name, .int .i64 y.n, .slice a1 y.args.length cap1] 36)).heap.size) =>
        show Grow .i64 36 w.heap.size w2 3 (.slice (some ⟨gg, 0, none⟩) (k + 1) cap2) (ts ++ [y]) ∧ MkAt w2 MB d prm left l2 ∧ w.grownBy w2 (some MB) by
          have hOW : ∀ x, (Value.slice asv k capsv).ownBlock = some x → w.heap.size ≤ x ∧ x < wr.heap.size := HOWN.out
          refine ⟨?_, (HM1.out.more HA1.out).keep (fun x hx => h2.block x (by have := HLT2.out; rw [World.size_alloc]; omega) (fun e => by have := (hOW x e.symm).1; have := HLT.out; omega)), grow_own (grow_trans HGB.out HG2.out) h2 (fun x e => (hOW x e).1)⟩
          have hh := HPU.out w2 gg cap2 _ y (.slice a1 y.args.length cap1) (by rw [HLN.out]; exact h1) h2 h3 (Nat.le_refl _) HY.out.1 (HY.out.2.mono2 (fun z o v hz hv => ⟨⟨by have h9 : wr.heap.size ≤ z := hz; omega, fun e => by have h9 : wr.heap.size ≤ z := hz; have := (hOW _ e).2; omega⟩, alloc_cell _ hv⟩) (Nat.le_refl _))
          rwa [HLN.out] at hh)
      go_wp2_with (at_builtin; refine wpList_append_lies _ rfl _ _ _ rfl w.heap.size 36 i0 _ 4 56 Try.underlying34 hi0 hz0 hz1 hz2 rfl (by omega) (.slice asv k capsv) k xs rfl HOX.out ⟨w1.heap.size, 0, none⟩ 1 1 [.int .i64 y.op, .string y.name, .int .i64 y.n, .slice a1 y.args.length cap1] rfl rfl (World.news_of_block (cs := #[.int .i64 y.op, .string y.name, .int .i64 y.n, .slice a1 y.args.length cap1]) (t := 36) (fr := (0, 0)) (heap_alloc_new w1 _)) (by simp [Value.oneCell']) (by omega) hm1 hm2 hbs _ rfl ?_; intro gg cap2 w2 hown2 hgrow2 hat2 hlt2; have HNX := Lib.hid (HNS.out w2 gg cap2 hown2 hgrow2 hat2); clear hown2 hgrow2 hat2)
      go_roundw
      case rel => exact ⟨k + 1, by omega, by go_num, by rw [HST.out]; exact HNX.out.1, by rw [HST.out]; exact HNX.out.2.1, HNX.out.2.2⟩
      case measure => simp [intOf]; omega
    · have t1 : decide ((k : Int) < (n : Int)) = false := decide_eq_false (by omega)
      have hkn : k = n := by omega
      subst hkn
      go_wp2_with fail
      go_ret
      exact ⟨_, rfl, HGR.out, HMK.out, HGB.out⟩
theorem numbers_any (MB : Nat) (d : MkD) (prm left : Int) (n : Nat) (l : List Int) (w : World) (h : MkAt w MB d prm left l) (hd : d.Ok prm) (hn : n ≤ 1000) :
    Calls Try.prog 156 #[.pointer (some ⟨MB, 0, none⟩), .int .i64 n] w fun e w' => ∃ c, e = .returned c ∧ RepS .i64 (fun b => w.heap.size ≤ b) w' 4 (numsF d prm n l).1 c ∧ MkAt w' MB d prm left (numsF d prm n l).2 ∧ w.grownBy w' (some MB) :=
  (numbersG_any MB d prm left n l w h hd hn).mono fun _ _ ⟨c, h1, h2, h3, h4⟩ => ⟨c, h1, h2.rep, h3, h4⟩
end Go.Proofs.Ytekhoanjpnjaeaa

