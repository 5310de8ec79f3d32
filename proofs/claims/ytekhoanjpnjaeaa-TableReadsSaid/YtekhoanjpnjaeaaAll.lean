/- Table.All (39, 80): an iterator over the entries of a table. -/
import Derived.RangeFuncBox
import Derived.RangeFuncNested
import Derived.RangeFuncBound
import Derived.RangeFuncCalls
import Derived.RangeFuncLeaves
import Derived.Shelf.Abstract
import Derived.Shelf.RegionOpen
import Derived.WalkKit
import Derived.OwnWalkIn
import Derived.TacticsInMore
import Derived.LoopNIn
import Derived.LoopIn
import Derived.Maps.AppendAt
import Derived.Test.YtekhoanjpnjaeaaGet
namespace Go.Proofs.Ytekhoanjpnjaeaa
open Go.RowKit Go.Shelf
attribute [local go_sem] Oper.semAt_some

theorem Row.belowN {n₀ : Nat} {w w' : World} {size n : Nat} {v : Value} {xs : List Value} (hB : Below n₀ w w') (h : Row (fun b => b < n₀) w size n v xs) : Row (fun b => b < n₀) w' size n v xs :=
  h.mono (fun _ h => h) (fun b off _u hb hc => (hB.cell (p := ⟨b, off, none⟩) hb).trans hc)

set_option maxRecDepth 100000 in
set_option maxHeartbeats 2000000 in
theorem all1_in (F : Fence) (n : Nat) (h80 : F.fn 80) (hro : F.round = none) (hn : 1 ≤ n) (l Bs n₀ : Nat) (sv : Value) (zs : List (Int × Int)) (hreach : zs.length < 4294967296) (J Jx : List (Int × Int) → World → Prop)
    (hJa : ∀ pre W o, J pre W → J pre (W.alloc o))
    (hY : ∀ pre x W, J pre W → pre.length < zs.length → YieldAt F (n - 1) Try.prog l #[.int .i64 x.1, .int .i64 x.2] W fun e W' =>
      (e = .returned (.bool true) ∧ J (pre ++ [x]) W' ∧ Below n₀ W W') ∨ (e = .returned (.bool false) ∧ Jx (pre ++ [x]) W'))
    (W : World) (hn₀ : n₀ ≤ W.heap.size) (hBs : W.cell? ⟨Bs, 0, none⟩ = some sv) (hR : Row (fun b => b < n₀) W 2 zs.length sv (flat2 zs)) (h0 : J [] W) :
    CallsIn F n Try.prog 80 #[.func (.yield l) #[] #[], .pointer (some ⟨Bs, 0, none⟩)] W fun e W' => (∃ v, e = .returned v) ∧
      ((∃ ys, ys = zs ∧ J ys W') ∨ (∃ pre, pre <+: zs ∧ Jx pre W')) := by
  obtain ⟨a, cap, rfl, hcap⟩ := hR.shape
  have HR := Lib.hid hR; clear hR
  have HY := Lib.hid hY; clear hY
  have HJA := Lib.hid hJa; clear hJa
  have HJ0 := Lib.hid h0; clear h0
  refine callsIn_of_wp Try.func80 rfl h80 ?_ hro
  simp only [Try.ntmps80, List.size_toArray, List.length_cons, List.length_nil, Nat.reduceAdd, Nat.reduceSub, Array.replicate_succ, Array.replicate_zero, List.push_toArray, List.append_toArray, List.nil_append, List.cons_append]
  gi_wp2
  gi_loopw [8] (fun i wr => ∃ k : Nat, k ≤ zs.length ∧ i = .int .i64 k ∧ Hid (J (zs.take k) wr) ∧ Hid (Below n₀ W wr))
    (fun i _ => zs.length - (intOf i).toNat)
  case atStart => exact ⟨0, Nat.zero_le _, rfl, HJ0, Lib.hid (Below.refl _ _)⟩
  case round =>
    obtain ⟨k, hk, rfl, HJ, HB⟩ := hrel
    by_cases hlt : k < zs.length
    · obtain ⟨b, off, rfl, _, hb, hc⟩ := HR.out.at (by omega)
      have g0 := (HB.out.cell (p := ⟨b, off + k * 2, none⟩) hb).trans (hc _ _ (flat2_get zs k hlt).1)
      have g1 := (HB.out.cell (p := ⟨b, off + (k * 2 + 1), none⟩) hb).trans (hc _ _ (flat2_get zs k hlt).2)
      rw [← Nat.add_assoc] at g1
      clear hc
      have HT := Lib.hid (List.take_succ_eq_append_getElem hlt)
      have hbg := cell_lt g0
      have HL := Lib.hid (show (zs.take k).length < zs.length by rw [List.length_take]; omega)
      generalize zs[k] = x at *
      obtain ⟨fn, tmps, assign, body, hy, hR⟩ := HY.out (zs.take k) x (wr.alloc (.cells #[.int .i64 x.1, .int .i64 x.2] 151)) (HJA.out _ _ _ HJ.out) HL.out
      gi_wp2
      refine hR.mono ?_
      rintro e W3 (⟨rfl, hJ3, hk3⟩ | ⟨rfl, hJx3⟩)
      · have HJ3 := Lib.hid (show J (zs.take (k + 1)) W3 by rw [HT.out]; exact hJ3)
        have HB3 := Lib.hid (((HB.out.alloc (by have := HB.out.size; omega) (.cells #[.int .i64 x.1, .int .i64 x.2] 151)).trans hk3))
        clear hJ3 hk3
        gi_wp2
        go_roundw
        case rel => exact ⟨k + 1, by omega, by simp, HJ3, HB3⟩
        case measure => simp [intOf]; omega
      · gi_wp2
        refine bodyPost_ret (results_none rfl _ _ _) rfl ?_
        exact ⟨⟨_, rfl⟩, .inr ⟨_, by rw [← HT.out]; exact List.take_prefix _ _, hJx3⟩⟩
    · have HE := Lib.hid (show zs.take k = zs from List.take_of_length_le (by omega))
      gi_wp2
      go_end0
      exact ⟨⟨_, rfl⟩, .inl ⟨_, HE.out, HJ.out⟩⟩

set_option maxHeartbeats 1000000 in
theorem all_in (F : Fence) (n : Nat) (h39 : F.fn 39) (hro : F.round = none) (a : Option Addr) (len cap : Nat) (w : World) :
    CallsIn F n Try.prog 39 #[.agg #[.slice a len cap]] w fun e w' => e = .returned (.func (.func 80) #[] #[.pointer (some ⟨w.heap.size, 0, none⟩)]) ∧ w' = w.alloc (.cells #[.slice a len cap] 54) := by
  refine callsIn_of_wp Try.func39 rfl h39 ?_ hro
  simp only [Try.ntmps39, List.size_toArray, List.length_cons, List.length_nil, Nat.reduceAdd, Nat.reduceSub, Array.replicate_succ, Array.replicate_zero, List.push_toArray, List.append_toArray, List.nil_append, List.cons_append]
  gi_wp2
  go_ret
  exact ⟨rfl, rfl⟩

def encE (x : Int × Int) : Array Value := #[.int .i64 x.1, .int .i64 x.2]

theorem all_stops (F : Fence) (n : Nat) (h80 : F.fn 80) (hro : F.round = none) (hn : 1 ≤ n) (Bs n₀ : Nat) (sv : Value) (zs : List (Int × Int)) (hreach : zs.length < 4294967296) (w : World) (hBs : Bs < w.heap.size) (hn₀ : n₀ ≤ w.heap.size)
    (hc : w.cell? ⟨Bs, 0, none⟩ = some sv) (hR : Row (fun b => b < n₀) w 2 zs.length sv (flat2 zs)) :
    SeqStopsK F n Try.prog 80 #[.pointer (some ⟨Bs, 0, none⟩)] encE (Below n₀) (fun ys => ys = zs) (fun pre => pre <+: zs) zs.length w := fun l J Jx W hW hJ _ hY h0 =>
  all1_in F n h80 hro hn l Bs n₀ sv zs hreach J Jx (fun pre V o h => hJ pre V _ none h (World.grownBy_alloc V o none) (fun _ e => by cases e)) hY W (Nat.le_trans hn₀ hW.size) ((hW.cell (p := ⟨Bs, 0, none⟩) hBs).trans hc) (hR.belowN (hW.mono hn₀)) h0
end Go.Proofs.Ytekhoanjpnjaeaa
