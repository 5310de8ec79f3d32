/- Keys and messages: choice.compare (79), Less (32), rank.compareKeys (69). -/
import Derived.Test.YtemeppfikpafbaaCmps
import Derived.StillTailTactics
namespace Go.Proofs.Ytemeppfikpafbaa
open Go.RowKit
structure K4 where
  kind : Int
  a : Int
  b : Int
  n : Int
deriving DecidableEq
instance : Inhabited K4 := ⟨⟨0, 0, 0, 0⟩⟩
def kC (x : K4) : List Value := [.int .u8 x.kind, .int .i64 x.a, .int .i64 x.b, .int .i64 x.n]
def kA (x : K4) : Value := .agg #[.int .u8 x.kind, .int .i64 x.a, .int .i64 x.b, .int .i64 x.n]
theorem kC_len (x : K4) : (kC x).length = 4 := rfl
def cmpK4 (x y : K4) : Int := orI [cmpI x.kind y.kind, cmpI x.a y.a, cmpI x.b y.b, cmpI x.n y.n]
/-- Two boxes behind one another. -/
theorem boxed2 (w : World) (o1 o2 : Obj) : ((w.alloc o1).alloc o2).heap[w.heap.size]? = some o1 ∧ ((w.alloc o1).alloc o2).heap[w.heap.size + 1]? = some o2 ∧ Lay w ((w.alloc o1).alloc o2) :=
  ⟨by rw [Below.heap_alloc _ _ _ (by simp)]; exact alloc_last _ _, alloc_at _ _ (by simp), (Lay.alloc _ _).trans (Lay.alloc _ _)⟩
theorem row_lit {S : Nat → Prop} {w : World} {l : List Int} {ty : TypeId} (hS : S w.heap.size) {arr : Array Value} (ha : arr.toList = iV l) : Row S (w.alloc (.cells arr ty)) 1 l.length (.slice (some ⟨w.heap.size, 0, none⟩) l.length l.length) (iV l) := by
  refine ⟨by simp [iV], _, _, rfl, Nat.le_refl _, fun _ => ⟨w.heap.size, 0, rfl, hS, fun j u hj => ?_⟩⟩
  rw [← ha] at hj
  have := alloc_last w (.cells arr ty)
  rw [Nat.zero_add]
  simp only [World.cell?, this]
  simpa using hj
set_option maxRecDepth 100000 in
theorem compareK_any (x y : K4) (w : World) : Calls Try.prog 79 #[kA x, kA y] w fun e w' => e = .returned (.int .i64 (cmpK4 x y)) ∧ Lay w w' := by
  unfold kA
  have H := Lib.hid (show orI [cmpI x.kind y.kind, cmpI x.a y.a, cmpI x.b y.b, cmpI x.n y.n] = cmpK4 x y from rfl)
  go_enter Try.func79, Try.ntmps79
  go_wp2_with fail
  obtain ⟨h1, h2, hm⟩ := boxed2 w (.cells #[.int .u8 x.kind, .int .i64 x.a, .int .i64 x.b, .int .i64 x.n] 48) (.cells #[.int .u8 y.kind, .int .i64 y.a, .int .i64 y.b, .int .i64 y.n] 48)
  generalize (w.alloc (.cells #[.int .u8 x.kind, .int .i64 x.a, .int .i64 x.b, .int .i64 x.n] 48)).alloc (.cells #[.int .u8 y.kind, .int .i64 y.a, .int .i64 y.b, .int .i64 y.n] 48) = w2 at *
  have a0 : w2.cell? ⟨w.heap.size, 0, none⟩ = some (.int .u8 x.kind) := by simp [World.cell?, h1]
  have a1 : w2.cell? ⟨w.heap.size, 1, none⟩ = some (.int .i64 x.a) := by simp [World.cell?, h1]
  have a2 : w2.cell? ⟨w.heap.size, 2, none⟩ = some (.int .i64 x.b) := by simp [World.cell?, h1]
  have a3 : w2.cell? ⟨w.heap.size, 3, none⟩ = some (.int .i64 x.n) := by simp [World.cell?, h1]
  have b0 : w2.cell? ⟨w.heap.size + 1, 0, none⟩ = some (.int .u8 y.kind) := by simp [World.cell?, h2]
  have b1 : w2.cell? ⟨w.heap.size + 1, 1, none⟩ = some (.int .i64 y.a) := by simp [World.cell?, h2]
  have b2 : w2.cell? ⟨w.heap.size + 1, 2, none⟩ = some (.int .i64 y.b) := by simp [World.cell?, h2]
  have b3 : w2.cell? ⟨w.heap.size + 1, 3, none⟩ = some (.int .i64 y.n) := by simp [World.cell?, h2]
  have HM := Lib.hid hm
  clear h1 h2 hm
  have ha := cell_lt a0
  have hb := cell_lt b0
  refine wp_region_still_tail 20 (by kernel_rfl) (by kernel_rfl) ?_
  simp only [List.take_succ_cons, List.take_zero, List.drop_succ_cons, List.drop_zero]
  repeat still_step
  still_call (cmpK_any _ _ _)
  repeat still_step
  still_call (cmpN_any _ _ _)
  repeat still_step
  still_call (cmpN_any _ _ _)
  repeat still_step
  still_call (cmpN_any _ _ _)
  refine wpStill_nil ?_
  change wpList _ _ _ _ _ w2.drew
  generalize hw3 : w2.drew = w3
  have HM3 := Lib.hid (show Lay w w3 by rw [← hw3]; exact HM.out.trans (Lay.drew _))
  clear a0 a1 a2 a3 b0 b1 b2 b3 ha hb hw3
  go_wp2_with fail
  refine (or_any (fun _ => True) [cmpI x.kind y.kind, cmpI x.a y.a, cmpI x.b y.b, cmpI x.n y.n] _ _ (show 4 ≤ 1000000 by decide) (row_lit trivial rfl)).mono ?_
  rw [H.out]
  rintro e w' ⟨rfl, hw'⟩
  rw [hw']
  clear hw' w'
  go_wp2_with fail
  go_ret
  exact ⟨rfl, HM3.out.trans (Lay.alloc _ _)⟩
set_option maxRecDepth 100000 in
theorem lessK_any (x y : K4) (w : World) : Calls Try.prog 32 #[kA x, kA y] w fun e w' => e = .returned (.bool (decide (cmpK4 x y < 0))) ∧ Lay w w' := by
  have HC := Lib.hid (fun w => compareK_any x y w)
  unfold kA at *
  generalize hz : cmpK4 x y = z at *
  clear hz
  go_enter Try.func32, Try.ntmps32
  go_wp2_with fail
  obtain ⟨h1, h2, hm⟩ := boxed2 w (.cells #[.int .u8 x.kind, .int .i64 x.a, .int .i64 x.b, .int .i64 x.n] 48) (.cells #[.int .u8 y.kind, .int .i64 y.a, .int .i64 y.b, .int .i64 y.n] 48)
  generalize (w.alloc (.cells #[.int .u8 x.kind, .int .i64 x.a, .int .i64 x.b, .int .i64 x.n] 48)).alloc (.cells #[.int .u8 y.kind, .int .i64 y.a, .int .i64 y.b, .int .i64 y.n] 48) = w2 at *
  have a0 : w2.cell? ⟨w.heap.size, 0, none⟩ = some (.int .u8 x.kind) := by simp [World.cell?, h1]
  have a1 : w2.cell? ⟨w.heap.size, 1, none⟩ = some (.int .i64 x.a) := by simp [World.cell?, h1]
  have a2 : w2.cell? ⟨w.heap.size, 2, none⟩ = some (.int .i64 x.b) := by simp [World.cell?, h1]
  have a3 : w2.cell? ⟨w.heap.size, 3, none⟩ = some (.int .i64 x.n) := by simp [World.cell?, h1]
  have b0 : w2.cell? ⟨w.heap.size + 1, 0, none⟩ = some (.int .u8 y.kind) := by simp [World.cell?, h2]
  have b1 : w2.cell? ⟨w.heap.size + 1, 1, none⟩ = some (.int .i64 y.a) := by simp [World.cell?, h2]
  have b2 : w2.cell? ⟨w.heap.size + 1, 2, none⟩ = some (.int .i64 y.b) := by simp [World.cell?, h2]
  have b3 : w2.cell? ⟨w.heap.size + 1, 3, none⟩ = some (.int .i64 y.n) := by simp [World.cell?, h2]
  have HM := Lib.hid hm
  clear h1 h2 hm
  go_wp2_with fail
  refine (HC.out w2).mono ?_
  rintro e w3 ⟨rfl, hm3⟩
  have HM3 := Lib.hid (HM.out.trans hm3)
  clear a0 a1 a2 a3 b0 b1 b2 b3 hm3
  go_wp2_with fail
  go_ret
  exact ⟨rfl, HM3.out⟩
/-- What rank.compareKeys answers. -/
def sgnK (x y : K4) : Int := if cmpK4 x y < 0 then -1 else if cmpK4 y x < 0 then 1 else 0
set_option maxRecDepth 100000 in
theorem compareKeys_any (x y : K4) (w : World) : Calls Try.prog 69 #[kA x, kA y] w fun e w' => e = .returned (.int .i64 (sgnK x y)) ∧ Lay w w' := by
  have HC := Lib.hid (fun w => lessK_any x y w)
  have HD := Lib.hid (fun w => lessK_any y x w)
  unfold kA at *
  by_cases hz : cmpK4 x y < 0
  · have HS := Lib.hid (show sgnK x y = -1 by unfold sgnK; rw [if_pos hz])
    rw [decide_eq_true hz] at HC
    clear hz HD
    go_enter Try.func69, Try.ntmps69
    go_wp2_with fail
    obtain ⟨h1, h2, hm⟩ := boxed2 w (.cells #[.int .u8 x.kind, .int .i64 x.a, .int .i64 x.b, .int .i64 x.n] 48) (.cells #[.int .u8 y.kind, .int .i64 y.a, .int .i64 y.b, .int .i64 y.n] 48)
    generalize (w.alloc (.cells #[.int .u8 x.kind, .int .i64 x.a, .int .i64 x.b, .int .i64 x.n] 48)).alloc (.cells #[.int .u8 y.kind, .int .i64 y.a, .int .i64 y.b, .int .i64 y.n] 48) = w2 at *
    have a0 : w2.cell? ⟨w.heap.size, 0, none⟩ = some (.int .u8 x.kind) := by simp [World.cell?, h1]
    have a1 : w2.cell? ⟨w.heap.size, 1, none⟩ = some (.int .i64 x.a) := by simp [World.cell?, h1]
    have a2 : w2.cell? ⟨w.heap.size, 2, none⟩ = some (.int .i64 x.b) := by simp [World.cell?, h1]
    have a3 : w2.cell? ⟨w.heap.size, 3, none⟩ = some (.int .i64 x.n) := by simp [World.cell?, h1]
    have b0 : w2.cell? ⟨w.heap.size + 1, 0, none⟩ = some (.int .u8 y.kind) := by simp [World.cell?, h2]
    have b1 : w2.cell? ⟨w.heap.size + 1, 1, none⟩ = some (.int .i64 y.a) := by simp [World.cell?, h2]
    have b2 : w2.cell? ⟨w.heap.size + 1, 2, none⟩ = some (.int .i64 y.b) := by simp [World.cell?, h2]
    have b3 : w2.cell? ⟨w.heap.size + 1, 3, none⟩ = some (.int .i64 y.n) := by simp [World.cell?, h2]
    have HM := Lib.hid hm
    clear h1 h2 hm
    go_wp2_with fail
    refine (HC.out w2).mono ?_
    rintro e w3 ⟨rfl, hm3⟩
    have HM3 := Lib.hid (HM.out.trans hm3)
    clear a0 a1 a2 a3 b0 b1 b2 b3 hm3
    go_wp2_with fail
    go_ret
    exact ⟨by rw [HS.out]; rfl, HM3.out⟩
  · obtain ⟨z, hzz⟩ : ∃ z, decide (cmpK4 y x < 0) = z := ⟨_, rfl⟩
    have HS := Lib.hid (show sgnK x y = if z then 1 else 0 by unfold sgnK; rw [if_neg hz, ← hzz]; simp)
    rw [decide_eq_false hz] at HC
    rw [hzz] at HD
    clear hz hzz
    go_enter Try.func69, Try.ntmps69
    go_wp2_with fail
    obtain ⟨h1, h2, hm⟩ := boxed2 w (.cells #[.int .u8 x.kind, .int .i64 x.a, .int .i64 x.b, .int .i64 x.n] 48) (.cells #[.int .u8 y.kind, .int .i64 y.a, .int .i64 y.b, .int .i64 y.n] 48)
    generalize (w.alloc (.cells #[.int .u8 x.kind, .int .i64 x.a, .int .i64 x.b, .int .i64 x.n] 48)).alloc (.cells #[.int .u8 y.kind, .int .i64 y.a, .int .i64 y.b, .int .i64 y.n] 48) = w2 at *
    have a0 : w2.cell? ⟨w.heap.size, 0, none⟩ = some (.int .u8 x.kind) := by simp [World.cell?, h1]
    have a1 : w2.cell? ⟨w.heap.size, 1, none⟩ = some (.int .i64 x.a) := by simp [World.cell?, h1]
    have a2 : w2.cell? ⟨w.heap.size, 2, none⟩ = some (.int .i64 x.b) := by simp [World.cell?, h1]
    have a3 : w2.cell? ⟨w.heap.size, 3, none⟩ = some (.int .i64 x.n) := by simp [World.cell?, h1]
    have b0 : w2.cell? ⟨w.heap.size + 1, 0, none⟩ = some (.int .u8 y.kind) := by simp [World.cell?, h2]
    have b1 : w2.cell? ⟨w.heap.size + 1, 1, none⟩ = some (.int .i64 y.a) := by simp [World.cell?, h2]
    have b2 : w2.cell? ⟨w.heap.size + 1, 2, none⟩ = some (.int .i64 y.b) := by simp [World.cell?, h2]
    have b3 : w2.cell? ⟨w.heap.size + 1, 3, none⟩ = some (.int .i64 y.n) := by simp [World.cell?, h2]
    have HM := Lib.hid hm
    clear h1 h2 hm
    go_wp2_with fail
    refine (HC.out w2).mono ?_
    rintro e w3 ⟨rfl, hm3⟩
    have HM3 := Lib.hid (HM.out.trans hm3)
    have a0 := hm3.1.cell a0; have a1 := hm3.1.cell a1; have a2 := hm3.1.cell a2; have a3 := hm3.1.cell a3
    have b0 := hm3.1.cell b0; have b1 := hm3.1.cell b1; have b2 := hm3.1.cell b2; have b3 := hm3.1.cell b3
    clear hm3
    go_wp2_with fail
    refine (HD.out w3).mono ?_
    rintro e w4 ⟨rfl, hm4⟩
    have HM4 := Lib.hid (HM3.out.trans hm4)
    clear a0 a1 a2 a3 b0 b1 b2 b3 hm4
    cases z with
    | true =>
      go_wp2_with fail
      go_ret
      exact ⟨by rw [HS.out]; rfl, HM4.out⟩
    | false =>
      go_wp2_with fail
      go_ret
      exact ⟨by rw [HS.out]; rfl, HM4.out⟩
end Go.Proofs.Ytemeppfikpafbaa
