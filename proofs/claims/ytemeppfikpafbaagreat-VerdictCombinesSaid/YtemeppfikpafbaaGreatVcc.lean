/- Texts Keys, OrdK, KeyOf, Dist, DistM, ShelfB, laid together. -/
import Derived.StillTailTactics
import Derived.Sort.Statements
import Derived.Shelf.SlSortCmp.Insertion
import Derived.Maps.OwnSet
import Derived.Maps.OwnOps
import Derived.DeepKeys4
import Derived.KernelRfl
import Derived.Shelf.Bits.Mul64
import Derived.Test.YtemeppfikpafbaaGreatProg
import Derived.Test.YtemeppfikpafbaaGreatVcb
/- Keys and messages: choice.compare (79), Less (32), rank.compareKeys (69). -/
namespace Go.Proofs.YtemeppfikpafbaaGreat
open Go.RowKit
structure K4 where
  kind : Int
  a : Int
  b : Int
  n : Int
deriving DecidableEq
instance : Inhabited K4 := ⟨⟨0, 0, 0, 0⟩⟩
def kC (x : K4) : List Value := [.int .u8 x.kind, .int .i64 x.a, .int .i64 x.b, .int .i64 x.n]
def kA (x : K4) : Value := .agg #[.int .u8 x.kind, .int .i64 x.a, .int .i64 x.b, .int .i64 x.n]
theorem kC_len (x : K4) : (kC x).length = 4 := rfl
def cmpK4 (x y : K4) : Int := orI [cmpI x.kind y.kind, cmpI x.a y.a, cmpI x.b y.b, cmpI x.n y.n]
/-- Two boxes behind one another. -/
theorem boxed2 (w : World) (o1 o2 : Obj) : ((w.alloc o1).alloc o2).heap[w.heap.size]? = some o1 ∧ ((w.alloc o1).alloc o2).heap[w.heap.size + 1]? = some o2 ∧ Lay w ((w.alloc o1).alloc o2) :=
  ⟨by rw [Below.heap_alloc _ _ _ (by simp)]; exact alloc_last _ _, alloc_at _ _ (by simp), (Lay.alloc _ _).trans (Lay.alloc _ _)⟩
theorem row_lit {S : Nat → Prop} {w : World} {l : List Int} {ty : TypeId} (hS : S w.heap.size) {arr : Array Value} (ha : arr.toList = iV l) : Row S (w.alloc (.cells arr ty)) 1 l.length (.slice (some ⟨w.heap.size, 0, none⟩) l.length l.length) (iV l) := by
  refine ⟨by simp [iV], _, _, rfl, Nat.le_refl _, fun _ => ⟨w.heap.size, 0, rfl, hS, fun j u hj => ?_⟩⟩
  rw [← ha] at hj
  have := alloc_last w (.cells arr ty)
  rw [Nat.zero_add]
  simp only [World.cell?, this]
  simpa using hj
set_option maxRecDepth 100000 in
theorem compareK_any (x y : K4) (w : World) : Calls Tryz.prog 106 #[kA x, kA y] w fun e w' => e = .returned (.int .i64 (cmpK4 x y)) ∧ Lay w w' := by
  unfold kA
  have H := Lib.hid (show orI [cmpI x.kind y.kind, cmpI x.a y.a, cmpI x.b y.b, cmpI x.n y.n] = cmpK4 x y from rfl)
  go_enter Tryz.func106, Tryz.ntmps106
  go_wp2_with fail
  obtain ⟨h1, h2, hm⟩ := boxed2 w (.cells #[.int .u8 x.kind, .int .i64 x.a, .int .i64 x.b, .int .i64 x.n] 54) (.cells #[.int .u8 y.kind, .int .i64 y.a, .int .i64 y.b, .int .i64 y.n] 54)
  generalize (w.alloc (.cells #[.int .u8 x.kind, .int .i64 x.a, .int .i64 x.b, .int .i64 x.n] 54)).alloc (.cells #[.int .u8 y.kind, .int .i64 y.a, .int .i64 y.b, .int .i64 y.n] 54) = w2 at *
  have a0 : w2.cell? ⟨w.heap.size, 0, none⟩ = some (.int .u8 x.kind) := by simp [World.cell?, h1]
  have a1 : w2.cell? ⟨w.heap.size, 1, none⟩ = some (.int .i64 x.a) := by simp [World.cell?, h1]
  have a2 : w2.cell? ⟨w.heap.size, 2, none⟩ = some (.int .i64 x.b) := by simp [World.cell?, h1]
  have a3 : w2.cell? ⟨w.heap.size, 3, none⟩ = some (.int .i64 x.n) := by simp [World.cell?, h1]
  have b0 : w2.cell? ⟨w.heap.size + 1, 0, none⟩ = some (.int .u8 y.kind) := by simp [World.cell?, h2]
  have b1 : w2.cell? ⟨w.heap.size + 1, 1, none⟩ = some (.int .i64 y.a) := by simp [World.cell?, h2]
  have b2 : w2.cell? ⟨w.heap.size + 1, 2, none⟩ = some (.int .i64 y.b) := by simp [World.cell?, h2]
  have b3 : w2.cell? ⟨w.heap.size + 1, 3, none⟩ = some (.int .i64 y.n) := by simp [World.cell?, h2]
  have HM := Lib.hid hm
  clear h1 h2 hm
  have ha := cell_lt a0
  have hb := cell_lt b0
  refine wp_region_still_tail 20 (by kernel_rfl) (by kernel_rfl) ?_
  simp only [List.take_succ_cons, List.take_zero, List.drop_succ_cons, List.drop_zero]
  repeat still_step
  still_call (cmpK_any _ _ _)
  repeat still_step
  still_call (cmpN_any _ _ _)
  repeat still_step
  still_call (cmpN_any _ _ _)
  repeat still_step
  still_call (cmpN_any _ _ _)
  refine wpStill_nil ?_
  change wpList _ _ _ _ _ w2.drew
  generalize hw3 : w2.drew = w3
  have HM3 := Lib.hid (show Lay w w3 by rw [← hw3]; exact HM.out.trans (Lay.drew _))
  clear a0 a1 a2 a3 b0 b1 b2 b3 ha hb hw3
  go_wp2_with fail
  refine (or_any (fun _ => True) [cmpI x.kind y.kind, cmpI x.a y.a, cmpI x.b y.b, cmpI x.n y.n] _ _ (show 4 ≤ 1000000 by decide) (row_lit trivial rfl)).mono ?_
  rw [H.out]
  rintro e w' ⟨rfl, hw'⟩
  rw [hw']
  clear hw' w'
  go_wp2_with fail
  go_ret
  exact ⟨rfl, HM3.out.trans (Lay.alloc _ _)⟩
set_option maxRecDepth 100000 in
theorem lessK_any (x y : K4) (w : World) : Calls Tryz.prog 73 #[kA x, kA y] w fun e w' => e = .returned (.bool (decide (cmpK4 x y < 0))) ∧ Lay w w' := by
  have HC := Lib.hid (fun w => compareK_any x y w)
  unfold kA at *
  generalize hz : cmpK4 x y = z at *
  clear hz
  go_enter Tryz.func73, Tryz.ntmps73
  go_wp2_with fail
  obtain ⟨h1, h2, hm⟩ := boxed2 w (.cells #[.int .u8 x.kind, .int .i64 x.a, .int .i64 x.b, .int .i64 x.n] 54) (.cells #[.int .u8 y.kind, .int .i64 y.a, .int .i64 y.b, .int .i64 y.n] 54)
  generalize (w.alloc (.cells #[.int .u8 x.kind, .int .i64 x.a, .int .i64 x.b, .int .i64 x.n] 54)).alloc (.cells #[.int .u8 y.kind, .int .i64 y.a, .int .i64 y.b, .int .i64 y.n] 54) = w2 at *
  have a0 : w2.cell? ⟨w.heap.size, 0, none⟩ = some (.int .u8 x.kind) := by simp [World.cell?, h1]
  have a1 : w2.cell? ⟨w.heap.size, 1, none⟩ = some (.int .i64 x.a) := by simp [World.cell?, h1]
  have a2 : w2.cell? ⟨w.heap.size, 2, none⟩ = some (.int .i64 x.b) := by simp [World.cell?, h1]
  have a3 : w2.cell? ⟨w.heap.size, 3, none⟩ = some (.int .i64 x.n) := by simp [World.cell?, h1]
  have b0 : w2.cell? ⟨w.heap.size + 1, 0, none⟩ = some (.int .u8 y.kind) := by simp [World.cell?, h2]
  have b1 : w2.cell? ⟨w.heap.size + 1, 1, none⟩ = some (.int .i64 y.a) := by simp [World.cell?, h2]
  have b2 : w2.cell? ⟨w.heap.size + 1, 2, none⟩ = some (.int .i64 y.b) := by simp [World.cell?, h2]
  have b3 : w2.cell? ⟨w.heap.size + 1, 3, none⟩ = some (.int .i64 y.n) := by simp [World.cell?, h2]
  have HM := Lib.hid hm
  clear h1 h2 hm
  go_wp2_with fail
  refine (HC.out w2).mono ?_
  rintro e w3 ⟨rfl, hm3⟩
  have HM3 := Lib.hid (HM.out.trans hm3)
  clear a0 a1 a2 a3 b0 b1 b2 b3 hm3
  go_wp2_with fail
  go_ret
  exact ⟨rfl, HM3.out⟩
/-- What rank.compareKeys answers. -/
def sgnK (x y : K4) : Int := if cmpK4 x y < 0 then -1 else if cmpK4 y x < 0 then 1 else 0
set_option maxRecDepth 100000 in
theorem compareKeys_any (x y : K4) (w : World) : Calls Tryz.prog 43 #[kA x, kA y] w fun e w' => e = .returned (.int .i64 (sgnK x y)) ∧ Lay w w' := by
  have HC := Lib.hid (fun w => lessK_any x y w)
  have HD := Lib.hid (fun w => lessK_any y x w)
  unfold kA at *
  by_cases hz : cmpK4 x y < 0
  · have HS := Lib.hid (show sgnK x y = -1 by unfold sgnK; rw [if_pos hz])
    rw [decide_eq_true hz] at HC
    clear hz HD
    go_enter Tryz.func43, Tryz.ntmps43
    go_wp2_with fail
    obtain ⟨h1, h2, hm⟩ := boxed2 w (.cells #[.int .u8 x.kind, .int .i64 x.a, .int .i64 x.b, .int .i64 x.n] 54) (.cells #[.int .u8 y.kind, .int .i64 y.a, .int .i64 y.b, .int .i64 y.n] 54)
    generalize (w.alloc (.cells #[.int .u8 x.kind, .int .i64 x.a, .int .i64 x.b, .int .i64 x.n] 54)).alloc (.cells #[.int .u8 y.kind, .int .i64 y.a, .int .i64 y.b, .int .i64 y.n] 54) = w2 at *
    have a0 : w2.cell? ⟨w.heap.size, 0, none⟩ = some (.int .u8 x.kind) := by simp [World.cell?, h1]
    have a1 : w2.cell? ⟨w.heap.size, 1, none⟩ = some (.int .i64 x.a) := by simp [World.cell?, h1]
    have a2 : w2.cell? ⟨w.heap.size, 2, none⟩ = some (.int .i64 x.b) := by simp [World.cell?, h1]
    have a3 : w2.cell? ⟨w.heap.size, 3, none⟩ = some (.int .i64 x.n) := by simp [World.cell?, h1]
    have b0 : w2.cell? ⟨w.heap.size + 1, 0, none⟩ = some (.int .u8 y.kind) := by simp [World.cell?, h2]
    have b1 : w2.cell? ⟨w.heap.size + 1, 1, none⟩ = some (.int .i64 y.a) := by simp [World.cell?, h2]
    have b2 : w2.cell? ⟨w.heap.size + 1, 2, none⟩ = some (.int .i64 y.b) := by simp [World.cell?, h2]
    have b3 : w2.cell? ⟨w.heap.size + 1, 3, none⟩ = some (.int .i64 y.n) := by simp [World.cell?, h2]
    have HM := Lib.hid hm
    clear h1 h2 hm
    go_wp2_with fail
    refine (HC.out w2).mono ?_
    rintro e w3 ⟨rfl, hm3⟩
    have HM3 := Lib.hid (HM.out.trans hm3)
    clear a0 a1 a2 a3 b0 b1 b2 b3 hm3
    go_wp2_with fail
    go_ret
    exact ⟨by rw [HS.out]; rfl, HM3.out⟩
  · obtain ⟨z, hzz⟩ : ∃ z, decide (cmpK4 y x < 0) = z := ⟨_, rfl⟩
    have HS := Lib.hid (show sgnK x y = if z then 1 else 0 by unfold sgnK; rw [if_neg hz, ← hzz]; simp)
    rw [decide_eq_false hz] at HC
    rw [hzz] at HD
    clear hz hzz
    go_enter Tryz.func43, Tryz.ntmps43
    go_wp2_with fail
    obtain ⟨h1, h2, hm⟩ := boxed2 w (.cells #[.int .u8 x.kind, .int .i64 x.a, .int .i64 x.b, .int .i64 x.n] 54) (.cells #[.int .u8 y.kind, .int .i64 y.a, .int .i64 y.b, .int .i64 y.n] 54)
    generalize (w.alloc (.cells #[.int .u8 x.kind, .int .i64 x.a, .int .i64 x.b, .int .i64 x.n] 54)).alloc (.cells #[.int .u8 y.kind, .int .i64 y.a, .int .i64 y.b, .int .i64 y.n] 54) = w2 at *
    have a0 : w2.cell? ⟨w.heap.size, 0, none⟩ = some (.int .u8 x.kind) := by simp [World.cell?, h1]
    have a1 : w2.cell? ⟨w.heap.size, 1, none⟩ = some (.int .i64 x.a) := by simp [World.cell?, h1]
    have a2 : w2.cell? ⟨w.heap.size, 2, none⟩ = some (.int .i64 x.b) := by simp [World.cell?, h1]
    have a3 : w2.cell? ⟨w.heap.size, 3, none⟩ = some (.int .i64 x.n) := by simp [World.cell?, h1]
    have b0 : w2.cell? ⟨w.heap.size + 1, 0, none⟩ = some (.int .u8 y.kind) := by simp [World.cell?, h2]
    have b1 : w2.cell? ⟨w.heap.size + 1, 1, none⟩ = some (.int .i64 y.a) := by simp [World.cell?, h2]
    have b2 : w2.cell? ⟨w.heap.size + 1, 2, none⟩ = some (.int .i64 y.b) := by simp [World.cell?, h2]
    have b3 : w2.cell? ⟨w.heap.size + 1, 3, none⟩ = some (.int .i64 y.n) := by simp [World.cell?, h2]
    have HM := Lib.hid hm
    clear h1 h2 hm
    go_wp2_with fail
    refine (HC.out w2).mono ?_
    rintro e w3 ⟨rfl, hm3⟩
    have HM3 := Lib.hid (HM.out.trans hm3)
    have a0 := hm3.1.cell a0; have a1 := hm3.1.cell a1; have a2 := hm3.1.cell a2; have a3 := hm3.1.cell a3
    have b0 := hm3.1.cell b0; have b1 := hm3.1.cell b1; have b2 := hm3.1.cell b2; have b3 := hm3.1.cell b3
    clear hm3
    go_wp2_with fail
    refine (HD.out w3).mono ?_
    rintro e w4 ⟨rfl, hm4⟩
    have HM4 := Lib.hid (HM3.out.trans hm4)
    clear a0 a1 a2 a3 b0 b1 b2 b3 hm4
    cases z with
    | true =>
      go_wp2_with fail
      go_ret
      exact ⟨by rw [HS.out]; rfl, HM4.out⟩
    | false =>
      go_wp2_with fail
      go_ret
      exact ⟨by rw [HS.out]; rfl, HM4.out⟩
end Go.Proofs.YtemeppfikpafbaaGreat

/- The orders of keys, messages and shares, in plain words. -/
namespace Go.Proofs.YtemeppfikpafbaaGreat
open Go.RowKit Go.Sort Go.Shelf
theorem orI_neg (c : Int) (r : List Int) : orI (c :: r) < 0 ↔ c < 0 ∨ (c = 0 ∧ orI r < 0) := by
  rw [show orI (c :: r) = if c = 0 then orI r else c from rfl]
  split
  · rename_i h; subst h; simp
  · rename_i h; constructor
    · exact Or.inl
    · rintro (h' | ⟨h', _⟩)
      · exact h'
      · exact absurd h' h
theorem orI_zero (c : Int) (r : List Int) : orI (c :: r) = 0 ↔ c = 0 ∧ orI r = 0 := by
  rw [show orI (c :: r) = if c = 0 then orI r else c from rfl]
  split
  · rename_i h; subst h; simp
  · rename_i h; simp [h]
theorem orI_nil : orI [] = 0 := rfl
/-- The order of keys. -/
def ltK (x y : K4) : Prop := x.kind < y.kind ∨ (x.kind = y.kind ∧ (x.a < y.a ∨ (x.a = y.a ∧ (x.b < y.b ∨ (x.b = y.b ∧ x.n < y.n)))))
theorem cmpK4_neg (x y : K4) : cmpK4 x y < 0 ↔ ltK x y := by
  unfold cmpK4 ltK
  rw [orI_neg, orI_neg, orI_neg, orI_neg, orI_nil, cmpI_neg, cmpI_neg, cmpI_neg, cmpI_neg, cmpI_zero, cmpI_zero, cmpI_zero]
  simp
theorem ltK_irrefl (x : K4) : ¬ ltK x x := by unfold ltK; omega
theorem ltK_trans {x y z : K4} (h : ltK x y) (h' : ltK y z) : ltK x z := by unfold ltK at *; omega
theorem ltK_tri {x y : K4} (h : ¬ ltK x y) (h' : ¬ ltK y x) : x = y := by
  obtain ⟨a, b, c, d⟩ := x
  obtain ⟨a', b', c', d'⟩ := y
  unfold ltK at h h'
  simp only at h h'
  have h1 : a = a' := by omega
  have h2 : b = b' := by omega
  have h3 : c = c' := by omega
  have h4 : d = d' := by omega
  rw [h1, h2, h3, h4]
instance (x y : K4) : Decidable (ltK x y) := by unfold ltK; infer_instance
theorem sgnK_neg (x y : K4) : sgnK x y < 0 ↔ ltK x y := by
  unfold sgnK
  rw [← cmpK4_neg]
  split
  · rename_i h; simp [h]
  · rename_i h
    split <;> simp [h]
theorem sgnK_zero (x y : K4) : sgnK x y = 0 ↔ x = y := by
  unfold sgnK
  constructor
  · intro h
    split at h
    · simp at h
    · rename_i h1
      split at h
      · simp at h
      · rename_i h2
        exact ltK_tri (fun e => h1 ((cmpK4_neg _ _).2 e)) (fun e => h2 ((cmpK4_neg _ _).2 e))
  · rintro rfl
    rw [if_neg (fun e => ltK_irrefl x ((cmpK4_neg _ _).1 e)), if_neg (fun e => ltK_irrefl x ((cmpK4_neg _ _).1 e))]
/-- A comparison by a strict total order. -/
structure CmpBy {α : Type} (cf : α → α → Int) (lt : α → α → Prop) : Prop where
  neg : ∀ x y, cf x y < 0 ↔ lt x y
  irrefl : ∀ x, ¬ lt x x
  trans : ∀ x y z, lt x y → lt y z → lt x z
  tri : ∀ x y, ¬ lt x y → ¬ lt y x → x = y
section
variable {α : Type} {cf : α → α → Int} {lt : α → α → Prop}
theorem CmpBy.ltOf (h : CmpBy cf lt) (x y : α) : ltOf cf x y = true ↔ lt x y := by unfold Go.Proofs.ltOf; rw [decide_eq_true_eq]; exact h.neg x y
theorem CmpBy.ltOf' (h : CmpBy cf lt) (x y : α) : Go.Proofs.ltOf cf x y = false ↔ ¬ lt x y := by rw [← h.ltOf, Bool.not_eq_true]
theorem CmpBy.swo (h : CmpBy cf lt) : SWO (Go.Proofs.ltOf cf) where
  irrefl x := (h.ltOf' x x).2 (h.irrefl x)
  trans x y z h1 h2 := (h.ltOf x z).2 (h.trans x y z ((h.ltOf x y).1 h1) ((h.ltOf y z).1 h2))
  ntrans x y z h1 h2 := by
    rw [h.ltOf'] at *
    intro h3
    by_cases e : lt y x
    · exact h2 (h.trans _ _ _ e h3)
    · have := h.tri x y h1 e
      subst this
      exact h2 h3
theorem CmpBy.total (h : CmpBy cf lt) (x y : α) (h1 : Go.Proofs.ltOf cf x y = false) (h2 : Go.Proofs.ltOf cf y x = false) : x = y := h.tri x y ((h.ltOf' x y).1 h1) ((h.ltOf' y x).1 h2)
/-- The sorted list is ascending, where no element stands twice. -/
theorem CmpBy.sorted (h : CmpBy cf lt) (l : List α) (hn : l.Nodup) : (l.mergeSort fun x y => !(Go.Proofs.ltOf cf) y x).Pairwise lt := by
  have h1 : (l.mergeSort fun x y => !(Go.Proofs.ltOf cf) y x).Pairwise (fun x y => (!(Go.Proofs.ltOf cf) y x) = true) := by
    refine List.pairwise_mergeSort (fun a b c h1 h2 => ?_) (fun a b => ?_) l
    · rw [Bool.not_eq_true', h.ltOf'] at *
      intro h3
      by_cases e : lt b a
      · exact h1 e
      · by_cases e' : lt a b
        · exact h2 (h.trans _ _ _ h3 e')
        · have := h.tri a b e' e
          subst this
          exact h2 h3
    · rw [Bool.or_eq_true, Bool.not_eq_true', Bool.not_eq_true', h.ltOf', h.ltOf']
      by_cases e : lt b a
      · right; intro e'; exact h.irrefl _ (h.trans _ _ _ e e')
      · left; exact e
  have hn' : (l.mergeSort fun x y => !(Go.Proofs.ltOf cf) y x).Nodup := (List.mergeSort_perm l _).nodup_iff.2 hn
  refine (List.Pairwise.and h1 hn').imp fun {a b} hab => ?_
  obtain ⟨h2, h3⟩ := hab
  rw [Bool.not_eq_true', h.ltOf'] at h2
  by_cases e : lt a b
  · exact e
  · exact absurd (h.tri a b e h2) h3
end
theorem cmpK_by : CmpBy cmpK4 ltK := ⟨cmpK4_neg, ltK_irrefl, fun _ _ _ => ltK_trans, fun _ _ => ltK_tri⟩
theorem sgnK_by : CmpBy sgnK ltK := ⟨sgnK_neg, ltK_irrefl, fun _ _ _ => ltK_trans, fun _ _ => ltK_tri⟩
end Go.Proofs.YtemeppfikpafbaaGreat

/- Keys and messages as keys of maps. -/
namespace Go.Proofs.YtemeppfikpafbaaGreat
open Go.RowKit Go.Maps
theorem kLaid : laidOutB Tryz.prog = true := by kernel_rfl
theorem lawK : Keyed Tryz.prog 54 := Keyed.of_law (deep_law_laid kLaid (m := 3) (by omega) (by decide +kernel) (by kernel_rfl) (by kernel_rfl))
def In64 (x : Int) : Prop := -9223372036854775808 ≤ x ∧ x ≤ 9223372036854775807
structure K4.Ok (x : K4) : Prop where
  kind : 0 ≤ x.kind ∧ x.kind ≤ 255
  a : In64 x.a
  b : In64 x.b
  n : In64 x.n
def kL (x : K4) : Lit := .string (keyBytes [.int .u8 x.kind, .int .i64 x.a, .int .i64 x.b, .int .i64 x.n])
theorem wf_i64 {x : Int} (h : In64 x) : (Lit.int .i64 x).wf = true := by
  obtain ⟨h1, h2⟩ := h
  simp [Lit.wf, IntKind.min, IntKind.max, IntKind.signed, IntKind.bits]; omega
theorem wf_u8 {x : Int} (h : 0 ≤ x ∧ x ≤ 255) : (Lit.int .u8 x).wf = true := by
  obtain ⟨h1, h2⟩ := h
  simp [Lit.wf, IntKind.min, IntKind.max, IntKind.signed, IntKind.bits]; omega
theorem lits_int {d t : Nat} {q : IntKind} {x : Int} (ht : Tryz.prog.underlying t = some (.int q)) (h : (Lit.int q x).wf = true) : Tryz.prog.keyLits (d + 1) t [.int q x] = some [.int q x] := by
  simp [Program.keyLits, ht, h]
theorem sizeK : Tryz.prog.types.size = 1 + (Tryz.prog.types.size - 1) := by decide +kernel
theorem cells46 : Tryz.prog.cellsOf 52 = 1 := by kernel_rfl
theorem cells3 : Tryz.prog.cellsOf 3 = 1 := by kernel_rfl
theorem cells48 : Tryz.prog.cellsOf 54 = 4 := by kernel_rfl
theorem typeK : Tryz.prog.keyType 54 = true := by decide +kernel
theorem keyOf_K (x : K4) (h : x.Ok) : keyOf Tryz.prog 54 (kA x) = some (kL x) := by
  have hl : Tryz.prog.keyLits (Tryz.prog.types.size + 1) 54 (kC x) = some [.int .u8 x.kind, .int .i64 x.a, .int .i64 x.b, .int .i64 x.n] := by
    rw [sizeK, Nat.add_comm 1]
    conv => lhs; unfold Program.keyLits
    simp only [Tryz.underlying54, kC]
    simp [cells48, cells46, cells3, lits_int Tryz.underlying52 (wf_u8 h.kind), lits_int Tryz.underlying3 (wf_i64 h.a), lits_int Tryz.underlying3 (wf_i64 h.b), lits_int Tryz.underlying3 (wf_i64 h.n)]
  unfold keyOf
  simp only [Tryz.underlying54, typeK]
  rw [show (kA x).cells.toList = kC x from rfl, hl]
  simp [kA, Value.formed, Tryz.underlying54, cells48, kL]
end Go.Proofs.YtemeppfikpafbaaGreat

/- rank.distinct at keys (61). -/
namespace Go.Proofs.YtemeppfikpafbaaGreat
open Go.RowKit Go.Maps
section
variable {α : Type} [DecidableEq α]
def ndStep (acc : List α) (x : α) : List α := if x ∈ acc then acc else acc ++ [x]
/-- The different elements, in the order in which they come first. -/
def nd (l : List α) : List α := l.foldl ndStep []
theorem nd_push (l : List α) (x : α) : nd (l ++ [x]) = ndStep (nd l) x := by unfold nd; rw [List.foldl_append]; rfl
theorem nd_take (l : List α) (j : Nat) (h : j < l.length) : nd (l.take (j + 1)) = ndStep (nd (l.take j)) l[j] := by rw [List.take_succ_eq_append_getElem h, nd_push]
theorem mem_ndStep (acc : List α) (x y : α) : y ∈ ndStep acc x ↔ y ∈ acc ∨ y = x := by
  unfold ndStep
  split
  · rename_i h
    exact ⟨Or.inl, fun h' => h'.elim id (fun e => by rw [e]; exact h)⟩
  · simp
theorem mem_foldl_nd : ∀ (l acc : List α) (y : α), y ∈ l.foldl ndStep acc ↔ y ∈ acc ∨ y ∈ l
  | [], acc, y => by simp
  | x :: r, acc, y => by rw [List.foldl_cons, mem_foldl_nd r, mem_ndStep, List.mem_cons, or_assoc]
theorem mem_nd (l : List α) (y : α) : y ∈ nd l ↔ y ∈ l := by unfold nd; rw [mem_foldl_nd]; simp
theorem nodup_ndStep {acc : List α} (h : acc.Nodup) (x : α) : (ndStep acc x).Nodup := by
  unfold ndStep
  split
  · exact h
  · rename_i hx
    rw [List.nodup_append]
    exact ⟨h, by simp, fun a ha b hb e => by rw [List.mem_singleton] at hb; subst hb; subst e; exact hx ha⟩
theorem nodup_foldl_nd : ∀ (l acc : List α), acc.Nodup → (l.foldl ndStep acc).Nodup
  | [], _, h => h
  | x :: r, _acc, h => nodup_foldl_nd r _ (nodup_ndStep h x)
theorem nodup_nd (l : List α) : (nd l).Nodup := nodup_foldl_nd l [] List.nodup_nil
/-- Block b is a map to true whose keys are those of X. -/
def SetOf (KT : TypeId) (Ok : α → Prop) (kl : α → Lit) (m : Nat) (w : World) (b : Nat) (X : List α) : Prop :=
  ∃ n D, w.ownsMap (H := Unit) Tryz.prog KT (plainElem Tryz.prog 4) b n D ∧ n ≤ m ∧ Maps.size D = X.length ∧ ∀ x, Ok x → (has D (kl x) = true ↔ x ∈ X)
omit [DecidableEq α] in
theorem SetOf.keep {KT : TypeId} {Ok : α → Prop} {kl : α → Lit} {m : Nat} {w w' : World} {b : Nat} {X : List α} (h : SetOf KT Ok kl m w b X) (hb : w'.heap[b]? = w.heap[b]?) : SetOf KT Ok kl m w' b X := by
  obtain ⟨n, D, ⟨es, clock, h1, h2⟩, h3⟩ := h
  exact ⟨n, D, ⟨es, clock, hb.trans h1, h2⟩, h3⟩
end
def boolD (b : Bool) : DataW Unit := .lit (.bool b)
theorem kA_inj {x y : K4} (h : kA x = kA y) : x = y := by
  obtain ⟨a, b, c, d⟩ := x
  obtain ⟨a', b', c', d'⟩ := y
  simp [kA] at h
  obtain ⟨rfl, rfl, rfl, rfl⟩ := h
  rfl
theorem kL_inj {x y : K4} (hx : x.Ok) (hy : y.Ok) (h : kL x = kL y) : x = y := kA_inj (lawK.inj (keyOf_K x hx) (by rw [h]; exact keyOf_K y hy))
abbrev SetK (m : Nat) (w : World) (b : Nat) (X : List K4) : Prop := SetOf 54 K4.Ok kL m w b X
theorem SetK.start (w : World) : SetK 0 (w.alloc (.map #[] 0)) w.heap.size [] := ⟨0, .map [], World.ownsMap_made w _ _ _, Nat.zero_le _, rfl, fun s _ => by simp [has_eq]⟩
theorem SetK.put {w w' : World} {b n m : Nat} {X : List K4} {D : DataW Unit} {x : K4} (ho : w.ownsMap (H := Unit) Tryz.prog 54 (plainElem Tryz.prog 4) b n D) (hx : x.Ok) (hn : n ≤ m) (hs : Maps.size D = X.length) (hD : ∀ s : K4, s.Ok → (has D (kL s) = true ↔ s ∈ X))
    (h : w'.ownsMap (H := Unit) Tryz.prog 54 (plainElem Tryz.prog 4) b (n + 1) (D.put (kL x) (boolD true))) : SetK (m + 1) w' b (ndStep X x) := by
  refine ⟨n + 1, _, h, by omega, ?_, fun s hs' => ?_⟩
  · rw [size_put (ho.tidy lawK)]
    unfold ndStep
    by_cases e : x ∈ X
    · rw [if_pos ((hD x hx).2 e), if_pos e, hs]
    · rw [if_neg (fun h' => e ((hD x hx).1 h')), if_neg e, hs]; simp
  · rw [mem_ndStep]
    by_cases e : s = x
    · rw [e, has_put_same ho.isMap (show WideAt.IsKeyLit (kL x) from trivial)]; simp
    · have hne : kL s ≠ kL x := fun he => e (kL_inj hs' hx he)
      rw [has_put_other hne, hD s hs']
      exact ⟨Or.inl, fun h' => h'.elim id (fun e' => absurd e' e)⟩
theorem run_makeMap133 (n : Int) (w : World) : (Instr.makeMap 101 (some (.int .i64 n))).run Tryz.prog w = .ok (.map (some w.heap.size)) (w.alloc (.map #[] 0)) := by
  simp [Instr.makeMap, run_underlying Tryz.underlying101, asInt, asIntOf]
set_option maxRecDepth 100000 in
set_option maxHeartbeats 1000000 in
theorem distinctK_any (S : Nat → Prop) (l : List K4) (v : Value) (w : World) (hl : l.length < 1000000) (hok : ∀ x ∈ l, x.Ok) (h : Row S w 4 l.length v (flatC kC l)) :
    Calls Tryz.prog 47 #[v] w fun e w' => e = .returned (.int .i64 (nd l).length) ∧ Below w.heap.size w w' := by
  obtain ⟨a, cap, rfl, _⟩ := h.shape
  have HR := Lib.hid h; clear h
  have HOK := Lib.hid hok; clear hok
  have hmm := run_makeMap133
  go_enter Tryz.func47, Tryz.ntmps47
  go_wp2_with fail
  clear hmm
  go_loopw [11] (fun i wr => ∃ k : Nat, k ≤ l.length ∧ i = .int .i64 k ∧ Hid (Below w.heap.size w wr) ∧ Hid (SetK k wr w.heap.size (nd (l.take k)))) (fun i _ => l.length - (intOf i).toNat)
  case atStart => exact ⟨0, Nat.zero_le _, rfl, Lib.hid ((Below.refl _ _).alloc (Nat.le_refl _) _), Lib.hid (SetK.start w)⟩
  case round =>
    obtain ⟨k, hk, rfl, HB, HM⟩ := hrel
    by_cases hlt : k < l.length
    · obtain ⟨b, off, rfl, _, hc⟩ := HR.out.atC kC_len hlt
      have g0 := below_cell HB.out (hc 0 (.int .u8 l[k].kind) rfl)
      have g1 := below_cell HB.out (hc 1 (.int .i64 l[k].a) rfl)
      have g2 := below_cell HB.out (hc 2 (.int .i64 l[k].b) rfl)
      have g3 := below_cell HB.out (hc 3 (.int .i64 l[k].n) rfl)
      rw [Nat.add_zero] at g0
      clear hc
      obtain ⟨n, D, ho, hnk, hsz, hD⟩ := HM.out
      have HO := Lib.hid ho
      have HD := Lib.hid (And.intro hnk (And.intro hsz hD))
      have HX := Lib.hid (HOK.out _ (List.getElem_mem hlt))
      have HT := Lib.hid (nd_take l k hlt)
      clear ho hnk hsz hD
      generalize l[k] = x at *
      have hbg := cell_lt g0
      have hs0 := HB.out.size
      have HWV := Lib.hid (show plainElem (H := Unit) Tryz.prog 4 (.bool true) = some (boolD true, []) from plainElem_bool Tryz.underlying4 true)
      have hn : n < maxLen := by have := HD.out.1; unfold maxLen; omega
      have HBA := Lib.hid (HB.out.alloc hs0 (.cells #[.int .u8 x.kind, .int .i64 x.a, .int .i64 x.b, .int .i64 x.n] 54))
      have HOA := Lib.hid (show (wr.alloc (.cells #[.int .u8 x.kind, .int .i64 x.a, .int .i64 x.b, .int .i64 x.n] 54)).ownsMap (H := Unit) Tryz.prog 54 (plainElem Tryz.prog 4) w.heap.size n D from by
        obtain ⟨es, clock, hb, r⟩ := HO.out
        exact ⟨es, clock, (Below.heap_alloc _ _ _ HO.out.lt).trans hb, r⟩)
      have HK := Lib.hid (show keyOf Tryz.prog 54 (.agg #[.int .u8 x.kind, .int .i64 x.a, .int .i64 x.b, .int .i64 x.n]) = some (kL x) from keyOf_K x HX.out)
      go_wp2_with (at_mapUpdate; refine wpList_mapUpdate_own _ rfl _ _ _ 101 rfl 54 4 lawK Tryz.underlying101 _ w.heap.size n D rfl HOA.out hn _ _ _ rfl rfl HK.out _ [] HWV.out ?_; intro w1 hown1 hgrow1)
      have HB1 := Lib.hid (HBA.out.grown hgrow1 HBA.out.size (fun k e => by cases e; exact Nat.le_refl _))
      have HS1 := Lib.hid (SetK.put HOA.out HX.out HD.out.1 HD.out.2.1 HD.out.2.2 hown1)
      clear hown1 hgrow1 g0 g1 g2 g3
      go_wp2_with fail
      go_roundw
      case rel => exact ⟨k + 1, by omega, by go_num, HB1, Lib.hid (by rw [HT.out]; exact HS1.out)⟩
      case measure => simp [intOf]; omega
    · have HTK := Lib.hid (show l.take k = l from List.take_of_length_le (by omega))
      obtain ⟨n, D, ho, hnk, hsz, hD⟩ := HM.out
      rw [HTK.out] at hsz
      have hln := fun ty => ho.len Tryz.underlying101 ty
      rw [hsz] at hln
      clear ho hnk hsz hD
      go_wp2_with fail
      go_ret
      exact ⟨rfl, HB.out⟩
end Go.Proofs.YtemeppfikpafbaaGreat

/- Messages as keys of maps; rank.distinct at messages (62). -/
namespace Go.Proofs.YtemeppfikpafbaaGreat
open Go.RowKit Go.Maps
structure M3 where
  f : Int
  t : Int
  n : Int
deriving DecidableEq
instance : Inhabited M3 := ⟨⟨0, 0, 0⟩⟩
def mC (x : M3) : List Value := [.int .i64 x.f, .int .i64 x.t, .int .i64 x.n]
def mA (x : M3) : Value := .agg #[.int .i64 x.f, .int .i64 x.t, .int .i64 x.n]
theorem mC_len (x : M3) : (mC x).length = 3 := rfl
structure M3.Ok (x : M3) : Prop where
  f : In64 x.f
  t : In64 x.t
  n : In64 x.n
def mL (x : M3) : Lit := .string (keyBytes [.int .i64 x.f, .int .i64 x.t, .int .i64 x.n])
theorem lawM : Keyed Tryz.prog 57 := Keyed.of_law (deep_law_laid kLaid (m := 3) (by omega) (by decide +kernel) (by kernel_rfl) (by kernel_rfl))
theorem cells54 : Tryz.prog.cellsOf 57 = 3 := by kernel_rfl
theorem typeM : Tryz.prog.keyType 57 = true := by decide +kernel
theorem keyOf_M (x : M3) (h : x.Ok) : keyOf Tryz.prog 57 (mA x) = some (mL x) := by
  have hl : Tryz.prog.keyLits (Tryz.prog.types.size + 1) 57 (mC x) = some [.int .i64 x.f, .int .i64 x.t, .int .i64 x.n] := by
    rw [sizeK, Nat.add_comm 1]
    conv => lhs; unfold Program.keyLits
    simp only [Tryz.underlying57, mC]
    simp [cells54, cells3, lits_int Tryz.underlying3 (wf_i64 h.f), lits_int Tryz.underlying3 (wf_i64 h.t), lits_int Tryz.underlying3 (wf_i64 h.n)]
  unfold keyOf
  simp only [Tryz.underlying57, typeM]
  rw [show (mA x).cells.toList = mC x from rfl, hl]
  simp [mA, Value.formed, Tryz.underlying57, cells54, mL]
theorem mA_inj {x y : M3} (h : mA x = mA y) : x = y := by
  obtain ⟨a, b, c⟩ := x
  obtain ⟨a', b', c'⟩ := y
  simp [mA] at h
  obtain ⟨rfl, rfl, rfl⟩ := h
  rfl
theorem mL_inj {x y : M3} (hx : x.Ok) (hy : y.Ok) (h : mL x = mL y) : x = y := mA_inj (lawM.inj (keyOf_M x hx) (by rw [h]; exact keyOf_M y hy))
abbrev SetM (m : Nat) (w : World) (b : Nat) (X : List M3) : Prop := SetOf 57 M3.Ok mL m w b X
theorem SetM.start (w : World) : SetM 0 (w.alloc (.map #[] 0)) w.heap.size [] := ⟨0, .map [], World.ownsMap_made w _ _ _, Nat.zero_le _, rfl, fun s _ => by simp [has_eq]⟩
theorem SetM.put {w w' : World} {b n m : Nat} {X : List M3} {D : DataW Unit} {x : M3} (ho : w.ownsMap (H := Unit) Tryz.prog 57 (plainElem Tryz.prog 4) b n D) (hx : x.Ok) (hn : n ≤ m) (hs : Maps.size D = X.length) (hD : ∀ s : M3, s.Ok → (has D (mL s) = true ↔ s ∈ X))
    (h : w'.ownsMap (H := Unit) Tryz.prog 57 (plainElem Tryz.prog 4) b (n + 1) (D.put (mL x) (boolD true))) : SetM (m + 1) w' b (ndStep X x) := by
  refine ⟨n + 1, _, h, by omega, ?_, fun s hs' => ?_⟩
  · rw [size_put (ho.tidy lawM)]
    unfold ndStep
    by_cases e : x ∈ X
    · rw [if_pos ((hD x hx).2 e), if_pos e, hs]
    · rw [if_neg (fun h' => e ((hD x hx).1 h')), if_neg e, hs]; simp
  · rw [mem_ndStep]
    by_cases e : s = x
    · rw [e, has_put_same ho.isMap (show WideAt.IsKeyLit (mL x) from trivial)]; simp
    · have hne : mL s ≠ mL x := fun he => e (mL_inj hs' hx he)
      rw [has_put_other hne, hD s hs']
      exact ⟨Or.inl, fun h' => h'.elim id (fun e' => absurd e' e)⟩
theorem run_makeMap192 (n : Int) (w : World) : (Instr.makeMap 133 (some (.int .i64 n))).run Tryz.prog w = .ok (.map (some w.heap.size)) (w.alloc (.map #[] 0)) := by
  simp [Instr.makeMap, run_underlying Tryz.underlying133, asInt, asIntOf]
set_option maxRecDepth 100000 in
set_option maxHeartbeats 1000000 in
theorem distinctM_any (S : Nat → Prop) (l : List M3) (v : Value) (w : World) (hl : l.length < 1000000) (hok : ∀ x ∈ l, x.Ok) (h : Row S w 3 l.length v (flatC mC l)) :
    Calls Tryz.prog 48 #[v] w fun e w' => e = .returned (.int .i64 (nd l).length) ∧ Below w.heap.size w w' := by
  obtain ⟨a, cap, rfl, _⟩ := h.shape
  have HR := Lib.hid h; clear h
  have HOK := Lib.hid hok; clear hok
  have hmm := run_makeMap192
  go_enter Tryz.func48, Tryz.ntmps48
  go_wp2_with fail
  clear hmm
  go_loopw [11] (fun i wr => ∃ k : Nat, k ≤ l.length ∧ i = .int .i64 k ∧ Hid (Below w.heap.size w wr) ∧ Hid (SetM k wr w.heap.size (nd (l.take k)))) (fun i _ => l.length - (intOf i).toNat)
  case atStart => exact ⟨0, Nat.zero_le _, rfl, Lib.hid ((Below.refl _ _).alloc (Nat.le_refl _) _), Lib.hid (SetM.start w)⟩
  case round =>
    obtain ⟨k, hk, rfl, HB, HM⟩ := hrel
    by_cases hlt : k < l.length
    · obtain ⟨b, off, rfl, _, hc⟩ := HR.out.atC mC_len hlt
      have g0 := below_cell HB.out (hc 0 (.int .i64 l[k].f) rfl)
      have g1 := below_cell HB.out (hc 1 (.int .i64 l[k].t) rfl)
      have g2 := below_cell HB.out (hc 2 (.int .i64 l[k].n) rfl)
      rw [Nat.add_zero] at g0
      clear hc
      obtain ⟨n, D, ho, hnk, hsz, hD⟩ := HM.out
      have HO := Lib.hid ho
      have HD := Lib.hid (And.intro hnk (And.intro hsz hD))
      have HX := Lib.hid (HOK.out _ (List.getElem_mem hlt))
      have HT := Lib.hid (nd_take l k hlt)
      clear ho hnk hsz hD
      generalize l[k] = x at *
      have hbg := cell_lt g0
      have hs0 := HB.out.size
      have HWV := Lib.hid (show plainElem (H := Unit) Tryz.prog 4 (.bool true) = some (boolD true, []) from plainElem_bool Tryz.underlying4 true)
      have hn : n < maxLen := by have := HD.out.1; unfold maxLen; omega
      have HBA := Lib.hid (HB.out.alloc hs0 (.cells #[.int .i64 x.f, .int .i64 x.t, .int .i64 x.n] 57))
      have HOA := Lib.hid (show (wr.alloc (.cells #[.int .i64 x.f, .int .i64 x.t, .int .i64 x.n] 57)).ownsMap (H := Unit) Tryz.prog 57 (plainElem Tryz.prog 4) w.heap.size n D from by
        obtain ⟨es, clock, hb, r⟩ := HO.out
        exact ⟨es, clock, (Below.heap_alloc _ _ _ HO.out.lt).trans hb, r⟩)
      have HK := Lib.hid (show keyOf Tryz.prog 57 (.agg #[.int .i64 x.f, .int .i64 x.t, .int .i64 x.n]) = some (mL x) from keyOf_M x HX.out)
      go_wp2_with (at_mapUpdate; refine wpList_mapUpdate_own _ rfl _ _ _ 133 rfl 57 4 lawM Tryz.underlying133 _ w.heap.size n D rfl HOA.out hn _ _ _ rfl rfl HK.out _ [] HWV.out ?_; intro w1 hown1 hgrow1)
      have HB1 := Lib.hid (HBA.out.grown hgrow1 HBA.out.size (fun k e => by cases e; exact Nat.le_refl _))
      have HS1 := Lib.hid (SetM.put HOA.out HX.out HD.out.1 HD.out.2.1 HD.out.2.2 hown1)
      clear hown1 hgrow1 g0 g1 g2
      go_wp2_with fail
      go_roundw
      case rel => exact ⟨k + 1, by omega, by go_num, HB1, Lib.hid (by rw [HT.out]; exact HS1.out)⟩
      case measure => simp [intOf]; omega
    · have HTK := Lib.hid (show l.take k = l from List.take_of_length_le (by omega))
      obtain ⟨n, D, ho, hnk, hsz, hD⟩ := HM.out
      rw [HTK.out] at hsz
      have hln := fun ty => ho.len Tryz.underlying133 ty
      rw [hsz] at hln
      clear ho hnk hsz hD
      go_wp2_with fail
      go_ret
      exact ⟨rfl, HB.out⟩
end Go.Proofs.YtemeppfikpafbaaGreat

/-
  DERIVED: THE SHELF's CONTRACTS AT THIS DUMP, IN PLAIN WORDS (tools/lay-plain.mjs out of 'TryShelfB.lean', which tools/lay-shelf.mjs wrote): THE SAME DECLARATIONS UNDER THE SAME NAMES: 'import', 'namespace', 'open', 'def', 'theorem' AND NOTHING ELSE: no command of the shelf's: FOR A HAND-IN. Each laying: the table of numbers ('.._ren') and one theorem, a field a fact of the dump's own or the kernel's comparison; each contract: ONE APPLICATION.
-/
namespace Go.Proofs
open Go.Shelf
def Tryz.lays264_ren : Go.Shelf.Ren := ⟨fun | 264 => 97 | n => n, fun | 53 => 125 | 46 => 122 | n => n, fun | n => n⟩
theorem Tryz.lays264 : Go.Proofs.Lays.n264 Tryz.prog Tryz.lays264_ren := {
  mixed := by kernel_rfl
  f264 := Tryz.func97.trans (congrArg some (by kernel_rfl))
  t46 := Tryz.underlying122
  a46 := Tryz.isAgg122
  z46 := Tryz.sizeOf122
  v46 := Tryz.zeroValue122
  t53 := Tryz.underlying125
  a53 := Tryz.isAgg125
  z53 := Tryz.sizeOf125
  v53 := Tryz.zeroValue125 }
end Go.Proofs

