/- Texts BitL, Cho1, BuildC, Cho2, OrdC, laid together. -/
import Derived.StillTailTactics
import Derived.Laws.EntriesVeiled
import Derived.Test.YtemeppfikpafbaaGreatVcd
import Derived.Test.YtemeppfikpafbaaGreatVch
import Derived.Test.YtemeppfikpafbaaGreatVck
import Derived.Test.YtemeppfikpafbaaGreatVcl
/- Sets of choices and of messages by bits: plain laws of the cache. -/
namespace Go.Proofs.YtemeppfikpafbaaGreat
open Go.RowKit
/-- A choice without number and arguments. -/
structure Ch where
  k : K4
  t : Int
deriving DecidableEq
instance : Inhabited Ch := ⟨⟨default, 0⟩⟩
def chC (x : Ch) : List Value := [.int .u8 x.k.kind, .int .i64 x.k.a, .int .i64 x.k.b, .int .i64 x.k.n, .int .i64 x.t, .int .i64 0, .slice none 0 0]
theorem chC_len (x : Ch) : (chC x).length = 7 := rfl
def ltC (x y : Ch) : Prop := ltK x.k y.k
instance (x y : Ch) : Decidable (ltC x y) := by unfold ltC; infer_instance
def keyI (i : Nat) : K4 := ⟨4, (i % 4 : Nat), 0, (i / 4 : Nat)⟩
def chI (i : Nat) : Ch := ⟨keyI i, i⟩
def msgI (i : Nat) : M3 := ⟨(i % 3 : Nat), (i / 3 : Nat), 7⟩
theorem keyI_inj {i j : Nat} (h : keyI i = keyI j) : i = j := by
  simp only [keyI, K4.mk.injEq] at h
  obtain ⟨_, h1, _, h2⟩ := h
  have h1' : i % 4 = j % 4 := by exact_mod_cast h1
  have h2' : i / 4 = j / 4 := by exact_mod_cast h2
  omega
theorem msgI_inj {i j : Nat} (h : msgI i = msgI j) : i = j := by
  simp only [msgI, M3.mk.injEq] at h
  obtain ⟨h1, h2, _⟩ := h
  have h1' : i % 3 = j % 3 := by exact_mod_cast h1
  have h2' : i / 3 = j / 3 := by exact_mod_cast h2
  omega
theorem chI_inj {i j : Nat} (h : chI i = chI j) : i = j := keyI_inj (congrArg Ch.k h)
/-- The numbers whose bits are set, in a given order of numbers. -/
def pick (o : List Nat) (b : Nat) : List Nat := o.filter fun i => b.testBit i
def up16 : List Nat := [0, 1, 2, 3, 4, 5, 6, 7, 8, 9, 10, 11, 12, 13, 14, 15]
def down16 : List Nat := [15, 14, 13, 12, 11, 10, 9, 8, 7, 6, 5, 4, 3, 2, 1, 0]
def key16 : List Nat := [0, 4, 8, 12, 1, 5, 9, 13, 2, 6, 10, 14, 3, 7, 11, 15]
def msg16 : List Nat := [0, 3, 6, 9, 12, 15, 1, 4, 7, 10, 13, 2, 5, 8, 11, 14]
def ord16 (turned : Bool) : List Nat := if turned then down16 else up16
theorem mem_up16 (i : Nat) : i ∈ up16 ↔ i < 16 := by simp only [up16, List.mem_cons, List.not_mem_nil, or_false]; omega
theorem mem_down16 (i : Nat) : i ∈ down16 ↔ i < 16 := by simp only [down16, List.mem_cons, List.not_mem_nil, or_false]; omega
theorem mem_key16 (i : Nat) : i ∈ key16 ↔ i < 16 := by simp only [key16, List.mem_cons, List.not_mem_nil, or_false]; omega
theorem mem_msg16 (i : Nat) : i ∈ msg16 ↔ i < 16 := by simp only [msg16, List.mem_cons, List.not_mem_nil, or_false]; omega
theorem mem_ord16 (t : Bool) (i : Nat) : i ∈ ord16 t ↔ i < 16 := by
  cases t
  · exact mem_up16 i
  · exact mem_down16 i
theorem mem_pick {o : List Nat} {b i : Nat} (ho : ∀ i, i ∈ o ↔ i < 16) : i ∈ pick o b ↔ i < 16 ∧ b.testBit i = true := by
  unfold pick
  rw [List.mem_filter, ho]
/-- The choices by their keys; the messages in ascending order. -/
def setCh (b : Nat) : List Ch := (pick key16 b).map chI
def holdM (b : Nat) : List M3 := (pick msg16 b).map msgI
theorem setCh_asc (b : Nat) : (setCh b).Pairwise ltC := by
  unfold setCh pick
  rw [List.pairwise_map]
  refine List.Pairwise.filter _ ?_
  decide
theorem holdM_asc (b : Nat) : (holdM b).Pairwise ltM := by
  unfold holdM pick
  rw [List.pairwise_map]
  refine List.Pairwise.filter _ ?_
  decide
theorem mem_setCh {b : Nat} {x : Ch} : x ∈ setCh b ↔ ∃ i, i < 16 ∧ b.testBit i = true ∧ x = chI i := by
  unfold setCh
  rw [List.mem_map]
  constructor
  · rintro ⟨i, hi, rfl⟩
    obtain ⟨h1, h2⟩ := (mem_pick mem_key16).1 hi
    exact ⟨i, h1, h2, rfl⟩
  · rintro ⟨i, h1, h2, rfl⟩
    exact ⟨i, (mem_pick mem_key16).2 ⟨h1, h2⟩, rfl⟩
theorem mem_holdM {b : Nat} {x : M3} : x ∈ holdM b ↔ ∃ i, i < 16 ∧ b.testBit i = true ∧ x = msgI i := by
  unfold holdM
  rw [List.mem_map]
  constructor
  · rintro ⟨i, hi, rfl⟩
    obtain ⟨h1, h2⟩ := (mem_pick mem_msg16).1 hi
    exact ⟨i, h1, h2, rfl⟩
  · rintro ⟨i, h1, h2, rfl⟩
    exact ⟨i, (mem_pick mem_msg16).2 ⟨h1, h2⟩, rfl⟩
theorem chI_mem {b i : Nat} (hi : i < 16) : chI i ∈ setCh b ↔ b.testBit i = true := by
  rw [mem_setCh]
  constructor
  · rintro ⟨j, _, h, e⟩
    rw [chI_inj e]; exact h
  · intro h
    exact ⟨i, hi, h, rfl⟩
theorem setCh_len (b : Nat) : (setCh b).length ≤ 16 := by
  unfold setCh pick
  rw [List.length_map]
  exact Nat.le_trans (List.length_filter_le _ _) (by decide)
theorem holdM_len (b : Nat) : (holdM b).length ≤ 16 := by
  unfold holdM pick
  rw [List.length_map]
  exact Nat.le_trans (List.length_filter_le _ _) (by decide)
theorem pick_len {o : List Nat} (h : o.length = 16) (b : Nat) : (pick o b).length ≤ 16 := by
  unfold pick
  exact Nat.le_trans (List.length_filter_le _ _) (by omega)
theorem testBit_big {b i : Nat} (hb : b < 65536) (hi : 16 ≤ i) : b.testBit i = false := Nat.testBit_lt_two_pow (Nat.lt_of_lt_of_le hb (Nat.pow_le_pow_right (n := 2) (by omega) hi))
/-- One set is in another. -/
theorem sub_bits {a b : Nat} (ha : a < 65536) : (∀ x ∈ setCh a, x ∈ setCh b) ↔ a &&& b = a := by
  constructor
  · intro h
    apply Nat.eq_of_testBit_eq
    intro i
    rw [Nat.testBit_and]
    rcases Nat.lt_or_ge i 16 with hi | hi
    · cases e : a.testBit i with
      | false => rfl
      | true => rw [(chI_mem hi).1 (h _ ((chI_mem hi).2 e))]; rfl
    · rw [testBit_big ha hi]; rfl
  · intro h x hx
    obtain ⟨i, hi, h1, rfl⟩ := mem_setCh.1 hx
    rw [chI_mem hi]
    rw [← h, Nat.testBit_and] at h1
    exact (Bool.and_eq_true_iff.1 h1).2
theorem holdM_inj {a b : Nat} (ha : a < 65536) (hb : b < 65536) : holdM a = holdM b ↔ a = b := by
  constructor
  · intro h
    apply Nat.eq_of_testBit_eq
    intro i
    rcases Nat.lt_or_ge i 16 with hi | hi
    · rw [Bool.eq_iff_iff]
      have e : ∀ c : Nat, msgI i ∈ holdM c ↔ c.testBit i = true := fun c => by
        rw [mem_holdM]
        constructor
        · rintro ⟨j, _, h, e⟩
          rw [msgI_inj e]; exact h
        · intro h
          exact ⟨i, hi, h, rfl⟩
      rw [← e a, ← e b, h]
    · rw [testBit_big ha hi, testBit_big hb hi]
  · rintro rfl; rfl
/-- The keys of some choices, in some order, are those of the set. -/
theorem keyI_ok (i : Nat) (h : i < 16) : (keyI i).Ok := by
  have h1 : i % 4 < 4 := Nat.mod_lt _ (by omega)
  have h2 : i / 4 < 4 := by omega
  refine ⟨⟨by simp [keyI], by simp [keyI]⟩, ?_, ?_, ?_⟩ <;> unfold In64 <;> simp only [keyI] <;> omega
theorem ltC_irrefl (x : Ch) : ¬ ltC x x := ltK_irrefl _
theorem ltC_trans (x y z : Ch) : ltC x y → ltC y z → ltC x z := ltK_trans
end Go.Proofs.YtemeppfikpafbaaGreat

/- Choices without number and arguments: within (152), timed (151), CheckKey (150), Check (99), key (54), clone (100), New$1 (127), slices.Equal (166), same (163), equal (132). -/
namespace Go.Proofs.YtemeppfikpafbaaGreat
open Go.RowKit
def chA (x : Ch) : Value := .agg #[.int .u8 x.k.kind, .int .i64 x.k.a, .int .i64 x.k.b, .int .i64 x.k.n, .int .i64 x.t, .int .i64 0, .slice none 0 0]
structure ChOk (x : Ch) : Prop where
  kind : x.k.kind = 4
  a0 : 0 ≤ x.k.a
  a1 : x.k.a ≤ 7
  b : x.k.b = 0
  n0 : 0 ≤ x.k.n
  n1 : x.k.n ≤ 65535
  t0 : 0 ≤ x.t
  t1 : x.t ≤ 200
theorem chI_ok {i : Nat} (h : i < 16) : ChOk (chI i) := by
  have h1 : i % 4 < 4 := Nat.mod_lt _ (by omega)
  have h2 : i / 4 < 4 := by omega
  constructor <;> simp only [chI, keyI] <;> omega
theorem setCh_ok (b : Nat) : ∀ x ∈ setCh b, ChOk x := by
  intro x hx
  obtain ⟨i, hi, _, rfl⟩ := mem_setCh.1 hx
  exact chI_ok hi
theorem Lay.setAt {w w1 : World} (h : Lay w w1) {B o : Nat} (hB : w.heap.size ≤ B) (v : Value) : Lay w (w1.setCell ⟨B, o, none⟩ v) := h.setOwn hB v
theorem eqCh (x y : Ch) : decide (x = y) = (decide (x.k = y.k) && decide (x.t = y.t)) := by
  rw [Bool.eq_iff_iff]
  obtain ⟨a, b⟩ := x
  obtain ⟨a', b'⟩ := y
  simp
end Go.Proofs.YtemeppfikpafbaaGreat

/- The law's messages (39), keys (40). -/
namespace Go.Proofs.YtemeppfikpafbaaGreat
open Go.RowKit
theorem ord16_len (t : Bool) : (ord16 t).length = 16 := by cases t <;> rfl
theorem ord16_get (t : Bool) (j : Nat) (h : j < (ord16 t).length) : (ord16 t)[j] = if t then 15 - j else j := by
  rw [ord16_len] at h
  cases t
  · have : ∀ j, (h : j < 16) → up16[j]'(by simp [up16]; omega) = j := by decide
    exact this j h
  · have : ∀ j, (h : j < 16) → down16[j]'(by simp [down16]; omega) = 15 - j := by decide
    exact this j h
theorem pick_step (o : List Nat) (b j : Nat) (h : j < o.length) : pick (o.take (j + 1)) b = pick (o.take j) b ++ if b.testBit o[j] then [o[j]] else [] := by
  unfold pick
  rw [List.take_succ_eq_append_getElem h, List.filter_append]
  congr 1
  by_cases e : b.testBit o[j] = true <;> simp [e]
theorem bit_tmod (b k : Nat) : Int.tmod ((b : Int) / 2 ^ k) 2 = if b.testBit k = true then 1 else 0 := by
  have e : ((b : Int) / 2 ^ k) = ((b / 2 ^ k : Nat) : Int) := by simp
  rw [e, Int.tmod_eq_emod_of_nonneg (Int.natCast_nonneg _), Nat.testBit_eq_decide_div_mod_eq]
  have : b / 2 ^ k % 2 = 0 ∨ b / 2 ^ k % 2 = 1 := by omega
  rcases this with h | h
  · rw [if_neg (by simp [h])]; omega
  · rw [if_pos (by simp [h])]; omega
end Go.Proofs.YtemeppfikpafbaaGreat

/- cache.sorted (82) and its comparison (125); choice.New (86). -/
namespace Go.Proofs.YtemeppfikpafbaaGreat
open Go.RowKit Go.Sort Go.Shelf
def cmpM3 (x y : M3) : Int := orI [cmpI x.f y.f, cmpI x.t y.t, cmpI x.n y.n]
theorem cmpM_by : CmpBy cmpM3 ltM where
  neg x y := by
    unfold cmpM3 ltM
    rw [orI_neg, orI_neg, orI_neg, orI_nil, cmpI_neg, cmpI_neg, cmpI_neg, cmpI_zero, cmpI_zero]
    simp
  irrefl := ltM_irrefl
  trans _ _ _ := ltM_trans
  tri _ _ := ltM_tri
theorem agg54 : ∀ w, (isAgg (Tryz.sortMsg_ren.t 24)).run Tryz.prog w = .ok true w := fun _ => by kernel_rfl
theorem size54 : ∀ w, (Go.sizeOf (Tryz.sortMsg_ren.t 24)).run Tryz.prog w = .ok 3 w := fun _ => by kernel_rfl
theorem mC_one' (x : M3) : ∀ v ∈ mC x, v.oneCell' = true := by intro v hv; simp [mC] at hv; rcases hv with rfl | rfl | rfl <;> rfl
def srtM (l : List M3) : List M3 := l.mergeSort fun x y => !(ltOf cmpM3) y x
theorem chC_one (x : Ch) : ∀ v ∈ chC x, v.oneCell' = true := by intro v hv; simp [chC] at hv; rcases hv with rfl | rfl | rfl | rfl | rfl | rfl | rfl <;> rfl
def srtK (s : List K4) : List K4 := s.mergeSort fun x y => !(ltOf cmpK4) y x
def withT (f : K4 → Int) (s : List K4) : List Ch := s.map fun k => ⟨k, f k⟩
theorem flat_withT (f : K4 → Int) (s : List K4) : flatC (fun k => chC ⟨k, f k⟩) s = flatC chC (withT f s) := by
  unfold flatC withT
  rw [List.flatMap_map]
theorem srtM_len (l : List M3) : (srtM l).length = l.length := List.length_mergeSort _
theorem mem_srtM (l : List M3) (x : M3) : x ∈ srtM l ↔ x ∈ l := List.mem_mergeSort
set_option maxRecDepth 100000 in
set_option maxHeartbeats 1000000 in
theorem cloneM_own (l : List M3) (v : Value) (w : World) (hl : l.length ≤ 1000000) (h : Row anyB w 3 l.length v (flatC mC l)) (hn : NilA v) :
    Calls Tryz.prog 23 #[v] w fun e w' => (∃ v', e = .returned v' ∧ w'.ownsRow w.heap.size 57 3 v' l.length (flatC mC l)) ∧ Below w.heap.size w w' := by
  obtain ⟨a, cap, rfl, _⟩ := h.shape
  obtain ⟨i0, hi0, hz0, hz1, hz2⟩ := info_parts info54
  have hq := fun W => Lib.run_eql_slice_nil (P := Tryz.prog) W 32 57 a l.length cap 0 0 Tryz.underlying32
  cases a with
  | none =>
    obtain rfl := hn _ _ rfl
    have HR := Lib.hid h; clear h
    go_enter Tryz.func23, Tryz.ntmps23
    go_wp2_with fail
    go_ret
    have e0 : l = [] := by
      cases l with
      | nil => rfl
      | cons x r => obtain ⟨_, _, he, _⟩ := HR.out.at (by simp); cases he
    subst e0
    exact ⟨⟨_, rfl, World.ownsRow_nil _ _ _ _⟩, Below.refl _ _⟩
  | some ta =>
    have HR := Lib.hid h; clear h
    have HM := Lib.hid (more_alloc w (.cells #[] 57))
    have HN := Lib.hid (row_news mC_len (HR.out.below HM.out.below))
    have HO := Lib.hid (ownsRow_empty w 57 3)
    have HB := Lib.hid ((Below.refl w.heap.size w).alloc (Nat.le_refl _) (.cells #[] 57))
    have hm1 : 0 + l.length ≤ maxLen := by unfold maxLen; omega
    have hm2 : (0 + l.length) * 24 ≤ 140737488355328 := by omega
    go_enter Tryz.func23, Tryz.ntmps23
    go_wp2_with (at_builtin; refine wpList_append_own _ rfl _ _ 32 rfl w.heap.size 57 i0 _ 3 24 Tryz.underlying32 hi0 hz0 hz1 hz2 rfl (by omega) (.slice (some ⟨w.heap.size, 0, none⟩) 0 0) 0 [] rfl HO.out ta l.length cap (flatC mC l) rfl (flatC_len mC_len l) HN.out (mC_one l) hm1 hm2 (by rw [World.size_alloc]; omega) ?_; intro v6 w6 hown6 hgrow6 _)
    have HB6 := Lib.hid (HB.out.grown hgrow6 (by rw [World.size_alloc]; omega) (fun z hz => by simp [Value.ownBlock] at hz; omega))
    have HO6 := Lib.hid (show w6.ownsRow w.heap.size 57 3 v6 l.length (flatC mC l) by simpa using hown6)
    clear hown6 hgrow6
    go_wp2_with fail
    go_ret
    exact ⟨⟨_, rfl, HO6.out⟩, HB6.out⟩
end Go.Proofs.YtemeppfikpafbaaGreat

/- intervene.compareMessage (194), LessMessage (145); the orders of keys and of messages: compare (189, 193), keys (187), messages (191). -/
namespace Go.Proofs.YtemeppfikpafbaaGreat
open Go.RowKit Go.Sort Go.Shelf
set_option maxRecDepth 100000 in
theorem cmpMsg194 : CmpSaid 108 mC cmpM3 := by
  intro x y w
  unfold mC
  have H := Lib.hid (show orI [cmpI x.f y.f, cmpI x.t y.t, cmpI x.n y.n] = cmpM3 x y from rfl)
  go_enter Tryz.func108, Tryz.ntmps108
  go_wp2_with fail
  obtain ⟨h1, h2, hm⟩ := boxed2 w (.cells #[.int .i64 x.f, .int .i64 x.t, .int .i64 x.n] 57) (.cells #[.int .i64 y.f, .int .i64 y.t, .int .i64 y.n] 57)
  generalize (w.alloc (.cells #[.int .i64 x.f, .int .i64 x.t, .int .i64 x.n] 57)).alloc (.cells #[.int .i64 y.f, .int .i64 y.t, .int .i64 y.n] 57) = w2 at *
  have a0 : w2.cell? ⟨w.heap.size, 0, none⟩ = some (.int .i64 x.f) := cell_of_blk h1 rfl
  have a1 : w2.cell? ⟨w.heap.size, 1, none⟩ = some (.int .i64 x.t) := cell_of_blk h1 rfl
  have a2 : w2.cell? ⟨w.heap.size, 2, none⟩ = some (.int .i64 x.n) := cell_of_blk h1 rfl
  have b0 : w2.cell? ⟨w.heap.size + 1, 0, none⟩ = some (.int .i64 y.f) := cell_of_blk h2 rfl
  have b1 : w2.cell? ⟨w.heap.size + 1, 1, none⟩ = some (.int .i64 y.t) := cell_of_blk h2 rfl
  have b2 : w2.cell? ⟨w.heap.size + 1, 2, none⟩ = some (.int .i64 y.n) := cell_of_blk h2 rfl
  have HM := Lib.hid hm
  clear h1 h2 hm
  have ha := cell_lt a0
  have hb := cell_lt b0
  refine wp_region_still_tail 15 (by kernel_rfl) (by kernel_rfl) ?_
  simp only [List.take_succ_cons, List.take_zero, List.drop_succ_cons, List.drop_zero]
  repeat still_step
  still_call (cmpN_any _ _ _)
  repeat still_step
  still_call (cmpN_any _ _ _)
  repeat still_step
  still_call (cmpN_any _ _ _)
  refine wpStill_nil ?_
  change wpList _ _ _ _ _ w2.drew
  generalize hw3 : w2.drew = w3
  have HM3 := Lib.hid (show Lay w w3 by rw [← hw3]; exact HM.out.trans (Lay.drew _))
  clear a0 a1 a2 b0 b1 b2 ha hb hw3
  go_wp2_with fail
  refine (or_any (fun _ => True) [cmpI x.f y.f, cmpI x.t y.t, cmpI x.n y.n] _ _ (show 3 ≤ 1000000 by decide) (row_lit trivial rfl)).mono ?_
  rw [H.out]
  rintro e w' ⟨rfl, hw'⟩
  rw [hw']
  clear hw' w'
  go_wp2_with fail
  go_ret
  exact ⟨rfl, HM3.out.trans (Lay.alloc _ _)⟩
set_option maxRecDepth 100000 in
theorem lessM145 (x y : M3) (w : World) : Calls Tryz.prog 80 #[mA x, mA y] w fun e w' => e = .returned (.bool (decide (cmpM3 x y < 0))) ∧ Lay w w' := by
  have HC := Lib.hid (fun w => cmpMsg194 x y w)
  unfold mA mC at *
  generalize hz : cmpM3 x y = z at *
  clear hz
  go_enter Tryz.func80, Tryz.ntmps80
  go_wp2_with fail
  obtain ⟨h1, h2, hm⟩ := boxed2 w (.cells #[.int .i64 x.f, .int .i64 x.t, .int .i64 x.n] 57) (.cells #[.int .i64 y.f, .int .i64 y.t, .int .i64 y.n] 57)
  generalize (w.alloc (.cells #[.int .i64 x.f, .int .i64 x.t, .int .i64 x.n] 57)).alloc (.cells #[.int .i64 y.f, .int .i64 y.t, .int .i64 y.n] 57) = w2 at *
  have a0 : w2.cell? ⟨w.heap.size, 0, none⟩ = some (.int .i64 x.f) := cell_of_blk h1 rfl
  have a1 : w2.cell? ⟨w.heap.size, 1, none⟩ = some (.int .i64 x.t) := cell_of_blk h1 rfl
  have a2 : w2.cell? ⟨w.heap.size, 2, none⟩ = some (.int .i64 x.n) := cell_of_blk h1 rfl
  have b0 : w2.cell? ⟨w.heap.size + 1, 0, none⟩ = some (.int .i64 y.f) := cell_of_blk h2 rfl
  have b1 : w2.cell? ⟨w.heap.size + 1, 1, none⟩ = some (.int .i64 y.t) := cell_of_blk h2 rfl
  have b2 : w2.cell? ⟨w.heap.size + 1, 2, none⟩ = some (.int .i64 y.n) := cell_of_blk h2 rfl
  have HM := Lib.hid hm
  clear h1 h2 hm
  go_wp2_with fail
  refine (HC.out w2).mono ?_
  rintro e w3 ⟨rfl, hm3⟩
  have HM3 := Lib.hid (HM.out.trans hm3)
  clear a0 a1 a2 b0 b1 b2 hm3
  go_wp2_with fail
  go_ret
  exact ⟨rfl, HM3.out⟩
/-- What the order of messages answers. -/
def sgnM (x y : M3) : Int := if cmpM3 x y < 0 then -1 else if cmpM3 y x < 0 then 1 else 0
set_option maxRecDepth 100000 in
set_option maxHeartbeats 2000000 in
theorem orderK_any (x y : K4) (w : World) : Calls Tryz.prog 54 #[.agg #[.func (.func 73) #[] #[]], .agg #[.int .u8 x.kind, .int .i64 x.a, .int .i64 x.b, .int .i64 x.n], .agg #[.int .u8 y.kind, .int .i64 y.a, .int .i64 y.b, .int .i64 y.n]] w fun e w' => e = .returned (.int .i64 (sgnK x y)) ∧ Lay w w' := by
  have HC := Lib.hid (show ∀ w, Calls Tryz.prog 73 #[.agg #[.int .u8 x.kind, .int .i64 x.a, .int .i64 x.b, .int .i64 x.n], .agg #[.int .u8 y.kind, .int .i64 y.a, .int .i64 y.b, .int .i64 y.n]] w fun e w' => e = .returned (.bool (decide (cmpK4 x y < 0))) ∧ Lay w w' from fun w => lessK_any x y w)
  have HD := Lib.hid (show ∀ w, Calls Tryz.prog 73 #[.agg #[.int .u8 y.kind, .int .i64 y.a, .int .i64 y.b, .int .i64 y.n], .agg #[.int .u8 x.kind, .int .i64 x.a, .int .i64 x.b, .int .i64 x.n]] w fun e w' => e = .returned (.bool (decide (cmpK4 y x < 0))) ∧ Lay w w' from fun w => lessK_any y x w)
  have HS := Lib.hid (show sgnK x y = if decide (cmpK4 x y < 0) = true then -1 else if decide (cmpK4 y x < 0) = true then 1 else 0 by unfold sgnK; simp)
  rw [HS.out]
  clear HS
  generalize decide (cmpK4 x y < 0) = q1 at *
  generalize decide (cmpK4 y x < 0) = q2 at *
  go_enter Tryz.func54, Tryz.ntmps54
  go_upto_region 1 with (fail)
  obtain ⟨b1, b2, hm⟩ := boxed2 w (.cells #[.func (.func 73) #[] #[]] 109) (.cells #[.int .u8 x.kind, .int .i64 x.a, .int .i64 x.b, .int .i64 x.n] 54)
  have HM := Lib.hid (hm.trans (Lay.alloc _ (.cells #[.int .u8 y.kind, .int .i64 y.a, .int .i64 y.b, .int .i64 y.n] 54)))
  have HR := Lib.hid (((more_alloc _ (.cells #[.int .u8 y.kind, .int .i64 y.a, .int .i64 y.b, .int .i64 y.n] 54)).block (blk_lt b1)).trans b1)
  have HX := Lib.hid (((more_alloc _ (.cells #[.int .u8 y.kind, .int .i64 y.a, .int .i64 y.b, .int .i64 y.n] 54)).block (blk_lt b2)).trans b2)
  have HY := Lib.hid (alloc_last ((w.alloc (.cells #[.func (.func 73) #[] #[]] 109)).alloc (.cells #[.int .u8 x.kind, .int .i64 x.a, .int .i64 x.b, .int .i64 x.n] 54)) (.cells #[.int .u8 y.kind, .int .i64 y.a, .int .i64 y.b, .int .i64 y.n] 54))
  have hsz : ((w.alloc (.cells #[.func (.func 73) #[] #[]] 109)).alloc (.cells #[.int .u8 x.kind, .int .i64 x.a, .int .i64 x.b, .int .i64 x.n] 54)).heap.size = w.heap.size + 1 + 1 := by simp
  rw [hsz] at HY
  clear b1 b2 hm hsz
  generalize ((w.alloc (.cells #[.func (.func 73) #[] #[]] 109)).alloc (.cells #[.int .u8 x.kind, .int .i64 x.a, .int .i64 x.b, .int .i64 x.n] 54)).alloc (.cells #[.int .u8 y.kind, .int .i64 y.a, .int .i64 y.b, .int .i64 y.n] 54) = w2 at *
  obtain ⟨YB, HYE⟩ : ∃ YB, Hid (YB = w.heap.size + 1 + 1) := ⟨_, Lib.hid rfl⟩
  rw [← HYE.out] at HY ⊢
  obtain ⟨XB, HXE⟩ : ∃ XB, Hid (XB = w.heap.size + 1) := ⟨_, Lib.hid rfl⟩
  rw [← HXE.out] at HX ⊢
  obtain ⟨RB, HRE⟩ : ∃ RB, Hid (RB = w.heap.size) := ⟨_, Lib.hid rfl⟩
  rw [← HRE.out] at HR ⊢
  have a0 : w2.cell? ⟨XB, 0, none⟩ = some (.int .u8 x.kind) := cell_of_blk HX.out rfl
  have a1 : w2.cell? ⟨XB, 1, none⟩ = some (.int .i64 x.a) := cell_of_blk HX.out rfl
  have a2 : w2.cell? ⟨XB, 2, none⟩ = some (.int .i64 x.b) := cell_of_blk HX.out rfl
  have a3 : w2.cell? ⟨XB, 3, none⟩ = some (.int .i64 x.n) := cell_of_blk HX.out rfl
  have b0 : w2.cell? ⟨YB, 0, none⟩ = some (.int .u8 y.kind) := cell_of_blk HY.out rfl
  have b1 : w2.cell? ⟨YB, 1, none⟩ = some (.int .i64 y.a) := cell_of_blk HY.out rfl
  have b2 : w2.cell? ⟨YB, 2, none⟩ = some (.int .i64 y.b) := cell_of_blk HY.out rfl
  have b3 : w2.cell? ⟨YB, 3, none⟩ = some (.int .i64 y.n) := cell_of_blk HY.out rfl
  have f0 : w2.cell? ⟨RB, 0, none⟩ = some (.func (.func 73) #[] #[]) := cell_of_blk HR.out rfl
  have ha := cell_lt a0
  have hb := cell_lt b0
  have hf := cell_lt f0
  go_wp2_with fail
  refine (HC.out _).mono ?_
  rintro e w3 ⟨rfl, hl3⟩
  have HM3 := Lib.hid (HM.out.trans hl3)
  have HR3 := Lib.hid ((hl3.1.block (blk_lt HR.out)).trans HR.out)
  have HX3 := Lib.hid ((hl3.1.block (blk_lt HX.out)).trans HX.out)
  have HY3 := Lib.hid ((hl3.1.block (blk_lt HY.out)).trans HY.out)
  clear hl3 a0 b0 a1 b1 a2 b2 a3 b3 f0 ha hb hf
  cases q1 with
  | true =>
    go_wp2_with fail
    go_ret
    exact ⟨rfl, HM3.out⟩
  | false =>
    have a0 : w3.cell? ⟨XB, 0, none⟩ = some (.int .u8 x.kind) := cell_of_blk HX3.out rfl
    have a1 : w3.cell? ⟨XB, 1, none⟩ = some (.int .i64 x.a) := cell_of_blk HX3.out rfl
    have a2 : w3.cell? ⟨XB, 2, none⟩ = some (.int .i64 x.b) := cell_of_blk HX3.out rfl
    have a3 : w3.cell? ⟨XB, 3, none⟩ = some (.int .i64 x.n) := cell_of_blk HX3.out rfl
    have b0 : w3.cell? ⟨YB, 0, none⟩ = some (.int .u8 y.kind) := cell_of_blk HY3.out rfl
    have b1 : w3.cell? ⟨YB, 1, none⟩ = some (.int .i64 y.a) := cell_of_blk HY3.out rfl
    have b2 : w3.cell? ⟨YB, 2, none⟩ = some (.int .i64 y.b) := cell_of_blk HY3.out rfl
    have b3 : w3.cell? ⟨YB, 3, none⟩ = some (.int .i64 y.n) := cell_of_blk HY3.out rfl
    have f0 : w3.cell? ⟨RB, 0, none⟩ = some (.func (.func 73) #[] #[]) := cell_of_blk HR3.out rfl
    have ha := cell_lt a0
    have hb := cell_lt b0
    have hf := cell_lt f0
    go_wp2_with fail
    refine (HD.out _).mono ?_
    rintro e w4 ⟨rfl, hl4⟩
    have HM4 := Lib.hid (HM3.out.trans hl4)
    clear hl4 a0 b0 a1 b1 a2 b2 a3 b3 f0 ha hb hf
    cases q2 with
    | true =>
      go_wp2_with fail
      go_ret
      exact ⟨rfl, HM4.out⟩
    | false =>
      go_wp2_with fail
      go_ret
      exact ⟨rfl, HM4.out⟩
set_option maxRecDepth 100000 in
set_option maxHeartbeats 2000000 in
theorem orderM_any (x y : M3) (w : World) : Calls Tryz.prog 58 #[.agg #[.func (.func 80) #[] #[]], .agg #[.int .i64 x.f, .int .i64 x.t, .int .i64 x.n], .agg #[.int .i64 y.f, .int .i64 y.t, .int .i64 y.n]] w fun e w' => e = .returned (.int .i64 (sgnM x y)) ∧ Lay w w' := by
  have HC := Lib.hid (show ∀ w, Calls Tryz.prog 80 #[.agg #[.int .i64 x.f, .int .i64 x.t, .int .i64 x.n], .agg #[.int .i64 y.f, .int .i64 y.t, .int .i64 y.n]] w fun e w' => e = .returned (.bool (decide (cmpM3 x y < 0))) ∧ Lay w w' from fun w => lessM145 x y w)
  have HD := Lib.hid (show ∀ w, Calls Tryz.prog 80 #[.agg #[.int .i64 y.f, .int .i64 y.t, .int .i64 y.n], .agg #[.int .i64 x.f, .int .i64 x.t, .int .i64 x.n]] w fun e w' => e = .returned (.bool (decide (cmpM3 y x < 0))) ∧ Lay w w' from fun w => lessM145 y x w)
  have HS := Lib.hid (show sgnM x y = if decide (cmpM3 x y < 0) = true then -1 else if decide (cmpM3 y x < 0) = true then 1 else 0 by unfold sgnM; simp)
  rw [HS.out]
  clear HS
  generalize decide (cmpM3 x y < 0) = q1 at *
  generalize decide (cmpM3 y x < 0) = q2 at *
  go_enter Tryz.func58, Tryz.ntmps58
  go_upto_region 1 with (fail)
  obtain ⟨b1, b2, hm⟩ := boxed2 w (.cells #[.func (.func 80) #[] #[]] 114) (.cells #[.int .i64 x.f, .int .i64 x.t, .int .i64 x.n] 57)
  have HM := Lib.hid (hm.trans (Lay.alloc _ (.cells #[.int .i64 y.f, .int .i64 y.t, .int .i64 y.n] 57)))
  have HR := Lib.hid (((more_alloc _ (.cells #[.int .i64 y.f, .int .i64 y.t, .int .i64 y.n] 57)).block (blk_lt b1)).trans b1)
  have HX := Lib.hid (((more_alloc _ (.cells #[.int .i64 y.f, .int .i64 y.t, .int .i64 y.n] 57)).block (blk_lt b2)).trans b2)
  have HY := Lib.hid (alloc_last ((w.alloc (.cells #[.func (.func 80) #[] #[]] 114)).alloc (.cells #[.int .i64 x.f, .int .i64 x.t, .int .i64 x.n] 57)) (.cells #[.int .i64 y.f, .int .i64 y.t, .int .i64 y.n] 57))
  have hsz : ((w.alloc (.cells #[.func (.func 80) #[] #[]] 114)).alloc (.cells #[.int .i64 x.f, .int .i64 x.t, .int .i64 x.n] 57)).heap.size = w.heap.size + 1 + 1 := by simp
  rw [hsz] at HY
  clear b1 b2 hm hsz
  generalize ((w.alloc (.cells #[.func (.func 80) #[] #[]] 114)).alloc (.cells #[.int .i64 x.f, .int .i64 x.t, .int .i64 x.n] 57)).alloc (.cells #[.int .i64 y.f, .int .i64 y.t, .int .i64 y.n] 57) = w2 at *
  obtain ⟨YB, HYE⟩ : ∃ YB, Hid (YB = w.heap.size + 1 + 1) := ⟨_, Lib.hid rfl⟩
  rw [← HYE.out] at HY ⊢
  obtain ⟨XB, HXE⟩ : ∃ XB, Hid (XB = w.heap.size + 1) := ⟨_, Lib.hid rfl⟩
  rw [← HXE.out] at HX ⊢
  obtain ⟨RB, HRE⟩ : ∃ RB, Hid (RB = w.heap.size) := ⟨_, Lib.hid rfl⟩
  rw [← HRE.out] at HR ⊢
  have a0 : w2.cell? ⟨XB, 0, none⟩ = some (.int .i64 x.f) := cell_of_blk HX.out rfl
  have a1 : w2.cell? ⟨XB, 1, none⟩ = some (.int .i64 x.t) := cell_of_blk HX.out rfl
  have a2 : w2.cell? ⟨XB, 2, none⟩ = some (.int .i64 x.n) := cell_of_blk HX.out rfl
  have b0 : w2.cell? ⟨YB, 0, none⟩ = some (.int .i64 y.f) := cell_of_blk HY.out rfl
  have b1 : w2.cell? ⟨YB, 1, none⟩ = some (.int .i64 y.t) := cell_of_blk HY.out rfl
  have b2 : w2.cell? ⟨YB, 2, none⟩ = some (.int .i64 y.n) := cell_of_blk HY.out rfl
  have f0 : w2.cell? ⟨RB, 0, none⟩ = some (.func (.func 80) #[] #[]) := cell_of_blk HR.out rfl
  have ha := cell_lt a0
  have hb := cell_lt b0
  have hf := cell_lt f0
  go_wp2_with fail
  refine (HC.out _).mono ?_
  rintro e w3 ⟨rfl, hl3⟩
  have HM3 := Lib.hid (HM.out.trans hl3)
  have HR3 := Lib.hid ((hl3.1.block (blk_lt HR.out)).trans HR.out)
  have HX3 := Lib.hid ((hl3.1.block (blk_lt HX.out)).trans HX.out)
  have HY3 := Lib.hid ((hl3.1.block (blk_lt HY.out)).trans HY.out)
  clear hl3 a0 b0 a1 b1 a2 b2 f0 ha hb hf
  cases q1 with
  | true =>
    go_wp2_with fail
    go_ret
    exact ⟨rfl, HM3.out⟩
  | false =>
    have a0 : w3.cell? ⟨XB, 0, none⟩ = some (.int .i64 x.f) := cell_of_blk HX3.out rfl
    have a1 : w3.cell? ⟨XB, 1, none⟩ = some (.int .i64 x.t) := cell_of_blk HX3.out rfl
    have a2 : w3.cell? ⟨XB, 2, none⟩ = some (.int .i64 x.n) := cell_of_blk HX3.out rfl
    have b0 : w3.cell? ⟨YB, 0, none⟩ = some (.int .i64 y.f) := cell_of_blk HY3.out rfl
    have b1 : w3.cell? ⟨YB, 1, none⟩ = some (.int .i64 y.t) := cell_of_blk HY3.out rfl
    have b2 : w3.cell? ⟨YB, 2, none⟩ = some (.int .i64 y.n) := cell_of_blk HY3.out rfl
    have f0 : w3.cell? ⟨RB, 0, none⟩ = some (.func (.func 80) #[] #[]) := cell_of_blk HR3.out rfl
    have ha := cell_lt a0
    have hb := cell_lt b0
    have hf := cell_lt f0
    go_wp2_with fail
    refine (HD.out _).mono ?_
    rintro e w4 ⟨rfl, hl4⟩
    have HM4 := Lib.hid (HM3.out.trans hl4)
    clear hl4 a0 b0 a1 b1 a2 b2 f0 ha hb hf
    cases q2 with
    | true =>
      go_wp2_with fail
      go_ret
      exact ⟨rfl, HM4.out⟩
    | false =>
      go_wp2_with fail
      go_ret
      exact ⟨rfl, HM4.out⟩
set_option maxRecDepth 100000 in
theorem keys187_any (w : World) : Calls Tryz.prog 52 #[] w fun e w' => e = .returned (.agg #[.func (.func 73) #[] #[]]) ∧ Lay w w' := by
  go_enter Tryz.func52, Tryz.ntmps52
  go_wp2_with fail

  have h := alloc_last w (.cells #[.func (.func 73) #[] #[]] 109)
  have c0 : (w.alloc (.cells #[.func (.func 73) #[] #[]] 109)).cell? ⟨w.heap.size, 0, none⟩ = some (.func (.func 73) #[] #[]) := cell_of_blk h rfl
  exact bodyPost_ret (v := .agg #[.func (.func 73) #[] #[]]) (by simp [results, Tryz.results52, go_sem, c0]) rfl ⟨rfl, Lay.alloc _ _⟩
set_option maxRecDepth 100000 in
theorem messages191_any (w : World) : Calls Tryz.prog 56 #[] w fun e w' => e = .returned (.agg #[.func (.func 80) #[] #[]]) ∧ Lay w w' := by
  go_enter Tryz.func56, Tryz.ntmps56
  go_wp2_with fail

  have h := alloc_last w (.cells #[.func (.func 80) #[] #[]] 114)
  have c0 : (w.alloc (.cells #[.func (.func 80) #[] #[]] 114)).cell? ⟨w.heap.size, 0, none⟩ = some (.func (.func 80) #[] #[]) := cell_of_blk h rfl
  exact bodyPost_ret (v := .agg #[.func (.func 80) #[] #[]]) (by simp [results, Tryz.results56, go_sem, c0]) rfl ⟨rfl, Lay.alloc _ _⟩
end Go.Proofs.YtemeppfikpafbaaGreat

