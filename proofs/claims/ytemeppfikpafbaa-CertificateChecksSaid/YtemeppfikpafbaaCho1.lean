/- Choices without number and arguments: within (152), timed (151), CheckKey (150), Check (99), key (54), clone (100), New$1 (127), slices.Equal (166), same (163), equal (132). -/
import Derived.Test.YtemeppfikpafbaaBitL
import Derived.Test.YtemeppfikpafbaaRCmp
namespace Go.Proofs.Ytemeppfikpafbaa
open Go.RowKit
def chA (x : Ch) : Value := .agg #[.int .u8 x.k.kind, .int .i64 x.k.a, .int .i64 x.k.b, .int .i64 x.k.n, .int .i64 x.t, .int .i64 0, .slice none 0 0]
structure ChOk (x : Ch) : Prop where
  kind : x.k.kind = 4
  a0 : 0 ≤ x.k.a
  a1 : x.k.a ≤ 7
  b : x.k.b = 0
  n0 : 0 ≤ x.k.n
  n1 : x.k.n ≤ 65535
  t0 : 0 ≤ x.t
  t1 : x.t ≤ 200
theorem chI_ok {i : Nat} (h : i < 16) : ChOk (chI i) := by
  have h1 : i % 4 < 4 := Nat.mod_lt _ (by omega)
  have h2 : i / 4 < 4 := by omega
  constructor <;> simp only [chI, keyI] <;> omega
theorem setCh_ok (b : Nat) : ∀ x ∈ setCh b, ChOk x := by
  intro x hx
  obtain ⟨i, hi, _, rfl⟩ := mem_setCh.1 hx
  exact chI_ok hi
theorem within_any (v lo hi : Int) (w : World) (h0 : lo ≤ v) (h1 : v ≤ hi) : Calls Try.prog 152 #[.int .i64 v, .int .i64 lo, .int .i64 hi] w fun e w' => e = .returned (.bool true) ∧ w' = w := by
  go_enter Try.func152, Try.ntmps152
  go_wp2_with fail
  go_ret
  exact ⟨rfl, rfl⟩
theorem timed_any (w : World) : Calls Try.prog 151 #[.int .u8 4] w fun e w' => e = .returned (.bool true) ∧ w' = w := by
  go_enter Try.func151, Try.ntmps151
  go_wp2_with fail
  go_ret
  exact ⟨rfl, rfl⟩
set_option maxRecDepth 100000 in
theorem checkKey_any (a n : Int) (w : World) (a0 : 0 ≤ a) (a1 : a ≤ 7) (n0 : 0 ≤ n) (n1 : n ≤ 65535) : Calls Try.prog 150 #[.agg #[.int .u8 4, .int .i64 a, .int .i64 0, .int .i64 n]] w fun e w' => e = .returned (.int .i64 0) ∧ Lay w w' := by
  have HW := Lib.hid (fun w => within_any a 0 7 w a0 a1)
  have HB := Lib.hid (fun w => within_any 0 0 0 w (by omega) (by omega))
  have HN := Lib.hid (fun w => within_any n 0 65535 w n0 n1)
  clear a0 a1 n0 n1
  go_enter Try.func150, Try.ntmps150
  go_wp2_with fail
  have hb := alloc_last w (.cells #[.int .u8 4, .int .i64 a, .int .i64 0, .int .i64 n] 48)
  have HM := Lib.hid (Lay.alloc w (.cells #[.int .u8 4, .int .i64 a, .int .i64 0, .int .i64 n] 48))
  generalize w.alloc (.cells #[.int .u8 4, .int .i64 a, .int .i64 0, .int .i64 n] 48) = w1 at *
  have c0 : w1.cell? ⟨w.heap.size, 0, none⟩ = some (.int .u8 4) := cell_of_blk hb rfl
  have c1 : w1.cell? ⟨w.heap.size, 1, none⟩ = some (.int .i64 a) := cell_of_blk hb rfl
  have c2 : w1.cell? ⟨w.heap.size, 2, none⟩ = some (.int .i64 0) := cell_of_blk hb rfl
  have c3 : w1.cell? ⟨w.heap.size, 3, none⟩ = some (.int .i64 n) := cell_of_blk hb rfl
  have hlt := cell_lt c0
  clear hb
  go_wp2_with fail
  refine (HW.out _).mono ?_
  rintro e w' ⟨rfl, hw'⟩
  subst hw'
  go_wp2_with fail
  refine (HB.out _).mono ?_
  rintro e w' ⟨rfl, hw'⟩
  subst hw'
  go_wp2_with fail
  refine (HN.out _).mono ?_
  rintro e w' ⟨rfl, hw'⟩
  subst hw'
  go_wp2_with fail
  go_ret
  exact ⟨rfl, HM.out⟩
set_option maxRecDepth 100000 in
theorem checkCh_any (x : Ch) (w : World) (h : ChOk x) : Calls Try.prog 99 #[chA x] w fun e w' => e = .returned (.int .i64 0) ∧ Lay w w' := by
  obtain ⟨⟨kd, a, b, n⟩, t⟩ := x
  obtain ⟨h1, h2, h3, h4, h5, h6, h7, h8⟩ := h
  simp only at h1 h2 h3 h4 h5 h6 h7 h8
  subst h1 h4
  have HK := Lib.hid (fun w => checkKey_any a n w h2 h3 h5 h6)
  have HT := Lib.hid (fun w => within_any t 0 200 w h7 h8)
  have HD := Lib.hid (fun w => within_any 0 0 0 w (by omega) (by omega))
  have HTM := Lib.hid (fun w => timed_any w)
  clear h2 h3 h5 h6 h7 h8
  unfold chA
  dsimp only
  go_enter Try.func99, Try.ntmps99
  go_wp2_with fail
  have hb := alloc_last w (.cells #[.int .u8 4, .int .i64 a, .int .i64 0, .int .i64 n, .int .i64 t, .int .i64 0, .slice none 0 0] 113)
  have HM := Lib.hid (Lay.alloc w (.cells #[.int .u8 4, .int .i64 a, .int .i64 0, .int .i64 n, .int .i64 t, .int .i64 0, .slice none 0 0] 113))
  generalize w.alloc (.cells #[.int .u8 4, .int .i64 a, .int .i64 0, .int .i64 n, .int .i64 t, .int .i64 0, .slice none 0 0] 113) = w1 at *
  generalize w.heap.size = B at *
  have HB := Lib.hid hb
  have c0 : w1.cell? ⟨B, 0, none⟩ = some (.int .u8 4) := cell_of_blk hb rfl
  have c1 : w1.cell? ⟨B, 1, none⟩ = some (.int .i64 a) := cell_of_blk hb rfl
  have c2 : w1.cell? ⟨B, 2, none⟩ = some (.int .i64 0) := cell_of_blk hb rfl
  have c3 : w1.cell? ⟨B, 3, none⟩ = some (.int .i64 n) := cell_of_blk hb rfl
  have hlt := cell_lt c0
  clear hb
  go_wp2_with fail
  refine (HK.out _).mono ?_
  rintro e w2 ⟨rfl, hl2⟩
  have HM2 := Lib.hid (HM.out.trans hl2)
  have hb := (hl2.1.block hlt).trans HB.out
  clear c0 c1 c2 c3 hlt hl2
  have c0 : w2.cell? ⟨B, 0, none⟩ = some (.int .u8 4) := cell_of_blk hb rfl
  have c4 : w2.cell? ⟨B, 4, none⟩ = some (.int .i64 t) := cell_of_blk hb rfl
  have c5 : w2.cell? ⟨B, 5, none⟩ = some (.int .i64 0) := cell_of_blk hb rfl
  have c6 : w2.cell? ⟨B, 6, none⟩ = some (.slice none 0 0) := cell_of_blk hb rfl
  have hlt := cell_lt c0
  clear hb
  go_wp2_with fail
  refine (HTM.out _).mono ?_
  rintro e w' ⟨rfl, hw'⟩
  subst hw'
  go_wp2_with fail
  refine (HT.out _).mono ?_
  rintro e w' ⟨rfl, hw'⟩
  subst hw'
  go_wp2_with fail
  refine (HD.out _).mono ?_
  rintro e w' ⟨rfl, hw'⟩
  subst hw'
  go_wp2_with fail
  go_ret
  exact ⟨rfl, HM2.out⟩
theorem Lay.setAt {w w1 : World} (h : Lay w w1) {B o : Nat} (hB : w.heap.size ≤ B) (v : Value) : Lay w (w1.setCell ⟨B, o, none⟩ v) := h.setOwn hB v
set_option maxRecDepth 10000 in
theorem key54_any (i : Nat) (w : World) (hi : i < 16) : Calls Try.prog 54 #[.int .i64 i] w fun e w' => e = .returned (kA (keyI i)) ∧ Lay w w' := by
  obtain ⟨p, hp⟩ : ∃ p : Nat, i % 4 = p := ⟨_, rfl⟩
  obtain ⟨q, hq⟩ : ∃ q : Nat, i / 4 = q := ⟨_, rfl⟩
  have h1 : (i : Int) % 4 = p := by omega
  have h2 : (i : Int) / 4 = q := by omega
  have h3 : Int.tmod (i : Int) 4 = p := by rw [Int.tmod_eq_emod_of_nonneg (by omega)]; omega
  have h4 : Int.tdiv (i : Int) 4 = q := by rw [Int.tdiv_eq_ediv_of_nonneg (by omega)]; omega
  have HE := Lib.hid (show kA (keyI i) = .agg #[.int .u8 4, .int .i64 p, .int .i64 0, .int .i64 q] by unfold kA keyI; simp only [hp, hq])
  have hw : IntKind.i64.wrap (q : Int) = q := by rw [IntKind.wrap_i64]; omega
  rw [HE.out]
  clear hp hq
  go_enter Try.func54, Try.ntmps54
  go_wp2_with fail
  have h := alloc_last w (.cells #[.int .u8 4, .int .i64 p, .int .i64 0, .int .i64 q] 48)
  have c0 : (w.alloc (.cells #[.int .u8 4, .int .i64 p, .int .i64 0, .int .i64 q] 48)).cell? ⟨w.heap.size, 0, none⟩ = some (.int .u8 4) := cell_of_blk h rfl
  have c1 : (w.alloc (.cells #[.int .u8 4, .int .i64 p, .int .i64 0, .int .i64 q] 48)).cell? ⟨w.heap.size, 1, none⟩ = some (.int .i64 p) := cell_of_blk h rfl
  have c2 : (w.alloc (.cells #[.int .u8 4, .int .i64 p, .int .i64 0, .int .i64 q] 48)).cell? ⟨w.heap.size, 2, none⟩ = some (.int .i64 0) := cell_of_blk h rfl
  have c3 : (w.alloc (.cells #[.int .u8 4, .int .i64 p, .int .i64 0, .int .i64 q] 48)).cell? ⟨w.heap.size, 3, none⟩ = some (.int .i64 q) := cell_of_blk h rfl
  exact bodyPost_ret (v := .agg #[.int .u8 4, .int .i64 p, .int .i64 0, .int .i64 q]) (by simp [results, Try.results54, go_sem, c0, c1, c2, c3]) rfl ⟨rfl, Lay.alloc _ _⟩
set_option maxRecDepth 10000 in
theorem cloneCh_any (x : Ch) (w : World) : Calls Try.prog 100 #[chA x] w fun e w' => e = .returned (chA x) ∧ Lay w w' := by
  unfold chA
  go_enter Try.func100, Try.ntmps100
  go_wp2_with fail
  obtain ⟨_, h, hm⟩ := boxed2 w (.cells #[.int .u8 x.k.kind, .int .i64 x.k.a, .int .i64 x.k.b, .int .i64 x.k.n, .int .i64 x.t, .int .i64 0, .slice none 0 0] 113) (.cells #[.int .u8 x.k.kind, .int .i64 x.k.a, .int .i64 x.k.b, .int .i64 x.k.n, .int .i64 x.t, .int .i64 0, .slice none 0 0] 113)
  generalize (w.alloc (.cells #[.int .u8 x.k.kind, .int .i64 x.k.a, .int .i64 x.k.b, .int .i64 x.k.n, .int .i64 x.t, .int .i64 0, .slice none 0 0] 113)).alloc (.cells #[.int .u8 x.k.kind, .int .i64 x.k.a, .int .i64 x.k.b, .int .i64 x.k.n, .int .i64 x.t, .int .i64 0, .slice none 0 0] 113) = w2 at *
  have c0 : w2.cell? ⟨w.heap.size + 1, 0, none⟩ = some (.int .u8 x.k.kind) := cell_of_blk h rfl
  have c1 : w2.cell? ⟨w.heap.size + 1, 1, none⟩ = some (.int .i64 x.k.a) := cell_of_blk h rfl
  have c2 : w2.cell? ⟨w.heap.size + 1, 2, none⟩ = some (.int .i64 x.k.b) := cell_of_blk h rfl
  have c3 : w2.cell? ⟨w.heap.size + 1, 3, none⟩ = some (.int .i64 x.k.n) := cell_of_blk h rfl
  have c4 : w2.cell? ⟨w.heap.size + 1, 4, none⟩ = some (.int .i64 x.t) := cell_of_blk h rfl
  have c5 : w2.cell? ⟨w.heap.size + 1, 5, none⟩ = some (.int .i64 0) := cell_of_blk h rfl
  have c6 : w2.cell? ⟨w.heap.size + 1, 6, none⟩ = some (.slice none 0 0) := cell_of_blk h rfl
  exact bodyPost_ret (v := .agg #[.int .u8 x.k.kind, .int .i64 x.k.a, .int .i64 x.k.b, .int .i64 x.k.n, .int .i64 x.t, .int .i64 0, .slice none 0 0]) (by simp [results, Try.results100, go_sem, c0, c1, c2, c3, c4, c5, c6]) rfl ⟨rfl, hm⟩
set_option maxRecDepth 10000 in
theorem newCmp_any (f : K4 → Int) : CmpSaid 127 (fun k => chC ⟨k, f k⟩) cmpK4 := by
  intro a b w
  have HC := Lib.hid (fun w => compareK_any a b w)
  unfold chC kA at *
  dsimp only
  generalize cmpK4 a b = c at *
  generalize f a = fa
  generalize f b = fb
  go_enter Try.func127, Try.ntmps127
  go_wp2_with fail
  refine (HC.out _).mono ?_
  rintro e w2 ⟨rfl, hl2⟩
  have HM := Lib.hid (((Lay.alloc _ _).trans (Lay.alloc _ _)).trans hl2)
  clear hl2
  go_wp2_with fail
  go_ret
  exact ⟨rfl, HM.out⟩
theorem equal166_any (w : World) : Calls Try.prog 166 #[.slice none 0 0, .slice none 0 0] w fun e w' => e = .returned (.bool true) ∧ w' = w := by
  go_enter Try.func166, Try.ntmps166
  go_wp2_with fail
  go_loopw [13] (fun i wr => i = .int .i64 0 ∧ wr = w) (fun _ _ => 0)
  case atStart => exact ⟨rfl, rfl⟩
  case round =>
    obtain ⟨rfl, rfl⟩ := hrel
    go_wp2_with fail
    go_ret
    exact ⟨rfl, rfl⟩
theorem eqCh (x y : Ch) : decide (x = y) = (decide (x.k = y.k) && decide (x.t = y.t)) := by
  rw [Bool.eq_iff_iff]
  obtain ⟨a, b⟩ := x
  obtain ⟨a', b'⟩ := y
  simp
set_option maxRecDepth 10000 in
theorem sameCh_any (x y : Ch) (w : World) : Calls Try.prog 163 #[chA x, chA y] w fun e w' => e = .returned (.bool (decide (x = y))) ∧ Lay w w' := by
  have heq := fun W => run_eqK x.k y.k W
  rw [eqCh]
  have HE := Lib.hid (fun W => equal166_any W)
  unfold chA
  by_cases hk : x.k = y.k
  · rw [decide_eq_true hk] at heq ⊢
    clear hk
    by_cases ht : x.t = y.t
    · have t1 : (x.t == y.t) = true := by simp [ht]
      have HD := Lib.hid (decide_eq_true ht)
      clear ht
      go_enter Try.func163, Try.ntmps163
      go_wp2_with fail
      refine (HE.out _).mono ?_
      rintro e w2 ⟨rfl, hw2⟩
      subst hw2
      go_wp2_with fail
      go_ret
      exact ⟨by rw [HD.out]; rfl, (Lay.alloc _ _).trans (Lay.alloc _ _)⟩
    · have t1 : (x.t == y.t) = false := by simp [ht]
      have HD := Lib.hid (decide_eq_false ht)
      clear ht
      go_enter Try.func163, Try.ntmps163
      go_wp2_with fail
      go_ret
      exact ⟨by rw [HD.out]; rfl, (Lay.alloc _ _).trans (Lay.alloc _ _)⟩
  · rw [decide_eq_false hk] at heq ⊢
    clear hk
    go_enter Try.func163, Try.ntmps163
    go_wp2_with fail
    go_ret
    exact ⟨rfl, (Lay.alloc _ _).trans (Lay.alloc _ _)⟩
set_option maxRecDepth 10000 in
theorem equalCh_any (x y : Ch) (w : World) : Calls Try.prog 132 #[chA x, chA y] w fun e w' => e = .returned (.bool (decide (x = y))) ∧ Lay w w' := by
  have heq := fun W => run_eqK x.k y.k W
  rw [eqCh]
  have HE := Lib.hid (fun W => equal166_any W)
  unfold chA
  by_cases hk : x.k = y.k
  · rw [decide_eq_true hk] at heq ⊢
    clear hk
    by_cases ht : x.t = y.t
    · have t1 : (x.t == y.t) = true := by simp [ht]
      have HD := Lib.hid (decide_eq_true ht)
      clear ht
      go_enter Try.func132, Try.ntmps132
      go_wp2_with fail
      refine (HE.out _).mono ?_
      rintro e w2 ⟨rfl, hw2⟩
      subst hw2
      go_wp2_with fail
      go_ret
      exact ⟨by rw [HD.out]; rfl, (Lay.alloc _ _).trans (Lay.alloc _ _)⟩
    · have t1 : (x.t == y.t) = false := by simp [ht]
      have HD := Lib.hid (decide_eq_false ht)
      clear ht
      go_enter Try.func132, Try.ntmps132
      go_wp2_with fail
      go_ret
      exact ⟨by rw [HD.out]; rfl, (Lay.alloc _ _).trans (Lay.alloc _ _)⟩
  · rw [decide_eq_false hk] at heq ⊢
    clear hk
    go_enter Try.func132, Try.ntmps132
    go_wp2_with fail
    go_ret
    exact ⟨rfl, (Lay.alloc _ _).trans (Lay.alloc _ _)⟩
end Go.Proofs.Ytemeppfikpafbaa
