/- ExprJoins: the value of an operator is that of Unary or Binary for the values of its operands; no condition. -/
import Derived.Test.YtekhoanjpnjaeaaRows
import Derived.Test.YtekhoanjpnjaeaaAwake
import Derived.Test.YtekhoanjpnjaeaaBuildTop
import Derived.Test.YtekhoanjpnjaeaaConv
import Derived.Test.YtekhoanjpnjaeaaEvalsKit
import Derived.Test.YtekhoanjpnjaeaaLaw
import Derived.Test.YtekhoanjpnjaeaaFacts
import Derived.OpenShut
namespace Go.Proofs.Ytekhoanjpnjaeaa.exprJoins
open Go.ChangeShapes Go.WideShapes Go.ChangeAt Go.RowKit

def jE : EnvD := ⟨[⟨#[97]⟩, ⟨#[98]⟩, ⟨#[120, 48]⟩], [3, -9223372036854775808, 0], [⟨#[116, 48]⟩, ⟨#[102, 95, 49]⟩], [[(0, 5), (3, 0)], []], 7⟩
theorem row_of_block {S : Nat → Prop} {w : World} {b size n cap : Nat} {arr : Array Value} {ty : TypeId} {xs : List Value} (h : w.heap[b]? = some (.cells arr ty)) (hx : arr.toList = xs) (hl : xs.length = n * size) (hc : n ≤ cap) (hS : S b) : Row S w size n (.slice (some ⟨b, 0, none⟩) n cap) xs := by
  refine ⟨hl, _, _, rfl, hc, fun _ => ⟨b, 0, rfl, hS, fun j u hj => ?_⟩⟩
  subst hx
  rw [Nat.zero_add]
  simpa [World.cell?, h] using hj
theorem join2 (e : EnvD) (op : Int) (x y : Ex) (hx : (evalV e x).2 = 0) (hy : (evalV e y).2 = 0) (hn : e.names.length = e.vals.length ∧ e.tnames.length = e.tabs.length) :
    evalV e (.node op ByteArray.empty 0 [x, y]) = if 11 ≤ op ∧ op ≤ 23 then ((binV op (evalV e x).1 (evalV e y).1).1, 0) else (0, 6) := by
  have key : ∀ z, (evalV e z).2 = 0 → z.formed = true ∧ boundT e z = true ∧ evalV e z = (valT e z, 0) := by
    intro z hz
    unfold evalV at hz ⊢
    rw [if_neg (by simp [hn.1, hn.2])] at hz ⊢
    cases h1 : z.formed with
    | false => rw [h1] at hz; simp at hz
    | true =>
      rw [h1] at hz
      rw [if_neg (by simp)] at hz ⊢
      cases h2 : boundT e z with
      | false => rw [h2] at hz; simp at hz
      | true => exact ⟨rfl, rfl, by rw [if_neg (by simp)]⟩
  obtain ⟨x1, x2, x3⟩ := key x hx
  obtain ⟨y1, y2, y3⟩ := key y hy
  rw [x3, y3]
  unfold evalV
  rw [if_neg (by simp [hn.1, hn.2])]
  by_cases h : 11 ≤ op ∧ op ≤ 23
  · rw [if_pos h]
    have ho : opnd op = 2 := by unfold opnd; rw [if_pos h]
    have hf : (Ex.node op ByteArray.empty 0 [x, y]).formed = true := formed_mk (by rw [ho]; rfl) (by simp [x1, y1])
    have hb : boundT e (.node op ByteArray.empty 0 [x, y]) = true := by
      rw [boundT_eq, Bool.and_eq_true]
      refine ⟨?_, (boundL_iff _ _).2 (by simp [Ex.args, x2, y2])⟩
      show boundN e op ByteArray.empty = true
      unfold boundN
      rw [show decide (op = 5) = false by simp; omega, show decide (6 ≤ op ∧ op ≤ 8) = false by simp; omega]; rfl
    rw [hf, hb, if_neg (by simp), if_neg (by simp), valT_eq]
    show (valN e op ByteArray.empty 0 [valT e x, valT e y], 0) = _
    unfold valN
    rw [if_neg (by omega), if_neg (by omega), if_neg (by omega), if_neg (by omega), if_neg (by omega), if_neg (by omega), if_neg (by omega), if_neg (by omega), if_neg (by omega)]
    rfl
  · rw [if_neg h]
    have hf : (Ex.node op ByteArray.empty 0 [x, y]).formed = false := by
      rw [Ex.formed_eq]
      have : decide ((([x, y] : List Ex).length : Int) = opnd op) = false := by
        have : opnd op ≠ 2 := by
          unfold opnd
          rw [if_neg h]
          repeat' split
          all_goals decide
        simp; omega
      rw [show (Ex.node op ByteArray.empty 0 [x, y]).args = [x, y] from rfl, show (Ex.node op ByteArray.empty 0 [x, y]).op = op from rfl, this]; rfl
    rw [hf, if_pos rfl]
theorem join1 (e : EnvD) (op : Int) (x : Ex) (hx : (evalV e x).2 = 0) (hn : e.names.length = e.vals.length ∧ e.tnames.length = e.tabs.length) (ho : op = 9 ∨ op = 10) :
    evalV e (.node op ByteArray.empty 0 [x]) = ((unV op (evalV e x).1).1, 0) := by
  have key : x.formed = true ∧ boundT e x = true ∧ evalV e x = (valT e x, 0) := by
    unfold evalV at hx ⊢
    rw [if_neg (by simp [hn.1, hn.2])] at hx ⊢
    cases h1 : x.formed with
    | false => rw [h1] at hx; simp at hx
    | true =>
      rw [h1] at hx
      rw [if_neg (by simp)] at hx ⊢
      cases h2 : boundT e x with
      | false => rw [h2] at hx; simp at hx
      | true => exact ⟨rfl, rfl, by rw [if_neg (by simp)]⟩
  obtain ⟨x1, x2, x3⟩ := key
  rw [x3]
  unfold evalV
  rw [if_neg (by simp [hn.1, hn.2])]
  have hop : opnd op = 1 := by rcases ho with rfl | rfl <;> decide
  have hf : (Ex.node op ByteArray.empty 0 [x]).formed = true := formed_mk (by rw [hop]; rfl) (by simp [x1])
  have hb : boundT e (.node op ByteArray.empty 0 [x]) = true := by
    rw [boundT_eq, Bool.and_eq_true]
    refine ⟨?_, (boundL_iff _ _).2 (by simp [Ex.args, x2])⟩
    show boundN e op ByteArray.empty = true
    unfold boundN
    rw [show decide (op = 5) = false by simp; omega, show decide (6 ≤ op ∧ op ≤ 8) = false by simp; omega]; rfl
  rw [hf, hb, if_neg (by simp), if_neg (by simp), valT_eq]
  rcases ho with rfl | rfl <;> rfl
theorem bin_err (op a b : Int) : (binV op a b).2 = if 11 ≤ op ∧ op ≤ 23 then 0 else 1 := by
  by_cases h : 11 ≤ op ∧ op ≤ 23
  · rw [if_pos h]
    rcases (show op = 11 ∨ op = 12 ∨ op = 13 ∨ op = 14 ∨ op = 15 ∨ op = 16 ∨ op = 17 ∨ op = 18 ∨ op = 19 ∨ op = 20 ∨ op = 21 ∨ op = 22 ∨ op = 23 by omega) with rfl | rfl | rfl | rfl | rfl | rfl | rfl | rfl | rfl | rfl | rfl | rfl | rfl <;> rfl
  · rw [if_neg h]
    unfold binV
    rw [if_neg (by omega), if_neg (by omega), if_neg (by omega), if_neg (by omega), if_neg (by omega), if_neg (by omega), if_neg (by omega), if_neg (by omega), if_neg (by omega), if_neg (by omega), if_neg (by omega), if_neg (by omega), if_neg (by omega)]
theorem un_err (op a : Int) : (unV op a).2 = if op = 9 ∨ op = 10 then 0 else 1 := by
  unfold unV
  by_cases h : op = 9
  · rw [if_pos h, if_pos (Or.inl h)]
  · rw [if_neg h]
    by_cases h' : op = 10
    · rw [if_pos h', if_pos (Or.inr h')]
    · rw [if_neg h', if_neg (by simp [h, h'])]

theorem rep2 {w : World} {b : Nat} {t u : Ex} {c c' : Value} {ty : TypeId} (h : w.heap[b]? = some (.cells #[.int .u8 t.op, .string t.name, .int .i64 t.n, c, .int .u8 u.op, .string u.name, .int .i64 u.n, c'] ty)) (hf : Flds .u8 t) (hf' : Flds .u8 u) (hr : RepS .u8 (fun _ => True) w 30 t.args c) (hr' : RepS .u8 (fun _ => True) w 30 u.args c') : RepS .u8 (fun _ => True) w 31 [t, u] (.slice (some ⟨b, 0, none⟩) 2 2) := by
  refine RepS.mk rfl trivial (fun i hi => ?_)
  rcases (show i = 0 ∨ i = 1 by have : i < 2 := hi; omega) with rfl | rfl
  · exact ⟨by simp [World.cell?, h], by simp [World.cell?, h], by simp [World.cell?, h], hf, c, by simp [World.cell?, h], hr⟩
  · exact ⟨by simp [World.cell?, h], by simp [World.cell?, h], by simp [World.cell?, h], hf', c', by simp [World.cell?, h], hr'⟩
theorem rep1 {w : World} {b : Nat} {t : Ex} {c : Value} {ty : TypeId} (h : w.heap[b]? = some (.cells #[.int .u8 t.op, .string t.name, .int .i64 t.n, c] ty)) (hf : Flds .u8 t) (hr : RepS .u8 (fun _ => True) w 30 t.args c) : RepS .u8 (fun _ => True) w 31 [t] (.slice (some ⟨b, 0, none⟩) 1 1) := by
  refine RepS.mk rfl trivial (fun i hi => ?_)
  obtain rfl : i = 0 := by have : i < 1 := hi; omega
  exact ⟨by simp [World.cell?, h], by simp [World.cell?, h], by simp [World.cell?, h], hf, c, by simp [World.cell?, h], hr⟩
theorem wf_u8 {n : Int} (h0 : 0 ≤ n) (h1 : n ≤ 255) : (Lit.int .u8 n).wf = true := by
  simp [Lit.wf, IntKind.min, IntKind.max, IntKind.signed, IntKind.bits]; omega

set_option maxRecDepth 100000 in
set_option maxHeartbeats 2000000 in
theorem walk (op : Int) (ns ms : List Nd) (v v' : Value) (w : World) (hop : 0 ≤ op ∧ op ≤ 255) (hl : ns.length ≤ maxLen) (hok : ∀ x ∈ ns, x.Ok) (hr : Row (fun _ => True) w 5 ns.length v (flat5 ns)) (hl' : ms.length ≤ maxLen) (hok' : ∀ x ∈ ms, x.Ok) (hr' : Row (fun _ => True) w 5 ms.length v' (flat5 ms)) :
    Calls Try.prog 14 #[.int .u8 op, v, v'] w fun r w' => r = .returned (.bool true) ∧ Below w.heap.size w w' := by
  obtain ⟨a, cap, rfl, _⟩ := hr.shape
  obtain ⟨a', cap', rfl, _⟩ := hr'.shape
  have HC24 := Lib.hid (fun (w' : World) (hm : More w w') => Build_any (fun _ => True) ns (.slice a ns.length cap) w' hl hok (hr.below hm.below))
  have HC24' := Lib.hid (fun (w' : World) (hm : More w w') => Build_any (fun _ => True) ms (.slice a' ms.length cap') w' hl' hok' (hr'.below hm.below))
  have HOP := Lib.hid hop
  clear hl hok hr hl' hok' hr'
  go_enter Try.func14, Try.ntmps14
  go_wp2_with fail
  refine (awake_any _).mono ?_
  rintro r w1 ⟨rfl, hb1⟩
  have HM1 := Lib.hid (more_of hb1); clear hb1
  go_wp2_with fail
  generalize hw2 : (((w1.alloc (.cells #[.string ⟨#[97]⟩, .string ⟨#[98]⟩, .string ⟨#[120, 48]⟩] 9)).alloc (.cells #[.int .i64 3, .int .i64 (-9223372036854775808), .int .i64 0] 2)).alloc (.cells #[.string ⟨#[116, 48]⟩, .string ⟨#[102, 95, 49]⟩] 9)).alloc (.cells #[.int .i64 0, .int .i64 5, .int .i64 3, .int .i64 0] 66) = w2
  have hm2 : More w1 w2 := by rw [← hw2]; exact grownBy_trans (grownBy_alloc2 _ _ _ _) (grownBy_alloc2 _ _ _ _)
  have x0 : w2.heap[w1.heap.size]? = some (.cells #[.string ⟨#[97]⟩, .string ⟨#[98]⟩, .string ⟨#[120, 48]⟩] 9) := by rw [← hw2, Below.heap_alloc _ _ _ (by simp; omega), Below.heap_alloc _ _ _ (by simp; omega), Below.heap_alloc _ _ _ (by simp)]; exact alloc_last _ _
  have x1 : w2.heap[w1.heap.size + 1]? = some (.cells #[.int .i64 3, .int .i64 (-9223372036854775808), .int .i64 0] 2) := by rw [← hw2, Below.heap_alloc _ _ _ (by simp), Below.heap_alloc _ _ _ (by simp)]; exact alloc_at _ _ (by simp)
  have x2 : w2.heap[w1.heap.size + 1 + 1]? = some (.cells #[.string ⟨#[116, 48]⟩, .string ⟨#[102, 95, 49]⟩] 9) := by rw [← hw2, Below.heap_alloc _ _ _ (by simp)]; exact alloc_at _ _ (by simp)
  have x3 : w2.heap[w1.heap.size + 1 + 1 + 1]? = some (.cells #[.int .i64 0, .int .i64 5, .int .i64 3, .int .i64 0] 66) := by rw [← hw2]; exact alloc_at _ _ (by simp)
  clear hw2
  have HM2 := Lib.hid (more_trans HM1.out hm2)
  have HRN := Lib.hid (show Row (fun _ => True) w2 1 3 (.slice (some ⟨w1.heap.size, 0, none⟩) 3 3) (jE.names.map .string) from row_of_block x0 rfl rfl (Nat.le_refl _) trivial)
  have HRV := Lib.hid (show Row (fun _ => True) w2 1 3 (.slice (some ⟨w1.heap.size + 1, 0, none⟩) 3 3) (jE.vals.map (.int .i64)) from row_of_block x1 rfl rfl (Nat.le_refl _) trivial)
  have HRT := Lib.hid (show Row (fun _ => True) w2 1 2 (.slice (some ⟨w1.heap.size + 1 + 1, 0, none⟩) 2 2) (jE.tnames.map .string) from row_of_block x2 rfl rfl (Nat.le_refl _) trivial)
  have HRO := Lib.hid (show Row (fun _ => True) w2 2 2 (.slice (some ⟨w1.heap.size + 1 + 1 + 1, 0, none⟩) 2 2) (flat2 [(0, 5), (3, 0)]) from row_of_block x3 rfl rfl (Nat.le_refl _) trivial)
  clear x0 x1 x2 x3 hm2
  have HOF := Lib.hid (show ofL [(0, 5), (3, 0)] = [((0 : Int), (5 : Int)), (3, 0)] by decide)
  refine (of_any (fun _ => True) [(0, 5), (3, 0)] (.slice (some ⟨w1.heap.size + 1 + 1 + 1, 0, none⟩) 2 2) w2 (by decide) HRO.out).mono ?_
  rintro r w3 ⟨hb3, tv, rfl, hr3⟩
  rw [HOF.out] at hr3
  obtain ⟨ta, tc, rfl, _⟩ := hr3.shape
  have HM3 := Lib.hid (more_of hb3)
  have HR3 := Lib.hid hr3
  clear hb3 hr3 HRO
  go_wp2_with fail
  generalize hw4 : (w3.alloc (.cells #[.slice ta 2 tc, .slice none 0 0] 54)).alloc (.cells #[.slice (some ⟨w1.heap.size, 0, none⟩) 3 3, .slice (some ⟨w1.heap.size + 1, 0, none⟩) 3 3, .slice (some ⟨w1.heap.size + 1 + 1, 0, none⟩) 2 2, .slice (some ⟨w3.heap.size, 0, none⟩) 2 2, .int .i64 7] 97) = w4
  have hm4 : More w3 w4 := by rw [← hw4]; exact grownBy_alloc2 _ _ _ _
  have x4 : w4.heap[w3.heap.size]? = some (.cells #[.slice ta 2 tc, .slice none 0 0] 54) := by rw [← hw4, Below.heap_alloc _ _ _ (by simp)]; exact alloc_last _ _
  have x5 : w4.heap[w3.heap.size + 1]? = some (.cells #[.slice (some ⟨w1.heap.size, 0, none⟩) 3 3, .slice (some ⟨w1.heap.size + 1, 0, none⟩) 3 3, .slice (some ⟨w1.heap.size + 1 + 1, 0, none⟩) 2 2, .slice (some ⟨w3.heap.size, 0, none⟩) 2 2, .int .i64 7] 97) := by rw [← hw4]; exact alloc_at _ _ (by simp)
  have hs4 : w3.heap.size + 1 < w4.heap.size := by rw [← hw4]; simp
  clear hw4
  have HP4 := Lib.hid (show EnvP (fun _ => True) w4 jE (.slice (some ⟨w1.heap.size, 0, none⟩) 3 3) (.slice (some ⟨w1.heap.size + 1, 0, none⟩) 3 3) (.slice (some ⟨w1.heap.size + 1 + 1, 0, none⟩) 2 2) (.slice (some ⟨w3.heap.size, 0, none⟩) 2 2) from by
    have hb := (more_trans HM3.out hm4).below
    refine ⟨⟨HRN.out.below hb, HRV.out.below hb, HRT.out.below hb, ⟨[.slice ta 2 tc, .slice none 0 0], row_of_block x4 rfl rfl (Nat.le_refl _) trivial, fun i hi => ?_⟩, by decide, ?_⟩, fun t ht => ?_, by decide⟩
    · rcases (show i = 0 ∨ i = 1 by have : i < 2 := hi; omega) with rfl | rfl
      · exact ⟨_, rfl, (HR3.out.mono (fun _ _ => trivial) (fun _ _ _ _ h => h)).below hm4.below⟩
      · exact ⟨_, rfl, Row.nil _ _ _ _ _⟩
    · refine ⟨⟨by decide, by decide⟩, fun v hv => ?_, fun t ht x hx => ?_⟩
      · have : v = 3 ∨ v = -9223372036854775808 ∨ v = 0 := by simpa [jE] using hv
        rcases this with rfl | rfl | rfl <;> exact ⟨by decide, by decide⟩
      · have : t = [(0, 5), (3, 0)] ∨ t = [] := by simpa [jE] using ht
        rcases this with rfl | rfl
        · have : x = (0, 5) ∨ x = (3, 0) := by simpa using hx
          rcases this with rfl | rfl <;> exact ⟨⟨by decide, by decide⟩, ⟨by decide, by decide⟩⟩
        · cases hx
    · have : t = [(0, 5), (3, 0)] ∨ t = [] := by simpa [jE] using ht
      rcases this with rfl | rfl
      · exact List.pairwise_cons.2 ⟨by decide, List.pairwise_singleton _ _⟩
      · exact List.Pairwise.nil)
  have HX5 := Lib.hid (And.intro x5 hs4)
  have HM4 := Lib.hid (more_trans HM2.out (more_trans HM3.out hm4))
  clear hm4 x4 x5 hs4 HRN HRV HRT HR3 HOF
  refine (HC24.out w4 HM4.out).mono ?_
  rintro r w5 ⟨hb5, y5, rfl, hf5, hr5⟩
  obtain ⟨a5, cap5, rfl⟩ := hr5.shape
  have HM5 := Lib.hid (more_of hb5)
  have HF5 := Lib.hid hf5
  have HR5 := Lib.hid hr5
  clear hb5 hf5 hr5
  generalize bldTop ns = t at *
  unfold agg
  go_wp2_with fail
  refine (conv_any 30 _ t (.slice a5 t.args.length cap5) w5 HF5.out HR5.out).mono ?_
  rintro r w6 ⟨hb6, y6, rfl, hr6⟩
  obtain ⟨a6, cap6, rfl⟩ := hr6.shape
  have HM6 := Lib.hid (more_trans HM5.out (more_of hb6))
  have HR6 := Lib.hid (hr6.mono (S' := fun _ => True) (fun _ _ => trivial) (fun _ _ _ _ h => h) (Nat.le_refl _))
  clear hb6 hr6
  unfold agg
  go_wp2_with fail
  refine (HC24'.out w6 (more_trans HM4.out HM6.out)).mono ?_
  rintro r w7 ⟨hb7, y7, rfl, hf7, hr7⟩
  obtain ⟨a7, cap7, rfl⟩ := hr7.shape
  have HM7 := Lib.hid (more_of hb7)
  have HF7 := Lib.hid hf7
  have HR7 := Lib.hid hr7
  clear hb7 hf7 hr7
  generalize bldTop ms = u at *
  unfold agg
  go_wp2_with fail
  refine (conv_any 30 _ u (.slice a7 u.args.length cap7) w7 HF7.out HR7.out).mono ?_
  rintro r w8 ⟨hb8, y8, rfl, hr8⟩
  obtain ⟨a8, cap8, rfl⟩ := hr8.shape
  have HM8 := Lib.hid (more_trans HM7.out (more_of hb8))
  have HR8 := Lib.hid (hr8.mono (S' := fun _ => True) (fun _ _ => trivial) (fun _ _ _ _ h => h) (Nat.le_refl _))
  clear hb8 hr8
  unfold agg
  have HM48 := Lib.hid (more_trans HM6.out HM8.out)
  have hx8 := (HM48.out.block HX5.out.2).trans HX5.out.1
  have hs8 : w3.heap.size + 1 < w8.heap.size := Nat.lt_of_lt_of_le HX5.out.2 HM48.out.size
  have e0 : w8.cell? ⟨w3.heap.size + 1, 0, none⟩ = some (.slice (some ⟨w1.heap.size, 0, none⟩) 3 3) := by simp [World.cell?, hx8]
  have e1 : w8.cell? ⟨w3.heap.size + 1, 1, none⟩ = some (.slice (some ⟨w1.heap.size + 1, 0, none⟩) 3 3) := by simp [World.cell?, hx8]
  have e2 : w8.cell? ⟨w3.heap.size + 1, 2, none⟩ = some (.slice (some ⟨w1.heap.size + 1 + 1, 0, none⟩) 2 2) := by simp [World.cell?, hx8]
  have e3 : w8.cell? ⟨w3.heap.size + 1, 3, none⟩ = some (.slice (some ⟨w3.heap.size, 0, none⟩) 2 2) := by simp [World.cell?, hx8]
  have e4 : w8.cell? ⟨w3.heap.size + 1, 4, none⟩ = some (.int .i64 7) := by simp [World.cell?, hx8]
  clear hx8
  have HC51 := Lib.hid (fun (z : Ex) (D : Nat) (w' : World) (hm : More w4 w') (S : Nat → Prop) (x6 : Option Addr) (y6 : Nat) (hf : Flds .u8 z) (hr : RepS .u8 S w' D z.args (.slice x6 z.args.length y6)) =>
    show Calls Try.prog 51 #[.agg #[.int .u8 z.op, .string z.name, .int .i64 z.n, .slice x6 z.args.length y6], .agg #[.slice (some ⟨w1.heap.size, 0, none⟩) 3 3, .slice (some ⟨w1.heap.size + 1, 0, none⟩) 3 3, .slice (some ⟨w1.heap.size + 1 + 1, 0, none⟩) 2 2, .slice (some ⟨w3.heap.size, 0, none⟩) 2 2, .int .i64 7]] w' fun r w'' => More w' w'' ∧ r = .returned (.tuple #[.int .i64 (evalV jE z).1, .int .i64 (evalV jE z).2]) from
    (eval_any D S (fun _ => True) z (.slice x6 z.args.length y6) jE _ _ _ _ w' hf hr (HP4.out.below hm.below)).mono fun r w'' ⟨h1, h2⟩ => ⟨more_of h1, h2⟩)
  have HC51t := Lib.hid (fun (w' : World) (hm : More w4 w') (S : Nat → Prop) (x6 : Option Addr) (y6 : Nat) => HC51.out t 30 w' hm S x6 y6 (Flds.u8 HF5.out))
  have HC51u := Lib.hid (fun (w' : World) (hm : More w4 w') (S : Nat → Prop) (x6 : Option Addr) (y6 : Nat) => HC51.out u 30 w' hm S x6 y6 (Flds.u8 HF7.out))
  have HC51n2 := Lib.hid (fun (w' : World) (hm : More w4 w') (S : Nat → Prop) (x6 : Option Addr) (y6 : Nat) (hr : RepS .u8 S w' 31 [t, u] (.slice x6 2 y6)) =>
    show Calls Try.prog 51 #[.agg #[.int .u8 op, .string ⟨#[]⟩, .int .i64 0, .slice x6 2 y6], .agg #[.slice (some ⟨w1.heap.size, 0, none⟩) 3 3, .slice (some ⟨w1.heap.size + 1, 0, none⟩) 3 3, .slice (some ⟨w1.heap.size + 1 + 1, 0, none⟩) 2 2, .slice (some ⟨w3.heap.size, 0, none⟩) 2 2, .int .i64 7]] w' fun r w'' => More w' w'' ∧ r = .returned (.tuple #[.int .i64 (evalV jE (.node op ByteArray.empty 0 [t, u])).1, .int .i64 (evalV jE (.node op ByteArray.empty 0 [t, u])).2]) from
    HC51.out (.node op ByteArray.empty 0 [t, u]) 31 w' hm S x6 y6 ⟨by have := HOP.out; exact wf_u8 this.1 this.2, (show (Lit.int .i64 0).wf = true by decide), Nat.zero_le _, (show 2 < 4294967296 by decide)⟩ hr)
  have HC51n1 := Lib.hid (fun (w' : World) (hm : More w4 w') (S : Nat → Prop) (x6 : Option Addr) (y6 : Nat) (hr : RepS .u8 S w' 31 [t] (.slice x6 1 y6)) =>
    show Calls Try.prog 51 #[.agg #[.int .u8 op, .string ⟨#[]⟩, .int .i64 0, .slice x6 1 y6], .agg #[.slice (some ⟨w1.heap.size, 0, none⟩) 3 3, .slice (some ⟨w1.heap.size + 1, 0, none⟩) 3 3, .slice (some ⟨w1.heap.size + 1 + 1, 0, none⟩) 2 2, .slice (some ⟨w3.heap.size, 0, none⟩) 2 2, .int .i64 7]] w' fun r w'' => More w' w'' ∧ r = .returned (.tuple #[.int .i64 (evalV jE (.node op ByteArray.empty 0 [t])).1, .int .i64 (evalV jE (.node op ByteArray.empty 0 [t])).2]) from
    HC51.out (.node op ByteArray.empty 0 [t]) 31 w' hm S x6 y6 ⟨by have := HOP.out; exact wf_u8 this.1 this.2, (show (Lit.int .i64 0).wf = true by decide), Nat.zero_le _, (show 1 < 4294967296 by decide)⟩ hr)
  have HJ2 := Lib.hid (fun (h1 : (evalV jE t).2 = 0) (h2 : (evalV jE u).2 = 0) => join2 jE op t u h1 h2 (by decide))
  have HJ1 := Lib.hid (fun (h1 : (evalV jE t).2 = 0) (h2 : op = 9 ∨ op = 10) => join1 jE op t h1 (by decide) h2)
  generalize evalV jE (.node op ByteArray.empty 0 [t, u]) = V2 at *
  generalize evalV jE (.node op ByteArray.empty 0 [t]) = V1 at *
  generalize evalV jE t = Vt at *
  generalize evalV jE u = Vu at *
  clear HC51
  have hs8' : w3.heap.size + 1 < w8.heap.size + 1 := by omega
  go_wp2_with fail
  clear hs8'
  generalize hw9 : (w8.alloc (.cells #[.int .u8 t.op, .string t.name, .int .i64 t.n, .slice a6 t.args.length cap6] 41)).alloc (.cells #[.int .u8 u.op, .string u.name, .int .i64 u.n, .slice a8 u.args.length cap8] 41) = w9
  have hm9 : More w8 w9 := by rw [← hw9]; exact grownBy_alloc2 _ _ _ _
  have x9 : w9.heap[w8.heap.size]? = some (.cells #[.int .u8 t.op, .string t.name, .int .i64 t.n, .slice a6 t.args.length cap6] 41) := by rw [← hw9, Below.heap_alloc _ _ _ (by simp)]; exact alloc_last _ _
  have y9 : w9.heap[w8.heap.size + 1]? = some (.cells #[.int .u8 u.op, .string u.name, .int .i64 u.n, .slice a8 u.args.length cap8] 41) := by rw [← hw9]; exact alloc_at _ _ (by simp)
  clear hw9
  have HM49 := Lib.hid (more_trans HM48.out hm9)
  have HR6 := Lib.hid (HR6.out.below (more_trans HM8.out hm9).below)
  have HR8 := Lib.hid (HR8.out.below hm9.below)
  have hs9 : w8.heap.size + 1 < w9.heap.size := by
    rcases Nat.lt_or_ge (w8.heap.size + 1) w9.heap.size with h | h
    · exact h
    · rw [Array.getElem?_eq_none h] at y9; cases y9
  have HX9 := Lib.hid (And.intro x9 (And.intro y9 hs9))
  have e0 := hm9.cell e0
  have e1 := hm9.cell e1
  have e2 := hm9.cell e2
  have e3 := hm9.cell e3
  have e4 := hm9.cell e4
  clear x9 y9 hm9 hs8
  refine (HC51t.out w9 HM49.out _ a6 cap6 HR6.out).mono ?_
  rintro r wa ⟨hma, rfl⟩
  have xa := (hma.block (b := w8.heap.size) (by omega)).trans HX9.out.1
  have ya := (hma.block (b := w8.heap.size + 1) hs9).trans HX9.out.2.1
  have e0 := hma.cell e0
  have e1 := hma.cell e1
  have e2 := hma.cell e2
  have e3 := hma.cell e3
  have e4 := hma.cell e4
  have u0 : wa.cell? ⟨w8.heap.size + 1, 0, none⟩ = some (.int .u8 u.op) := by simp [World.cell?, ya]
  have u1 : wa.cell? ⟨w8.heap.size + 1, 1, none⟩ = some (.string u.name) := by simp [World.cell?, ya]
  have u2 : wa.cell? ⟨w8.heap.size + 1, 2, none⟩ = some (.int .i64 u.n) := by simp [World.cell?, ya]
  have u3 : wa.cell? ⟨w8.heap.size + 1, 3, none⟩ = some (.slice a8 u.args.length cap8) := by simp [World.cell?, ya]
  have t0 : wa.cell? ⟨w8.heap.size, 0, none⟩ = some (.int .u8 t.op) := by simp [World.cell?, xa]
  have t1 : wa.cell? ⟨w8.heap.size, 1, none⟩ = some (.string t.name) := by simp [World.cell?, xa]
  have t2 : wa.cell? ⟨w8.heap.size, 2, none⟩ = some (.int .i64 t.n) := by simp [World.cell?, xa]
  have t3 : wa.cell? ⟨w8.heap.size, 3, none⟩ = some (.slice a6 t.args.length cap6) := by simp [World.cell?, xa]
  have HM4a := Lib.hid (more_trans HM49.out hma)
  have HR6 := Lib.hid (HR6.out.below hma.below)
  have HR8 := Lib.hid (HR8.out.below hma.below)
  clear xa ya hma hs9
  go_wp2_with fail
  refine (HC51u.out wa HM4a.out _ a8 cap8 HR8.out).mono ?_
  rintro r wb ⟨hmb, rfl⟩
  have e0 := hmb.cell e0
  have e1 := hmb.cell e1
  have e2 := hmb.cell e2
  have e3 := hmb.cell e3
  have e4 := hmb.cell e4
  have u0 := hmb.cell u0
  have u1 := hmb.cell u1
  have u2 := hmb.cell u2
  have u3 := hmb.cell u3
  have t0 := hmb.cell t0
  have t1 := hmb.cell t1
  have t2 := hmb.cell t2
  have t3 := hmb.cell t3
  have HM4b := Lib.hid (more_trans HM4a.out hmb)
  have HMb := Lib.hid (more_trans HM4.out HM4b.out)
  have HR6 := Lib.hid (HR6.out.below hmb.below)
  have HR8 := Lib.hid (HR8.out.below hmb.below)
  clear hmb
  by_cases hz : Vt.2 = 0
  · by_cases hz' : Vu.2 = 0
    · have q1 : (Vt.2 != 0) = false := by simp [hz]
      have q2 : (Vu.2 != 0) = false := by simp [hz']
      have HJ2 := Lib.hid (HJ2.out hz hz')
      have HJ1 := Lib.hid (HJ1.out hz)
      clear hz hz'
      have hsb : w3.heap.size + 1 < wb.heap.size := cell_lt e0
      have hsb2 : w8.heap.size < wb.heap.size := cell_lt t0
      have hsb3 : w8.heap.size + 1 < wb.heap.size := cell_lt u0
      go_wp2_with fail
      clear hsb hsb2 hsb3
      generalize hwc : wb.alloc (.cells #[.int .u8 t.op, .string t.name, .int .i64 t.n, .slice a6 t.args.length cap6, .int .u8 u.op, .string u.name, .int .i64 u.n, .slice a8 u.args.length cap8] 41) = wc
      have hmc : More wb wc := by rw [← hwc]; exact World.grownBy_alloc _ _ _
      have xc : wc.heap[wb.heap.size]? = some (.cells #[.int .u8 t.op, .string t.name, .int .i64 t.n, .slice a6 t.args.length cap6, .int .u8 u.op, .string u.name, .int .i64 u.n, .slice a8 u.args.length cap8] 41) := by rw [← hwc]; exact alloc_last _ _
      clear hwc
      have HRC := Lib.hid (rep2 xc (Flds.u8 HF5.out) (Flds.u8 HF7.out) (HR6.out.below hmc.below) (HR8.out.below hmc.below))
      refine (HC51n2.out wc (more_trans HM4b.out hmc) _ (some ⟨wb.heap.size, 0, none⟩) 2 HRC.out).mono ?_
      rintro r wd ⟨hmd, rfl⟩
      have hmm := more_trans hmc hmd
      have e0 := hmm.cell e0
      have e1 := hmm.cell e1
      have e2 := hmm.cell e2
      have e3 := hmm.cell e3
      have e4 := hmm.cell e4
      have t0 := hmm.cell t0
      have t1 := hmm.cell t1
      have t2 := hmm.cell t2
      have t3 := hmm.cell t3
      have HM4d := Lib.hid (more_trans HM4b.out hmm)
      have HMd := Lib.hid (more_trans HMb.out hmm)
      have HR6 := Lib.hid (HR6.out.below hmm.below)
      clear hmc xc hmd hmm HRC
      go_wp2_with fail
      refine (binary_any op Vt.1 Vu.1 _).mono ?_
      have HBE := Lib.hid (bin_err op Vt.1 Vu.1)
      generalize binV op Vt.1 Vu.1 = Bv at *
      rintro r w' ⟨rfl, rfl⟩
      have hsd : w3.heap.size + 1 < wd.heap.size := cell_lt e0
      have hsd2 : w8.heap.size < wd.heap.size := cell_lt t0
      go_wp2_with fail
      clear hsd hsd2
      generalize hwe : wd.alloc (.cells #[.int .u8 t.op, .string t.name, .int .i64 t.n, .slice a6 t.args.length cap6] 41) = we
      have hme : More wd we := by rw [← hwe]; exact World.grownBy_alloc _ _ _
      have xe : we.heap[wd.heap.size]? = some (.cells #[.int .u8 t.op, .string t.name, .int .i64 t.n, .slice a6 t.args.length cap6] 41) := by rw [← hwe]; exact alloc_last _ _
      clear hwe
      have HRE := Lib.hid (rep1 xe (Flds.u8 HF5.out) (HR6.out.below hme.below))
      refine (HC51n1.out we (more_trans HM4d.out hme) _ (some ⟨wd.heap.size, 0, none⟩) 1 HRE.out).mono ?_
      rintro r wf ⟨hmf, rfl⟩
      have HMf := Lib.hid (more_trans HMd.out (more_trans hme hmf))
      clear hme xe hmf HRE
      go_wp2_with fail
      refine (unary_any op Vt.1 _).mono ?_
      have HUE := Lib.hid (un_err op Vt.1)
      generalize unV op Vt.1 = Uv at *
      rintro r w' ⟨rfl, rfl⟩
      have hfin : (∃ _ : True, ((Bv.2 == 0) = true ∧ (V2.2 == 0) = true ∧ (V2.1 == Bv.1) = true ∧ (Uv.2 != 0) = true)) ∨ ((Bv.2 == 0) = false ∧ (Bv.2 != 0) = true ∧ (V2.2 == 6) = true ∧ (Uv.2 != 0) = false ∧ (V1.2 == 0) = true ∧ (V1.1 == Uv.1) = true) ∨ ((Bv.2 == 0) = false ∧ (Bv.2 != 0) = true ∧ (V2.2 == 6) = true ∧ (Uv.2 != 0) = true) := by
        have h1 := HBE.out
        have h2 := HUE.out
        have h3 := HJ2.out
        by_cases c1 : 11 ≤ op ∧ op ≤ 23
        · rw [if_pos c1] at h1 h3
          rw [if_neg (by omega)] at h2
          exact Or.inl ⟨trivial, by simp [h1], by simp [h3], by simp [h3], by simp [h2]⟩
        · rw [if_neg c1] at h1 h3
          by_cases c2 : op = 9 ∨ op = 10
          · rw [if_pos c2] at h2
            have h4 := HJ1.out c2
            exact Or.inr (Or.inl ⟨by simp [h1], by simp [h1], by simp [h3], by simp [h2], by simp [h4], by simp [h4]⟩)
          · rw [if_neg c2] at h2
            exact Or.inr (Or.inr ⟨by simp [h1], by simp [h1], by simp [h3], by simp [h2]⟩)
      rcases hfin with ⟨_, r1, r2, r3, r4⟩ | ⟨r1, r2, r3, r4, r5, r6⟩ | ⟨r1, r2, r3, r4⟩
      all_goals
        go_wp2_with fail
        go_ret
        exact ⟨rfl, HMf.out.below⟩
    · have q1 : (Vt.2 != 0) = false := by simp [hz]
      have q2 : (Vu.2 != 0) = true := by simp [hz']
      clear hz hz'
      go_wp2_with fail
      go_ret
      exact ⟨rfl, HMb.out.below⟩
  · have q1 : (Vt.2 != 0) = true := by simp [hz]
    clear hz
    go_wp2_with fail
    go_ret
    exact ⟨rfl, HMb.out.below⟩

theorem oks : Try.f14.params.toList.all (fun t => Try.prog.readableRec t && decide (t < Try.prog.types.size)) = true := by kernel_rfl
theorem oks' : ∀ t ∈ Try.f14.params.toList, Try.prog.readableRec t = true ∧ t < Try.prog.types.size := fun t ht => by
  have h := List.all_eq_true.1 oks t ht
  rw [Bool.and_eq_true, decide_eq_true_eq] at h
  exact h
theorem kInPlace : (Rows.exprJoinsRow.inPlace == Try.prog.inPlace 14) = true := by kernel_rfl
theorem kUnf : (Rows.exprJoinsRow.unfollowed == Try.prog.unfollowed 14) = true := by kernel_rfl
theorem kRec : (Rows.exprJoinsRow.recurses == Try.prog.recurses 14) = true := by kernel_rfl
theorem kNamed : (Rows.exprJoinsRow.named == Try.prog.varsNamed 14) = true := by kernel_rfl
theorem closed : joinedFacts Try.prog 14 Try.f14 Rows.exprJoinsSpec Rows.exprJoinsRow = true :=
  closed_of (by as_aux_lemma => kernel_rfl) kLaid kMaps (by as_aux_lemma => kernel_rfl) (by as_aux_lemma => kernel_rfl) rfl kStops rfl kKnobs kInPlace kUnf kRec kNamed
    (by as_aux_lemma => kernel_rfl) (by as_aux_lemma => kernel_rfl) (by as_aux_lemma => kernel_rfl) (by as_aux_lemma => kernel_rfl) (by as_aux_lemma => kernel_rfl) rfl (by as_aux_lemma => kernel_rfl) (by as_aux_lemma => kernel_rfl) (by as_aux_lemma => kernel_rfl)
    kKeys rfl kHeard kEnter kLift kMake ⟨rfl, rfl⟩ rfl (by as_aux_lemma => kernel_rfl) (by as_aux_lemma => kernel_rfl)

set_option maxRecDepth 100000 in
theorem lifted (os : Os) (started : os.Started) (H : Type) (enc : TypeId × Value → H) :
    ReturnsInHanded {} Try.checked os 14 .any (Rows.exprJoinsSpec.pre6 enc Try.prog Try.f14 Rows.exprJoinsRow.domain false) (Rows.exprJoinsSpec.post enc Try.prog Try.f14 false true false false) := by
  refine returnsInHanded_of_change (C := Try.checked) kOwn started (by kernel_rfl) Try.func14
    (ChangeSpec.witness6 (enc := enc) (C := Try.checked) false ⟨#[], #[.int .u8 0, .slice none 0 0, .slice none 0 0], []⟩ 8 (by kernel_rfl) (by kernel_rfl) (by kernel_rfl) (by kernel_rfl)) ?_
  intro W base args ds gs before hval0 hW hcnd _
  have hval : ∀ (j : Nat) t v, Try.f14.params[j]? = some t → args[j]? = some v → Value.okWide Try.prog W .any base t v := hval0
  have hW' := hW
  obtain ⟨p, q, hA0, hV, rfl, hfz, hnd⟩ := hW
  have hA : DataW.TrodAll enc Try.prog W 0 (fun _ => true) true Try.f14.params.toList args.toList ds p := hA0
  rw [Try.params14] at hA hval
  obtain ⟨v0, vs0, d0, ds0, p0, q0, hargs, rfl, rfl, h0, r0⟩ := trodAll_cons hA
  obtain ⟨v1, vs1, d1, ds1, p1, q1, rfl, rfl, rfl, h1, r1⟩ := trodAll_cons r0
  obtain ⟨v2, vs2, d2, ds2, p2, q2, rfl, rfl, rfl, h2, r2⟩ := trodAll_cons r1
  obtain ⟨rfl, rfl, rfl⟩ := trodAll_nil r2
  obtain rfl : args = #[v0, v1, v2] := by cases args; simp_all
  obtain ⟨rfl, rfl⟩ := trodVars_none hV
  obtain ⟨op, rfl, rfl, rfl, w0⟩ := open_int Try.underlying5 (hval 0 5 v0 rfl rfl) h0
  obtain ⟨xs, hok, hxl, hrow⟩ := open_rows cells5 Nd.Ok 5 (fun _ => rfl) (by omega) Try.underlying33 cells208 node_elem (okWide_slice Try.underlying33 (hval 1 33 v1 rfl rfl)) h1
  rw [flat5_eq] at hrow
  obtain ⟨ys, hok', hxl', hrow'⟩ := open_rows cells5 Nd.Ok 5 (fun _ => rfl) (by omega) Try.underlying33 cells208 node_elem (okWide_slice Try.underlying33 (hval 2 33 v2 rfl rfl)) h2
  rw [flat5_eq] at hrow'
  refine (walk op xs ys v1 v2 W (wf8 w0) hxl hok hrow hxl' hok' hrow').mono fun e W' ⟨he, hb⟩ => ?_
  subst he
  exact ⟨_, rfl, law_post kLaid oks' rfl rfl Try.underlying4 hW' rfl rfl rfl hb⟩

theorem over : Rows.exprJoinsRow.holds Try.pinned (OpenSpec.ofChange Rows.exprJoinsSpec) :=
  OpenClaim.holds_of_wide 14 Try.f14 rfl rfl rfl rfl rfl rfl rfl ⟨rfl, rfl, rfl, rfl, rfl⟩ rfl rfl rfl rfl rfl (by as_aux_lemma => kernel_rfl) Try.func14 closed
    (of_decide_eq_true (by as_aux_lemma => kernel_rfl)) (by unfold Func.isWrapper; first | (rw [if_pos (by decide +kernel)]; kernel_rfl) | (rw [if_neg (by decide +kernel)]; exact ⟨rfl, rfl⟩))
    (fun os started H enc _ => lifted os started H enc)

theorem proved : Rows.ExprJoinsSaid :=
  over
end Go.Proofs.Ytekhoanjpnjaeaa.exprJoins
