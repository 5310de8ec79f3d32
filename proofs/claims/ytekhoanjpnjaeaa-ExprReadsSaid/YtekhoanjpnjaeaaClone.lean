/- The contract of expr.clone. -/
import Derived.Test.YtekhoanjpnjaeaaBase
import Derived.Test.YtekhoanjpnjaeaaOps
import Derived.Test.YtekhoanjpnjaeaaOwn
import Derived.Deep.QuietTactic
import Derived.BigQuiet
import Derived.Deep.RegionHeld3
namespace Go.Proofs.Ytekhoanjpnjaeaa
open Go.RowKit

theorem Try.info41 : (Try.prog.info? 41).map (fun i => (i.zero, i.size, i.bytes)) = some (some (.agg #[.int .u8 0, .string ByteArray.empty, .int .i64 0, .slice none 0 0]), 4, 56) := by kernel_rfl

theorem run_make41 (n : Nat) (hn : n < 4294967296) (w : World) :
    (Instr.makeSlice 39 (.int .i64 (n : Int)) (.int .i64 (n : Int))).run Try.prog w = .ok (.slice (some ⟨w.heap.size, 0, none⟩) n n) (w.alloc (.cells (madeCells #[.int .u8 0, .string ByteArray.empty, .int .i64 0, .slice none 0 0] (n * 4)) 41)) := by
  obtain ⟨i, hi, hzz⟩ := Option.map_eq_some_iff.1 Try.info41
  simp only [Prod.mk.injEq] at hzz
  obtain ⟨hz, hs, hb⟩ := hzz
  have hr := run_make (P := Try.prog) w 39 41 i _ Try.underlying39 hi hz .i64 .i64 n n (by omega) (Int.le_refl _) (by rw [hb]; omega) (by omega)
  simp only [Int.toNat_natCast, hs] at hr
  exact hr


theorem cells4 {w : World} {M k : Nat} {arr : Array Value} {ty : TypeId} (h : w.heap[M]? = some (.cells arr ty)) (hk : k * 4 + 3 < arr.size) :
    (∃ v0, w.cell? ⟨M, k * 4, none⟩ = some v0) ∧ (∃ v1, w.cell? ⟨M, k * 4 + 1, none⟩ = some v1) ∧ (∃ v2, w.cell? ⟨M, k * 4 + 2, none⟩ = some v2) ∧ (∃ v3, w.cell? ⟨M, k * 4 + 3, none⟩ = some v3) := by
  refine ⟨⟨arr[k * 4], ?_⟩, ⟨arr[k * 4 + 1], ?_⟩, ⟨arr[k * 4 + 2], ?_⟩, ⟨arr[k * 4 + 3], ?_⟩⟩ <;> simp [World.cell?, h] <;> exact Array.getElem?_eq_getElem (by omega)
theorem below_thaw {w w' : World} (hB : Below w.heap.size w w') {b o : Nat} {v : Value} (hc : w.cell? ⟨b, o, none⟩ = some v) (h : w.frozen? ⟨b, o, none⟩ = false) : w'.frozen? ⟨b, o, none⟩ = false := by
  rw [hB.frozen (p := ⟨b, o, none⟩) (cell_lt hc)]; exact h

def set4 (w : World) (M o : Nat) (a b c d : Value) : World := (((w.setCell ⟨M, o, none⟩ a).setCell ⟨M, o + 1, none⟩ b).setCell ⟨M, o + 2, none⟩ c).setCell ⟨M, o + 3, none⟩ d
theorem set4_heap (w : World) (M o : Nat) (a b c d : Value) (x : Nat) (h : x ≠ M) : (set4 w M o a b c d).heap[x]? = w.heap[x]? := by
  unfold set4; rw [Below.heap_setCell _ _ _ _ h, Below.heap_setCell _ _ _ _ h, Below.heap_setCell _ _ _ _ h, Below.heap_setCell _ _ _ _ h]
theorem set4_far (w : World) (M o : Nat) (a b c d : Value) (x y : Nat) (h : x ≠ M) : ((((w.setCell ⟨M, o, none⟩ a).setCell ⟨M, o + 1, none⟩ b).setCell ⟨M, o + 2, none⟩ c).setCell ⟨M, o + 3, none⟩ d).cell? ⟨x, y, none⟩ = w.cell? ⟨x, y, none⟩ :=
  World.cell?_of_block (w := w) (set4_heap w M o a b c d x h)

/-- The world at the head of clone's loop. -/
structure CloneInv (w : World) (t : Ex) (d k : Nat) (wr : World) : Prop where
  below : Below w.heap.size w wr
  size : w.heap.size + 1 + 1 + 1 ≤ wr.heap.size
  r2 : wr.heap[w.heap.size]? = some (.cells #[.int .u8 0, .string ByteArray.empty, .int .i64 0, .slice none 0 0] 41)
  r3 : wr.heap[w.heap.size + 1]? = some (.cells #[.int .u8 t.op, .string t.name, .int .i64 t.n, .slice (some ⟨w.heap.size + 1 + 1, 0, none⟩) t.args.length t.args.length] 41)
  arr : ∃ arr, wr.heap[w.heap.size + 1 + 1]? = some (.cells arr 41) ∧ arr.size = t.args.length * 4
  own : ∃ m : Nat → Nat, m 0 = w.heap.size + 1 + 1 + 1 ∧ m k = wr.heap.size ∧ (∀ i, i < k → m i ≤ m (i + 1)) ∧ ∀ i, i < k → ∀ (h : i < t.args.length), OwnAt wr (d - 1) (m i) (m (i + 1)) t.args[i] (w.heap.size + 1 + 1) (i * 4)

theorem set4_size (w : World) (M o : Nat) (a b c d : Value) : (set4 w M o a b c d).heap.size = w.heap.size := by
  simp [set4, World.setCell]
theorem set4_below {B : Nat} {w0 w : World} (h : Below B w0 w) {M : Nat} (hM : B ≤ M) (o : Nat) (a b c d : Value) : Below B w0 (set4 w M o a b c d) :=
  (((h.setCell (p := ⟨M, o, none⟩) hM a).setCell (p := ⟨M, o + 1, none⟩) hM b).setCell (p := ⟨M, o + 2, none⟩) hM c).setCell (p := ⟨M, o + 3, none⟩) hM d
theorem set4_same {w : World} {M : Nat} {arr : Array Value} {ty : TypeId} (h : w.heap[M]? = some (.cells arr ty)) (o : Nat) (a b c d : Value) :
    (set4 w M o a b c d).heap[M]? = some (.cells ((((arr.setIfInBounds o a).setIfInBounds (o + 1) b).setIfInBounds (o + 2) c).setIfInBounds (o + 3) d) ty) := by
  unfold set4
  exact heap_setCell_same _ _ _ _ _ _ (heap_setCell_same _ _ _ _ _ _ (heap_setCell_same _ _ _ _ _ _ (heap_setCell_same _ _ _ _ _ _ h)))
theorem set4_old {w : World} {M : Nat} {arr : Array Value} {ty : TypeId} (h : w.heap[M]? = some (.cells arr ty)) (o : Nat) (a b c d : Value) (y : Nat) (hy : y < o ∨ o + 4 ≤ y) :
    (set4 w M o a b c d).cell? ⟨M, y, none⟩ = w.cell? ⟨M, y, none⟩ := by
  simp only [World.cell?, set4_same h, h]
  simp
  rw [Array.getElem?_setIfInBounds_ne (by omega), Array.getElem?_setIfInBounds_ne (by omega), Array.getElem?_setIfInBounds_ne (by omega), Array.getElem?_setIfInBounds_ne (by omega)]
theorem set4_new {w : World} {M : Nat} {arr : Array Value} {ty : TypeId} (h : w.heap[M]? = some (.cells arr ty)) (o : Nat) (a b c d : Value) (ho : o + 3 < arr.size) :
    (set4 w M o a b c d).cell? ⟨M, o, none⟩ = some a ∧ (set4 w M o a b c d).cell? ⟨M, o + 1, none⟩ = some b ∧ (set4 w M o a b c d).cell? ⟨M, o + 2, none⟩ = some c ∧ (set4 w M o a b c d).cell? ⟨M, o + 3, none⟩ = some d := by
  simp only [World.cell?, set4_same h]
  simp [Array.getElem?_setIfInBounds, ho]
  omega

theorem CloneInv.step {w wr wd w1 : World} {t : Ex} {d' k : Nat} (hk : k < t.args.length) (h : CloneInv w t (d' + 1) k wr) (hd : wd = wr.drew) (hb : Below wd.heap.size wd w1) {c : Value} (hf : Flds .u8 t.args[k])
    (ho : OwnS w1 d' wd.heap.size w1.heap.size t.args[k].args c) :
    CloneInv w t (d' + 1) (k + 1) (set4 w1 (w.heap.size + 1 + 1) (k * 4) (.int .u8 t.args[k].op) (.string t.args[k].name) (.int .i64 t.args[k].n) c) := by
  have hds : wd.heap.size = wr.heap.size := by rw [hd]; rfl
  have hdb : Below wr.heap.size wr w1 := by
    rw [hds] at hb; rw [hd] at hb
    exact (Below.drew (Below.refl _ wr)).trans hb
  obtain ⟨arr, harr, hsz⟩ := h.arr
  have hs := h.size
  have hs1 := hdb.size
  have harr1 : w1.heap[w.heap.size + 1 + 1]? = some (.cells arr 41) := by rw [hdb.block _ (by omega)]; exact harr
  obtain ⟨m, m0, mk, mm, mo⟩ := h.own
  obtain ⟨n0, n1, n2, n3⟩ := set4_new harr1 (k * 4) (.int .u8 t.args[k].op) (.string t.args[k].name) (.int .i64 t.args[k].n) c (by omega)
  refine ⟨set4_below (h.below.trans (hdb.mono (by omega))) (by omega) _ _ _ _ _, by rw [set4_size]; omega, ?_, ?_, ⟨_, set4_same harr1 _ _ _ _ _, by simpa using hsz⟩, ?_⟩
  · rw [set4_heap _ _ _ _ _ _ _ _ (by omega), hdb.block _ (by omega)]; exact h.r2
  · rw [set4_heap _ _ _ _ _ _ _ _ (by omega), hdb.block _ (by omega)]; exact h.r3
  · refine ⟨fun i => if i ≤ k then m i else w1.heap.size, by simp [m0], by show (if k + 1 ≤ k then m (k + 1) else w1.heap.size) = _; rw [if_neg (by omega), set4_size], ?_, ?_⟩
    · intro i hi
      by_cases hik : i + 1 ≤ k
      · simp only [if_pos hik, if_pos (show i ≤ k by omega)]; exact mm i (by omega)
      · have : i = k := by omega
        subst this
        show (if i ≤ i then m i else w1.heap.size) ≤ (if i + 1 ≤ i then m (i + 1) else w1.heap.size)
        rw [if_pos (Nat.le_refl _), if_neg (by omega), mk]; omega
    · intro i hi hil
      by_cases hik : i + 1 ≤ k
      · simp only [if_pos hik, if_pos (show i ≤ k by omega)]
        have hmi : m 0 ≤ m i := mono_le mm (Nat.zero_le _) (by omega)
        have hmi1 : m (i + 1) ≤ m k := mono_le mm (by omega) (Nat.le_refl _)
        refine (mo i (by omega) hil).mono (Nat.le_refl _) (Nat.le_refl _) (Nat.le_refl _) (fun j v hj hv => ?_) (fun x hx hx' => ?_)
        · rw [set4_old harr1 _ _ _ _ _ _ (by omega)]
          exact below_cell hdb hv
        · rw [set4_heap _ _ _ _ _ _ _ _ (by omega)]
          exact hdb.block _ (by omega)
      · have : i = k := by omega
        subst this
        simp only [if_neg (show ¬ i + 1 ≤ i by omega), if_pos (Nat.le_refl i), mk]
        refine ⟨n0, n1, n2, hf, c, n3, ho.mono (Nat.le_refl _) (by omega) (Nat.le_refl _) (fun x hx hx' => ?_)⟩
        rw [set4_heap _ _ _ _ _ _ _ _ (by omega)]
theorem CloneInv.done {w wr : World} {t : Ex} {d : Nat} (h : CloneInv w t d t.args.length wr) (hd : t.args ≠ [] → d - 1 + 1 = d) : OwnS wr d (w.heap.size + 1 + 1) wr.heap.size t.args (.slice (some ⟨w.heap.size + 1 + 1, 0, none⟩) t.args.length t.args.length) := by
  obtain ⟨arr, harr, hsz⟩ := h.arr
  obtain ⟨m, m0, mk, mm, mo⟩ := h.own
  by_cases he : t.args = []
  · rw [he]; exact OwnS.nil _ _ _ _ _
  · rw [← hd he]
    refine OwnS.mk m rfl (Nat.le_refl _) (by omega) (by omega) mm (thaw harr) (fun i hi => ?_)
    have := mo i hi hi
    rwa [Nat.zero_add]
theorem CloneInv.start {w : World} {t : Ex} (d : Nat) (_hn : t.args.length < 4294967296) :
    CloneInv w t d 0 (((w.alloc (.cells #[.int .u8 0, .string ⟨#[]⟩, .int .i64 0, .slice none 0 0] 41)).alloc (.cells #[.int .u8 t.op, .string t.name, .int .i64 t.n, .slice (some ⟨w.heap.size + 1 + 1, 0, none⟩) t.args.length t.args.length] 41)).alloc
      (.cells (madeCells #[.int .u8 0, .string ByteArray.empty, .int .i64 0, .slice none 0 0] (t.args.length * 4)) 41)) := by
  refine ⟨(((Below.refl _ _).alloc (Nat.le_refl _) _).alloc (by simp) _).alloc (by simp; omega) _, by simp, ?_, ?_, ⟨madeCells #[.int .u8 0, .string ByteArray.empty, .int .i64 0, .slice none 0 0] (t.args.length * 4), ?_, size_madeCells _ _⟩, ⟨fun _ => w.heap.size + 1 + 1 + 1, rfl, by simp, fun _ h => absurd h (Nat.not_lt_zero _), fun _ h => absurd h (Nat.not_lt_zero _)⟩⟩
  · rw [Below.heap_alloc _ _ _ (by simp; omega), Below.heap_alloc _ _ _ (by simp)]; exact alloc_last _ _
  · rw [Below.heap_alloc _ _ _ (by simp)]; have := alloc_last (w.alloc (.cells #[.int .u8 0, .string ⟨#[]⟩, .int .i64 0, .slice none 0 0] 41)) (.cells #[.int .u8 t.op, .string t.name, .int .i64 t.n, .slice (some ⟨w.heap.size + 1 + 1, 0, none⟩) t.args.length t.args.length] 41); rwa [World.size_alloc] at this
  · have := alloc_last ((w.alloc (.cells #[.int .u8 0, .string ⟨#[]⟩, .int .i64 0, .slice none 0 0] 41)).alloc (.cells #[.int .u8 t.op, .string t.name, .int .i64 t.n, .slice (some ⟨w.heap.size + 1 + 1, 0, none⟩) t.args.length t.args.length] 41)) (.cells (madeCells #[.int .u8 0, .string ByteArray.empty, .int .i64 0, .slice none 0 0] (t.args.length * 4)) 41); rwa [World.size_alloc, World.size_alloc] at this

theorem clone_any (d : Nat) : ∀ (S : Nat → Prop) (t : Ex) (b off : Nat) (w : World), RepAt .u8 S w d t b off →
    Calls Try.prog 69 #[.pointer (some ⟨b, off, none⟩)] w fun e w' => Below w.heap.size w w' ∧ ∃ c, e = .returned (.agg #[.int .u8 t.op, .string t.name, .int .i64 t.n, c]) ∧ OwnS w' d w.heap.size w'.heap.size t.args c := by
  induction d using Nat.strongRecOn with
  | _ d ih =>
    intro S t b off w h
    have IH := Lib.hid ih; clear ih
    obtain ⟨h0, h1, h2, hf, c, h3, hc⟩ := h
    obtain ⟨a, cap, rfl⟩ := hc.shape
    have HC := Lib.hid hc; clear hc
    have hlen := hf.len
    have hb := cell_lt h0
    have hb1 : b < w.heap.size + 1 := by omega
    have hb2 : b < w.heap.size + 1 + 1 := by omega
    have hmk := run_make41 t.args.length hlen
    go_enter Try.func69, Try.ntmps69
    go_wp2_with fail
    go_loopw [20] (fun i wr => ∃ k : Nat, k ≤ t.args.length ∧ i = .int .i64 k ∧ CloneInv w t d k wr) (fun i _ => t.args.length - (intOf i).toNat)
    case atStart => exact ⟨0, Nat.zero_le _, rfl, CloneInv.start d hlen⟩
    case round =>
      obtain ⟨k, hk, rfl, hinv⟩ := hrel
      clear hmk
      have HI := Lib.hid hinv; clear hinv
      have hr3 : wr.cell? ⟨w.heap.size + 1, 3, none⟩ = some (.slice (some ⟨w.heap.size + 1 + 1, 0, none⟩) t.args.length t.args.length) := by
        simp [World.cell?, HI.out.r3]
      have he3 : wr.cell? ⟨b, off + 3, none⟩ = some (.slice a t.args.length cap) := below_cell HI.out.below h3
      by_cases hlt : k < t.args.length
      · have hne : t.args ≠ [] := by intro e; rw [e] at hlt; simp at hlt
        obtain ⟨d', b', off', rfl, rfl, _, _, hat⟩ := HC.out.at hne
        have hk' := hat k hlt
        clear hat hne
        have HK := Lib.hid (hk'.below HI.out.below); clear hk'
        clear h0 h1 h2 h3
        obtain ⟨arr, harr, hsz⟩ := HI.out.arr
        obtain ⟨⟨v0, p0⟩, ⟨v1, p1⟩, ⟨v2, p2⟩, ⟨v3, p3⟩⟩ := cells4 (k := k) harr (by omega)
        have f0 := thaw harr (k * 4)
        have f1 := thaw harr (k * 4 + 1)
        have f2 := thaw harr (k * 4 + 2)
        have f3 := thaw harr (k * 4 + 3)
        have HARR := Lib.hid harr; clear harr
        have HSZ := Lib.hid hsz; clear hsz
        go_wp2_with fail
        obtain ⟨wd, hwd⟩ : ∃ wd, wd = wr.drew := ⟨_, rfl⟩
        have HP := Lib.hid (And.intro (And.intro (show wd.cell? ⟨w.heap.size + 1 + 1, k * 4, none⟩ = some v0 by rw [hwd]; exact p0) (show wd.cell? ⟨w.heap.size + 1 + 1, k * 4 + 1, none⟩ = some v1 by rw [hwd]; exact p1)) (And.intro (show wd.cell? ⟨w.heap.size + 1 + 1, k * 4 + 2, none⟩ = some v2 by rw [hwd]; exact p2) (show wd.cell? ⟨w.heap.size + 1 + 1, k * 4 + 3, none⟩ = some v3 by rw [hwd]; exact p3)))
        have HFr := Lib.hid (show ∀ o, wd.frozen? ⟨w.heap.size + 1 + 1, o, none⟩ = false by rw [hwd]; exact thaw HARR.out)
        have hr3d : wd.cell? ⟨w.heap.size + 1, 3, none⟩ = some (.slice (some ⟨w.heap.size + 1 + 1, 0, none⟩) t.args.length t.args.length) := by rw [hwd]; exact hr3
        have he3d : wd.cell? ⟨b, off + 3, none⟩ = some (.slice (some ⟨b', off', none⟩) t.args.length cap) := by rw [hwd]; exact he3
        have HKd := Lib.hid (show RepAt .u8 S wd d' t.args[k] b' (off' + k * 4) by rw [hwd]; exact HK.out.below (below_drewN wr 1 _))
        have HWD := Lib.hid hwd
        clear p0 p1 p2 p3 f0 f1 f2 f3 hr3 he3
        go_region_held3 (fun wx => wx.cell? ⟨w.heap.size + 1, 3, none⟩ = some (.slice (some ⟨w.heap.size + 1 + 1, 0, none⟩) t.args.length t.args.length) ∧ wx.cell? ⟨b, off + 3, none⟩ = some (.slice (some ⟨b', off', none⟩) t.args.length cap)) (first | with_reducible exact ⟨hr3d, he3d⟩ | (rw [← hwd]; with_reducible exact ⟨hr3d, he3d⟩) | with_reducible exact ⟨hr4, he4⟩ | exact ⟨(set4_far _ _ _ _ _ _ _ _ _ (by omega)).trans hr4, (set4_far _ _ _ _ _ _ _ _ _ (by omega)).trans he4⟩) (first | (go_at_call 69; rw [← HWD.out]; refine (IH.out d' (by omega) S t.args[k] b' (off' + k * 4) wd HKd.out).mono ?_; rintro e w1 ⟨hb1, c1, rfl, hown⟩; obtain ⟨a1, cap1, rfl⟩ := hown.shape; have hr4 := below_cell hb1 hr3d; have he4 := below_cell hb1 he3d; have q0 := below_cell hb1 HP.out.1.1; have q1 := below_cell hb1 HP.out.1.2; have q2 := below_cell hb1 HP.out.2.1; have q3 := below_cell hb1 HP.out.2.2; have g0 := below_thaw hb1 HP.out.1.1 (HFr.out _); have g1 := below_thaw hb1 HP.out.1.2 (HFr.out _); have g2 := below_thaw hb1 HP.out.2.1 (HFr.out _); have g3 := below_thaw hb1 HP.out.2.2 (HFr.out _)))
        have HN := Lib.hid (HI.out.step hlt HWD.out hb1 HK.out.2.2.2.1 hown)
        clear q0 q1 q2 q3 g0 g1 g2 g3 hr4 he4 hr3d he3d hb1 hown
        go_wp2_with fail
        go_roundw
        case rel => exact ⟨k + 1, by omega, by go_num, HN.out⟩
        case measure => simp [intOf]; omega
      · have hkk : k = t.args.length := by omega
        have HI' := Lib.hid (show CloneInv w t d t.args.length wr by rw [← hkk]; exact HI.out)
        clear hkk
        have hd : t.args ≠ [] → d - 1 + 1 = d := fun hne => by
          obtain ⟨d', b', off', rfl, _⟩ := HC.out.at hne
          omega
        have HD := Lib.hid (HI'.out.done hd)
        clear hd
        have a0 : wr.cell? ⟨w.heap.size + 1, 0, none⟩ = some (.int .u8 t.op) := by simp [World.cell?, HI.out.r3]
        have a1 : wr.cell? ⟨w.heap.size + 1, 1, none⟩ = some (.string t.name) := by simp [World.cell?, HI.out.r3]
        have a2 : wr.cell? ⟨w.heap.size + 1, 2, none⟩ = some (.int .i64 t.n) := by simp [World.cell?, HI.out.r3]
        have z0 : wr.cell? ⟨w.heap.size, 0, none⟩ = some (.int .u8 0) := by simp [World.cell?, HI.out.r2]
        have z1 : wr.cell? ⟨w.heap.size, 1, none⟩ = some (.string ByteArray.empty) := by simp [World.cell?, HI.out.r2]
        have z2 : wr.cell? ⟨w.heap.size, 2, none⟩ = some (.int .i64 0) := by simp [World.cell?, HI.out.r2]
        have z3 : wr.cell? ⟨w.heap.size, 3, none⟩ = some (.slice none 0 0) := by simp [World.cell?, HI.out.r2]
        have f0 := thaw HI.out.r2 0
        have f1 := thaw HI.out.r2 1
        have f2 := thaw HI.out.r2 2
        have f3 := thaw HI.out.r2 3
        go_wp2_with fail
        refine bodyPost_ret (v := .agg #[.int .u8 t.op, .string t.name, .int .i64 t.n, .slice (some ⟨w.heap.size + 1 + 1, 0, none⟩) t.args.length t.args.length]) (by simp [results, Try.results69, go_sem, z0, z1, z2, z3]) rfl ⟨set4_below (M := w.heap.size) HI.out.below (Nat.le_refl _) 0 _ _ _ _, _, rfl, ?_⟩
        exact HD.out.mono (Nat.le_refl _) (by omega) (Nat.le_of_eq (set4_size wr w.heap.size 0 _ _ _ _).symm) (fun x hx hx' => set4_heap wr w.heap.size 0 _ _ _ _ x (by omega))
end Go.Proofs.Ytekhoanjpnjaeaa
