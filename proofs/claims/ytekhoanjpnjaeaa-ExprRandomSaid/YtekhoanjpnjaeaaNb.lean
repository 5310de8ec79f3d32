/- Texts Clone, Const, RefOps, Formed, FoldT, laid together. -/
import Derived.Deep.QuietTactic
import Derived.BigQuiet
import Derived.Deep.RegionHeld3
import Derived.Test.YtekhoanjpnjaeaaNa
/- The contract of expr.clone. -/
namespace Go.Proofs.Ytekhoanjpnjaeaa
open Go.RowKit

theorem Try.info41 : (Try.prog.info? 41).map (fun i => (i.zero, i.size, i.bytes)) = some (some (.agg #[.int .u8 0, .string ByteArray.empty, .int .i64 0, .slice none 0 0]), 4, 56) := by kernel_rfl

theorem run_make41 (n : Nat) (hn : n < 4294967296) (w : World) :
    (Instr.makeSlice 39 (.int .i64 (n : Int)) (.int .i64 (n : Int))).run Try.prog w = .ok (.slice (some ⟨w.heap.size, 0, none⟩) n n) (w.alloc (.cells (madeCells #[.int .u8 0, .string ByteArray.empty, .int .i64 0, .slice none 0 0] (n * 4)) 41)) := by
  obtain ⟨i, hi, hzz⟩ := Option.map_eq_some_iff.1 Try.info41
  simp only [Prod.mk.injEq] at hzz
  obtain ⟨hz, hs, hb⟩ := hzz
  have hr := run_make (P := Try.prog) w 39 41 i _ Try.underlying39 hi hz .i64 .i64 n n (by omega) (Int.le_refl _) (by rw [hb]; omega) (by omega)
  simp only [Int.toNat_natCast, hs] at hr
  exact hr


theorem cells4 {w : World} {M k : Nat} {arr : Array Value} {ty : TypeId} (h : w.heap[M]? = some (.cells arr ty)) (hk : k * 4 + 3 < arr.size) :
    (∃ v0, w.cell? ⟨M, k * 4, none⟩ = some v0) ∧ (∃ v1, w.cell? ⟨M, k * 4 + 1, none⟩ = some v1) ∧ (∃ v2, w.cell? ⟨M, k * 4 + 2, none⟩ = some v2) ∧ (∃ v3, w.cell? ⟨M, k * 4 + 3, none⟩ = some v3) := by
  refine ⟨⟨arr[k * 4], ?_⟩, ⟨arr[k * 4 + 1], ?_⟩, ⟨arr[k * 4 + 2], ?_⟩, ⟨arr[k * 4 + 3], ?_⟩⟩ <;> simp [World.cell?, h] <;> exact Array.getElem?_eq_getElem (by omega)
theorem below_thaw {w w' : World} (hB : Below w.heap.size w w') {b o : Nat} {v : Value} (hc : w.cell? ⟨b, o, none⟩ = some v) (h : w.frozen? ⟨b, o, none⟩ = false) : w'.frozen? ⟨b, o, none⟩ = false := by
  rw [hB.frozen (p := ⟨b, o, none⟩) (cell_lt hc)]; exact h

def set4 (w : World) (M o : Nat) (a b c d : Value) : World := (((w.setCell ⟨M, o, none⟩ a).setCell ⟨M, o + 1, none⟩ b).setCell ⟨M, o + 2, none⟩ c).setCell ⟨M, o + 3, none⟩ d
theorem set4_heap (w : World) (M o : Nat) (a b c d : Value) (x : Nat) (h : x ≠ M) : (set4 w M o a b c d).heap[x]? = w.heap[x]? := by
  unfold set4; rw [Below.heap_setCell _ _ _ _ h, Below.heap_setCell _ _ _ _ h, Below.heap_setCell _ _ _ _ h, Below.heap_setCell _ _ _ _ h]
theorem set4_far (w : World) (M o : Nat) (a b c d : Value) (x y : Nat) (h : x ≠ M) : ((((w.setCell ⟨M, o, none⟩ a).setCell ⟨M, o + 1, none⟩ b).setCell ⟨M, o + 2, none⟩ c).setCell ⟨M, o + 3, none⟩ d).cell? ⟨x, y, none⟩ = w.cell? ⟨x, y, none⟩ :=
  World.cell?_of_block (w := w) (set4_heap w M o a b c d x h)

/-- The world at the head of clone's loop. -/
structure CloneInv (w : World) (t : Ex) (d k : Nat) (wr : World) : Prop where
  below : Below w.heap.size w wr
  size : w.heap.size + 1 + 1 + 1 ≤ wr.heap.size
  r2 : wr.heap[w.heap.size]? = some (.cells #[.int .u8 0, .string ByteArray.empty, .int .i64 0, .slice none 0 0] 41)
  r3 : wr.heap[w.heap.size + 1]? = some (.cells #[.int .u8 t.op, .string t.name, .int .i64 t.n, .slice (some ⟨w.heap.size + 1 + 1, 0, none⟩) t.args.length t.args.length] 41)
  arr : ∃ arr, wr.heap[w.heap.size + 1 + 1]? = some (.cells arr 41) ∧ arr.size = t.args.length * 4
  own : ∃ m : Nat → Nat, m 0 = w.heap.size + 1 + 1 + 1 ∧ m k = wr.heap.size ∧ (∀ i, i < k → m i ≤ m (i + 1)) ∧ ∀ i, i < k → ∀ (h : i < t.args.length), OwnAt wr (d - 1) (m i) (m (i + 1)) t.args[i] (w.heap.size + 1 + 1) (i * 4)

theorem set4_size (w : World) (M o : Nat) (a b c d : Value) : (set4 w M o a b c d).heap.size = w.heap.size := by
  simp [set4, World.setCell]
theorem set4_below {B : Nat} {w0 w : World} (h : Below B w0 w) {M : Nat} (hM : B ≤ M) (o : Nat) (a b c d : Value) : Below B w0 (set4 w M o a b c d) :=
  (((h.setCell (p := ⟨M, o, none⟩) hM a).setCell (p := ⟨M, o + 1, none⟩) hM b).setCell (p := ⟨M, o + 2, none⟩) hM c).setCell (p := ⟨M, o + 3, none⟩) hM d
theorem set4_same {w : World} {M : Nat} {arr : Array Value} {ty : TypeId} (h : w.heap[M]? = some (.cells arr ty)) (o : Nat) (a b c d : Value) :
    (set4 w M o a b c d).heap[M]? = some (.cells ((((arr.setIfInBounds o a).setIfInBounds (o + 1) b).setIfInBounds (o + 2) c).setIfInBounds (o + 3) d) ty) := by
  unfold set4
  exact heap_setCell_same _ _ _ _ _ _ (heap_setCell_same _ _ _ _ _ _ (heap_setCell_same _ _ _ _ _ _ (heap_setCell_same _ _ _ _ _ _ h)))
theorem set4_old {w : World} {M : Nat} {arr : Array Value} {ty : TypeId} (h : w.heap[M]? = some (.cells arr ty)) (o : Nat) (a b c d : Value) (y : Nat) (hy : y < o ∨ o + 4 ≤ y) :
    (set4 w M o a b c d).cell? ⟨M, y, none⟩ = w.cell? ⟨M, y, none⟩ := by
  simp only [World.cell?, set4_same h, h]
  simp
  rw [Array.getElem?_setIfInBounds_ne (by omega), Array.getElem?_setIfInBounds_ne (by omega), Array.getElem?_setIfInBounds_ne (by omega), Array.getElem?_setIfInBounds_ne (by omega)]
theorem set4_new {w : World} {M : Nat} {arr : Array Value} {ty : TypeId} (h : w.heap[M]? = some (.cells arr ty)) (o : Nat) (a b c d : Value) (ho : o + 3 < arr.size) :
    (set4 w M o a b c d).cell? ⟨M, o, none⟩ = some a ∧ (set4 w M o a b c d).cell? ⟨M, o + 1, none⟩ = some b ∧ (set4 w M o a b c d).cell? ⟨M, o + 2, none⟩ = some c ∧ (set4 w M o a b c d).cell? ⟨M, o + 3, none⟩ = some d := by
  simp only [World.cell?, set4_same h]
  simp [Array.getElem?_setIfInBounds, ho]
  omega

theorem CloneInv.step {w wr wd w1 : World} {t : Ex} {d' k : Nat} (hk : k < t.args.length) (h : CloneInv w t (d' + 1) k wr) (hd : wd = wr.drew) (hb : Below wd.heap.size wd w1) {c : Value} (hf : Flds .u8 t.args[k])
    (ho : OwnS w1 d' wd.heap.size w1.heap.size t.args[k].args c) :
    CloneInv w t (d' + 1) (k + 1) (set4 w1 (w.heap.size + 1 + 1) (k * 4) (.int .u8 t.args[k].op) (.string t.args[k].name) (.int .i64 t.args[k].n) c) := by
  have hds : wd.heap.size = wr.heap.size := by rw [hd]; rfl
  have hdb : Below wr.heap.size wr w1 := by
    rw [hds] at hb; rw [hd] at hb
    exact (Below.drew (Below.refl _ wr)).trans hb
  obtain ⟨arr, harr, hsz⟩ := h.arr
  have hs := h.size
  have hs1 := hdb.size
  have harr1 : w1.heap[w.heap.size + 1 + 1]? = some (.cells arr 41) := by rw [hdb.block _ (by omega)]; exact harr
  obtain ⟨m, m0, mk, mm, mo⟩ := h.own
  obtain ⟨n0, n1, n2, n3⟩ := set4_new harr1 (k * 4) (.int .u8 t.args[k].op) (.string t.args[k].name) (.int .i64 t.args[k].n) c (by omega)
  refine ⟨set4_below (h.below.trans (hdb.mono (by omega))) (by omega) _ _ _ _ _, by rw [set4_size]; omega, ?_, ?_, ⟨_, set4_same harr1 _ _ _ _ _, by simpa using hsz⟩, ?_⟩
  · rw [set4_heap _ _ _ _ _ _ _ _ (by omega), hdb.block _ (by omega)]; exact h.r2
  · rw [set4_heap _ _ _ _ _ _ _ _ (by omega), hdb.block _ (by omega)]; exact h.r3
  · refine ⟨fun i => if i ≤ k then m i else w1.heap.size, by simp [m0], by show (if k + 1 ≤ k then m (k + 1) else w1.heap.size) = _; rw [if_neg (by omega), set4_size], ?_, ?_⟩
    · intro i hi
      by_cases hik : i + 1 ≤ k
      · simp only [if_pos hik, if_pos (show i ≤ k by omega)]; exact mm i (by omega)
      · have : i = k := by omega
        subst this
        show (if i ≤ i then m i else w1.heap.size) ≤ (if i + 1 ≤ i then m (i + 1) else w1.heap.size)
        rw [if_pos (Nat.le_refl _), if_neg (by omega), mk]; omega
    · intro i hi hil
      by_cases hik : i + 1 ≤ k
      · simp only [if_pos hik, if_pos (show i ≤ k by omega)]
        have hmi : m 0 ≤ m i := mono_le mm (Nat.zero_le _) (by omega)
        have hmi1 : m (i + 1) ≤ m k := mono_le mm (by omega) (Nat.le_refl _)
        refine (mo i (by omega) hil).mono (Nat.le_refl _) (Nat.le_refl _) (Nat.le_refl _) (fun j v hj hv => ?_) (fun x hx hx' => ?_)
        · rw [set4_old harr1 _ _ _ _ _ _ (by omega)]
          exact below_cell hdb hv
        · rw [set4_heap _ _ _ _ _ _ _ _ (by omega)]
          exact hdb.block _ (by omega)
      · have : i = k := by omega
        subst this
        simp only [if_neg (show ¬ i + 1 ≤ i by omega), if_pos (Nat.le_refl i), mk]
        refine ⟨n0, n1, n2, hf, c, n3, ho.mono (Nat.le_refl _) (by omega) (Nat.le_refl _) (fun x hx hx' => ?_)⟩
        rw [set4_heap _ _ _ _ _ _ _ _ (by omega)]
theorem CloneInv.done {w wr : World} {t : Ex} {d : Nat} (h : CloneInv w t d t.args.length wr) (hd : t.args ≠ [] → d - 1 + 1 = d) : OwnS wr d (w.heap.size + 1 + 1) wr.heap.size t.args (.slice (some ⟨w.heap.size + 1 + 1, 0, none⟩) t.args.length t.args.length) := by
  obtain ⟨arr, harr, hsz⟩ := h.arr
  obtain ⟨m, m0, mk, mm, mo⟩ := h.own
  by_cases he : t.args = []
  · rw [he]; exact OwnS.nil _ _ _ _ _
  · rw [← hd he]
    refine OwnS.mk m rfl (Nat.le_refl _) (by omega) (by omega) mm (thaw harr) (fun i hi => ?_)
    have := mo i hi hi
    rwa [Nat.zero_add]
theorem CloneInv.start {w : World} {t : Ex} (d : Nat) (_hn : t.args.length < 4294967296) :
    CloneInv w t d 0 (((w.alloc (.cells #[.int .u8 0, .string ⟨#[]⟩, .int .i64 0, .slice none 0 0] 41)).alloc (.cells #[.int .u8 t.op, .string t.name, .int .i64 t.n, .slice (some ⟨w.heap.size + 1 + 1, 0, none⟩) t.args.length t.args.length] 41)).alloc
      (.cells (madeCells #[.int .u8 0, .string ByteArray.empty, .int .i64 0, .slice none 0 0] (t.args.length * 4)) 41)) := by
  refine ⟨(((Below.refl _ _).alloc (Nat.le_refl _) _).alloc (by simp) _).alloc (by simp; omega) _, by simp, ?_, ?_, ⟨madeCells #[.int .u8 0, .string ByteArray.empty, .int .i64 0, .slice none 0 0] (t.args.length * 4), ?_, size_madeCells _ _⟩, ⟨fun _ => w.heap.size + 1 + 1 + 1, rfl, by simp, fun _ h => absurd h (Nat.not_lt_zero _), fun _ h => absurd h (Nat.not_lt_zero _)⟩⟩
  · rw [Below.heap_alloc _ _ _ (by simp; omega), Below.heap_alloc _ _ _ (by simp)]; exact alloc_last _ _
  · rw [Below.heap_alloc _ _ _ (by simp)]; have := alloc_last (w.alloc (.cells #[.int .u8 0, .string ⟨#[]⟩, .int .i64 0, .slice none 0 0] 41)) (.cells #[.int .u8 t.op, .string t.name, .int .i64 t.n, .slice (some ⟨w.heap.size + 1 + 1, 0, none⟩) t.args.length t.args.length] 41); rwa [World.size_alloc] at this
  · have := alloc_last ((w.alloc (.cells #[.int .u8 0, .string ⟨#[]⟩, .int .i64 0, .slice none 0 0] 41)).alloc (.cells #[.int .u8 t.op, .string t.name, .int .i64 t.n, .slice (some ⟨w.heap.size + 1 + 1, 0, none⟩) t.args.length t.args.length] 41)) (.cells (madeCells #[.int .u8 0, .string ByteArray.empty, .int .i64 0, .slice none 0 0] (t.args.length * 4)) 41); rwa [World.size_alloc, World.size_alloc] at this

theorem clone_any (d : Nat) : ∀ (S : Nat → Prop) (t : Ex) (b off : Nat) (w : World), RepAt .u8 S w d t b off →
    Calls Try.prog 69 #[.pointer (some ⟨b, off, none⟩)] w fun e w' => Below w.heap.size w w' ∧ ∃ c, e = .returned (.agg #[.int .u8 t.op, .string t.name, .int .i64 t.n, c]) ∧ OwnS w' d w.heap.size w'.heap.size t.args c := by
  induction d using Nat.strongRecOn with
  | _ d ih =>
    intro S t b off w h
    have IH := Lib.hid ih; clear ih
    obtain ⟨h0, h1, h2, hf, c, h3, hc⟩ := h
    obtain ⟨a, cap, rfl⟩ := hc.shape
    have HC := Lib.hid hc; clear hc
    have hlen := hf.len
    have hb := cell_lt h0
    have hb1 : b < w.heap.size + 1 := by omega
    have hb2 : b < w.heap.size + 1 + 1 := by omega
    have hmk := run_make41 t.args.length hlen
    go_enter Try.func69, Try.ntmps69
    go_wp2_with fail
    go_loopw [20] (fun i wr => ∃ k : Nat, k ≤ t.args.length ∧ i = .int .i64 k ∧ CloneInv w t d k wr) (fun i _ => t.args.length - (intOf i).toNat)
    case atStart => exact ⟨0, Nat.zero_le _, rfl, CloneInv.start d hlen⟩
    case round =>
      obtain ⟨k, hk, rfl, hinv⟩ := hrel
      clear hmk
      have HI := Lib.hid hinv; clear hinv
      have hr3 : wr.cell? ⟨w.heap.size + 1, 3, none⟩ = some (.slice (some ⟨w.heap.size + 1 + 1, 0, none⟩) t.args.length t.args.length) := by
        simp [World.cell?, HI.out.r3]
      have he3 : wr.cell? ⟨b, off + 3, none⟩ = some (.slice a t.args.length cap) := below_cell HI.out.below h3
      by_cases hlt : k < t.args.length
      · have hne : t.args ≠ [] := by intro e; rw [e] at hlt; simp at hlt
        obtain ⟨d', b', off', rfl, rfl, _, _, hat⟩ := HC.out.at hne
        have hk' := hat k hlt
        clear hat hne
        have HK := Lib.hid (hk'.below HI.out.below); clear hk'
        clear h0 h1 h2 h3
        obtain ⟨arr, harr, hsz⟩ := HI.out.arr
        obtain ⟨⟨v0, p0⟩, ⟨v1, p1⟩, ⟨v2, p2⟩, ⟨v3, p3⟩⟩ := cells4 (k := k) harr (by omega)
        have f0 := thaw harr (k * 4)
        have f1 := thaw harr (k * 4 + 1)
        have f2 := thaw harr (k * 4 + 2)
        have f3 := thaw harr (k * 4 + 3)
        have HARR := Lib.hid harr; clear harr
        have HSZ := Lib.hid hsz; clear hsz
        go_wp2_with fail
        obtain ⟨wd, hwd⟩ : ∃ wd, wd = wr.drew := ⟨_, rfl⟩
        have HP := Lib.hid (And.intro (And.intro (show wd.cell? ⟨w.heap.size + 1 + 1, k * 4, none⟩ = some v0 by rw [hwd]; exact p0) (show wd.cell? ⟨w.heap.size + 1 + 1, k * 4 + 1, none⟩ = some v1 by rw [hwd]; exact p1)) (And.intro (show wd.cell? ⟨w.heap.size + 1 + 1, k * 4 + 2, none⟩ = some v2 by rw [hwd]; exact p2) (show wd.cell? ⟨w.heap.size + 1 + 1, k * 4 + 3, none⟩ = some v3 by rw [hwd]; exact p3)))
        have HFr := Lib.hid (show ∀ o, wd.frozen? ⟨w.heap.size + 1 + 1, o, none⟩ = false by rw [hwd]; exact thaw HARR.out)
        have hr3d : wd.cell? ⟨w.heap.size + 1, 3, none⟩ = some (.slice (some ⟨w.heap.size + 1 + 1, 0, none⟩) t.args.length t.args.length) := by rw [hwd]; exact hr3
        have he3d : wd.cell? ⟨b, off + 3, none⟩ = some (.slice (some ⟨b', off', none⟩) t.args.length cap) := by rw [hwd]; exact he3
        have HKd := Lib.hid (show RepAt .u8 S wd d' t.args[k] b' (off' + k * 4) by rw [hwd]; exact HK.out.below (below_drewN wr 1 _))
        have HWD := Lib.hid hwd
        clear p0 p1 p2 p3 f0 f1 f2 f3 hr3 he3
        go_region_held3 (fun wx => wx.cell? ⟨w.heap.size + 1, 3, none⟩ = some (.slice (some ⟨w.heap.size + 1 + 1, 0, none⟩) t.args.length t.args.length) ∧ wx.cell? ⟨b, off + 3, none⟩ = some (.slice (some ⟨b', off', none⟩) t.args.length cap)) (first | with_reducible exact ⟨hr3d, he3d⟩ | (rw [← hwd]; with_reducible exact ⟨hr3d, he3d⟩) | with_reducible exact ⟨hr4, he4⟩ | exact ⟨(set4_far _ _ _ _ _ _ _ _ _ (by omega)).trans hr4, (set4_far _ _ _ _ _ _ _ _ _ (by omega)).trans he4⟩) (first | (go_at_call 69; rw [← HWD.out]; refine (IH.out d' (by omega) S t.args[k] b' (off' + k * 4) wd HKd.out).mono ?_; rintro e w1 ⟨hb1, c1, rfl, hown⟩; obtain ⟨a1, cap1, rfl⟩ := hown.shape; have hr4 := below_cell hb1 hr3d; have he4 := below_cell hb1 he3d; have q0 := below_cell hb1 HP.out.1.1; have q1 := below_cell hb1 HP.out.1.2; have q2 := below_cell hb1 HP.out.2.1; have q3 := below_cell hb1 HP.out.2.2; have g0 := below_thaw hb1 HP.out.1.1 (HFr.out _); have g1 := below_thaw hb1 HP.out.1.2 (HFr.out _); have g2 := below_thaw hb1 HP.out.2.1 (HFr.out _); have g3 := below_thaw hb1 HP.out.2.2 (HFr.out _)))
        have HN := Lib.hid (HI.out.step hlt HWD.out hb1 HK.out.2.2.2.1 hown)
        clear q0 q1 q2 q3 g0 g1 g2 g3 hr4 he4 hr3d he3d hb1 hown
        go_wp2_with fail
        go_roundw
        case rel => exact ⟨k + 1, by omega, by go_num, HN.out⟩
        case measure => simp [intOf]; omega
      · have hkk : k = t.args.length := by omega
        have HI' := Lib.hid (show CloneInv w t d t.args.length wr by rw [← hkk]; exact HI.out)
        clear hkk
        have hd : t.args ≠ [] → d - 1 + 1 = d := fun hne => by
          obtain ⟨d', b', off', rfl, _⟩ := HC.out.at hne
          omega
        have HD := Lib.hid (HI'.out.done hd)
        clear hd
        have a0 : wr.cell? ⟨w.heap.size + 1, 0, none⟩ = some (.int .u8 t.op) := by simp [World.cell?, HI.out.r3]
        have a1 : wr.cell? ⟨w.heap.size + 1, 1, none⟩ = some (.string t.name) := by simp [World.cell?, HI.out.r3]
        have a2 : wr.cell? ⟨w.heap.size + 1, 2, none⟩ = some (.int .i64 t.n) := by simp [World.cell?, HI.out.r3]
        have z0 : wr.cell? ⟨w.heap.size, 0, none⟩ = some (.int .u8 0) := by simp [World.cell?, HI.out.r2]
        have z1 : wr.cell? ⟨w.heap.size, 1, none⟩ = some (.string ByteArray.empty) := by simp [World.cell?, HI.out.r2]
        have z2 : wr.cell? ⟨w.heap.size, 2, none⟩ = some (.int .i64 0) := by simp [World.cell?, HI.out.r2]
        have z3 : wr.cell? ⟨w.heap.size, 3, none⟩ = some (.slice none 0 0) := by simp [World.cell?, HI.out.r2]
        have f0 := thaw HI.out.r2 0
        have f1 := thaw HI.out.r2 1
        have f2 := thaw HI.out.r2 2
        have f3 := thaw HI.out.r2 3
        go_wp2_with fail
        refine bodyPost_ret (v := .agg #[.int .u8 t.op, .string t.name, .int .i64 t.n, .slice (some ⟨w.heap.size + 1 + 1, 0, none⟩) t.args.length t.args.length]) (by simp [results, Try.results69, go_sem, z0, z1, z2, z3]) rfl ⟨set4_below (M := w.heap.size) HI.out.below (Nat.le_refl _) 0 _ _ _ _, _, rfl, ?_⟩
        exact HD.out.mono (Nat.le_refl _) (by omega) (Nat.le_of_eq (set4_size wr w.heap.size 0 _ _ _ _).symm) (fun x hx hx' => set4_heap wr w.heap.size 0 _ _ _ _ x (by omega))
end Go.Proofs.Ytekhoanjpnjaeaa

/- The contracts of expr.constant and expr.literal. -/
namespace Go.Proofs.Ytekhoanjpnjaeaa
open Go.RowKit
def constV (t : Ex) : Int × Bool :=
  if t.op = 1 then (t.n, true) else if t.op = 2 then (1, true) else if t.op = 3 then (0, true) else if t.op = 9 then (match t.args with | a :: _ => (wrap64 (-a.n), a.op == 1) | [] => (0, false)) else (0, false)
def litT (op v : Int) : Ex :=
  if op ≠ 10 ∧ op < 16 then (if v < 0 then .node 9 ByteArray.empty 0 [.node 1 ByteArray.empty (wrap64 (-v)) []] else .node 1 ByteArray.empty v [])
  else if v ≠ 0 then .node 2 ByteArray.empty 0 [] else .node 3 ByteArray.empty 0 []

theorem constant_any (d : Nat) (S : Nat → Prop) (t : Ex) (b off : Nat) (w : World) (h : RepAt .u8 S w d t b off) (h9 : t.op = 9 → t.args ≠ []) :
    Calls Try.prog 112 #[.pointer (some ⟨b, off, none⟩)] w fun e w' => e = .returned (.tuple #[.int .i64 (constV t).1, .bool (constV t).2]) ∧ ∃ n, w' = w.drewN n := by
  obtain ⟨h0, h1, h2, hf, c, h3, hc⟩ := h
  obtain ⟨a, cap, rfl⟩ := hc.shape
  have HC := Lib.hid hc; clear hc
  have hlen := hf.len
  obtain ⟨op, name, n, args⟩ := t
  simp only [Ex.op, Ex.name, Ex.n, Ex.args] at *
  by_cases e1 : op = 1
  · subst e1
    go_enter Try.func112, Try.ntmps112
    go_wp2
    go_ret2
    exact ⟨rfl, 0, rfl⟩
  by_cases e2 : op = 2
  · subst e2
    go_enter Try.func112, Try.ntmps112
    go_wp2
    go_ret2
    exact ⟨rfl, 0, rfl⟩
  by_cases e3 : op = 3
  · subst e3
    go_enter Try.func112, Try.ntmps112
    go_wp2
    go_ret2
    exact ⟨rfl, 0, rfl⟩
  by_cases e9 : op = 9
  · subst e9
    obtain ⟨d', b', off', rfl, rfl, _, _, hat⟩ := HC.out.at (h9 rfl)
    clear e1 e2 e3
    cases args with
    | nil => exact absurd rfl (h9 rfl)
    | cons x xs =>
      clear h9
      obtain ⟨g0, g1, g2, gf, c, g3, gc⟩ := hat 0 (by simp)
      simp only [List.getElem_cons_zero, Nat.zero_mul, Nat.add_zero] at *
      have hl : (0 : Int) < ((x :: xs).length : Int) := by simp only [List.length_cons]; omega
      have hl' : 0 < (x :: xs).length := by simp
      clear gf gc hat HC
      generalize (x :: xs).length = L at *
      go_enter Try.func112, Try.ntmps112
      go_wp2_with fail
      go_quiet (fail)
      go_wp2_with fail
      go_ret2
      exact ⟨rfl, _, rfl⟩
  · have HV := Lib.hid (show constV (.node op name n args) = (0, false) by simp [constV, Ex.op, e1, e2, e3, e9])
    rw [HV.out]
    have e1' : (op == 1) = false := by simpa using e1
    have e2' : (op == 2) = false := by simpa using e2
    have e3' : (op == 3) = false := by simpa using e3
    have e9' : (op == 9) = false := by simpa using e9
    clear e1 e2 e3 e9 h9
    go_enter Try.func112, Try.ntmps112
    go_wp2
    go_ret2
    exact ⟨rfl, 0, rfl⟩

theorem rep_one (k : IntKind) (S : Nat → Prop) (w : World) (o : Int) (n : Int) (b : Nat) (hb : b = w.heap.size) (hS : S b) (h1 : (Lit.int .u8 o).wf = true) (h2 : (Lit.int .i64 n).wf = true) (T : TypeId) (cap : Nat) :
    RepS k S (w.alloc (.cells #[.int k o, .string ByteArray.empty, .int .i64 n, .slice none 0 0] T)) 1 [.node o ByteArray.empty n []] (.slice (some ⟨b, 0, none⟩) 1 cap) := by
  subst hb
  refine RepS.mk rfl hS (fun i hi => ?_)
  have : i = 0 := by simp at hi; exact hi
  subst this
  have hc : ∀ j (v : Value), #[Value.int k o, .string ByteArray.empty, .int .i64 n, .slice none 0 0][j]? = some v → (w.alloc (.cells #[.int k o, .string ByteArray.empty, .int .i64 n, .slice none 0 0] T)).cell? ⟨w.heap.size, j, none⟩ = some v := by
    intro j v h
    simp only [World.cell?, alloc_last]
    exact h
  exact ⟨hc 0 _ rfl, hc 1 _ rfl, hc 2 _ rfl, ⟨h1, h2, Nat.zero_le _, Nat.zero_lt_succ _⟩, _, hc 3 _ rfl, RepS.nil _ _ _⟩
theorem literal_any (op v : Int) (w : World) (hv0 : -9223372036854775808 < v) (hv1 : v ≤ 9223372036854775807) :
    Calls Try.prog 113 #[.int .u8 op, .int .i64 v] w fun e w' => Below w.heap.size w w' ∧ ∃ c, e = .returned (.agg #[.int .u8 (litT op v).op, .string (litT op v).name, .int .i64 (litT op v).n, c]) ∧ RepS .u8 (fun b => w.heap.size ≤ b) w' 1 (litT op v).args c := by
  have HV := Lib.hid (And.intro hv0 hv1); clear hv0 hv1
  by_cases hn : op ≠ 10 ∧ op < 16
  · have hn1 : (op != 10) = true := by simpa using hn.1
    have hn2 : op < 16 := hn.2
    by_cases hv : v < 0
    · rw [show litT op v = .node 9 ByteArray.empty 0 [.node 1 ByteArray.empty (wrap64 (-v)) []] by unfold litT; rw [if_pos hn, if_pos hv]]
      clear hn
      simp only [Ex.op, Ex.name, Ex.n, Ex.args]
      go_enter Try.func113, Try.ntmps113
      go_wp2
      exact bodyPost_ret (v := .agg #[.int .u8 9, .string ByteArray.empty, .int .i64 0, .slice (some ⟨w.heap.size + 1, 0, none⟩) 1 1]) (by simp [results, Try.results113, go_sem]; rfl) rfl
        ⟨((Below.refl _ _).alloc (Nat.le_refl _) _).alloc (by simp) _, _, rfl, rep_one _ _ _ _ _ _ (by simp) (Nat.le_succ _) (by decide) (wrap64_wf _) _ _⟩
    · have hv' : 0 ≤ v := by omega
      rw [show litT op v = .node 1 ByteArray.empty v [] by unfold litT; rw [if_pos hn, if_neg hv]]
      clear hn hv
      simp only [Ex.op, Ex.name, Ex.n, Ex.args]
      go_enter Try.func113, Try.ntmps113
      go_wp2
      exact bodyPost_ret (v := .agg #[.int .u8 1, .string ByteArray.empty, .int .i64 v, .slice none 0 0]) (by simp [results, Try.results113, go_sem]; rfl) rfl ⟨(Below.refl _ _).alloc (Nat.le_refl _) _, _, rfl, RepS.nil _ _ _⟩
  · by_cases hv : v = 0
    · subst hv
      rw [show litT op 0 = .node 3 ByteArray.empty 0 [] by unfold litT; rw [if_neg hn]; rfl]
      simp only [Ex.op, Ex.name, Ex.n, Ex.args]
      by_cases h10 : op = 10
      · subst h10
        clear hn
        go_enter Try.func113, Try.ntmps113
        go_wp2
        exact bodyPost_ret (v := .agg #[.int .u8 3, .string ByteArray.empty, .int .i64 0, .slice none 0 0]) (by simp [results, Try.results113, go_sem]; rfl) rfl ⟨(Below.refl _ _).alloc (Nat.le_refl _) _, _, rfl, RepS.nil _ _ _⟩
      · have hn1 : (op != 10) = true := by simpa using h10
        have hn2 : ¬ op < 16 := fun h => hn ⟨h10, h⟩
        clear hn h10
        go_enter Try.func113, Try.ntmps113
        go_wp2
        exact bodyPost_ret (v := .agg #[.int .u8 3, .string ByteArray.empty, .int .i64 0, .slice none 0 0]) (by simp [results, Try.results113, go_sem]; rfl) rfl ⟨(Below.refl _ _).alloc (Nat.le_refl _) _, _, rfl, RepS.nil _ _ _⟩
    · have hv0 : (v != 0) = true := by simpa using hv
      rw [show litT op v = .node 2 ByteArray.empty 0 [] by unfold litT; rw [if_neg hn, if_pos hv]]
      clear hv
      simp only [Ex.op, Ex.name, Ex.n, Ex.args]
      by_cases h10 : op = 10
      · subst h10
        clear hn
        go_enter Try.func113, Try.ntmps113
        go_wp2
        exact bodyPost_ret (v := .agg #[.int .u8 2, .string ByteArray.empty, .int .i64 0, .slice none 0 0]) (by simp [results, Try.results113, go_sem]; rfl) rfl ⟨(Below.refl _ _).alloc (Nat.le_refl _) _, _, rfl, RepS.nil _ _ _⟩
      · have hn1 : (op != 10) = true := by simpa using h10
        have hn2 : ¬ op < 16 := fun h => hn ⟨h10, h⟩
        clear hn h10
        go_enter Try.func113, Try.ntmps113
        go_wp2
        exact bodyPost_ret (v := .agg #[.int .u8 2, .string ByteArray.empty, .int .i64 0, .slice none 0 0]) (by simp [results, Try.results113, go_sem]; rfl) rfl ⟨(Below.refl _ _).alloc (Nat.le_refl _) _, _, rfl, RepS.nil _ _ _⟩
end Go.Proofs.Ytekhoanjpnjaeaa

/- The reference's operators: the contracts of ref10.one, magnitude, quotient, Unary and Binary, in the terms of the program's own (unV, binV). -/
namespace Go.Proofs.Ytekhoanjpnjaeaa
open Go.RowKit
theorem ret_int {k : IntKind} {a b : Int} (h : a = b) : Ending.returned (.int k a) = .returned (.int k b) := by rw [h]
end Go.Proofs.Ytekhoanjpnjaeaa

/- The contracts of expr.operands and expr.formed. -/
namespace Go.Proofs.Ytekhoanjpnjaeaa
open Go.RowKit
def opnd (op : Int) : Int := if 11 ≤ op ∧ op ≤ 23 then 2 else if op = 6 ∨ op = 7 ∨ op = 9 ∨ op = 10 then 1 else if 1 ≤ op ∧ op ≤ 8 then 0 else -1
mutual
def Ex.formed : Ex → Bool | .node op _ _ args => decide ((args.length : Int) = opnd op) && Ex.formedL args
def Ex.formedL : List Ex → Bool | [] => true | t :: ts => t.formed && Ex.formedL ts
end
theorem Ex.formed_eq (t : Ex) : t.formed = (decide ((t.args.length : Int) = opnd t.op) && Ex.formedL t.args) := by
  cases t; rw [Ex.formed]; rfl
theorem formedL_take (l : List Ex) (k : Nat) (h : k < l.length) : Ex.formedL (l.take (k + 1)) = (Ex.formedL (l.take k) && l[k].formed) := by
  induction l generalizing k with
  | nil => simp at h
  | cons t ts ih =>
    cases k with
    | zero => simp [Ex.formedL]
    | succ k => simp [Ex.formedL, ih k (by simpa using h), Bool.and_assoc]
theorem formedL_false (l : List Ex) (k : Nat) (h : k < l.length) (hf : l[k].formed = false) : Ex.formedL l = false := by
  induction l generalizing k with
  | nil => simp at h
  | cons t ts ih =>
    cases k with
    | zero => simp at hf; simp [Ex.formedL, hf]
    | succ k => simp at hf; simp [Ex.formedL, ih k (by simpa using h) hf]

theorem operands_any (op : Int) (w : World) : Calls Try.prog 111 #[.int .u8 op] w fun e w' => e = .returned (.int .i64 (opnd op)) ∧ w' = w := by
  generalize hV : opnd op = V
  have HV := Lib.hid hV; clear hV
  go_enter Try.func111, Try.ntmps111
  go_wp2
  all_goals go_ret
  all_goals refine ⟨ret_int ?_, rfl⟩
  all_goals rw [← HV.out]
  all_goals (try simp only [beq_iff_eq, beq_eq_false_iff_ne, ne_eq] at *)
  all_goals (unfold opnd; (repeat' split) <;> omega)

theorem formed_any (d : Nat) : ∀ (S : Nat → Prop) (t : Ex) (b off : Nat) (w : World), RepAt .u8 S w d t b off →
    Calls Try.prog 70 #[.pointer (some ⟨b, off, none⟩)] w fun e w' => e = .returned (.bool t.formed) ∧ ∃ n, w' = w.drewN n := by
  induction d using Nat.strongRecOn with
  | _ d ih =>
    intro S t b off w h
    have IH := Lib.hid ih; clear ih
    obtain ⟨h0, h1, h2, hf, c, h3, hc⟩ := h
    obtain ⟨a, cap, rfl⟩ := hc.shape
    have HC := Lib.hid hc; clear hc
    have hlen := hf.len
    by_cases he : (t.args.length : Int) = opnd t.op
    · have he' : ((t.args.length : Int) != opnd t.op) = false := by simp [he]
      have HE := Lib.hid he; clear he
      have HT := Lib.hid (t.formed_eq)
      rw [HT.out]
      have HD := Lib.hid (show decide ((t.args.length : Int) = opnd t.op) = true by simp [HE.out])
      rw [HD.out, Bool.true_and]
      go_enter Try.func70, Try.ntmps70
      go_wp2_with fail
      go_quiet ((go_at_call 111; exact Calls.quiet_of_same (operands_any _ _)))
      go_wp2_with fail
      go_loopw [20] (fun i wr => ∃ k n : Nat, k ≤ t.args.length ∧ i = .int .i64 k ∧ wr = w.drewN n ∧ Hid (Ex.formedL (t.args.take k) = true)) (fun i _ => t.args.length - (intOf i).toNat)
      case atStart => exact ⟨0, _, Nat.zero_le _, rfl, rfl, Lib.hid (by simp [Ex.formedL])⟩
      case round =>
        obtain ⟨k, n, hk, rfl, rfl, HF⟩ := hrel
        by_cases hlt : k < t.args.length
        · have hne : t.args ≠ [] := by intro e; rw [e] at hlt; simp at hlt
          obtain ⟨d', b', off', rfl, rfl, _, _, hat⟩ := HC.out.at hne
          have hk' := hat k hlt
          clear hat
          have HK := Lib.hid hk'; clear hk'
          have hth := formedL_take t.args k hlt
          have HTH := Lib.hid hth; clear hth
          have HFF := Lib.hid (formedL_false t.args k hlt)
          clear hne
          cases hfk : t.args[k].formed with
          | true =>
            have HFK := Lib.hid hfk; clear hfk
            go_wp2_with fail
            refine (IH.out d' (by omega) S t.args[k] b' (off' + k * 4) (w.drewN n) (HK.out.drewN n)).mono ?_
            rw [HFK.out]
            rintro e w' ⟨rfl, m, rfl⟩
            rw [World.drewN_drewN]
            go_wp2_with fail
            go_roundw
            case rel => exact ⟨k + 1, n + m, by omega, by go_num, rfl, Lib.hid (by rw [HTH.out, HF.out, HFK.out]; rfl)⟩
            case measure => simp [intOf]; omega
          | false =>
            have HFK := Lib.hid hfk; clear hfk
            go_wp2_with fail
            refine (IH.out d' (by omega) S t.args[k] b' (off' + k * 4) (w.drewN n) (HK.out.drewN n)).mono ?_
            rw [HFK.out]
            rintro e w' ⟨rfl, m, rfl⟩
            rw [World.drewN_drewN]
            go_wp2_with fail
            go_ret
            exact ⟨by rw [HFF.out HFK.out]; rfl, _, rfl⟩
        · have hkk : k = t.args.length := by omega
          have HF' : Hid (Ex.formedL t.args = true) := Lib.hid (by have := HF.out; rwa [hkk, List.take_length] at this)
          clear hkk
          go_wp2_with fail
          go_ret
          exact ⟨by rw [HF'.out]; rfl, _, rfl⟩
    · have he' : ((t.args.length : Int) != opnd t.op) = true := by simp [he]
      have HT := Lib.hid (show t.formed = false by rw [t.formed_eq]; simp [he])
      clear he
      rw [HT.out]
      go_enter Try.func70, Try.ntmps70
      go_wp2_with fail
      go_quiet ((go_at_call 111; exact Calls.quiet_of_same (operands_any _ _)))
      go_wp2_with fail
      go_ret
      exact ⟨rfl, _, rfl⟩
end Go.Proofs.Ytekhoanjpnjaeaa

/- Folding, as a function on trees; and the memory of expr.fold's loop. -/
namespace Go.Proofs.Ytekhoanjpnjaeaa
open Go.RowKit

def foldV (op : Int) (vs : List Int) : Int := if vs.length = 1 then (unV op (vs[0]?.getD 0)).1 else (binV op (vs[0]?.getD 0) (vs[1]?.getD 0)).1
def allC (l : List Ex) : Bool := l.all fun a => (constV a).2
def valsC (l : List Ex) : List Int := l.map fun a => (constV a).1
def foldN (op : Int) (name : ByteArray) (n : Int) (l : List Ex) : Ex :=
  if (decide (9 ≤ op) && allC l) = true then (if foldV op (valsC l) = -9223372036854775808 then .node op name n l else litT op (foldV op (valsC l))) else .node op name n l
mutual
def foldT : Ex → Ex | .node op name n args => foldN op name n (foldL args)
def foldL : List Ex → List Ex | [] => [] | t :: ts => foldT t :: foldL ts
end
theorem foldL_map (l : List Ex) : foldL l = l.map foldT := by
  induction l with
  | nil => rfl
  | cons t ts ih => simp [foldL, ih]
theorem foldT_eq (t : Ex) : foldT t = foldN t.op t.name t.n (t.args.map foldT) := by
  obtain ⟨op, name, n, args⟩ := t
  rw [foldT, foldL_map]; rfl
theorem formedL_iff (l : List Ex) : Ex.formedL l = true ↔ ∀ t ∈ l, t.formed = true := by
  induction l with
  | nil => simp [Ex.formedL]
  | cons t ts ih => simp [Ex.formedL, ih]
theorem formed_args {t : Ex} (h : t.formed = true) : (t.args.length : Int) = opnd t.op ∧ ∀ a ∈ t.args, a.formed = true := by
  rw [t.formed_eq] at h
  simp only [Bool.and_eq_true, decide_eq_true_eq] at h
  exact ⟨h.1, (formedL_iff _).1 h.2⟩
theorem litT_nine (op v : Int) : (litT op v).op = 9 → (litT op v).args ≠ [] := by
  unfold litT
  repeat' split
  all_goals simp [Ex.op, Ex.args]
theorem opnd_nine : opnd 9 = 1 := by decide
theorem foldT_nine {t : Ex} (h : t.formed = true) : (foldT t).op = 9 → (foldT t).args ≠ [] := by
  obtain ⟨hl, _⟩ := formed_args h
  have hn : (Ex.node t.op t.name t.n (t.args.map foldT)).op = 9 → (Ex.node t.op t.name t.n (t.args.map foldT)).args ≠ [] := by
    intro h9 he
    have h9' : t.op = 9 := h9
    rw [h9', opnd_nine] at hl
    have he' : t.args.map foldT = [] := he
    have := congrArg List.length he'
    simp at this
    rw [this] at hl
    simp at hl
  rw [foldT_eq]
  unfold foldN
  split
  · split
    · exact hn
    · exact litT_nine _ _
  · exact hn
theorem litT_flds (op v : Int) (h0 : -9223372036854775808 ≤ v) (h1 : v ≤ 9223372036854775807) : Flds .u8 (litT op v) := by
  have wfv : (Lit.int .i64 v).wf = true := by
    simp [Lit.wf, IntKind.min, IntKind.max, IntKind.signed, IntKind.bits]; omega
  have e : (ByteArray.empty).size ≤ maxLen := Nat.zero_le _
  unfold litT
  repeat' split
  · exact ⟨show (Lit.int .u8 9).wf = true by decide, show (Lit.int .i64 0).wf = true by decide, e, show 1 < 4294967296 by decide⟩
  · exact ⟨show (Lit.int .u8 1).wf = true by decide, wfv, e, show 0 < 4294967296 by decide⟩
  · exact ⟨show (Lit.int .u8 2).wf = true by decide, show (Lit.int .i64 0).wf = true by decide, e, show 0 < 4294967296 by decide⟩
  · exact ⟨show (Lit.int .u8 3).wf = true by decide, show (Lit.int .i64 0).wf = true by decide, e, show 0 < 4294967296 by decide⟩
theorem tr_range (b : Bool) : 0 ≤ tr b ∧ tr b ≤ 1 := by cases b <;> decide
theorem unV_range (op a : Int) : -9223372036854775808 ≤ (unV op a).1 ∧ (unV op a).1 ≤ 9223372036854775807 := by
  unfold unV; have := w64_range (-a); have := tr_range (a == 0)
  repeat' split
  all_goals (simp; try omega)
theorem tmod_range (a b : Int) (h0 : -9223372036854775808 ≤ a) (h1 : a ≤ 9223372036854775807) : -9223372036854775808 ≤ a.tmod b ∧ a.tmod b ≤ 9223372036854775807 := by
  have h : (a.tmod b).natAbs ≤ a.natAbs := by rw [Int.natAbs_tmod]; exact Nat.mod_le _ _
  by_cases hz : 0 ≤ a
  · have := Int.tmod_nonneg b hz; omega
  · have : a.tmod b ≤ 0 := by
      have := Int.tmod_nonneg (a := -a) b (by omega)
      rw [Int.neg_tmod] at this; omega
    omega
theorem binV_range (op a b : Int) (h0 : -9223372036854775808 ≤ a) (h1 : a ≤ 9223372036854775807) : -9223372036854775808 ≤ (binV op a b).1 ∧ (binV op a b).1 ≤ 9223372036854775807 := by
  have t1 := w64_range (a * b); have t2 := w64_range (a + b); have t3 := w64_range (a - b); have t4 := w64_range (-a); have t5 := w64_range (a.tdiv b); have t6 := tmod_range a b h0 h1
  have u : ∀ c, -9223372036854775808 ≤ tr c ∧ tr c ≤ 9223372036854775807 := fun c => by have := tr_range c; omega
  have d : ∀ o, -9223372036854775808 ≤ divV o a b ∧ divV o a b ≤ 9223372036854775807 := by
    intro o; unfold divV
    repeat' split
    all_goals (first | exact t4 | exact t5 | exact t6 | omega)
  rcases bin_cases op with rfl | rfl | rfl | rfl | rfl | rfl | rfl | rfl | rfl | rfl | rfl | rfl | rfl | h
  · exact t1
  · exact d 12
  · exact d 13
  · exact t2
  · exact t3
  iterate 8 exact u _
  · rw [binV_out h]; exact ⟨by decide, by decide⟩
theorem constV_range {t : Ex} (hf : (Lit.int .i64 t.n).wf = true) : -9223372036854775808 ≤ (constV t).1 ∧ (constV t).1 ≤ 9223372036854775807 := by
  have := wf64 hf
  unfold constV
  repeat' split
  all_goals (first | exact this | exact w64_range _ | exact ⟨by decide, by decide⟩)

/-- Blocks of X may have changed, and of block b the cells from lo on, below hi. -/
structure Chg (w w' : World) (X : Nat → Prop) (b lo hi : Nat) : Prop where
  os : w'.os = w.os
  tape : w'.tape = w.tape
  output : w'.output = w.output
  size : w.heap.size ≤ w'.heap.size
  block : ∀ x, x < w.heap.size → x ≠ b → ¬ X x → w'.heap[x]? = w.heap[x]?
  cell : ∀ o, (o < lo ∨ hi ≤ o) → w'.cell? ⟨b, o, none⟩ = w.cell? ⟨b, o, none⟩
  frozen : ∀ o, w'.frozen? ⟨b, o, none⟩ = w.frozen? ⟨b, o, none⟩

structure FoldInv (w : World) (t : Ex) (d b off : Nat) (m : Nat → Nat) (k : Nat) (wr : World) : Prop where
  chg : Chg w wr (fun x => m 0 ≤ x ∧ x < m k) b off (off + k * 4)
  size : w.heap.size + 1 ≤ wr.heap.size
  vals : wr.heap[w.heap.size]? = some (.cells #[.int .i64 ((valsC ((t.args.take k).map foldT))[0]?.getD 0), .int .i64 ((valsC ((t.args.take k).map foldT))[1]?.getD 0)] 66)
  done : ∀ i, i < k → ∀ (h : i < t.args.length), RepAt .u8 (fun x => (m i ≤ x ∧ x < m (i + 1)) ∨ w.heap.size + 1 ≤ x) wr (d + 1) (foldT t.args[i]) b (off + i * 4)

theorem Chg.cellOf {w w' : World} {X : Nat → Prop} {b lo hi : Nat} (h : Chg w w' X b lo hi) {x o : Nat} (hx : x < w.heap.size) (hb : x ≠ b) (hX : ¬ X x) : w'.cell? ⟨x, o, none⟩ = w.cell? ⟨x, o, none⟩ :=
  World.cell?_of_block (w := w) (h.block x hx hb hX)
theorem Chg.frozenOf {w w' : World} {X : Nat → Prop} {b lo hi : Nat} (h : Chg w w' X b lo hi) {x o : Nat} (hx : x < w.heap.size) (hb : x ≠ b) (hX : ¬ X x) : w'.frozen? ⟨x, o, none⟩ = w.frozen? ⟨x, o, none⟩ :=
  World.frozen?_of_block (w := w) (h.block x hx hb hX)
theorem Chg.trans {w w1 w2 : World} {X Y Z : Nat → Prop} {b lo mi hi : Nat} (h : Chg w w1 X b lo mi) (k : Chg w1 w2 Y b mi hi) (hX : ∀ x, X x → Z x) (hY : ∀ x, Y x → Z x) (h1 : lo ≤ mi) (h2 : mi ≤ hi) : Chg w w2 Z b lo hi :=
  ⟨k.os.trans h.os, k.tape.trans h.tape, k.output.trans h.output, Nat.le_trans h.size k.size,
   fun x hx hb hz => (k.block x (Nat.lt_of_lt_of_le hx h.size) hb (fun y => hz (hY x y))).trans (h.block x hx hb (fun y => hz (hX x y))),
   fun o ho => (k.cell o (by omega)).trans (h.cell o (by omega)), fun o => (k.frozen o).trans (h.frozen o)⟩
/-- A step that only makes blocks, or writes to blocks that are new. -/
theorem Chg.below {w w1 w2 : World} {X : Nat → Prop} {b lo hi : Nat} (h : Chg w w1 X b lo hi) (hb : b < w.heap.size) (k : Below w.heap.size w1 w2) : Chg w w2 X b lo hi :=
  ⟨k.os.trans h.os, k.tape.trans h.tape, k.output.trans h.output, Nat.le_trans h.size k.size,
   fun x hx hn hz => (k.block x hx).trans (h.block x hx hn hz), fun o ho => (k.cell (p := ⟨b, o, none⟩) hb).trans (h.cell o ho), fun o => (k.frozen (p := ⟨b, o, none⟩) hb).trans (h.frozen o)⟩
theorem Chg.of_below {w w2 : World} (X : Nat → Prop) {b lo hi : Nat} (hb : b < w.heap.size) (k : Below w.heap.size w w2) : Chg w w2 X b lo hi :=
  ⟨k.os, k.tape, k.output, k.size, fun x hx _ _ => k.block x hx, fun o _ => k.cell (p := ⟨b, o, none⟩) hb, fun o => k.frozen (p := ⟨b, o, none⟩) hb⟩

theorem getD_take_map (l : List Ex) (k i : Nat) : (valsC ((l.take k).map foldT))[i]?.getD 0 = if i < k then (valsC (l.map foldT))[i]?.getD 0 else 0 := by
  unfold valsC
  rw [List.map_map, List.map_map]
  by_cases h : i < k
  · simp [h]
  · simp [List.getElem?_take, h]

theorem cell_set_far {w : World} {x y b o : Nat} {v : Value} (h : x ≠ b) : (w.setCell ⟨b, o, none⟩ v).cell? ⟨x, y, none⟩ = w.cell? ⟨x, y, none⟩ :=
  World.cell?_of_block (w := w) (Below.heap_setCell _ _ _ _ h)

theorem FoldInv.step {w wr w1 : World} {t : Ex} {d b off lo hi : Nat} {m : Nat → Nat} {k n : Nat} (hk : k < t.args.length) (h2 : t.args.length ≤ 2) (h : FoldInv w t d b off m k wr)
    (hb : b < w.heap.size) (_hlo : lo ≤ b) (hbm : b < m 0) (hmm : ∀ i, i < t.args.length → m i ≤ m (i + 1)) (hmh : m t.args.length ≤ hi) (hhi : hi ≤ w.heap.size)
    (hc : Chg wr w1 (fun x => m k ≤ x ∧ x < m (k + 1)) b (off + k * 4) (off + k * 4 + 4))
    (hr : RepAt .u8 (fun x => (m k ≤ x ∧ x < m (k + 1)) ∨ wr.heap.size ≤ x) w1 (d + 1) (foldT t.args[k]) b (off + k * 4)) :
    FoldInv w t d b off m (k + 1) ((w1.drewN n).setCell ⟨w.heap.size, k, none⟩ (.int .i64 (constV (foldT t.args[k])).1)) := by
  have hmk1 : m (k + 1) ≤ m t.args.length := mono_le hmm (by omega) (Nat.le_refl _)
  have hm0k : m 0 ≤ m k := mono_le hmm (Nat.zero_le _) (by omega)
  have hmk := hmm k hk
  have hs := h.size
  have hv1 : (w1.drewN n).heap[w.heap.size]? = some (.cells #[.int .i64 ((valsC ((t.args.take k).map foldT))[0]?.getD 0), .int .i64 ((valsC ((t.args.take k).map foldT))[1]?.getD 0)] 66) := by
    show w1.heap[w.heap.size]? = _
    rw [hc.block _ (by omega) (by omega) (by show ¬ (m k ≤ w.heap.size ∧ w.heap.size < m (k + 1)); omega)]; exact h.vals
  have hBel : Below w.heap.size w1 ((w1.drewN n).setCell ⟨w.heap.size, k, none⟩ (.int .i64 (constV (foldT t.args[k])).1)) :=
    (below_drewN w1 n _).setCell (p := ⟨w.heap.size, k, none⟩) (Nat.le_refl _) _
  refine ⟨?_, ?_, ?_, ?_⟩
  · have q := (h.chg.trans hc (Z := fun x => m 0 ≤ x ∧ x < m (k + 1)) (fun x hx => ⟨hx.1, by have := hmm k hk; have := hx.2; omega⟩) (fun x hx => ⟨by have := hx.1; omega, hx.2⟩) (by omega) (by omega)).below hb hBel
    rw [show off + (k + 1) * 4 = off + k * 4 + 4 by omega]; exact q
  · have := hc.size
    have e : ((w1.drewN n).setCell ⟨w.heap.size, k, none⟩ (.int .i64 (constV (foldT t.args[k])).1)).heap.size = w1.heap.size := by simp [World.setCell]
    rw [e]; omega
  · rw [heap_setCell_same _ _ _ _ _ _ hv1]
    simp only [getD_take_map]
    have e0 : (valsC (t.args.map foldT))[k]?.getD 0 = (constV (foldT t.args[k])).1 := by
      unfold valsC; rw [List.map_map]; simp [hk]
    rcases (show k = 0 ∨ k = 1 by omega) with rfl | rfl
    · simp [e0]
    · simp [e0]
  · intro i hi hil
    by_cases hik : i < k
    · have hmi1 : m (i + 1) ≤ m k := mono_le hmm (by omega) (by omega)
      have hm0i : m 0 ≤ m i := mono_le hmm (Nat.zero_le _) (by omega)
      refine (h.done i hik hil).mono (fun _ hx => hx) (fun x o v hx hv => ?_) (fun j v hj hv => ?_) (Nat.le_refl _)
      · have hlt := cell_lt hv
        rw [cell_set_far (by omega)]
        show w1.cell? _ = _
        rw [hc.cellOf hlt (by omega) (by show ¬ (m k ≤ x ∧ x < m (k + 1)); omega)]; exact hv
      · rw [cell_set_far (by omega)]
        show w1.cell? _ = _
        rw [hc.cell _ (by omega)]; exact hv
    · have : i = k := by omega
      subst this
      refine hr.mono (fun x hx => by omega) (fun x o v hx hv => ?_) (fun j v hj hv => ?_) (Nat.le_refl _)
      · rw [cell_set_far (by omega)]; exact hv
      · rw [cell_set_far (by omega)]; exact hv
end Go.Proofs.Ytekhoanjpnjaeaa

