/- Texts Fold, FoldTop, Place, Cmp, Find, Get, laid together. -/
import Derived.Lib.Hide
import Derived.Test.YtekhoanjpnjaeaaNa
import Derived.Test.YtekhoanjpnjaeaaNb
/- The contract of expr.fold. -/
namespace Go.Proofs.Ytekhoanjpnjaeaa
open Go.RowKit

def FoldPost (w : World) (d lo hi : Nat) (t : Ex) (b off : Nat) (e : Ending) (w' : World) : Prop :=
  e = .returned (.tuple #[]) ∧ Chg w w' (fun x => lo ≤ x ∧ x < hi) b off (off + 4) ∧ RepAt .u8 (fun x => (lo ≤ x ∧ x < hi) ∨ w.heap.size ≤ x) w' (d + 1) (foldT t) b off

theorem allC_take (l : List Ex) (k : Nat) (h : k < l.length) : allC ((l.take (k + 1)).map foldT) = (allC ((l.take k).map foldT) && (constV (foldT l[k])).2) := by
  unfold allC
  rw [List.take_succ_eq_append_getElem h, List.map_append, List.all_append]
  simp only [List.map_cons, List.map_nil, List.all_cons, List.all_nil, Bool.and_true]
theorem FoldInv.start (w : World) (t : Ex) (d b off : Nat) (m : Nat → Nat) (hb : b < w.heap.size) : FoldInv w t d b off m 0 (w.alloc (.cells #[.int .i64 0, .int .i64 0] 66)) := by
  refine ⟨Chg.of_below _ hb ((Below.refl _ _).alloc (Nat.le_refl _) _), by simp, ?_, fun _ h => absurd h (Nat.not_lt_zero _)⟩
  rw [alloc_last]; rfl

theorem qAdd {P : Program} {f : FuncId} {ar : Array Value} {w : World} {a n : Nat} {v : Value} (h : Calls P f ar (w.drewN (a + n)) fun e w' => e = .returned v ∧ w.drewN (a + n) = w') :
    Calls P f ar (w.drewN (a + n)) fun e w' => e = .returned v ∧ ∃ m, w' = w.drewN (a + m) := h.mono fun _ _ hh => ⟨hh.1, n, hh.2.symm⟩
theorem Flds.same {t : Ex} (h : Flds .u8 t) (f : Ex → Ex) : Flds .u8 (.node t.op t.name t.n (t.args.map f)) :=
  ⟨h.op, h.n, h.name, by show (t.args.map f).length < _; rw [List.length_map]; exact h.len⟩
theorem FoldInv.chgAll {w wr : World} {t : Ex} {d b' off' b off lo hi : Nat} {m : Nat → Nat} (h : FoldInv w t d b' off' m t.args.length wr)
    (hb : b < w.heap.size) (hbo : b < lo ∨ hi ≤ b) (q1 : lo ≤ b') (q2 : b' < m 0) (hm : m 0 ≤ m t.args.length) (q3 : m t.args.length ≤ hi) (_hhi : hi ≤ w.heap.size) :
    Chg w wr (fun x => lo ≤ x ∧ x < hi) b off (off + 4) :=
  ⟨h.chg.os, h.chg.tape, h.chg.output, h.chg.size, fun x hx hxb hX => h.chg.block x hx (fun e => hX (by subst e; exact ⟨q1, by omega⟩)) (fun hx' => hX ⟨by omega, by omega⟩),
    fun o _ => h.chg.cellOf hb (by omega) (by show ¬ (m 0 ≤ b ∧ b < m t.args.length); omega), fun o => h.chg.frozenOf hb (by omega) (by show ¬ (m 0 ≤ b ∧ b < m t.args.length); omega)⟩
theorem FoldInv.rep {w wr : World} {t : Ex} {d b' off' b off lo hi cap : Nat} {m : Nat → Nat} (h : FoldInv w t d b' off' m t.args.length wr)
    (hb : b < w.heap.size) (hbo : b < lo ∨ hi ≤ b) (q1 : lo ≤ b') (q2 : b' < m 0) (hmm : ∀ i, i < t.args.length → m i ≤ m (i + 1)) (q3 : m t.args.length ≤ hi) (hhi : hi ≤ w.heap.size)
    (h0 : w.cell? ⟨b, off, none⟩ = some (.int .u8 t.op)) (h1 : w.cell? ⟨b, off + 1, none⟩ = some (.string t.name)) (h2 : w.cell? ⟨b, off + 2, none⟩ = some (.int .i64 t.n)) (hf : Flds .u8 t)
    (h3 : w.cell? ⟨b, off + 3, none⟩ = some (.slice (some ⟨b', off', none⟩) t.args.length cap)) :
    RepAt .u8 (fun x => (lo ≤ x ∧ x < hi) ∨ w.heap.size ≤ x) wr (d + 1 + 1) (.node t.op t.name t.n (t.args.map foldT)) b off := by
  have hm : m 0 ≤ m t.args.length := mono_le hmm (Nat.zero_le _) (Nat.le_refl _)
  have hc := h.chgAll (off := off) hb hbo q1 q2 hm q3 hhi
  have e : ∀ o, wr.cell? ⟨b, o, none⟩ = w.cell? ⟨b, o, none⟩ := fun o => h.chg.cellOf hb (by omega) (by show ¬ (m 0 ≤ b ∧ b < m t.args.length); omega)
  refine ⟨by rw [e]; exact h0, by rw [e]; exact h1, by rw [e]; exact h2, hf.same _, _, by rw [e]; exact h3, ?_⟩
  refine RepS.mk (by simp [Ex.args]) (Or.inl ⟨q1, by omega⟩) (fun i hi0 => ?_)
  have hi' : i < t.args.length := by simpa [Ex.args] using hi0
  have hmi : m (i + 1) ≤ m t.args.length := mono_le hmm (by omega) (Nat.le_refl _)
  have hm0 : m 0 ≤ m i := mono_le hmm (Nat.zero_le _) (by omega)
  have := (h.done i hi' hi').mono (S' := fun x => (lo ≤ x ∧ x < hi) ∨ w.heap.size ≤ x) (w' := wr) (fun x hx => by omega) (fun _ _ _ _ h => h) (fun _ _ _ h => h) (Nat.le_refl _)
  simpa [Ex.args] using this

theorem set4_cell_out (w : World) (M o : Nat) (a b c d : Value) (y : Nat) (hy : y < o ∨ o + 4 ≤ y) : (set4 w M o a b c d).cell? ⟨M, y, none⟩ = w.cell? ⟨M, y, none⟩ := by
  unfold set4
  rw [World.cell?_setCell_other _ _ _ _ (by intro e; have := congrArg Addr.off e; simp only at this; omega), World.cell?_setCell_other _ _ _ _ (by intro e; have := congrArg Addr.off e; simp only at this; omega), World.cell?_setCell_other _ _ _ _ (by intro e; have := congrArg Addr.off e; simp only at this; omega), World.cell?_setCell_other _ _ _ _ (by intro e; have := congrArg Addr.off e; simp only at this; omega)]
theorem set4_frozen (w : World) (M o : Nat) (a b c d : Value) (x : Addr) : (set4 w M o a b c d).frozen? x = w.frozen? x := by
  unfold set4; simp
theorem set4_cells {w : World} {M o : Nat} {u0 u1 u2 u3 : Value} (h0 : w.cell? ⟨M, o, none⟩ = some u0) (h1 : w.cell? ⟨M, o + 1, none⟩ = some u1) (h2 : w.cell? ⟨M, o + 2, none⟩ = some u2) (h3 : w.cell? ⟨M, o + 3, none⟩ = some u3) (a b c d : Value) :
    (set4 w M o a b c d).cell? ⟨M, o, none⟩ = some a ∧ (set4 w M o a b c d).cell? ⟨M, o + 1, none⟩ = some b ∧ (set4 w M o a b c d).cell? ⟨M, o + 2, none⟩ = some c ∧ (set4 w M o a b c d).cell? ⟨M, o + 3, none⟩ = some d := by
  unfold set4
  refine ⟨?_, ?_, ?_, ?_⟩
  · rw [World.cell?_setCell_other _ _ _ _ (by simp), World.cell?_setCell_other _ _ _ _ (by simp), World.cell?_setCell_other _ _ _ _ (by simp)]; exact World.cell?_setCell_same _ _ _ h0
  · rw [World.cell?_setCell_other _ _ _ _ (by simp), World.cell?_setCell_other _ _ _ _ (by simp)]; exact World.cell?_setCell_same _ _ _ (by rw [World.cell?_setCell_other _ _ _ _ (by simp)]; exact h1)
  · rw [World.cell?_setCell_other _ _ _ _ (by simp)]; exact World.cell?_setCell_same _ _ _ (by rw [World.cell?_setCell_other _ _ _ _ (by simp), World.cell?_setCell_other _ _ _ _ (by simp)]; exact h2)
  · exact World.cell?_setCell_same _ _ _ (by rw [World.cell?_setCell_other _ _ _ _ (by simp), World.cell?_setCell_other _ _ _ _ (by simp), World.cell?_setCell_other _ _ _ _ (by simp)]; exact h3)

theorem fold_end_lit {w wr w3 : World} {D b off lo hi : Nat} {s : Ex} {c u0 u1 u2 u3 : Value} (hb : b < w.heap.size) (_hbo : b < lo ∨ hi ≤ b) (hc : Chg w wr (fun x => lo ≤ x ∧ x < hi) b off (off + 4)) (h3 : Below wr.heap.size wr w3)
    (g0 : w3.cell? ⟨b, off, none⟩ = some u0) (g1 : w3.cell? ⟨b, off + 1, none⟩ = some u1) (g2 : w3.cell? ⟨b, off + 2, none⟩ = some u2) (g3 : w3.cell? ⟨b, off + 3, none⟩ = some u3) (hf : Flds .u8 s)
    (hr : RepS .u8 (fun x => wr.heap.size ≤ x) w3 1 s.args c) :
    Chg w (set4 w3 b off (.int .u8 s.op) (.string s.name) (.int .i64 s.n) c) (fun x => lo ≤ x ∧ x < hi) b off (off + 4) ∧
    RepAt .u8 (fun x => (lo ≤ x ∧ x < hi) ∨ w.heap.size ≤ x) (set4 w3 b off (.int .u8 s.op) (.string s.name) (.int .i64 s.n) c) (D + 1 + 1) s b off := by
  have hs := hc.size
  have hs3 := h3.size
  obtain ⟨e0, e1, e2, e3⟩ := set4_cells g0 g1 g2 g3 (.int .u8 s.op) (.string s.name) (.int .i64 s.n) c
  refine ⟨⟨h3.os.trans hc.os, h3.tape.trans hc.tape, h3.output.trans hc.output, ?_, fun x hx hxb hX => ?_, fun o ho => ?_, fun o => ?_⟩, e0, e1, e2, hf, c, e3, ?_⟩
  · rw [set4_size]; omega
  · rw [set4_heap _ _ _ _ _ _ _ _ hxb, h3.block x (by omega)]; exact hc.block x hx hxb hX
  · rw [set4_cell_out _ _ _ _ _ _ _ _ ho, h3.cell (p := ⟨b, o, none⟩) (by show b < _; omega)]; exact hc.cell o ho
  · rw [set4_frozen, h3.frozen (p := ⟨b, o, none⟩) (by show b < _; omega)]; exact hc.frozen o
  · refine hr.mono (fun x hx => Or.inr (by omega)) (fun x o v hx hv => ?_) (by omega)
    rw [World.cell?_of_block (w := w3) (set4_heap _ _ _ _ _ _ _ _ (by show x ≠ b; omega))]; exact hv

theorem fold_any (d : Nat) : ∀ (lo hi : Nat) (t : Ex) (b off : Nat) (w : World), OwnAt w d lo hi t b off → t.formed = true → (b < lo ∨ hi ≤ b) → hi ≤ w.heap.size → (∀ o, w.frozen? ⟨b, o, none⟩ = false) →
    Calls Try.prog 71 #[.pointer (some ⟨b, off, none⟩)] w (FoldPost w d lo hi t b off) := by
  induction d using Nat.strongRecOn with
  | _ d ih =>
    intro lo hi t b off w h hfm hbo hhi hfz
    have IH := Lib.hid ih; clear ih
    obtain ⟨h0, h1, h2, hf, c, h3, hc⟩ := h
    obtain ⟨a, cap, rfl⟩ := hc.shape
    have HC := Lib.hid hc; clear hc
    have HF := Lib.hid hf
    have HFM := Lib.hid hfm; clear hfm
    have HFZ := Lib.hid hfz; clear hfz
    have hlen := hf.len
    clear hf
    have hb := cell_lt h0
    have hb1 : b < w.heap.size + 1 := by omega
    by_cases he : t.args = []
    · have hop : ¬ 9 ≤ t.op := by
        have h1 := (formed_args HFM.out).1
        rw [he] at h1
        intro h9
        have h1' : (0 : Int) = opnd t.op := h1
        unfold opnd at h1'
        repeat' split at h1'
        all_goals omega
      have hd9 : decide (9 ≤ t.op) = false := by simpa using hop
      have HT := Lib.hid (show foldT t = .node t.op t.name t.n (t.args.map foldT) by rw [foldT_eq, foldN, hd9]; rfl)
      have hl0 : t.args.length = 0 := by rw [he]; rfl
      have HNE := Lib.hid he; clear he hop
      have H4 := Lib.hid (And.intro h0 (And.intro h1 (And.intro h2 h3)))
      rw [hl0] at h3
      go_enter Try.func71, Try.ntmps71
      go_wp2_with fail
      go_loopw [3, 19] (fun al i wr => al = .bool false ∧ i = .int .i64 0 ∧ wr = w.alloc (.cells #[.int .i64 0, .int .i64 0] 66)) (fun _ _ _ => 0)
      case atStart => exact ⟨rfl, rfl, rfl⟩
      case round =>
        obtain ⟨rfl, rfl, rfl⟩ := hrel
        go_wp2_with fail
        go_end0
        have hB : Below w.heap.size w (w.alloc (.cells #[.int .i64 0, .int .i64 0] 66)) := (Below.refl _ _).alloc (Nat.le_refl _) _
        refine ⟨rfl, Chg.of_below _ hb hB, ?_⟩
        rw [HT.out]
        have hm : t.args.map foldT = [] := by rw [HNE.out]; rfl
        refine ⟨below_cell hB H4.out.1, below_cell hB H4.out.2.1, below_cell hB H4.out.2.2.1, HF.out.same _, _, below_cell hB H4.out.2.2.2, ?_⟩
        rw [hl0]
        show RepS _ _ _ _ (t.args.map foldT) _
        rw [hm]
        exact RepS.nil _ _ _
    · obtain ⟨d', b', off', m, rfl, rfl, _, q1, q2, q3, q4, q5, q6⟩ := HC.out.at he
      have HQ := Lib.hid (And.intro q4 (And.intro q5 q6)); clear q4 q5 q6
      have hl2 : t.args.length ≤ 2 := by
        have := (formed_args HFM.out).1
        have : opnd t.op ≤ 2 := by unfold opnd; (repeat' split) <;> omega
        omega
      have hl1 : 1 ≤ t.args.length := by cases h : t.args with | nil => exact absurd h he | cons _ _ => simp
      have hm0l : m 0 ≤ m t.args.length := mono_le HQ.out.1 (Nat.zero_le _) (Nat.le_refl _)
      have hb' : b' < w.heap.size := by omega
      have H4 := Lib.hid (And.intro h0 (And.intro h1 (And.intro h2 h3)))
      obtain ⟨B9, hB9⟩ : ∃ B, decide (9 ≤ t.op) = B := ⟨_, rfl⟩
      go_enter Try.func71, Try.ntmps71
      go_wp2_with fail
      have HB9 := Lib.hid hB9; clear hB9
      have HNE := Lib.hid he; clear he
      go_loopw [3, 19] (fun al i wr => ∃ k : Nat, k ≤ t.args.length ∧ i = .int .i64 k ∧ al = .bool (B9 && allC ((t.args.take k).map foldT)) ∧ FoldInv w t d' b' off' m k wr) (fun _ i _ => t.args.length - (intOf i).toNat)
      case atStart => exact ⟨0, Nat.zero_le _, rfl, by simp [allC], FoldInv.start w t d' b' off' m (by omega)⟩
      case round =>
        obtain ⟨k, hk, rfl, rfl, hinv⟩ := hrel
        have HI := Lib.hid hinv; clear hinv
        have hch := HI.out.chg
        have hm0 : m 0 ≤ m k := mono_le HQ.out.1 (Nat.zero_le _) hk
        have hmk : m k ≤ m t.args.length := mono_le HQ.out.1 hk (Nat.le_refl _)
        have g0 : wr.cell? ⟨b, off, none⟩ = some (.int .u8 t.op) := by rw [hch.cellOf hb (by omega) (by omega)]; exact h0
        have g3 : wr.cell? ⟨b, off + 3, none⟩ = some (.slice (some ⟨b', off', none⟩) t.args.length cap) := by rw [hch.cellOf hb (by omega) (by omega)]; exact h3
        clear h0 h1 h2 h3 hch
        generalize hA : (B9 && allC ((t.args.take k).map foldT)) = A
        have HA := Lib.hid hA; clear hA
        by_cases hlt : k < t.args.length
        · have hmk1 : m (k + 1) ≤ m t.args.length := mono_le HQ.out.1 (by omega) (Nat.le_refl _)
          have hmkk : m k ≤ m (k + 1) := HQ.out.1 k hlt
          have hszr := HI.out.size
          have hown : OwnAt wr d' (m k) (m (k + 1)) t.args[k] b' (off' + k * 4) := by
            refine (HQ.out.2.2 k hlt).mono (Nat.le_refl _) (Nat.le_refl _) (Nat.le_refl _) (fun j v hj hv => ?_) (fun x hx hx' => ?_)
            · rw [HI.out.chg.cell _ (by omega)]; exact hv
            · exact HI.out.chg.block x (by omega) (by omega) (by show ¬ (m 0 ≤ x ∧ x < m k); omega)
          have hfk : t.args[k].formed = true := (formed_args HFM.out).2 _ (List.getElem_mem hlt)
          have hfz' : ∀ o, wr.frozen? ⟨b', o, none⟩ = false := fun o => by rw [HI.out.chg.frozen]; exact HQ.out.2.1 o
          have HO := Lib.hid (And.intro hown (And.intro hfk hfz')); clear hown hfk hfz'
          go_wp2_with fail
          refine (IH.out d' (by omega) (m k) (m (k + 1)) t.args[k] b' (off' + k * 4) wr HO.out.1 HO.out.2.1 (by omega) (by omega) HO.out.2.2).mono ?_
          rintro e w1 ⟨rfl, hc1, hr1⟩
          have g3' : w1.cell? ⟨b, off + 3, none⟩ = some (.slice (some ⟨b', off', none⟩) t.args.length cap) := by rw [hc1.cellOf (by omega) (by omega) (by show ¬ (m k ≤ b ∧ b < m (k + 1)); omega)]; exact g3
          have hvals := HI.out.vals
          have hv1 : w1.heap[w.heap.size]? = some (.cells #[.int .i64 ((valsC ((t.args.take k).map foldT))[0]?.getD 0), .int .i64 ((valsC ((t.args.take k).map foldT))[1]?.getD 0)] 66) := by
            rw [hc1.block _ (by omega) (by omega) (by show ¬ (m k ≤ w.heap.size ∧ w.heap.size < m (k + 1)); omega)]; exact HI.out.vals
          have hcl : ∃ v, w1.cell? ⟨w.heap.size, k, none⟩ = some v := by
            rcases (show k = 0 ∨ k = 1 by omega) with rfl | rfl
            · exact ⟨_, by simp [World.cell?, hv1]; rfl⟩
            · exact ⟨_, by simp [World.cell?, hv1]; rfl⟩
          obtain ⟨vk, hvk⟩ := hcl
          have hfr := thaw hv1 k
          have H1 := Lib.hid (And.intro hc1 hr1); clear hc1 hr1 hv1 hvals g0 g3
          have h9 := foldT_nine HO.out.2.1
          have H9 := Lib.hid h9; clear h9
          have HSt := Lib.hid (fun n : Nat => HI.out.step (n := n) hlt hl2 hb' q1 q2 HQ.out.1 q3 hhi H1.out.1 H1.out.2)
          generalize hcv : constV (foldT t.args[k]) = cv at *
          obtain ⟨cv1, cv2⟩ := cv
          have HCV := Lib.hid hcv; clear hcv
          go_wp2_with fail
          refine (constant_any _ _ (foldT t.args[k]) b' (off' + k * 4) w1 H1.out.2 H9.out).mono ?_
          rw [HCV.out]
          rintro e w2 ⟨rfl, n, rfl⟩
          have hk2 : (k : Int) < 2 := by omega
          have HTk := Lib.hid (allC_take t.args k hlt)
          cases A with
          | true =>
            go_wp2_with fail
            go_roundw
            case rel => exact ⟨k + 1, by omega, by go_num, by rw [HTk.out, ← Bool.and_assoc, HA.out, HCV.out]; rfl, HSt.out n⟩
            case measure => simp [intOf]; omega
          | false =>
            go_wp2_with fail
            go_roundw
            case rel => exact ⟨k + 1, by omega, by go_num, by rw [HTk.out, ← Bool.and_assoc, HA.out, HCV.out]; rfl, HSt.out n⟩
            case measure => simp [intOf]; omega
        · have hkk : k = t.args.length := by omega
          subst hkk
          have HA' := Lib.hid (show (B9 && allC (t.args.map foldT)) = A by have := HA.out; rwa [List.take_length] at this)
          have HCh := Lib.hid (HI.out.chgAll (off := off) hb hbo q1 q2 hm0l q3 hhi)
          have HRe := Lib.hid (HI.out.rep (off := off) (cap := cap) hb hbo q1 q2 HQ.out.1 q3 hhi H4.out.1 H4.out.2.1 H4.out.2.2.1 HF.out H4.out.2.2.2)
          have HX : Hid (∀ i (h : i < t.args.length), -9223372036854775808 ≤ (constV (foldT t.args[i])).1 ∧ (constV (foldT t.args[i])).1 ≤ 9223372036854775807) :=
            Lib.hid (fun i h => constV_range (HI.out.done i h h).2.2.2.1.n)
          have HY0 : ∀ n, (wr.drewN n).cell? ⟨b, off, none⟩ = some (.int .u8 t.op) ∧ (wr.drewN n).cell? ⟨b, off + 1, none⟩ = some (.string t.name) ∧ (wr.drewN n).cell? ⟨b, off + 2, none⟩ = some (.int .i64 t.n) ∧ (wr.drewN n).cell? ⟨b, off + 3, none⟩ = some (.slice (some ⟨b', off', none⟩) t.args.length cap) ∧ ∀ o, (wr.drewN n).frozen? ⟨b, o, none⟩ = false := by
            intro n
            have e : ∀ o, wr.cell? ⟨b, o, none⟩ = w.cell? ⟨b, o, none⟩ := fun o => HI.out.chg.cellOf hb (by omega) (by show ¬ (m 0 ≤ b ∧ b < m t.args.length); omega)
            exact ⟨(e _).trans H4.out.1, (e _).trans H4.out.2.1, (e _).trans H4.out.2.2.1, (e _).trans H4.out.2.2.2, fun o => (HI.out.chg.frozenOf hb (by omega) (by show ¬ (m 0 ≤ b ∧ b < m t.args.length); omega)).trans (HFZ.out o)⟩
          have HYN := Lib.hid HY0; clear HY0
          cases A with
          | false =>
            have HT := Lib.hid (show foldT t = .node t.op t.name t.n (t.args.map foldT) by rw [foldT_eq, foldN, HB9.out, HA'.out]; rfl)
            go_wp2_with fail
            go_end0
            exact ⟨rfl, HCh.out, by rw [HT.out]; exact HRe.out⟩
          | true =>
            have HT := Lib.hid (show foldT t = if foldV t.op (valsC (t.args.map foldT)) = -9223372036854775808 then .node t.op t.name t.n (t.args.map foldT) else litT t.op (foldV t.op (valsC (t.args.map foldT))) by rw [foldT_eq, foldN, HB9.out, HA'.out]; rfl)
            have hv := HI.out.vals
            rw [List.take_length] at hv
            generalize hl : valsC (t.args.map foldT) = l at *
            have hll : l.length = t.args.length := by rw [← hl]; simp [valsC]
            have HL := Lib.hid hl; clear hl
            generalize hx0 : l[0]?.getD 0 = x0 at *
            generalize hx1 : l[1]?.getD 0 = x1 at *
            have z0 : wr.cell? ⟨w.heap.size, 0, none⟩ = some (.int .i64 x0) := by simp [World.cell?, hv]
            have z1 : wr.cell? ⟨w.heap.size, 1, none⟩ = some (.int .i64 x1) := by simp [World.cell?, hv]
            have HV := Lib.hid hv; clear hv
            have HX0 : Hid (-9223372036854775808 ≤ x0 ∧ x0 ≤ 9223372036854775807) := Lib.hid (by
              have := HX.out 0 hl1
              have e : x0 = (constV (foldT (t.args[0]'hl1))).1 := by
                rw [← hx0, ← HL.out]; unfold valsC; rw [List.map_map]; simp [show 0 < t.args.length from hl1]
              rw [e]; exact this)
            rcases (show t.args.length = 1 ∨ t.args.length = 2 by omega) with hL | hL
            · have HFV := Lib.hid (show foldV t.op l = (unV t.op x0).1 by unfold foldV; rw [if_pos (by omega), hx0])
              have HLL := Lib.hid (And.intro hL hll); clear hL hll hx0 hx1
              have hl1' : ((t.args.length : Int) == 1) = true := by have := HLL.out.1; simp; omega
              generalize hbv : binV t.op x0 x1 = bv
              obtain ⟨v', ve'⟩ := bv
              have HBV' := Lib.hid hbv; clear hbv
              generalize hbv : unV t.op x0 = bv at *
              obtain ⟨v, ve⟩ := bv
              have HBV := Lib.hid hbv; clear hbv
              go_wp2_with fail
              go_quiet ((go_at_call 22; exact Calls.quiet_of_same ((binary_any _ _ _ _).mono fun _ _ h => ⟨by rw [h.1, HBV'.out], h.2.symm⟩)))
              revert nq; intro n1
              go_wp2_with fail
              go_quiet ((go_at_call 20; exact qAdd ((unary_any _ _ _).mono fun _ _ h => ⟨by rw [h.1, HBV.out], h.2⟩)))
              by_cases hmin : v = -9223372036854775808
              · have hmin' : (v != -9223372036854775808) = false := by simp [hmin]
                have HM := Lib.hid hmin; clear hmin
                go_wp2_with fail
                go_end0
                exact ⟨rfl, HCh.out.below hb (below_drewN _ _ _), by rw [HT.out, HFV.out, if_pos HM.out]; exact HRe.out.drewN _⟩
              · have hmin' : (v != -9223372036854775808) = true := by simp [hmin]
                have HM := Lib.hid hmin; clear hmin
                have HY := Lib.hid (HYN.out (n1 + nq))
                have HRv : Hid (-9223372036854775808 ≤ v ∧ v ≤ 9223372036854775807) := by
                  have := unV_range t.op x0
                  rw [HBV.out] at this; exact this
                have HLit := Lib.hid (literal_any t.op v (wr.drewN (n1 + nq)) (by have := HRv.out.1; have := HM.out; omega) HRv.out.2)
                have HFl := Lib.hid (litT_flds t.op v HRv.out.1 HRv.out.2)
                have HT' := Lib.hid (show foldT t = litT t.op v by rw [HT.out, HFV.out, if_neg HM.out])
                generalize litT t.op v = s at *
                go_wp2_with fail
                refine HLit.out.mono ?_
                rintro e w3 ⟨hb3, c3, rfl, hr3⟩
                obtain ⟨a3, cap3, rfl⟩ := hr3.shape
                have p0 := below_cell hb3 HY.out.1
                have p1 := below_cell hb3 HY.out.2.1
                have p2 := below_cell hb3 HY.out.2.2.1
                have p3 := below_cell hb3 HY.out.2.2.2.1
                have f0 := below_thaw hb3 HY.out.1 (HY.out.2.2.2.2 _)
                have f1 := below_thaw hb3 HY.out.2.1 (HY.out.2.2.2.2 _)
                have f2 := below_thaw hb3 HY.out.2.2.1 (HY.out.2.2.2.2 _)
                have f3 := below_thaw hb3 HY.out.2.2.2.1 (HY.out.2.2.2.2 _)
                have HE := Lib.hid (fold_end_lit (D := d') hb hbo (HCh.out.below hb (below_drewN wr (n1 + nq) _)) hb3 p0 p1 p2 p3 HFl.out hr3)
                clear hb3 hr3
                go_wp2_with fail
                go_end0
                exact ⟨rfl, HE.out.1, by rw [HT'.out]; exact HE.out.2⟩
            · have HFV := Lib.hid (show foldV t.op l = (binV t.op x0 x1).1 by unfold foldV; rw [if_neg (by omega), hx0, hx1])
              have hl1 : ((t.args.length : Int) == 1) = false := by simp; omega
              have HLL := Lib.hid (And.intro hL hll); clear hL hll hx0 hx1
              generalize hbv : binV t.op x0 x1 = bv at *
              obtain ⟨v, ve⟩ := bv
              have HBV := Lib.hid hbv; clear hbv
              go_wp2_with fail
              go_quiet ((go_at_call 22; exact Calls.quiet_of_same ((binary_any _ _ _ _).mono fun _ _ h => ⟨by rw [h.1, HBV.out], h.2.symm⟩)))
              by_cases hmin : v = -9223372036854775808
              · have hmin' : (v != -9223372036854775808) = false := by simp [hmin]
                have HM := Lib.hid hmin; clear hmin
                go_wp2_with fail
                go_end0
                exact ⟨rfl, HCh.out.below hb (below_drewN _ _ _), by rw [HT.out, HFV.out, if_pos HM.out]; exact HRe.out.drewN _⟩
              · have hmin' : (v != -9223372036854775808) = true := by simp [hmin]
                have HM := Lib.hid hmin; clear hmin
                have HY := Lib.hid (HYN.out nq)
                have HRv : Hid (-9223372036854775808 ≤ v ∧ v ≤ 9223372036854775807) := by
                  have := binV_range t.op x0 x1 HX0.out.1 HX0.out.2
                  rw [HBV.out] at this; exact this
                have HLit := Lib.hid (literal_any t.op v (wr.drewN nq) (by have := HRv.out.1; have := HM.out; omega) HRv.out.2)
                have HFl := Lib.hid (litT_flds t.op v HRv.out.1 HRv.out.2)
                have HT' := Lib.hid (show foldT t = litT t.op v by rw [HT.out, HFV.out, if_neg HM.out])
                generalize litT t.op v = s at *
                go_wp2_with fail
                refine HLit.out.mono ?_
                rintro e w3 ⟨hb3, c3, rfl, hr3⟩
                obtain ⟨a3, cap3, rfl⟩ := hr3.shape
                have p0 := below_cell hb3 HY.out.1
                have p1 := below_cell hb3 HY.out.2.1
                have p2 := below_cell hb3 HY.out.2.2.1
                have p3 := below_cell hb3 HY.out.2.2.2.1
                have f0 := below_thaw hb3 HY.out.1 (HY.out.2.2.2.2 _)
                have f1 := below_thaw hb3 HY.out.2.1 (HY.out.2.2.2.2 _)
                have f2 := below_thaw hb3 HY.out.2.2.1 (HY.out.2.2.2.2 _)
                have f3 := below_thaw hb3 HY.out.2.2.2.1 (HY.out.2.2.2.2 _)
                have HE := Lib.hid (fold_end_lit (D := d') hb hbo (HCh.out.below hb (below_drewN wr nq _)) hb3 p0 p1 p2 p3 HFl.out hr3)
                clear hb3 hr3
                go_wp2_with fail
                go_end0
                exact ⟨rfl, HE.out.1, by rw [HT'.out]; exact HE.out.2⟩
end Go.Proofs.Ytekhoanjpnjaeaa

/- The contract of expr.Fold. -/
namespace Go.Proofs.Ytekhoanjpnjaeaa
open Go.RowKit

def foldTop (t : Ex) : Ex := if t.formed = true then foldT t else t

/-- A struct value in registers that is the tree t. -/
def agg (k : IntKind) (t : Ex) (c : Value) : Value := .agg #[.int k t.op, .string t.name, .int .i64 t.n, c]

def FoldTopPost (w : World) (t : Ex) (e : Ending) (w' : World) : Prop :=
  Below w.heap.size w w' ∧ ∃ D c, e = .returned (agg .u8 (foldTop t) c) ∧ Flds .u8 (foldTop t) ∧ RepS .u8 (fun x => w.heap.size ≤ x) w' D (foldTop t).args c

theorem repAt_block {k : IntKind} {S : Nat → Prop} {w : World} {d : Nat} {t : Ex} {b : Nat} {c : Value} {T : TypeId} (hb : w.heap[b]? = some (.cells #[.int k t.op, .string t.name, .int .i64 t.n, c] T)) (hf : Flds k t) (hr : RepS k S w d t.args c) : RepAt k S w d t b 0 :=
  ⟨by simp [World.cell?, hb], by simp [World.cell?, hb], by simp [World.cell?, hb], hf, c, by simp [World.cell?, hb], hr⟩
theorem ownAt_block {w : World} {d lo hi : Nat} {t : Ex} {b : Nat} {c : Value} {T : TypeId} (hb : w.heap[b]? = some (.cells #[.int .u8 t.op, .string t.name, .int .i64 t.n, c] T)) (hf : Flds .u8 t) (hr : OwnS w d lo hi t.args c) : OwnAt w d lo hi t b 0 :=
  ⟨by simp [World.cell?, hb], by simp [World.cell?, hb], by simp [World.cell?, hb], hf, c, by simp [World.cell?, hb], hr⟩
theorem Fold_any (d : Nat) (S : Nat → Prop) (t : Ex) (c : Value) (w : World) (hf : Flds .u8 t) (hr : RepS .u8 S w d t.args c) :
    Calls Try.prog 26 #[agg .u8 t c] w (FoldTopPost w t) := by
  obtain ⟨a, cap, rfl⟩ := hr.shape
  have HF := Lib.hid hf; clear hf
  have HR := Lib.hid hr; clear hr
  unfold agg
  go_enter Try.func26, Try.ntmps26
  go_wp2_with fail
  generalize hw2 : (w.alloc (.cells #[.int .u8 t.op, .string t.name, .int .i64 t.n, .slice a t.args.length cap] 41)).alloc (.cells #[.int .u8 0, .string ⟨#[]⟩, .int .i64 0, .slice none 0 0] 41) = w2
  have hs2 : w2.heap.size = w.heap.size + 1 + 1 := by rw [← hw2]; simp
  have hB2 : Below w.heap.size w w2 := by rw [← hw2]; exact ((Below.refl _ _).alloc (Nat.le_refl _) _).alloc (by simp) _
  have e0 : w2.heap[w.heap.size]? = some (.cells #[.int .u8 t.op, .string t.name, .int .i64 t.n, .slice a t.args.length cap] 41) := by
    rw [← hw2, Below.heap_alloc _ _ _ (by simp)]; exact alloc_last _ _
  have e1 : w2.heap[w.heap.size + 1]? = some (.cells #[.int .u8 0, .string ⟨#[]⟩, .int .i64 0, .slice none 0 0] 41) := by
    rw [← hw2]; exact alloc_at _ _ (by simp)
  clear hw2
  have HS2 := Lib.hid hs2
  have HB2 := Lib.hid hB2
  have HE := Lib.hid (And.intro e0 e1)
  clear hB2 e0 e1
  refine (clone_any d S t w.heap.size 0 w2 (repAt_block HE.out.1 HF.out (HR.out.below HB2.out))).mono ?_
  rintro e w3 ⟨hb3, c3, rfl, ho3⟩
  obtain ⟨a3, cap3, rfl⟩ := ho3.shape
  have hsz3 : w.heap.size + 1 + 1 ≤ w3.heap.size := by have := hb3.size; omega
  have e1 : w3.heap[w.heap.size + 1]? = some (.cells #[.int .u8 0, .string ⟨#[]⟩, .int .i64 0, .slice none 0 0] 41) := by rw [hb3.block _ (by omega)]; exact HE.out.2
  have H3 := Lib.hid (And.intro hb3 (And.intro ho3 e1)); clear hb3 ho3 e1 hs2
  go_wp2_with fail
  generalize hw4 : w3.alloc (.cells #[.int .u8 t.op, .string t.name, .int .i64 t.n, .slice a3 t.args.length cap3] 41) = w4
  have hs4 : w4.heap.size = w3.heap.size + 1 := by rw [← hw4]; simp
  have hB4 : Below w3.heap.size w3 w4 := by rw [← hw4]; exact (Below.refl _ _).alloc (Nat.le_refl _) _
  have eR : w4.heap[w3.heap.size]? = some (.cells #[.int .u8 t.op, .string t.name, .int .i64 t.n, .slice a3 t.args.length cap3] 41) := by
    rw [← hw4]; exact alloc_last _ _
  clear hw4
  have eZ : w4.heap[w.heap.size + 1]? = some (.cells #[.int .u8 0, .string ⟨#[]⟩, .int .i64 0, .slice none 0 0] 41) := by rw [hB4.block _ (by omega)]; exact H3.out.2.2
  have hBw : Below w.heap.size w w4 := HB2.out.trans ((H3.out.1.mono (by have := HS2.out; omega)).trans (hB4.mono (by omega)))
  have hO4 : OwnS w4 d w2.heap.size w3.heap.size t.args (.slice a3 t.args.length cap3) := H3.out.2.1.mono (Nat.le_refl _) (Nat.le_refl _) (Nat.le_refl _) (fun x _ hx => hB4.block x hx)
  have H4 := Lib.hid (And.intro eR (And.intro eZ (And.intro hBw hO4)))
  have HS4 := Lib.hid hs4
  clear eR eZ hBw hO4 hB4 hs4
  refine (formed_any d (fun _ => True) t w3.heap.size 0 w4 (repAt_block H4.out.1 HF.out (H4.out.2.2.2.rep (fun _ _ _ => trivial)))).mono ?_
  cases hfm : t.formed with
  | false =>
    have HT := Lib.hid (show foldTop t = t by unfold foldTop; rw [hfm]; rfl)
    clear hfm
    rintro e w5 ⟨rfl, n, rfl⟩
    have r0 : w4.cell? ⟨w3.heap.size, 0, none⟩ = some (.int .u8 t.op) := by simp [World.cell?, H4.out.1]
    have r1 : w4.cell? ⟨w3.heap.size, 1, none⟩ = some (.string t.name) := by simp [World.cell?, H4.out.1]
    have r2 : w4.cell? ⟨w3.heap.size, 2, none⟩ = some (.int .i64 t.n) := by simp [World.cell?, H4.out.1]
    have r3 : w4.cell? ⟨w3.heap.size, 3, none⟩ = some (.slice a3 t.args.length cap3) := by simp [World.cell?, H4.out.1]
    have z0 : w4.cell? ⟨w.heap.size + 1, 0, none⟩ = some (.int .u8 0) := by simp [World.cell?, H4.out.2.1]
    have z1 : w4.cell? ⟨w.heap.size + 1, 1, none⟩ = some (.string ⟨#[]⟩) := by simp [World.cell?, H4.out.2.1]
    have z2 : w4.cell? ⟨w.heap.size + 1, 2, none⟩ = some (.int .i64 0) := by simp [World.cell?, H4.out.2.1]
    have z3 : w4.cell? ⟨w.heap.size + 1, 3, none⟩ = some (.slice none 0 0) := by simp [World.cell?, H4.out.2.1]
    have f0 := thaw H4.out.2.1 0
    have f1 := thaw H4.out.2.1 1
    have f2 := thaw H4.out.2.1 2
    have f3 := thaw H4.out.2.1 3
    go_wp2_with fail
    refine bodyPost_ret (v := .agg #[.int .u8 t.op, .string t.name, .int .i64 t.n, .slice a3 t.args.length cap3]) (by simp [results, Try.results26, go_sem, z0, z1, z2, z3]) rfl ?_
    refine ⟨set4_below (M := w.heap.size + 1) (H4.out.2.2.1.trans (below_drewN w4 n _)) (Nat.le_succ _) 0 _ _ _ _, d, .slice a3 t.args.length cap3, by rw [HT.out]; rfl, by rw [HT.out]; exact HF.out, ?_⟩
    rw [HT.out]
    refine (H4.out.2.2.2.rep (S := fun x => w2.heap.size ≤ x) (fun _ h _ => h)).mono (fun x hx => by have := HS2.out; omega) (fun x o v hx hv => ?_) (Nat.le_refl _)
    exact (set4_far (w4.drewN n) (w.heap.size + 1) 0 _ _ _ _ x o (by have := HS2.out; omega)).trans hv
  | true =>
    have HT := Lib.hid (show foldTop t = foldT t by unfold foldTop; rw [hfm]; rfl)
    have HFM := Lib.hid hfm; clear hfm
    rintro e w5 ⟨rfl, n, rfl⟩
    have HOw : Hid (OwnAt (w4.drewN n) d w2.heap.size w3.heap.size t w3.heap.size 0) := Lib.hid (OwnAt.mono (w := w4) (Nat.le_refl _) (Nat.le_refl _) (Nat.le_refl _) (fun _ _ _ h => h) (fun _ _ _ => rfl) (ownAt_block H4.out.1 HF.out H4.out.2.2.2))
    go_wp2_with fail
    refine (fold_any d w2.heap.size w3.heap.size t w3.heap.size 0 (w4.drewN n) HOw.out HFM.out (Or.inr (Nat.le_refl _)) (by show _ ≤ w4.heap.size; have := HS4.out; omega) (thaw H4.out.1)).mono ?_
    rintro e w6 ⟨rfl, hch, hrp⟩
    obtain ⟨r0, r1, r2, rf, c6, r3, rr⟩ := hrp
    obtain ⟨a6, cap6, rfl⟩ := rr.shape
    have e5 : w6.heap[w.heap.size + 1]? = some (.cells #[.int .u8 0, .string ⟨#[]⟩, .int .i64 0, .slice none 0 0] 41) := by
      rw [hch.block _ (by show _ < w4.heap.size; have := HS4.out; omega) (by omega) (by show ¬ (w2.heap.size ≤ w.heap.size + 1 ∧ w.heap.size + 1 < w3.heap.size); have := HS2.out; omega)]; exact H4.out.2.1
    have z0 : w6.cell? ⟨w.heap.size + 1, 0, none⟩ = some (.int .u8 0) := by simp [World.cell?, e5]
    have z1 : w6.cell? ⟨w.heap.size + 1, 1, none⟩ = some (.string ⟨#[]⟩) := by simp [World.cell?, e5]
    have z2 : w6.cell? ⟨w.heap.size + 1, 2, none⟩ = some (.int .i64 0) := by simp [World.cell?, e5]
    have z3 : w6.cell? ⟨w.heap.size + 1, 3, none⟩ = some (.slice none 0 0) := by simp [World.cell?, e5]
    have f0 := thaw e5 0
    have f1 := thaw e5 1
    have f2 := thaw e5 2
    have f3 := thaw e5 3
    have HB6 : Hid (Below w.heap.size w w6) := Lib.hid ⟨hch.os.trans H4.out.2.2.1.os, hch.tape.trans H4.out.2.2.1.tape, hch.output.trans H4.out.2.2.1.output, Nat.le_trans H4.out.2.2.1.size hch.size,
      fun x hx => (hch.block x (Nat.lt_of_lt_of_le hx H4.out.2.2.1.size) (by omega) (by show ¬ (w2.heap.size ≤ x ∧ x < w3.heap.size); have := HS2.out; omega)).trans (H4.out.2.2.1.block x hx)⟩
    have HRR := Lib.hid rr
    have HRF := Lib.hid rf
    clear hch rr rf e5
    simp only [Nat.zero_add] at r0 r1 r2 r3
    go_wp2_with fail
    refine bodyPost_ret (v := .agg #[.int .u8 (foldT t).op, .string (foldT t).name, .int .i64 (foldT t).n, .slice a6 (foldT t).args.length cap6]) (by simp [results, Try.results26, go_sem, z0, z1, z2, z3]) rfl ?_
    refine ⟨set4_below (M := w.heap.size + 1) HB6.out (Nat.le_succ _) 0 _ _ _ _, d + 1, .slice a6 (foldT t).args.length cap6, by rw [HT.out]; rfl, by rw [HT.out]; exact HRF.out, ?_⟩
    rw [HT.out]
    refine HRR.out.mono (fun x hx => ?_) (fun x o v hx hv => ?_) (Nat.le_refl _)
    · have h2 := HS2.out; have h4 : (w4.drewN n).heap.size = w3.heap.size + 1 := HS4.out; omega
    · have h2 := HS2.out; have h4 : (w4.drewN n).heap.size = w3.heap.size + 1 := HS4.out
      exact (set4_far w6 (w.heap.size + 1) 0 _ _ _ _ x o (by omega)).trans hv
end Go.Proofs.Ytekhoanjpnjaeaa

/- The contract of ref10.place. -/
namespace Go.Proofs.Ytekhoanjpnjaeaa
open Go.RowKit

def placeN : List ByteArray → ByteArray → Option Nat
  | [], _ => none
  | x :: xs, s => if (x.toList == s.toList) = true then some 0 else (placeN xs s).map (· + 1)
theorem placeN_some : ∀ (l : List ByteArray) (s : ByteArray) (k : Nat) (hk : k < l.length), (∀ i (h : i < k), (l[i].toList == s.toList) = false) → (l[k].toList == s.toList) = true → placeN l s = some k
  | x :: xs, s, 0, _, _, h => by simp only [List.getElem_cons_zero] at h; simp only [placeN, h, if_true]
  | x :: xs, s, k + 1, hk, hn, h => by
    have h0 := hn 0 (by omega)
    simp only [List.getElem_cons_zero] at h0
    simp only [List.getElem_cons_succ] at h
    have := placeN_some xs s k (by simpa using hk) (fun i hi => by have := hn (i + 1) (by omega); simpa using this) h
    simp only [placeN, h0, this, Option.map_some]
    rfl
  | [], _, _, hk, _, _ => by simp at hk
theorem placeN_lt : ∀ (l : List ByteArray) (s : ByteArray) (k : Nat), placeN l s = some k → ∃ h : k < l.length, (l[k].toList == s.toList) = true
  | [], _, _, h => by cases h
  | x :: xs, s, k, h => by
    simp only [placeN] at h
    split at h
    · rename_i hx; cases h; exact ⟨by simp, hx⟩
    · cases hp : placeN xs s with
      | none => rw [hp] at h; cases h
      | some j =>
        rw [hp] at h
        cases h
        obtain ⟨hj, hm⟩ := placeN_lt xs s j hp
        exact ⟨by simpa using hj, by simpa using hm⟩

end Go.Proofs.Ytekhoanjpnjaeaa

/- cmp.Compare at int64 (79, 119) and table.find's closure (117). -/
namespace Go.Proofs.Ytekhoanjpnjaeaa
open Go.RowKit

theorem nan_any (x : Int) (w : World) : Calls Try.prog 119 #[.int .i64 x] w fun e w' => e = .returned (.bool false) ∧ w' = w := by
  go_enter Try.func119, Try.ntmps119
  go_wp2_with fail
  go_ret
  simp

/-- What cmp.Compare answers. -/
def cmpI (x y : Int) : Int := if x < y then -1 else if y < x then 1 else 0
theorem cmpI_neg {x y : Int} : cmpI x y < 0 ↔ x < y := by unfold cmpI; split <;> (try split) <;> simp_all <;> omega
theorem cmpI_zero {x y : Int} : cmpI x y = 0 ↔ x = y := by unfold cmpI; split <;> (try split) <;> simp_all <;> omega

theorem compare_any (x y : Int) (w : World) : Calls Try.prog 79 #[.int .i64 x, .int .i64 y] w fun e w' => e = .returned (.int .i64 (cmpI x y)) ∧ w' = w := by
  go_enter Try.func79, Try.ntmps79
  by_cases h1 : x < y
  · have t1 : decide (x < y) = true := by simp [h1]
    have hc : cmpI x y = -1 := by simp [cmpI, h1]
    have HC := Lib.hid hc; clear hc h1
    go_wp2_with fail
    refine (nan_any _ _).mono ?_
    rintro e w1 ⟨rfl, rfl⟩
    go_wp2_with fail
    refine (nan_any _ _).mono ?_
    rintro e w1 ⟨rfl, rfl⟩
    go_wp2_with fail
    go_ret
    rw [HC.out]
    exact ⟨rfl, rfl⟩
  · have t1 : decide (x < y) = false := by simp [h1]
    by_cases h2 : y < x
    · have t2 : decide (y < x) = true := by simp [h2]
      have hc : cmpI x y = 1 := by simp [cmpI, h1, h2]
      have HC := Lib.hid hc; clear hc h1 h2
      go_wp2_with fail
      refine (nan_any _ _).mono ?_
      rintro e w1 ⟨rfl, rfl⟩
      go_wp2_with fail
      refine (nan_any _ _).mono ?_
      rintro e w1 ⟨rfl, rfl⟩
      go_wp2_with fail
      go_ret
      rw [HC.out]
      exact ⟨rfl, rfl⟩
    · have t2 : decide (y < x) = false := by simp [h2]
      have hc : cmpI x y = 0 := by simp [cmpI, h1, h2]
      have HC := Lib.hid hc; clear hc h1 h2
      go_wp2_with fail
      refine (nan_any _ _).mono ?_
      rintro e w1 ⟨rfl, rfl⟩
      go_wp2_with fail
      refine (nan_any _ _).mono ?_
      rintro e w1 ⟨rfl, rfl⟩
      go_wp2_with fail
      go_ret
      rw [HC.out]
      exact ⟨rfl, rfl⟩

theorem key_any (x y k : Int) (w : World) : Calls Try.prog 117 #[.agg #[.int .i64 x, .int .i64 y], .int .i64 k] w fun e w' => e = .returned (.int .i64 (cmpI x k)) ∧ w' = w.alloc (.cells #[.int .i64 x, .int .i64 y] 151) := by
  go_enter Try.func117, Try.ntmps117
  go_wp2_with fail
  refine (compare_any _ _ _).mono ?_
  rintro e w1 ⟨rfl, rfl⟩
  go_wp2_with fail
  go_ret
  exact ⟨rfl, rfl⟩
end Go.Proofs.Ytekhoanjpnjaeaa

/- slices.BinarySearchFunc at table's entries (116), find (76), Len (33), Get (31). -/
namespace Go.Proofs.Ytekhoanjpnjaeaa
open Go.RowKit

/-- Keys ascend. -/
def Asc (l : List (Int × Int)) : Prop := l.Pairwise fun x y => x.1 < y.1
/-- p is the place of the key k. -/
def PlaceOf (l : List (Int × Int)) (k : Int) (p : Nat) : Prop := p ≤ l.length ∧ (∀ i (h : i < l.length), i < p → l[i].1 < k) ∧ ∀ i (h : i < l.length), p ≤ i → k ≤ l[i].1

set_option maxRecDepth 100000 in
theorem search_any (S : Nat → Prop) (l : List (Int × Int)) (k : Int) (v : Value) (w : World) (hl : l.length < 4294967296) (hasc : Asc l) (h : Row S w 2 l.length v (flat2 l)) :
    Calls Try.prog 116 #[v, .int .i64 k, .func (.func 117) #[] #[]] w fun e w' => Below w.heap.size w w' ∧ ∃ p, PlaceOf l k p ∧ e = .returned (.tuple #[.int .i64 p, .bool (l[p]?.map (·.1) == some k)]) := by
  obtain ⟨a, cap, rfl, hcap⟩ := h.shape
  have HR := Lib.hid h; clear h
  have HA := Lib.hid hasc; clear hasc
  go_enter Try.func116, Try.ntmps116
  go_wp2_with fail
  go_loopw [9, 10] (fun i j wr => ∃ lo hi : Nat, lo ≤ hi ∧ hi ≤ l.length ∧ i = .int .i64 lo ∧ j = .int .i64 hi ∧ Hid (Below w.heap.size w wr) ∧ Hid ((∀ i (h : i < l.length), i < lo → l[i].1 < k) ∧ ∀ i (h : i < l.length), hi ≤ i → k ≤ l[i].1)) (fun i j _ => (intOf j).toNat - (intOf i).toNat)
  case atStart => exact ⟨0, l.length, Nat.zero_le _, Nat.le_refl _, rfl, rfl, Lib.hid (Below.refl _ _), Lib.hid ⟨fun _ _ h => absurd h (Nat.not_lt_zero _), fun i h h' => by omega⟩⟩
  case round =>
    obtain ⟨lo, hi, hlo, hhi, rfl, rfl, HB, HP⟩ := hrel
    by_cases hlt : lo < hi
    · obtain ⟨m, hm⟩ : ∃ m : Nat, ((lo : Int) + hi) / 2 = m := ⟨(lo + hi) / 2, by omega⟩
      have hml : m < l.length := by omega
      have hm1 : lo ≤ m := by omega
      have hm2 : m < hi := by omega
      go_wp2_with fail
      clear hm
      obtain ⟨b, off, rfl, _, _, hc⟩ := HR.out.at (by omega)
      have g0 := below_cell HB.out (hc _ _ (flat2_get l m hml).1)
      have g1 := below_cell HB.out (hc _ _ (flat2_get l m hml).2)
      rw [← Nat.add_assoc] at g1
      clear hc
      have HM := Lib.hid (show l[m] = l[m] from rfl)
      go_wp2_with fail
      refine (key_any _ _ _ _).mono ?_
      rintro e w1 ⟨rfl, hw1⟩
      have HB1 := Lib.hid (show Below w.heap.size w w1 by rw [hw1]; exact HB.out.alloc HB.out.size _); clear hw1
      by_cases hk : l[m].1 < k
      · have t1 : decide (cmpI l[m].1 k < 0) = true := by simp [cmpI_neg, hk]
        have HK := Lib.hid hk; clear hk
        go_wp2_with fail
        go_roundw
        case rel => exact ⟨m + 1, hi, by omega, hhi, by go_num, rfl, HB1, Lib.hid ⟨fun i h h' => by
          by_cases e : i = m
          · subst e; exact HK.out
          · have := List.pairwise_iff_getElem.1 HA.out i m h hml (by omega); have := HK.out; omega, HP.out.2⟩⟩
        case measure => simp [intOf]; omega
      · have t1 : decide (cmpI l[m].1 k < 0) = false := by simp [cmpI_neg, hk]
        have HK := Lib.hid hk; clear hk
        go_wp2_with fail
        go_roundw
        case rel => exact ⟨lo, m, hm1, by omega, rfl, rfl, HB1, Lib.hid ⟨HP.out.1, fun i h h' => by
          by_cases e : i = m
          · subst e; have := HK.out; omega
          · have := List.pairwise_iff_getElem.1 HA.out m i hml h (by omega); have := HK.out; omega⟩⟩
        case measure => simp [intOf]; omega
    · obtain rfl : hi = lo := by omega
      by_cases hin : hi < l.length
      · obtain ⟨b, off, rfl, _, _, hc⟩ := HR.out.at (by omega)
        have g0 := below_cell HB.out (hc _ _ (flat2_get l hi hin).1)
        have g1 := below_cell HB.out (hc _ _ (flat2_get l hi hin).2)
        rw [← Nat.add_assoc] at g1
        clear hc
        have HE := Lib.hid (show (l[hi]?.map (·.1) == some k) = decide (cmpI l[hi].1 k = 0) by rw [List.getElem?_eq_getElem hin]; simp only [Option.map_some, cmpI_zero]; exact Bool.eq_iff_iff.2 (by simp))
        go_wp2_with fail
        refine (key_any _ _ _ _).mono ?_
        rintro e w1 ⟨rfl, hw1⟩
        have HB1 := Lib.hid (show Below w.heap.size w w1 by rw [hw1]; exact HB.out.alloc HB.out.size _); clear hw1
        go_wp2_with fail
        go_ret2
        exact ⟨HB1.out, hi, ⟨hhi, HP.out⟩, by rw [HE.out]; rfl⟩
      · have HE := Lib.hid (show (l[hi]?.map (·.1) == some k) = false by rw [List.getElem?_eq_none (by omega)]; rfl)
        go_wp2_with fail
        go_ret2
        exact ⟨HB.out, hi, ⟨hhi, HP.out⟩, by rw [HE.out]; rfl⟩
end Go.Proofs.Ytekhoanjpnjaeaa

/- table.find (76), Len (33), Get (31). -/
namespace Go.Proofs.Ytekhoanjpnjaeaa
open Go.RowKit

theorem find_any (S : Nat → Prop) (l : List (Int × Int)) (k : Int) (v : Value) (w : World) (hl : l.length < 4294967296) (hasc : Asc l) (h : Row S w 2 l.length v (flat2 l)) :
    Calls Try.prog 76 #[.agg #[v], .int .i64 k] w fun e w' => Below w.heap.size w w' ∧ ∃ p, PlaceOf l k p ∧ e = .returned (.tuple #[.int .i64 p, .bool (l[p]?.map (·.1) == some k)]) := by
  obtain ⟨a, cap, rfl, hcap⟩ := h.shape
  have HR := Lib.hid h; clear h
  have HA := Lib.hid hasc; clear hasc
  go_enter Try.func76, Try.ntmps76
  go_wp2_with fail
  generalize hw2 : w.alloc (.cells #[.slice a l.length cap] 54) = w2
  have HB := Lib.hid (show Below w.heap.size w w2 by rw [← hw2]; exact (Below.refl _ _).alloc (Nat.le_refl _) _)
  clear hw2
  refine (search_any S l k (.slice a l.length cap) w2 hl HA.out (HR.out.below HB.out)).mono ?_
  rintro e w3 ⟨hb3, p, hp, rfl⟩
  have HB3 := Lib.hid (And.intro (HB.out.trans (hb3.mono HB.out.size)) hp); clear hb3 hp
  generalize hq : (l[p]?.map (·.1) == some k) = q
  have HQ := Lib.hid hq; clear hq
  go_wp2_with fail
  go_ret2
  exact ⟨HB3.out.1, p, HB3.out.2, by rw [HQ.out]; rfl⟩

theorem len_any (n cap : Nat) (a : Option Addr) (w : World) :
    Calls Try.prog 33 #[.agg #[.slice a n cap]] w fun e w' => e = .returned (.int .i64 n) ∧ w' = w.alloc (.cells #[.slice a n cap] 54) := by
  go_enter Try.func33, Try.ntmps33
  go_wp2_with fail
  go_ret
  exact ⟨rfl, rfl⟩

/-- What Get answers. -/
def getL (l : List (Int × Int)) (k : Int) : Option Int := (l.find? fun x => x.1 == k).map (·.2)
theorem getL_found {l : List (Int × Int)} {k : Int} {p : Nat} (hp : PlaceOf l k p) (h : p < l.length) (e : l[p].1 = k) : getL l k = some l[p].2 := by
  unfold getL
  have : l.find? (fun x => x.1 == k) = some l[p] := by
    rw [List.find?_eq_some_iff_getElem]
    exact ⟨by simp [e], p, h, rfl, fun j hj => by have := hp.2.1 j (by omega) hj; simp; omega⟩
  rw [this]; rfl
theorem getL_none {l : List (Int × Int)} {k : Int} {p : Nat} (hp : PlaceOf l k p) (ha : Asc l) (e : l[p]?.map (·.1) ≠ some k) : getL l k = none := by
  unfold getL
  have : l.find? (fun x => x.1 == k) = none := by
    rw [List.find?_eq_none]
    intro x hx
    obtain ⟨i, hi, rfl⟩ := List.getElem_of_mem hx
    simp only [beq_iff_eq]
    intro he
    by_cases h1 : i < p
    · have := hp.2.1 i hi h1; omega
    · by_cases h2 : i = p
      · subst h2; exact e (by rw [List.getElem?_eq_getElem hi]; simp [he])
      · have h3 := List.pairwise_iff_getElem.1 ha p i (by omega) hi (by omega)
        have := hp.2.2 p (by omega) (Nat.le_refl _)
        omega
  rw [this]; rfl

theorem get_any (S : Nat → Prop) (l : List (Int × Int)) (k : Int) (v : Value) (w : World) (hl : l.length < 4294967296) (hasc : Asc l) (h : Row S w 2 l.length v (flat2 l)) :
    Calls Try.prog 31 #[.agg #[v], .int .i64 k] w fun e w' => Below w.heap.size w w' ∧ e = .returned (.tuple #[.int .i64 ((getL l k).getD 0), .bool (getL l k).isSome]) := by
  obtain ⟨a, cap, rfl, hcap⟩ := h.shape
  have HR := Lib.hid h; clear h
  have HA := Lib.hid hasc; clear hasc
  go_enter Try.func31, Try.ntmps31
  go_wp2_with fail
  generalize hw2 : w.alloc (.cells #[.slice a l.length cap] 54) = w2
  have HB := Lib.hid (show Below w.heap.size w w2 by rw [← hw2]; exact (Below.refl _ _).alloc (Nat.le_refl _) _)
  have s0 : w2.cell? ⟨w.heap.size, 0, none⟩ = some (.slice a l.length cap) := by rw [← hw2]; unfold World.cell?; rw [alloc_last]; rfl
  clear hw2
  refine (find_any S l k (.slice a l.length cap) w2 hl HA.out (HR.out.below HB.out)).mono ?_
  rintro e w3 ⟨hb3, p, hp, rfl⟩
  have r0 := below_cell hb3 s0
  have HB3 := Lib.hid (And.intro (HB.out.trans (hb3.mono HB.out.size)) hp); clear hb3 hp s0
  by_cases hq : l[p]?.map (·.1) = some k
  · have hin : p < l.length := by
      by_cases h : p < l.length
      · exact h
      · rw [List.getElem?_eq_none (by omega)] at hq; cases hq
    have hk : l[p].1 = k := by rw [List.getElem?_eq_getElem hin] at hq; simpa using hq
    have HG := Lib.hid (getL_found HB3.out.2 hin hk)
    have t1 : (l[p]?.map (·.1) == some k) = true := by simp [hq]
    rw [t1]
    clear hq t1 hk
    obtain ⟨b, off, rfl, _, _, hc⟩ := HR.out.at (by omega)
    have g1 := below_cell HB3.out.1 (hc _ _ (flat2_get l p hin).2)
    rw [← Nat.add_assoc] at g1
    clear hc
    go_wp2_with fail
    go_ret2
    exact ⟨HB3.out.1, by rw [HG.out]; rfl⟩
  · have HG := Lib.hid (getL_none HB3.out.2 HA.out hq)
    have t1 : (l[p]?.map (·.1) == some k) = false := by simp [hq]
    rw [t1]
    clear hq t1
    go_wp2_with fail
    go_ret2
    exact ⟨HB3.out.1, by rw [HG.out]; rfl⟩
end Go.Proofs.Ytekhoanjpnjaeaa

