/- Texts RdsG, RdtG, laid together. -/
import Derived.Test.YtemeppfikpafbaaRi
import Derived.Test.YtemeppfikpafbaaRba
/- num.Reader at any state: Uint (107) with a bound, Byte (105), Int (161), Err (160), End (111). -/
namespace Go.Proofs.Ytemeppfikpafbaa
open Go.RowKit
/-- What is left to be read, and the error. -/
abbrev RS := List Int × Int
def rByte (s : RS) : Int × RS := if s.2 = 0 then (match s.1 with | [] => (0, ([], 6)) | b :: r => (b, (r, 0))) else (0, s)
def rUint (most : Nat) (s : RS) : Nat × RS := if s.2 = 0 then (match decU s.1 with | none => (0, (s.1, 6)) | some (v, n) => if v ≤ most then (v, (s.1.drop n, 0)) else (0, (s.1, 2))) else (0, s)
def rInt (s : RS) : Int × RS := if s.2 = 0 then (match decU s.1 with | none => (0, (s.1, 6)) | some (v, n) => (uz v, (s.1.drop n, 0))) else (0, s)
def rEnd (s : RS) : Int := if s.2 = 0 then (if s.1 = [] then 0 else 6) else s.2
abbrev RdS (w : World) (rb : Nat) (s : RS) : Prop := Rd w rb s.1 s.2
set_option maxRecDepth 100000 in
set_option maxHeartbeats 2000000 in
theorem rdUint_any (rb : Nat) (s : RS) (most : Nat) (w : World) (_hm : most < 18446744073709551616) (h : RdS w rb s) :
    Calls Try.prog 107 #[.pointer (some ⟨rb, 0, none⟩), .int .u64 most] w fun r w' => r = .returned (.int .u64 (rUint most s).1) ∧ w.grownBy w' (some rb) ∧ RdS w' rb (rUint most s).2 := by
  obtain ⟨l, e⟩ := s
  have h : Rd w rb l e := h
  unfold rUint
  dsimp only
  by_cases he : e = 0
  · subst he
    rw [if_pos rfl]
    obtain ⟨a, cap, c0, hr, hy, hl⟩ := h.row
    have HD := Lib.hid h; clear h
    have HR := Lib.hid hr; clear hr
    cases hd : decU l with
    | none =>
      dsimp only
      have HY := Lib.hid hy; clear hy
      have HE := Lib.hid hd; clear hd
      go_enter Try.func107, Try.ntmps107
      go_wp2_with fail
      refine (open_any rb l 0 w HD.out).mono ?_
      rw [show ((0 : Int) == 0) = true from rfl]
      rintro r w' ⟨rfl, rfl⟩
      go_wp2_with fail
      refine (nUint_any _ l _ _ hl HY.out HR.out).mono ?_
      rw [HE.out, numR_none]
      rintro r w' ⟨rfl, rfl⟩
      go_wp2_with fail
      refine (take_err rb 0 l 0 6 _ (by decide) HD.out).mono ?_
      rintro r w2 ⟨rfl, hg, hrd⟩
      have HG := Lib.hid hg; clear hg
      have HRD := Lib.hid hrd; clear hrd
      clear c0
      go_wp2_with fail
      go_ret
      exact ⟨rfl, HG.out, HRD.out⟩
    | some vn =>
      obtain ⟨v, n⟩ := vn
      dsimp only
      have HU := Lib.hid (decU_bound hy hd)
      have HY := Lib.hid hy; clear hy
      have HE := Lib.hid hd; clear hd
      by_cases hv : v ≤ most
      · rw [if_pos hv]
        have hv' : (v : Int) ≤ most := by omega
        clear hv
        go_enter Try.func107, Try.ntmps107
        go_wp2_with fail
        refine (open_any rb l 0 w HD.out).mono ?_
        rw [show ((0 : Int) == 0) = true from rfl]
        rintro r w' ⟨rfl, rfl⟩
        go_wp2_with fail
        refine (nUint_any _ l _ _ hl HY.out HR.out).mono ?_
        rw [HE.out, numR_some]
        rintro r w' ⟨rfl, rfl⟩
        go_wp2_with fail
        refine (take_ok rb n l 0 _ HU.out.2.2.1 HD.out).mono ?_
        rintro r w2 ⟨rfl, hg, hrd⟩
        have HG := Lib.hid hg; clear hg
        have HRD := Lib.hid hrd; clear hrd
        clear c0
        go_wp2_with fail
        go_ret
        exact ⟨rfl, HG.out, HRD.out⟩
      · rw [if_neg hv]
        have hv' : (most : Int) < v := by omega
        clear hv
        go_enter Try.func107, Try.ntmps107
        go_wp2_with fail
        refine (open_any rb l 0 w HD.out).mono ?_
        rw [show ((0 : Int) == 0) = true from rfl]
        rintro r w' ⟨rfl, rfl⟩
        go_wp2_with fail
        refine (nUint_any _ l _ _ hl HY.out HR.out).mono ?_
        rw [HE.out, numR_some]
        rintro r w' ⟨rfl, rfl⟩
        go_wp2_with fail
        refine (take_err rb n l 0 2 _ (by decide) HD.out).mono ?_
        rintro r w2 ⟨rfl, hg, hrd⟩
        have HG := Lib.hid hg; clear hg
        have HRD := Lib.hid hrd; clear hrd
        clear c0
        go_wp2_with fail
        go_ret
        exact ⟨rfl, HG.out, HRD.out⟩
  · rw [if_neg he]
    dsimp only
    have HD := Lib.hid h; clear h
    have te : (e == 0) = false := beq_eq_false_iff_ne.2 he
    clear he
    go_enter Try.func107, Try.ntmps107
    go_wp2_with fail
    refine (open_any rb l e w HD.out).mono ?_
    rw [te]
    rintro r w' ⟨rfl, rfl⟩
    go_wp2_with fail
    go_ret
    exact ⟨rfl, World.grownBy.refl _ _, HD.out⟩
theorem rdInt_any (rb : Nat) (s : RS) (w : World) (h : RdS w rb s) :
    Calls Try.prog 161 #[.pointer (some ⟨rb, 0, none⟩)] w fun r w' => r = .returned (.int .i64 (rInt s).1) ∧ w.grownBy w' (some rb) ∧ RdS w' rb (rInt s).2 := by
  obtain ⟨l, e⟩ := s
  have h : Rd w rb l e := h
  unfold rInt
  dsimp only
  by_cases he : e = 0
  · subst he
    rw [if_pos rfl]
    cases hd : decU l with
    | none => exact rdI_none rb l w hd h
    | some vn => exact rdI_some rb l w vn.1 vn.2 hd h
  · rw [if_neg he]
    exact (rdI_shut rb l e w he h).mono fun r w' hh => ⟨hh.1, by rw [hh.2]; exact World.grownBy.refl _ _, by rw [hh.2]; exact h⟩
set_option maxRecDepth 100000 in
set_option maxHeartbeats 2000000 in
theorem rdByte_any (rb : Nat) (s : RS) (w : World) (h : RdS w rb s) :
    Calls Try.prog 105 #[.pointer (some ⟨rb, 0, none⟩)] w fun r w' => r = .returned (.int .u8 (rByte s).1) ∧ w.grownBy w' (some rb) ∧ RdS w' rb (rByte s).2 := by
  obtain ⟨l, e⟩ := s
  have h : Rd w rb l e := h
  unfold rByte
  dsimp only
  by_cases he : e = 0
  · subst he
    rw [if_pos rfl]
    have HD := Lib.hid h
    obtain ⟨a, cap, hb, hr, hp, hy, hl⟩ := h
    have c0 : w.cell? ⟨rb, 0, none⟩ = some (.slice a l.length cap) := by simp [World.cell?, hb]
    have f0 : w.frozen? ⟨rb, 0, none⟩ = false := thaw hb _
    have c1 : w.cell? ⟨rb, 1, none⟩ = some (.int .i64 0) := by simp [World.cell?, hb]
    have f1 : w.frozen? ⟨rb, 1, none⟩ = false := thaw hb _
    cases l with
    | nil =>
      dsimp only
      have HRd := Lib.hid (show Rd (w.setCell ⟨rb, 1, none⟩ (.int .i64 6)) rb [] 6 from ⟨a, cap, (set_block2 hb _).2, hr.mono (fun _ h => h) (fun b off u hb' hu => grown_cell' (setCell_grown' w rb 1 _) (by have h3 : b < rb := hb'; omega) hu), hp, hy, hl⟩)
      clear hb hr hp hy hl
      have hc0 : w.cell? ⟨rb, 0, none⟩ = some (.slice a 0 cap) := c0
      clear c0
      have hbr := cell_lt hc0
      go_enter Try.func105, Try.ntmps105
      go_wp2_with fail
      refine (open_any rb [] 0 w HD.out).mono ?_
      rw [show ((0 : Int) == 0) = true from rfl]
      rintro r w' ⟨rfl, rfl⟩
      go_wp2_with fail
      go_ret
      exact ⟨rfl, setCell_grown' _ rb 1 _, HRd.out⟩
    | cons x t =>
      dsimp only
      obtain ⟨a0, cap0, hs0, hcap⟩ := hr.shape
      cases hs0
      obtain ⟨a', hp', hsl, hrow⟩ := slice_fromB a (x :: t).length cap 1 (by simp) hcap hp
      obtain ⟨b, off, rfl, _, _, hc⟩ := hr.at (by simp)
      have g0 := hc 0 (.int .u8 x) rfl
      rw [Nat.add_zero] at g0
      have hbg := cell_lt g0
      have HRd := Lib.hid (show Rd (w.setCell ⟨rb, 0, none⟩ (.slice a' ((x :: t).length - 1) (cap - 1))) rb t 0 from
        ⟨a', cap - 1, (set_block2 hb _).1, (hrow _ w (x :: t) rfl hr).mono (fun _ h => h) (fun b off u hb' hu => grown_cell' (setCell_grown' w rb 0 _) (by have h3 : b < rb := hb'; omega) hu), hp', fun y hm => hy y (List.mem_cons_of_mem _ hm), by simp only [List.length_cons] at hl; omega⟩)
      have hbr := cell_lt c0
      have hln : (((x :: t).length : Int) == 0) = false := beq_eq_false_iff_ne.2 (by simp only [List.length_cons]; omega)
      have hl0 : (0 : Int) < (x :: t).length := by simp only [List.length_cons]; omega
      have hl1 : 1 ≤ (x :: t).length := by simp
      have hsl1 : ∀ w, (Instr.slice 92 (.slice (some ⟨b, off, none⟩) (x :: t).length cap) (some (.int .i64 1)) none none).run Try.prog w = .ok (.slice a' ((x :: t).length - 1) (cap - 1)) w := hsl
      clear hb hr hp hy hl hrow hp' hc hsl
      generalize (x :: t).length = m at *
      go_enter Try.func105, Try.ntmps105
      go_wp2_with fail
      refine (open_any rb (x :: t) 0 w HD.out).mono ?_
      rw [show ((0 : Int) == 0) = true from rfl]
      rintro r w' ⟨rfl, rfl⟩
      go_wp2_with fail
      go_ret
      exact ⟨rfl, setCell_grown' _ rb 0 _, HRd.out⟩
  · rw [if_neg he]
    dsimp only
    have HD := Lib.hid h; clear h
    have te : (e == 0) = false := beq_eq_false_iff_ne.2 he
    clear he
    go_enter Try.func105, Try.ntmps105
    go_wp2_with fail
    refine (open_any rb l e w HD.out).mono ?_
    rw [te]
    rintro r w' ⟨rfl, rfl⟩
    go_wp2_with fail
    go_ret
    exact ⟨rfl, World.grownBy.refl _ _, HD.out⟩
set_option maxRecDepth 100000 in
set_option maxHeartbeats 2000000 in
theorem rdEnd_any (rb : Nat) (s : RS) (w : World) (h : RdS w rb s) :
    Calls Try.prog 111 #[.pointer (some ⟨rb, 0, none⟩)] w fun r w' => r = .returned (.int .i64 (rEnd s)) ∧ w' = w := by
  obtain ⟨l, e⟩ := s
  have h : Rd w rb l e := h
  unfold rEnd
  dsimp only
  have HD := Lib.hid h
  obtain ⟨a, cap, c0, _, _, _⟩ := h.row
  clear h
  by_cases he : e = 0
  · subst he
    rw [if_pos rfl]
    cases l with
    | nil =>
      rw [if_pos rfl]
      have hc0 : w.cell? ⟨rb, 0, none⟩ = some (.slice a 0 cap) := c0
      clear c0
      go_enter Try.func111, Try.ntmps111
      go_wp2_with fail
      refine (rErr_any rb [] 0 w HD.out).mono ?_
      rintro r w' ⟨rfl, rfl⟩
      go_wp2_with fail
      go_ret
      exact ⟨rfl, rfl⟩
    | cons x t =>
      rw [if_neg (by simp)]
      have hln : (((x :: t).length : Int) == 0) = false := beq_eq_false_iff_ne.2 (by simp only [List.length_cons]; omega)
      generalize (x :: t).length = m at *
      go_enter Try.func111, Try.ntmps111
      go_wp2_with fail
      refine (rErr_any rb (x :: t) 0 w HD.out).mono ?_
      rintro r w' ⟨rfl, rfl⟩
      go_wp2_with fail
      go_ret
      exact ⟨rfl, rfl⟩
  · rw [if_neg he]
    have te : (e != 0) = true := by simpa using he
    clear he
    go_enter Try.func111, Try.ntmps111
    go_wp2_with fail
    refine (rErr_any rb l e w HD.out).mono ?_
    rintro r w' ⟨rfl, rfl⟩
    go_wp2_with fail
    go_ret
    exact ⟨rfl, rfl⟩
end Go.Proofs.Ytemeppfikpafbaa

/- num.Bytes (158), Reader.Bytes (108). -/
namespace Go.Proofs.Ytemeppfikpafbaa
open Go.RowKit
theorem slice_midB (b off n v L cap : Nat) (h1 : n + v ≤ L) (h2 : L ≤ cap) : ∃ a', PlainA a' (cap - n) ∧
    (∀ w, (Instr.slice 92 (.slice (some ⟨b, off, none⟩) L cap) (some (.int .i64 (n : Int))) (some (.int .i64 ((n : Int) + v))) none).run Try.prog w = .ok (.slice a' v (cap - n)) w) ∧
    ∀ S w (l : List Int), l.length = L → Row S w 1 L (.slice (some ⟨b, off, none⟩) L cap) (bV l) → Row S w 1 v (.slice a' v (cap - n)) (bV ((l.drop n).take v)) := by
  by_cases e : cap = n
  · obtain rfl : v = 0 := by omega
    refine ⟨some ⟨b, off, none⟩, Or.inr ⟨b, off, rfl⟩, fun w => ?_, fun S w l _ h => ?_⟩
    · simp [go_sem, sliced]
      rw [if_pos (by omega), if_pos e]
    · rw [List.take_zero]
      exact Row.nil _ _ _ _ _
  · refine ⟨some ⟨b, off + n, none⟩, Or.inr ⟨b, _, rfl⟩, fun w => ?_, fun S w l hl h => ?_⟩
    · simp [go_sem, sliced]
      rw [if_pos ⟨by omega, by omega⟩, if_pos (by omega), if_neg e, show ((n : Int) + v).toNat - n = v by omega]
    · have h3 := (h.drop (k := n) (by omega)).take (k := v) (by omega)
      rw [Nat.mul_one, Nat.mul_one, bV_drop] at h3
      have e2 : (bV (l.drop n)).take v = bV ((l.drop n).take v) := by unfold bV; rw [List.map_take]
      rw [e2] at h3
      exact h3
/-- The bytes that are read, and what is left. -/
def rBytes (most : Nat) (s : RS) : List Int × RS :=
  if s.2 = 0 then (match decU s.1 with | none => ([], (s.1, 6)) | some (v, n) => if v ≤ most then (if n + v ≤ s.1.length then ((s.1.drop n).take v, (s.1.drop (n + v), 0)) else ([], (s.1, 6))) else ([], (s.1, 3))) else ([], s)
set_option maxRecDepth 100000 in
set_option maxHeartbeats 2000000 in
theorem nBytes_none (S : Nat → Prop) (l : List Int) (v : Value) (most : Nat) (w : World) (hl : l.length ≤ maxLen) (hb : Byts l) (hd : decU l = none) (h : Row S w 1 l.length v (bV l)) :
    Calls Try.prog 158 #[v, .int .i64 most] w fun e w' => e = .returned (.tuple #[.slice none 0 0, .int .i64 0, .int .i64 6]) ∧ w' = w := by
  obtain ⟨a, cap, rfl, _⟩ := h.shape
  have HR := Lib.hid h; clear h
  have HE := Lib.hid hd; clear hd
  go_enter Try.func158, Try.ntmps158
  go_wp2_with fail
  refine (nUint_any S l _ _ hl hb HR.out).mono ?_
  rw [HE.out, numR_none]
  rintro r w' ⟨rfl, rfl⟩
  go_wp2_with fail
  go_ret3
  exact ⟨rfl, rfl⟩
set_option maxRecDepth 100000 in
set_option maxHeartbeats 2000000 in
theorem nBytes_lim (S : Nat → Prop) (l : List Int) (x : Value) (most v n : Nat) (w : World) (hl : l.length ≤ maxLen) (hb : Byts l) (hd : decU l = some (v, n)) (hm : most ≤ 9223372036854775807) (hv : ¬ v ≤ most) (h : Row S w 1 l.length x (bV l)) :
    Calls Try.prog 158 #[x, .int .i64 most] w fun e w' => e = .returned (.tuple #[.slice none 0 0, .int .i64 0, .int .i64 3]) ∧ w' = w := by
  obtain ⟨a, cap, rfl, _⟩ := h.shape
  have HR := Lib.hid h; clear h
  have HE := Lib.hid hd; clear hd
  have hv' : (most : Int) < v := by omega
  have hw : IntKind.u64.wrap (most : Int) = most := by rw [IntKind.wrap_u64]; omega
  clear hv
  go_enter Try.func158, Try.ntmps158
  go_wp2_with fail
  refine (nUint_any S l _ _ hl hb HR.out).mono ?_
  rw [HE.out, numR_some]
  rintro r w' ⟨rfl, rfl⟩
  go_wp2_with fail
  go_ret3
  exact ⟨rfl, rfl⟩
set_option maxRecDepth 100000 in
set_option maxHeartbeats 2000000 in
theorem nBytes_long (S : Nat → Prop) (l : List Int) (x : Value) (most v n : Nat) (w : World) (hl : l.length ≤ maxLen) (hb : Byts l) (hd : decU l = some (v, n)) (hm : most ≤ 9223372036854775807) (hv : v ≤ most) (hn : ¬ n + v ≤ l.length) (h : Row S w 1 l.length x (bV l)) :
    Calls Try.prog 158 #[x, .int .i64 most] w fun e w' => e = .returned (.tuple #[.slice none 0 0, .int .i64 0, .int .i64 6]) ∧ w' = w := by
  obtain ⟨a, cap, rfl, _⟩ := h.shape
  have HR := Lib.hid h; clear h
  have HE := Lib.hid hd
  have HU := decU_bound hb hd
  clear hd
  have HL := Lib.hid hl
  unfold maxLen at hl
  have hv' : ¬ (most : Int) < v := by omega
  have hw : IntKind.u64.wrap (most : Int) = most := by rw [IntKind.wrap_u64]; omega
  have hw2 : IntKind.i64.wrap ((l.length : Int) - n) = (l.length : Int) - n := by rw [IntKind.wrap_i64]; omega
  have hw3 : IntKind.u64.wrap ((l.length : Int) - n) = (l.length : Int) - n := by rw [IntKind.wrap_u64]; omega
  have hlt : (l.length : Int) - n < v := by omega
  clear hv hn HU hl
  go_enter Try.func158, Try.ntmps158
  go_wp2_with fail
  refine (nUint_any S l _ _ HL.out hb HR.out).mono ?_
  rw [HE.out, numR_some]
  rintro r w' ⟨rfl, rfl⟩
  go_wp2_with fail
  go_ret3
  exact ⟨rfl, rfl⟩
set_option maxRecDepth 100000 in
set_option maxHeartbeats 2000000 in
theorem nBytes_ok (l : List Int) (x : Value) (most v n : Nat) (w : World) (hl : l.length ≤ maxLen) (hb : Byts l) (hd : decU l = some (v, n)) (hm : most ≤ 9223372036854775807) (hv : v ≤ most) (hn : n + v ≤ l.length) (hv2 : v ≤ 140737488355328) (h : Row anyB w 1 l.length x (bV l)) :
    Calls Try.prog 158 #[x, .int .i64 most] w fun e w' => (∃ bv, e = .returned (.tuple #[bv, .int .i64 ((n : Int) + v), .int .i64 0]) ∧ w'.ownsRow w.heap.size 5 1 bv ((l.drop n).take v).length (bV ((l.drop n).take v))) ∧ Below w.heap.size w w' := by
  obtain ⟨a, cap, rfl, hcap⟩ := h.shape
  have HU := decU_bound hb hd
  obtain ⟨b, off, rfl, _, _, _⟩ := h.at (by omega)
  obtain ⟨a', hp', hsl, hrow⟩ := slice_midB b off n v l.length cap hn hcap
  have HSEG := Lib.hid (hrow anyB w l rfl h)
  have HPL := Lib.hid hp'; clear hp' hrow
  have HR := Lib.hid h; clear h
  have HE := Lib.hid hd
  clear hd
  obtain ⟨i0, hi0, hz0, hz1, hz2⟩ := info_parts infoB
  have HW1 := Lib.hid (show (w.alloc (.cells #[] 5)).ownsRow w.heap.size 5 1 (.slice (some ⟨w.heap.size, 0, none⟩) 0 0) 0 [] from ⟨rfl, Or.inr ⟨w.heap.size, 0, #[], rfl, Nat.le_refl _, alloc_last _ _, Nat.le_refl _, by unfold maxLen; omega, rfl, rfl⟩⟩)
  have HMA := Lib.hid (more_alloc w (.cells #[] 5))
  have HL := Lib.hid hl
  unfold maxLen at hl
  have hv' : ¬ (most : Int) < v := by omega
  have hw : IntKind.u64.wrap (most : Int) = most := by rw [IntKind.wrap_u64]; omega
  have hw2 : IntKind.i64.wrap ((l.length : Int) - n) = (l.length : Int) - n := by rw [IntKind.wrap_i64]; omega
  have hw3 : IntKind.u64.wrap ((l.length : Int) - n) = (l.length : Int) - n := by rw [IntKind.wrap_u64]; omega
  have hlt : ¬ (l.length : Int) - n < v := by omega
  have hw4 : IntKind.i64.wrap (v : Int) = v := by rw [IntKind.wrap_i64]; omega
  have hw5 : IntKind.i64.wrap ((n : Int) + v) = (n : Int) + v := by rw [IntKind.wrap_i64]; omega
  have hseg : ((l.drop n).take v).length = v := by rw [List.length_take, List.length_drop]; omega
  have HM1 := Lib.hid (show 0 + v ≤ maxLen by unfold maxLen; omega)
  have HM2 := Lib.hid (show (0 + v) * 1 ≤ 140737488355328 by omega)
  have HG := Lib.hid hseg
  clear hv hn HU hl
  rw [hseg]
  clear hseg
  generalize (l.drop n).take v = seg at *
  have HS0 := Lib.hid (show w.heap.size ≤ (w.alloc (.cells #[] 5)).heap.size from HMA.out.size)
  have HSG := Lib.hid (show Row anyB (w.alloc (.cells #[] 5)) 1 v (.slice a' v (cap - n)) (bV seg) from HSEG.out.below HMA.out.below)
  have HNI := Lib.hid (show NilA (.slice a' v (cap - n)) from fun m c e => by
    cases e
    rcases HPL.out with ⟨_, h⟩ | ⟨_, _, h⟩
    · exact h
    · cases h)
  go_enter Try.func158, Try.ntmps158
  go_wp2_with fail
  refine (nUint_any anyB l _ _ HL.out hb HR.out).mono ?_
  rw [HE.out, numR_some]
  rintro r w' ⟨rfl, rfl⟩
  go_wp2_with (at_builtin; refine wpList_append_rowC rfl _ _ 92 rfl w'.heap.size 5 i0 _ 1 1 Try.underlying92 hi0 hz0 hz1 hz2 rfl (by omega) (.slice (some ⟨w'.heap.size, 0, none⟩) 0 0) 0 [] rfl HW1.out (.slice a' v (cap - n)) v (bV seg) rfl HSG.out HNI.out (bV_one seg) HM1.out HM2.out HS0.out ?_; intro v2 w2 hown hgrow; rw [Nat.zero_add, List.nil_append] at hown; obtain ⟨ga, gc, rfl, _⟩ := owns_shape hown)
  have HB2 := Lib.hid (show Below w'.heap.size w' w2 from HMA.out.below.grown hgrow HS0.out (fun z hz => (HW1.out.lt z hz).1))
  have HO2 := Lib.hid hown
  clear hown hgrow
  go_wp2_with fail
  go_ret3
  exact ⟨⟨_, rfl, HO2.out⟩, HB2.out⟩
theorem grown_any {w w1 w2 : World} {g : Option Nat} (h : More w w1) (k : w1.grownBy w2 g) : w.grownBy w2 g :=
  ⟨k.os.trans h.os, k.tape.trans h.tape, k.output.trans h.output, Nat.le_trans h.size k.size, fun j hj hne => (k.block j (Nat.lt_of_lt_of_le hj h.size) hne).trans (h.block hj)⟩
theorem grown_trans {w w1 w2 : World} {g : Option Nat} (h : w.grownBy w1 g) (k : w1.grownBy w2 g) : w.grownBy w2 g :=
  ⟨k.os.trans h.os, k.tape.trans h.tape, k.output.trans h.output, Nat.le_trans h.size k.size, fun j hj hne => (k.block j (Nat.lt_of_lt_of_le hj h.size) hne).trans (h.block j hj hne)⟩
set_option maxRecDepth 100000 in
set_option maxHeartbeats 2000000 in
theorem rdBytes_any (rb : Nat) (s : RS) (most : Nat) (w : World) (hm : most ≤ 140737488355328) (h : RdS w rb s) :
    Calls Try.prog 108 #[.pointer (some ⟨rb, 0, none⟩), .int .i64 most] w fun r w' => (∃ bv, r = .returned bv ∧ w'.ownsRow w.heap.size 5 1 bv (rBytes most s).1.length (bV (rBytes most s).1)) ∧ w.grownBy w' (some rb) ∧ RdS w' rb (rBytes most s).2 := by
  obtain ⟨l, e⟩ := s
  have h : Rd w rb l e := h
  unfold rBytes
  dsimp only
  by_cases he : e = 0
  · subst he
    rw [if_pos rfl]
    obtain ⟨a, cap, c0, hr, hy, hl⟩ := h.row
    have HD := Lib.hid h; clear h
    have HR := Lib.hid (hr.mono (S' := anyB) (fun _ _ => trivial) (fun _ _ _ _ h => h)); clear hr
    have HLM := Lib.hid hl
    cases hd : decU l with
    | none =>
      dsimp only
      have HC := Lib.hid (nBytes_none anyB l _ most w HLM.out hy hd HR.out)
      clear hd hy hl
      go_enter Try.func108, Try.ntmps108
      go_wp2_with fail
      refine (open_any rb l 0 w HD.out).mono ?_
      rw [show ((0 : Int) == 0) = true from rfl]
      rintro r w' ⟨rfl, rfl⟩
      go_wp2_with fail
      refine HC.out.mono ?_
      rintro r w' ⟨rfl, rfl⟩
      go_wp2_with fail
      refine (take_err rb 0 l 0 6 _ (by decide) HD.out).mono ?_
      rintro r w2 ⟨rfl, hg, hrd⟩
      have HG := Lib.hid hg; clear hg
      have HRD := Lib.hid hrd; clear hrd
      clear c0
      go_wp2_with fail
      go_ret
      exact ⟨⟨_, rfl, World.ownsRow_nil _ _ _ _⟩, HG.out, HRD.out⟩
    | some vn =>
      obtain ⟨v, n⟩ := vn
      dsimp only
      by_cases hv : v ≤ most
      · rw [if_pos hv]
        by_cases hn : n + v ≤ l.length
        · rw [if_pos hn]
          dsimp only
          have HC := Lib.hid (nBytes_ok l _ most v n w HLM.out hy hd (by omega) hv hn (by omega) HR.out)
          have HU := Lib.hid hn
          have hcast : ((n : Int) + v) = ((n + v : Nat) : Int) := by omega
          rw [hcast] at HC
          clear hd hy hl hv hn hcast
          generalize n + v = m at *
          generalize (l.drop n).take v = seg at *
          go_enter Try.func108, Try.ntmps108
          go_wp2_with fail
          refine (open_any rb l 0 w HD.out).mono ?_
          rw [show ((0 : Int) == 0) = true from rfl]
          rintro r w' ⟨rfl, rfl⟩
          go_wp2_with fail
          refine HC.out.mono ?_
          rintro r w2 ⟨⟨bv, rfl, ho⟩, hb⟩
          have HO := Lib.hid ho
          have HB := Lib.hid (more_of hb)
          obtain ⟨ba, bc, rfl, _⟩ := owns_shape ho
          clear ho hb
          go_wp2_with fail
          refine (take_ok rb m l 0 _ HU.out (HD.out.more HB.out)).mono ?_
          rintro r w3 ⟨rfl, hg, hrd⟩
          have HRD := Lib.hid hrd; clear hrd
          have HOF := Lib.hid (owns_keep HO.out (fun z hz => hg.block z (HO.out.lt z hz).2 (fun e => by
            have h1 := (HO.out.lt z hz).1
            have h2 := HD.out.lt
            have h3 : z = rb := by injection e
            omega)))
          have HG := Lib.hid (grown_any HB.out hg); clear hg
          clear c0
          go_wp2_with fail
          go_ret
          exact ⟨⟨_, rfl, HOF.out⟩, HG.out, HRD.out⟩
        · rw [if_neg hn]
          dsimp only
          have HC := Lib.hid (nBytes_long anyB l _ most v n w HLM.out hy hd (by omega) hv hn HR.out)
          clear hd hy hl hv hn
          go_enter Try.func108, Try.ntmps108
          go_wp2_with fail
          refine (open_any rb l 0 w HD.out).mono ?_
          rw [show ((0 : Int) == 0) = true from rfl]
          rintro r w' ⟨rfl, rfl⟩
          go_wp2_with fail
          refine HC.out.mono ?_
          rintro r w' ⟨rfl, rfl⟩
          go_wp2_with fail
          refine (take_err rb 0 l 0 6 _ (by decide) HD.out).mono ?_
          rintro r w2 ⟨rfl, hg, hrd⟩
          have HG := Lib.hid hg; clear hg
          have HRD := Lib.hid hrd; clear hrd
          clear c0
          go_wp2_with fail
          go_ret
          exact ⟨⟨_, rfl, World.ownsRow_nil _ _ _ _⟩, HG.out, HRD.out⟩
      · rw [if_neg hv]
        dsimp only
        have HC := Lib.hid (nBytes_lim anyB l _ most v n w HLM.out hy hd (by omega) hv HR.out)
        clear hd hy hl hv
        go_enter Try.func108, Try.ntmps108
        go_wp2_with fail
        refine (open_any rb l 0 w HD.out).mono ?_
        rw [show ((0 : Int) == 0) = true from rfl]
        rintro r w' ⟨rfl, rfl⟩
        go_wp2_with fail
        refine HC.out.mono ?_
        rintro r w' ⟨rfl, rfl⟩
        go_wp2_with fail
        refine (take_err rb 0 l 0 3 _ (by decide) HD.out).mono ?_
        rintro r w2 ⟨rfl, hg, hrd⟩
        have HG := Lib.hid hg; clear hg
        have HRD := Lib.hid hrd; clear hrd
        clear c0
        go_wp2_with fail
        go_ret
        exact ⟨⟨_, rfl, World.ownsRow_nil _ _ _ _⟩, HG.out, HRD.out⟩
  · rw [if_neg he]
    dsimp only
    have HD := Lib.hid h; clear h
    have te : (e == 0) = false := beq_eq_false_iff_ne.2 he
    clear he
    go_enter Try.func108, Try.ntmps108
    go_wp2_with fail
    refine (open_any rb l e w HD.out).mono ?_
    rw [te]
    rintro r w' ⟨rfl, rfl⟩
    go_wp2_with fail
    go_ret
    exact ⟨⟨_, rfl, World.ownsRow_nil _ _ _ _⟩, World.grownBy.refl _ _, HD.out⟩
end Go.Proofs.Ytemeppfikpafbaa

