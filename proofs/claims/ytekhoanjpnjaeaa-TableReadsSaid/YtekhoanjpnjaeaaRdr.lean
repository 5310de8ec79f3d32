/- num.Reader: NewReader (88), open (124), take (126), Uint (89), Int (91), Err (90), Left (92). -/
import Derived.Test.YtekhoanjpnjaeaaDecR
import Derived.Test.YtekhoanjpnjaeaaPut
import Derived.Test.YtekhoanjpnjaeaaTV
namespace Go.Proofs.Ytekhoanjpnjaeaa
open Go.RowKit
theorem bV_drop (l : List Int) (p : Nat) : (bV l).drop p = bV (l.drop p) := by unfold bV; rw [List.map_drop]
theorem slice_fromB (a : Option Addr) (n cap p : Nat) (hp : p ≤ n) (hc : n ≤ cap) (hnil : PlainA a cap) : ∃ a', PlainA a' (cap - p) ∧
    (∀ w, (Instr.slice 80 (.slice a n cap) (some (.int .i64 (p : Int))) none none).run Try.prog w = .ok (.slice a' (n - p) (cap - p)) w) ∧
    ∀ S w (l : List Int), l.length = n → Row S w 1 n (.slice a n cap) (bV l) → Row S w 1 (n - p) (.slice a' (n - p) (cap - p)) (bV (l.drop p)) := by
  rcases hnil with ⟨rfl, rfl⟩ | ⟨b, off, rfl⟩
  · obtain rfl : n = 0 := by omega
    obtain rfl : p = 0 := by omega
    exact ⟨none, Or.inl ⟨rfl, rfl⟩, fun w => by simp [go_sem, sliced], fun S w l _ h => by simpa using h⟩
  · by_cases e : cap = p
    · obtain rfl : n = p := by omega
      subst e
      refine ⟨some ⟨b, off, none⟩, Or.inr ⟨b, off, rfl⟩, fun w => ?_, fun S w l hl h => ?_⟩
      · simp [go_sem, sliced]
      · rw [List.drop_of_length_le (by omega), Nat.sub_self]
        exact Row.nil _ _ _ _ _
    · refine ⟨some ⟨b, off + p, none⟩, Or.inr ⟨b, _, rfl⟩, fun w => ?_, fun S w l hl h => ?_⟩
      · simp [go_sem, sliced]
        rw [if_pos (by omega), if_neg e]
      · have := h.drop hp
        rw [Nat.mul_one, bV_drop] at this
        exact this
theorem Byts.drop {l : List Int} (h : Byts l) (p : Nat) : Byts (l.drop p) := fun b hb => h b (List.mem_of_mem_drop hb)

/-- A reader in the block rb: what is left, and its error. -/
def Rd (w : World) (rb : Nat) (l : List Int) (e : Int) : Prop :=
  ∃ a cap, w.heap[rb]? = some (.cells #[.slice a l.length cap, .int .i64 e] 224 (0, 0)) ∧ Row (fun b => b < rb) w 1 l.length (.slice a l.length cap) (bV l) ∧ PlainA a cap ∧ Byts l ∧ l.length ≤ maxLen
theorem Rd.keep {w w' : World} {rb : Nat} {l : List Int} {e : Int} (h : Rd w rb l e) (hk : ∀ b, b ≤ rb → w'.heap[b]? = w.heap[b]?) : Rd w' rb l e := by
  obtain ⟨a, cap, hb, hr, hp, hy, hl⟩ := h
  refine ⟨a, cap, (hk rb (Nat.le_refl _)).trans hb, hr.mono (fun _ h => h) (fun b off u hb hu => ?_), hp, hy, hl⟩
  have hlt : b < rb := hb
  unfold World.cell? at hu ⊢
  rw [hk b (by omega)]
  exact hu
theorem Rd.lt {w : World} {rb : Nat} {l : List Int} {e : Int} (h : Rd w rb l e) : rb < w.heap.size := by
  obtain ⟨a, cap, hb, _⟩ := h; exact (Array.getElem?_eq_some_iff.1 hb).1
theorem Rd.more {w w' : World} {rb : Nat} {l : List Int} {e : Int} (h : Rd w rb l e) (hm : More w w') : Rd w' rb l e :=
  h.keep fun b hb => hm.block (Nat.lt_of_le_of_lt hb h.lt)

theorem open_any (rb : Nat) (l : List Int) (e : Int) (w : World) (h : Rd w rb l e) :
    Calls Try.prog 124 #[.pointer (some ⟨rb, 0, none⟩)] w fun r w' => r = .returned (.bool (e == 0)) ∧ w' = w := by
  obtain ⟨a, cap, hb, _⟩ := h
  have c1 : w.cell? ⟨rb, 1, none⟩ = some (.int .i64 e) := by simp [World.cell?, hb]
  clear hb
  go_enter Try.func124, Try.ntmps124
  go_wp2_with fail
  go_ret
  exact ⟨rfl, rfl⟩
theorem rErr_any (rb : Nat) (l : List Int) (e : Int) (w : World) (h : Rd w rb l e) :
    Calls Try.prog 90 #[.pointer (some ⟨rb, 0, none⟩)] w fun r w' => r = .returned (.int .i64 e) ∧ w' = w := by
  obtain ⟨a, cap, hb, _⟩ := h
  have c1 : w.cell? ⟨rb, 1, none⟩ = some (.int .i64 e) := by simp [World.cell?, hb]
  clear hb
  go_enter Try.func90, Try.ntmps90
  go_wp2_with fail
  go_ret
  exact ⟨rfl, rfl⟩
theorem rLeft_any (rb : Nat) (l : List Int) (e : Int) (w : World) (h : Rd w rb l e) :
    Calls Try.prog 92 #[.pointer (some ⟨rb, 0, none⟩)] w fun r w' => r = .returned (.int .i64 l.length) ∧ w' = w := by
  obtain ⟨a, cap, hb, _⟩ := h
  have c1 : w.cell? ⟨rb, 0, none⟩ = some (.slice a l.length cap) := by simp [World.cell?, hb]
  clear hb
  go_enter Try.func92, Try.ntmps92
  go_wp2_with fail
  go_ret
  exact ⟨rfl, rfl⟩
theorem grown_cell' {w w' : World} {g b o : Nat} {u : Value} (hg : w.grownBy w' (some g)) (hb : b ≠ g) (hu : w.cell? ⟨b, o, none⟩ = some u) : w'.cell? ⟨b, o, none⟩ = some u := by
  have h := hg.block b (cell_lt hu) (fun e => hb (by cases e; rfl))
  unfold World.cell? at hu ⊢
  rw [h]; exact hu
theorem set_block2 {w : World} {rb : Nat} {x y : Value} {t : TypeId} (hb : w.heap[rb]? = some (.cells #[x, y] t (0, 0))) (u : Value) :
    (w.setCell ⟨rb, 0, none⟩ u).heap[rb]? = some (.cells #[u, y] t (0, 0)) ∧ (w.setCell ⟨rb, 1, none⟩ u).heap[rb]? = some (.cells #[x, u] t (0, 0)) := by
  constructor <;> simp [World.setCell, Array.getElem?_modify, hb]
theorem setCell_grown' (w : World) (b o : Nat) (u : Value) : w.grownBy (w.setCell ⟨b, o, none⟩ u) (some b) :=
  ⟨rfl, rfl, rfl, by simp [World.setCell], fun k _ hne => by
    have hk : k ≠ b := fun e => hne (by rw [e])
    rw [Below.heap_setCell _ _ _ _ hk]⟩
theorem grown_below {w w' : World} {rb b : Nat} (h : w.grownBy w' (some rb)) (hlt : b < w.heap.size) (hne : b ≠ rb) : w'.heap[b]? = w.heap[b]? :=
  h.block b hlt (fun e => hne (by cases e; rfl))
set_option maxHeartbeats 1000000 in
theorem take_err (rb n : Nat) (l : List Int) (e0 e : Int) (w : World) (he : e ≠ 0) (h : Rd w rb l e0) :
    Calls Try.prog 126 #[.pointer (some ⟨rb, 0, none⟩), .int .i64 n, .int .i64 e] w fun r w' => r = .returned (.bool false) ∧ w.grownBy w' (some rb) ∧ Rd w' rb l e := by
  obtain ⟨a, cap, hb, hr, hp, hy, hl⟩ := h
  have c1 : w.cell? ⟨rb, 1, none⟩ = some (.int .i64 e0) := by simp [World.cell?, hb]
  have f1 : w.frozen? ⟨rb, 1, none⟩ = false := thaw hb _
  have HRd := Lib.hid (show Rd (w.setCell ⟨rb, 1, none⟩ (.int .i64 e)) rb l e from ⟨a, cap, (set_block2 hb _).2, hr.mono (fun _ h => h) (fun b off u hb' hu => grown_cell' (setCell_grown' w rb 1 _) (by have h3 : b < rb := hb'; omega) hu), hp, hy, hl⟩)
  clear hb hr hp hy hl
  have te : (e != 0) = true := by simpa using he
  clear he
  go_enter Try.func126, Try.ntmps126
  go_wp2_with fail
  go_ret
  exact ⟨rfl, setCell_grown' w rb 1 _, HRd.out⟩
set_option maxHeartbeats 1000000 in
theorem take_ok (rb n : Nat) (l : List Int) (e0 : Int) (w : World) (hn : n ≤ l.length) (h : Rd w rb l e0) :
    Calls Try.prog 126 #[.pointer (some ⟨rb, 0, none⟩), .int .i64 n, .int .i64 0] w fun r w' => r = .returned (.bool true) ∧ w.grownBy w' (some rb) ∧ Rd w' rb (l.drop n) e0 := by
  obtain ⟨a, cap, hb, hr, hp, hy, hl⟩ := h
  obtain ⟨a0, cap0, hs0, hcap⟩ := hr.shape
  cases hs0
  obtain ⟨a', hp', hsl, hrow⟩ := slice_fromB a l.length cap n hn hcap hp
  have c0 : w.cell? ⟨rb, 0, none⟩ = some (.slice a l.length cap) := by simp [World.cell?, hb]
  have f0 : w.frozen? ⟨rb, 0, none⟩ = false := thaw hb _
  have HRd := Lib.hid (show Rd (w.setCell ⟨rb, 0, none⟩ (.slice a' (l.length - n) (cap - n))) rb (l.drop n) e0 from
    ⟨a', cap - n, by rw [List.length_drop]; exact (set_block2 hb _).1, by rw [List.length_drop]; exact (hrow _ w l rfl hr).mono (fun _ h => h) (fun b off u hb' hu => grown_cell' (setCell_grown' w rb 0 _) (by have h3 : b < rb := hb'; omega) hu), hp', hy.drop n, by rw [List.length_drop]; omega⟩)
  clear hb hr hp hy hl hrow hp'
  generalize l.length = m at *
  go_enter Try.func126, Try.ntmps126
  go_wp2_with fail
  go_ret
  exact ⟨rfl, setCell_grown' w rb 0 _, HRd.out⟩
theorem Rd.row {w : World} {rb : Nat} {l : List Int} {e : Int} (h : Rd w rb l e) : ∃ a cap, w.cell? ⟨rb, 0, none⟩ = some (.slice a l.length cap) ∧ Row (fun b => b < rb) w 1 l.length (.slice a l.length cap) (bV l) ∧ Byts l ∧ l.length ≤ maxLen := by
  obtain ⟨a, cap, hb, hr, hp, hy, hl⟩ := h
  exact ⟨a, cap, by simp [World.cell?, hb], hr, hy, hl⟩
set_option maxHeartbeats 1000000 in
theorem rdU_shut (rb : Nat) (l : List Int) (e : Int) (w : World) (he : e ≠ 0) (h : Rd w rb l e) :
    Calls Try.prog 89 #[.pointer (some ⟨rb, 0, none⟩), .int .u64 18446744073709551615] w fun r w' => r = .returned (.int .u64 0) ∧ w' = w := by
  have HD := Lib.hid h; clear h
  have te : (e == 0) = false := beq_eq_false_iff_ne.2 he
  clear he
  go_enter Try.func89, Try.ntmps89
  go_wp2_with fail
  refine (open_any rb l e w HD.out).mono ?_
  rw [te]
  rintro r w' ⟨rfl, rfl⟩
  go_wp2_with fail
  go_ret
  exact ⟨rfl, rfl⟩
set_option maxHeartbeats 1000000 in
theorem rdU_some (rb : Nat) (l : List Int) (w : World) (v n : Nat) (hd : decU l = some (v, n)) (h : Rd w rb l 0) :
    Calls Try.prog 89 #[.pointer (some ⟨rb, 0, none⟩), .int .u64 18446744073709551615] w fun r w' => r = .returned (.int .u64 v) ∧ w.grownBy w' (some rb) ∧ Rd w' rb (l.drop n) 0 := by
  obtain ⟨a, cap, c0, hr, hy, hl⟩ := h.row
  have HD := Lib.hid h; clear h
  have HR := Lib.hid hr; clear hr
  have HU := Lib.hid (decU_bound hy hd)
  have HY := Lib.hid hy; clear hy
  have HE := Lib.hid hd; clear hd
  have hv : (v : Int) ≤ 18446744073709551615 := by have := HU.out.1; omega
  go_enter Try.func89, Try.ntmps89
  go_wp2_with fail
  refine (open_any rb l 0 w HD.out).mono ?_
  rw [show ((0 : Int) == 0) = true from rfl]
  rintro r w' ⟨rfl, rfl⟩
  go_wp2_with fail
  refine (nUint_any _ l _ _ hl HY.out HR.out).mono ?_
  rw [HE.out, numR_some]
  rintro r w' ⟨rfl, rfl⟩
  go_wp2_with fail
  refine (take_ok rb n l 0 _ HU.out.2.2.1 HD.out).mono ?_
  rintro r w2 ⟨rfl, hg, hrd⟩
  have HG := Lib.hid hg; clear hg
  have HRD := Lib.hid hrd; clear hrd
  clear c0
  go_wp2_with fail
  go_ret
  exact ⟨rfl, HG.out, HRD.out⟩
set_option maxHeartbeats 1000000 in
theorem rdU_none (rb : Nat) (l : List Int) (w : World) (hd : decU l = none) (h : Rd w rb l 0) :
    Calls Try.prog 89 #[.pointer (some ⟨rb, 0, none⟩), .int .u64 18446744073709551615] w fun r w' => r = .returned (.int .u64 0) ∧ w.grownBy w' (some rb) ∧ Rd w' rb l 6 := by
  obtain ⟨a, cap, c0, hr, hy, hl⟩ := h.row
  have HD := Lib.hid h; clear h
  have HR := Lib.hid hr; clear hr
  have HY := Lib.hid hy; clear hy
  have HE := Lib.hid hd; clear hd
  go_enter Try.func89, Try.ntmps89
  go_wp2_with fail
  refine (open_any rb l 0 w HD.out).mono ?_
  rw [show ((0 : Int) == 0) = true from rfl]
  rintro r w' ⟨rfl, rfl⟩
  go_wp2_with fail
  refine (nUint_any _ l _ _ hl HY.out HR.out).mono ?_
  rw [HE.out, numR_none]
  rintro r w' ⟨rfl, rfl⟩
  go_wp2_with fail
  refine (take_err rb 0 l 0 6 _ (by decide) HD.out).mono ?_
  rintro r w2 ⟨rfl, hg, hrd⟩
  have HG := Lib.hid hg; clear hg
  have HRD := Lib.hid hrd; clear hrd
  clear c0
  go_wp2_with fail
  go_ret
  exact ⟨rfl, HG.out, HRD.out⟩
set_option maxHeartbeats 1000000 in
theorem rdI_shut (rb : Nat) (l : List Int) (e : Int) (w : World) (he : e ≠ 0) (h : Rd w rb l e) :
    Calls Try.prog 91 #[.pointer (some ⟨rb, 0, none⟩)] w fun r w' => r = .returned (.int .i64 0) ∧ w' = w := by
  have HD := Lib.hid h; clear h
  have te : (e == 0) = false := beq_eq_false_iff_ne.2 he
  clear he
  go_enter Try.func91, Try.ntmps91
  go_wp2_with fail
  refine (open_any rb l e w HD.out).mono ?_
  rw [te]
  rintro r w' ⟨rfl, rfl⟩
  go_wp2_with fail
  go_ret
  exact ⟨rfl, rfl⟩
set_option maxHeartbeats 1000000 in
theorem rdI_some (rb : Nat) (l : List Int) (w : World) (v n : Nat) (hd : decU l = some (v, n)) (h : Rd w rb l 0) :
    Calls Try.prog 91 #[.pointer (some ⟨rb, 0, none⟩)] w fun r w' => r = .returned (.int .i64 (uz v)) ∧ w.grownBy w' (some rb) ∧ Rd w' rb (l.drop n) 0 := by
  obtain ⟨a, cap, c0, hr, hy, hl⟩ := h.row
  have HD := Lib.hid h; clear h
  have HR := Lib.hid hr; clear hr
  have HU := Lib.hid (decU_bound hy hd)
  have HY := Lib.hid hy; clear hy
  have HE := Lib.hid hd; clear hd
  go_enter Try.func91, Try.ntmps91
  go_wp2_with fail
  refine (open_any rb l 0 w HD.out).mono ?_
  rw [show ((0 : Int) == 0) = true from rfl]
  rintro r w' ⟨rfl, rfl⟩
  go_wp2_with fail
  refine (nInt_any _ l _ _ hl HY.out HR.out).mono ?_
  rw [HE.out, show intR (some (v, n)) = .tuple #[.int .i64 (uz v), .int .i64 n, .int .i64 0] from rfl]
  rintro r w' ⟨rfl, rfl⟩
  go_wp2_with fail
  refine (take_ok rb n l 0 _ HU.out.2.2.1 HD.out).mono ?_
  rintro r w2 ⟨rfl, hg, hrd⟩
  have HG := Lib.hid hg; clear hg
  have HRD := Lib.hid hrd; clear hrd
  clear c0
  go_wp2_with fail
  go_ret
  exact ⟨rfl, HG.out, HRD.out⟩
set_option maxHeartbeats 1000000 in
theorem rdI_none (rb : Nat) (l : List Int) (w : World) (hd : decU l = none) (h : Rd w rb l 0) :
    Calls Try.prog 91 #[.pointer (some ⟨rb, 0, none⟩)] w fun r w' => r = .returned (.int .i64 0) ∧ w.grownBy w' (some rb) ∧ Rd w' rb l 6 := by
  obtain ⟨a, cap, c0, hr, hy, hl⟩ := h.row
  have HD := Lib.hid h; clear h
  have HR := Lib.hid hr; clear hr
  have HY := Lib.hid hy; clear hy
  have HE := Lib.hid hd; clear hd
  go_enter Try.func91, Try.ntmps91
  go_wp2_with fail
  refine (open_any rb l 0 w HD.out).mono ?_
  rw [show ((0 : Int) == 0) = true from rfl]
  rintro r w' ⟨rfl, rfl⟩
  go_wp2_with fail
  refine (nInt_any _ l _ _ hl HY.out HR.out).mono ?_
  rw [HE.out, show intR none = .tuple #[.int .i64 0, .int .i64 0, .int .i64 6] from rfl]
  rintro r w' ⟨rfl, rfl⟩
  go_wp2_with fail
  refine (take_err rb 0 l 0 6 _ (by decide) HD.out).mono ?_
  rintro r w2 ⟨rfl, hg, hrd⟩
  have HG := Lib.hid hg; clear hg
  have HRD := Lib.hid hrd; clear hrd
  clear c0
  go_wp2_with fail
  go_ret
  exact ⟨rfl, HG.out, HRD.out⟩
set_option maxHeartbeats 1000000 in
theorem newR_any (S : Nat → Prop) (l : List Int) (v : Value) (w : World) (hl : l.length ≤ 140737488355328) (hy : Byts l) (h : ByV S w l v) :
    Calls Try.prog 88 #[v] w fun r w' => ∃ rb, r = .returned (.pointer (some ⟨rb, 0, none⟩)) ∧ More w w' ∧ w.heap.size ≤ rb ∧ Rd w' rb l 0 := by
  obtain ⟨a, cap, rfl, hr, hp⟩ := h
  have HR := Lib.hid (show ByV S w l (.slice a l.length cap) from ⟨a, cap, rfl, hr, hp⟩)
  have HY := Lib.hid hy; clear hy hr
  obtain ⟨i0, hi0, hz0, hz1, hz2⟩ := info_parts Try.info5
  have HW1 := Lib.hid (show (w.alloc (.cells #[] 5)).ownsRow w.heap.size 5 1 (.slice (some ⟨w.heap.size, 0, none⟩) 0 0) 0 [] from ⟨rfl, Or.inr ⟨w.heap.size, 0, #[], rfl, Nat.le_refl _, alloc_last _ _, Nat.le_refl _, by unfold maxLen; omega, rfl, rfl⟩⟩)
  have hma : More w (w.alloc (.cells #[] 5)) := World.grownBy_alloc _ _ _
  have HMA := Lib.hid hma; clear hma
  have HM1 := Lib.hid (show 0 + l.length ≤ maxLen by unfold maxLen; omega)
  have HM2 := Lib.hid (show (0 + l.length) * 1 ≤ 140737488355328 by omega)
  have HLL := Lib.hid hl; clear hl
  have HF1 := Lib.hid (show (bV l).length = l.length * 1 by rw [bV_length]; omega)
  have HF2 := Lib.hid (bV_one l)
  have HBS := Lib.hid (show w.heap.size ≤ (w.alloc (.cells #[] 5)).heap.size by simp)
  cases a with
  | none =>
    obtain ⟨rfl, _, rfl⟩ := HR.out.none'
    go_enter Try.func88, Try.ntmps88
    go_wp2_with (at_builtin; refine wpList_append_own_none rfl _ _ _ rfl w.heap.size 5 i0 1 Try.underlying80 hi0 (.slice (some ⟨w.heap.size, 0, none⟩) 0 0) 0 [] rfl HW1.out rfl ?_)
    go_wp2_with fail
    go_ret
    refine ⟨w.heap.size + 1, rfl, ?_, by omega, some ⟨w.heap.size, 0, none⟩, 0, ?_, ?_, Or.inr ⟨_, _, rfl⟩, HY.out, by simp [maxLen]⟩
    · exact more_trans HMA.out (World.grownBy_alloc _ _ _)
    · exact alloc_at _ _ (by simp)
    · exact Row.nil _ _ _ _ _
  | some ad =>
    have HNEW := Lib.hid (show ∀ i u, (bV l)[i]? = some u → (w.alloc (.cells #[] 5)).cell? (ad.add i) = some u from (HR.out.below HMA.out.below).news)
    go_enter Try.func88, Try.ntmps88
    go_wp2_with (at_builtin; refine wpList_append_own _ rfl _ _ _ rfl w.heap.size 5 i0 _ 1 1 Try.underlying80 hi0 hz0 hz1 hz2 rfl (by omega) (.slice (some ⟨w.heap.size, 0, none⟩) 0 0) 0 [] rfl HW1.out ad l.length cap (bV l) rfl HF1.out HNEW.out HF2.out HM1.out HM2.out HBS.out ?_; intro v2 w3 hown2 hgrow2 hold2; rw [Nat.zero_add, List.nil_append] at hown2; obtain ⟨oa, ocap, rfl, hoo⟩ := owns_shape hown2; have HO2 := Lib.hid hown2; have HG2 := Lib.hid hgrow2; clear hown2 hgrow2 hold2 hoo)
    go_ret
    have hM3 : More w w3 := more_of (HMA.out.below.grown HG2.out HBS.out (fun y hy => by cases hy; exact Nat.le_refl _))
    have hA : More w3 (w3.alloc (.cells #[.slice oa l.length ocap, .int .i64 0] 224)) := World.grownBy_alloc _ _ _
    refine ⟨w3.heap.size, rfl, more_trans hM3 hA, hM3.size, oa, ocap, alloc_last _ _, ?_, plain_owns HO2.out, HY.out, by have := HLL.out; unfold maxLen; omega⟩
    exact (row_lt (by omega) (Row.of_owns HO2.out)).below hA.below
end Go.Proofs.Ytekhoanjpnjaeaa
