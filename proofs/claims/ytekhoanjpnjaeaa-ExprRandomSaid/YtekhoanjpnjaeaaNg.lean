/- Texts Value, laid together. -/
import Derived.Deep.RegionHeld3
import Derived.Test.YtekhoanjpnjaeaaNd
import Derived.Test.YtekhoanjpnjaeaaNe
import Derived.Test.YtekhoanjpnjaeaaNf
/- scope.value (97). -/
namespace Go.Proofs.Ytekhoanjpnjaeaa
open Go.RowKit

theorem dist_asc : ∀ {l : List (Int × Int)}, Asc l → distL l = l
  | [], _ => rfl
  | x :: r, h => by
    rw [asc_cons] at h
    unfold distL
    rw [if_neg, dist_asc h.2]
    intro c
    obtain ⟨y, hy, e⟩ := List.any_eq_true.1 c
    have := h.1 y hy
    have := eq_of_beq e
    omega
theorem look_asc {l : List (Int × Int)} (h : Asc l) (k : Int) : lookT l k = getL l k := by unfold lookT getL; rw [dist_asc h]

def ValPSaid (d : Nat) : Prop := ∀ (S S' : Nat → Prop) (t : Ex) (b off : Nat) (w : World) (sb : Nat) (e : EnvD) (c1 c2 c3 c4 : Value) (m1 m2 : Nat), RepAt .u8 S w d t b off → ScopeRep S' w sb e c1 c2 c3 c4 m1 m2 → t.formed = true → boundT e t = true → e.names.length = e.vals.length → e.tnames.length = e.tabs.length →
    Calls Try.prog 97 #[.pointer (some ⟨sb, 0, none⟩), .pointer (some ⟨b, off, none⟩)] w fun r w' => r = .returned (.int .i64 (valT e t)) ∧ Below w.heap.size w w'

/-- What a node's name gives. -/
theorem name_val {S : Nat → Prop} {w : World} {sb : Nat} {e : EnvD} {c1 c2 c3 c4 : Value} {m1 m2 : Nat} (h : ScopeRep S w sb e c1 c2 c3 c4 m1 m2) (hn : e.names.length = e.vals.length) {name : ByteArray} (hb : (placeN e.names name).isSome = true) :
    ∃ (i : Nat) (b off cap : Nat), i < e.vals.length ∧ placeN e.names name = some i ∧ c2 = .slice (some ⟨b, off, none⟩) e.vals.length cap ∧ w.cell? ⟨b, off + i, none⟩ = some (.int .i64 (e.valOf name)) := by
  obtain ⟨i, hi⟩ := Option.isSome_iff_exists.1 hb
  obtain ⟨hil, _⟩ := placeN_lt _ _ _ hi
  obtain ⟨a, cap, rfl, _⟩ := h.env.vals.shape
  obtain ⟨b, off, rfl, _, _, hc⟩ := h.env.vals.at (by omega)
  refine ⟨i, b, off, cap, by omega, hi, rfl, ?_⟩
  have hv : e.valOf name = e.vals[i]'(by omega) := by unfold EnvD.valOf; rw [hi]; simp [show i < e.vals.length by omega]
  rw [hv]
  exact hc i _ (by simp [show i < e.vals.length by omega])
theorem table_val {S : Nat → Prop} {w : World} {sb : Nat} {e : EnvD} {c1 c2 c3 c4 : Value} {m1 m2 : Nat} (h : ScopeRep S w sb e c1 c2 c3 c4 m1 m2) (hn : e.tnames.length = e.tabs.length) {name : ByteArray} (hb : (placeN e.tnames name).isSome = true) :
    ∃ (i : Nat) (b off cap : Nat) (ta : Option Addr) (tc : Nat), i < e.tabs.length ∧ placeN e.tnames name = some i ∧ c4 = .slice (some ⟨b, off, none⟩) e.tabs.length cap ∧ w.cell? ⟨b, off + i, none⟩ = some (.slice ta (e.tabOf name).length tc) ∧
      Row S w 2 (e.tabOf name).length (.slice ta (e.tabOf name).length tc) (flat2 (e.tabOf name)) ∧ Asc (e.tabOf name) ∧ (e.tabOf name).length < 4294967296 := by
  obtain ⟨i, hi⟩ := Option.isSome_iff_exists.1 hb
  obtain ⟨hil, _⟩ := placeN_lt _ _ _ hi
  have hil' : i < e.tabs.length := by omega
  obtain ⟨ts, h1, h2⟩ := h.env.tabs
  obtain ⟨a, cap, rfl, _⟩ := h1.shape
  obtain ⟨b, off, rfl, _, _, hc⟩ := h1.at (by omega)
  obtain ⟨tv, h3, h4⟩ := h2 i hil'
  have hv : e.tabOf name = e.tabs[i] := by unfold EnvD.tabOf; rw [hi]; simp [hil']
  rw [hv]
  obtain ⟨ta, tc, rfl, _⟩ := h4.shape
  exact ⟨i, b, off, cap, ta, tc, hil', hi, rfl, hc i _ h3, h4, h.asc _ (List.getElem_mem hil'), h.env.small.2.2.2.2 _ (List.getElem_mem hil')⟩
theorem bound_name {e : EnvD} {t : Ex} (h : boundT e t = true) (h5 : t.op = 5) : (placeN e.names t.name).isSome = true := by
  rw [boundT_eq, Bool.and_eq_true] at h
  have := h.1
  unfold boundN at this
  simp [h5] at this
  simpa [Option.isSome_iff_ne_none] using this
theorem bound_table {e : EnvD} {t : Ex} (h : boundT e t = true) (h5 : 6 ≤ t.op ∧ t.op ≤ 8) : (placeN e.tnames t.name).isSome = true := by
  rw [boundT_eq, Bool.and_eq_true] at h
  have := h.1
  unfold boundN at this
  rw [show decide (t.op = 5) = false by simp; omega, show decide (6 ≤ t.op ∧ t.op ≤ 8) = true by simp; omega] at this
  simpa [Option.isSome_iff_ne_none] using this
theorem bound_arg {e : EnvD} {t : Ex} (h : boundT e t = true) {x : Ex} (hx : x ∈ t.args) : boundT e x = true := by
  rw [boundT_eq, Bool.and_eq_true] at h
  exact (boundL_iff e _).1 h.2 x hx

set_option maxHeartbeats 1000000 in
set_option maxRecDepth 100000 in
theorem val_leaf (d : Nat) (_ih : ∀ d', d' < d → ValPSaid d') (S S' : Nat → Prop) (op : Int) (name : ByteArray) (n : Int) (args : List Ex) (b off : Nat) (w : World) (sb : Nat) (e : EnvD) (c1 c2 c3 c4 : Value) (m1 m2 : Nat) (h : RepAt .u8 S w d (.node op name n args) b off) (hS : ScopeRep S' w sb e c1 c2 c3 c4 m1 m2)
    (hf : (Ex.node op name n args).formed = true) (hb : boundT e (.node op name n args) = true) (_hn1 : e.names.length = e.vals.length) (_hn2 : e.tnames.length = e.tabs.length) (hop : op = 1 ∨ op = 2 ∨ op = 3 ∨ op = 4) :
    Calls Try.prog 97 #[.pointer (some ⟨sb, 0, none⟩), .pointer (some ⟨b, off, none⟩)] w fun r w' => r = .returned (.int .i64 (valT e (.node op name n args))) ∧ Below w.heap.size w w' := by
  have hfa := formed_args hf
  obtain ⟨h0, h1, h2, hfl, c, h3, hc⟩ := h
  obtain ⟨a, cap, rfl⟩ := hc.shape
  have hnm := hfl.name
  simp only [Ex.op, Ex.name, Ex.n, Ex.args] at h0 h1 h2 h3 hc hfa hnm
  have s1 : w.cell? ⟨sb, 1, none⟩ = some c2 := by simp [World.cell?, hS.blk]
  have s3 : w.cell? ⟨sb, 3, none⟩ = some c4 := by simp [World.cell?, hS.blk]
  have s4 : w.cell? ⟨sb, 4, none⟩ = some (.int .i64 e.now) := by simp [World.cell?, hS.blk]
  have s5 : w.cell? ⟨sb, 5, none⟩ = some (.map (some m1)) := by simp [World.cell?, hS.blk]
  have s6 : w.cell? ⟨sb, 6, none⟩ = some (.map (some m2)) := by simp [World.cell?, hS.blk]
  clear _ih hS
  obtain rfl : args = [] := by
    have : opnd op = 0 := by rcases hop with rfl | rfl | rfl | rfl <;> decide
    rw [this] at hfa
    exact List.length_eq_zero_iff.1 (by omega)
  have HV := Lib.hid (valT_eq e (.node op name n []))
  clear hf hb hc hfa
  rcases hop with rfl | rfl | rfl | rfl
  all_goals
    go_enter Try.func97, Try.ntmps97
    go_wp2_with fail
    go_ret
    exact ⟨by rw [HV.out]; rfl, Below.refl _ _⟩

set_option maxHeartbeats 1000000 in
set_option maxRecDepth 100000 in
theorem val_name (d : Nat) (_ih : ∀ d', d' < d → ValPSaid d') (S S' : Nat → Prop) (op : Int) (name : ByteArray) (n : Int) (args : List Ex) (b off : Nat) (w : World) (sb : Nat) (e : EnvD) (c1 c2 c3 c4 : Value) (m1 m2 : Nat) (h : RepAt .u8 S w d (.node op name n args) b off) (hS : ScopeRep S' w sb e c1 c2 c3 c4 m1 m2)
    (hf : (Ex.node op name n args).formed = true) (hb : boundT e (.node op name n args) = true) (hn1 : e.names.length = e.vals.length) (_hn2 : e.tnames.length = e.tabs.length) (hop : op = 5) :
    Calls Try.prog 97 #[.pointer (some ⟨sb, 0, none⟩), .pointer (some ⟨b, off, none⟩)] w fun r w' => r = .returned (.int .i64 (valT e (.node op name n args))) ∧ Below w.heap.size w w' := by
  have hfa := formed_args hf
  obtain ⟨h0, h1, h2, hfl, c, h3, hc⟩ := h
  obtain ⟨a, cap, rfl⟩ := hc.shape
  have hnm := hfl.name
  simp only [Ex.op, Ex.name, Ex.n, Ex.args] at h0 h1 h2 h3 hc hfa hnm
  have s1 : w.cell? ⟨sb, 1, none⟩ = some c2 := by simp [World.cell?, hS.blk]
  have s3 : w.cell? ⟨sb, 3, none⟩ = some c4 := by simp [World.cell?, hS.blk]
  have s4 : w.cell? ⟨sb, 4, none⟩ = some (.int .i64 e.now) := by simp [World.cell?, hS.blk]
  have s5 : w.cell? ⟨sb, 5, none⟩ = some (.map (some m1)) := by simp [World.cell?, hS.blk]
  have s6 : w.cell? ⟨sb, 6, none⟩ = some (.map (some m2)) := by simp [World.cell?, hS.blk]
  subst hop
  have HV := Lib.hid (show valT e (.node 5 name n args) = e.valOf name by rw [valT_eq]; rfl)
  obtain ⟨i, vb, voff, vcap, hil, hpl, rfl, hcell⟩ := name_val hS hn1 (name := name) (bound_name hb rfl)
  have hsm := hS.env.small.2.1
  have hlk := fun q => ((hS.names.keep (w' := w.drewN q) rfl).look name hnm).1
  rw [hpl] at hlk
  simp only [Option.getD_some] at hlk
  obtain rfl : args = [] := by
    have : opnd 5 = 0 := by decide
    rw [this] at hfa
    exact List.length_eq_zero_iff.1 (by omega)
  clear hf hb hc hfa hS hpl _ih hn1 _hn2
  rw [HV.out]
  generalize e.valOf name = V at *
  go_enter Try.func97, Try.ntmps97
  go_wp2_with fail
  go_quiet (fail)
  go_wp2_with fail
  go_ret
  exact ⟨rfl, below_drewN _ _ _⟩

set_option maxHeartbeats 1000000 in
set_option maxRecDepth 100000 in
theorem val_size (d : Nat) (_ih : ∀ d', d' < d → ValPSaid d') (S S' : Nat → Prop) (op : Int) (name : ByteArray) (n : Int) (args : List Ex) (b off : Nat) (w : World) (sb : Nat) (e : EnvD) (c1 c2 c3 c4 : Value) (m1 m2 : Nat) (h : RepAt .u8 S w d (.node op name n args) b off) (hS : ScopeRep S' w sb e c1 c2 c3 c4 m1 m2)
    (hf : (Ex.node op name n args).formed = true) (hb : boundT e (.node op name n args) = true) (_hn1 : e.names.length = e.vals.length) (hn2 : e.tnames.length = e.tabs.length) (hop : op = 8) :
    Calls Try.prog 97 #[.pointer (some ⟨sb, 0, none⟩), .pointer (some ⟨b, off, none⟩)] w fun r w' => r = .returned (.int .i64 (valT e (.node op name n args))) ∧ Below w.heap.size w w' := by
  have hfa := formed_args hf
  obtain ⟨h0, h1, h2, hfl, c, h3, hc⟩ := h
  obtain ⟨a, cap, rfl⟩ := hc.shape
  have hnm := hfl.name
  simp only [Ex.op, Ex.name, Ex.n, Ex.args] at h0 h1 h2 h3 hc hfa hnm
  have s1 : w.cell? ⟨sb, 1, none⟩ = some c2 := by simp [World.cell?, hS.blk]
  have s3 : w.cell? ⟨sb, 3, none⟩ = some c4 := by simp [World.cell?, hS.blk]
  have s4 : w.cell? ⟨sb, 4, none⟩ = some (.int .i64 e.now) := by simp [World.cell?, hS.blk]
  have s5 : w.cell? ⟨sb, 5, none⟩ = some (.map (some m1)) := by simp [World.cell?, hS.blk]
  have s6 : w.cell? ⟨sb, 6, none⟩ = some (.map (some m2)) := by simp [World.cell?, hS.blk]
  subst hop
  have HV := Lib.hid (show valT e (.node 8 name n args) = ((distL (e.tabOf name)).length : Int) by rw [valT_eq]; rfl)
  obtain ⟨i, vb, voff, vcap, ta, tc, hil, hpl, rfl, hcell, hrow, hasc, htl⟩ := table_val hS hn2 (name := name) (bound_table hb (by simp [Ex.op]))
  have hsm := hS.env.small.2.2.2.1
  have HROW := Lib.hid hrow; clear hrow
  have HASC := Lib.hid hasc; clear hasc
  generalize e.tabOf name = T at *
  have HLK := Lib.hid (fun (w' : World) (hm : More w w') => show (Instr.lookup 172 (.map (some m2)) (.string name) false).run Try.prog w' = .ok (.int .i64 (i : Int)) w' by
    have := ((hS.tables.keep (w' := w') (hm.block hS.tables.lt)).look name hnm).1
    rwa [hpl] at this)
  obtain rfl : args = [] := by
    have : opnd 8 = 0 := by decide
    rw [this] at hfa
    exact List.length_eq_zero_iff.1 (by omega)
  clear hf hb hc hfa hS hpl _ih _hn1 hn2
  rw [HV.out, dist_asc HASC.out]
  have hl1 := HLK.out w.drew (more_drew w)
  have q1 : w.drew.cell? ⟨sb, 3, none⟩ = some (.slice (some ⟨vb, voff, none⟩) e.tabs.length vcap) := s3
  have q2 : w.drew.cell? ⟨sb, 6, none⟩ = some (.map (some m2)) := s6
  have q3 : w.drew.cell? ⟨b, off + 1, none⟩ = some (.string name) := h1
  have q4 : w.drew.cell? ⟨vb, voff + i, none⟩ = some (.slice ta T.length tc) := hcell
  have hib : (0 : Int) ≤ (i : Int) := by omega
  have hib2 : (i : Int) < (e.tabs.length : Int) := by omega
  have hnn : True := trivial
  go_enter Try.func97, Try.ntmps97
  go_wp2_with fail
  go_region_held3 (fun wx => wx.cell? ⟨sb, 3, none⟩ = some (.slice (some ⟨vb, voff, none⟩) e.tabs.length vcap) ∧ wx.cell? ⟨sb, 6, none⟩ = some (.map (some m2)) ∧ wx.cell? ⟨b, off + 1, none⟩ = some (.string name) ∧ wx.cell? ⟨vb, voff + i, none⟩ = some (.slice ta T.length tc) ∧ (Instr.lookup 172 (.map (some m2)) (.string name) false).run Try.prog wx = .ok (.int .i64 (i : Int)) wx) (first | with_reducible exact ⟨q1, q2, q3, q4, hl1⟩ | with_reducible exact ⟨k1, k2, k3, k4, k5⟩) (first | (go_at_call 33; refine (len_any T.length tc ta _).mono ?_; rintro r w1 ⟨rfl, hw1⟩; have hm1 : More w.drew w1 := hw1 ▸ World.grownBy_alloc _ _ _; clear hw1; have k1 := hm1.cell q1; have k2 := hm1.cell q2; have k3 := hm1.cell q3; have k4 := hm1.cell q4; have k5 := HLK.out w1 (more_trans (more_drew w) hm1)))
  clear hl1 k5
  have HB1 := Lib.hid (more_trans (more_drew w) hm1).below
  clear hm1
  go_wp2_with fail
  go_ret
  exact ⟨rfl, HB1.out⟩

set_option maxHeartbeats 1000000 in
set_option maxRecDepth 100000 in
theorem val_get (d : Nat) (ih : ∀ d', d' < d → ValPSaid d') (S S' : Nat → Prop) (op : Int) (name : ByteArray) (n : Int) (args : List Ex) (b off : Nat) (w : World) (sb : Nat) (e : EnvD) (c1 c2 c3 c4 : Value) (m1 m2 : Nat) (h : RepAt .u8 S w d (.node op name n args) b off) (hS : ScopeRep S' w sb e c1 c2 c3 c4 m1 m2)
    (hf : (Ex.node op name n args).formed = true) (hb : boundT e (.node op name n args) = true) (hn1 : e.names.length = e.vals.length) (hn2 : e.tnames.length = e.tabs.length) (hop : op = 6) :
    Calls Try.prog 97 #[.pointer (some ⟨sb, 0, none⟩), .pointer (some ⟨b, off, none⟩)] w fun r w' => r = .returned (.int .i64 (valT e (.node op name n args))) ∧ Below w.heap.size w w' := by
  have hfa := formed_args hf
  obtain ⟨h0, h1, h2, hfl, c, h3, hc⟩ := h
  obtain ⟨a, cap, rfl⟩ := hc.shape
  have hnm := hfl.name
  simp only [Ex.op, Ex.name, Ex.n, Ex.args] at h0 h1 h2 h3 hc hfa hnm
  subst hop
  obtain ⟨x, rfl⟩ : ∃ x, args = [x] := by
    have : opnd 6 = 1 := by decide
    rw [this] at hfa
    exact List.length_eq_one_iff.1 (by omega)
  have HFB := Lib.hid (And.intro (hfa.2 x List.mem_cons_self) (bound_arg hb (x := x) List.mem_cons_self))
  obtain ⟨d', b', off', rfl, rfl, _, _, hat⟩ := hc.at (by simp)
  have hk0 := hat 0 (by simp)
  simp only [Nat.zero_mul, Nat.add_zero, List.getElem_cons_zero] at hk0
  have HK0 := Lib.hid hk0
  have HS := Lib.hid hS
  have HB := Lib.hid hb
  have IH := Lib.hid ih
  clear hf hfa hat hk0 hc hS hb ih hfl
  have HN := Lib.hid (And.intro hn1 hn2); clear hn1 hn2
  have HV := Lib.hid (show valT e (.node 6 name n [x]) = (lookT (e.tabOf name) (valT e x)).getD 0 by rw [valT_eq]; rfl)
  generalize valT e (.node 6 name n [x]) = V0 at *
  go_enter Try.func97, Try.ntmps97
  go_wp2_with fail
  refine (IH.out d' (by omega) S S' x b' off' w sb e c1 c2 c3 c4 m1 m2 HK0.out HS.out HFB.out.1 HFB.out.2 HN.out.1 HN.out.2).mono ?_
  rintro r w1 ⟨rfl, hb1⟩
  have HB1 := Lib.hid hb1
  have HS1 := Lib.hid (HS.out.below hb1)
  have j0 := below_cell hb1 h0
  have j1 := below_cell hb1 h1
  have j3 := below_cell hb1 h3
  clear hb1 h0 h1 h2 h3
  obtain ⟨i, vb, voff, vcap, ta, tc, hil, hpl, rfl, hcell, hrow, hasc, htl⟩ := table_val HS1.out HN.out.2 (name := name) (bound_table HB.out (by simp [Ex.op]))
  have hsm := HS1.out.env.small.2.2.2.1
  have HROW := Lib.hid hrow; clear hrow
  have HASC := Lib.hid hasc; clear hasc
  generalize e.tabOf name = T at *
  generalize valT e x = vx at *
  have HV2 := Lib.hid (show V0 = (getL T vx).getD 0 by rw [HV.out, look_asc HASC.out])
  clear HV
  have HLK := Lib.hid (fun (w' : World) (hm : More w1 w') => show (Instr.lookup 172 (.map (some m2)) (.string name) false).run Try.prog w' = .ok (.int .i64 (i : Int)) w' by
    have := ((HS1.out.tables.keep (w' := w') (hm.block HS1.out.tables.lt)).look name hnm).1
    rwa [hpl] at this)
  clear hpl
  have q1 : w1.drew.cell? ⟨sb, 3, none⟩ = some (.slice (some ⟨vb, voff, none⟩) e.tabs.length vcap) := by show w1.cell? _ = _; simp [World.cell?, HS1.out.blk]
  have q2 : w1.drew.cell? ⟨sb, 6, none⟩ = some (.map (some m2)) := by show w1.cell? _ = _; simp [World.cell?, HS1.out.blk]
  have q3 : w1.drew.cell? ⟨b, off + 1, none⟩ = some (.string name) := j1
  have q4 : w1.drew.cell? ⟨vb, voff + i, none⟩ = some (.slice ta T.length tc) := hcell
  have hl1 := HLK.out w1.drew (more_drew w1)
  have hib : (0 : Int) ≤ (i : Int) := by omega
  have hib2 : (i : Int) < (e.tabs.length : Int) := by omega
  go_wp2_with fail
  go_region_held3 (fun wx => wx.cell? ⟨sb, 3, none⟩ = some (.slice (some ⟨vb, voff, none⟩) e.tabs.length vcap) ∧ wx.cell? ⟨sb, 6, none⟩ = some (.map (some m2)) ∧ wx.cell? ⟨b, off + 1, none⟩ = some (.string name) ∧ wx.cell? ⟨vb, voff + i, none⟩ = some (.slice ta T.length tc) ∧ (Instr.lookup 172 (.map (some m2)) (.string name) false).run Try.prog wx = .ok (.int .i64 (i : Int)) wx) (first | with_reducible exact ⟨q1, q2, q3, q4, hl1⟩ | with_reducible exact ⟨k1, k2, k3, k4, k5⟩) (first | (go_at_call 31; refine (get_any S' T vx (.slice ta T.length tc) w1.drew htl HASC.out (HROW.out.below (more_drew w1).below)).mono ?_; rintro r w2 ⟨hb2, rfl⟩; have hm1 : More w1.drew w2 := more_of hb2; clear hb2; have k1 := hm1.cell q1; have k2 := hm1.cell q2; have k3 := hm1.cell q3; have k4 := hm1.cell q4; have k5 := HLK.out w2 (more_trans (more_drew w1) hm1)))
  clear hl1 k5
  have HB2 := Lib.hid (HB1.out.trans ((more_trans (more_drew w1) hm1).below.mono HB1.out.size))
  clear hm1
  generalize (getL T vx).getD 0 = V at *
  generalize (getL T vx).isSome = V2 at *
  go_wp2_with fail
  go_ret
  exact ⟨by rw [HV2.out]; rfl, HB2.out⟩

set_option maxHeartbeats 1000000 in
set_option maxRecDepth 100000 in
theorem val_has (d : Nat) (ih : ∀ d', d' < d → ValPSaid d') (S S' : Nat → Prop) (op : Int) (name : ByteArray) (n : Int) (args : List Ex) (b off : Nat) (w : World) (sb : Nat) (e : EnvD) (c1 c2 c3 c4 : Value) (m1 m2 : Nat) (h : RepAt .u8 S w d (.node op name n args) b off) (hS : ScopeRep S' w sb e c1 c2 c3 c4 m1 m2)
    (hf : (Ex.node op name n args).formed = true) (hb : boundT e (.node op name n args) = true) (hn1 : e.names.length = e.vals.length) (hn2 : e.tnames.length = e.tabs.length) (hop : op = 7) :
    Calls Try.prog 97 #[.pointer (some ⟨sb, 0, none⟩), .pointer (some ⟨b, off, none⟩)] w fun r w' => r = .returned (.int .i64 (valT e (.node op name n args))) ∧ Below w.heap.size w w' := by
  have hfa := formed_args hf
  obtain ⟨h0, h1, h2, hfl, c, h3, hc⟩ := h
  obtain ⟨a, cap, rfl⟩ := hc.shape
  have hnm := hfl.name
  simp only [Ex.op, Ex.name, Ex.n, Ex.args] at h0 h1 h2 h3 hc hfa hnm
  subst hop
  obtain ⟨x, rfl⟩ : ∃ x, args = [x] := by
    have : opnd 7 = 1 := by decide
    rw [this] at hfa
    exact List.length_eq_one_iff.1 (by omega)
  have HFB := Lib.hid (And.intro (hfa.2 x List.mem_cons_self) (bound_arg hb (x := x) List.mem_cons_self))
  obtain ⟨d', b', off', rfl, rfl, _, _, hat⟩ := hc.at (by simp)
  have hk0 := hat 0 (by simp)
  simp only [Nat.zero_mul, Nat.add_zero, List.getElem_cons_zero] at hk0
  have HK0 := Lib.hid hk0
  have HS := Lib.hid hS
  have HB := Lib.hid hb
  have IH := Lib.hid ih
  clear hf hfa hat hk0 hc hS hb ih hfl
  have HN := Lib.hid (And.intro hn1 hn2); clear hn1 hn2
  have HV := Lib.hid (show valT e (.node 7 name n [x]) = tr (lookT (e.tabOf name) (valT e x)).isSome by rw [valT_eq]; rfl)
  generalize valT e (.node 7 name n [x]) = V0 at *
  go_enter Try.func97, Try.ntmps97
  go_wp2_with fail
  refine (IH.out d' (by omega) S S' x b' off' w sb e c1 c2 c3 c4 m1 m2 HK0.out HS.out HFB.out.1 HFB.out.2 HN.out.1 HN.out.2).mono ?_
  rintro r w1 ⟨rfl, hb1⟩
  have HB1 := Lib.hid hb1
  have HS1 := Lib.hid (HS.out.below hb1)
  have j0 := below_cell hb1 h0
  have j1 := below_cell hb1 h1
  have j3 := below_cell hb1 h3
  clear hb1 h0 h1 h2 h3
  obtain ⟨i, vb, voff, vcap, ta, tc, hil, hpl, rfl, hcell, hrow, hasc, htl⟩ := table_val HS1.out HN.out.2 (name := name) (bound_table HB.out (by simp [Ex.op]))
  have hsm := HS1.out.env.small.2.2.2.1
  have HROW := Lib.hid hrow; clear hrow
  have HASC := Lib.hid hasc; clear hasc
  generalize e.tabOf name = T at *
  generalize valT e x = vx at *
  have HV2 := Lib.hid (show V0 = tr (getL T vx).isSome by rw [HV.out, look_asc HASC.out])
  clear HV
  have HLK := Lib.hid (fun (w' : World) (hm : More w1 w') => show (Instr.lookup 172 (.map (some m2)) (.string name) false).run Try.prog w' = .ok (.int .i64 (i : Int)) w' by
    have := ((HS1.out.tables.keep (w' := w') (hm.block HS1.out.tables.lt)).look name hnm).1
    rwa [hpl] at this)
  clear hpl
  have q1 : w1.drew.cell? ⟨sb, 3, none⟩ = some (.slice (some ⟨vb, voff, none⟩) e.tabs.length vcap) := by show w1.cell? _ = _; simp [World.cell?, HS1.out.blk]
  have q2 : w1.drew.cell? ⟨sb, 6, none⟩ = some (.map (some m2)) := by show w1.cell? _ = _; simp [World.cell?, HS1.out.blk]
  have q3 : w1.drew.cell? ⟨b, off + 1, none⟩ = some (.string name) := j1
  have q4 : w1.drew.cell? ⟨vb, voff + i, none⟩ = some (.slice ta T.length tc) := hcell
  have hl1 := HLK.out w1.drew (more_drew w1)
  have hib : (0 : Int) ≤ (i : Int) := by omega
  have hib2 : (i : Int) < (e.tabs.length : Int) := by omega
  go_wp2_with fail
  go_region_held3 (fun wx => wx.cell? ⟨sb, 3, none⟩ = some (.slice (some ⟨vb, voff, none⟩) e.tabs.length vcap) ∧ wx.cell? ⟨sb, 6, none⟩ = some (.map (some m2)) ∧ wx.cell? ⟨b, off + 1, none⟩ = some (.string name) ∧ wx.cell? ⟨vb, voff + i, none⟩ = some (.slice ta T.length tc) ∧ (Instr.lookup 172 (.map (some m2)) (.string name) false).run Try.prog wx = .ok (.int .i64 (i : Int)) wx) (first | with_reducible exact ⟨q1, q2, q3, q4, hl1⟩ | with_reducible exact ⟨k1, k2, k3, k4, k5⟩) (first | (go_at_call 31; refine (get_any S' T vx (.slice ta T.length tc) w1.drew htl HASC.out (HROW.out.below (more_drew w1).below)).mono ?_; rintro r w2 ⟨hb2, rfl⟩; have hm1 : More w1.drew w2 := more_of hb2; clear hb2; have k1 := hm1.cell q1; have k2 := hm1.cell q2; have k3 := hm1.cell q3; have k4 := hm1.cell q4; have k5 := HLK.out w2 (more_trans (more_drew w1) hm1)))
  clear hl1 k5
  have HB2 := Lib.hid (HB1.out.trans ((more_trans (more_drew w1) hm1).below.mono HB1.out.size))
  clear hm1
  generalize (getL T vx).getD 0 = V at *
  generalize (getL T vx).isSome = V2 at *
  go_wp2_with fail
  refine (truth_any V2 _).mono ?_
  rintro r w3 ⟨rfl, rfl⟩
  go_wp2_with fail
  go_ret
  exact ⟨by rw [HV2.out]; rfl, HB2.out⟩

set_option maxHeartbeats 1000000 in
set_option maxRecDepth 100000 in
theorem val_unary (d : Nat) (ih : ∀ d', d' < d → ValPSaid d') (S S' : Nat → Prop) (op : Int) (name : ByteArray) (n : Int) (args : List Ex) (b off : Nat) (w : World) (sb : Nat) (e : EnvD) (c1 c2 c3 c4 : Value) (m1 m2 : Nat) (h : RepAt .u8 S w d (.node op name n args) b off) (hS : ScopeRep S' w sb e c1 c2 c3 c4 m1 m2)
    (hf : (Ex.node op name n args).formed = true) (hb : boundT e (.node op name n args) = true) (hn1 : e.names.length = e.vals.length) (hn2 : e.tnames.length = e.tabs.length) (hop : op = 9 ∨ op = 10) :
    Calls Try.prog 97 #[.pointer (some ⟨sb, 0, none⟩), .pointer (some ⟨b, off, none⟩)] w fun r w' => r = .returned (.int .i64 (valT e (.node op name n args))) ∧ Below w.heap.size w w' := by
  have hfa := formed_args hf
  obtain ⟨h0, h1, h2, hfl, c, h3, hc⟩ := h
  obtain ⟨a, cap, rfl⟩ := hc.shape
  have hnm := hfl.name
  simp only [Ex.op, Ex.name, Ex.n, Ex.args] at h0 h1 h2 h3 hc hfa hnm
  obtain ⟨x, rfl⟩ : ∃ x, args = [x] := by
    have : opnd op = 1 := by rcases hop with rfl | rfl <;> decide
    rw [this] at hfa
    exact List.length_eq_one_iff.1 (by omega)
  have HFB := Lib.hid (And.intro (hfa.2 x List.mem_cons_self) (bound_arg hb (x := x) List.mem_cons_self))
  obtain ⟨d', b', off', rfl, rfl, _, _, hat⟩ := hc.at (by simp)
  have hk0 := hat 0 (by simp)
  simp only [Nat.zero_mul, Nat.add_zero, List.getElem_cons_zero] at hk0
  have HK0 := Lib.hid hk0
  have HS := Lib.hid hS
  have HB := Lib.hid hb
  have IH := Lib.hid ih
  clear hf hfa hat hk0 hc hS hb ih hfl
  have HN := Lib.hid (And.intro hn1 hn2); clear hn1 hn2
  have HV := Lib.hid (show valT e (.node op name n [x]) = (unV op (valT e x)).1 by rw [valT_eq]; rcases hop with rfl | rfl <;> rfl)
  generalize valT e (.node op name n [x]) = V0 at *
  rcases hop with rfl | rfl
  all_goals
    go_enter Try.func97, Try.ntmps97
    go_wp2_with fail
    refine (IH.out d' (by omega) S S' x b' off' w sb e c1 c2 c3 c4 m1 m2 HK0.out HS.out HFB.out.1 HFB.out.2 HN.out.1 HN.out.2).mono ?_
    rintro r w1 ⟨rfl, hb1⟩
    have HB1 := Lib.hid hb1
    have HS1 := Lib.hid (HS.out.below hb1)
    have j0 := below_cell hb1 h0
    have j1 := below_cell hb1 h1
    have j3 := below_cell hb1 h3
    clear hb1 h0 h1 h2 h3
    generalize valT e x = vx at *
    go_wp2_with fail
    refine (unary_any _ vx _).mono ?_
    generalize unV _ vx = V at *
    rintro r w3 ⟨rfl, rfl⟩
    go_wp2_with fail
    go_ret
    exact ⟨by rw [HV.out]; rfl, HB1.out⟩

set_option maxHeartbeats 1000000 in
set_option maxRecDepth 100000 in
theorem val_binary (d : Nat) (ih : ∀ d', d' < d → ValPSaid d') (S S' : Nat → Prop) (op : Int) (name : ByteArray) (n : Int) (args : List Ex) (b off : Nat) (w : World) (sb : Nat) (e : EnvD) (c1 c2 c3 c4 : Value) (m1 m2 : Nat) (h : RepAt .u8 S w d (.node op name n args) b off) (hS : ScopeRep S' w sb e c1 c2 c3 c4 m1 m2)
    (hf : (Ex.node op name n args).formed = true) (hb : boundT e (.node op name n args) = true) (hn1 : e.names.length = e.vals.length) (hn2 : e.tnames.length = e.tabs.length) (hop : 11 ≤ op ∧ op ≤ 23) :
    Calls Try.prog 97 #[.pointer (some ⟨sb, 0, none⟩), .pointer (some ⟨b, off, none⟩)] w fun r w' => r = .returned (.int .i64 (valT e (.node op name n args))) ∧ Below w.heap.size w w' := by
  have hfa := formed_args hf
  obtain ⟨h0, h1, h2, hfl, c, h3, hc⟩ := h
  obtain ⟨a, cap, rfl⟩ := hc.shape
  have hnm := hfl.name
  simp only [Ex.op, Ex.name, Ex.n, Ex.args] at h0 h1 h2 h3 hc hfa hnm
  obtain ⟨x, y, rfl⟩ : ∃ x y, args = [x, y] := by
    have : opnd op = 2 := by unfold opnd; rw [if_pos hop]
    rw [this] at hfa
    have hl : args.length = 2 := by omega
    match args, hl with
    | [x, y], _ => exact ⟨x, y, rfl⟩
  have HFB := Lib.hid (And.intro (hfa.2 x (by simp)) (bound_arg hb (x := x) (by simp [Ex.args])))
  have HFB2 := Lib.hid (And.intro (hfa.2 y (by simp)) (bound_arg hb (x := y) (by simp [Ex.args])))
  obtain ⟨d', b', off', rfl, rfl, _, _, hat⟩ := hc.at (by simp)
  have hk0 := hat 0 (by simp)
  have hk1 := hat 1 (by simp)
  simp only [Nat.zero_mul, Nat.one_mul, Nat.add_zero, List.getElem_cons_zero, List.getElem_cons_succ] at hk0 hk1
  have HK0 := Lib.hid hk0
  have HK1 := Lib.hid hk1
  have HS := Lib.hid hS
  have IH := Lib.hid ih
  clear hf hfa hat hk0 hk1 hc hS hb ih hfl
  have HN := Lib.hid (And.intro hn1 hn2); clear hn1 hn2
  have HV := Lib.hid (show valT e (.node op name n [x, y]) = (binV op (valT e x) (valT e y)).1 by
    rw [valT_eq]
    show valN e op name n [valT e x, valT e y] = _
    unfold valN
    rw [if_neg (by omega), if_neg (by omega), if_neg (by omega), if_neg (by omega), if_neg (by omega), if_neg (by omega), if_neg (by omega), if_neg (by omega), if_neg (by omega)]; rfl)
  generalize valT e (.node op name n [x, y]) = V0 at *
  have t1 : (op == 1) = false := by simp; omega
  have t2 : (op == 2) = false := by simp; omega
  have t3 : (op == 3) = false := by simp; omega
  have t4 : (op == 4) = false := by simp; omega
  have t5 : (op == 5) = false := by simp; omega
  have t6 : (op == 6) = false := by simp; omega
  have t7 : (op == 7) = false := by simp; omega
  have t8 : (op == 8) = false := by simp; omega
  have t9 : (op == 9) = false := by simp; omega
  have t10 : (op == 10) = false := by simp; omega
  go_enter Try.func97, Try.ntmps97
  go_wp2_with fail
  refine (IH.out d' (by omega) S S' x b' off' w sb e c1 c2 c3 c4 m1 m2 HK0.out HS.out HFB.out.1 HFB.out.2 HN.out.1 HN.out.2).mono ?_
  rintro r w1 ⟨rfl, hb1⟩
  have HB1 := Lib.hid hb1
  have HS1 := Lib.hid (HS.out.below hb1)
  have j0 := below_cell hb1 h0
  have j1 := below_cell hb1 h1
  have j3 := below_cell hb1 h3
  clear hb1 h0 h1 h2 h3
  go_wp2_with fail
  refine (IH.out d' (by omega) S S' y b' (off' + 4) w1 sb e c1 c2 c3 c4 m1 m2 (HK1.out.below HB1.out) HS1.out HFB2.out.1 HFB2.out.2 HN.out.1 HN.out.2).mono ?_
  rintro r w2 ⟨rfl, hb2⟩
  have HB2 := Lib.hid (HB1.out.trans (hb2.mono HB1.out.size))
  have i0 := below_cell hb2 j0
  clear hb2 j0 j1 j3
  generalize valT e x = vx at *
  generalize valT e y = vy at *
  go_wp2_with fail
  refine (binary_any op vx vy _).mono ?_
  generalize binV op vx vy = V at *
  rintro r w3 ⟨rfl, rfl⟩
  go_wp2_with fail
  go_ret
  exact ⟨by rw [HV.out]; rfl, HB2.out⟩

theorem valueP_any (d : Nat) : ValPSaid d := by
  induction d using Nat.strongRecOn with
  | _ d ih =>
    intro S S' t b off w sb e c1 c2 c3 c4 m1 m2 h hS hf hb hn1 hn2
    obtain ⟨op, name, n, args⟩ := t
    have hop := formed_op hf
    simp only [Ex.op] at hop
    rcases (show (op = 1 ∨ op = 2 ∨ op = 3 ∨ op = 4) ∨ op = 5 ∨ op = 6 ∨ op = 7 ∨ op = 8 ∨ (op = 9 ∨ op = 10) ∨ (11 ≤ op ∧ op ≤ 23) by omega) with c | c | c | c | c | c | c
    · exact val_leaf d ih S S' op name n args b off w sb e c1 c2 c3 c4 m1 m2 h hS hf hb hn1 hn2 c
    · exact val_name d ih S S' op name n args b off w sb e c1 c2 c3 c4 m1 m2 h hS hf hb hn1 hn2 c
    · exact val_get d ih S S' op name n args b off w sb e c1 c2 c3 c4 m1 m2 h hS hf hb hn1 hn2 c
    · exact val_has d ih S S' op name n args b off w sb e c1 c2 c3 c4 m1 m2 h hS hf hb hn1 hn2 c
    · exact val_size d ih S S' op name n args b off w sb e c1 c2 c3 c4 m1 m2 h hS hf hb hn1 hn2 c
    · exact val_unary d ih S S' op name n args b off w sb e c1 c2 c3 c4 m1 m2 h hS hf hb hn1 hn2 c
    · exact val_binary d ih S S' op name n args b off w sb e c1 c2 c3 c4 m1 m2 h hS hf hb hn1 hn2 c

end Go.Proofs.Ytekhoanjpnjaeaa

