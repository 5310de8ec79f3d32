/- Texts Known, FoldLaw, Value, Eval, RefFold, RefFoldTop, laid together. -/
import Derived.Deep.RegionHeld3
import Derived.Deep.DeepMust
import Derived.Test.YtekhoanjpnjaeaaDb
import Derived.Test.YtekhoanjpnjaeaaDc
import Derived.Test.YtekhoanjpnjaeaaDd
/- expr.scope in memory; scope.known (96). -/
namespace Go.Proofs.Ytekhoanjpnjaeaa
open Go.RowKit

structure ScopeRep (S : Nat → Prop) (w : World) (sb : Nat) (e : EnvD) (c1 c2 c3 c4 : Value) (m1 m2 : Nat) : Prop where
  blk : w.heap[sb]? = some (.cells #[c1, c2, c3, c4, .int .i64 e.now, .map (some m1), .map (some m2)] 175)
  env : EnvRep S w e c1 c2 c3 c4
  asc : ∀ t ∈ e.tabs, Asc t
  names : PlaceMap w m1 e.names 0
  tables : PlaceMap w m2 e.tnames 0
theorem ScopeRep.lt {S : Nat → Prop} {w : World} {sb : Nat} {e : EnvD} {c1 c2 c3 c4 : Value} {m1 m2 : Nat} (h : ScopeRep S w sb e c1 c2 c3 c4 m1 m2) : sb < w.heap.size := by
  rcases Nat.lt_or_ge sb w.heap.size with h1 | h1
  · exact h1
  · have := h.blk; rw [Array.getElem?_eq_none h1] at this; cases this
theorem ScopeRep.below {S : Nat → Prop} {w w' : World} {sb : Nat} {e : EnvD} {c1 c2 c3 c4 : Value} {m1 m2 : Nat} (h : ScopeRep S w sb e c1 c2 c3 c4 m1 m2) (hB : Below w.heap.size w w') : ScopeRep S w' sb e c1 c2 c3 c4 m1 m2 :=
  ⟨(hB.block _ h.lt).trans h.blk, h.env.below hB, h.asc, h.names.below hB, h.tables.below hB⟩
theorem boundL_take (e : EnvD) (l : List Ex) (k : Nat) (h : k < l.length) : boundL e (l.take (k + 1)) = (boundL e (l.take k) && boundT e l[k]) := by
  induction l generalizing k with
  | nil => simp at h
  | cons t ts ih =>
    cases k with
    | zero => simp [boundL]
    | succ k => simp [boundL, ih k (by simpa using h), Bool.and_assoc]

def KnownSaid (d : Nat) : Prop := ∀ (S S' : Nat → Prop) (t : Ex) (b off : Nat) (w : World) (sb : Nat) (e : EnvD) (c1 c2 c3 c4 : Value) (m1 m2 : Nat), RepAt .u8 S w d t b off → ScopeRep S' w sb e c1 c2 c3 c4 m1 m2 →
    Calls Try.prog 96 #[.pointer (some ⟨sb, 0, none⟩), .pointer (some ⟨b, off, none⟩)] w fun r w' => r = .returned (.bool (boundT e t)) ∧ ∃ n, w' = w.drewN n

set_option maxHeartbeats 1000000 in
set_option maxRecDepth 100000 in
theorem known_any (d : Nat) : KnownSaid d := by
  induction d using Nat.strongRecOn with
  | _ d ih =>
    intro S S' t b off w sb e c1 c2 c3 c4 m1 m2 h hS
    have IH := Lib.hid ih; clear ih
    obtain ⟨h0, h1, h2, hf, c, h3, hc⟩ := h
    obtain ⟨a, cap, rfl⟩ := hc.shape
    have HC := Lib.hid hc; clear hc
    have hlen := hf.len
    have HS := Lib.hid hS
    have s5 : w.cell? ⟨sb, 5, none⟩ = some (.map (some m1)) := by simp [World.cell?, hS.blk]
    have s6 : w.cell? ⟨sb, 6, none⟩ = some (.map (some m2)) := by simp [World.cell?, hS.blk]
    have hl1 := fun n => ((hS.names.keep (w' := w.drewN n) rfl).look t.name hf.name).2
    have hl2 := fun n => ((hS.tables.keep (w' := w.drewN n) rfl).look t.name hf.name).2
    clear hS
    have HBT := Lib.hid (boundT_eq e t)
    rw [HBT.out]
    have HBN : Hid (boundN e t.op t.name = (!(decide (t.op = 5) && (placeN e.names t.name).isNone) && !(decide (6 ≤ t.op ∧ t.op ≤ 8) && (placeN e.tnames t.name).isNone))) := Lib.hid rfl
    generalize boundN e t.op t.name = B at *
    generalize (((placeN e.names t.name).getD 0 : Nat) : Int) = p1 at *
    generalize (((placeN e.tnames t.name).getD 0 : Nat) : Int) = p2 at *
    have HB0 := Lib.hid (show Value.bool B = .bool (B && boundL e (t.args.take 0)) by simp [boundL])
    have hcases : t.op = 5 ∨ t.op = 6 ∨ t.op = 7 ∨ t.op = 8 ∨ ¬ (5 ≤ t.op ∧ t.op ≤ 8) := by omega
    rcases hcases with h5 | h5 | h5 | h5 | h5
    case' inl =>
      have t5 : (t.op == 5) = true := by simp [h5]
      have hBv : (placeN e.names t.name).isSome = B := by rw [HBN.out]; simp [h5, Option.not_isNone]
      clear h5
      go_enter Try.func96, Try.ntmps96
      rw [hBv] at hl1
      clear hBv hl2
      go_wp2_with fail
      go_quiet (fail)
      go_wp2_with fail
    case' inr.inl =>
      have t5 : (t.op == 5) = false := by simp [h5]
      have t6 : (t.op == 6) = true := by simp [h5]
      have hBv : (placeN e.tnames t.name).isSome = B := by rw [HBN.out]; simp [h5, Option.not_isNone]
      clear h5
      go_enter Try.func96, Try.ntmps96
      rw [hBv] at hl2
      clear hBv hl1
      go_wp2_with fail
      go_quiet (fail)
      go_wp2_with fail
    case' inr.inr.inl =>
      have t5 : (t.op == 5) = false := by simp [h5]
      have t6 : (t.op == 6) = false := by simp [h5]
      have t7 : (t.op == 7) = true := by simp [h5]
      have hBv : (placeN e.tnames t.name).isSome = B := by rw [HBN.out]; simp [h5, Option.not_isNone]
      clear h5
      go_enter Try.func96, Try.ntmps96
      rw [hBv] at hl2
      clear hBv hl1
      go_wp2_with fail
      go_quiet (fail)
      go_wp2_with fail
    case' inr.inr.inr.inl =>
      have t5 : (t.op == 5) = false := by simp [h5]
      have t6 : (t.op == 6) = false := by simp [h5]
      have t7 : (t.op == 7) = false := by simp [h5]
      have t8 : (t.op == 8) = true := by simp [h5]
      have hBv : (placeN e.tnames t.name).isSome = B := by rw [HBN.out]; simp [h5, Option.not_isNone]
      clear h5
      go_enter Try.func96, Try.ntmps96
      rw [hBv] at hl2
      clear hBv hl1
      go_wp2_with fail
      go_quiet (fail)
      go_wp2_with fail
    case' inr.inr.inr.inr =>
      have t5 : (t.op == 5) = false := by simp; omega
      have t6 : (t.op == 6) = false := by simp; omega
      have t7 : (t.op == 7) = false := by simp; omega
      have t8 : (t.op == 8) = false := by simp; omega
      have HT := Lib.hid (show B = true by
        rw [HBN.out, show decide (t.op = 5) = false by simp; omega, show decide (6 ≤ t.op ∧ t.op ≤ 8) = false by simp; omega]; rfl)
      have HB1 := Lib.hid (show Value.bool true = .bool (B && boundL e (t.args.take 0)) by rw [HT.out]; rfl)
      clear h5 hl1 hl2
      go_enter Try.func96, Try.ntmps96
      go_wp2_with fail
    all_goals
      try clear hl1
      try clear hl2
      go_loopw [5, 46] (fun fv i wr => ∃ k n : Nat, k ≤ t.args.length ∧ i = .int .i64 k ∧ wr = w.drewN n ∧ fv = .bool (B && boundL e (t.args.take k))) (fun _ i _ => t.args.length - (intOf i).toNat)
      case atStart => first | exact ⟨0, _, Nat.zero_le _, rfl, rfl, HB0.out⟩ | exact ⟨0, 0, Nat.zero_le _, rfl, rfl, HB1.out⟩
      case round =>
        obtain ⟨k, n, hk, rfl, rfl, rfl⟩ := hrel
        by_cases hlt : k < t.args.length
        · have hne : t.args ≠ [] := by intro e; rw [e] at hlt; simp at hlt
          obtain ⟨d', b', off', rfl, rfl, _, _, hat⟩ := HC.out.at hne
          have hk' := hat k hlt
          clear hat hne
          have HK := Lib.hid hk'; clear hk'
          have HTK := Lib.hid (boundL_take e t.args k hlt)
          generalize hfv : (B && boundL e (t.args.take k)) = fv at *
          have HFV := Lib.hid hfv; clear hfv
          cases fv with
          | true =>
            go_wp2_with fail
            refine (IH.out d' (by omega) S S' t.args[k] b' (off' + k * 4) (w.drewN n) sb e c1 c2 c3 c4 m1 m2 (HK.out.drewN n) (HS.out.below (below_drewN w n _))).mono ?_
            generalize hbk : boundT e t.args[k] = bk at *
            have HBK := Lib.hid hbk; clear hbk
            rintro r w' ⟨rfl, m, rfl⟩
            rw [World.drewN_drewN]
            go_wp2_with fail
            go_roundw
            case rel => exact ⟨k + 1, n + m, by omega, by go_num, rfl, by rw [HTK.out, ← Bool.and_assoc, HFV.out, Bool.true_and]⟩
            case measure => simp [intOf]; omega
          | false =>
            go_wp2_with fail
            go_roundw
            case rel => exact ⟨k + 1, n, by omega, by go_num, rfl, by rw [HTK.out, ← Bool.and_assoc, HFV.out, Bool.false_and]⟩
            case measure => simp [intOf]; omega
        · have hkk : t.args.take k = t.args := List.take_of_length_le (by omega)
          rw [hkk]
          clear hkk
          generalize hfv : (B && boundL e t.args) = fv at *
          have HFV := Lib.hid hfv; clear hfv
          go_wp2_with fail
          go_ret
          exact ⟨by rw [HFV.out]; rfl, _, rfl⟩
end Go.Proofs.Ytekhoanjpnjaeaa

/- Plain facts on folding: what is folded keeps its form; constants have their values. -/
namespace Go.Proofs.Ytekhoanjpnjaeaa
open Go.RowKit
mutual
theorem Ex.indT {P : Ex → Prop} (h : ∀ op name n args, (∀ t ∈ args, P t) → P (.node op name n args)) : ∀ t, P t
  | .node op name n args => h op name n args (Ex.indL h args)
theorem Ex.indL {P : Ex → Prop} (h : ∀ op name n args, (∀ t ∈ args, P t) → P (.node op name n args)) : ∀ (l : List Ex) (t : Ex), t ∈ l → P t
  | [], _, ht => by cases ht
  | x :: xs, t, ht => by
    rcases List.mem_cons.1 ht with e | e
    · rw [e]; exact Ex.indT h x
    · exact Ex.indL h xs t e
end
theorem formed_op {t : Ex} (h : t.formed = true) : 1 ≤ t.op ∧ t.op ≤ 23 := by
  have h1 := (formed_args h).1
  unfold opnd at h1
  repeat' split at h1
  all_goals omega
end Go.Proofs.Ytekhoanjpnjaeaa

/- scope.value (97). -/
namespace Go.Proofs.Ytekhoanjpnjaeaa
open Go.RowKit

theorem dist_asc : ∀ {l : List (Int × Int)}, Asc l → distL l = l
  | [], _ => rfl
  | x :: r, h => by
    rw [asc_cons] at h
    unfold distL
    rw [if_neg, dist_asc h.2]
    intro c
    obtain ⟨y, hy, e⟩ := List.any_eq_true.1 c
    have := h.1 y hy
    have := eq_of_beq e
    omega
theorem look_asc {l : List (Int × Int)} (h : Asc l) (k : Int) : lookT l k = getL l k := by unfold lookT getL; rw [dist_asc h]

def ValPSaid (d : Nat) : Prop := ∀ (S S' : Nat → Prop) (t : Ex) (b off : Nat) (w : World) (sb : Nat) (e : EnvD) (c1 c2 c3 c4 : Value) (m1 m2 : Nat), RepAt .u8 S w d t b off → ScopeRep S' w sb e c1 c2 c3 c4 m1 m2 → t.formed = true → boundT e t = true → e.names.length = e.vals.length → e.tnames.length = e.tabs.length →
    Calls Try.prog 97 #[.pointer (some ⟨sb, 0, none⟩), .pointer (some ⟨b, off, none⟩)] w fun r w' => r = .returned (.int .i64 (valT e t)) ∧ Below w.heap.size w w'

/-- What a node's name gives. -/
theorem name_val {S : Nat → Prop} {w : World} {sb : Nat} {e : EnvD} {c1 c2 c3 c4 : Value} {m1 m2 : Nat} (h : ScopeRep S w sb e c1 c2 c3 c4 m1 m2) (hn : e.names.length = e.vals.length) {name : ByteArray} (hb : (placeN e.names name).isSome = true) :
    ∃ (i : Nat) (b off cap : Nat), i < e.vals.length ∧ placeN e.names name = some i ∧ c2 = .slice (some ⟨b, off, none⟩) e.vals.length cap ∧ w.cell? ⟨b, off + i, none⟩ = some (.int .i64 (e.valOf name)) := by
  obtain ⟨i, hi⟩ := Option.isSome_iff_exists.1 hb
  obtain ⟨hil, _⟩ := placeN_lt _ _ _ hi
  obtain ⟨a, cap, rfl, _⟩ := h.env.vals.shape
  obtain ⟨b, off, rfl, _, _, hc⟩ := h.env.vals.at (by omega)
  refine ⟨i, b, off, cap, by omega, hi, rfl, ?_⟩
  have hv : e.valOf name = e.vals[i]'(by omega) := by unfold EnvD.valOf; rw [hi]; simp [show i < e.vals.length by omega]
  rw [hv]
  exact hc i _ (by simp [show i < e.vals.length by omega])
theorem table_val {S : Nat → Prop} {w : World} {sb : Nat} {e : EnvD} {c1 c2 c3 c4 : Value} {m1 m2 : Nat} (h : ScopeRep S w sb e c1 c2 c3 c4 m1 m2) (hn : e.tnames.length = e.tabs.length) {name : ByteArray} (hb : (placeN e.tnames name).isSome = true) :
    ∃ (i : Nat) (b off cap : Nat) (ta : Option Addr) (tc : Nat), i < e.tabs.length ∧ placeN e.tnames name = some i ∧ c4 = .slice (some ⟨b, off, none⟩) e.tabs.length cap ∧ w.cell? ⟨b, off + i, none⟩ = some (.slice ta (e.tabOf name).length tc) ∧
      Row S w 2 (e.tabOf name).length (.slice ta (e.tabOf name).length tc) (flat2 (e.tabOf name)) ∧ Asc (e.tabOf name) ∧ (e.tabOf name).length < 4294967296 := by
  obtain ⟨i, hi⟩ := Option.isSome_iff_exists.1 hb
  obtain ⟨hil, _⟩ := placeN_lt _ _ _ hi
  have hil' : i < e.tabs.length := by omega
  obtain ⟨ts, h1, h2⟩ := h.env.tabs
  obtain ⟨a, cap, rfl, _⟩ := h1.shape
  obtain ⟨b, off, rfl, _, _, hc⟩ := h1.at (by omega)
  obtain ⟨tv, h3, h4⟩ := h2 i hil'
  have hv : e.tabOf name = e.tabs[i] := by unfold EnvD.tabOf; rw [hi]; simp [hil']
  rw [hv]
  obtain ⟨ta, tc, rfl, _⟩ := h4.shape
  exact ⟨i, b, off, cap, ta, tc, hil', hi, rfl, hc i _ h3, h4, h.asc _ (List.getElem_mem hil'), h.env.small.2.2.2.2 _ (List.getElem_mem hil')⟩
theorem bound_name {e : EnvD} {t : Ex} (h : boundT e t = true) (h5 : t.op = 5) : (placeN e.names t.name).isSome = true := by
  rw [boundT_eq, Bool.and_eq_true] at h
  have := h.1
  unfold boundN at this
  simp [h5] at this
  simpa [Option.isSome_iff_ne_none] using this
theorem bound_table {e : EnvD} {t : Ex} (h : boundT e t = true) (h5 : 6 ≤ t.op ∧ t.op ≤ 8) : (placeN e.tnames t.name).isSome = true := by
  rw [boundT_eq, Bool.and_eq_true] at h
  have := h.1
  unfold boundN at this
  rw [show decide (t.op = 5) = false by simp; omega, show decide (6 ≤ t.op ∧ t.op ≤ 8) = true by simp; omega] at this
  simpa [Option.isSome_iff_ne_none] using this
theorem bound_arg {e : EnvD} {t : Ex} (h : boundT e t = true) {x : Ex} (hx : x ∈ t.args) : boundT e x = true := by
  rw [boundT_eq, Bool.and_eq_true] at h
  exact (boundL_iff e _).1 h.2 x hx

set_option maxHeartbeats 1000000 in
set_option maxRecDepth 100000 in
theorem val_leaf (d : Nat) (_ih : ∀ d', d' < d → ValPSaid d') (S S' : Nat → Prop) (op : Int) (name : ByteArray) (n : Int) (args : List Ex) (b off : Nat) (w : World) (sb : Nat) (e : EnvD) (c1 c2 c3 c4 : Value) (m1 m2 : Nat) (h : RepAt .u8 S w d (.node op name n args) b off) (hS : ScopeRep S' w sb e c1 c2 c3 c4 m1 m2)
    (hf : (Ex.node op name n args).formed = true) (hb : boundT e (.node op name n args) = true) (_hn1 : e.names.length = e.vals.length) (_hn2 : e.tnames.length = e.tabs.length) (hop : op = 1 ∨ op = 2 ∨ op = 3 ∨ op = 4) :
    Calls Try.prog 97 #[.pointer (some ⟨sb, 0, none⟩), .pointer (some ⟨b, off, none⟩)] w fun r w' => r = .returned (.int .i64 (valT e (.node op name n args))) ∧ Below w.heap.size w w' := by
  have hfa := formed_args hf
  obtain ⟨h0, h1, h2, hfl, c, h3, hc⟩ := h
  obtain ⟨a, cap, rfl⟩ := hc.shape
  have hnm := hfl.name
  simp only [Ex.op, Ex.name, Ex.n, Ex.args] at h0 h1 h2 h3 hc hfa hnm
  have s1 : w.cell? ⟨sb, 1, none⟩ = some c2 := by simp [World.cell?, hS.blk]
  have s3 : w.cell? ⟨sb, 3, none⟩ = some c4 := by simp [World.cell?, hS.blk]
  have s4 : w.cell? ⟨sb, 4, none⟩ = some (.int .i64 e.now) := by simp [World.cell?, hS.blk]
  have s5 : w.cell? ⟨sb, 5, none⟩ = some (.map (some m1)) := by simp [World.cell?, hS.blk]
  have s6 : w.cell? ⟨sb, 6, none⟩ = some (.map (some m2)) := by simp [World.cell?, hS.blk]
  clear _ih hS
  obtain rfl : args = [] := by
    have : opnd op = 0 := by rcases hop with rfl | rfl | rfl | rfl <;> decide
    rw [this] at hfa
    exact List.length_eq_zero_iff.1 (by omega)
  have HV := Lib.hid (valT_eq e (.node op name n []))
  clear hf hb hc hfa
  rcases hop with rfl | rfl | rfl | rfl
  all_goals
    go_enter Try.func97, Try.ntmps97
    go_wp2_with fail
    go_ret
    exact ⟨by rw [HV.out]; rfl, Below.refl _ _⟩

set_option maxHeartbeats 1000000 in
set_option maxRecDepth 100000 in
theorem val_name (d : Nat) (_ih : ∀ d', d' < d → ValPSaid d') (S S' : Nat → Prop) (op : Int) (name : ByteArray) (n : Int) (args : List Ex) (b off : Nat) (w : World) (sb : Nat) (e : EnvD) (c1 c2 c3 c4 : Value) (m1 m2 : Nat) (h : RepAt .u8 S w d (.node op name n args) b off) (hS : ScopeRep S' w sb e c1 c2 c3 c4 m1 m2)
    (hf : (Ex.node op name n args).formed = true) (hb : boundT e (.node op name n args) = true) (hn1 : e.names.length = e.vals.length) (_hn2 : e.tnames.length = e.tabs.length) (hop : op = 5) :
    Calls Try.prog 97 #[.pointer (some ⟨sb, 0, none⟩), .pointer (some ⟨b, off, none⟩)] w fun r w' => r = .returned (.int .i64 (valT e (.node op name n args))) ∧ Below w.heap.size w w' := by
  have hfa := formed_args hf
  obtain ⟨h0, h1, h2, hfl, c, h3, hc⟩ := h
  obtain ⟨a, cap, rfl⟩ := hc.shape
  have hnm := hfl.name
  simp only [Ex.op, Ex.name, Ex.n, Ex.args] at h0 h1 h2 h3 hc hfa hnm
  have s1 : w.cell? ⟨sb, 1, none⟩ = some c2 := by simp [World.cell?, hS.blk]
  have s3 : w.cell? ⟨sb, 3, none⟩ = some c4 := by simp [World.cell?, hS.blk]
  have s4 : w.cell? ⟨sb, 4, none⟩ = some (.int .i64 e.now) := by simp [World.cell?, hS.blk]
  have s5 : w.cell? ⟨sb, 5, none⟩ = some (.map (some m1)) := by simp [World.cell?, hS.blk]
  have s6 : w.cell? ⟨sb, 6, none⟩ = some (.map (some m2)) := by simp [World.cell?, hS.blk]
  subst hop
  have HV := Lib.hid (show valT e (.node 5 name n args) = e.valOf name by rw [valT_eq]; rfl)
  obtain ⟨i, vb, voff, vcap, hil, hpl, rfl, hcell⟩ := name_val hS hn1 (name := name) (bound_name hb rfl)
  have hsm := hS.env.small.2.1
  have hlk := fun q => ((hS.names.keep (w' := w.drewN q) rfl).look name hnm).1
  rw [hpl] at hlk
  simp only [Option.getD_some] at hlk
  obtain rfl : args = [] := by
    have : opnd 5 = 0 := by decide
    rw [this] at hfa
    exact List.length_eq_zero_iff.1 (by omega)
  clear hf hb hc hfa hS hpl _ih hn1 _hn2
  rw [HV.out]
  generalize e.valOf name = V at *
  go_enter Try.func97, Try.ntmps97
  go_wp2_with fail
  go_quiet (fail)
  go_wp2_with fail
  go_ret
  exact ⟨rfl, below_drewN _ _ _⟩

set_option maxHeartbeats 1000000 in
set_option maxRecDepth 100000 in
theorem val_size (d : Nat) (_ih : ∀ d', d' < d → ValPSaid d') (S S' : Nat → Prop) (op : Int) (name : ByteArray) (n : Int) (args : List Ex) (b off : Nat) (w : World) (sb : Nat) (e : EnvD) (c1 c2 c3 c4 : Value) (m1 m2 : Nat) (h : RepAt .u8 S w d (.node op name n args) b off) (hS : ScopeRep S' w sb e c1 c2 c3 c4 m1 m2)
    (hf : (Ex.node op name n args).formed = true) (hb : boundT e (.node op name n args) = true) (_hn1 : e.names.length = e.vals.length) (hn2 : e.tnames.length = e.tabs.length) (hop : op = 8) :
    Calls Try.prog 97 #[.pointer (some ⟨sb, 0, none⟩), .pointer (some ⟨b, off, none⟩)] w fun r w' => r = .returned (.int .i64 (valT e (.node op name n args))) ∧ Below w.heap.size w w' := by
  have hfa := formed_args hf
  obtain ⟨h0, h1, h2, hfl, c, h3, hc⟩ := h
  obtain ⟨a, cap, rfl⟩ := hc.shape
  have hnm := hfl.name
  simp only [Ex.op, Ex.name, Ex.n, Ex.args] at h0 h1 h2 h3 hc hfa hnm
  have s1 : w.cell? ⟨sb, 1, none⟩ = some c2 := by simp [World.cell?, hS.blk]
  have s3 : w.cell? ⟨sb, 3, none⟩ = some c4 := by simp [World.cell?, hS.blk]
  have s4 : w.cell? ⟨sb, 4, none⟩ = some (.int .i64 e.now) := by simp [World.cell?, hS.blk]
  have s5 : w.cell? ⟨sb, 5, none⟩ = some (.map (some m1)) := by simp [World.cell?, hS.blk]
  have s6 : w.cell? ⟨sb, 6, none⟩ = some (.map (some m2)) := by simp [World.cell?, hS.blk]
  subst hop
  have HV := Lib.hid (show valT e (.node 8 name n args) = ((distL (e.tabOf name)).length : Int) by rw [valT_eq]; rfl)
  obtain ⟨i, vb, voff, vcap, ta, tc, hil, hpl, rfl, hcell, hrow, hasc, htl⟩ := table_val hS hn2 (name := name) (bound_table hb (by simp [Ex.op]))
  have hsm := hS.env.small.2.2.2.1
  have HROW := Lib.hid hrow; clear hrow
  have HASC := Lib.hid hasc; clear hasc
  generalize e.tabOf name = T at *
  have HLK := Lib.hid (fun (w' : World) (hm : More w w') => show (Instr.lookup 172 (.map (some m2)) (.string name) false).run Try.prog w' = .ok (.int .i64 (i : Int)) w' by
    have := ((hS.tables.keep (w' := w') (hm.block hS.tables.lt)).look name hnm).1
    rwa [hpl] at this)
  obtain rfl : args = [] := by
    have : opnd 8 = 0 := by decide
    rw [this] at hfa
    exact List.length_eq_zero_iff.1 (by omega)
  clear hf hb hc hfa hS hpl _ih _hn1 hn2
  rw [HV.out, dist_asc HASC.out]
  have hl1 := HLK.out w.drew (more_drew w)
  have q1 : w.drew.cell? ⟨sb, 3, none⟩ = some (.slice (some ⟨vb, voff, none⟩) e.tabs.length vcap) := s3
  have q2 : w.drew.cell? ⟨sb, 6, none⟩ = some (.map (some m2)) := s6
  have q3 : w.drew.cell? ⟨b, off + 1, none⟩ = some (.string name) := h1
  have q4 : w.drew.cell? ⟨vb, voff + i, none⟩ = some (.slice ta T.length tc) := hcell
  have hib : (0 : Int) ≤ (i : Int) := by omega
  have hib2 : (i : Int) < (e.tabs.length : Int) := by omega
  have hnn : True := trivial
  go_enter Try.func97, Try.ntmps97
  go_wp2_with fail
  go_region_held3 (fun wx => wx.cell? ⟨sb, 3, none⟩ = some (.slice (some ⟨vb, voff, none⟩) e.tabs.length vcap) ∧ wx.cell? ⟨sb, 6, none⟩ = some (.map (some m2)) ∧ wx.cell? ⟨b, off + 1, none⟩ = some (.string name) ∧ wx.cell? ⟨vb, voff + i, none⟩ = some (.slice ta T.length tc) ∧ (Instr.lookup 172 (.map (some m2)) (.string name) false).run Try.prog wx = .ok (.int .i64 (i : Int)) wx) (first | with_reducible exact ⟨q1, q2, q3, q4, hl1⟩ | with_reducible exact ⟨k1, k2, k3, k4, k5⟩) (first | (go_at_call 33; refine (len_any T.length tc ta _).mono ?_; rintro r w1 ⟨rfl, hw1⟩; have hm1 : More w.drew w1 := hw1 ▸ World.grownBy_alloc _ _ _; clear hw1; have k1 := hm1.cell q1; have k2 := hm1.cell q2; have k3 := hm1.cell q3; have k4 := hm1.cell q4; have k5 := HLK.out w1 (more_trans (more_drew w) hm1)))
  clear hl1 k5
  have HB1 := Lib.hid (more_trans (more_drew w) hm1).below
  clear hm1
  go_wp2_with fail
  go_ret
  exact ⟨rfl, HB1.out⟩

set_option maxHeartbeats 1000000 in
set_option maxRecDepth 100000 in
theorem val_get (d : Nat) (ih : ∀ d', d' < d → ValPSaid d') (S S' : Nat → Prop) (op : Int) (name : ByteArray) (n : Int) (args : List Ex) (b off : Nat) (w : World) (sb : Nat) (e : EnvD) (c1 c2 c3 c4 : Value) (m1 m2 : Nat) (h : RepAt .u8 S w d (.node op name n args) b off) (hS : ScopeRep S' w sb e c1 c2 c3 c4 m1 m2)
    (hf : (Ex.node op name n args).formed = true) (hb : boundT e (.node op name n args) = true) (hn1 : e.names.length = e.vals.length) (hn2 : e.tnames.length = e.tabs.length) (hop : op = 6) :
    Calls Try.prog 97 #[.pointer (some ⟨sb, 0, none⟩), .pointer (some ⟨b, off, none⟩)] w fun r w' => r = .returned (.int .i64 (valT e (.node op name n args))) ∧ Below w.heap.size w w' := by
  have hfa := formed_args hf
  obtain ⟨h0, h1, h2, hfl, c, h3, hc⟩ := h
  obtain ⟨a, cap, rfl⟩ := hc.shape
  have hnm := hfl.name
  simp only [Ex.op, Ex.name, Ex.n, Ex.args] at h0 h1 h2 h3 hc hfa hnm
  subst hop
  obtain ⟨x, rfl⟩ : ∃ x, args = [x] := by
    have : opnd 6 = 1 := by decide
    rw [this] at hfa
    exact List.length_eq_one_iff.1 (by omega)
  have HFB := Lib.hid (And.intro (hfa.2 x List.mem_cons_self) (bound_arg hb (x := x) List.mem_cons_self))
  obtain ⟨d', b', off', rfl, rfl, _, _, hat⟩ := hc.at (by simp)
  have hk0 := hat 0 (by simp)
  simp only [Nat.zero_mul, Nat.add_zero, List.getElem_cons_zero] at hk0
  have HK0 := Lib.hid hk0
  have HS := Lib.hid hS
  have HB := Lib.hid hb
  have IH := Lib.hid ih
  clear hf hfa hat hk0 hc hS hb ih hfl
  have HN := Lib.hid (And.intro hn1 hn2); clear hn1 hn2
  have HV := Lib.hid (show valT e (.node 6 name n [x]) = (lookT (e.tabOf name) (valT e x)).getD 0 by rw [valT_eq]; rfl)
  generalize valT e (.node 6 name n [x]) = V0 at *
  go_enter Try.func97, Try.ntmps97
  go_wp2_with fail
  refine (IH.out d' (by omega) S S' x b' off' w sb e c1 c2 c3 c4 m1 m2 HK0.out HS.out HFB.out.1 HFB.out.2 HN.out.1 HN.out.2).mono ?_
  rintro r w1 ⟨rfl, hb1⟩
  have HB1 := Lib.hid hb1
  have HS1 := Lib.hid (HS.out.below hb1)
  have j0 := below_cell hb1 h0
  have j1 := below_cell hb1 h1
  have j3 := below_cell hb1 h3
  clear hb1 h0 h1 h2 h3
  obtain ⟨i, vb, voff, vcap, ta, tc, hil, hpl, rfl, hcell, hrow, hasc, htl⟩ := table_val HS1.out HN.out.2 (name := name) (bound_table HB.out (by simp [Ex.op]))
  have hsm := HS1.out.env.small.2.2.2.1
  have HROW := Lib.hid hrow; clear hrow
  have HASC := Lib.hid hasc; clear hasc
  generalize e.tabOf name = T at *
  generalize valT e x = vx at *
  have HV2 := Lib.hid (show V0 = (getL T vx).getD 0 by rw [HV.out, look_asc HASC.out])
  clear HV
  have HLK := Lib.hid (fun (w' : World) (hm : More w1 w') => show (Instr.lookup 172 (.map (some m2)) (.string name) false).run Try.prog w' = .ok (.int .i64 (i : Int)) w' by
    have := ((HS1.out.tables.keep (w' := w') (hm.block HS1.out.tables.lt)).look name hnm).1
    rwa [hpl] at this)
  clear hpl
  have q1 : w1.drew.cell? ⟨sb, 3, none⟩ = some (.slice (some ⟨vb, voff, none⟩) e.tabs.length vcap) := by show w1.cell? _ = _; simp [World.cell?, HS1.out.blk]
  have q2 : w1.drew.cell? ⟨sb, 6, none⟩ = some (.map (some m2)) := by show w1.cell? _ = _; simp [World.cell?, HS1.out.blk]
  have q3 : w1.drew.cell? ⟨b, off + 1, none⟩ = some (.string name) := j1
  have q4 : w1.drew.cell? ⟨vb, voff + i, none⟩ = some (.slice ta T.length tc) := hcell
  have hl1 := HLK.out w1.drew (more_drew w1)
  have hib : (0 : Int) ≤ (i : Int) := by omega
  have hib2 : (i : Int) < (e.tabs.length : Int) := by omega
  go_wp2_with fail
  go_region_held3 (fun wx => wx.cell? ⟨sb, 3, none⟩ = some (.slice (some ⟨vb, voff, none⟩) e.tabs.length vcap) ∧ wx.cell? ⟨sb, 6, none⟩ = some (.map (some m2)) ∧ wx.cell? ⟨b, off + 1, none⟩ = some (.string name) ∧ wx.cell? ⟨vb, voff + i, none⟩ = some (.slice ta T.length tc) ∧ (Instr.lookup 172 (.map (some m2)) (.string name) false).run Try.prog wx = .ok (.int .i64 (i : Int)) wx) (first | with_reducible exact ⟨q1, q2, q3, q4, hl1⟩ | with_reducible exact ⟨k1, k2, k3, k4, k5⟩) (first | (go_at_call 31; refine (get_any S' T vx (.slice ta T.length tc) w1.drew htl HASC.out (HROW.out.below (more_drew w1).below)).mono ?_; rintro r w2 ⟨hb2, rfl⟩; have hm1 : More w1.drew w2 := more_of hb2; clear hb2; have k1 := hm1.cell q1; have k2 := hm1.cell q2; have k3 := hm1.cell q3; have k4 := hm1.cell q4; have k5 := HLK.out w2 (more_trans (more_drew w1) hm1)))
  clear hl1 k5
  have HB2 := Lib.hid (HB1.out.trans ((more_trans (more_drew w1) hm1).below.mono HB1.out.size))
  clear hm1
  generalize (getL T vx).getD 0 = V at *
  generalize (getL T vx).isSome = V2 at *
  go_wp2_with fail
  go_ret
  exact ⟨by rw [HV2.out]; rfl, HB2.out⟩

set_option maxHeartbeats 1000000 in
set_option maxRecDepth 100000 in
theorem val_has (d : Nat) (ih : ∀ d', d' < d → ValPSaid d') (S S' : Nat → Prop) (op : Int) (name : ByteArray) (n : Int) (args : List Ex) (b off : Nat) (w : World) (sb : Nat) (e : EnvD) (c1 c2 c3 c4 : Value) (m1 m2 : Nat) (h : RepAt .u8 S w d (.node op name n args) b off) (hS : ScopeRep S' w sb e c1 c2 c3 c4 m1 m2)
    (hf : (Ex.node op name n args).formed = true) (hb : boundT e (.node op name n args) = true) (hn1 : e.names.length = e.vals.length) (hn2 : e.tnames.length = e.tabs.length) (hop : op = 7) :
    Calls Try.prog 97 #[.pointer (some ⟨sb, 0, none⟩), .pointer (some ⟨b, off, none⟩)] w fun r w' => r = .returned (.int .i64 (valT e (.node op name n args))) ∧ Below w.heap.size w w' := by
  have hfa := formed_args hf
  obtain ⟨h0, h1, h2, hfl, c, h3, hc⟩ := h
  obtain ⟨a, cap, rfl⟩ := hc.shape
  have hnm := hfl.name
  simp only [Ex.op, Ex.name, Ex.n, Ex.args] at h0 h1 h2 h3 hc hfa hnm
  subst hop
  obtain ⟨x, rfl⟩ : ∃ x, args = [x] := by
    have : opnd 7 = 1 := by decide
    rw [this] at hfa
    exact List.length_eq_one_iff.1 (by omega)
  have HFB := Lib.hid (And.intro (hfa.2 x List.mem_cons_self) (bound_arg hb (x := x) List.mem_cons_self))
  obtain ⟨d', b', off', rfl, rfl, _, _, hat⟩ := hc.at (by simp)
  have hk0 := hat 0 (by simp)
  simp only [Nat.zero_mul, Nat.add_zero, List.getElem_cons_zero] at hk0
  have HK0 := Lib.hid hk0
  have HS := Lib.hid hS
  have HB := Lib.hid hb
  have IH := Lib.hid ih
  clear hf hfa hat hk0 hc hS hb ih hfl
  have HN := Lib.hid (And.intro hn1 hn2); clear hn1 hn2
  have HV := Lib.hid (show valT e (.node 7 name n [x]) = tr (lookT (e.tabOf name) (valT e x)).isSome by rw [valT_eq]; rfl)
  generalize valT e (.node 7 name n [x]) = V0 at *
  go_enter Try.func97, Try.ntmps97
  go_wp2_with fail
  refine (IH.out d' (by omega) S S' x b' off' w sb e c1 c2 c3 c4 m1 m2 HK0.out HS.out HFB.out.1 HFB.out.2 HN.out.1 HN.out.2).mono ?_
  rintro r w1 ⟨rfl, hb1⟩
  have HB1 := Lib.hid hb1
  have HS1 := Lib.hid (HS.out.below hb1)
  have j0 := below_cell hb1 h0
  have j1 := below_cell hb1 h1
  have j3 := below_cell hb1 h3
  clear hb1 h0 h1 h2 h3
  obtain ⟨i, vb, voff, vcap, ta, tc, hil, hpl, rfl, hcell, hrow, hasc, htl⟩ := table_val HS1.out HN.out.2 (name := name) (bound_table HB.out (by simp [Ex.op]))
  have hsm := HS1.out.env.small.2.2.2.1
  have HROW := Lib.hid hrow; clear hrow
  have HASC := Lib.hid hasc; clear hasc
  generalize e.tabOf name = T at *
  generalize valT e x = vx at *
  have HV2 := Lib.hid (show V0 = tr (getL T vx).isSome by rw [HV.out, look_asc HASC.out])
  clear HV
  have HLK := Lib.hid (fun (w' : World) (hm : More w1 w') => show (Instr.lookup 172 (.map (some m2)) (.string name) false).run Try.prog w' = .ok (.int .i64 (i : Int)) w' by
    have := ((HS1.out.tables.keep (w' := w') (hm.block HS1.out.tables.lt)).look name hnm).1
    rwa [hpl] at this)
  clear hpl
  have q1 : w1.drew.cell? ⟨sb, 3, none⟩ = some (.slice (some ⟨vb, voff, none⟩) e.tabs.length vcap) := by show w1.cell? _ = _; simp [World.cell?, HS1.out.blk]
  have q2 : w1.drew.cell? ⟨sb, 6, none⟩ = some (.map (some m2)) := by show w1.cell? _ = _; simp [World.cell?, HS1.out.blk]
  have q3 : w1.drew.cell? ⟨b, off + 1, none⟩ = some (.string name) := j1
  have q4 : w1.drew.cell? ⟨vb, voff + i, none⟩ = some (.slice ta T.length tc) := hcell
  have hl1 := HLK.out w1.drew (more_drew w1)
  have hib : (0 : Int) ≤ (i : Int) := by omega
  have hib2 : (i : Int) < (e.tabs.length : Int) := by omega
  go_wp2_with fail
  go_region_held3 (fun wx => wx.cell? ⟨sb, 3, none⟩ = some (.slice (some ⟨vb, voff, none⟩) e.tabs.length vcap) ∧ wx.cell? ⟨sb, 6, none⟩ = some (.map (some m2)) ∧ wx.cell? ⟨b, off + 1, none⟩ = some (.string name) ∧ wx.cell? ⟨vb, voff + i, none⟩ = some (.slice ta T.length tc) ∧ (Instr.lookup 172 (.map (some m2)) (.string name) false).run Try.prog wx = .ok (.int .i64 (i : Int)) wx) (first | with_reducible exact ⟨q1, q2, q3, q4, hl1⟩ | with_reducible exact ⟨k1, k2, k3, k4, k5⟩) (first | (go_at_call 31; refine (get_any S' T vx (.slice ta T.length tc) w1.drew htl HASC.out (HROW.out.below (more_drew w1).below)).mono ?_; rintro r w2 ⟨hb2, rfl⟩; have hm1 : More w1.drew w2 := more_of hb2; clear hb2; have k1 := hm1.cell q1; have k2 := hm1.cell q2; have k3 := hm1.cell q3; have k4 := hm1.cell q4; have k5 := HLK.out w2 (more_trans (more_drew w1) hm1)))
  clear hl1 k5
  have HB2 := Lib.hid (HB1.out.trans ((more_trans (more_drew w1) hm1).below.mono HB1.out.size))
  clear hm1
  generalize (getL T vx).getD 0 = V at *
  generalize (getL T vx).isSome = V2 at *
  go_wp2_with fail
  refine (truth_any V2 _).mono ?_
  rintro r w3 ⟨rfl, rfl⟩
  go_wp2_with fail
  go_ret
  exact ⟨by rw [HV2.out]; rfl, HB2.out⟩

set_option maxHeartbeats 1000000 in
set_option maxRecDepth 100000 in
theorem val_unary (d : Nat) (ih : ∀ d', d' < d → ValPSaid d') (S S' : Nat → Prop) (op : Int) (name : ByteArray) (n : Int) (args : List Ex) (b off : Nat) (w : World) (sb : Nat) (e : EnvD) (c1 c2 c3 c4 : Value) (m1 m2 : Nat) (h : RepAt .u8 S w d (.node op name n args) b off) (hS : ScopeRep S' w sb e c1 c2 c3 c4 m1 m2)
    (hf : (Ex.node op name n args).formed = true) (hb : boundT e (.node op name n args) = true) (hn1 : e.names.length = e.vals.length) (hn2 : e.tnames.length = e.tabs.length) (hop : op = 9 ∨ op = 10) :
    Calls Try.prog 97 #[.pointer (some ⟨sb, 0, none⟩), .pointer (some ⟨b, off, none⟩)] w fun r w' => r = .returned (.int .i64 (valT e (.node op name n args))) ∧ Below w.heap.size w w' := by
  have hfa := formed_args hf
  obtain ⟨h0, h1, h2, hfl, c, h3, hc⟩ := h
  obtain ⟨a, cap, rfl⟩ := hc.shape
  have hnm := hfl.name
  simp only [Ex.op, Ex.name, Ex.n, Ex.args] at h0 h1 h2 h3 hc hfa hnm
  obtain ⟨x, rfl⟩ : ∃ x, args = [x] := by
    have : opnd op = 1 := by rcases hop with rfl | rfl <;> decide
    rw [this] at hfa
    exact List.length_eq_one_iff.1 (by omega)
  have HFB := Lib.hid (And.intro (hfa.2 x List.mem_cons_self) (bound_arg hb (x := x) List.mem_cons_self))
  obtain ⟨d', b', off', rfl, rfl, _, _, hat⟩ := hc.at (by simp)
  have hk0 := hat 0 (by simp)
  simp only [Nat.zero_mul, Nat.add_zero, List.getElem_cons_zero] at hk0
  have HK0 := Lib.hid hk0
  have HS := Lib.hid hS
  have HB := Lib.hid hb
  have IH := Lib.hid ih
  clear hf hfa hat hk0 hc hS hb ih hfl
  have HN := Lib.hid (And.intro hn1 hn2); clear hn1 hn2
  have HV := Lib.hid (show valT e (.node op name n [x]) = (unV op (valT e x)).1 by rw [valT_eq]; rcases hop with rfl | rfl <;> rfl)
  generalize valT e (.node op name n [x]) = V0 at *
  rcases hop with rfl | rfl
  all_goals
    go_enter Try.func97, Try.ntmps97
    go_wp2_with fail
    refine (IH.out d' (by omega) S S' x b' off' w sb e c1 c2 c3 c4 m1 m2 HK0.out HS.out HFB.out.1 HFB.out.2 HN.out.1 HN.out.2).mono ?_
    rintro r w1 ⟨rfl, hb1⟩
    have HB1 := Lib.hid hb1
    have HS1 := Lib.hid (HS.out.below hb1)
    have j0 := below_cell hb1 h0
    have j1 := below_cell hb1 h1
    have j3 := below_cell hb1 h3
    clear hb1 h0 h1 h2 h3
    generalize valT e x = vx at *
    go_wp2_with fail
    refine (unary_any _ vx _).mono ?_
    generalize unV _ vx = V at *
    rintro r w3 ⟨rfl, rfl⟩
    go_wp2_with fail
    go_ret
    exact ⟨by rw [HV.out]; rfl, HB1.out⟩

set_option maxHeartbeats 1000000 in
set_option maxRecDepth 100000 in
theorem val_binary (d : Nat) (ih : ∀ d', d' < d → ValPSaid d') (S S' : Nat → Prop) (op : Int) (name : ByteArray) (n : Int) (args : List Ex) (b off : Nat) (w : World) (sb : Nat) (e : EnvD) (c1 c2 c3 c4 : Value) (m1 m2 : Nat) (h : RepAt .u8 S w d (.node op name n args) b off) (hS : ScopeRep S' w sb e c1 c2 c3 c4 m1 m2)
    (hf : (Ex.node op name n args).formed = true) (hb : boundT e (.node op name n args) = true) (hn1 : e.names.length = e.vals.length) (hn2 : e.tnames.length = e.tabs.length) (hop : 11 ≤ op ∧ op ≤ 23) :
    Calls Try.prog 97 #[.pointer (some ⟨sb, 0, none⟩), .pointer (some ⟨b, off, none⟩)] w fun r w' => r = .returned (.int .i64 (valT e (.node op name n args))) ∧ Below w.heap.size w w' := by
  have hfa := formed_args hf
  obtain ⟨h0, h1, h2, hfl, c, h3, hc⟩ := h
  obtain ⟨a, cap, rfl⟩ := hc.shape
  have hnm := hfl.name
  simp only [Ex.op, Ex.name, Ex.n, Ex.args] at h0 h1 h2 h3 hc hfa hnm
  obtain ⟨x, y, rfl⟩ : ∃ x y, args = [x, y] := by
    have : opnd op = 2 := by unfold opnd; rw [if_pos hop]
    rw [this] at hfa
    have hl : args.length = 2 := by omega
    match args, hl with
    | [x, y], _ => exact ⟨x, y, rfl⟩
  have HFB := Lib.hid (And.intro (hfa.2 x (by simp)) (bound_arg hb (x := x) (by simp [Ex.args])))
  have HFB2 := Lib.hid (And.intro (hfa.2 y (by simp)) (bound_arg hb (x := y) (by simp [Ex.args])))
  obtain ⟨d', b', off', rfl, rfl, _, _, hat⟩ := hc.at (by simp)
  have hk0 := hat 0 (by simp)
  have hk1 := hat 1 (by simp)
  simp only [Nat.zero_mul, Nat.one_mul, Nat.add_zero, List.getElem_cons_zero, List.getElem_cons_succ] at hk0 hk1
  have HK0 := Lib.hid hk0
  have HK1 := Lib.hid hk1
  have HS := Lib.hid hS
  have IH := Lib.hid ih
  clear hf hfa hat hk0 hk1 hc hS hb ih hfl
  have HN := Lib.hid (And.intro hn1 hn2); clear hn1 hn2
  have HV := Lib.hid (show valT e (.node op name n [x, y]) = (binV op (valT e x) (valT e y)).1 by
    rw [valT_eq]
    show valN e op name n [valT e x, valT e y] = _
    unfold valN
    rw [if_neg (by omega), if_neg (by omega), if_neg (by omega), if_neg (by omega), if_neg (by omega), if_neg (by omega), if_neg (by omega), if_neg (by omega), if_neg (by omega)]; rfl)
  generalize valT e (.node op name n [x, y]) = V0 at *
  have t1 : (op == 1) = false := by simp; omega
  have t2 : (op == 2) = false := by simp; omega
  have t3 : (op == 3) = false := by simp; omega
  have t4 : (op == 4) = false := by simp; omega
  have t5 : (op == 5) = false := by simp; omega
  have t6 : (op == 6) = false := by simp; omega
  have t7 : (op == 7) = false := by simp; omega
  have t8 : (op == 8) = false := by simp; omega
  have t9 : (op == 9) = false := by simp; omega
  have t10 : (op == 10) = false := by simp; omega
  go_enter Try.func97, Try.ntmps97
  go_wp2_with fail
  refine (IH.out d' (by omega) S S' x b' off' w sb e c1 c2 c3 c4 m1 m2 HK0.out HS.out HFB.out.1 HFB.out.2 HN.out.1 HN.out.2).mono ?_
  rintro r w1 ⟨rfl, hb1⟩
  have HB1 := Lib.hid hb1
  have HS1 := Lib.hid (HS.out.below hb1)
  have j0 := below_cell hb1 h0
  have j1 := below_cell hb1 h1
  have j3 := below_cell hb1 h3
  clear hb1 h0 h1 h2 h3
  go_wp2_with fail
  refine (IH.out d' (by omega) S S' y b' (off' + 4) w1 sb e c1 c2 c3 c4 m1 m2 (HK1.out.below HB1.out) HS1.out HFB2.out.1 HFB2.out.2 HN.out.1 HN.out.2).mono ?_
  rintro r w2 ⟨rfl, hb2⟩
  have HB2 := Lib.hid (HB1.out.trans (hb2.mono HB1.out.size))
  have i0 := below_cell hb2 j0
  clear hb2 j0 j1 j3
  generalize valT e x = vx at *
  generalize valT e y = vy at *
  go_wp2_with fail
  refine (binary_any op vx vy _).mono ?_
  generalize binV op vx vy = V at *
  rintro r w3 ⟨rfl, rfl⟩
  go_wp2_with fail
  go_ret
  exact ⟨by rw [HV.out]; rfl, HB2.out⟩

theorem valueP_any (d : Nat) : ValPSaid d := by
  induction d using Nat.strongRecOn with
  | _ d ih =>
    intro S S' t b off w sb e c1 c2 c3 c4 m1 m2 h hS hf hb hn1 hn2
    obtain ⟨op, name, n, args⟩ := t
    have hop := formed_op hf
    simp only [Ex.op] at hop
    rcases (show (op = 1 ∨ op = 2 ∨ op = 3 ∨ op = 4) ∨ op = 5 ∨ op = 6 ∨ op = 7 ∨ op = 8 ∨ (op = 9 ∨ op = 10) ∨ (11 ≤ op ∧ op ≤ 23) by omega) with c | c | c | c | c | c | c
    · exact val_leaf d ih S S' op name n args b off w sb e c1 c2 c3 c4 m1 m2 h hS hf hb hn1 hn2 c
    · exact val_name d ih S S' op name n args b off w sb e c1 c2 c3 c4 m1 m2 h hS hf hb hn1 hn2 c
    · exact val_get d ih S S' op name n args b off w sb e c1 c2 c3 c4 m1 m2 h hS hf hb hn1 hn2 c
    · exact val_has d ih S S' op name n args b off w sb e c1 c2 c3 c4 m1 m2 h hS hf hb hn1 hn2 c
    · exact val_size d ih S S' op name n args b off w sb e c1 c2 c3 c4 m1 m2 h hS hf hb hn1 hn2 c
    · exact val_unary d ih S S' op name n args b off w sb e c1 c2 c3 c4 m1 m2 h hS hf hb hn1 hn2 c
    · exact val_binary d ih S S' op name n args b off w sb e c1 c2 c3 c4 m1 m2 h hS hf hb hn1 hn2 c

end Go.Proofs.Ytekhoanjpnjaeaa

/- expr.Eval (51). -/
namespace Go.Proofs.Ytekhoanjpnjaeaa
open Go.RowKit

/-- The value of an expression, and the error. -/
def evalV (e : EnvD) (t : Ex) : Int × Int :=
  if e.names.length ≠ e.vals.length ∨ e.tnames.length ≠ e.tabs.length then (0, 1) else if t.formed = false then (0, 6) else if boundT e t = false then (0, 9) else (valT e t, 0)
/-- The environment as the program has it. -/
structure EnvP (S : Nat → Prop) (w : World) (e : EnvD) (c1 c2 c3 c4 : Value) : Prop where
  rep : EnvRep S w e c1 c2 c3 c4
  asc : ∀ t ∈ e.tabs, Asc t
  text : (∀ x ∈ e.names, x.size ≤ maxLen) ∧ ∀ x ∈ e.tnames, x.size ≤ maxLen
theorem EnvP.below {S : Nat → Prop} {w w' : World} {e : EnvD} {c1 c2 c3 c4 : Value} (h : EnvP S w e c1 c2 c3 c4) (hB : Below w.heap.size w w') : EnvP S w' e c1 c2 c3 c4 := ⟨h.rep.below hB, h.asc, h.text⟩
theorem boxed_rep {S : Nat → Prop} {w : World} {d : Nat} {t : Ex} {c : Value} {b : Nat} (hb : w.heap[b]? = some (.cells #[.int .u8 t.op, .string t.name, .int .i64 t.n, c] 41)) (hf : Flds .u8 t) (hr : RepS .u8 S w d t.args c) : RepAt .u8 S w d t b 0 := by
  refine ⟨?_, ?_, ?_, hf, c, ?_, hr⟩ <;> simp [World.cell?, hb]

set_option maxHeartbeats 2000000 in
set_option maxRecDepth 100000 in
theorem eval_any (d : Nat) (S S' : Nat → Prop) (t : Ex) (c : Value) (e : EnvD) (c1 c2 c3 c4 : Value) (w : World) (hf : Flds .u8 t) (hr : RepS .u8 S w d t.args c) (hE : EnvP S' w e c1 c2 c3 c4) :
    Calls Try.prog 51 #[agg .u8 t c, aggE e c1 c2 c3 c4] w fun r w' => Below w.heap.size w w' ∧ r = .returned (.tuple #[.int .i64 (evalV e t).1, .int .i64 (evalV e t).2]) := by
  obtain ⟨a, cap, rfl⟩ := hr.shape
  obtain ⟨a1, cap1, rfl, _⟩ := hE.rep.names.shape
  obtain ⟨a2, cap2, rfl, _⟩ := hE.rep.vals.shape
  obtain ⟨a3, cap3, rfl, _⟩ := hE.rep.tnames.shape
  obtain ⟨a4, cap4, rfl, _⟩ := hE.rep.tabs.choose_spec.1.shape
  have HF := Lib.hid hf; clear hf
  have HR := Lib.hid hr; clear hr
  have HE := Lib.hid hE
  have hsm := hE.rep.small.1
  have hsm2 := hE.rep.small.2.2.1
  clear hE
  generalize hV : evalV e t = V
  have HV := Lib.hid hV; clear hV
  unfold agg aggE
  by_cases hn1 : e.names.length = e.vals.length
  · by_cases hn2 : e.tnames.length = e.tabs.length
    · have t1 : ((e.names.length : Int) != (e.vals.length : Int)) = false := by simp [hn1]
      have t2 : ((e.tnames.length : Int) != (e.tabs.length : Int)) = false := by simp [hn2]
      have HV1 := Lib.hid (show V = if t.formed = false then (0, 6) else if boundT e t = false then (0, 9) else (valT e t, 0) by rw [← HV.out]; unfold evalV; rw [if_neg (by simp [hn1, hn2])])
      have HN := Lib.hid (And.intro hn1 hn2); clear hn1 hn2 HV
      go_enter Try.func51, Try.ntmps51
      go_wp2_with fail
      generalize hw2 : (w.alloc (.cells #[.int .u8 t.op, .string t.name, .int .i64 t.n, .slice a t.args.length cap] 41)).alloc (.cells #[.slice a1 e.names.length cap1, .slice a2 e.vals.length cap2, .slice a3 e.tnames.length cap3, .slice a4 e.tabs.length cap4, .int .i64 e.now] 97) = w2
      have hm2 : More w w2 := by rw [← hw2]; exact grownBy_alloc2 _ _ _ _
      have hx2 : w2.heap[w.heap.size]? = some (.cells #[.int .u8 t.op, .string t.name, .int .i64 t.n, .slice a t.args.length cap] 41) := by rw [← hw2, Below.heap_alloc _ _ _ (by simp)]; exact alloc_last _ _
      have hy2 : w2.heap[w.heap.size + 1]? = some (.cells #[.slice a1 e.names.length cap1, .slice a2 e.vals.length cap2, .slice a3 e.tnames.length cap3, .slice a4 e.tabs.length cap4, .int .i64 e.now] 97) := by rw [← hw2]; exact alloc_at _ _ (by simp)
      clear hw2
      have HX2 := Lib.hid (show RepAt .u8 S w2 d t w.heap.size 0 from boxed_rep hx2 HF.out (HR.out.below hm2.below))
      have HE2 := Lib.hid (HE.out.below hm2.below)
      have HM2 := Lib.hid hm2
      have HY2 := Lib.hid hy2
      clear hm2 hx2 hy2
      refine (formed_any d S t w.heap.size 0 w2 HX2.out).mono ?_
      generalize hfm : t.formed = fm at *
      have HFM := Lib.hid hfm; clear hfm
      rintro r w3 ⟨rfl, n3, rfl⟩
      cases fm with
      | false =>
        go_wp2_with fail
        go_ret2
        exact ⟨(more_trans HM2.out (grownBy_drewN _ _ _)).below, by rw [HV1.out]; rfl⟩
      | true =>
        generalize hw3 : w2.drewN n3 = w3
        have hm3 : More w2 w3 := by rw [← hw3]; exact grownBy_drewN _ _ _
        clear hw3
        have hy3 := (hm3.block (b := w.heap.size + 1) (by rcases Nat.lt_or_ge (w.heap.size + 1) w2.heap.size with h | h; exact h; have := HY2.out; rw [Array.getElem?_eq_none h] at this; cases this)).trans HY2.out
        have HX3 := Lib.hid (HX2.out.below hm3.below)
        have HE3 := Lib.hid (HE2.out.below hm3.below)
        have HM3 := Lib.hid (more_trans HM2.out hm3)
        clear HX2 HE2 HM2 HY2 hm3
        have y0 : w3.drew.cell? ⟨w.heap.size + 1, 0, none⟩ = some (.slice a1 e.names.length cap1) := by show w3.cell? _ = _; simp [World.cell?, hy3]
        have y1 : w3.drew.cell? ⟨w.heap.size + 1, 1, none⟩ = some (.slice a2 e.vals.length cap2) := by show w3.cell? _ = _; simp [World.cell?, hy3]
        have y2 : w3.drew.cell? ⟨w.heap.size + 1, 2, none⟩ = some (.slice a3 e.tnames.length cap3) := by show w3.cell? _ = _; simp [World.cell?, hy3]
        have y3 : w3.drew.cell? ⟨w.heap.size + 1, 3, none⟩ = some (.slice a4 e.tabs.length cap4) := by show w3.cell? _ = _; simp [World.cell?, hy3]
        have y4 : w3.drew.cell? ⟨w.heap.size + 1, 4, none⟩ = some (.int .i64 e.now) := by show w3.cell? _ = _; simp [World.cell?, hy3]
        have HRN := Lib.hid (fun (w' : World) (hm : More w3.drew w') => (HE3.out.rep.names.below (more_drew w3).below).below hm.below)
        have HRT := Lib.hid (fun (w' : World) (hm : More w3.drew w') => (HE3.out.rep.tnames.below (more_drew w3).below).below hm.below)
        have HM0 := Lib.hid (show More w3.drew w3.drew from World.grownBy.refl _ _)
        clear hy3
        go_wp2_with fail
        go_region_held3 (fun wx => wx.cell? ⟨w.heap.size + 1, 0, none⟩ = some (.slice a1 e.names.length cap1) ∧ wx.cell? ⟨w.heap.size + 1, 1, none⟩ = some (.slice a2 e.vals.length cap2) ∧ wx.cell? ⟨w.heap.size + 1, 2, none⟩ = some (.slice a3 e.tnames.length cap3) ∧ wx.cell? ⟨w.heap.size + 1, 3, none⟩ = some (.slice a4 e.tabs.length cap4) ∧ wx.cell? ⟨w.heap.size + 1, 4, none⟩ = some (.int .i64 e.now)) (first | with_reducible exact ⟨y0, y1, y2, y3, y4⟩ | with_reducible exact ⟨k0, k1, k2, k3, k4⟩ | with_reducible exact ⟨l0, l1, l2, l3, l4⟩ | exact ⟨alloc_cell _ l0, alloc_cell _ l1, alloc_cell _ l2, alloc_cell _ l3, alloc_cell _ l4⟩ | exact ⟨alloc_cell _ k0, alloc_cell _ k1, alloc_cell _ k2, alloc_cell _ k3, alloc_cell _ k4⟩) (first | (go_at_call_of 95 a1; refine (places_any S' e.names (.slice a1 e.names.length cap1) _ hsm HE3.out.text.1 (HRN.out _ (by first | exact HM0.out | exact hmT))).mono ?_; rintro r wN ⟨hbN, bN, rfl, hlN, hpN⟩; have hmN : More w3.drew wN := (by first | exact more_trans hmT (more_of hbN) | exact more_of hbN); have k0 := hmN.cell y0; have k1 := hmN.cell y1; have k2 := hmN.cell y2; have k3 := hmN.cell y3; have k4 := hmN.cell y4) | (go_at_call_of 95 a3; refine (places_any S' e.tnames (.slice a3 e.tnames.length cap3) _ hsm2 HE3.out.text.2 (HRT.out _ (by first | exact HM0.out | exact hmN))).mono ?_; rintro r wT ⟨hbT, bT, rfl, hlT, hpT⟩; have hmT : More w3.drew wT := (by first | exact more_trans hmN (more_of hbT) | exact more_of hbT); have l0 := hmT.cell y0; have l1 := hmT.cell y1; have l2 := hmT.cell y2; have l3 := hmT.cell y3; have l4 := hmT.cell y4))
        clear k0 k1 k2 k3 k4 l0 l1 l2 l3 l4 y0 y1 y2 y3 y4
        generalize hw4 : wT.alloc (.cells #[.slice a1 e.names.length cap1, .slice a2 e.vals.length cap2, .slice a3 e.tnames.length cap3, .slice a4 e.tabs.length cap4, .int .i64 e.now, .map (some bN), .map (some bT)] 175) = w4
        have hm4 : More wT w4 := by rw [← hw4]; exact World.grownBy_alloc _ _ _
        have hx4 : w4.heap[wT.heap.size]? = some (.cells #[.slice a1 e.names.length cap1, .slice a2 e.vals.length cap2, .slice a3 e.tnames.length cap3, .slice a4 e.tabs.length cap4, .int .i64 e.now, .map (some bN), .map (some bT)] 175) := by rw [← hw4]; exact alloc_last _ _
        clear hw4
        have hm34 : More w3 w4 := more_trans (more_trans (more_drew w3) hmT) hm4
        have HS4 := Lib.hid (show ScopeRep S' w4 wT.heap.size e (.slice a1 e.names.length cap1) (.slice a2 e.vals.length cap2) (.slice a3 e.tnames.length cap3) (.slice a4 e.tabs.length cap4) bN bT from
          ⟨hx4, HE3.out.rep.below hm34.below, HE3.out.asc, (hpN.below hbT).below hm4.below, hpT.below hm4.below⟩)
        have HX4 := Lib.hid (HX3.out.below hm34.below)
        have HM4 := Lib.hid (more_trans HM3.out hm34)
        clear hm34 hx4 hm4 hmT hmN hbT hbN hpT hpN hlN hlT
        go_wp2_with fail
        refine (known_any d S S' t w.heap.size 0 w4 wT.heap.size e _ _ _ _ bN bT HX4.out HS4.out).mono ?_
        generalize hbd : boundT e t = bd at *
        have HBD := Lib.hid hbd; clear hbd
        rintro r w5 ⟨rfl, n5, rfl⟩
        cases bd with
        | false =>
          go_wp2_with fail
          go_ret2
          exact ⟨(more_trans HM4.out (grownBy_drewN _ _ _)).below, by rw [HV1.out]; rfl⟩
        | true =>
          go_wp2_with fail
          refine (valueP_any d S S' t w.heap.size 0 (w4.drewN n5) wT.heap.size e _ _ _ _ bN bT (HX4.out.drewN n5) (HS4.out.below (below_drewN _ _ _)) HFM.out HBD.out HN.out.1 HN.out.2).mono ?_
          generalize hv : valT e t = v at *
          have HVV := Lib.hid hv; clear hv
          rintro r w6 ⟨rfl, hb6⟩
          have HB6 := Lib.hid (more_trans (more_trans HM4.out (grownBy_drewN _ _ _)) (more_of hb6)).below
          clear hb6
          go_wp2_with fail
          go_ret2
          exact ⟨HB6.out, by rw [HV1.out]; rfl⟩
    · have t1 : ((e.names.length : Int) != (e.vals.length : Int)) = false := by simp [hn1]
      have t2 : ((e.tnames.length : Int) != (e.tabs.length : Int)) = true := by simp; omega
      have HV1 := Lib.hid (show V = (0, 1) by rw [← HV.out]; unfold evalV; rw [if_pos (by simp [hn2])])
      clear hn1 hn2 HV
      go_enter Try.func51, Try.ntmps51
      go_wp2_with fail
      go_ret2
      exact ⟨More.below (grownBy_alloc2 _ _ _ _), by rw [HV1.out]; rfl⟩
  · have t1 : ((e.names.length : Int) != (e.vals.length : Int)) = true := by simp; omega
    have HV1 := Lib.hid (show V = (0, 1) by rw [← HV.out]; unfold evalV; rw [if_pos (by simp [hn1])])
    clear hn1 HV
    go_enter Try.func51, Try.ntmps51
    go_wp2_with fail
    go_ret2
    exact ⟨More.below (grownBy_alloc2 _ _ _ _), by rw [HV1.out]; rfl⟩
end Go.Proofs.Ytekhoanjpnjaeaa

/- The contracts of ref10.fold and ref10.Fold. -/
namespace Go.Proofs.Ytekhoanjpnjaeaa
open Go.RowKit

theorem Try.info36 : (Try.prog.info? 36).map (fun i => (i.zero, i.size, i.bytes)) = some (some (.agg #[.int .i64 0, .string ByteArray.empty, .int .i64 0, .slice none 0 0]), 4, 56) := by kernel_rfl

structure RFoldInv (w : World) (t : Ex) (c : Value) (d k : Nat) (wr : World) : Prop where
  below : Below w.heap.size w wr
  size : w.heap.size + 1 + 1 + 1 ≤ wr.heap.size
  bx : wr.heap[w.heap.size]? = some (.cells #[.int .i64 t.op, .string t.name, .int .i64 t.n, c] 36)
  res : wr.heap[w.heap.size + 1]? = some (.cells #[.int .i64 0, .string ⟨#[]⟩, .int .i64 0, .slice none 0 0] 36)
  out : ∃ sv, wr.heap[w.heap.size + 1 + 1]? = some (.cells #[.int .i64 t.op, .string t.name, .int .i64 t.n, sv] 36) ∧ Grow .i64 36 (w.heap.size + 1 + 1 + 1) wr d sv ((t.args.take k).map foldT)

theorem RFoldInv.start (w : World) (t : Ex) (c : Value) (d : Nat) : RFoldInv w t c d 0 (((w.alloc (.cells #[.int .i64 t.op, .string t.name, .int .i64 t.n, c] 36)).alloc (.cells #[.int .i64 0, .string ⟨#[]⟩, .int .i64 0, .slice none 0 0] 36)).alloc (.cells #[.int .i64 t.op, .string t.name, .int .i64 t.n, .slice none 0 0] 36)) := by
  refine ⟨(((Below.refl _ _).alloc (Nat.le_refl _) _).alloc (by simp) _).alloc (by simp; omega) _, by simp, ?_, ?_, ⟨_, ?_, Grow.nil _ _ _ _ _⟩⟩
  · rw [Below.heap_alloc _ _ _ (by simp; omega), Below.heap_alloc _ _ _ (by simp)]; exact alloc_last _ _
  · rw [Below.heap_alloc _ _ _ (by simp)]; exact alloc_at _ _ (by simp)
  · exact alloc_at _ _ (by simp)

/-- A step that only makes blocks. -/
theorem RFoldInv.more {w wr w' : World} {t : Ex} {c : Value} {d k : Nat} (h : RFoldInv w t c d k wr) (hb : Below wr.heap.size wr w') : RFoldInv w t c d k w' := by
  have hs := h.size
  obtain ⟨sv, h1, h2⟩ := h.out
  exact ⟨h.below.trans (hb.mono h.below.size), Nat.le_trans hs hb.size, (hb.block _ (by omega)).trans h.bx, (hb.block _ (by omega)).trans h.res, sv, (hb.block _ (by omega)).trans h1, h2.keep (fun x _ hx => hb.block x hx)⟩

theorem RFoldInv.step {w wr w2 : World} {t x : Ex} {c : Value} {d k : Nat} {sv sv' : Value} {o : Obj} (hI : RFoldInv w t c d k wr) (hk : k < t.args.length) (hx : foldT t.args[k] = x)
    (hsv : wr.heap[w.heap.size + 1 + 1]? = some (.cells #[.int .i64 t.op, .string t.name, .int .i64 t.n, sv] 36))
    (hg : (wr.alloc o).grownBy w2 sv.ownBlock) (hgrow : Grow .i64 36 (w.heap.size + 1 + 1 + 1) w2 d sv' ((t.args.take k).map foldT ++ [x])) (hon : ∀ y, sv.ownBlock = some y → w.heap.size + 1 + 1 + 1 ≤ y) :
    RFoldInv w t c d (k + 1) (w2.setCell ⟨w.heap.size + 1 + 1, 3, none⟩ sv') := by
  have hs := hI.size
  have e2 : ∀ y, y < wr.heap.size → y < w.heap.size + 1 + 1 + 1 → w2.heap[y]? = wr.heap[y]? := by
    intro y hy hy'
    rw [hg.block y (by rw [World.size_alloc]; omega) (fun e => by have := hon y e.symm; omega)]
    exact Below.heap_alloc _ _ _ hy
  have hs2 : wr.heap.size ≤ w2.heap.size := by have := hg.size; rw [World.size_alloc] at this; omega
  have hss : (w2.setCell ⟨w.heap.size + 1 + 1, 3, none⟩ sv').heap.size = w2.heap.size := by simp [World.setCell]
  refine ⟨⟨hg.os.trans hI.below.os, hg.tape.trans hI.below.tape, hg.output.trans hI.below.output, by rw [hss]; have := hI.below.size; omega, fun y hy => ?_⟩, by rw [hss]; omega, ?_, ?_, ⟨sv', ?_, ?_⟩⟩
  · rw [Below.heap_setCell _ _ _ _ (show y ≠ w.heap.size + 1 + 1 by omega), e2 y (by omega) (by omega)]; exact hI.below.block y hy
  · rw [Below.heap_setCell _ _ _ _ (show w.heap.size ≠ w.heap.size + 1 + 1 by omega), e2 _ (by omega) (by omega)]; exact hI.bx
  · rw [Below.heap_setCell _ _ _ _ (show w.heap.size + 1 ≠ w.heap.size + 1 + 1 by omega), e2 _ (by omega) (by omega)]; exact hI.res
  · rw [heap_setCell_same _ _ _ _ _ _ ((e2 _ (by omega) (by omega)).trans hsv)]; rfl
  · rw [List.take_succ_eq_append_getElem hk, List.map_append, List.map_cons, List.map_nil, hx]
    exact hgrow.keep (fun y hy _ => Below.heap_setCell _ _ _ _ (show y ≠ w.heap.size + 1 + 1 by omega))

end Go.Proofs.Ytekhoanjpnjaeaa

/- The contract of ref10.Fold. -/
namespace Go.Proofs.Ytekhoanjpnjaeaa
open Go.RowKit
end Go.Proofs.Ytekhoanjpnjaeaa

