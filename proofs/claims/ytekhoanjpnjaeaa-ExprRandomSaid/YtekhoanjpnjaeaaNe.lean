/- Texts Known, laid together. -/
import Derived.Test.YtekhoanjpnjaeaaNc
import Derived.Test.YtekhoanjpnjaeaaNd
/- expr.scope in memory; scope.known (96). -/
namespace Go.Proofs.Ytekhoanjpnjaeaa
open Go.RowKit

structure ScopeRep (S : Nat → Prop) (w : World) (sb : Nat) (e : EnvD) (c1 c2 c3 c4 : Value) (m1 m2 : Nat) : Prop where
  blk : w.heap[sb]? = some (.cells #[c1, c2, c3, c4, .int .i64 e.now, .map (some m1), .map (some m2)] 175)
  env : EnvRep S w e c1 c2 c3 c4
  asc : ∀ t ∈ e.tabs, Asc t
  names : PlaceMap w m1 e.names 0
  tables : PlaceMap w m2 e.tnames 0
theorem ScopeRep.lt {S : Nat → Prop} {w : World} {sb : Nat} {e : EnvD} {c1 c2 c3 c4 : Value} {m1 m2 : Nat} (h : ScopeRep S w sb e c1 c2 c3 c4 m1 m2) : sb < w.heap.size := by
  rcases Nat.lt_or_ge sb w.heap.size with h1 | h1
  · exact h1
  · have := h.blk; rw [Array.getElem?_eq_none h1] at this; cases this
theorem ScopeRep.below {S : Nat → Prop} {w w' : World} {sb : Nat} {e : EnvD} {c1 c2 c3 c4 : Value} {m1 m2 : Nat} (h : ScopeRep S w sb e c1 c2 c3 c4 m1 m2) (hB : Below w.heap.size w w') : ScopeRep S w' sb e c1 c2 c3 c4 m1 m2 :=
  ⟨(hB.block _ h.lt).trans h.blk, h.env.below hB, h.asc, h.names.below hB, h.tables.below hB⟩
theorem boundL_take (e : EnvD) (l : List Ex) (k : Nat) (h : k < l.length) : boundL e (l.take (k + 1)) = (boundL e (l.take k) && boundT e l[k]) := by
  induction l generalizing k with
  | nil => simp at h
  | cons t ts ih =>
    cases k with
    | zero => simp [boundL]
    | succ k => simp [boundL, ih k (by simpa using h), Bool.and_assoc]

def KnownSaid (d : Nat) : Prop := ∀ (S S' : Nat → Prop) (t : Ex) (b off : Nat) (w : World) (sb : Nat) (e : EnvD) (c1 c2 c3 c4 : Value) (m1 m2 : Nat), RepAt .u8 S w d t b off → ScopeRep S' w sb e c1 c2 c3 c4 m1 m2 →
    Calls Try.prog 96 #[.pointer (some ⟨sb, 0, none⟩), .pointer (some ⟨b, off, none⟩)] w fun r w' => r = .returned (.bool (boundT e t)) ∧ ∃ n, w' = w.drewN n

set_option maxHeartbeats 1000000 in
set_option maxRecDepth 100000 in
theorem known_any (d : Nat) : KnownSaid d := by
  induction d using Nat.strongRecOn with
  | _ d ih =>
    intro S S' t b off w sb e c1 c2 c3 c4 m1 m2 h hS
    have IH := Lib.hid ih; clear ih
    obtain ⟨h0, h1, h2, hf, c, h3, hc⟩ := h
    obtain ⟨a, cap, rfl⟩ := hc.shape
    have HC := Lib.hid hc; clear hc
    have hlen := hf.len
    have HS := Lib.hid hS
    have s5 : w.cell? ⟨sb, 5, none⟩ = some (.map (some m1)) := by simp [World.cell?, hS.blk]
    have s6 : w.cell? ⟨sb, 6, none⟩ = some (.map (some m2)) := by simp [World.cell?, hS.blk]
    have hl1 := fun n => ((hS.names.keep (w' := w.drewN n) rfl).look t.name hf.name).2
    have hl2 := fun n => ((hS.tables.keep (w' := w.drewN n) rfl).look t.name hf.name).2
    clear hS
    have HBT := Lib.hid (boundT_eq e t)
    rw [HBT.out]
    have HBN : Hid (boundN e t.op t.name = (!(decide (t.op = 5) && (placeN e.names t.name).isNone) && !(decide (6 ≤ t.op ∧ t.op ≤ 8) && (placeN e.tnames t.name).isNone))) := Lib.hid rfl
    generalize boundN e t.op t.name = B at *
    generalize (((placeN e.names t.name).getD 0 : Nat) : Int) = p1 at *
    generalize (((placeN e.tnames t.name).getD 0 : Nat) : Int) = p2 at *
    have HB0 := Lib.hid (show Value.bool B = .bool (B && boundL e (t.args.take 0)) by simp [boundL])
    have hcases : t.op = 5 ∨ t.op = 6 ∨ t.op = 7 ∨ t.op = 8 ∨ ¬ (5 ≤ t.op ∧ t.op ≤ 8) := by omega
    rcases hcases with h5 | h5 | h5 | h5 | h5
    case' inl =>
      have t5 : (t.op == 5) = true := by simp [h5]
      have hBv : (placeN e.names t.name).isSome = B := by rw [HBN.out]; simp [h5, Option.not_isNone]
      clear h5
      go_enter Try.func96, Try.ntmps96
      rw [hBv] at hl1
      clear hBv hl2
      go_wp2_with fail
      go_quiet (fail)
      go_wp2_with fail
    case' inr.inl =>
      have t5 : (t.op == 5) = false := by simp [h5]
      have t6 : (t.op == 6) = true := by simp [h5]
      have hBv : (placeN e.tnames t.name).isSome = B := by rw [HBN.out]; simp [h5, Option.not_isNone]
      clear h5
      go_enter Try.func96, Try.ntmps96
      rw [hBv] at hl2
      clear hBv hl1
      go_wp2_with fail
      go_quiet (fail)
      go_wp2_with fail
    case' inr.inr.inl =>
      have t5 : (t.op == 5) = false := by simp [h5]
      have t6 : (t.op == 6) = false := by simp [h5]
      have t7 : (t.op == 7) = true := by simp [h5]
      have hBv : (placeN e.tnames t.name).isSome = B := by rw [HBN.out]; simp [h5, Option.not_isNone]
      clear h5
      go_enter Try.func96, Try.ntmps96
      rw [hBv] at hl2
      clear hBv hl1
      go_wp2_with fail
      go_quiet (fail)
      go_wp2_with fail
    case' inr.inr.inr.inl =>
      have t5 : (t.op == 5) = false := by simp [h5]
      have t6 : (t.op == 6) = false := by simp [h5]
      have t7 : (t.op == 7) = false := by simp [h5]
      have t8 : (t.op == 8) = true := by simp [h5]
      have hBv : (placeN e.tnames t.name).isSome = B := by rw [HBN.out]; simp [h5, Option.not_isNone]
      clear h5
      go_enter Try.func96, Try.ntmps96
      rw [hBv] at hl2
      clear hBv hl1
      go_wp2_with fail
      go_quiet (fail)
      go_wp2_with fail
    case' inr.inr.inr.inr =>
      have t5 : (t.op == 5) = false := by simp; omega
      have t6 : (t.op == 6) = false := by simp; omega
      have t7 : (t.op == 7) = false := by simp; omega
      have t8 : (t.op == 8) = false := by simp; omega
      have HT := Lib.hid (show B = true by
        rw [HBN.out, show decide (t.op = 5) = false by simp; omega, show decide (6 ≤ t.op ∧ t.op ≤ 8) = false by simp; omega]; rfl)
      have HB1 := Lib.hid (show Value.bool true = .bool (B && boundL e (t.args.take 0)) by rw [HT.out]; rfl)
      clear h5 hl1 hl2
      go_enter Try.func96, Try.ntmps96
      go_wp2_with fail
    all_goals
      try clear hl1
      try clear hl2
      go_loopw [5, 46] (fun fv i wr => ∃ k n : Nat, k ≤ t.args.length ∧ i = .int .i64 k ∧ wr = w.drewN n ∧ fv = .bool (B && boundL e (t.args.take k))) (fun _ i _ => t.args.length - (intOf i).toNat)
      case atStart => first | exact ⟨0, _, Nat.zero_le _, rfl, rfl, HB0.out⟩ | exact ⟨0, 0, Nat.zero_le _, rfl, rfl, HB1.out⟩
      case round =>
        obtain ⟨k, n, hk, rfl, rfl, rfl⟩ := hrel
        by_cases hlt : k < t.args.length
        · have hne : t.args ≠ [] := by intro e; rw [e] at hlt; simp at hlt
          obtain ⟨d', b', off', rfl, rfl, _, _, hat⟩ := HC.out.at hne
          have hk' := hat k hlt
          clear hat hne
          have HK := Lib.hid hk'; clear hk'
          have HTK := Lib.hid (boundL_take e t.args k hlt)
          generalize hfv : (B && boundL e (t.args.take k)) = fv at *
          have HFV := Lib.hid hfv; clear hfv
          cases fv with
          | true =>
            go_wp2_with fail
            refine (IH.out d' (by omega) S S' t.args[k] b' (off' + k * 4) (w.drewN n) sb e c1 c2 c3 c4 m1 m2 (HK.out.drewN n) (HS.out.below (below_drewN w n _))).mono ?_
            generalize hbk : boundT e t.args[k] = bk at *
            have HBK := Lib.hid hbk; clear hbk
            rintro r w' ⟨rfl, m, rfl⟩
            rw [World.drewN_drewN]
            go_wp2_with fail
            go_roundw
            case rel => exact ⟨k + 1, n + m, by omega, by go_num, rfl, by rw [HTK.out, ← Bool.and_assoc, HFV.out, Bool.true_and]⟩
            case measure => simp [intOf]; omega
          | false =>
            go_wp2_with fail
            go_roundw
            case rel => exact ⟨k + 1, n, by omega, by go_num, rfl, by rw [HTK.out, ← Bool.and_assoc, HFV.out, Bool.false_and]⟩
            case measure => simp [intOf]; omega
        · have hkk : t.args.take k = t.args := List.take_of_length_le (by omega)
          rw [hkk]
          clear hkk
          generalize hfv : (B && boundL e t.args) = fv at *
          have HFV := Lib.hid hfv; clear hfv
          go_wp2_with fail
          go_ret
          exact ⟨by rw [HFV.out]; rfl, _, rfl⟩
end Go.Proofs.Ytekhoanjpnjaeaa

