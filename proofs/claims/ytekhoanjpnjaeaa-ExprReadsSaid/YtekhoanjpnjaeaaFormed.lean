/- The contracts of expr.operands and expr.formed. -/
import Derived.Test.YtekhoanjpnjaeaaOps
import Derived.Test.YtekhoanjpnjaeaaRefOps
import Derived.Test.YtekhoanjpnjaeaaTree
import Derived.Deep.QuietTactic
import Derived.BigQuiet
namespace Go.Proofs.Ytekhoanjpnjaeaa
open Go.RowKit
def opnd (op : Int) : Int := if 11 ≤ op ∧ op ≤ 23 then 2 else if op = 6 ∨ op = 7 ∨ op = 9 ∨ op = 10 then 1 else if 1 ≤ op ∧ op ≤ 8 then 0 else -1
mutual
def Ex.formed : Ex → Bool | .node op _ _ args => decide ((args.length : Int) = opnd op) && Ex.formedL args
def Ex.formedL : List Ex → Bool | [] => true | t :: ts => t.formed && Ex.formedL ts
end
theorem Ex.formed_eq (t : Ex) : t.formed = (decide ((t.args.length : Int) = opnd t.op) && Ex.formedL t.args) := by
  cases t; rw [Ex.formed]; rfl
theorem formedL_take (l : List Ex) (k : Nat) (h : k < l.length) : Ex.formedL (l.take (k + 1)) = (Ex.formedL (l.take k) && l[k].formed) := by
  induction l generalizing k with
  | nil => simp at h
  | cons t ts ih =>
    cases k with
    | zero => simp [Ex.formedL]
    | succ k => simp [Ex.formedL, ih k (by simpa using h), Bool.and_assoc]
theorem formedL_false (l : List Ex) (k : Nat) (h : k < l.length) (hf : l[k].formed = false) : Ex.formedL l = false := by
  induction l generalizing k with
  | nil => simp at h
  | cons t ts ih =>
    cases k with
    | zero => simp at hf; simp [Ex.formedL, hf]
    | succ k => simp at hf; simp [Ex.formedL, ih k (by simpa using h) hf]

theorem operands_any (op : Int) (w : World) : Calls Try.prog 111 #[.int .u8 op] w fun e w' => e = .returned (.int .i64 (opnd op)) ∧ w' = w := by
  generalize hV : opnd op = V
  have HV := Lib.hid hV; clear hV
  go_enter Try.func111, Try.ntmps111
  go_wp2
  all_goals go_ret
  all_goals refine ⟨ret_int ?_, rfl⟩
  all_goals rw [← HV.out]
  all_goals (try simp only [beq_iff_eq, beq_eq_false_iff_ne, ne_eq] at *)
  all_goals (unfold opnd; (repeat' split) <;> omega)

theorem formed_any (d : Nat) : ∀ (S : Nat → Prop) (t : Ex) (b off : Nat) (w : World), RepAt .u8 S w d t b off →
    Calls Try.prog 70 #[.pointer (some ⟨b, off, none⟩)] w fun e w' => e = .returned (.bool t.formed) ∧ ∃ n, w' = w.drewN n := by
  induction d using Nat.strongRecOn with
  | _ d ih =>
    intro S t b off w h
    have IH := Lib.hid ih; clear ih
    obtain ⟨h0, h1, h2, hf, c, h3, hc⟩ := h
    obtain ⟨a, cap, rfl⟩ := hc.shape
    have HC := Lib.hid hc; clear hc
    have hlen := hf.len
    by_cases he : (t.args.length : Int) = opnd t.op
    · have he' : ((t.args.length : Int) != opnd t.op) = false := by simp [he]
      have HE := Lib.hid he; clear he
      have HT := Lib.hid (t.formed_eq)
      rw [HT.out]
      have HD := Lib.hid (show decide ((t.args.length : Int) = opnd t.op) = true by simp [HE.out])
      rw [HD.out, Bool.true_and]
      go_enter Try.func70, Try.ntmps70
      go_wp2_with fail
      go_quiet ((go_at_call 111; exact Calls.quiet_of_same (operands_any _ _)))
      go_wp2_with fail
      go_loopw [20] (fun i wr => ∃ k n : Nat, k ≤ t.args.length ∧ i = .int .i64 k ∧ wr = w.drewN n ∧ Hid (Ex.formedL (t.args.take k) = true)) (fun i _ => t.args.length - (intOf i).toNat)
      case atStart => exact ⟨0, _, Nat.zero_le _, rfl, rfl, Lib.hid (by simp [Ex.formedL])⟩
      case round =>
        obtain ⟨k, n, hk, rfl, rfl, HF⟩ := hrel
        by_cases hlt : k < t.args.length
        · have hne : t.args ≠ [] := by intro e; rw [e] at hlt; simp at hlt
          obtain ⟨d', b', off', rfl, rfl, _, _, hat⟩ := HC.out.at hne
          have hk' := hat k hlt
          clear hat
          have HK := Lib.hid hk'; clear hk'
          have hth := formedL_take t.args k hlt
          have HTH := Lib.hid hth; clear hth
          have HFF := Lib.hid (formedL_false t.args k hlt)
          clear hne
          cases hfk : t.args[k].formed with
          | true =>
            have HFK := Lib.hid hfk; clear hfk
            go_wp2_with fail
            refine (IH.out d' (by omega) S t.args[k] b' (off' + k * 4) (w.drewN n) (HK.out.drewN n)).mono ?_
            rw [HFK.out]
            rintro e w' ⟨rfl, m, rfl⟩
            rw [World.drewN_drewN]
            go_wp2_with fail
            go_roundw
            case rel => exact ⟨k + 1, n + m, by omega, by go_num, rfl, Lib.hid (by rw [HTH.out, HF.out, HFK.out]; rfl)⟩
            case measure => simp [intOf]; omega
          | false =>
            have HFK := Lib.hid hfk; clear hfk
            go_wp2_with fail
            refine (IH.out d' (by omega) S t.args[k] b' (off' + k * 4) (w.drewN n) (HK.out.drewN n)).mono ?_
            rw [HFK.out]
            rintro e w' ⟨rfl, m, rfl⟩
            rw [World.drewN_drewN]
            go_wp2_with fail
            go_ret
            exact ⟨by rw [HFF.out HFK.out]; rfl, _, rfl⟩
        · have hkk : k = t.args.length := by omega
          have HF' : Hid (Ex.formedL t.args = true) := Lib.hid (by have := HF.out; rwa [hkk, List.take_length] at this)
          clear hkk
          go_wp2_with fail
          go_ret
          exact ⟨by rw [HF'.out]; rfl, _, rfl⟩
    · have he' : ((t.args.length : Int) != opnd t.op) = true := by simp [he]
      have HT := Lib.hid (show t.formed = false by rw [t.formed_eq]; simp [he])
      clear he
      rw [HT.out]
      go_enter Try.func70, Try.ntmps70
      go_wp2_with fail
      go_quiet ((go_at_call 111; exact Calls.quiet_of_same (operands_any _ _)))
      go_wp2_with fail
      go_ret
      exact ⟨rfl, _, rfl⟩
end Go.Proofs.Ytekhoanjpnjaeaa
