/- The contracts of ref06.Arity, ref10.Formed, constant and literal. -/
import Derived.Test.YtekhoanjpnjaeaaFoldTop
import Derived.Test.YtekhoanjpnjaeaaRefOps
namespace Go.Proofs.Ytekhoanjpnjaeaa
open Go.RowKit

theorem arity_any (op : Int) (w : World) : Calls Try.prog 109 #[.int .i64 op] w fun e w' => e = .returned (.int .i64 (opnd op)) ∧ w' = w := by
  generalize hV : opnd op = V
  have HV := Lib.hid hV; clear hV
  go_enter Try.func109, Try.ntmps109
  go_wp2
  all_goals go_ret
  all_goals refine ⟨ret_int ?_, rfl⟩
  all_goals rw [← HV.out]
  all_goals (try simp only [beq_iff_eq, beq_eq_false_iff_ne, ne_eq] at *)
  all_goals (unfold opnd; (repeat' split) <;> omega)

theorem rformed_any (d : Nat) : ∀ (S : Nat → Prop) (t : Ex) (c : Value) (w : World), Flds .i64 t → RepS .i64 S w d t.args c →
    Calls Try.prog 72 #[agg .i64 t c] w fun e w' => e = .returned (.bool t.formed) ∧ Below w.heap.size w w' := by
  induction d using Nat.strongRecOn with
  | _ d ih =>
    intro S t c w hf hr
    have IH := Lib.hid ih; clear ih
    obtain ⟨a, cap, rfl⟩ := hr.shape
    have HF := Lib.hid hf
    have HR := Lib.hid hr; clear hr
    have hlen := hf.len
    clear hf
    have HB0 : Hid (∀ o n, Below w.heap.size w ((w.alloc o).drewN n)) := Lib.hid fun o n => ((Below.refl _ _).alloc (Nat.le_refl _) _).trans (below_drewN _ _ _)
    by_cases he : (t.args.length : Int) = opnd t.op
    · have he' : (opnd t.op != (t.args.length : Int)) = false := by simp [he]
      have HT := Lib.hid (show t.formed = Ex.formedL t.args by rw [t.formed_eq]; simp [he])
      clear he
      rw [HT.out]
      unfold agg
      go_enter Try.func72, Try.ntmps72
      go_wp2_with fail
      go_quiet ((go_at_call 109; exact Calls.quiet_of_same (arity_any _ _)))
      go_wp2_with fail
      go_loopw [15] (fun i wr => ∃ k : Nat, k ≤ t.args.length ∧ i = .int .i64 k ∧ Hid (Below w.heap.size w wr) ∧ Hid (Ex.formedL (t.args.take k) = true)) (fun i _ => t.args.length - (intOf i).toNat)
      case atStart => exact ⟨0, Nat.zero_le _, rfl, Lib.hid (HB0.out _ _), Lib.hid (by simp [Ex.formedL])⟩
      case round =>
        obtain ⟨k, hk, rfl, HB, HFL⟩ := hrel
        by_cases hlt : k < t.args.length
        · have hne : t.args ≠ [] := by intro e; rw [e] at hlt; simp at hlt
          obtain ⟨d', b', off', rfl, rfl, _, _, hat⟩ := HR.out.at hne
          obtain ⟨g0, g1, g2, gf, c, g3, gc⟩ := (hat k hlt).below HB.out
          obtain ⟨ac, capc, rfl⟩ := gc.shape
          clear hat hne
          have HG := Lib.hid (And.intro gf gc); clear gf gc
          have hb := cell_lt g0
          have HTH := Lib.hid (formedL_take t.args k hlt)
          have HFF := Lib.hid (formedL_false t.args k hlt)
          generalize hex : t.args[k] = x at *
          have HEX := Lib.hid hex; clear hex
          go_wp2_with fail
          generalize hw2 : wr.alloc (.cells #[.int .i64 x.op, .string x.name, .int .i64 x.n, .slice ac x.args.length capc] 36) = w2
          have hB2 : Below wr.heap.size wr w2 := by rw [← hw2]; exact (Below.refl _ _).alloc (Nat.le_refl _) _
          clear hw2
          have HB2 := Lib.hid hB2; clear hB2
          refine (IH.out d' (by omega) S x (.slice ac x.args.length capc) w2 HG.out.1 (HG.out.2.below HB2.out)).mono ?_
          cases hfk : x.formed with
          | true =>
            have HFK := Lib.hid hfk; clear hfk
            rintro e w3 ⟨rfl, hb3⟩
            have HB3 := Lib.hid (HB.out.trans ((HB2.out.trans (hb3.mono HB2.out.size)).mono HB.out.size)); clear hb3
            go_wp2_with fail
            go_roundw
            case rel => exact ⟨k + 1, by omega, by go_num, HB3, Lib.hid (by rw [HTH.out, HFL.out, HFK.out]; rfl)⟩
            case measure => simp [intOf]; omega
          | false =>
            have HFK := Lib.hid hfk; clear hfk
            rintro e w3 ⟨rfl, hb3⟩
            have HB3 := Lib.hid (HB.out.trans ((HB2.out.trans (hb3.mono HB2.out.size)).mono HB.out.size)); clear hb3
            go_wp2_with fail
            go_ret
            exact ⟨by rw [HFF.out HFK.out]; rfl, HB3.out⟩
        · have hkk : k = t.args.length := by omega
          have HF' : Hid (Ex.formedL t.args = true) := Lib.hid (by have := HFL.out; rwa [hkk, List.take_length] at this)
          clear hkk
          go_wp2_with fail
          go_ret
          exact ⟨by rw [HF'.out]; rfl, HB.out⟩
    · have he' : (opnd t.op != (t.args.length : Int)) = true := by simp; omega
      have HT := Lib.hid (show t.formed = false by rw [t.formed_eq]; simp [he])
      clear he
      rw [HT.out]
      unfold agg
      go_enter Try.func72, Try.ntmps72
      go_wp2_with fail
      go_quiet ((go_at_call 109; exact Calls.quiet_of_same (arity_any _ _)))
      go_wp2_with fail
      go_ret
      exact ⟨rfl, HB0.out _ _⟩

def rconst (t : Ex) : Bool := decide (t.op ≤ 3) || (t.op == 9 && (match t.args with | a :: _ => a.op == 1 | [] => false))
theorem rconst_eq {t : Ex} (h : 1 ≤ t.op) : rconst t = (constV t).2 := by
  unfold rconst constV
  by_cases h3 : t.op ≤ 3
  · rcases (show t.op = 1 ∨ t.op = 2 ∨ t.op = 3 by omega) with e | e | e <;> simp [e]
  · rw [if_neg (show ¬ t.op = 1 by omega), if_neg (show ¬ t.op = 2 by omega), if_neg (show ¬ t.op = 3 by omega)]
    by_cases h9 : t.op = 9
    · rw [h9]; cases t.args <;> simp
    · simp [h3, h9]

theorem rconst_any (d : Nat) (S : Nat → Prop) (t : Ex) (c : Value) (w : World) (_hf : Flds .i64 t) (hr : RepS .i64 S w d t.args c) (h9 : t.op = 9 → t.args ≠ []) :
    Calls Try.prog 114 #[agg .i64 t c] w fun e w' => e = .returned (.bool (rconst t)) ∧ Below w.heap.size w w' := by
  obtain ⟨a, cap, rfl⟩ := hr.shape
  have HR := Lib.hid hr; clear hr
  clear _hf
  obtain ⟨op, name, n, args⟩ := t
  unfold agg
  simp only [Ex.op, Ex.name, Ex.n, Ex.args] at *
  by_cases h3 : op ≤ 3
  · have HV := Lib.hid (show rconst (.node op name n args) = true by simp [rconst, Ex.op, h3])
    rw [HV.out]
    go_enter Try.func114, Try.ntmps114
    go_wp2
    go_ret
    exact ⟨rfl, (Below.refl _ _).alloc (Nat.le_refl _) _⟩
  · by_cases e9 : op = 9
    · subst e9
      have hne := h9 rfl
      obtain ⟨d', b', off', rfl, rfl, _, _, hat⟩ := HR.out.at hne
      cases args with
      | nil => exact absurd rfl hne
      | cons x xs =>
        have HV := Lib.hid (show rconst (.node 9 name n (x :: xs)) = (x.op == 1) by simp [rconst, Ex.op, Ex.args])
        rw [HV.out]
        obtain ⟨g0, _⟩ := hat 0 (by simp)
        simp only [List.getElem_cons_zero, Nat.zero_mul, Nat.add_zero] at g0
        have hl' : 0 < (x :: xs).length := by simp
        have hb := cell_lt g0
        clear hat h9 hne h3
        generalize (x :: xs).length = L at *
        go_enter Try.func114, Try.ntmps114
        go_wp2
        go_ret
        exact ⟨rfl, (Below.refl _ _).alloc (Nat.le_refl _) _⟩
    · have HV := Lib.hid (show rconst (.node op name n args) = false by simp [rconst, Ex.op, h3, e9])
      rw [HV.out]
      have e9' : (op == 9) = false := by simpa using e9
      clear e9 h9
      go_enter Try.func114, Try.ntmps114
      go_wp2
      go_ret
      exact ⟨rfl, (Below.refl _ _).alloc (Nat.le_refl _) _⟩

/-- the reference's literal; 'truth': v is 0 or 1 -/
def rlit (v : Int) (b : Bool) : Ex :=
  if b = true then .node (3 - v) ByteArray.empty 0 [] else if v < 0 then .node 9 ByteArray.empty 0 [.node 1 ByteArray.empty (wrap64 (-v)) []] else .node 1 ByteArray.empty v []
theorem rlit_any (v : Int) (b : Bool) (w : World) (hv : b = true → 0 ≤ v ∧ v ≤ 1) :
    Calls Try.prog 115 #[.int .i64 v, .bool b] w fun e w' => Below w.heap.size w w' ∧ ∃ c, e = .returned (agg .i64 (rlit v b) c) ∧ RepS .i64 (fun x => w.heap.size ≤ x) w' 1 (rlit v b).args c := by
  cases b with
  | true =>
    obtain ⟨h0, h1⟩ := hv rfl
    rw [show rlit v true = .node (3 - v) ByteArray.empty 0 [] from rfl]
    unfold agg
    simp only [Ex.op, Ex.name, Ex.n, Ex.args]
    go_enter Try.func115, Try.ntmps115
    go_wp2
    exact bodyPost_ret (v := .agg #[.int .i64 (3 - v), .string ByteArray.empty, .int .i64 0, .slice none 0 0]) (by simp [results, Try.results115, go_sem]; rfl) rfl ⟨(Below.refl _ _).alloc (Nat.le_refl _) _, _, rfl, RepS.nil _ _ _⟩
  | false =>
    clear hv
    by_cases hn : v < 0
    · rw [show rlit v false = .node 9 ByteArray.empty 0 [.node 1 ByteArray.empty (wrap64 (-v)) []] by unfold rlit; rw [if_neg (by simp), if_pos hn]]
      unfold agg
      simp only [Ex.op, Ex.name, Ex.n, Ex.args]
      go_enter Try.func115, Try.ntmps115
      go_wp2
      exact bodyPost_ret (v := .agg #[.int .i64 9, .string ByteArray.empty, .int .i64 0, .slice (some ⟨w.heap.size + 1, 0, none⟩) 1 1]) (by simp [results, Try.results115, go_sem]; rfl) rfl
        ⟨((Below.refl _ _).alloc (Nat.le_refl _) _).alloc (by simp) _, _, rfl, rep_one _ _ _ _ _ _ (by simp) (Nat.le_succ _) (by decide) (wrap64_wf _) _ _⟩
    · have hn' : 0 ≤ v := by omega
      rw [show rlit v false = .node 1 ByteArray.empty v [] by unfold rlit; rw [if_neg (by simp), if_neg hn]]
      clear hn
      unfold agg
      simp only [Ex.op, Ex.name, Ex.n, Ex.args]
      go_enter Try.func115, Try.ntmps115
      go_wp2
      exact bodyPost_ret (v := .agg #[.int .i64 1, .string ByteArray.empty, .int .i64 v, .slice none 0 0]) (by simp [results, Try.results115, go_sem]; rfl) rfl ⟨(Below.refl _ _).alloc (Nat.le_refl _) _, _, rfl, RepS.nil _ _ _⟩
end Go.Proofs.Ytekhoanjpnjaeaa
