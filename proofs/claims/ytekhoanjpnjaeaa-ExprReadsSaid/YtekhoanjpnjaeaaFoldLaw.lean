/- Plain facts on folding: what is folded keeps its form; constants have their values. -/
import Derived.Test.YtekhoanjpnjaeaaRefValue
namespace Go.Proofs.Ytekhoanjpnjaeaa
open Go.RowKit
mutual
theorem Ex.indT {P : Ex → Prop} (h : ∀ op name n args, (∀ t ∈ args, P t) → P (.node op name n args)) : ∀ t, P t
  | .node op name n args => h op name n args (Ex.indL h args)
theorem Ex.indL {P : Ex → Prop} (h : ∀ op name n args, (∀ t ∈ args, P t) → P (.node op name n args)) : ∀ (l : List Ex) (t : Ex), t ∈ l → P t
  | [], _, ht => by cases ht
  | x :: xs, t, ht => by
    rcases List.mem_cons.1 ht with e | e
    · rw [e]; exact Ex.indT h x
    · exact Ex.indL h xs t e
end
theorem litT_formed (op v : Int) : (litT op v).formed = true := by
  unfold litT
  repeat' split
  all_goals simp [Ex.formed, Ex.formedL, opnd]
theorem formed_mk {op n : Int} {name : ByteArray} {l : List Ex} (h1 : (l.length : Int) = opnd op) (h2 : ∀ t ∈ l, t.formed = true) : (Ex.node op name n l).formed = true := by
  rw [Ex.formed_eq]
  rw [Bool.and_eq_true]
  exact ⟨decide_eq_true h1, (formedL_iff _).2 h2⟩
theorem foldT_formed : ∀ t : Ex, t.formed = true → (foldT t).formed = true := by
  apply Ex.indT
  intro op name n args ih hf
  obtain ⟨h1, h2⟩ := formed_args hf
  simp only [Ex.args, Ex.op] at h1 h2
  have hm : (Ex.node op name n (args.map foldT)).formed = true := formed_mk (by rw [List.length_map]; exact h1) (fun t ht => by
    obtain ⟨y, hy, rfl⟩ := List.mem_map.1 ht
    exact ih y hy (h2 y hy))
  rw [foldT_eq]
  simp only [Ex.op, Ex.name, Ex.n, Ex.args]
  unfold foldN
  split
  · split
    · exact hm
    · exact litT_formed _ _
  · exact hm
theorem formed_op {t : Ex} (h : t.formed = true) : 1 ≤ t.op ∧ t.op ≤ 23 := by
  have h1 := (formed_args h).1
  unfold opnd at h1
  repeat' split at h1
  all_goals omega
/-- A constant has its value in every environment, and needs no name. -/
theorem const_val (e : EnvD) {a : Ex} (hf : a.formed = true) (hc : (constV a).2 = true) : boundT e a = true ∧ valT e a = (constV a).1 := by
  obtain ⟨op, name, n, args⟩ := a
  obtain ⟨h1, h2⟩ := formed_args hf
  simp only [Ex.op, Ex.args] at h1 h2
  by_cases e1 : op = 1
  · subst e1
    have : args = [] := by have : opnd 1 = 0 := by decide
                           cases args with | nil => rfl | cons _ _ => simp [this] at h1; omega
    subst this
    simp [boundT, boundL, boundN, valT, valN, constV, Ex.op, Ex.n]
  by_cases e2 : op = 2
  · subst e2
    have : args = [] := by have : opnd 2 = 0 := by decide
                           cases args with | nil => rfl | cons _ _ => simp [this] at h1; omega
    subst this
    simp [boundT, boundL, boundN, valT, valN, constV, Ex.op]
  by_cases e3 : op = 3
  · subst e3
    have : args = [] := by have : opnd 3 = 0 := by decide
                           cases args with | nil => rfl | cons _ _ => simp [this] at h1; omega
    subst this
    simp [boundT, boundL, boundN, valT, valN, constV, Ex.op]
  by_cases e9 : op = 9
  · subst e9
    have h9 : opnd 9 = 1 := by decide
    rw [h9] at h1
    match args, h1, h2 with
    | [x], _, h2 =>
      simp only [constV, Ex.op, Ex.args] at hc
      obtain ⟨xop, xname, xn, xargs⟩ := x
      have hx1 : xop = 1 := by simpa using hc
      subst hx1
      have hxf := formed_args (h2 _ List.mem_cons_self)
      have : xargs = [] := by
        have h0 : opnd 1 = 0 := by decide
        have := hxf.1
        simp only [Ex.op, Ex.args, h0] at this
        cases xargs with | nil => rfl | cons _ _ => simp at this; omega
      subst this
      simp [boundT, boundL, boundN, valT, valL, valN, constV, Ex.op, Ex.n, Ex.args, unV]
    | [], h, _ => simp at h
    | _ :: _ :: _, h, _ => simp at h; omega
  · have : (constV (.node op name n args)).2 = false := by simp [constV, Ex.op, e1, e2, e3, e9]
    rw [this] at hc; cases hc
theorem allC_iff (l : List Ex) : allC l = true ↔ ∀ a ∈ l, (constV a).2 = true := by unfold allC; simp
def env0 : EnvD := ⟨[], [], [], [], 0⟩
theorem val_fold (op : Int) (name : ByteArray) (n : Int) (l : List Ex) (h9 : 9 ≤ op) (hf : (Ex.node op name n l).formed = true) (hc : allC l = true) :
    boundT env0 (.node op name n l) = true ∧ valT env0 (.node op name n l) = foldV op (valsC l) := by
  obtain ⟨h1, h2⟩ := formed_args hf
  obtain ⟨_, h23⟩ := formed_op hf
  simp only [Ex.op, Ex.args] at h1 h2 h23
  have hcv := (allC_iff l).1 hc
  have hv : l.map (valT env0) = valsC l := by
    unfold valsC
    exact List.map_congr_left fun a ha => (const_val env0 (h2 a ha) (hcv a ha)).2
  constructor
  · rw [boundT_eq]
    simp only [Ex.op, Ex.name, Ex.args, Bool.and_eq_true]
    refine ⟨?_, (boundL_iff _ _).2 fun a ha => (const_val env0 (h2 a ha) (hcv a ha)).1⟩
    unfold boundN
    rw [show decide (op = 5) = false by simp; omega, show decide (6 ≤ op ∧ op ≤ 8) = false by simp; omega]; rfl
  · rw [valT_eq]
    simp only [Ex.op, Ex.name, Ex.n, Ex.args]
    rw [hv]
    have hl : (valsC l).length = l.length := by simp [valsC]
    unfold valN foldV
    rw [if_neg (by omega), if_neg (by omega), if_neg (by omega), if_neg (by omega), if_neg (by omega), if_neg (by omega), if_neg (by omega), if_neg (by omega)]
    by_cases hu : op = 9 ∨ op = 10
    · have : opnd op = 1 := by rcases hu with rfl | rfl <;> decide
      rw [if_pos hu, if_pos (by omega)]
    · have : opnd op = 2 := by unfold opnd; rw [if_pos (by omega)]
      rw [if_neg hu, if_neg (by omega)]
theorem tr_01 (b : Bool) : tr b = 0 ∨ tr b = 1 := by cases b <;> simp [tr]
theorem foldV_01 (op : Int) (vs : List Int) (h : op = 10 ∨ 16 ≤ op) (h23 : op ≤ 23) (hl : (vs.length : Int) = opnd op) : foldV op vs = 0 ∨ foldV op vs = 1 := by
  unfold foldV
  rcases h with rfl | h
  · have : opnd 10 = 1 := by decide
    rw [if_pos (by omega)]; exact tr_01 _
  · have : opnd op = 2 := by unfold opnd; rw [if_pos (by omega)]
    rw [if_neg (by omega)]
    rcases (show op = 16 ∨ op = 17 ∨ op = 18 ∨ op = 19 ∨ op = 20 ∨ op = 21 ∨ op = 22 ∨ op = 23 by omega) with rfl | rfl | rfl | rfl | rfl | rfl | rfl | rfl <;> exact tr_01 _
theorem lit_same (op v : Int) (h01 : (op = 10 ∨ 16 ≤ op) → v = 0 ∨ v = 1) : litT op v = rlit v (op == 10 || decide (16 ≤ op)) := by
  by_cases h : op = 10 ∨ 16 ≤ op
  · have hb : (op == 10 || decide (16 ≤ op)) = true := by rcases h with h | h <;> simp [h]
    rw [hb]
    unfold litT rlit
    rw [if_neg (show ¬ (op ≠ 10 ∧ op < 16) by omega), if_pos rfl]
    rcases h01 h with rfl | rfl
    · rfl
    · rfl
  · have hb : (op == 10 || decide (16 ≤ op)) = false := by simp; omega
    rw [hb]
    unfold litT rlit
    rw [if_pos (show op ≠ 10 ∧ op < 16 by omega)]
    rfl
end Go.Proofs.Ytekhoanjpnjaeaa
