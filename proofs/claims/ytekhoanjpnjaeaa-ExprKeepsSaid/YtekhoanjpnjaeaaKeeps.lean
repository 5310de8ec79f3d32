/- Folding keeps values and errors, and what is folded is folded. No program in sight. -/
import Derived.Test.YtekhoanjpnjaeaaEvalsKit
namespace Go.Proofs.Ytekhoanjpnjaeaa
open Go.RowKit
mutual
/-- All numbers are of 64 bits. -/
def Ex.num : Ex → Prop | .node _ _ n args => In64 n ∧ Ex.numL args
def Ex.numL : List Ex → Prop | [] => True | t :: ts => t.num ∧ Ex.numL ts
end
theorem numL_iff (l : List Ex) : Ex.numL l ↔ ∀ t ∈ l, t.num := by
  induction l with
  | nil => simp [Ex.numL]
  | cons t ts ih => simp [Ex.numL, ih]
theorem num_eq (t : Ex) : t.num ↔ In64 t.n ∧ ∀ a ∈ t.args, a.num := by
  obtain ⟨op, name, n, args⟩ := t
  rw [Ex.num, numL_iff]; rfl
theorem rep_num {k : IntKind} {S : Nat → Prop} {w : World} : ∀ {d : Nat} {ts : List Ex} {v : Value}, RepS k S w d ts v → ∀ t ∈ ts, t.num
  | 0, ts, v, h, t, ht => by rw [h.zero.1] at ht; cases ht
  | d + 1, ts, v, h, t, ht => by
    obtain ⟨a, cap, rfl, hr⟩ := h
    obtain ⟨b, off, _, _, hi⟩ := hr (List.ne_nil_of_mem ht)
    obtain ⟨i, hil, rfl⟩ := List.getElem_of_mem ht
    obtain ⟨_, _, _, hf, c, _, hc⟩ := hi i hil
    exact (num_eq _).2 ⟨in64_of hf.n, rep_num hc⟩
theorem wrap_in (n : Int) : In64 (wrap64 n) := in64_of (wrap64_wf n)
theorem wrap_id {n : Int} (h : In64 n) : wrap64 n = n := IntWalk.wrap64_in n ⟨h.1, h.2⟩
theorem tr_in (b : Bool) : In64 (tr b) := by cases b <;> exact ⟨by decide, by decide⟩
theorem zero_in : In64 0 := ⟨by decide, by decide⟩
theorem unV_in (op a : Int) : In64 (unV op a).1 := by
  unfold unV
  split
  · exact wrap_in _
  · split
    · exact tr_in _
    · exact zero_in
theorem tmod_in {a : Int} (b : Int) (h : In64 a) : In64 (a.tmod b) := by
  have h1 : (a.tmod b).natAbs ≤ a.natAbs := by rw [Int.natAbs_tmod]; exact Nat.mod_le _ _
  have h2 : a < 0 → a.tmod b ≤ 0 := fun ha => by
    have h3 := Int.tmod_nonneg b (show 0 ≤ -a by omega)
    rw [Int.neg_tmod] at h3
    omega
  unfold In64 at *
  generalize a.tmod b = m at *
  by_cases ha : a < 0
  · have := h2 ha; omega
  · omega
theorem divV_in {op a : Int} (b : Int) (h : In64 a) : In64 (divV op a b) := by
  unfold divV
  repeat' split
  all_goals first | exact zero_in | exact wrap_in _ | exact tmod_in _ h
theorem ite_in {c : Prop} [Decidable c] {x y : Int × Int} (hx : In64 x.1) (hy : In64 y.1) : In64 (if c then x else y).1 := by split <;> assumption
theorem binV_in (op : Int) {a : Int} (b : Int) (h : In64 a) : In64 (binV op a b).1 := by
  unfold binV
  repeat' refine ite_in ?_ ?_
  all_goals first | exact wrap_in _ | exact tr_in _ | exact zero_in | exact divV_in _ h
theorem constV_in {t : Ex} (h : t.num) : In64 (constV t).1 := by
  unfold constV
  split
  · exact ((num_eq t).1 h).1
  · split
    · exact ⟨by decide, by decide⟩
    · split
      · exact zero_in
      · split
        · split
          · exact wrap_in _
          · exact zero_in
        · exact zero_in
theorem foldV_in (op : Int) {l : List Ex} (h : ∀ t ∈ l, t.num) : In64 (foldV op (valsC l)) := by
  have h0 : In64 ((valsC l)[0]?.getD 0) := by
    cases l with
    | nil => exact zero_in
    | cons x xs => exact constV_in (h x List.mem_cons_self)
  unfold foldV
  split
  · exact unV_in _ _
  · exact binV_in _ _ h0
theorem val_const (e : EnvD) (op : Int) (name : ByteArray) (n : Int) (l : List Ex) (h9 : 9 ≤ op) (hf : (Ex.node op name n l).formed = true) (hc : allC l = true) :
    boundT e (.node op name n l) = true ∧ valT e (.node op name n l) = foldV op (valsC l) := by
  obtain ⟨h1, h2⟩ := formed_args hf
  obtain ⟨_, h23⟩ := formed_op hf
  simp only [Ex.op, Ex.args] at h1 h2 h23
  have hcv := (allC_iff l).1 hc
  have hv : l.map (valT e) = valsC l := by
    unfold valsC
    exact List.map_congr_left fun a ha => (const_val e (h2 a ha) (hcv a ha)).2
  constructor
  · rw [boundT_eq]
    simp only [Ex.op, Ex.name, Ex.args, Bool.and_eq_true]
    refine ⟨?_, (boundL_iff _ _).2 fun a ha => (const_val e (h2 a ha) (hcv a ha)).1⟩
    unfold boundN
    rw [show decide (op = 5) = false by simp; omega, show decide (6 ≤ op ∧ op ≤ 8) = false by simp; omega]; rfl
  · rw [valT_eq]
    simp only [Ex.op, Ex.name, Ex.n, Ex.args]
    rw [hv]
    have hl : (valsC l).length = l.length := by simp [valsC]
    unfold valN foldV
    rw [if_neg (by omega), if_neg (by omega), if_neg (by omega), if_neg (by omega), if_neg (by omega), if_neg (by omega), if_neg (by omega), if_neg (by omega)]
    by_cases hu : op = 9 ∨ op = 10
    · have : opnd op = 1 := by rcases hu with rfl | rfl <;> decide
      rw [if_pos hu, if_pos (by omega)]
    · have : opnd op = 2 := by unfold opnd; rw [if_pos (by omega)]
      rw [if_neg hu, if_neg (by omega)]
theorem lit_val (e : EnvD) (op v : Int) (hv : In64 v) (hm : v ≠ -9223372036854775808) (h01 : (op = 10 ∨ 16 ≤ op) → v = 0 ∨ v = 1) : boundT e (litT op v) = true ∧ valT e (litT op v) = v ∧ (litT op v).num ∧ foldT (litT op v) = litT op v := by
  unfold litT
  by_cases h : op ≠ 10 ∧ op < 16
  · rw [if_pos h]
    by_cases hn : v < 0
    · rw [if_pos hn]
      have hw : wrap64 (-v) = -v := wrap_id (by unfold In64 at *; omega)
      have hw2 : wrap64 v = v := wrap_id hv
      rw [hw]
      refine ⟨?_, ?_, ?_, ?_⟩
      · simp [boundT, boundL, boundN]
      · rw [valT_eq]
        show (unV 9 (valT e (.node 1 ByteArray.empty (-v) []))).1 = v
        have h1 : valT e (.node 1 ByteArray.empty (-v) []) = -v := by rw [valT_eq]; rfl
        rw [h1]
        show wrap64 (- -v) = v
        rw [Int.neg_neg, hw2]
      · rw [num_eq]
        refine ⟨zero_in, fun a ha => ?_⟩
        have ha' : a = .node 1 ByteArray.empty (-v) [] := by simpa [Ex.args] using ha
        subst ha'
        rw [num_eq]
        exact ⟨by show In64 (-v); unfold In64 at *; omega, fun b hb => by cases hb⟩
      · have h1 : foldT (.node 1 ByteArray.empty (-v) []) = .node 1 ByteArray.empty (-v) [] := by rw [foldT_eq]; rfl
        rw [foldT_eq]
        simp only [Ex.op, Ex.name, Ex.n, Ex.args, List.map_cons, List.map_nil, h1]
        unfold foldN
        have hc : (decide ((9 : Int) ≤ 9) && allC [.node 1 ByteArray.empty (-v) []]) = true := by simp [allC, constV, Ex.op]
        have hfv : foldV 9 (valsC [.node 1 ByteArray.empty (-v) []]) = v := by
          show wrap64 (- -v) = v
          rw [Int.neg_neg, hw2]
        rw [if_pos hc, hfv, if_neg hm]
        unfold litT
        rw [if_pos (by decide), if_pos hn, hw]
    · rw [if_neg hn]
      refine ⟨by simp [boundT, boundL, boundN], by rw [valT_eq]; rfl, ?_, by rw [foldT_eq]; rfl⟩
      rw [num_eq]; exact ⟨hv, fun b hb => by cases hb⟩
  · rw [if_neg h]
    rcases h01 (by omega) with rfl | rfl
    · rw [if_neg (by decide)]
      refine ⟨by simp [boundT, boundL, boundN], by rw [valT_eq]; rfl, ?_, by rw [foldT_eq]; rfl⟩
      rw [num_eq]; exact ⟨zero_in, fun b hb => by cases hb⟩
    · rw [if_pos (by decide)]
      refine ⟨by simp [boundT, boundL, boundN], by rw [valT_eq]; rfl, ?_, by rw [foldT_eq]; rfl⟩
      rw [num_eq]; exact ⟨zero_in, fun b hb => by cases hb⟩
theorem fold_keeps (e : EnvD) : ∀ t : Ex, t.formed = true → t.num → boundT e (foldT t) = boundT e t ∧ valT e (foldT t) = valT e t ∧ (foldT t).num ∧ foldT (foldT t) = foldT t := by
  apply Ex.indT
  intro op name n args ih hf hnum
  obtain ⟨h1, h2⟩ := formed_args hf
  simp only [Ex.op, Ex.args] at h1 h2
  have hna : ∀ a ∈ args, a.num := ((num_eq _).1 hnum).2
  have hn : In64 n := ((num_eq _).1 hnum).1
  have hmf : (Ex.node op name n (args.map foldT)).formed = true := formed_mk (by rw [List.length_map]; exact h1) (fun t ht => by
    obtain ⟨y, hy, rfl⟩ := List.mem_map.1 ht
    exact foldT_formed y (h2 y hy))
  have hml : ∀ t ∈ args.map foldT, t.num := fun t ht => by
    obtain ⟨y, hy, rfl⟩ := List.mem_map.1 ht
    exact (ih y hy (h2 y hy) (hna y hy)).2.2.1
  have hmn : (Ex.node op name n (args.map foldT)).num := (num_eq _).2 ⟨hn, hml⟩
  have hmb : boundT e (.node op name n (args.map foldT)) = boundT e (.node op name n args) := by
    rw [boundT_eq, boundT_eq]
    simp only [Ex.op, Ex.name, Ex.args]
    congr 1
    rw [Bool.eq_iff_iff, boundL_iff, boundL_iff]
    constructor
    · intro h t ht; rw [← (ih t ht (h2 t ht) (hna t ht)).1]; exact h _ (List.mem_map.2 ⟨t, ht, rfl⟩)
    · intro h t ht
      obtain ⟨y, hy, rfl⟩ := List.mem_map.1 ht
      rw [(ih y hy (h2 y hy) (hna y hy)).1]; exact h y hy
  have hmv : valT e (.node op name n (args.map foldT)) = valT e (.node op name n args) := by
    rw [valT_eq, valT_eq]
    simp only [Ex.op, Ex.name, Ex.n, Ex.args, List.map_map]
    congr 1
    exact List.map_congr_left fun a ha => (ih a ha (h2 a ha) (hna a ha)).2.1
  have hmm : (args.map foldT).map foldT = args.map foldT := by
    rw [List.map_map]
    exact List.map_congr_left fun a ha => (ih a ha (h2 a ha) (hna a ha)).2.2.2
  have hself : foldN op name n (args.map foldT) = .node op name n (args.map foldT) → boundT e (foldT (.node op name n args)) = boundT e (.node op name n args) ∧ valT e (foldT (.node op name n args)) = valT e (.node op name n args) ∧ (foldT (.node op name n args)).num ∧ foldT (foldT (.node op name n args)) = foldT (.node op name n args) := fun h => by
    have hfe : foldT (.node op name n args) = .node op name n (args.map foldT) := by rw [foldT_eq]; exact h
    rw [hfe]
    refine ⟨hmb, hmv, hmn, ?_⟩
    rw [foldT_eq]
    simp only [Ex.op, Ex.name, Ex.n, Ex.args]
    rw [hmm]; exact h
  by_cases hc : (decide (9 ≤ op) && allC (args.map foldT)) = true
  · by_cases hv : foldV op (valsC (args.map foldT)) = -9223372036854775808
    · exact hself (by unfold foldN; rw [if_pos hc, if_pos hv])
    · have h9 : 9 ≤ op := of_decide_eq_true (Bool.and_eq_true _ _ ▸ hc).1
      have hac : allC (args.map foldT) = true := (Bool.and_eq_true _ _ ▸ hc).2
      obtain ⟨c1, c2⟩ := val_const e op name n (args.map foldT) h9 hmf hac
      have hl : ((valsC (args.map foldT)).length : Int) = opnd op := by simp only [valsC, List.length_map]; exact h1
      obtain ⟨l1, l2, l3, l4⟩ := lit_val e op (foldV op (valsC (args.map foldT))) (foldV_in op hml) hv (fun h => foldV_01 op _ h (formed_op hf).2 hl)
      have hfe : foldT (.node op name n args) = litT op (foldV op (valsC (args.map foldT))) := by
        rw [foldT_eq]
        show foldN op name n (args.map foldT) = _
        unfold foldN
        rw [if_pos hc, if_neg hv]
      rw [hfe]
      exact ⟨by rw [l1, ← hmb, c1], by rw [l2, ← hmv, c2], l3, l4⟩
  · exact hself (by unfold foldN; rw [if_neg hc])
theorem top_keeps (e : EnvD) (t : Ex) (hn : t.num) : evalV e (foldTop t) = evalV e t := by
  unfold foldTop
  split
  · rename_i h
    obtain ⟨k1, k2, _, _⟩ := fold_keeps e t h hn
    unfold evalV
    rw [k1, k2, foldT_formed t h, h]
  · rfl
theorem top_twice (t : Ex) (hn : t.num) : foldTop (foldTop t) = foldTop t := by
  unfold foldTop
  by_cases h : t.formed = true
  · obtain ⟨_, _, _, k4⟩ := fold_keeps env0 t h hn
    rw [if_pos h, if_pos (foldT_formed t h), k4]
  · rw [if_neg h, if_neg h]
end Go.Proofs.Ytekhoanjpnjaeaa
