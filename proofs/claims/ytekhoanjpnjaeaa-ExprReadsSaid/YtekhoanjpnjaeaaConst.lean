/- The contracts of expr.constant and expr.literal. -/
import Derived.Test.YtekhoanjpnjaeaaOps
import Derived.Test.YtekhoanjpnjaeaaArith
import Derived.Test.YtekhoanjpnjaeaaClone
namespace Go.Proofs.Ytekhoanjpnjaeaa
open Go.RowKit
def constV (t : Ex) : Int × Bool :=
  if t.op = 1 then (t.n, true) else if t.op = 2 then (1, true) else if t.op = 3 then (0, true) else if t.op = 9 then (match t.args with | a :: _ => (wrap64 (-a.n), a.op == 1) | [] => (0, false)) else (0, false)
def litT (op v : Int) : Ex :=
  if op ≠ 10 ∧ op < 16 then (if v < 0 then .node 9 ByteArray.empty 0 [.node 1 ByteArray.empty (wrap64 (-v)) []] else .node 1 ByteArray.empty v [])
  else if v ≠ 0 then .node 2 ByteArray.empty 0 [] else .node 3 ByteArray.empty 0 []

theorem constant_any (d : Nat) (S : Nat → Prop) (t : Ex) (b off : Nat) (w : World) (h : RepAt .u8 S w d t b off) (h9 : t.op = 9 → t.args ≠ []) :
    Calls Try.prog 112 #[.pointer (some ⟨b, off, none⟩)] w fun e w' => e = .returned (.tuple #[.int .i64 (constV t).1, .bool (constV t).2]) ∧ ∃ n, w' = w.drewN n := by
  obtain ⟨h0, h1, h2, hf, c, h3, hc⟩ := h
  obtain ⟨a, cap, rfl⟩ := hc.shape
  have HC := Lib.hid hc; clear hc
  have hlen := hf.len
  obtain ⟨op, name, n, args⟩ := t
  simp only [Ex.op, Ex.name, Ex.n, Ex.args] at *
  by_cases e1 : op = 1
  · subst e1
    go_enter Try.func112, Try.ntmps112
    go_wp2
    go_ret2
    exact ⟨rfl, 0, rfl⟩
  by_cases e2 : op = 2
  · subst e2
    go_enter Try.func112, Try.ntmps112
    go_wp2
    go_ret2
    exact ⟨rfl, 0, rfl⟩
  by_cases e3 : op = 3
  · subst e3
    go_enter Try.func112, Try.ntmps112
    go_wp2
    go_ret2
    exact ⟨rfl, 0, rfl⟩
  by_cases e9 : op = 9
  · subst e9
    obtain ⟨d', b', off', rfl, rfl, _, _, hat⟩ := HC.out.at (h9 rfl)
    clear e1 e2 e3
    cases args with
    | nil => exact absurd rfl (h9 rfl)
    | cons x xs =>
      clear h9
      obtain ⟨g0, g1, g2, gf, c, g3, gc⟩ := hat 0 (by simp)
      simp only [List.getElem_cons_zero, Nat.zero_mul, Nat.add_zero] at *
      have hl : (0 : Int) < ((x :: xs).length : Int) := by simp only [List.length_cons]; omega
      have hl' : 0 < (x :: xs).length := by simp
      clear gf gc hat HC
      generalize (x :: xs).length = L at *
      go_enter Try.func112, Try.ntmps112
      go_wp2_with fail
      go_quiet (fail)
      go_wp2_with fail
      go_ret2
      exact ⟨rfl, _, rfl⟩
  · have HV := Lib.hid (show constV (.node op name n args) = (0, false) by simp [constV, Ex.op, e1, e2, e3, e9])
    rw [HV.out]
    have e1' : (op == 1) = false := by simpa using e1
    have e2' : (op == 2) = false := by simpa using e2
    have e3' : (op == 3) = false := by simpa using e3
    have e9' : (op == 9) = false := by simpa using e9
    clear e1 e2 e3 e9 h9
    go_enter Try.func112, Try.ntmps112
    go_wp2
    go_ret2
    exact ⟨rfl, 0, rfl⟩

theorem rep_one (k : IntKind) (S : Nat → Prop) (w : World) (o : Int) (n : Int) (b : Nat) (hb : b = w.heap.size) (hS : S b) (h1 : (Lit.int .u8 o).wf = true) (h2 : (Lit.int .i64 n).wf = true) (T : TypeId) (cap : Nat) :
    RepS k S (w.alloc (.cells #[.int k o, .string ByteArray.empty, .int .i64 n, .slice none 0 0] T)) 1 [.node o ByteArray.empty n []] (.slice (some ⟨b, 0, none⟩) 1 cap) := by
  subst hb
  refine RepS.mk rfl hS (fun i hi => ?_)
  have : i = 0 := by simp at hi; exact hi
  subst this
  have hc : ∀ j (v : Value), #[Value.int k o, .string ByteArray.empty, .int .i64 n, .slice none 0 0][j]? = some v → (w.alloc (.cells #[.int k o, .string ByteArray.empty, .int .i64 n, .slice none 0 0] T)).cell? ⟨w.heap.size, j, none⟩ = some v := by
    intro j v h
    simp only [World.cell?, alloc_last]
    exact h
  exact ⟨hc 0 _ rfl, hc 1 _ rfl, hc 2 _ rfl, ⟨h1, h2, Nat.zero_le _, Nat.zero_lt_succ _⟩, _, hc 3 _ rfl, RepS.nil _ _ _⟩
theorem literal_any (op v : Int) (w : World) (hv0 : -9223372036854775808 < v) (hv1 : v ≤ 9223372036854775807) :
    Calls Try.prog 113 #[.int .u8 op, .int .i64 v] w fun e w' => Below w.heap.size w w' ∧ ∃ c, e = .returned (.agg #[.int .u8 (litT op v).op, .string (litT op v).name, .int .i64 (litT op v).n, c]) ∧ RepS .u8 (fun b => w.heap.size ≤ b) w' 1 (litT op v).args c := by
  have HV := Lib.hid (And.intro hv0 hv1); clear hv0 hv1
  by_cases hn : op ≠ 10 ∧ op < 16
  · have hn1 : (op != 10) = true := by simpa using hn.1
    have hn2 : op < 16 := hn.2
    by_cases hv : v < 0
    · rw [show litT op v = .node 9 ByteArray.empty 0 [.node 1 ByteArray.empty (wrap64 (-v)) []] by unfold litT; rw [if_pos hn, if_pos hv]]
      clear hn
      simp only [Ex.op, Ex.name, Ex.n, Ex.args]
      go_enter Try.func113, Try.ntmps113
      go_wp2
      exact bodyPost_ret (v := .agg #[.int .u8 9, .string ByteArray.empty, .int .i64 0, .slice (some ⟨w.heap.size + 1, 0, none⟩) 1 1]) (by simp [results, Try.results113, go_sem]; rfl) rfl
        ⟨((Below.refl _ _).alloc (Nat.le_refl _) _).alloc (by simp) _, _, rfl, rep_one _ _ _ _ _ _ (by simp) (Nat.le_succ _) (by decide) (wrap64_wf _) _ _⟩
    · have hv' : 0 ≤ v := by omega
      rw [show litT op v = .node 1 ByteArray.empty v [] by unfold litT; rw [if_pos hn, if_neg hv]]
      clear hn hv
      simp only [Ex.op, Ex.name, Ex.n, Ex.args]
      go_enter Try.func113, Try.ntmps113
      go_wp2
      exact bodyPost_ret (v := .agg #[.int .u8 1, .string ByteArray.empty, .int .i64 v, .slice none 0 0]) (by simp [results, Try.results113, go_sem]; rfl) rfl ⟨(Below.refl _ _).alloc (Nat.le_refl _) _, _, rfl, RepS.nil _ _ _⟩
  · by_cases hv : v = 0
    · subst hv
      rw [show litT op 0 = .node 3 ByteArray.empty 0 [] by unfold litT; rw [if_neg hn]; rfl]
      simp only [Ex.op, Ex.name, Ex.n, Ex.args]
      by_cases h10 : op = 10
      · subst h10
        clear hn
        go_enter Try.func113, Try.ntmps113
        go_wp2
        exact bodyPost_ret (v := .agg #[.int .u8 3, .string ByteArray.empty, .int .i64 0, .slice none 0 0]) (by simp [results, Try.results113, go_sem]; rfl) rfl ⟨(Below.refl _ _).alloc (Nat.le_refl _) _, _, rfl, RepS.nil _ _ _⟩
      · have hn1 : (op != 10) = true := by simpa using h10
        have hn2 : ¬ op < 16 := fun h => hn ⟨h10, h⟩
        clear hn h10
        go_enter Try.func113, Try.ntmps113
        go_wp2
        exact bodyPost_ret (v := .agg #[.int .u8 3, .string ByteArray.empty, .int .i64 0, .slice none 0 0]) (by simp [results, Try.results113, go_sem]; rfl) rfl ⟨(Below.refl _ _).alloc (Nat.le_refl _) _, _, rfl, RepS.nil _ _ _⟩
    · have hv0 : (v != 0) = true := by simpa using hv
      rw [show litT op v = .node 2 ByteArray.empty 0 [] by unfold litT; rw [if_neg hn, if_pos hv]]
      clear hv
      simp only [Ex.op, Ex.name, Ex.n, Ex.args]
      by_cases h10 : op = 10
      · subst h10
        clear hn
        go_enter Try.func113, Try.ntmps113
        go_wp2
        exact bodyPost_ret (v := .agg #[.int .u8 2, .string ByteArray.empty, .int .i64 0, .slice none 0 0]) (by simp [results, Try.results113, go_sem]; rfl) rfl ⟨(Below.refl _ _).alloc (Nat.le_refl _) _, _, rfl, RepS.nil _ _ _⟩
      · have hn1 : (op != 10) = true := by simpa using h10
        have hn2 : ¬ op < 16 := fun h => hn ⟨h10, h⟩
        clear hn h10
        go_enter Try.func113, Try.ntmps113
        go_wp2
        exact bodyPost_ret (v := .agg #[.int .u8 2, .string ByteArray.empty, .int .i64 0, .slice none 0 0]) (by simp [results, Try.results113, go_sem]; rfl) rfl ⟨(Below.refl _ _).alloc (Nat.le_refl _) _, _, rfl, RepS.nil _ _ _⟩
end Go.Proofs.Ytekhoanjpnjaeaa
