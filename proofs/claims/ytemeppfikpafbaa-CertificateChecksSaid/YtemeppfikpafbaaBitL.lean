/- Sets of choices and of messages by bits: plain laws of the cache. -/
import Derived.Test.YtemeppfikpafbaaSortK
namespace Go.Proofs.Ytemeppfikpafbaa
open Go.RowKit
/-- A choice without number and arguments. -/
structure Ch where
  k : K4
  t : Int
deriving DecidableEq
instance : Inhabited Ch := ⟨⟨default, 0⟩⟩
def chC (x : Ch) : List Value := [.int .u8 x.k.kind, .int .i64 x.k.a, .int .i64 x.k.b, .int .i64 x.k.n, .int .i64 x.t, .int .i64 0, .slice none 0 0]
theorem chC_len (x : Ch) : (chC x).length = 7 := rfl
def ltC (x y : Ch) : Prop := ltK x.k y.k
instance (x y : Ch) : Decidable (ltC x y) := by unfold ltC; infer_instance
def keyI (i : Nat) : K4 := ⟨4, (i % 4 : Nat), 0, (i / 4 : Nat)⟩
def chI (i : Nat) : Ch := ⟨keyI i, i⟩
def msgI (i : Nat) : M3 := ⟨(i % 3 : Nat), (i / 3 : Nat), 7⟩
theorem keyI_inj {i j : Nat} (h : keyI i = keyI j) : i = j := by
  simp only [keyI, K4.mk.injEq] at h
  obtain ⟨_, h1, _, h2⟩ := h
  have h1' : i % 4 = j % 4 := by exact_mod_cast h1
  have h2' : i / 4 = j / 4 := by exact_mod_cast h2
  omega
theorem msgI_inj {i j : Nat} (h : msgI i = msgI j) : i = j := by
  simp only [msgI, M3.mk.injEq] at h
  obtain ⟨h1, h2, _⟩ := h
  have h1' : i % 3 = j % 3 := by exact_mod_cast h1
  have h2' : i / 3 = j / 3 := by exact_mod_cast h2
  omega
theorem chI_inj {i j : Nat} (h : chI i = chI j) : i = j := keyI_inj (congrArg Ch.k h)
/-- The numbers whose bits are set, in a given order of numbers. -/
def pick (o : List Nat) (b : Nat) : List Nat := o.filter fun i => b.testBit i
def up16 : List Nat := [0, 1, 2, 3, 4, 5, 6, 7, 8, 9, 10, 11, 12, 13, 14, 15]
def down16 : List Nat := [15, 14, 13, 12, 11, 10, 9, 8, 7, 6, 5, 4, 3, 2, 1, 0]
def key16 : List Nat := [0, 4, 8, 12, 1, 5, 9, 13, 2, 6, 10, 14, 3, 7, 11, 15]
def msg16 : List Nat := [0, 3, 6, 9, 12, 15, 1, 4, 7, 10, 13, 2, 5, 8, 11, 14]
def ord16 (turned : Bool) : List Nat := if turned then down16 else up16
theorem mem_up16 (i : Nat) : i ∈ up16 ↔ i < 16 := by simp only [up16, List.mem_cons, List.not_mem_nil, or_false]; omega
theorem mem_down16 (i : Nat) : i ∈ down16 ↔ i < 16 := by simp only [down16, List.mem_cons, List.not_mem_nil, or_false]; omega
theorem mem_key16 (i : Nat) : i ∈ key16 ↔ i < 16 := by simp only [key16, List.mem_cons, List.not_mem_nil, or_false]; omega
theorem mem_msg16 (i : Nat) : i ∈ msg16 ↔ i < 16 := by simp only [msg16, List.mem_cons, List.not_mem_nil, or_false]; omega
theorem mem_ord16 (t : Bool) (i : Nat) : i ∈ ord16 t ↔ i < 16 := by
  cases t
  · exact mem_up16 i
  · exact mem_down16 i
theorem mem_pick {o : List Nat} {b i : Nat} (ho : ∀ i, i ∈ o ↔ i < 16) : i ∈ pick o b ↔ i < 16 ∧ b.testBit i = true := by
  unfold pick
  rw [List.mem_filter, ho]
/-- The choices by their keys; the messages in ascending order. -/
def setCh (b : Nat) : List Ch := (pick key16 b).map chI
def holdM (b : Nat) : List M3 := (pick msg16 b).map msgI
theorem setCh_asc (b : Nat) : (setCh b).Pairwise ltC := by
  unfold setCh pick
  rw [List.pairwise_map]
  refine List.Pairwise.filter _ ?_
  decide
theorem holdM_asc (b : Nat) : (holdM b).Pairwise ltM := by
  unfold holdM pick
  rw [List.pairwise_map]
  refine List.Pairwise.filter _ ?_
  decide
theorem mem_setCh {b : Nat} {x : Ch} : x ∈ setCh b ↔ ∃ i, i < 16 ∧ b.testBit i = true ∧ x = chI i := by
  unfold setCh
  rw [List.mem_map]
  constructor
  · rintro ⟨i, hi, rfl⟩
    obtain ⟨h1, h2⟩ := (mem_pick mem_key16).1 hi
    exact ⟨i, h1, h2, rfl⟩
  · rintro ⟨i, h1, h2, rfl⟩
    exact ⟨i, (mem_pick mem_key16).2 ⟨h1, h2⟩, rfl⟩
theorem mem_holdM {b : Nat} {x : M3} : x ∈ holdM b ↔ ∃ i, i < 16 ∧ b.testBit i = true ∧ x = msgI i := by
  unfold holdM
  rw [List.mem_map]
  constructor
  · rintro ⟨i, hi, rfl⟩
    obtain ⟨h1, h2⟩ := (mem_pick mem_msg16).1 hi
    exact ⟨i, h1, h2, rfl⟩
  · rintro ⟨i, h1, h2, rfl⟩
    exact ⟨i, (mem_pick mem_msg16).2 ⟨h1, h2⟩, rfl⟩
theorem chI_mem {b i : Nat} (hi : i < 16) : chI i ∈ setCh b ↔ b.testBit i = true := by
  rw [mem_setCh]
  constructor
  · rintro ⟨j, _, h, e⟩
    rw [chI_inj e]; exact h
  · intro h
    exact ⟨i, hi, h, rfl⟩
theorem setCh_len (b : Nat) : (setCh b).length ≤ 16 := by
  unfold setCh pick
  rw [List.length_map]
  exact Nat.le_trans (List.length_filter_le _ _) (by decide)
theorem holdM_len (b : Nat) : (holdM b).length ≤ 16 := by
  unfold holdM pick
  rw [List.length_map]
  exact Nat.le_trans (List.length_filter_le _ _) (by decide)
theorem pick_len {o : List Nat} (h : o.length = 16) (b : Nat) : (pick o b).length ≤ 16 := by
  unfold pick
  exact Nat.le_trans (List.length_filter_le _ _) (by omega)
theorem testBit_big {b i : Nat} (hb : b < 65536) (hi : 16 ≤ i) : b.testBit i = false := Nat.testBit_lt_two_pow (Nat.lt_of_lt_of_le hb (Nat.pow_le_pow_right (n := 2) (by omega) hi))
/-- One set is in another. -/
theorem sub_bits {a b : Nat} (ha : a < 65536) : (∀ x ∈ setCh a, x ∈ setCh b) ↔ a &&& b = a := by
  constructor
  · intro h
    apply Nat.eq_of_testBit_eq
    intro i
    rw [Nat.testBit_and]
    rcases Nat.lt_or_ge i 16 with hi | hi
    · cases e : a.testBit i with
      | false => rfl
      | true => rw [(chI_mem hi).1 (h _ ((chI_mem hi).2 e))]; rfl
    · rw [testBit_big ha hi]; rfl
  · intro h x hx
    obtain ⟨i, hi, h1, rfl⟩ := mem_setCh.1 hx
    rw [chI_mem hi]
    rw [← h, Nat.testBit_and] at h1
    exact (Bool.and_eq_true_iff.1 h1).2
theorem holdM_inj {a b : Nat} (ha : a < 65536) (hb : b < 65536) : holdM a = holdM b ↔ a = b := by
  constructor
  · intro h
    apply Nat.eq_of_testBit_eq
    intro i
    rcases Nat.lt_or_ge i 16 with hi | hi
    · rw [Bool.eq_iff_iff]
      have e : ∀ c : Nat, msgI i ∈ holdM c ↔ c.testBit i = true := fun c => by
        rw [mem_holdM]
        constructor
        · rintro ⟨j, _, h, e⟩
          rw [msgI_inj e]; exact h
        · intro h
          exact ⟨i, hi, h, rfl⟩
      rw [← e a, ← e b, h]
    · rw [testBit_big ha hi, testBit_big hb hi]
  · rintro rfl; rfl
/-- The keys of some choices, in some order, are those of the set. -/
theorem keyI_ok (i : Nat) (h : i < 16) : (keyI i).Ok := by
  have h1 : i % 4 < 4 := Nat.mod_lt _ (by omega)
  have h2 : i / 4 < 4 := by omega
  refine ⟨⟨by simp [keyI], by simp [keyI]⟩, ?_, ?_, ?_⟩ <;> unfold In64 <;> simp only [keyI] <;> omega
theorem ltC_irrefl (x : Ch) : ¬ ltC x x := ltK_irrefl _
theorem ltC_trans (x y z : Ch) : ltC x y → ltC y z → ltC x z := ltK_trans
end Go.Proofs.Ytemeppfikpafbaa
