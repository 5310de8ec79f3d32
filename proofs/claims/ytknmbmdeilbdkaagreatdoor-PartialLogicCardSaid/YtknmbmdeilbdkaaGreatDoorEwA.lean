/- Drawn regions: what the text of a region says of its order. -/
import Derived.Test.YtknmbmdeilbdkaaGreatDoorEvZ
namespace Go.Proofs.YtknmbmdeilbdkaaGreatDoor.Ev
open Go

theorem bit_eq (m j : Nat) : bit m j = m.testBit j := by
  rw [Nat.testBit_eq_decide_div_mod_eq]
  show Nat.beq (Nat.land (Nat.shiftRight m j) 1) 1 = _
  have e : Nat.land (Nat.shiftRight m j) 1 = m / 2 ^ j % 2 := by
    show (m >>> j) &&& 1 = _
    rw [Nat.and_one_is_mod, Nat.shiftRight_eq_div_pow]
  rw [e]
  cases h : Nat.beq (m / 2 ^ j % 2) 1 with
  | true => rw [Nat.eq_of_beq_eq_true h]; rfl
  | false => simp [Nat.ne_of_beq_eq_false h]
theorem bit_or (a b j : Nat) : bit (Nat.lor a b) j = (bit a j || bit b j) := by
  rw [bit_eq, bit_eq, bit_eq]
  exact Nat.testBit_or a b j
theorem bit_one (k j : Nat) (h : bit (Nat.shiftLeft 1 k) j = true) : j = k := by
  rw [bit_eq] at h
  have h : (1 <<< k).testBit j = true := h
  rw [Nat.testBit_shiftLeft] at h
  rw [Bool.and_eq_true, decide_eq_true_eq, Nat.testBit_eq_decide_div_mod_eq, decide_eq_true_eq] at h
  obtain ⟨h1, h2⟩ := h
  rcases Nat.eq_zero_or_pos (j - k) with e | e
  · omega
  · have : (1 : Nat) / 2 ^ (j - k) = 0 := Nat.div_eq_of_lt (Nat.one_lt_two_pow (by omega))
    rw [this] at h2
    simp at h2
theorem bit_zero (j : Nat) : bit 0 j = false := by rw [bit_eq]; simp
/-- Surely before. -/
inductive InBef (ops : List Oper) : Nat → Nat → Prop
  | edge {i : Nat} {o : Oper} {e : Edge} (ho : ops[i]? = some o) (he : e ∈ o.after.toList) (hb : Region.binds .any e = true) : InBef ops e.on i
  | trans {i j : Nat} {o : Oper} {e : Edge} (ho : ops[i]? = some o) (he : e ∈ o.after.toList) (hb : Region.binds .any e = true) (h : InBef ops j e.on) : InBef ops j i
/-- What is listed has what is before it listed too. -/
def Closed (ops : List Oper) (L : Nat → Prop) : Prop := ∀ i o e, L i → ops[i]? = some o → e ∈ o.after.toList → Region.binds .any e = true → L e.on
theorem InBef.closed {ops : List Oper} {L : Nat → Prop} (hL : Closed ops L) {i j : Nat} (h : InBef ops j i) (hi : L i) : L j := by
  induction h with
  | edge ho he hb => exact hL _ _ _ hi ho he hb
  | trans ho he hb _ ih => exact ih (hL _ _ _ hi ho he hb)
theorem InBef.ready {ops : List Oper} {L : Nat → Prop} (hL : Closed ops L) {i j : Nat} (h : InBef ops j i) (hi : ∀ o e, ops[i]? = some o → e ∈ o.after.toList → Region.binds .any e = true → L e.on) : L j := by
  cases h with
  | edge ho he hb => exact hi _ _ ho he hb
  | trans ho he hb h => exact h.closed hL (hi _ _ ho he hb)
theorem edgeM_sound {bs : List Nat} : ∀ {es : List Edge} {m r : Nat}, edgeM bs es m = some r → (∀ e ∈ es, Region.binds .any e = true → e.on < bs.length) ∧
    ∀ j, bit r j = true → bit m j = true ∨ ∃ e ∈ es, Region.binds .any e = true ∧ (j = e.on ∨ ∃ b, bs[e.on]? = some b ∧ bit b j = true)
  | [], m, r, h => by
    cases h
    exact ⟨fun e he => by simp at he, fun j hj => Or.inl hj⟩
  | e :: es, m, r, h => by
    rw [edgeM] at h
    split at h
    · rename_i hb
      obtain ⟨h1, h2⟩ := edgeM_sound h
      refine ⟨fun e' he' hb' => ?_, fun j hj => ?_⟩
      · rcases List.mem_cons.1 he' with rfl | he'
        · rw [hb] at hb'; cases hb'
        · exact h1 e' he' hb'
      · rcases h2 j hj with h3 | ⟨e', h3, h4⟩
        · exact Or.inl h3
        · exact Or.inr ⟨e', List.mem_cons_of_mem _ h3, h4⟩
    · rename_i hb
      split at h
      · cases h
      · rename_i b hn
        rw [nth_eq] at hn
        obtain ⟨h1, h2⟩ := edgeM_sound h
        refine ⟨fun e' he' hb' => ?_, fun j hj => ?_⟩
        · rcases List.mem_cons.1 he' with rfl | he'
          · exact (List.getElem?_eq_some_iff.1 hn).1
          · exact h1 e' he' hb'
        · rcases h2 j hj with h3 | ⟨e', h3, h4⟩
          · rw [bit_or, bit_or, Bool.or_eq_true, Bool.or_eq_true] at h3
            rcases h3 with (h3 | h3) | h3
            · exact Or.inl h3
            · exact Or.inr ⟨e, List.mem_cons_self, hb, Or.inl (bit_one _ _ h3)⟩
            · exact Or.inr ⟨e, List.mem_cons_self, hb, Or.inr ⟨b, hn, h3⟩⟩
          · exact Or.inr ⟨e', List.mem_cons_of_mem _ h3, h4⟩
/-- Masks say what is surely before, and edges point back. -/
def BefOk (ops : List Oper) (bs : List Nat) : Prop := (∀ i b, bs[i]? = some b → ∀ j, bit b j = true → InBef ops j i) ∧ ∀ i o e, i < bs.length → ops[i]? = some o → e ∈ o.after.toList → Region.binds .any e = true → e.on < i
theorem befs_sound {ops : List Oper} : ∀ {l : List Oper} {bs r : List Nat}, befs l bs = some r → (∀ j, l[j]? = ops[bs.length + j]?) → BefOk ops bs → BefOk ops r ∧ r.length = bs.length + l.length
  | [], bs, r, h, _, hI => by
    cases h
    exact ⟨hI, by simp⟩
  | o :: l, bs, r, h, hl, hI => by
    rw [befs] at h
    split at h
    · cases h
    · rename_i m hm
      obtain ⟨h1, h2⟩ := edgeM_sound hm
      have ho : ops[bs.length]? = some o := by have := hl 0; simpa using this.symm
      have hI' : BefOk ops (bs ++ [m]) := by
        refine ⟨fun i b hi j hj => ?_, fun i o' e hi ho' he hb => ?_⟩
        · rcases Nat.lt_or_ge i bs.length with hlt | hge
          · rw [List.getElem?_append_left hlt] at hi
            exact hI.1 i b hi j hj
          · rw [List.getElem?_append_right hge] at hi
            have h0 : i - bs.length = 0 := by
              have := (List.getElem?_eq_some_iff.1 hi).1
              simp at this; omega
            rw [h0] at hi
            simp at hi
            subst hi
            have : i = bs.length := by omega
            subst this
            rcases h2 j hj with h5 | ⟨e, h5, h6, rfl | ⟨b, h7, h8⟩⟩
            · rw [bit_zero] at h5; cases h5
            · exact .edge ho h5 h6
            · exact .trans ho h5 h6 (hI.1 _ b h7 j h8)
        · rw [List.length_append, List.length_singleton] at hi
          rcases Nat.lt_or_ge i bs.length with hlt | hge
          · exact hI.2 i o' e hlt ho' he hb
          · have : i = bs.length := by omega
            subst this
            rw [ho] at ho'; cases ho'
            exact h1 e he hb
      obtain ⟨h3, h4⟩ := befs_sound h (fun j => by
        have := hl (j + 1)
        rw [List.length_append, List.length_singleton, show bs.length + 1 + j = bs.length + (j + 1) by omega]
        simpa using this) hI'
      refine ⟨h3, ?_⟩
      rw [List.length_append, List.length_singleton] at h4
      rw [h4, List.length_cons]
      omega
end Go.Proofs.YtknmbmdeilbdkaaGreatDoor.Ev
