/- Reading tables, in plain words. -/
import Derived.Test.YtekhoanjpnjaeaaDecR
namespace Go.Proofs.Ytekhoanjpnjaeaa
open Go.RowKit
def keyOf : Option Int → Nat → Option Int
  | none, u => some (uz u)
  | some p, u => if 9223372036854775807 - p ≤ (u : Int) then none else some (p + u + 1)
/-- k entries behind the key p, and how many bytes they have. -/
def rdL : Nat → Option Int → List Int → Option (List (Int × Int) × Nat)
  | 0, _, _ => some ([], 0)
  | k + 1, p, l => match decU l with
    | none => none
    | some (u, n1) => match keyOf p u with
      | none => none
      | some key => match decU (l.drop n1) with
        | none => none
        | some (v, n2) => match rdL k (some key) (l.drop (n1 + n2)) with
          | none => none
          | some (r, m) => some ((key, uz v) :: r, n1 + n2 + m)
def readT (l : List Int) : Int × List (Int × Int) × Nat := match decU l with
  | none => (6, [], 0)
  | some (n, n0) => if 4096 < n then (3, [], 0) else match rdL n none (l.drop n0) with
    | none => (6, [], 0)
    | some (t, m) => (0, t, n0 + m)
/-- What came before, and what is left to come. -/
def joinR (L : List (Int × Int)) (used : Nat) (o : Option (List (Int × Int) × Nat)) : Option (List (Int × Int) × Nat) := o.map fun x => (L ++ x.1, used + x.2)
theorem joinR_start (o : Option (List (Int × Int) × Nat)) : joinR [] 0 o = o := by cases o <;> simp [joinR]
theorem joinR_end (L : List (Int × Int)) (used : Nat) (p : Option Int) (l : List Int) : joinR L used (rdL 0 p l) = some (L, used) := by simp [joinR, rdL]
theorem rdL_step {k : Nat} {p : Option Int} {l : List Int} {u n1 v n2 : Nat} {key : Int} (h1 : decU l = some (u, n1)) (h2 : keyOf p u = some key) (h3 : decU (l.drop n1) = some (v, n2)) (L : List (Int × Int)) (used : Nat) :
    joinR L used (rdL (k + 1) p l) = joinR (L ++ [(key, uz v)]) (used + (n1 + n2)) (rdL k (some key) (l.drop (n1 + n2))) := by
  rw [rdL, h1]; simp only []
  rw [h2]; simp only []
  rw [h3]; simp only []
  cases rdL k (some key) (l.drop (n1 + n2)) with
  | none => rfl
  | some x => simp [joinR]; omega
theorem rdL_no1 {k : Nat} {p : Option Int} {l : List Int} (h1 : decU l = none) (L : List (Int × Int)) (used : Nat) : joinR L used (rdL (k + 1) p l) = none := by
  rw [rdL, h1]; rfl
theorem rdL_no2 {k : Nat} {p : Option Int} {l : List Int} {u n1 : Nat} (h1 : decU l = some (u, n1)) (h2 : keyOf p u = none) (L : List (Int × Int)) (used : Nat) : joinR L used (rdL (k + 1) p l) = none := by
  rw [rdL, h1]; simp only []; rw [h2]; rfl
theorem rdL_no3 {k : Nat} {p : Option Int} {l : List Int} {u n1 : Nat} {key : Int} (h1 : decU l = some (u, n1)) (h2 : keyOf p u = some key) (h3 : decU (l.drop n1) = none) (L : List (Int × Int)) (used : Nat) : joinR L used (rdL (k + 1) p l) = none := by
  rw [rdL, h1]; simp only []; rw [h2]; simp only []; rw [h3]; rfl
theorem zz_uz (u : Nat) : zz (uz u) = u := by
  unfold zz uz
  by_cases h : u % 2 = 1
  · rw [if_pos h, if_pos (by omega)]; omega
  · rw [if_neg h, if_neg (by omega)]; omega
theorem uz_zz (x : Int) : uz (zz x) = x := by
  unfold zz uz
  by_cases h : x < 0
  · rw [if_pos h, if_pos (by omega)]; omega
  · rw [if_neg h, if_neg (by omega)]; omega
theorem dec_encA : ∀ (l : List Int) (i acc v n : Nat), Byts l → i ≤ 9 → decA i acc l = some (v, n) → ∃ u, v = acc + u * 2 ^ (7 * i) ∧ (0 < i → 0 < u) ∧ i < n ∧ l.take (n - i) = encU u
  | [], _, _, _, _, _, _, h => by cases h
  | b :: r, i, acc, v, n, hB, hi, h => by
    have hb := hB b (by simp)
    rw [decA] at h
    split at h
    · cases h
    · rename_i hs
      split at h
      · rename_i hlt
        cases h
        refine ⟨b.toNat, rfl, fun h0 => by omega, by omega, ?_⟩
        rw [show i + 1 - i = 1 by omega, encU_lt (by omega)]
        simp; omega
      · rename_i hge
        obtain ⟨u, hv, hu, hn, ht⟩ := dec_encA r (i + 1) _ v n (fun x hx => hB x (by simp [hx])) (by omega) h
        have hu0 := hu (by omega)
        refine ⟨b.toNat % 128 + 128 * u, ?_, fun _ => by omega, by omega, ?_⟩
        · rw [hv, pow7, Nat.add_mul, Nat.mul_comm 128 u, Nat.mul_assoc, Nat.add_assoc]
        · rw [encU_ge (by omega), show n - i = (n - (i + 1)) + 1 by omega, List.take_succ_cons, ht, show (b.toNat % 128 + 128 * u) / 128 = u by omega]
          congr 1; omega
theorem dec_enc {l : List Int} {v n : Nat} (hB : Byts l) (h : decU l = some (v, n)) : l.take n = encU v := by
  obtain ⟨u, hv, _, _, ht⟩ := dec_encA l 0 0 v n hB (by omega) h
  simp at hv ht
  rw [hv, ht]
theorem enc_decA (v : Nat) : ∀ (i acc : Nat) (rest : List Int), (i = 0 ∨ 0 < v) → i ≤ 9 → v * 2 ^ (7 * i) < 18446744073709551616 → decA i acc (encU v ++ rest) = some (acc + v * 2 ^ (7 * i), i + (encU v).length) := by
  induction v using Nat.strongRecOn with
  | _ v ih =>
    intro i acc rest h0 hi hf
    by_cases hv : v < 128
    · rw [encU_lt hv]
      have h9 : ¬ ((i = 9 ∧ 1 < (v : Int)) ∨ (0 < i ∧ (v : Int) = 0)) := by
        rintro (⟨e, h⟩ | ⟨h, e⟩)
        · subst e
          rw [show (2 : Nat) ^ (7 * 9) = 9223372036854775808 by decide] at hf
          omega
        · omega
      rw [List.cons_append, decA_end h9 (by omega)]
      simp
    · have hi8 : i ≤ 8 := by
        by_cases e : i = 9
        · subst e
          rw [show (2 : Nat) ^ (7 * 9) = 9223372036854775808 by decide] at hf
          omega
        · omega
      rw [encU_ge hv, List.cons_append, decA_on (by omega) (by omega), show (((v % 128 + 128 : Nat) : Int)).toNat % 128 = v % 128 by omega]
      have e1 : v % 128 * 2 ^ (7 * i) + v / 128 * (128 * 2 ^ (7 * i)) = v * 2 ^ (7 * i) := by
        rw [← Nat.mul_assoc, ← Nat.add_mul]; congr 1; omega
      rw [ih (v / 128) (by omega) (i + 1) _ rest (Or.inr (by omega)) (by omega) (by rw [pow7]; omega), pow7]
      rw [List.length_cons]
      congr 2
      · omega
      · omega
theorem enc_dec {v : Nat} (h : v < 18446744073709551616) (rest : List Int) : decU (encU v ++ rest) = some (v, (encU v).length) := by
  have := enc_decA v 0 0 rest (Or.inl rfl) (by omega) (by simpa using h)
  simpa [decU] using this
theorem keyOf_none (u : Nat) : keyOf none u = some (uz u) := rfl
theorem keyOf_some (p : Int) (u : Nat) : keyOf (some p) u = if 9223372036854775807 - p ≤ (u : Int) then none else some (p + u + 1) := rfl
theorem byts_drop {l : List Int} (h : Byts l) (p : Nat) : Byts (l.drop p) := fun b hb => h b (List.mem_of_mem_drop hb)
theorem keyOf_facts {p : Option Int} {u : Nat} {key : Int} (hu : u < 18446744073709551616) (hp : ∀ q, p = some q → I64 q) (h : keyOf p u = some key) : I64 key ∧ ∀ q, p = some q → q < key ∧ (key - q - 1).toNat = u := by
  cases p with
  | none =>
    cases h
    exact ⟨uz_i64 hu, fun q e => by cases e⟩
  | some q =>
    have hq := hp q rfl
    rw [keyOf_some] at h
    split at h
    · cases h
    · cases h
      unfold I64 at hq ⊢
      refine ⟨by omega, fun q' e => ?_⟩
      cases e
      omega
theorem rdL_facts : ∀ (k : Nat) (p : Option Int) (l : List Int) (r : List (Int × Int)) (m : Nat), Byts l → (∀ q, p = some q → I64 q) → rdL k p l = some (r, m) →
    r.length = k ∧ Asc r ∧ WfT r ∧ (∀ q, p = some q → ∀ x ∈ r, q < x.1) ∧ m ≤ l.length ∧ l.take m = encL p r
  | 0, p, l, r, m, _, _, h => by
    cases h
    exact ⟨rfl, List.Pairwise.nil, fun x hx => (by cases hx), fun _ _ x hx => (by cases hx), Nat.zero_le _, by cases p <;> simp [encL]⟩
  | k + 1, p, l, r, m, hB, hp, h => by
    rw [rdL] at h
    cases h1 : decU l with
    | none => rw [h1] at h; cases h
    | some x =>
      obtain ⟨u, n1⟩ := x
      rw [h1] at h; simp only [] at h
      cases h2 : keyOf p u with
      | none => rw [h2] at h; cases h
      | some key =>
        rw [h2] at h; simp only [] at h
        cases h3 : decU (l.drop n1) with
        | none => rw [h3] at h; cases h
        | some y =>
          obtain ⟨v, n2⟩ := y
          rw [h3] at h; simp only [] at h
          cases h4 : rdL k (some key) (l.drop (n1 + n2)) with
          | none => rw [h4] at h; cases h
          | some z =>
            obtain ⟨r', m'⟩ := z
            rw [h4] at h; simp only [] at h
            cases h
            have b1 := decU_bound hB h1
            have b2 := decU_bound (byts_drop hB n1) h3
            have kf := keyOf_facts b1.1 hp h2
            obtain ⟨i1, i2, i3, i4, i5, i6⟩ := rdL_facts k (some key) (l.drop (n1 + n2)) r' m' (byts_drop hB _) (fun q e => by cases e; exact kf.1) h4
            have d1 := dec_enc hB h1
            have d2 := dec_enc (byts_drop hB n1) h3
            rw [List.length_drop] at b2 i5
            refine ⟨by simp [i1], asc_cons.2 ⟨fun y hy => i4 key rfl y hy, i2⟩, ?_, ?_, by omega, ?_⟩
            · intro x hx
              rcases List.mem_cons.1 hx with e | e
              · subst e; exact ⟨kf.1, uz_i64 b2.1⟩
              · exact i3 x e
            · intro q e x hx
              have hq := (kf.2 q e).1
              rcases List.mem_cons.1 hx with e' | e'
              · subst e'; exact hq
              · have := i4 key rfl x e'; omega
            · rw [Nat.add_assoc, List.take_add, d1, List.take_add, d2, List.drop_drop, i6]
              cases p with
              | none =>
                rw [encL]
                simp only []
                cases h2
                rw [zz_uz, zz_uz, List.append_assoc]
              | some q =>
                rw [encL]
                simp only []
                rw [(kf.2 q rfl).2, zz_uz, List.append_assoc]
theorem rdL_enc : ∀ (t : List (Int × Int)) (p : Option Int) (more : List Int), Asc t → WfT t → (∀ q, p = some q → I64 q ∧ ∀ x ∈ t, q < x.1) → rdL t.length p (encL p t ++ more) = some (t, (encL p t).length)
  | [], p, more, _, _, _ => by cases p <;> simp [rdL, encL]
  | x :: r, p, more, ha, hw, hp => by
    have hx := hw x (by simp)
    have key : ∃ u, u < 18446744073709551616 ∧ keyOf p u = some x.1 ∧ encL p (x :: r) = (encU u ++ encU (zz x.2)) ++ encL (some x.1) r := by
      cases p with
      | none => exact ⟨zz x.1, zz_lt hx.1.1 hx.1.2, by rw [keyOf_none, uz_zz], rfl⟩
      | some q =>
        have hq := hp q rfl
        have hlt := hq.2 x (by simp)
        have h1 := hq.1
        have h2 := hx.1
        unfold I64 at h1 h2
        refine ⟨(x.1 - q - 1).toNat, by omega, ?_, rfl⟩
        rw [keyOf_some, if_neg (by omega)]
        congr 1
        omega
    obtain ⟨u, hu, hk, he⟩ := key
    have ih := rdL_enc r (some x.1) more (asc_cons.1 ha).2 (fun y hy => hw y (by simp [hy])) (fun q e => by cases e; exact ⟨hx.1, (asc_cons.1 ha).1⟩)
    rw [he, List.length_cons, rdL]
    rw [show (encU u ++ encU (zz x.2)) ++ encL (some x.1) r ++ more = encU u ++ (encU (zz x.2) ++ (encL (some x.1) r ++ more)) by simp [List.append_assoc]]
    rw [enc_dec hu]; simp only []
    rw [hk]; simp only []
    rw [List.drop_left, enc_dec (zz_lt hx.2.1 hx.2.2)]; simp only []
    rw [← List.drop_drop, List.drop_left, List.drop_left, ih]
    simp only [uz_zz, List.length_append]
theorem readT_enc {t : List (Int × Int)} (ha : Asc t) (hw : WfT t) (hl : t.length ≤ 4096) (more : List Int) : readT (encT t ++ more) = (0, t, (encT t).length) := by
  unfold readT encT
  rw [List.append_assoc, enc_dec (by omega)]; simp only []
  rw [if_neg (by omega), List.drop_left, rdL_enc t none more ha hw (fun q e => by cases e)]
  simp only [List.length_append]
theorem readT_ok {l : List Int} {t : List (Int × Int)} {n : Nat} (hB : Byts l) (h : readT l = (0, t, n)) : n ≤ l.length ∧ l.take n = encT t ∧ Asc t ∧ WfT t ∧ t.length ≤ 4096 := by
  unfold readT at h
  cases h1 : decU l with
  | none => rw [h1] at h; cases h
  | some x =>
    obtain ⟨k, n0⟩ := x
    rw [h1] at h; simp only [] at h
    split at h
    · cases h
    · rename_i hk
      cases h2 : rdL k none (l.drop n0) with
      | none => rw [h2] at h; cases h
      | some y =>
        obtain ⟨r, m⟩ := y
        rw [h2] at h; simp only [] at h
        cases h
        have b1 := decU_bound hB h1
        obtain ⟨i1, i2, i3, _, i5, i6⟩ := rdL_facts k none (l.drop n0) _ _ (byts_drop hB _) (fun q e => by cases e) h2
        rw [List.length_drop] at i5
        refine ⟨by omega, ?_, i2, i3, by omega⟩
        unfold encT
        rw [List.take_add, dec_enc hB h1, i6, i1]
theorem readT_err {l : List Int} {t : List (Int × Int)} {n : Nat} {e : Int} (h : readT l = (e, t, n)) (he : e ≠ 0) : t = [] ∧ n = 0 := by
  unfold readT at h
  cases h1 : decU l with
  | none => rw [h1] at h; cases h; exact ⟨rfl, rfl⟩
  | some x =>
    obtain ⟨k, n0⟩ := x
    rw [h1] at h; simp only [] at h
    split at h
    · cases h; exact ⟨rfl, rfl⟩
    · cases h2 : rdL k none (l.drop n0) with
      | none => rw [h2] at h; cases h; exact ⟨rfl, rfl⟩
      | some y =>
        obtain ⟨r, m⟩ := y
        rw [h2] at h; simp only [] at h
        cases h
        exact absurd rfl he
end Go.Proofs.Ytekhoanjpnjaeaa
