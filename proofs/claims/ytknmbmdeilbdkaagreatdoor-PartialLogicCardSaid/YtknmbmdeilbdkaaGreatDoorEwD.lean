/- Drawn regions are sound. -/
import Derived.Test.YtknmbmdeilbdkaaGreatDoorEwC
namespace Go.Proofs.YtknmbmdeilbdkaaGreatDoor.Ev
open Go
section
variable {P : Program} {G N : Nat} {rf rr : CallF} {ops : List Oper} {ois : List OI} {S : Nat → DS} {V : Nat → AV} {A : Nat → Option (Nat × AB)}

/-- Slots that are looked at are known. -/
def LK (m : Ren) (T : Tr AV) (tmps : Array Value) (ts : List Nat) : Prop := ∀ d ∈ ts, ∀ x, T.get d = some x → ∃ u, tmps[d]? = some u ∧ VR m x u
theorem awanted_look {m : Ren} {T : Tr AV} {tmps : Array Value} {o : Oper} {b : Bool} (h : awanted ops T o = some b) (hT : LK m T tmps (looksT ops o)) : Region.wanted o (yielded ops.toArray tmps) = b := by
  unfold awanted at h
  unfold Region.wanted
  split at h
  · rename_i hg; cases h; rw [hg]
  · rename_i j want hg
    rw [hg]
    split at h
    · cases h
    · rename_i g hj
      have hj' := hj
      rw [nth_eq] at hj
      split at h
      · cases h
      · rename_i d hd
        have hd' : d ∈ looksT ops o := by
          unfold looksT
          rw [hg]
          simp only [hj', hd]
          exact List.mem_cons_self
        have hy : yielded ops.toArray tmps j = match tmps[d]? with | some (.bool b) => some b | _ => none := by
          simp only [yielded, List.getElem?_toArray, hj, Option.bind_some, hd]
          rfl
        simp only [hy]
        split at h
        · rename_i q ht
          cases h
          obtain ⟨u, h1, h2⟩ := hT d hd' _ ht
          rw [h1, h2.bool_inv]
          simp only [Option.some_beq_some]
        · cases h
        · rename_i v hb ha ht
          cases h
          obtain ⟨u, h1, h2⟩ := hT d hd' _ ht
          rw [h1]
          cases h2 <;> first | rfl | exact (hb _ rfl).elim | exact (ha rfl).elim
        · cases h
theorem look_ops {m : Ren} {T : Tr AV} {a : Act} {o : Oper} (h : LK m T a.tmps (looksT ops o)) (hG : Glob m G) : OE G T m a o.op.operands := by
  intro x hx v hv
  cases x with
  | tmp t =>
    have ht : t ∈ looksT ops o := by
      have h0 : t ∈ opTmps o.op := by
        unfold opTmps
        rw [List.mem_filterMap]
        exact ⟨.tmp t, by simpa using hx, rfl⟩
      unfold looksT
      split
      · exact h0
      · split
        · exact h0
        · split
          · exact h0
          · exact List.mem_cons_of_mem _ h0
    obtain ⟨u, h1, h2⟩ := h t ht v hv
    simp only [Act.eval, Array.getD_eq_getD_getElem?, h1, Option.getD_some]
    exact h2
  | const c => exact absV_sound m 6 c v hv
  | global g =>
    simp only [aOp] at hv
    split at hv
    · rename_i hg
      have hg : g < G := by simpa [Nat.blt_eq] using hg
      cases hv
      exact .ptr (hG g hg)
    · cases hv
  | func f =>
    cases hv
    exact .fn rfl (fun i a v h => by simp at h) rfl (fun i a v h => by simp at h)

/-- What is known when the operations L are through, the writing ones being those before k. -/
def KL (P : Program) (ops : List Oper) (ois : List OI) (A : Nat → Option (Nat × AB)) (H : Tr AB) (L : Nat → Prop) : Nat → AB → Prop := fun n x =>
  H.get n = some x ∨ ∃ j, A j = some (n, x) ∧ L j ∧ ∀ (l : Nat) (o : Oper) (ol : OI), L l → ops[l]? = some o → ois[l]? = some ol → isLoud P o = true → bit ol.b j = false
/-- Memory behind the writing operations that are through: those before k, or the second of two last stores alone. -/
def Stg (P : Program) (ops : List Oper) (fk : Option (Nat × Nat)) (S : Nat → DS) (HB : Tr AB) (L : Nat → Prop) (HX : Tr AB) : Prop :=
  (∃ k, k ≤ ops.length ∧ HX = (S k).H ∧ ∀ (l : Nat) (o : Oper), ops[l]? = some o → isLoud P o = true → (L l ↔ l < k)) ∨
  ∃ la lb, fk = some (la, lb) ∧ HX = HB ∧ ∀ (l : Nat) (o : Oper), ops[l]? = some o → isLoud P o = true → (L l ↔ (l < la ∨ l = lb))
/-- Two last stores in either order. -/
structure Frk (P : Program) (G : Nat) (rf rr : CallF) (ops : List Oper) (S : Nat → DS) (V : Nat → AV) (HB : Tr AB) (la lb : Nat) : Prop where
  fst : ∀ o, ops[la]? = some o → isLoud P o = true ∧ o.guard = none
  snd : ∀ o, ops[lb]? = some o → isLoud P o = true ∧ o.guard = none ∧ aexec P G rf rr (S lb).T (S la).H (S lb).c o.op = some ⟨V lb, HB, (S (lb + 1)).c⟩
  ba : ∃ HA : Tr AB, (∀ o, ops[la]? = some o → aexec P G rf rr (S la).T HB (S la).c o.op = some ⟨V la, HA, (S (la + 1)).c⟩) ∧ ∀ n b, (S (lb + 1)).H.get n = some b → HA.get n = some b
structure Inv (P : Program) (N : Nat) (ops : List Oper) (ois : List OI) (fk : Option (Nat × Nat)) (S : Nat → DS) (HB : Tr AB) (V : Nat → AV) (A : Nat → Option (Nat × AB)) (ms : List Nat) (m0 : Ren) (w0 : World) (L : Nat → Prop) (HX : Tr AB) (m : Ren) (a : Act) (w : World) : Prop where
  lt : ∀ i, L i → i < ops.length
  closed : Closed ops L
  size : a.tmps.size = N
  tv : ∀ (i : Nat) (o : Oper) (d : Nat), L i → ops[i]? = some o → o.dst = some d → d < N → ∃ u, a.tmps[d]? = some u ∧ VR m (V i) u
  t0 : ∀ d x, (S 0).T.get d = some x → (∀ (i : Nat) (o : Oper), L i → ops[i]? = some o → o.dst ≠ some d) → ∃ u, a.tmps[d]? = some u ∧ VR m x u
  ms : MkR m ms a.defers
  stg : Stg P ops fk S HB L HX
  R : RelP m (KL P ops ois A HX L) w
  F : FrP m0 (fun i b => (S 0).H.get i = some b) w0 m (KL P ops ois A HX L) w (S 0).c (S ops.length).c
  fresh : ∀ i, i < ops.length → ¬ L i → Fresh m (S i).c (S (i + 1)).c
  dom : ∀ n b, HX.get n = some b → (S 0).H.get n ≠ none ∨ ∃ i, L i ∧ (S i).c ≤ n ∧ n < (S (i + 1)).c ∧ ((∃ o, ops[i]? = some o ∧ isLoud P o = true) ∨ ∃ l o ol, L l ∧ ops[l]? = some o ∧ ois[l]? = some ol ∧ isLoud P o = true ∧ bit ol.b i = true)
section
variable {fk : Option (Nat × Nat)} {HB : Tr AB} {ms : List Nat} {m0 : Ren} {w0 : World} {L : Nat → Prop} {HX : Tr AB} {m : Ren} {a : Act} {w : World}
theorem dstIn_mem {o o' : Oper} {d : Nat} (h1 : o.dst = some d) (h2 : d ∈ looksT ops o') : dstIn ops o o' = true := by
  unfold dstIn
  rw [h1]
  exact isIn_mem h2
/-- What an operation looks at is as it was in the order of the text. -/
theorem Inv.looks (hr : Rn P G N rf rr ops ois fk S V A) (hI : Inv P N ops ois fk S HB V A ms m0 w0 L HX m a w) {i : Nat} {o : Oper} {oi : OI} (ho : ops[i]? = some o) (hoi : ois[i]? = some oi) (hn : ¬ L i)
    (hpre : ∀ (o' : Oper) (e : Edge), ops[i]? = some o' → e ∈ o'.after.toList → Region.binds .any e = true → L e.on) : LK m (S i).T a.tmps (looksT ops o) := by
  intro d hd x hx
  have hilt := (List.getElem?_eq_some_iff.1 ho).1
  rcases hr.slots (by omega) hx with ⟨j, oj, h1, h2, h3, h4, h5⟩ | ⟨h1, h2⟩
  · have hc : clash P ops fk j i oj o = true := by unfold clash; rw [dstIn_mem h3 hd]; rfl
    have hb := hr.txt.clash j i oj o oi h1 h2 ho hoi hc
    have hL := (hr.txt.bef i oi j hoi hb).ready hI.closed hpre
    rw [← h4]
    exact hI.tv j oj d hL h2 h3 h5
  · refine hI.t0 d x h1 fun j oj hj hoj hd' => ?_
    rcases Nat.lt_trichotomy j i with hlt | rfl | hgt
    · exact h2 j oj hlt hoj hd'
    · exact hn hj
    · obtain ⟨ol, hol⟩ : ∃ ol, ois[j]? = some ol := get_of_lt (by rw [hr.txt.len]; exact hI.lt j hj)
      have hc : clash P ops fk i j o oj = true := by unfold clash; rw [dstIn_mem hd' hd]; simp
      have hb := hr.txt.clash i j o oj ol hgt ho hoj hol hc
      exact hn ((hr.txt.bef j ol i hol hb).closed hI.closed hj)
/-- The names of blocks that no writing operation has behind it yet are not in memory behind the writing operations. -/
theorem Inv.apart (hr : Rn P G N rf rr ops ois fk S V A) (hI : Inv P N ops ois fk S HB V A ms m0 w0 L HX m a w) (h0 : ∀ n x, (S 0).H.get n = some x → ¬ ((S 0).c ≤ n ∧ n < (S ops.length).c)) {j n : Nat} {x : AB} (hj : j < ops.length) (hA : A j = some (n, x))
    (hp : ∀ (l : Nat) (o : Oper) (ol : OI), L l → ops[l]? = some o → ois[l]? = some ol → isLoud P o = true → bit ol.b j = false) : HX.get n = none := by
  cases hg : HX.get n with
  | none => rfl
  | some b =>
    exfalso
    obtain ⟨o, ho⟩ := get_of_lt hj
    obtain ⟨h1, h2, h3⟩ := hr.name ho hA
    rcases hI.dom n b hg with h4 | ⟨i, h4, h5, h6, h7⟩
    · cases hg0 : (S 0).H.get n with
      | none => exact h4 hg0
      | some b0 =>
        have g1 := hr.le (i := 0) (j := j) (by omega) (by omega)
        have g2 := hr.le (i := j + 1) (j := ops.length) (by omega) (by omega)
        exact h0 n b0 hg0 ⟨by omega, by omega⟩
    · have := hr.apart (hI.lt i h4) hj h5 h6 (by omega) h3
      subst this
      rcases h7 with ⟨o', h8, h9⟩ | ⟨l, o', ol, h8, h9, h10, h11, h12⟩
      · rw [ho] at h8; cases h8
        rw [h1] at h9; cases h9
      · rw [hp l o' ol h8 h9 h10 h11] at h12; cases h12
theorem act_put_size {d : Option Nat} {u : Value} : (a.put d u).tmps.size = a.tmps.size := by cases d <;> simp [Act.put]
theorem act_put_other {d : Option Nat} {u : Value} {t : Nat} (h : d ≠ some t) : (a.put d u).tmps[t]? = a.tmps[t]? := by
  cases d with
  | none => rfl
  | some d =>
    simp only [Act.put]
    rw [Array.getElem?_setIfInBounds_ne (fun e => h (by rw [e]))]
theorem act_put_self {u : Value} {t : Nat} (h : t < a.tmps.size) : (a.put (some t) u).tmps[t]? = some u := by
  simp only [Act.put]
  rw [Array.getElem?_setIfInBounds_self_of_lt h]
/-- An operation is through. -/
theorem Inv.next (hr : Rn P G N rf rr ops ois fk S V A) (hI : Inv P N ops ois fk S HB V A ms m0 w0 L HX m a w) {i : Nat} {o : Oper} (ho : ops[i]? = some o) (hn : ¬ L i)
    (hpre : ∀ (o' : Oper) (e : Edge), ops[i]? = some o' → e ∈ o'.after.toList → Region.binds .any e = true → L e.on) {m' : Ren} {u : Value} {w' : World} {K' : Nat → AB → Prop} {HX' : Tr AB}
    (hv : VR m' (V i) u) (hR : RelP m' K' w') (hF : FrP m (KL P ops ois A HX L) w m' K' w' (S i).c (S (i + 1)).c) (hs : ∀ n x, KL P ops ois A HX' (fun j => L j ∨ j = i) n x → K' n x)
    (hst : Stg P ops fk S HB (fun j => L j ∨ j = i) HX')
    (hdom : ∀ n b, HX'.get n = some b → (S 0).H.get n ≠ none ∨ ∃ j, (L j ∨ j = i) ∧ (S j).c ≤ n ∧ n < (S (j + 1)).c ∧ ((∃ o, ops[j]? = some o ∧ isLoud P o = true) ∨ ∃ l o ol, (L l ∨ l = i) ∧ ops[l]? = some o ∧ ois[l]? = some ol ∧ isLoud P o = true ∧ bit ol.b j = true)) :
    Inv P N ops ois fk S HB V A ms m0 w0 (fun j => L j ∨ j = i) HX' m' (a.put o.dst u) w' := by
  have hilt := (List.getElem?_eq_some_iff.1 ho).1
  have hci := hr.le (i := 0) (j := i) (by omega) (by omega)
  have hcn := hr.le (i := i + 1) (j := ops.length) (by omega) (by omega)
  refine ⟨?_, ?_, by rw [act_put_size]; exact hI.size, ?_, ?_, (hI.ms.mono hF.le).put, hst, hR.sub hs, ((hI.F.trans hF hci hcn)).sub hs, ?_, hdom⟩
  · rintro j (hj | rfl)
    · exact hI.lt j hj
    · exact hilt
  · rintro j oj e (hj | rfl) hoj he hb
    · exact Or.inl (hI.closed j oj e hj hoj he hb)
    · exact Or.inl (hpre oj e hoj he hb)
  · rintro j oj d (hj | rfl) hoj hd hdN
    · obtain ⟨q, h1, h2⟩ := hI.tv j oj d hj hoj hd hdN
      refine ⟨q, ?_, h2.mono hF.le⟩
      rw [act_put_other (fun e => ?_), h1]
      rcases Nat.lt_trichotomy i j with hlt | rfl | hgt
      · exact hr.txt.dst i j o oj d hlt ho hoj e hd
      · exact hn hj
      · exact hr.txt.dst j i oj o d hgt hoj ho hd e
    · rw [ho] at hoj; cases hoj
      rw [hd]
      exact ⟨u, act_put_self (by rw [hI.size]; exact hdN), hv⟩
  · intro d x hx hd
    obtain ⟨q, h1, h2⟩ := hI.t0 d x hx fun j oj hj hoj => hd j oj (Or.inl hj) hoj
    exact ⟨q, by rw [act_put_other (hd i o (Or.inr rfl) ho), h1], h2.mono hF.le⟩
  · intro j hj hjn n h1 h2
    cases hm : m' n with
    | none => rfl
    | some p =>
      exfalso
      rcases hF.dom n p hm with h3 | ⟨h3, h4⟩
      · rw [hI.fresh j hj (fun h => hjn (Or.inl h)) n h1 h2] at h3; cases h3
      · exact hjn (Or.inr (hr.apart hj hilt h1 h2 h3 h4))
theorem KL.widen {H : Tr AB} {i n : Nat} {x : AB} (h : KL P ops ois A H (fun j => L j ∨ j = i) n x) (hA : A i = none) : KL P ops ois A H L n x := by
  rcases h with h | ⟨j, h1, h2, h3⟩
  · exact Or.inl h
  · refine Or.inr ⟨j, h1, ?_, fun l o ol hl => h3 l o ol (Or.inl hl)⟩
    rcases h2 with h2 | rfl
    · exact h2
    · rw [hA] at h1; cases h1
theorem read_same {T : Tr AV} {H : Tr AB} {c : Nat} {o : Op} {r : MR} (hk : dkind P o = .read) (h : aexec P G rf rr T H c o = some r) : r.H = H ∧ r.c = c := by
  have mk : ∀ {v : Option AV}, mkM v H c = some r → r.H = H ∧ r.c = c := fun h => by
    obtain ⟨u, _, rfl⟩ := mkM_inv h
    exact ⟨rfl, rfl⟩
  cases o <;> simp only [dkind] at hk <;> try cases hk
  case load t x =>
    simp only [aexec] at h
    unfold amLoad at h
    split at h
    · cases h
    · exact mk h
  case convert s d x =>
    simp only [aexec] at h
    unfold amConv at h
    split at h
    · cases h
    · split at h
      · exact mk h
      · unfold amemConv at h
        repeat' split at h
        all_goals first | cases h; done | exact mk h | (rename_i hs _ _ _ _; rw [hs] at hk; simp at hk; done) | (rename_i hs _ _ _ _ _ ; rw [hs] at hk; simp at hk; done) | skip
        all_goals (exfalso; revert hk; simp only [‹P.underlying s = _›]; simp)
  case call cl =>
    split at hk <;> cases hk
theorem Stg.quiet (h : Stg P ops fk S HB L HX) {i : Nat} {o : Oper} (ho : ops[i]? = some o) (hl : isLoud P o = false) : Stg P ops fk S HB (fun j => L j ∨ j = i) HX := by
  have key : ∀ (l : Nat) (o' : Oper), ops[l]? = some o' → isLoud P o' = true → ((L l ∨ l = i) ↔ L l) := fun l o' h1 h2 => by
    refine ⟨?_, Or.inl⟩
    rintro (h | rfl)
    · exact h
    · rw [ho] at h1; cases h1
      rw [hl] at h2; cases h2
  rcases h with ⟨k, h1, h2, h3⟩ | ⟨la, lb, h1, h2, h3⟩
  · exact Or.inl ⟨k, h1, h2, fun l o' q1 q2 => (key l o' q1 q2).trans (h3 l o' q1 q2)⟩
  · exact Or.inr ⟨la, lb, h1, h2, fun l o' q1 q2 => (key l o' q1 q2).trans (h3 l o' q1 q2)⟩
/-- A writing operation is run. -/
theorem Inv.run (hr : Rn P G N rf rr ops ois fk S V A) (hrf : SoundF P G rf) (hrr : SoundR P G rr) {F : Fence} (hF : FOk F) (hG : Glob m G) (hI : Inv P N ops ois fk S HB V A ms m0 w0 L HX m a w)
    {i : Nat} {o : Oper} {oi : OI} (ho : ops[i]? = some o) (hoi : ois[i]? = some oi) (hl : isLoud P o = true) (hA : A i = none) (hn : ¬ L i) (hpre : ∀ (o' : Oper) (e : Edge), ops[i]? = some o' → e ∈ o'.after.toList → Region.binds .any e = true → L e.on) {Q : Exit → Act → World → Prop} {K : Act → World → Prop}
    {f H2 HX' : Tr AB} (he : aexec P G rf rr (S i).T f (S i).c o.op = some ⟨V i, H2, (S (i + 1)).c⟩) (hE : OE G (S i).T m a o.op.operands) (hf : ∀ n x, f.get n = some x → KL P ops ois A HX L n x)
    (hp : ∀ j n x, L j → A j = some (n, x) → (∀ (l : Nat) (o' : Oper) (ol : OI), L l → ops[l]? = some o' → ois[l]? = some ol → isLoud P o' = true → bit ol.b j = false) → bit oi.b j = false → f.get n = none)
    (hd : ∀ n x, f.get n = some x → (S 0).H.get n ≠ none ∨ ∃ j, (L j ∨ j = i) ∧ (S j).c ≤ n ∧ n < (S (j + 1)).c ∧ ((∃ o, ops[j]? = some o ∧ isLoud P o = true) ∨ ∃ l o ol, (L l ∨ l = i) ∧ ops[l]? = some o ∧ ois[l]? = some ol ∧ isLoud P o = true ∧ bit ol.b j = true))
    (hX : ∀ n b, HX'.get n = some b → H2.get n = some b) (hst : Stg P ops fk S HB (fun j => L j ∨ j = i) HX')
    (hK : ∀ HX' m' a' w', Inv P N ops ois fk S HB V A ms m0 w0 (fun j => L j ∨ j = i) HX' m' a' w' → K a' w') : o.wpIn F 0 P a w K Q := by
  have hilt := (List.getElem?_eq_some_iff.1 ho).1
  refine oper_sound hrf hrr he hF hG (hI.fresh i hilt hn) hE (hI.R.rel hf) fun m' u w' h1 h2 h3 => ?_
  obtain ⟨k1, k2⟩ := frame hI.R hf h2 h3
  refine hK HX' m' _ w' (hI.next hr ho hn hpre h1 k1 k2 (fun n x h => ?_) hst (fun n x h => ?_))
  · rcases h with h | ⟨j, q1, q2 | rfl, q3⟩
    · exact Or.inl (hX n x h)
    · have q4 : ∀ (l : Nat) (o' : Oper) (ol : OI), L l → ops[l]? = some o' → ois[l]? = some ol → isLoud P o' = true → bit ol.b j = false := fun l o' ol hl' => q3 l o' ol (Or.inl hl')
      exact Or.inr ⟨Or.inr ⟨j, q1, q2, q4⟩, hp j n x q2 q1 q4 (q3 i o oi (Or.inr rfl) ho hoi hl)⟩
    · rw [hA] at q1; cases q1
  · rcases h3.hd n x (hX n x h) with ⟨b', h⟩ | ⟨h5, h6⟩
    · exact hd n b' h
    · exact Or.inr ⟨i, Or.inr rfl, h5, h6, Or.inl ⟨o, ho, hl⟩⟩
/-- The next writing operation in the order of the text: all before it are through. -/
theorem Inv.nextLoud (hr : Rn P G N rf rr ops ois fk S V A) {k : Nat} (hkn : k ≤ ops.length) (hst : ∀ (l : Nat) (o : Oper), ops[l]? = some o → isLoud P o = true → (L l ↔ l < k)) {i : Nat} {o : Oper} (ho : ops[i]? = some o) (hn : ¬ L i) (hl : isLoud P o = true)
    (h1 : ∀ (l : Nat) (o' : Oper), ops[l]? = some o' → isLoud P o' = true → l < i → L l) : (S i).H = (S k).H ∧ ∀ (l : Nat) (o' : Oper), ops[l]? = some o' → isLoud P o' = true → ((L l ∨ l = i) ↔ l < i + 1) := by
  have hilt := (List.getElem?_eq_some_iff.1 ho).1
  have hki : k ≤ i := by
    rcases Nat.lt_or_ge i k with h | h
    · exact (hn ((hst i o ho hl).2 h)).elim
    · exact h
  refine ⟨hr.quiet_to hki (by omega) fun p o' h2 h3 h4 => ?_, fun l o' h2 h3 => ⟨?_, ?_⟩⟩
  · cases hq : isLoud P o' with
    | false => rfl
    | true => have := (hst p o' h4 hq).1 (h1 p o' h4 hq h3); omega
  · rintro (h | rfl)
    · have := (hst l o' h2 h3).1 h; omega
    · omega
  · intro h
    rcases Nat.lt_or_ge l i with h4 | h4
    · exact Or.inl (h1 l o' h2 h3 h4)
    · exact Or.inr (by omega)
theorem loud_none (hr : Rn P G N rf rr ops ois fk S V A) {i : Nat} {o : Oper} (ho : ops[i]? = some o) (hl : isLoud P o = true) : A i = none := by
  cases h : A i with
  | none => rfl
  | some p =>
    obtain ⟨h1, _⟩ := hr.name (n := p.1) (x := p.2) ho (by rw [h])
    rw [hl] at h1; cases h1
theorem awanted_none {o : Oper} {T : Tr AV} (h : o.guard = none) : awanted ops T o = some true := by unfold awanted; rw [h]
theorem Inv.step (hr : Rn P G N rf rr ops ois fk S V A) (hfk : ∀ la lb, fk = some (la, lb) → Frk P G rf rr ops S V HB la lb) (hrf : SoundF P G rf) (hrr : SoundR P G rr) {F : Fence} (hF : FOk F) (hG0 : Glob m0 G) (h0 : ∀ n x, (S 0).H.get n = some x → ¬ ((S 0).c ≤ n ∧ n < (S ops.length).c)) (hI : Inv P N ops ois fk S HB V A ms m0 w0 L HX m a w)
    {i : Nat} {o : Oper} (ho : ops[i]? = some o) (hn : ¬ L i) (hpre : ∀ (o' : Oper) (e : Edge), ops[i]? = some o' → e ∈ o'.after.toList → Region.binds .any e = true → L e.on) {K : Act → World → Prop} {Q : Exit → Act → World → Prop}
    (hK : ∀ HX' m' a' w', Inv P N ops ois fk S HB V A ms m0 w0 (fun j => L j ∨ j = i) HX' m' a' w' → K a' w') : wpOpIn F 0 P ops.toArray Q i K a w := by
  have hilt := (List.getElem?_eq_some_iff.1 ho).1
  obtain ⟨oi, hoi, hs⟩ := hr.step i o ho
  have hlk := hI.looks hr ho hoi hn hpre
  have hG : Glob m G := fun g hg => hI.F.le _ _ (hG0 g hg)
  have hE : OE G (S i).T m a o.op.operands := look_ops hlk hG
  have hfr := hI.fresh i hilt hn
  have hdomL : ∀ n b, HX.get n = some b → (S 0).H.get n ≠ none ∨ ∃ j, (L j ∨ j = i) ∧ (S j).c ≤ n ∧ n < (S (j + 1)).c ∧ ((∃ o, ops[j]? = some o ∧ isLoud P o = true) ∨ ∃ l o ol, (L l ∨ l = i) ∧ ops[l]? = some o ∧ ois[l]? = some ol ∧ isLoud P o = true ∧ bit ol.b j = true) := by
    intro n b h
    rcases hI.dom n b h with h | ⟨j, h1, h2, h3, h4⟩
    · exact Or.inl h
    · refine Or.inr ⟨j, Or.inl h1, h2, h3, h4.imp id ?_⟩
      rintro ⟨l, o, ol, g1, g2⟩
      exact ⟨l, o, ol, Or.inl g1, g2⟩
  unfold wpOpIn
  simp only [List.getElem?_toArray, ho]
  cases hl : isLoud P o with
  | false =>
    rcases hs.want with ⟨hw, hv, hA, hc, hH⟩ | ⟨hw, hq⟩
    · rw [awanted_look hw hlk]
      exact ⟨fun f _ => hF.fn f, hK HX m _ w (hI.next hr ho hn hpre (by rw [hv]; exact undef_VR) hI.R FrP.refl (fun n x h => h.widen hA) (hI.stg.quiet ho hl) hdomL)⟩
    · rw [awanted_look hw hlk]
      rcases hq with ⟨_, H1, he, hA⟩ | ⟨hk, hA, hc, he, hrd⟩ | ⟨hl', _, _⟩
      · refine oper_sound hrf hrr he hF hG hfr hE (hI.R.rel fun n x h => by cases h) fun m' u w' h1 h2 h3 => ?_
        obtain ⟨k1, k2⟩ := frame hI.R (fun n x h => by cases h) h2 h3
        refine hK HX m' _ w' (hI.next hr ho hn hpre h1 k1 k2 (fun n x h => ?_) (hI.stg.quiet ho hl) hdomL)
        rcases h with h | ⟨j, q1, q2 | rfl, q3⟩
        · exact Or.inr ⟨Or.inl h, rfl⟩
        · exact Or.inr ⟨Or.inr ⟨j, q1, q2, fun l o' ol hl' => q3 l o' ol (Or.inl hl')⟩, rfl⟩
        · exact Or.inl (hA n x q1).1
      · -- the reading, at this stage
        have hval : dreads P G rf rr (S i).T (S i).c o.op HX = some (V i) := by
          rcases hI.stg with ⟨k, hkn, hHX, hst⟩ | ⟨la, lb, hfe, hHX, hst⟩
          · have hlo : ∀ q, (∀ (p : Nat) (o' : Oper), ops[p]? = some o' → isLoud P o' = true → bit oi.b p = true → p < q) → oi.lo ≤ cnt P ops q := fun q hq => by
              rw [hr.txt.lo i oi hoi]
              exact loudsIn_le fun p o' h1 h2 h3 => hq p o' h1 h2 (by simpa using h3)
            have h1 : oi.lo ≤ cnt P ops i := hlo i fun p o' _ _ h3 => (hr.txt.bef i oi p hoi h3).lt hr.txt
            have h2 : cnt P ops i ≤ oi.hi := hr.txt.hi i oi i hoi fun p o' op _ h2 _ h4 => by
              cases hb : bit op.b i with
              | false => rfl
              | true => have := (hr.txt.bef p op i h2 hb).lt hr.txt; omega
            have h3 : oi.lo ≤ cnt P ops k := hlo k fun p o' q1 q2 q3 => (hst p o' q1 q2).1 ((hr.txt.bef i oi p hoi q3).ready hI.closed hpre)
            have h4 : cnt P ops k ≤ oi.hi := hr.txt.hi i oi k hoi fun p o' op q1 q2 q3 q4 => by
              cases hb : bit op.b i with
              | false => rfl
              | true => exact (hn ((hr.txt.bef p op i q2 hb).closed hI.closed ((hst p o' q1 q3).2 q4))).elim
            rw [hHX]
            rcases hrd with hrd | hrd
            · rw [hr.same hkn (by omega : i ≤ ops.length) (by omega)]
              exact he
            · have hmem := hr.rds_mono (i := i + 1) hrd (d := ops.length - (i + 1)) (by omega)
              rw [show i + 1 + (ops.length - (i + 1)) = ops.length by omega] at hmem
              obtain ⟨H, q1, q2⟩ := rdsOk_inv hr.rds _ hmem (cnt P ops k) h3 h4
              rw [hr.at_end hkn] at q1
              cases q1
              exact q2
          · obtain ⟨g1, g2, ol, g3, g4⟩ := hr.txt.fork la lb hfe
            obtain ⟨ob, hob⟩ := get_of_lt g2
            have := ((hfk la lb hfe).snd ob hob).1
            exact (hn ((hr.txt.bef lb ol i g3 ((g4 i o ho).1 hk)).closed hI.closed ((hst lb ob hob this).2 (Or.inr rfl)))).elim
        unfold dreads at hval
        split at hval
        · rename_i v H' c' hx
          cases hval
          obtain ⟨e1, e2⟩ := read_same hk hx
          have e1 : H' = HX := e1
          have e2 : c' = (S i).c := e2
          subst e1 e2
          refine oper_sound hrf hrr hx hF hG (fun n q1 q2 => by have q2 : n < (S i).c := q2; omega) hE (hI.R.rel fun n x h => Or.inl h) fun m' u w' h1 h2 h3 => ?_
          obtain ⟨k1, k2⟩ := frame hI.R (fun n x h => Or.inl h) h2 h3
          refine hK _ m' _ w' (hI.next hr ho hn hpre h1 k1 (by rw [hc]; exact k2) (fun n x h => ?_) (hI.stg.quiet ho hl) hdomL)
          rcases h.widen hA with h | ⟨j, q1, q2, q3⟩
          · exact Or.inl h
          · exact Or.inr ⟨Or.inr ⟨j, q1, q2, q3⟩, hI.apart hr h0 (hI.lt j q2) q1 q3⟩
        · cases hval
      · rw [hl] at hl'; cases hl'
  | true =>
    have hAi := loud_none hr ho hl
    have hpX : ∀ j n x, L j → A j = some (n, x) → (∀ (l : Nat) (o' : Oper) (ol : OI), L l → ops[l]? = some o' → ois[l]? = some ol → isLoud P o' = true → bit ol.b j = false) → bit oi.b j = false → HX.get n = none := fun j n x q1 q2 q3 _ => hI.apart hr h0 (hI.lt j q1) q2 q3
    rcases hI.stg with ⟨k, hkn, hHX, hst⟩ | ⟨la, lb, hfe, hHX, hst⟩
    · by_cases hall : ∀ (l : Nat) (o' : Oper), ops[l]? = some o' → isLoud P o' = true → l < i → L l
      · obtain ⟨g1, g3⟩ := Inv.nextLoud hr hkn hst ho hn hl hall
        rw [← hHX] at g1
        have hst' : Stg P ops fk S HB (fun j => L j ∨ j = i) (S (i + 1)).H := Or.inl ⟨i + 1, by omega, rfl, g3⟩
        -- what a writing operation knows
        have habs : ∀ n x, (dabsH oi.b (S i).pa (S i).H).get n = some x → HX.get n = some x ∨ ∃ j, L j ∧ A j = some (n, x) ∧ bit oi.b j = true ∧ ∀ (l : Nat) (o' : Oper) (ol : OI), L l → ops[l]? = some o' → ois[l]? = some ol → isLoud P o' = true → bit ol.b j = false := by
          intro n x h
          rcases dabsH_get h with h | ⟨j, h1, h2⟩
          · rw [g1] at h; exact Or.inl h
          · obtain ⟨p1, p2, p3⟩ := hr.pend (i := i) (by omega) h1
            refine Or.inr ⟨j, (hr.txt.bef i oi j hoi h2).ready hI.closed hpre, p2, h2, fun l o' ol q1 q2 q3 q4 => p3 l o' ol ?_ q2 q3 q4⟩
            rcases Nat.lt_or_ge l i with h | h
            · exact h
            · exfalso
              have := (g3 l o' q2 q4).1 (Or.inl q1)
              have : l = i := by omega
              subst this
              exact hn q1
        have hdomA : ∀ n x, (dabsH oi.b (S i).pa (S i).H).get n = some x → (S 0).H.get n ≠ none ∨ ∃ j, (L j ∨ j = i) ∧ (S j).c ≤ n ∧ n < (S (j + 1)).c ∧ ((∃ o, ops[j]? = some o ∧ isLoud P o = true) ∨ ∃ l o ol, (L l ∨ l = i) ∧ ops[l]? = some o ∧ ois[l]? = some ol ∧ isLoud P o = true ∧ bit ol.b j = true) := by
          intro n x h
          rcases habs n x h with h | ⟨j, h1, h2, h3, _⟩
          · exact hdomL n x h
          · obtain ⟨oj, hoj⟩ := get_of_lt (hI.lt j h1)
            obtain ⟨_, q2, q3⟩ := hr.name hoj h2
            exact Or.inr ⟨j, Or.inl h1, by omega, q3, Or.inr ⟨i, o, oi, Or.inr rfl, ho, hoi, hl, h3⟩⟩
        have hsub : ∀ n x, (dabsH oi.b (S i).pa (S i).H).get n = some x → KL P ops ois A HX L n x := fun n x h => by
          rcases habs n x h with h | ⟨j, h1, h2, _, h4⟩
          · exact Or.inl h
          · exact Or.inr ⟨j, h2, h1, h4⟩
        rcases hs.want with ⟨hw, hv, hA, hc, hH⟩ | ⟨hw, hq⟩
        · rw [awanted_look hw hlk]
          have hH := hH hl
          refine ⟨fun f _ => hF.fn f, hK (S (i + 1)).H m _ w (hI.next hr ho hn hpre (by rw [hv]; exact undef_VR) hI.R FrP.refl (fun n x h => ?_) hst' (by rw [hH]; exact hdomA))⟩
          rcases h.widen hA with h | h
          · rw [hH] at h; exact hsub n x h
          · exact Or.inr h
        · rw [awanted_look hw hlk]
          rcases hq with ⟨hl', _⟩ | ⟨hk, _⟩ | ⟨_, _, he⟩
          · rw [hl] at hl'; cases hl'
          · unfold isLoud at hl; rw [hk] at hl; cases hl
          · refine hI.run hr hrf hrr hF hG ho hoi hl hAi hn hpre he hE hsub (fun j n x q2 q1 q4 q5 => ?_) hdomA (fun n b h => h) hst' hK
            cases hg : (dabsH oi.b (S i).pa (S i).H).get n with
            | none => rfl
            | some y =>
              exfalso
              rcases habs n y hg with h | ⟨j', h1', h2', h3', _⟩
              · rw [hpX j n x q2 q1 q4 q5] at h; cases h
              · obtain ⟨oj, hoj⟩ := get_of_lt (hI.lt j q2)
                obtain ⟨oj', hoj'⟩ := get_of_lt (hI.lt j' h1')
                obtain ⟨_, p2, p3⟩ := hr.name hoj q1
                obtain ⟨_, p4, p5⟩ := hr.name hoj' h2'
                have := hr.apart (hI.lt j q2) (hI.lt j' h1') (by omega) p3 (by omega) p5
                subst this
                rw [q5] at h3'; cases h3'
      · -- the second of two last stores comes first
        obtain ⟨l, o', q1, q2, q3, q4⟩ : ∃ l o', ops[l]? = some o' ∧ isLoud P o' = true ∧ l < i ∧ ¬ L l := by
          refine Classical.byContradiction fun h => hall fun l o' q1 q2 q3 => Classical.byContradiction fun q4 => h ⟨l, o', q1, q2, q3, q4⟩
        have hfe : fk = some (l, i) := by
          refine Classical.byContradiction fun h => q4 ?_
          have hc : clash P ops fk l i o' o = true := by
            unfold clash
            rw [q2, hl]
            have : fkPair fk l i = false := by
              unfold fkPair
              split
              · rename_i x y
                cases hb : Nat.beq l x && Nat.beq i y with
                | false => rfl
                | true =>
                  rw [Bool.and_eq_true, Nat.beq_eq, Nat.beq_eq] at hb
                  exact (h (by rw [hb.1, hb.2])).elim
              · rfl
            rw [this]; simp
          exact (hr.txt.bef i oi l hoi (hr.txt.clash l i o' o oi q3 q1 ho hoi hc)).ready hI.closed hpre
        obtain ⟨_, _, ol, _, g4⟩ := hr.txt.fork l i hfe
        obtain ⟨_, hg, he⟩ := (hfk l i hfe).snd o ho
        rw [awanted_look (awanted_none hg) hlk]
        have hkl : k ≤ l := by
          rcases Nat.lt_or_ge l k with h | h
          · exact (q4 ((hst l o' q1 q2).2 h)).elim
          · exact h
        have hlts : ∀ (p : Nat) (op : Oper), ops[p]? = some op → isLoud P op = true → p < l → L p := fun p op p1 p2 p3 => by
          have hc : clash P ops fk p l op o' = true := by
            unfold clash
            rw [q2, p2]
            have : fkPair fk p l = false := by
              rw [hfe]
              unfold fkPair
              simp only [Bool.and_eq_false_iff]
              refine Or.inl ?_
              cases hb : Nat.beq p l with
              | false => rfl
              | true => exact absurd (Nat.eq_of_beq_eq_true hb) (by omega)
            rw [this]; simp
          -- p is before the second store as well
          have hc2 : clash P ops fk p i op o = true := by
            unfold clash
            rw [hl, p2]
            have : fkPair fk p i = false := by
              rw [hfe]
              unfold fkPair
              simp only [Bool.and_eq_false_iff]
              refine Or.inl ?_
              cases hb : Nat.beq p l with
              | false => rfl
              | true => exact absurd (Nat.eq_of_beq_eq_true hb) (by omega)
            rw [this]; simp
          exact (hr.txt.bef i oi p hoi (hr.txt.clash p i op o oi (by omega) p1 ho hoi hc2)).ready hI.closed hpre
        have hSl : (S l).H = (S k).H := hr.quiet_to hkl (by omega) fun p op p1 p2 p3 => by
          cases hq : isLoud P op with
          | false => rfl
          | true => have := (hst p op p3 hq).1 (hlts p op p3 hq p2); omega
        rw [hSl, ← hHX] at he
        refine hI.run hr hrf hrr hF hG ho hoi hl hAi hn hpre he hE (fun n x h => Or.inl h) hpX hdomL (fun n b h => h) (Or.inr ⟨l, i, hfe, rfl, fun p op p1 p2 => ⟨?_, ?_⟩⟩) hK
        · rintro (h | rfl)
          · have := (hst p op p1 p2).1 h; exact Or.inl (by omega)
          · exact Or.inr rfl
        · rintro (h | rfl)
          · exact Or.inl (hlts p op p1 p2 h)
          · exact Or.inr rfl
    · -- the first of two last stores comes second
      obtain ⟨hab, hbn, ol, g3, g4⟩ := hr.txt.fork la lb hfe
      have hila : i = la := by
        rcases (g4 i o ho).2 hl with h | h | h
        · exact (hn ((hst i o ho hl).2 (Or.inl h))).elim
        · exact h
        · exact (hn ((hst i o ho hl).2 (Or.inr h))).elim
      subst hila
      obtain ⟨HA, he, hsubA⟩ := (hfk i lb hfe).ba
      have hg := ((hfk i lb hfe).fst o ho).2
      rw [awanted_look (awanted_none hg) hlk]
      have he := he o ho
      rw [← hHX] at he
      refine hI.run hr hrf hrr hF hG ho hoi hl hAi hn hpre he hE (fun n x h => Or.inl h) hpX hdomL hsubA (Or.inl ⟨lb + 1, by omega, rfl, fun p op p1 p2 => ⟨?_, ?_⟩⟩) hK
      · rintro (h | rfl)
        · rcases (hst p op p1 p2).1 h with h | h <;> omega
        · omega
      · intro h
        rcases (g4 p op p1).2 p2 with h1 | h1 | h1
        · exact Or.inl ((hst p op p1 p2).2 (Or.inl h1))
        · exact Or.inr h1
        · exact Or.inl ((hst p op p1 p2).2 (Or.inr h1))
end
end
end Go.Proofs.YtknmbmdeilbdkaaGreatDoor.Ev
