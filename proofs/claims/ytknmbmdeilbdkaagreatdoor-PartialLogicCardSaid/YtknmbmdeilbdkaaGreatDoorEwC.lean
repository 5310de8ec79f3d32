/- Drawn regions: what the text says of the order, in words; counting; what the run says of slots, names and memory. -/
import Derived.Test.YtknmbmdeilbdkaaGreatDoorEwB
namespace Go.Proofs.YtknmbmdeilbdkaaGreatDoor.Ev
open Go
section
variable {P : Program} {G N : Nat} {rf rr : CallF} {ops : List Oper}

theorem isIn_mem {d : Nat} : ∀ {l : List Nat}, d ∈ l → isIn d l = true
  | t :: l, h => by
    simp only [isIn, Bool.or_eq_true]
    rcases List.mem_cons.1 h with rfl | h
    · exact Or.inl (Nat.beq_refl _)
    · exact Or.inr (isIn_mem h)
theorem restOk_inv {fk : Option (Nat × Nat)} {i : Nat} {o : Oper} : ∀ {l : List Oper} {bs : List Nat} {j : Nat}, restOk P ops fk i o l bs j = true → ∀ (q : Nat) (o' : Oper) (b' : Nat), l[q]? = some o' → bs[q]? = some b' → (clash P ops fk i (j + q) o o' = true → bit b' i = true) ∧ sameDst o o' = false
  | [], _, _, _, q, o', b', h, _ => by simp at h
  | _ :: _, [], _, h, _, _, _, _, _ => by simp [restOk] at h
  | p :: l, c :: bs, j, h, q, o', b', h1, h2 => by
    simp only [restOk, Bool.and_eq_true, Bool.or_eq_true, Bool.not_eq_true'] at h
    obtain ⟨h3, h4, h5⟩ := h
    cases q with
    | zero =>
      simp at h1 h2
      subst h1 h2
      refine ⟨fun hc => ?_, h4⟩
      rcases h3 with h3 | h3
      · rw [Nat.add_zero] at hc; rw [hc] at h3; cases h3
      · exact h3
    | succ q =>
      have := restOk_inv h5 q o' b' (by simpa using h1) (by simpa using h2)
      rw [show j + (q + 1) = j + 1 + q by omega]
      exact this
theorem allOk_inv {fk : Option (Nat × Nat)} : ∀ {l : List Oper} {bs : List Nat} {i : Nat}, allOk P ops fk l bs i = true → ∀ (p q : Nat) (o o' : Oper) (b' : Nat), p < q → l[p]? = some o → l[q]? = some o' → bs[q]? = some b' → (clash P ops fk (i + p) (i + q) o o' = true → bit b' (i + p) = true) ∧ sameDst o o' = false
  | [], _, _, _, p, q, o, o', b', _, h, _, _ => by simp at h
  | _ :: _, [], _, h, _, _, _, _, _, _, _, _, _ => by simp [allOk] at h
  | x :: l, b :: bs, i, h, p, q, o, o', b', hpq, h1, h2, h3 => by
    simp only [allOk, Bool.and_eq_true] at h
    obtain ⟨q, rfl⟩ : ∃ r, q = r + 1 := ⟨q - 1, by omega⟩
    cases p with
    | zero =>
      simp at h1
      subst h1
      have := restOk_inv h.1 q o' b' (by simpa using h2) (by simpa using h3)
      rw [show i + (q + 1) = i + 1 + q by omega]
      exact this
    | succ p =>
      have := allOk_inv h.2 p q o o' b' (by omega) (by simpa using h1) (by simpa using h2) (by simpa using h3)
      rw [show i + (p + 1) = i + 1 + p by omega, show i + (q + 1) = i + 1 + q by omega]
      exact this
theorem forkOk_inv {la lb b : Nat} : ∀ {l : List Oper} {j : Nat}, forkOk P la lb b l j = true → ∀ (p : Nat) (o : Oper), l[p]? = some o → (dkind P o.op = .read → bit b (j + p) = true) ∧ (isLoud P o = true → j + p < la ∨ j + p = la ∨ j + p = lb)
  | [], _, _, p, o, h => by simp at h
  | x :: l, j, h, p, o, hp => by
    simp only [forkOk, Bool.and_eq_true] at h
    cases p with
    | zero =>
      simp at hp
      subst hp
      obtain ⟨h, _⟩ := h
      refine ⟨fun hk => ?_, fun hl => ?_⟩
      · rw [hk] at h; exact h
      · unfold isLoud at hl
        split at hl
        · rename_i hk
          rw [hk] at h
          simp only [Bool.or_eq_true, Nat.beq_eq, Nat.blt_eq] at h
          exact h
        · cases hl
    | succ p =>
      have := forkOk_inv h.2 p o (by simpa using hp)
      rw [show j + (p + 1) = j + 1 + p by omega]
      exact this
theorem infos_get {bs : List Nat} : ∀ {l : List Nat} {i j : Nat} {oi : OI}, (infos P ops bs l i)[j]? = some oi → ∃ b, l[j]? = some b ∧ oi = ⟨b, loudsIn P b ops 0, loudsNot P (i + j) ops bs⟩
  | [], i, j, oi, h => by simp [infos] at h
  | b :: l, i, j, oi, h => by
    cases j with
    | zero => simp [infos] at h; exact ⟨b, rfl, h.symm⟩
    | succ j =>
      obtain ⟨b', h1, h2⟩ := infos_get (l := l) (i := i + 1) (j := j) (oi := oi) (by simpa [infos] using h)
      exact ⟨b', by simpa using h1, by rw [h2, show i + 1 + j = i + (j + 1) by omega]⟩
theorem infos_len {bs : List Nat} : ∀ {l : List Nat} {i : Nat}, (infos P ops bs l i).length = l.length
  | [], _ => rfl
  | _ :: l, i => by simp [infos, infos_len (l := l)]
/-- How many of the first k operations write. -/
def cnt (P : Program) : List Oper → Nat → Nat
  | [], _ => 0
  | _ :: _, 0 => 0
  | o :: l, k + 1 => (match isLoud P o with | true => 1 | false => 0) + cnt P l k
theorem cnt_zero (l : List Oper) : cnt P l 0 = 0 := by cases l <;> rfl
theorem cnt_succ : ∀ {l : List Oper} {k : Nat} {o : Oper}, l[k]? = some o → cnt P l (k + 1) = cnt P l k + (match isLoud P o with | true => 1 | false => 0)
  | [], k, o, h => by simp at h
  | x :: l, 0, o, h => by simp at h; subst h; simp [cnt, cnt_zero]
  | x :: l, k + 1, o, h => by
    have := cnt_succ (l := l) (k := k) (o := o) (by simpa using h)
    simp only [cnt, this]
    omega
theorem loudsIn_le {b : Nat} : ∀ {l : List Oper} {j k : Nat}, (∀ (p : Nat) (o : Oper), l[p]? = some o → isLoud P o = true → bit b (j + p) = true → p < k) → loudsIn P b l j ≤ cnt P l k
  | [], j, k, _ => by simp [loudsIn]
  | o :: l, j, k, h => by
    have ih := fun k (hk : ∀ (p : Nat) (o : Oper), l[p]? = some o → isLoud P o = true → bit b (j + 1 + p) = true → p < k) => loudsIn_le (l := l) (j := j + 1) (k := k) hk
    have h' : ∀ (p : Nat) (o : Oper), l[p]? = some o → isLoud P o = true → bit b (j + 1 + p) = true → p + 1 < k := fun p o h1 h2 h3 => h (p + 1) o (by simpa using h1) h2 (by rw [show j + (p + 1) = j + 1 + p by omega]; exact h3)
    simp only [loudsIn]
    split
    · rename_i hq
      rw [Bool.and_eq_true] at hq
      have h0 := h 0 o rfl hq.1 (by simpa using hq.2)
      obtain ⟨k, rfl⟩ : ∃ r, k = r + 1 := ⟨k - 1, by omega⟩
      have := ih k fun p o h1 h2 h3 => by have := h' p o h1 h2 h3; omega
      simp only [cnt, hq.1]
      omega
    · cases k with
      | zero =>
        have := ih 0 fun p o h1 h2 h3 => by have := h' p o h1 h2 h3; omega
        rw [cnt_zero] at this ⊢
        exact this
      | succ k =>
        have := ih k fun p o h1 h2 h3 => by have := h' p o h1 h2 h3; omega
        simp only [cnt]
        omega
theorem cnt_le_not {i : Nat} : ∀ {l : List Oper} {bs : List Nat} {k : Nat}, l.length ≤ bs.length → (∀ (p : Nat) (o : Oper) (b : Nat), l[p]? = some o → bs[p]? = some b → isLoud P o = true → p < k → bit b i = false) → cnt P l k ≤ loudsNot P i l bs
  | [], bs, k, _, _ => by simp [cnt]
  | _ :: _, [], _, h, _ => by simp at h
  | o :: l, b :: bs, 0, _, _ => by simp [cnt]
  | o :: l, b :: bs, k + 1, hl, h => by
    have ih := cnt_le_not (i := i) (l := l) (bs := bs) (k := k) (by simpa using hl) fun p o' b' h1 h2 h3 h4 => h (p + 1) o' b' (by simpa using h1) (by simpa using h2) h3 (by omega)
    simp only [loudsNot, cnt]
    cases ho : isLoud P o with
    | false => simp; exact ih
    | true =>
      have := h 0 o b rfl rfl ho (by omega)
      simp [this]
      omega
/-- What the text of a region says. -/
structure Txt (P : Program) (ops : List Oper) (ois : List OI) (fk : Option (Nat × Nat)) : Prop where
  len : ois.length = ops.length
  bef : ∀ (i : Nat) (oi : OI) (j : Nat), ois[i]? = some oi → bit oi.b j = true → InBef ops j i
  back : ∀ (i : Nat) (o : Oper) (e : Edge), ops[i]? = some o → e ∈ o.after.toList → Region.binds .any e = true → e.on < i
  clash : ∀ (i j : Nat) (o o' : Oper) (oi : OI), i < j → ops[i]? = some o → ops[j]? = some o' → ois[j]? = some oi → clash P ops fk i j o o' = true → bit oi.b i = true
  dst : ∀ (i j : Nat) (o o' : Oper) (d : Nat), i < j → ops[i]? = some o → ops[j]? = some o' → o.dst = some d → o'.dst ≠ some d
  lo : ∀ (i : Nat) (oi : OI), ois[i]? = some oi → oi.lo = loudsIn P oi.b ops 0
  hi : ∀ (i : Nat) (oi : OI) (k : Nat), ois[i]? = some oi → (∀ (p : Nat) (o : Oper) (op : OI), ops[p]? = some o → ois[p]? = some op → isLoud P o = true → p < k → bit op.b i = false) → cnt P ops k ≤ oi.hi
  fork : ∀ la lb, fk = some (la, lb) → la < lb ∧ lb < ops.length ∧ ∃ ol, ois[lb]? = some ol ∧ ∀ (p : Nat) (o : Oper), ops[p]? = some o → (dkind P o.op = .read → bit ol.b p = true) ∧ (isLoud P o = true → p < la ∨ p = la ∨ p = lb)
theorem infos_txt {bs : List Nat} {fk : Option (Nat × Nat)} (hb : befs ops [] = some bs) (ha : allOk P ops fk ops bs 0 = true) (hf : ∀ la lb, fk = some (la, lb) → ∃ b, bs[lb]? = some b ∧ forkOk P la lb b ops 0 = true ∧ la < lb ∧ lb < ops.length) : Txt P ops (infos P ops bs bs 0) fk := by
  obtain ⟨h1, h2⟩ := befs_sound (ops := ops) (bs := []) hb (fun j => by simp) ⟨fun i b h => by simp at h, fun i o e h => by simp at h⟩
  have h2 : bs.length = ops.length := by simpa using h2
  have hlen : (infos P ops bs bs 0).length = ops.length := by rw [infos_len, h2]
  refine ⟨hlen, ?_, ?_, ?_, ?_, ?_, ?_, ?_⟩
  · intro i oi j hi hj
    obtain ⟨b, h3, rfl⟩ := infos_get hi
    exact h1.1 i b h3 j hj
  · intro i o e ho he hb
    exact h1.2 i o e (by rw [h2]; exact (List.getElem?_eq_some_iff.1 ho).1) ho he hb
  · intro i j o o' oi hij hi hj hoi hc
    obtain ⟨b, h3, rfl⟩ := infos_get hoi
    have := (allOk_inv ha i j o o' b hij hi hj h3).1 (by simpa using hc)
    simpa using this
  · intro i j o o' d hij hi hj hd hd'
    obtain ⟨b, h3⟩ : ∃ b, bs[j]? = some b := by
      have := (List.getElem?_eq_some_iff.1 hj).1
      exact ⟨bs[j]'(by omega), List.getElem?_eq_getElem (by omega)⟩
    have := (allOk_inv ha i j o o' b hij hi hj h3).2
    simp [sameDst, hd, hd'] at this
  · intro i oi hoi
    obtain ⟨b, h3, rfl⟩ := infos_get hoi
    rfl
  · intro i oi k hoi hp
    obtain ⟨b, h3, rfl⟩ := infos_get hoi
    simp only [Nat.zero_add]
    refine cnt_le_not (by omega) fun p o b' h4 h5 h6 h7 => ?_
    have hlt := (List.getElem?_eq_some_iff.1 h4).1
    have hx : (infos P ops bs bs 0)[p]? = some ((infos P ops bs bs 0)[p]'(by omega)) := List.getElem?_eq_getElem (by omega)
    obtain ⟨b2, h8, h9⟩ := infos_get hx
    rw [h5] at h8
    cases h8
    have := hp p o _ h4 hx h6 h7
    rw [h9] at this
    exact this
  · intro la lb e
    obtain ⟨b, g1, g2, g3, g4⟩ := hf la lb e
    have hx : (infos P ops bs bs 0)[lb]? = some ((infos P ops bs bs 0)[lb]'(by omega)) := List.getElem?_eq_getElem (by omega)
    obtain ⟨b2, h8, h9⟩ := infos_get hx
    rw [g1] at h8
    cases h8
    refine ⟨g3, g4, _, hx, fun p o hp => ?_⟩
    rw [h9]
    have := forkOk_inv g2 p o hp
    simpa using this
theorem dinfo_txt {ois : List OI} {fk : Option (Nat × Nat)} (h : dinfo P ops = some (ois, fk)) : Txt P ops ois fk := by
  unfold dinfo at h
  split at h
  · cases h
  · rename_i bs hb
    split at h
    · split at h
      · rename_i ha
        cases h
        exact infos_txt hb ha fun la lb e => by cases e
      · cases h
    · rename_i la lb _
      split at h
      · rename_i b ha hn
        split at h
        · rename_i hf
          cases h
          simp only [Bool.and_eq_true, Nat.blt_eq] at hf
          rw [nth_eq] at hn
          exact infos_txt hb ha fun la lb e => by cases e; exact ⟨b, hn, hf.1, hf.2.1, hf.2.2⟩
        · cases h
      · cases h
theorem InBef.lt {ois : List OI} {fk : Option (Nat × Nat)} (hT : Txt P ops ois fk) {i j : Nat} (h : InBef ops j i) : j < i := by
  induction h with
  | edge ho he hb => exact hT.back _ _ _ ho he hb
  | trans ho he hb _ ih => exact Nat.lt_trans ih (hT.back _ _ _ ho he hb)

theorem rdAll_inv {e : RdE} : ∀ {l : List (Tr AB)} {n : Nat}, rdAll e l n = true → ∀ t, t < n → ∃ H, l[t]? = some H ∧ e.f H = some e.v
  | _, 0, _, t, ht => by omega
  | [], n + 1, h, _, _ => by simp [rdAll] at h
  | H :: l, n + 1, h, t, ht => by
    simp only [rdAll, Bool.and_eq_true] at h
    cases t with
    | zero =>
      obtain ⟨h, _⟩ := h
      split at h
      · rename_i v hv
        exact ⟨H, rfl, by rw [hv, avEq_sound 4 _ _ h]⟩
      · cases h
    | succ t =>
      obtain ⟨H', h1, h2⟩ := rdAll_inv h.2 t (by omega)
      exact ⟨H', by simpa using h1, h2⟩
theorem rdsOk_inv {outs : List (Tr AB)} : ∀ {rds : List RdE}, rdsOk outs rds = true → ∀ e ∈ rds, ∀ t, e.lo ≤ t → t ≤ e.hi → ∃ H, outs.reverse[t]? = some H ∧ e.f H = some e.v
  | [], _, e, he, _, _, _ => by cases he
  | e' :: es, h, e, he, t, h1, h2 => by
    simp only [rdsOk, Bool.and_eq_true] at h
    rcases List.mem_cons.1 he with rfl | he
    · obtain ⟨H, h3, h4⟩ := rdAll_inv h.1 (t - e.lo) (by omega)
      refine ⟨H, ?_, h4⟩
      rw [List.getElem?_drop, show e.lo + (t - e.lo) = t by omega] at h3
      exact h3
    · exact rdsOk_inv h.2 e he t h1 h2

/-- The run of a whole region. -/
structure Rn (P : Program) (G N : Nat) (rf rr : CallF) (ops : List Oper) (ois : List OI) (fk : Option (Nat × Nat)) (S : Nat → DS) (V : Nat → AV) (A : Nat → Option (Nat × AB)) : Prop where
  txt : Txt P ops ois fk
  outs : (S 0).outs = [(S 0).H]
  pa : (S 0).pa = []
  step : ∀ (i : Nat) (o : Oper), ops[i]? = some o → ∃ oi, ois[i]? = some oi ∧ Stp P G N rf rr ops i oi o (S i) (S (i + 1)) (V i) (A i)
  rds : rdsOk (S ops.length).outs (S ops.length).rds = true
section
variable {ois : List OI} {fk : Option (Nat × Nat)} {S : Nat → DS} {V : Nat → AV} {A : Nat → Option (Nat × AB)}
theorem get_of_lt {α : Type} {l : List α} {i : Nat} (h : i < l.length) : ∃ o, l[i]? = some o := ⟨l[i], List.getElem?_eq_getElem h⟩
theorem Rn.mono (h : Rn P G N rf rr ops ois fk S V A) {i : Nat} : ∀ {d : Nat}, i + d ≤ ops.length → (S i).c ≤ (S (i + d)).c
  | 0, _ => Nat.le_refl _
  | d + 1, hd => by
    obtain ⟨o, ho⟩ := get_of_lt (l := ops) (i := i + d) (by omega)
    obtain ⟨oi, _, hs⟩ := h.step _ o ho
    exact Nat.le_trans (h.mono (i := i) (d := d) (by omega)) hs.cle
theorem Rn.le (h : Rn P G N rf rr ops ois fk S V A) {i j : Nat} (hij : i ≤ j) (hj : j ≤ ops.length) : (S i).c ≤ (S j).c := by
  obtain ⟨d, rfl⟩ : ∃ d, j = i + d := ⟨j - i, by omega⟩
  exact h.mono hj
theorem Rn.rds_mono (h : Rn P G N rf rr ops ois fk S V A) {i : Nat} {e : RdE} (he : e ∈ (S i).rds) : ∀ {d : Nat}, i + d ≤ ops.length → e ∈ (S (i + d)).rds
  | 0, _ => he
  | d + 1, hd => by
    obtain ⟨o, ho⟩ := get_of_lt (l := ops) (i := i + d) (by omega)
    obtain ⟨oi, _, hs⟩ := h.step _ o ho
    exact hs.rds e (h.rds_mono (i := i) he (d := d) (by omega))
theorem Rn.outs_mono (h : Rn P G N rf rr ops ois fk S V A) {i t : Nat} {x : Tr AB} (he : (S i).outs.reverse[t]? = some x) : ∀ {d : Nat}, i + d ≤ ops.length → (S (i + d)).outs.reverse[t]? = some x
  | 0, _ => he
  | d + 1, hd => by
    obtain ⟨o, ho⟩ := get_of_lt (l := ops) (i := i + d) (by omega)
    obtain ⟨oi, _, hs⟩ := h.step _ o ho
    have ih := h.outs_mono (i := i) he (d := d) (by omega)
    cases hl : isLoud P o with
    | false =>
      have := (hs.quiet hl).2.1
      rw [show i + (d + 1) = i + d + 1 by omega, this]; exact ih
    | true =>
      have := (hs.loud hl).1
      rw [show i + (d + 1) = i + d + 1 by omega, this, List.reverse_cons, List.getElem?_append_left ((List.getElem?_eq_some_iff.1 ih).1)]
      exact ih
theorem Rn.outs_at (h : Rn P G N rf rr ops ois fk S V A) : ∀ {i : Nat}, i ≤ ops.length → (S i).outs.length = cnt P ops i + 1 ∧ (S i).outs.reverse[cnt P ops i]? = some (S i).H
  | 0, _ => by rw [h.outs, cnt_zero]; exact ⟨rfl, rfl⟩
  | i + 1, hi => by
    obtain ⟨o, ho⟩ := get_of_lt (l := ops) (i := i) (by omega)
    obtain ⟨oi, _, hs⟩ := h.step _ o ho
    obtain ⟨h1, h2⟩ := h.outs_at (i := i) (by omega)
    cases hl : isLoud P o with
    | false =>
      obtain ⟨h3, h4, _⟩ := hs.quiet hl
      rw [cnt_succ ho, hl, h3, h4]
      exact ⟨h1, h2⟩
    | true =>
      have h3 := (hs.loud hl).1
      rw [cnt_succ ho, hl, h3]
      refine ⟨by simp [h1], ?_⟩
      rw [List.reverse_cons, List.getElem?_append_right (by simp [h1])]
      simp [h1]
theorem Rn.at_end (h : Rn P G N rf rr ops ois fk S V A) {i : Nat} (hi : i ≤ ops.length) : (S ops.length).outs.reverse[cnt P ops i]? = some (S i).H := by
  have := h.outs_mono (h.outs_at hi).2 (d := ops.length - i) (by omega)
  rwa [show i + (ops.length - i) = ops.length by omega] at this
theorem Rn.same (h : Rn P G N rf rr ops ois fk S V A) {i k : Nat} (hi : i ≤ ops.length) (hk : k ≤ ops.length) (hc : cnt P ops i = cnt P ops k) : (S i).H = (S k).H := by
  have h1 := h.at_end hi
  rw [hc, h.at_end hk] at h1
  exact (Option.some.inj h1).symm
theorem cnt_same {k : Nat} : ∀ {d : Nat}, k + d ≤ ops.length → (∀ (p : Nat) (o : Oper), k ≤ p → p < k + d → ops[p]? = some o → isLoud P o = false) → cnt P ops (k + d) = cnt P ops k
  | 0, _, _ => rfl
  | d + 1, hd, h => by
    obtain ⟨o, ho⟩ := get_of_lt (l := ops) (i := k + d) (by omega)
    have hl := h (k + d) o (by omega) (by omega) ho
    rw [show k + (d + 1) = k + d + 1 by omega, cnt_succ ho, hl]
    simp only [Nat.add_zero]
    exact cnt_same (d := d) (by omega) fun p o h1 h2 => h p o h1 (by omega)
theorem Rn.quiet_to (h : Rn P G N rf rr ops ois fk S V A) {i k : Nat} (hki : k ≤ i) (hi : i ≤ ops.length) (hn : ∀ (p : Nat) (o : Oper), k ≤ p → p < i → ops[p]? = some o → isLoud P o = false) : (S i).H = (S k).H := by
  refine h.same hi (by omega) ?_
  have := cnt_same (P := P) (ops := ops) (k := k) (d := i - k) (by omega) fun p o h1 h2 h3 => hn p o h1 (by omega) h3
  rwa [show k + (i - k) = i by omega] at this
theorem aput_get {T T' : Tr AV} {d : Option Nat} {v : AV} (h : aput N T d v = some T') {t : Nat} {x : AV} (hx : T'.get t = some x) : (d = some t ∧ v = x ∧ t < N) ∨ (d ≠ some t ∧ T.get t = some x) := by
  unfold aput at h
  split at h
  · cases h; exact Or.inr ⟨by simp, hx⟩
  · rename_i d
    split at h
    · rename_i hd
      have hd : d < N := by simpa [Nat.blt_eq] using hd
      cases h
      rcases Tr.get_set hx with ⟨rfl, rfl⟩ | ⟨h1, h2⟩
      · exact Or.inl ⟨rfl, rfl, hd⟩
      · exact Or.inr ⟨fun e => h1 (by cases e; rfl), h2⟩
    · cases h
theorem Rn.slots (h : Rn P G N rf rr ops ois fk S V A) {d : Nat} {x : AV} : ∀ {i : Nat}, i ≤ ops.length → (S i).T.get d = some x →
    (∃ j o, j < i ∧ ops[j]? = some o ∧ o.dst = some d ∧ V j = x ∧ d < N) ∨ ((S 0).T.get d = some x ∧ ∀ (j : Nat) (o : Oper), j < i → ops[j]? = some o → o.dst ≠ some d)
  | 0, _, hx => Or.inr ⟨hx, fun j o hj => by omega⟩
  | i + 1, hi, hx => by
    obtain ⟨o, ho⟩ := get_of_lt (l := ops) (i := i) (by omega)
    obtain ⟨oi, _, hs⟩ := h.step _ o ho
    rcases aput_get hs.put hx with ⟨h1, h2, h3⟩ | ⟨h1, h2⟩
    · exact Or.inl ⟨i, o, by omega, ho, h1, h2, h3⟩
    · rcases h.slots (i := i) (by omega) h2 with ⟨j, o', h3, h4, h5⟩ | ⟨h3, h4⟩
      · exact Or.inl ⟨j, o', by omega, h4, h5⟩
      · refine Or.inr ⟨h3, fun j o' hj hj' => ?_⟩
        rcases Nat.lt_or_ge j i with hlt | hge
        · exact h4 j o' hlt hj'
        · have : j = i := by omega
          subst this
          rw [ho] at hj'; cases hj'
          exact h1
theorem Rn.pend (h : Rn P G N rf rr ops ois fk S V A) {p : Nat × Nat × AB} : ∀ {i : Nat}, i ≤ ops.length → p ∈ (S i).pa → p.1 < i ∧ A p.1 = some p.2 ∧ ∀ (l : Nat) (o : Oper) (ol : OI), l < i → ops[l]? = some o → ois[l]? = some ol → isLoud P o = true → bit ol.b p.1 = false
  | 0, _, hp => by rw [h.pa] at hp; cases hp
  | i + 1, hi, hp => by
    obtain ⟨o, ho⟩ := get_of_lt (l := ops) (i := i) (by omega)
    obtain ⟨oi, hoi, hs⟩ := h.step _ o ho
    cases hl : isLoud P o with
    | false =>
      rcases (hs.quiet hl).2.2 p hp with hp | ⟨rfl, hA⟩
      · obtain ⟨h1, h2, h3⟩ := h.pend (i := i) (by omega) hp
        refine ⟨by omega, h2, fun l o' ol hl' h4 h5 h6 => ?_⟩
        rcases Nat.lt_or_ge l i with hlt | hge
        · exact h3 l o' ol hlt h4 h5 h6
        · have : l = i := by omega
          subst this
          rw [ho] at h4; cases h4
          rw [hl] at h6; cases h6
      · refine ⟨by omega, hA, fun l o' ol hl' h4 h5 h6 => ?_⟩
        cases hb : bit ol.b p.1 with
        | false => rfl
        | true =>
          have := (h.txt.bef l ol p.1 h5 hb).lt h.txt
          have : l = p.1 := by omega
          subst this
          rw [ho] at h4; cases h4
          rw [hl] at h6; cases h6
    | true =>
      obtain ⟨hp, hb⟩ := (hs.loud hl).2 p hp
      obtain ⟨h1, h2, h3⟩ := h.pend (i := i) (by omega) hp
      refine ⟨by omega, h2, fun l o' ol hl' h4 h5 h6 => ?_⟩
      rcases Nat.lt_or_ge l i with hlt | hge
      · exact h3 l o' ol hlt h4 h5 h6
      · have : l = i := by omega
        subst this
        rw [hoi] at h5; cases h5
        exact hb
/-- The names of new blocks that are laid quietly. -/
theorem Rn.name (h : Rn P G N rf rr ops ois fk S V A) {j n : Nat} {x : AB} {o : Oper} (ho : ops[j]? = some o) (hA : A j = some (n, x)) : isLoud P o = false ∧ n = (S j).c ∧ n < (S (j + 1)).c := by
  obtain ⟨oi, hoi, hs⟩ := h.step _ o ho
  rcases hs.want with ⟨_, _, h1, _⟩ | ⟨_, ⟨h1, H1, _, h2⟩ | ⟨_, h1, _⟩ | ⟨_, h1, _⟩⟩
  · rw [hA] at h1; cases h1
  · exact ⟨h1, (h2 n x hA).2⟩
  · rw [hA] at h1; cases h1
  · rw [hA] at h1; cases h1
/-- Ranges of names are apart. -/
theorem Rn.apart (h : Rn P G N rf rr ops ois fk S V A) {i j n : Nat} (hi : i < ops.length) (hj : j < ops.length) (h1 : (S i).c ≤ n) (h2 : n < (S (i + 1)).c) (h3 : (S j).c ≤ n) (h4 : n < (S (j + 1)).c) : i = j := by
  rcases Nat.lt_trichotomy i j with hlt | h5 | hlt
  · have := h.le (i := i + 1) (j := j) (by omega) (by omega); omega
  · exact h5
  · have := h.le (i := j + 1) (j := i) (by omega) (by omega); omega
end
end
end Go.Proofs.YtknmbmdeilbdkaaGreatDoor.Ev
