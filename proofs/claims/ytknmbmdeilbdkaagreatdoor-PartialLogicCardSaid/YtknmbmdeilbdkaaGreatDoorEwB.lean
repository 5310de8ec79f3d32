/- Drawn regions: an operation leaves what it does not know as it was; what the reckoner's run of a region says of each operation. -/
import Derived.Test.YtknmbmdeilbdkaaGreatDoorEwA
namespace Go.Proofs.YtknmbmdeilbdkaaGreatDoor.Ev
open Go

/-- Memory as it is known, as a relation. -/
structure RelP (m : Ren) (K : Nat → AB → Prop) (w : World) : Prop where
  blk : ∀ i b, K i b → ∃ k δ o, m i = some (k, δ) ∧ w.heap[k]? = some o ∧ BR m b δ o
  inj : ∀ i j b b' k δ δ', K i b → K j b' → m i = some (k, δ) → m j = some (k, δ') → i = j
theorem RelP.rel {m : Ren} {K : Nat → AB → Prop} {w : World} (h : RelP m K w) {H : Nat → Option AB} (hs : ∀ i b, H i = some b → K i b) : Rel m H w :=
  ⟨fun i b hi => h.blk i b (hs i b hi), fun i j b b' k δ δ' hi hj => h.inj i j b b' k δ δ' (hs i b hi) (hs j b' hj)⟩
theorem RelP.sub {m : Ren} {K K' : Nat → AB → Prop} {w : World} (h : RelP m K w) (hs : ∀ i b, K' i b → K i b) : RelP m K' w :=
  ⟨fun i b hi => h.blk i b (hs i b hi), fun i j b b' k δ δ' hi hj => h.inj i j b b' k δ δ' (hs i b hi) (hs j b' hj)⟩
theorem RelP.of {m : Ren} {H : Nat → Option AB} {w : World} (h : Rel m H w) : RelP m (fun i b => H i = some b) w := ⟨h.blk, h.inj⟩
/-- What is not known, or only read, stays. -/
structure FrP (m : Ren) (K : Nat → AB → Prop) (w : World) (m' : Ren) (K' : Nat → AB → Prop) (w' : World) (c c' : Nat) : Prop where
  os : w'.os = w.os
  tape : w'.tape = w.tape
  output : w'.output = w.output
  size : w.heap.size ≤ w'.heap.size
  keep : ∀ k, k < w.heap.size → (∀ i b δ, K i b → b.ro = false → m i ≠ some (k, δ)) → w'.heap[k]? = w.heap[k]?
  le : Ren.le m m'
  dom : ∀ i p, m' i = some p → m i = some p ∨ (c ≤ i ∧ i < c')
  back : ∀ i b k δ, K' i b → m' i = some (k, δ) → w.heap.size ≤ k ∨ ∃ j b' δ', K j b' ∧ m j = some (k, δ') ∧ (b'.ro = true → b.ro = true)
  hd : ∀ i b, K' i b → (∃ b', K i b') ∨ (c ≤ i ∧ i < c')
theorem FrP.refl {m : Ren} {K : Nat → AB → Prop} {w : World} {c c' : Nat} : FrP m K w m K w c c' :=
  ⟨rfl, rfl, rfl, Nat.le_refl _, fun _ _ _ => rfl, fun _ _ h => h, fun _ _ h => Or.inl h, fun i b _ δ hi hm => Or.inr ⟨i, b, δ, hi, hm, fun h => h⟩, fun _ b hi => Or.inl ⟨b, hi⟩⟩
theorem FrP.sub {m m' : Ren} {K K' K2 : Nat → AB → Prop} {w w' : World} {c c' : Nat} (h : FrP m K w m' K' w' c c') (hs : ∀ i b, K2 i b → K' i b) : FrP m K w m' K2 w' c c' :=
  ⟨h.os, h.tape, h.output, h.size, h.keep, h.le, h.dom, fun i b k δ hi hm => h.back i b k δ (hs i b hi) hm, fun i b hi => h.hd i b (hs i b hi)⟩
theorem FrP.fr {m m' : Ren} {K' : Nat → AB → Prop} {H H' : Nat → Option AB} {w w' : World} {c c' : Nat} (h : FrP m (fun i b => H i = some b) w m' K' w' c c') (hs : ∀ i b, H' i = some b → K' i b) : Fr m H w m' H' w' c c' :=
  ⟨h.os, h.tape, h.output, h.size, h.keep, h.le, h.dom, fun i b k δ hi hm => h.back i b k δ (hs i b hi) hm, fun i b hi => h.hd i b (hs i b hi)⟩
theorem FrP.trans {m m1 m2 : Ren} {K K1 K2 : Nat → AB → Prop} {w w1 w2 : World} {c c' d d' : Nat} (h : FrP m K w m1 K1 w1 c c') (h' : FrP m1 K1 w1 m2 K2 w2 d d') (h1 : c ≤ d) (h2 : d' ≤ c') : FrP m K w m2 K2 w2 c c' where
  os := h'.os.trans h.os
  tape := h'.tape.trans h.tape
  output := h'.output.trans h.output
  size := Nat.le_trans h.size h'.size
  keep k hk hn := by
    rw [h'.keep k (Nat.lt_of_lt_of_le hk h.size) (fun i b δ hi hr hm => ?_), h.keep k hk hn]
    rcases h.back i b k δ hi hm with h1 | ⟨j, b', δ', h1, h2, h3⟩
    · omega
    · refine hn j b' δ' h1 ?_ h2
      cases hb : b'.ro with
      | false => rfl
      | true => rw [h3 hb] at hr; cases hr
  le i p hi := h'.le i p (h.le i p hi)
  dom i p hi := by
    rcases h'.dom i p hi with h3 | ⟨h3, h4⟩
    · exact h.dom i p h3
    · exact Or.inr ⟨by omega, by omega⟩
  back i b k δ hi hm := by
    rcases h'.back i b k δ hi hm with h1 | ⟨j, b', δ', h1, h2, h3⟩
    · exact Or.inl (Nat.le_trans h.size h1)
    · rcases h.back j b' k δ' h1 h2 with h4 | ⟨j2, b2, δ2, h4, h5, h6⟩
      · exact Or.inl h4
      · exact Or.inr ⟨j2, b2, δ2, h4, h5, fun h => h3 (h6 h)⟩
  hd i b hi := by
    rcases h'.hd i b hi with ⟨b', h3⟩ | ⟨h3, h4⟩
    · exact h.hd i b' h3
    · exact Or.inr ⟨by omega, by omega⟩
/-- An operation that knows a part of what is known leaves the other part as it was. -/
def KX (K : Nat → AB → Prop) (f f' : Nat → Option AB) : Nat → AB → Prop := fun i b => f' i = some b ∨ (K i b ∧ f i = none)
theorem frame {m m' : Ren} {K : Nat → AB → Prop} {f f' : Nat → Option AB} {w w' : World} {c c' : Nat} (hR : RelP m K w) (hf : ∀ i b, f i = some b → K i b) (h1 : Rel m' f' w') (h2 : Fr m f w m' f' w' c c') :
    RelP m' (KX K f f') w' ∧ FrP m K w m' (KX K f f') w' c c' := by
  have hm : ∀ i b k δ, K i b → m' i = some (k, δ) → m i = some (k, δ) := fun i b k δ hi hm => by
    obtain ⟨k2, δ2, o, g1, _, _⟩ := hR.blk i b hi
    rw [h2.le i _ g1] at hm
    rw [g1]; exact hm
  have hk : ∀ i b k δ, K i b → m i = some (k, δ) → k < w.heap.size := fun i b k δ hi hm => by
    obtain ⟨k2, δ2, o, g1, g2, _⟩ := hR.blk i b hi
    rw [hm] at g1; cases g1
    exact (Array.getElem?_eq_some_iff.1 g2).1
  refine ⟨⟨?_, ?_⟩, ⟨h2.os, h2.tape, h2.output, h2.size, ?_, h2.le, h2.dom, ?_, ?_⟩⟩
  · rintro i b (hi | ⟨hi, hn⟩)
    · exact h1.blk i b hi
    · obtain ⟨k, δ, o, g1, g2, g3⟩ := hR.blk i b hi
      refine ⟨k, δ, o, h2.le i _ g1, ?_, g3.mono h2.le⟩
      rw [h2.keep k (hk i b k δ hi g1) fun i' b' δ' hi' _ hm' => ?_, g2]
      have := hR.inj i i' b b' k δ δ' hi (hf i' b' hi') g1 hm'
      subst this
      rw [hn] at hi'; cases hi'
  · have mix : ∀ i j b b' k δ δ', f' i = some b → K j b' → f j = none → m' i = some (k, δ) → m' j = some (k, δ') → i = j := by
      intro i j b b' k δ δ' hi hj hn hmi hmj
      have hmj := hm j b' k δ' hj hmj
      rcases h2.back i b k δ hi hmi with g | ⟨i2, b2, δ2, g1, g2, _⟩
      · have := hk j b' k δ' hj hmj; omega
      · have := hR.inj i2 j b2 b' k δ2 δ' (hf i2 b2 g1) hj g2 hmj
        subst this
        rw [hn] at g1; cases g1
    rintro i j b b' k δ δ' (hi | ⟨hi, hn⟩) (hj | ⟨hj, hn'⟩) hmi hmj
    · exact h1.inj i j b b' k δ δ' hi hj hmi hmj
    · exact mix i j b b' k δ δ' hi hj hn' hmi hmj
    · exact (mix j i b' b k δ' δ hj hi hn hmj hmi).symm
    · exact hR.inj i j b b' k δ δ' hi hj (hm i b k δ hi hmi) (hm j b' k δ' hj hmj)
  · exact fun k hk hn => h2.keep k hk fun i b δ hi => hn i b δ (hf i b hi)
  · rintro i b k δ (hi | ⟨hi, hn⟩) hmi
    · rcases h2.back i b k δ hi hmi with g | ⟨i2, b2, δ2, g1, g2, g3⟩
      · exact Or.inl g
      · exact Or.inr ⟨i2, b2, δ2, hf i2 b2 g1, g2, g3⟩
    · exact Or.inr ⟨i, b, δ, hi, hm i b k δ hi hmi, fun h => h⟩
  · rintro i b (hi | ⟨hi, hn⟩)
    · exact (h2.hd i b hi).imp (fun ⟨b', h⟩ => ⟨b', hf i b' h⟩) id
    · exact Or.inl ⟨b, hi⟩

section
variable {P : Program} {G N : Nat} {rf rr : CallF} {ops : List Oper}

theorem dabsH_cons (b : Nat) (p : Nat × Nat × AB) (pa : List (Nat × Nat × AB)) (H : Tr AB) : dabsH b (p :: pa) H = match bit b p.1 with
  | true => dabsH b pa (H.set p.2.1 p.2.2)
  | false => dabsH b pa H := rfl
theorem dabsH_get {b : Nat} : ∀ {pa : List (Nat × Nat × AB)} {H : Tr AB} {i : Nat} {x : AB}, (dabsH b pa H).get i = some x → H.get i = some x ∨ ∃ j, (j, i, x) ∈ pa ∧ bit b j = true
  | [], H, i, x, h => Or.inl h
  | p :: pa, H, i, x, h => by
    rw [dabsH_cons] at h
    split at h
    · rename_i hb
      rcases dabsH_get h with h | ⟨j, h1, h2⟩
      · rcases Tr.get_set h with ⟨rfl, rfl⟩ | ⟨_, h⟩
        · exact Or.inr ⟨p.1, List.mem_cons_self, hb⟩
        · exact Or.inl h
      · exact Or.inr ⟨j, List.mem_cons_of_mem _ h1, h2⟩
    · rcases dabsH_get h with h | ⟨j, h1, h2⟩
      · exact Or.inl h
      · exact Or.inr ⟨j, List.mem_cons_of_mem _ h1, h2⟩
theorem dall_cons (p : Nat × Nat × AB) (pa : List (Nat × Nat × AB)) (H : Tr AB) : dall (p :: pa) H = dall pa (H.set p.2.1 p.2.2) := rfl
theorem dall_get : ∀ {pa : List (Nat × Nat × AB)} {H : Tr AB} {i : Nat} {x : AB}, (dall pa H).get i = some x → H.get i = some x ∨ ∃ j, (j, i, x) ∈ pa
  | [], H, i, x, h => Or.inl h
  | p :: pa, H, i, x, h => by
    rw [dall_cons] at h
    rcases dall_get h with h | ⟨j, h1⟩
    · rcases Tr.get_set h with ⟨rfl, rfl⟩ | ⟨_, h⟩
      · exact Or.inr ⟨p.1, List.mem_cons_self⟩
      · exact Or.inl h
    · exact Or.inr ⟨j, List.mem_cons_of_mem _ h1⟩
theorem dabsP_cons (b : Nat) (p : Nat × Nat × AB) (pa : List (Nat × Nat × AB)) : dabsP b (p :: pa) = match bit b p.1 with
  | true => dabsP b pa
  | false => p :: dabsP b pa := rfl
theorem dabsP_mem {b : Nat} : ∀ {pa : List (Nat × Nat × AB)} {p : Nat × Nat × AB}, p ∈ dabsP b pa → p ∈ pa ∧ bit b p.1 = false
  | [], p, h => by cases h
  | q :: pa, p, h => by
    rw [dabsP_cons] at h
    split at h
    · obtain ⟨h1, h2⟩ := dabsP_mem h
      exact ⟨List.mem_cons_of_mem _ h1, h2⟩
    · rename_i hb
      rcases List.mem_cons.1 h with rfl | h
      · exact ⟨List.mem_cons_self, hb⟩
      · obtain ⟨h1, h2⟩ := dabsP_mem h
        exact ⟨List.mem_cons_of_mem _ h1, h2⟩

/-- What one step of the reckoner's run says. -/
structure Stp (P : Program) (G N : Nat) (rf rr : CallF) (ops : List Oper) (i : Nat) (oi : OI) (o : Oper) (s s' : DS) (v : AV) (A : Option (Nat × AB)) : Prop where
  put : aput N s.T o.dst v = some s'.T
  cle : s.c ≤ s'.c
  want : (awanted ops s.T o = some false ∧ v = .tup [] ∧ A = none ∧ s'.c = s.c ∧ (isLoud P o = true → s'.H = dabsH oi.b s.pa s.H)) ∨
    (awanted ops s.T o = some true ∧
      ((isLoud P o = false ∧ ∃ H1, aexec P G rf rr s.T .e s.c o.op = some ⟨v, H1, s'.c⟩ ∧ ∀ n x, A = some (n, x) → H1.get n = some x ∧ n = s.c ∧ n < s'.c) ∨
       (dkind P o.op = .read ∧ A = none ∧ s'.c = s.c ∧ dreads P G rf rr s.T s.c o.op s.H = some v ∧ (oi.lo = oi.hi ∨ (⟨dreads P G rf rr s.T s.c o.op, v, oi.lo, oi.hi⟩ : RdE) ∈ s'.rds)) ∨
       (isLoud P o = true ∧ A = none ∧ aexec P G rf rr s.T (dabsH oi.b s.pa s.H) s.c o.op = some ⟨v, s'.H, s'.c⟩)))
  quiet : isLoud P o = false → s'.H = s.H ∧ s'.outs = s.outs ∧ ∀ p ∈ s'.pa, p ∈ s.pa ∨ (p.1 = i ∧ A = some p.2)
  loud : isLoud P o = true → s'.outs = s'.H :: s.outs ∧ ∀ p ∈ s'.pa, p ∈ s.pa ∧ bit oi.b p.1 = false
  rds : ∀ e ∈ s.rds, e ∈ s'.rds
theorem dstep_stp (hrf : SoundF P G rf) (hrr : SoundR P G rr) {i : Nat} {oi : OI} {o : Oper} {s s' : DS} (h : dstep P G rf rr N ops i oi o s = some s') : ∃ v A, Stp P G N rf rr ops i oi o s s' v A := by
  unfold dstep at h
  split at h
  · cases h
  · rename_i hw
    split at h
    · rename_i hk
      have hl : isLoud P o = false := by unfold isLoud; rw [hk]
      unfold dquiet at h
      split at h
      · cases h
      · rename_i v H1 c1 he
        split at h
        · cases h
        · rename_i T' hT
          split at h
          · rename_i hc
            have hc := Nat.eq_of_beq_eq_true hc
            subst hc
            cases h
            exact ⟨v, none, hT, Nat.le_refl _, Or.inr ⟨hw, Or.inl ⟨hl, H1, he, fun n x h => by cases h⟩⟩, fun _ => ⟨rfl, rfl, fun p hp => Or.inl hp⟩, (fun h => by rw [hl] at h; cases h), fun e he => he⟩
          · split at h
            · rename_i x hc hx
              have hc := Nat.eq_of_beq_eq_true hc
              subst hc
              cases h
              refine ⟨v, some (s.c, x), hT, Nat.le_succ _, Or.inr ⟨hw, Or.inl ⟨hl, H1, he, fun n y h => ?_⟩⟩, fun _ => ⟨rfl, rfl, fun p hp => ?_⟩, (fun h => by rw [hl] at h; cases h), fun e he => he⟩
              · cases h; exact ⟨hx, rfl, Nat.lt_succ_self _⟩
              · rcases List.mem_cons.1 hp with rfl | hp
                · exact Or.inr ⟨rfl, rfl⟩
                · exact Or.inl hp
            · cases h
    · rename_i hk
      have hl : isLoud P o = false := by unfold isLoud; rw [hk]
      unfold dread at h
      split at h
      · cases h
      · rename_i v he
        split at h
        · cases h
        · rename_i T' hT
          cases h
          refine ⟨v, none, hT, Nat.le_refl _, Or.inr ⟨hw, Or.inr (Or.inl ⟨hk, rfl, rfl, he, ?_⟩)⟩, fun _ => ⟨rfl, rfl, fun p hp => Or.inl hp⟩, (fun h => by rw [hl] at h; cases h), fun e he => ?_⟩
          · split
            · rename_i hb; exact Or.inl (Nat.eq_of_beq_eq_true hb)
            · exact Or.inr List.mem_cons_self
          · show e ∈ (match Nat.beq oi.lo oi.hi with | true => s.rds | false => _ :: s.rds)
            split
            · exact he
            · exact List.mem_cons_of_mem _ he
    · rename_i hk
      have hl : isLoud P o = true := by unfold isLoud; rw [hk]
      unfold dloud at h
      split at h
      · cases h
      · rename_i v H2 c2 he
        split at h
        · cases h
        · rename_i T' hT
          cases h
          have hc := aexec_le he (fun f args H c r h => (hrf f args H c r h).1) (fun f args H c r h => (hrr f args H c r h).1)
          exact ⟨v, none, hT, hc, Or.inr ⟨hw, Or.inr (Or.inr ⟨hl, rfl, he⟩)⟩, (fun h => by rw [hl] at h; cases h), fun _ => ⟨rfl, fun p hp => dabsP_mem hp⟩, fun e he => he⟩
  · rename_i hw
    split at h
    · rename_i hk
      have hl : isLoud P o = true := by unfold isLoud; rw [hk]
      unfold dskipL at h
      split at h
      · cases h
      · rename_i T' hT
        cases h
        exact ⟨.tup [], none, hT, Nat.le_refl _, Or.inl ⟨hw, rfl, rfl, rfl, fun _ => rfl⟩, (fun h => by rw [hl] at h; cases h), fun _ => ⟨rfl, fun p hp => dabsP_mem hp⟩, fun e he => he⟩
    · rename_i hk
      have hl : isLoud P o = false := by
        unfold isLoud
        split
        · rename_i h'; exact (hk h').elim
        · rfl
      unfold dskip at h
      split at h
      · cases h
      · rename_i T' hT
        cases h
        exact ⟨.tup [], none, hT, Nat.le_refl _, Or.inl ⟨hw, rfl, rfl, rfl, fun h => by rw [hl] at h; cases h⟩, fun _ => ⟨rfl, rfl, fun p hp => Or.inl hp⟩, (fun h => by rw [hl] at h; cases h), fun e he => he⟩
theorem dops_cons (o : Oper) (l : List Oper) (ois : List OI) (i : Nat) (s : DS) : dops P G rf rr N ops (o :: l) ois i s = match ois with
    | [] => none
    | oi :: ois => match dstep P G rf rr N ops i oi o s with
      | none => none
      | some s' => dops P G rf rr N ops l ois (i + 1) s' := by
  cases ois with
  | nil => rfl
  | cons oi ois =>
    show (match dstep P G rf rr N ops i oi o s with
      | none => none
      | some s' => fN (i + 1) fun i' => dops P G rf rr N ops l ois i' s') = _
    simp only [fN_eq]
/-- The run's steps. -/
structure Sts (P : Program) (G N : Nat) (rf rr : CallF) (ops : List Oper) (i : Nat) (l : List Oper) (ois : List OI) (s s' : DS) (S : Nat → DS) (V : Nat → AV) (A : Nat → Option (Nat × AB)) : Prop where
  first : S 0 = s
  last : S l.length = s'
  step : ∀ j o, l[j]? = some o → ∃ oi, ois[j]? = some oi ∧ Stp P G N rf rr ops (i + j) oi o (S j) (S (j + 1)) (V j) (A j)
  upto : ∀ j, dops P G rf rr N ops (l.take j) ois i s = some (S (min j l.length))
theorem dops_sts (hrf : SoundF P G rf) (hrr : SoundR P G rr) : ∀ (l : List Oper) (ois : List OI) (i : Nat) (s s' : DS), dops P G rf rr N ops l ois i s = some s' → ∃ S V A, Sts P G N rf rr ops i l ois s s' S V A
  | [], ois, i, s, s', h => by
    cases h
    exact ⟨fun _ => s, fun _ => .any, fun _ => none, rfl, rfl, (fun j o h => by simp at h), fun j => by simp [dops]⟩
  | o :: l, ois, i, s, s', h => by
    rw [dops_cons] at h
    split at h
    · cases h
    · rename_i oi ois
      split at h
      · cases h
      · rename_i s1 h1
        obtain ⟨v, a, hs⟩ := dstep_stp hrf hrr h1
        obtain ⟨S, V, A, h2, h3, h4, h7⟩ := dops_sts hrf hrr l ois (i + 1) s1 s' h
        refine ⟨fun j => match j with | 0 => s | j + 1 => S j, fun j => match j with | 0 => v | j + 1 => V j, fun j => match j with | 0 => a | j + 1 => A j, rfl, h3, fun j o' hj => ?_, fun j => ?_⟩
        rotate_left
        · cases j with
          | zero => simp [dops]
          | succ j =>
            rw [List.take_succ_cons, dops_cons]
            simp only [h1, h7 j, List.length_cons, Nat.succ_min_succ]
        cases j with
        | zero =>
          simp at hj
          subst hj
          refine ⟨oi, rfl, ?_⟩
          simp only [h2]
          exact hs
        | succ j =>
          obtain ⟨oi', h5, h6⟩ := h4 j o' (by simpa using hj)
          refine ⟨oi', by simpa using h5, ?_⟩
          rw [show i + (j + 1) = i + 1 + j by omega]
          exact h6
end
end Go.Proofs.YtknmbmdeilbdkaaGreatDoor.Ev
