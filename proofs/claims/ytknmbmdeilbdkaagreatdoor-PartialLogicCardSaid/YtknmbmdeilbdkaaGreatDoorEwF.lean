/- Calls that are known by a theorem: a long run goes in pieces, each with a small memory. -/
import Derived.Test.YtknmbmdeilbdkaaGreatDoorEwE
namespace Go.Proofs.YtknmbmdeilbdkaaGreatDoor.Ev
open Go

/-- A block, written out; a cell that is not known is 'any'. -/
inductive LB where
  | row (ty sz n : Nat) (cells : List AV) (opn ro : Bool) (fz : Nat)
  | map (es : List (AV × AV))
  | glob (n : Nat) (cells : List AV)
noncomputable def LB.ab : LB → AB
  | .row ty sz n cells opn ro fz => .row ty sz n (setC .e 0 cells) opn ro fz
  | .map es => .map es
  | .glob n cells => .glob n (setC .e 0 cells)
/-- What a list says of a block. -/
noncomputable def lk (l : List (Nat × LB)) (i : Nat) : Option AB := List.rec none (fun p _ ih => Bool.rec ih (some p.2.ab) (Nat.beq i p.1)) l
theorem lk_cons (p : Nat × LB) (l : List (Nat × LB)) (i : Nat) : lk (p :: l) i = if i = p.1 then some p.2.ab else lk l i := by
  show (Bool.rec (motive := fun _ => Option AB) (lk l i) (some p.2.ab) (Nat.beq i p.1)) = _
  cases h : Nat.beq i p.1
  · rw [if_neg (Nat.ne_of_beq_eq_false h)]
  · rw [if_pos (Nat.eq_of_beq_eq_true h)]
noncomputable def setL (l : List (Nat × LB)) (H : Tr AB) : Tr AB := List.rec H (fun p _ ih => ih.set p.1 p.2.ab) l
theorem setL_cons (p : Nat × LB) (l : List (Nat × LB)) (H : Tr AB) : setL (p :: l) H = (setL l H).set p.1 p.2.ab := rfl
theorem setL_get {H : Tr AB} {i : Nat} {b : AB} : ∀ {l : List (Nat × LB)}, (setL l H).get i = some b → lk l i = some b ∨ (lk l i = none ∧ H.get i = some b)
  | [], h => Or.inr ⟨rfl, h⟩
  | p :: l, h => by
    rw [setL_cons] at h
    rw [lk_cons]
    rcases Tr.get_set h with ⟨rfl, rfl⟩ | ⟨h1, h2⟩
    · exact Or.inl (by rw [if_pos rfl])
    · rw [if_neg h1]
      exact setL_get h2
noncomputable def delL (l : List (Nat × LB)) (H : Tr AB) : Tr AB := List.rec H (fun p _ ih => ih.del p.1) l
theorem delL_cons (p : Nat × LB) (l : List (Nat × LB)) (H : Tr AB) : delL (p :: l) H = (delL l H).del p.1 := rfl
theorem delL_get {H : Tr AB} {i : Nat} {b : AB} : ∀ {l : List (Nat × LB)}, (delL l H).get i = some b → lk l i = none ∧ H.get i = some b
  | [], h => ⟨rfl, h⟩
  | p :: l, h => by
    rw [delL_cons] at h
    rw [lk_cons]
    obtain ⟨h1, h2⟩ := Tr.get_del h
    rw [if_neg h1]
    exact delL_get h2
noncomputable def mkH (l : List (Nat × LB)) : Tr AB := setL l .e
theorem mkH_get {l : List (Nat × LB)} {i : Nat} {b : AB} (h : (mkH l).get i = some b) : lk l i = some b := by
  rcases setL_get h with h | ⟨_, h⟩
  · exact h
  · cases h
/-- Are cells known to be these? -/
noncomputable def cellsLe (cells : Tr AV) : List AV → Nat → Bool
  | [], _ => true
  | .any :: l, i => cellsLe cells l (i + 1)
  | a :: l, i => (match cells.get i with
    | some a' => avEq 8 a' a
    | none => false) && cellsLe cells l (i + 1)
theorem cellsLe_get {cells : Tr AV} : ∀ {l : List AV} {i j : Nat} {a : AV}, cellsLe cells l i = true → l[j]? = some a → a = .any ∨ cells.get (i + j) = some a
  | [], _, _, _, _, h => by simp at h
  | x :: l, i, j, a, h, hj => by
    have h' : cellsLe cells l (i + 1) = true ∧ (x = .any ∨ cells.get i = some x) := by
      unfold cellsLe at h
      split at h
      · rename_i he; cases he
      · rename_i he; cases he; exact ⟨h, Or.inl rfl⟩
      · rename_i y l' i' _ he
        cases he
        rw [Bool.and_eq_true] at h
        refine ⟨h.2, Or.inr ?_⟩
        obtain ⟨h, _⟩ := h
        split at h
        · rename_i a' ha
          rw [ha, avEq_sound 8 _ _ h]
        · cases h
    cases j with
    | zero => simp at hj; subst hj; exact h'.2
    | succ j =>
      have := cellsLe_get h'.1 (by simpa using hj : l[j]? = some a)
      rw [show i + (j + 1) = i + 1 + j by omega]
      exact this
def pairsEq : List (AV × AV) → List (AV × AV) → Bool
  | [], [] => true
  | (a, b) :: l, (c, d) :: l' => avEq 8 a c && (avEq 8 b d && pairsEq l l')
  | _, _ => false
theorem pairsEq_eq : ∀ {l l' : List (AV × AV)}, pairsEq l l' = true → l = l'
  | [], [], _ => rfl
  | (a, b) :: l, (c, d) :: l', h => by
    simp only [pairsEq, Bool.and_eq_true] at h
    rw [avEq_sound 8 _ _ h.1, avEq_sound 8 _ _ h.2.1, pairsEq_eq h.2.2]
  | [], _ :: _, h => by simp [pairsEq] at h
  | _ :: _, [], h => by simp [pairsEq] at h
noncomputable def lbLe : LB → AB → Bool
  | .row ty sz n cells opn ro fz, .row ty' sz' n' cells' opn' ro' fz' => Nat.beq ty ty' && (Nat.beq sz sz' && (Nat.beq n n' && (opn == opn' && (ro == ro' && (Nat.ble fz' fz && (Nat.ble cells.length n && cellsLe cells' cells 0))))))
  | .map es, .map es' => pairsEq es' es
  | .glob n cells, .glob n' cells' => Nat.beq n n' && (Nat.ble cells.length n && cellsLe cells' cells 0)
  | _, _ => false
theorem lbLe_sound {l : LB} {b : AB} (h : lbLe l b = true) : (∀ m δ o, BR m b δ o → BR m l.ab δ o) ∧ b.ro = l.ab.ro := by
  unfold lbLe at h
  split at h
  · rename_i ty sz n cells opn ro fz ty' sz' n' cells' opn' ro' fz'
    simp only [Bool.and_eq_true, Nat.beq_eq, beq_iff_eq] at h
    obtain ⟨rfl, rfl, rfl, rfl, rfl, h1, h2, h3⟩ := h
    have h1 := Nat.le_of_ble_eq_true h1
    have h2 := Nat.le_of_ble_eq_true h2
    refine ⟨fun m δ o hB => ?_, rfl⟩
    obtain ⟨C, fr, g1, g2, g3, g4, g5⟩ := hB
    refine ⟨C, fr, g1, g2, g3, fun i hi => g4 i (by omega), fun i a hi => ?_⟩
    rcases setC_spec hi with ⟨_, q⟩ | ⟨_, q⟩
    · simp only [Nat.sub_zero] at q
      have hlt := (List.getElem?_eq_some_iff.1 q).1
      rcases cellsLe_get h3 q with rfl | q2
      · refine ⟨by omega, C[i]'(by rw [g2]; omega), Array.getElem?_eq_getElem _, .any _⟩
      · rw [Nat.zero_add] at q2
        exact g5 i a q2
    · simp [Tr.get_e] at q
  · have := pairsEq_eq h
    subst this
    exact ⟨fun m δ o hB => hB, rfl⟩
  · rename_i n cells n' cells'
    simp only [Bool.and_eq_true, Nat.beq_eq] at h
    obtain ⟨rfl, h2, h3⟩ := h
    have h2 := Nat.le_of_ble_eq_true h2
    refine ⟨fun m δ o hB => ?_, rfl⟩
    obtain ⟨C, ty, fr, g1, g2, g5⟩ := hB
    refine ⟨C, ty, fr, g1, g2, fun i a hi => ?_⟩
    rcases setC_spec hi with ⟨_, q⟩ | ⟨_, q⟩
    · simp only [Nat.sub_zero] at q
      have hlt := (List.getElem?_eq_some_iff.1 q).1
      rcases cellsLe_get h3 q with rfl | q2
      · exact ⟨by omega, C[i]'(by omega), Array.getElem?_eq_getElem _, .any _⟩
      · rw [Nat.zero_add] at q2
        exact g5 i a q2
    · simp [Tr.get_e] at q
  · cases h
/-- Is what a list says known? -/
noncomputable def knows (l : List (Nat × LB)) (H : Tr AB) : Bool := List.rec true (fun p _ ih => (match H.get p.1 with
  | some b => lbLe p.2 b
  | none => false) && ih) l
theorem knows_lk {H : Tr AB} {i : Nat} {b : AB} : ∀ {l : List (Nat × LB)}, knows l H = true → lk l i = some b → ∃ b', H.get i = some b' ∧ (∀ m δ o, BR m b' δ o → BR m b δ o) ∧ b'.ro = b.ro
  | [], _, h => by cases h
  | p :: l, h, hi => by
    have h : ((match H.get p.1 with
      | some b => lbLe p.2 b
      | none => false) && knows l H) = true := h
    rw [Bool.and_eq_true] at h
    rw [lk_cons] at hi
    split at hi
    · rename_i e
      cases hi
      subst e
      obtain ⟨h, _⟩ := h
      split at h
      · rename_i b hb
        exact ⟨b, hb, lbLe_sound h⟩
      · cases h
    · exact knows_lk h.2 hi

/-- A call, what it needs, and what it gives. -/
structure Orc where
  f : Nat
  args : List AV
  c : Nat
  pre : List (Nat × LB)
  v : AV
  post : List (Nat × LB)
  c' : Nat
section
variable {P : Program} {G : Nat}
def OrcS (P : Program) (G : Nat) (o : Orc) : Prop := o.c ≤ o.c' ∧ (∃ fn, P.funcs[o.f]? = some fn ∧ fn.body.isSome = true ∧ (fn.name == noGo) = false) ∧
  ∀ (F : Fence) (m : Ren) (w : World) (us : List Value), FOk F → Glob m G → Fresh m o.c o.c' → LR m o.args us → Rel m (lk o.pre) w →
    CallsIn F 0 P o.f us.toArray w (fun e w' => ∃ v m', e = .returned v ∧ VR m' o.v v ∧ Rel m' (lk o.post) w' ∧ Fr m (lk o.pre) w m' (lk o.post) w' o.c o.c')
theorem Rel.weak {m : Ren} {H H' : Nat → Option AB} {w : World} (h : Rel m H w) (hs : ∀ i b, H' i = some b → ∃ b', H i = some b' ∧ (∀ m δ o, BR m b' δ o → BR m b δ o) ∧ b'.ro = b.ro) : Rel m H' w := by
  refine ⟨fun i b hi => ?_, fun i j b b' k δ δ' hi hj => ?_⟩
  · obtain ⟨b', h1, h2, _⟩ := hs i b hi
    obtain ⟨k, δ, o, h3, h4, h5⟩ := h.blk i b' h1
    exact ⟨k, δ, o, h3, h4, h2 _ _ _ h5⟩
  · obtain ⟨c, h1, _⟩ := hs i b hi
    obtain ⟨c', h1', _⟩ := hs j b' hj
    exact h.inj i j c c' k δ δ' h1 h1'
theorem orc_make {rf : CallF} (hrf : SoundF P G rf) {o : Orc} {r : MR} (h : rf o.f o.args (mkH o.pre) o.c = some r) (hb : hasBody P o.f = true) (hv : avEq 8 r.v o.v = true) (hc : r.c = o.c') (hk : knows o.post r.H = true) : OrcS P G o := by
  obtain ⟨h1, h2⟩ := hrf _ _ _ _ _ h
  have hv := avEq_sound 8 _ _ hv
  have hbody : ∃ fn, P.funcs[o.f]? = some fn ∧ fn.body.isSome = true ∧ (fn.name == noGo) = false := by
    unfold hasBody at hb
    split at hb
    · rename_i fn hfn
      obtain ⟨g1, g2⟩ := afunc_eq hfn
      exact ⟨fn, g1, hb, g2⟩
    · cases hb
  refine ⟨by omega, hbody, fun F m w us hF hG hfr hl hR => ?_⟩
  have hR' : Rel m (mkH o.pre).get w := hR.sub fun i b hi => mkH_get hi
  rcases h2 with ⟨_, h2⟩ | h2
  · refine (h2 F m w us hF hG (by rw [hc]; exact hfr) hl hR').mono ?_
    rintro e w' ⟨v, m', rfl, g1, g2, g3⟩
    have hw : ∀ i b, lk o.post i = some b → ∃ b', r.H.get i = some b' ∧ (∀ m δ o, BR m b' δ o → BR m b δ o) ∧ b'.ro = b.ro := fun i b hi => knows_lk hk hi
    refine ⟨v, m', rfl, by rw [← hv]; exact g1, g2.weak hw, ⟨g3.os, g3.tape, g3.output, g3.size, fun k hk hn => g3.keep k hk fun i b δ hi => hn i b δ (mkH_get hi), g3.le, ?_, ?_, ?_⟩⟩
    · intro i p hi
      rw [← hc]
      exact g3.dom i p hi
    · intro i b k δ hi hm
      obtain ⟨b', q1, _, q3⟩ := hw i b hi
      rcases g3.back i b' k δ q1 hm with q | ⟨j, b2, δ2, p1, p2, p3⟩
      · exact Or.inl q
      · exact Or.inr ⟨j, b2, δ2, mkH_get p1, p2, fun h => by rw [← q3]; exact p3 h⟩
    · intro i b hi
      obtain ⟨b', q1, _, _⟩ := hw i b hi
      rw [← hc]
      exact (g3.hd i b' q1).imp (fun ⟨b2, p⟩ => ⟨b2, mkH_get p⟩) id
  · exfalso
    obtain ⟨v, w', m', g, _⟩ := h2 m w us hl hR'
    obtain ⟨fn, q1, q2, q3⟩ := hbody
    rw [run_enter q1 q2 q3] at g
    cases g
noncomputable def orcAt (o : Orc) (args : List AV) (H : Tr AB) (c : Nat) : Option MR := match Nat.beq c o.c && (eqL (avEq 8) args o.args && knows o.pre H) with
  | true => some ⟨o.v, setL o.post (delL o.pre H), o.c'⟩
  | false => none
theorem orcAt_sound {o : Orc} (ho : OrcS P G o) {args : List AV} {H : Tr AB} {c : Nat} {r : MR} (h : orcAt o args H c = some r) : c ≤ r.c ∧ (∃ fn, P.funcs[o.f]? = some fn ∧ fn.body.isSome = true ∧ (fn.name == noGo) = false) ∧
    ∀ (F : Fence) (m : Ren) (w : World) (us : List Value), FOk F → Glob m G → Fresh m c r.c → LR m args us → Rel m H.get w → CallsIn F 0 P o.f us.toArray w (FQ m H w c r) := by
  unfold orcAt at h
  split at h
  · rename_i hq
    cases h
    simp only [Bool.and_eq_true, Nat.beq_eq] at hq
    obtain ⟨rfl, hargs, hk⟩ := hq
    have hargs := eqL_sound (avEq_sound 8) hargs
    subst hargs
    obtain ⟨h1, h2, h3⟩ := ho
    refine ⟨h1, h2, fun F m w us hF hG hfr hl hR => ?_⟩
    have hw : ∀ i b, lk o.pre i = some b → ∃ b', H.get i = some b' ∧ (∀ m δ o, BR m b' δ o → BR m b δ o) ∧ b'.ro = b.ro := fun i b hi => knows_lk hk hi
    let K : Nat → AB → Prop := fun i b => lk o.pre i = some b ∨ (lk o.pre i = none ∧ H.get i = some b)
    have hK : ∀ i b, K i b → ∃ b', H.get i = some b' ∧ (∀ m δ o, BR m b' δ o → BR m b δ o) ∧ b'.ro = b.ro := by
      rintro i b (hi | ⟨_, hi⟩)
      · exact hw i b hi
      · exact ⟨b, hi, fun _ _ _ h => h, rfl⟩
    have hRK : RelP m K w := by
      refine ⟨fun i b hi => ?_, fun i j b b' k δ δ' hi hj => ?_⟩
      · obtain ⟨b', g1, g2, _⟩ := hK i b hi
        obtain ⟨k, δ, o, g3, g4, g5⟩ := hR.blk i b' g1
        exact ⟨k, δ, o, g3, g4, g2 _ _ _ g5⟩
      · obtain ⟨c, g1, _⟩ := hK i b hi
        obtain ⟨c', g1', _⟩ := hK j b' hj
        exact hR.inj i j c c' k δ δ' g1 g1'
    refine (h3 F m w us hF hG hfr hl (hR.weak hw)).mono ?_
    rintro e w' ⟨v, m', rfl, g1, g2, g3⟩
    obtain ⟨k1, k2⟩ := frame hRK (fun i b hi => Or.inl hi) g2 g3
    have hs : ∀ i b, (setL o.post (delL o.pre H)).get i = some b → KX K (lk o.pre) (lk o.post) i b := by
      intro i b hi
      rcases setL_get hi with hi | ⟨_, hi⟩
      · exact Or.inl hi
      · obtain ⟨q1, q2⟩ := delL_get hi
        exact Or.inr ⟨Or.inr ⟨q1, q2⟩, q1⟩
    refine ⟨v, m', rfl, g1, k1.rel hs, ⟨k2.os, k2.tape, k2.output, k2.size, fun k hk hn => k2.keep k hk fun i b δ hi hro => ?_, k2.le, k2.dom, ?_, ?_⟩⟩
    · obtain ⟨b', q1, _, q3⟩ := hK i b hi
      exact hn i b' δ q1 (by rw [q3]; exact hro)
    · intro i b k δ hi hm
      rcases k2.back i b k δ (hs i b hi) hm with q | ⟨j, b2, δ2, p1, p2, p3⟩
      · exact Or.inl q
      · obtain ⟨b3, q1, _, q3⟩ := hK j b2 p1
        exact Or.inr ⟨j, b3, δ2, q1, p2, fun h => p3 (by rw [← q3]; exact h)⟩
    · intro i b hi
      rcases k2.hd i b (hs i b hi) with ⟨b2, p⟩ | p
      · obtain ⟨b3, q1, _⟩ := hK i b2 p
        exact Or.inl ⟨b3, q1⟩
      · exact Or.inr p
  · cases h
noncomputable def orcF (orcs : List Orc) (rf : CallF) : CallF := fun f args H c => List.rec (rf f args H c) (fun o _ ih => match Nat.beq f o.f with
  | false => ih
  | true => match orcAt o args H c with
    | some r => some r
    | none => ih) orcs
theorem orcF_sound {rf : CallF} (hrf : SoundF P G rf) : ∀ (orcs : List Orc), (∀ o ∈ orcs, OrcS P G o) → SoundF P G (orcF orcs rf)
  | [], _ => hrf
  | o :: orcs, ho => by
    intro f args H c r h
    have h : (match Nat.beq f o.f with
      | false => orcF orcs rf f args H c
      | true => match orcAt o args H c with
        | some r => some r
        | none => orcF orcs rf f args H c) = some r := h
    have ih := orcF_sound hrf orcs fun o ho' => ho o (List.mem_cons_of_mem _ ho')
    split at h
    · exact ih _ _ _ _ _ h
    · rename_i hf
      have hf := Nat.eq_of_beq_eq_true hf
      subst hf
      split at h
      · rename_i r' hr
        cases h
        obtain ⟨g1, g2, g3⟩ := orcAt_sound (ho o List.mem_cons_self) hr
        exact ⟨g1, Or.inl ⟨g2, g3⟩⟩
      · exact ih _ _ _ _ _ h
/-- The reckoner with calls that are known. -/
noncomputable def evO (P : Program) (G : Nat) (orcs : List Orc) : Nat → Fs :=
  Nat.rec ⟨fun _ _ _ _ => none, fun _ _ _ _ => none, fun _ _ _ _ => none⟩ fun _ ih => ⟨codeF P G ih.code ih.call ih.round, orcF orcs (callF P ih.code), roundF ih.code⟩
theorem evO_succ (orcs : List Orc) (n : Nat) : evO P G orcs (n + 1) = ⟨codeF P G (evO P G orcs n).code (evO P G orcs n).call (evO P G orcs n).round, orcF orcs (callF P (evO P G orcs n).code), roundF (evO P G orcs n).code⟩ := rfl
theorem evO_ok (hm : P.follows .mixedOrders = true) {orcs : List Orc} (ho : ∀ o ∈ orcs, OrcS P G o) : ∀ n, SoundC P G (evO P G orcs n).code ∧ SoundF P G (evO P G orcs n).call ∧ SoundR P G (evO P G orcs n).round
  | 0 => by
    refine ⟨?_, ?_, ?_⟩
    · intro rd code N st x st' h; cases h
    · intro f args H c r h; cases h
    · intro q args H c r h; cases h
  | n + 1 => by
    obtain ⟨h1, h2, h3⟩ := evO_ok hm ho n
    rw [evO_succ]
    exact ⟨codeF_sound (draw_sound hm) h1 h2 h3, orcF_sound (callF_sound h1) orcs ho, roundF_sound h1⟩
end
end Go.Proofs.YtknmbmdeilbdkaaGreatDoor.Ev
