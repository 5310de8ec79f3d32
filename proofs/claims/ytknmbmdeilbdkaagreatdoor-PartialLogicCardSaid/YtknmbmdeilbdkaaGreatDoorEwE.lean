/- Drawn regions are sound: all orders. -/
import Derived.Test.YtknmbmdeilbdkaaGreatDoorEwD
namespace Go.Proofs.YtknmbmdeilbdkaaGreatDoor.Ev
open Go
section
variable {P : Program} {G N : Nat} {rf rr : CallF} {ops : List Oper} {ois : List OI} {fk : Option (Nat × Nat)} {HB : Tr AB} {S : Nat → DS} {V : Nat → AV} {A : Nat → Option (Nat × AB)}

theorem put_ne {α : Type} {t : Tr α} : ∀ {k j : Nat} {a : Option α}, j ≠ k → (Tr.put t k a).get j = t.get j := by
  induction t with
  | e =>
    intro k j a h
    rw [Tr.put_e, Tr.get_e]
    cases hg : (Tr.way 20 k a).get j with
    | none => rfl
    | some x => exact (h (Tr.get_way hg).1).elim
  | n v l r ihl ihr =>
    intro k j a h
    rw [Tr.put_n, Tr.get_n]
    split
    · rename_i hk
      subst hk
      rw [Tr.get_n, if_neg h, if_neg h]
    · rename_i hk
      split
      · rename_i hb
        rw [Tr.get_n]
        by_cases hj : j = 0
        · rw [if_pos hj, if_pos hj]
        · rw [if_neg hj, if_neg hj]
          split
          · rename_i hc
            exact ihl fun e => h (Tr.half_inj hj hk (by omega) e)
          · rfl
      · rename_i hb
        rw [Tr.get_n]
        by_cases hj : j = 0
        · rw [if_pos hj, if_pos hj]
        · rw [if_neg hj, if_neg hj]
          split
          · rfl
          · rename_i hc
            exact ihr fun e => h (Tr.half_inj hj hk (by omega) e)
theorem put_has {α : Type} {t : Tr α} : ∀ {k : Nat} {a : Option α} {x : α}, t.get k = some x → (Tr.put t k a).get k = a := by
  induction t with
  | e => intro k a x h; cases h
  | n v l r ihl ihr =>
    intro k a x h
    rw [Tr.put_n]
    rw [Tr.get_n] at h
    split
    · rename_i hk
      rw [Tr.get_n, if_pos hk]
    · rename_i hk
      rw [if_neg hk] at h
      split
      · rename_i hb
        rw [if_pos hb] at h
        rw [Tr.get_n, if_neg hk, if_pos hb]
        exact ihl h
      · rename_i hb
        rw [if_neg hb] at h
        rw [Tr.get_n, if_neg hk, if_neg hb]
        exact ihr h
theorem set_ne {α : Type} {t : Tr α} {k j : Nat} {a : α} (h : j ≠ k) : (t.set k a).get j = t.get j := put_ne h
theorem set_has {α : Type} {t : Tr α} {k : Nat} {a x : α} (h : t.get k = some x) : (t.set k a).get k = some a := put_has h
/-- A store changes one block, and looks at no other. -/
theorem store_set {H H' : Tr AB} {c : Nat} {t : TypeId} {b off : Nat} {v : Option AV} {r : MR} (h : amStore P H c t (some (.ptr b off)) v = some r) : ∃ q y, H.get b = some y ∧ r = ⟨.tup [], H.set b q, c⟩ ∧ ∀ (H2 : Tr AB) (c2 : Nat), H2.get b = H.get b → amStore P H2 c2 t (some (.ptr b off)) v = some ⟨.tup [], H2.set b q, c2⟩ := by
  cases v with
  | none => cases h
  | some u =>
    simp only [amStore] at h
    split at h
    · rename_i H1 hs
      obtain ⟨z, hz, rfl⟩ := mkM_inv h
      cases hz
      unfold astore at hs
      split at hs
      · rename_i b' off' l s he hl hz
        cases he
        split at hs
        · rename_i hlen
          unfold wrC at hs
          split at hs
          · rename_i ty sz n cells opn fz hg
            split at hs
            · rename_i hok
              cases hs
              refine ⟨_, _, hg, rfl, fun H2 c2 h2 => ?_⟩
              simp only [amStore, astore, hl, hz, hlen, wrC, h2, hg, hok]
              unfold mkM
              simp only [fN_eq]
            · cases hs
          · cases hs
        · cases hs
      · cases hs
    · cases h
def Ls (listed : Array Bool) (j : Nat) : Prop := listed.getD j false = true
theorem Ls_set {listed : Array Bool} {i : Nat} (hi : i < listed.size) : Ls (listed.setIfInBounds i true) = fun j => Ls listed j ∨ j = i := by
  funext j
  apply propext
  unfold Ls
  by_cases h : i = j
  · subst h
    constructor
    · exact fun _ => Or.inr rfl
    · exact fun _ => by simp [hi]
  · rw [getD_set_ne false h]
    constructor
    · exact Or.inl
    · rintro (h' | h')
      · exact h'
      · exact (h h'.symm).elim
theorem not_Ls {listed : Array Bool} {j : Nat} (h : listed.getD j true = false) : ¬ Ls listed j ∧ j < listed.size := by
  rcases Nat.lt_or_ge j listed.size with hlt | hge
  · refine ⟨fun h' => ?_, hlt⟩
    unfold Ls at h'
    simp [hlt] at h h'
    rw [h] at h'; cases h'
  · simp [Array.getElem?_eq_none hge] at h
theorem getD_true {listed : Array Bool} {j : Nat} (h : ¬ Ls listed j) (hj : j < listed.size) : listed.getD j true = false := by
  unfold Ls at h
  simp [hj] at h ⊢
  exact h
theorem any_sound (hr : Rn P G N rf rr ops ois fk S V A) (hfk : ∀ la lb, fk = some (la, lb) → Frk P G rf rr ops S V HB la lb) (hrf : SoundF P G rf) (hrr : SoundR P G rr) {F : Fence} (hF : FOk F) {m0 : Ren} {w0 : World} {ms : List Nat} (hG0 : Glob m0 G) (h0 : ∀ n x, (S 0).H.get n = some x → ¬ ((S 0).c ≤ n ∧ n < (S ops.length).c))
    {Q : Exit → Act → World → Prop} (hQ : ∀ L k m a w, (∀ i, i < ops.length → L i) → Inv P N ops ois fk S HB V A ms m0 w0 L k m a w → Q .normal a w) :
    ∀ (fuel : Nat) (listed : Array Bool) (k : Tr AB) (m : Ren) (a : Act) (w : World), listed.size = ops.length → listed.toList.count false = fuel → Inv P N ops ois fk S HB V A ms m0 w0 (Ls listed) k m a w → wpAnyIn F 0 P .any ops.toArray Q fuel listed a w := by
  have hall : ∀ (listed : Array Bool) (k : Tr AB) (m : Ren) (a : Act) (w : World), listed.size = ops.length → Inv P N ops ois fk S HB V A ms m0 w0 (Ls listed) k m a w → Region.ready .any ops.toArray listed = [] → Q .normal a w := by
    intro listed k m a w hz hI hre
    refine hQ _ k m a w (fun i hi => ?_) hI
    induction i using Nat.strongRecOn with
    | ind i ih =>
      refine Classical.byContradiction fun hn => ?_
      obtain ⟨o, ho⟩ := get_of_lt hi
      have : i ∈ Region.ready .any ops.toArray listed := mem_ready.2 ⟨getD_true hn (by omega), o, by simpa using ho, fun e he hb => by
        have hlt := hr.txt.back i o e ho (by simpa using he) hb
        exact ih e.on hlt (by omega)⟩
      rw [hre] at this
      cases this
  intro fuel
  induction fuel with
  | zero =>
    intro listed k m a w hz hc hI
    have hre : Region.ready .any ops.toArray listed = [] := by
      cases hq : Region.ready .any ops.toArray listed with
      | nil => rfl
      | cons j l =>
        exfalso
        obtain ⟨h1, _⟩ := mem_ready.1 (show j ∈ Region.ready .any ops.toArray listed by rw [hq]; exact List.mem_cons_self)
        obtain ⟨_, h2⟩ := not_Ls h1
        have : false ∈ listed.toList := by
          rw [List.mem_iff_getElem?]
          refine ⟨j, ?_⟩
          simp [h2] at h1
          simp [h2, h1]
        rw [List.count_eq_zero] at hc
        exact hc this
    exact ⟨hre, hall listed k m a w hz hI hre⟩
  | succ fuel ih =>
    intro listed k m a w hz hc hI
    refine ⟨hall listed k m a w hz hI, fun i hi => ?_⟩
    obtain ⟨h1, o, ho, h2⟩ := mem_ready.1 hi
    obtain ⟨h3, h4⟩ := not_Ls h1
    refine hI.step hr hfk hrf hrr hF hG0 h0 (i := i) (o := o) (by simpa using ho) h3 (fun o' e ho' he hb => ?_) fun k' m' a' w' h => ?_
    · have ho : ops[i]? = some o := by simpa using ho
      rw [ho] at ho'; cases ho'
      exact h2 e (by simpa using he) hb
    · rw [← Ls_set h4] at h
      refine ih _ k' m' a' w' (by simp [hz]) ?_ h
      rw [Array.toList_setIfInBounds, List.count_set (by simpa using h4)]
      have : listed.toList[i]'(by simpa using h4) = false := by simp [h4] at h1; simp [h1]
      rw [this, hc]
      simp
theorem dops_app {rf rr : CallF} {ops : List Oper} : ∀ {l1 l2 : List Oper} {ois : List OI} {i : Nat} {s s1 s2 : DS}, dops P G rf rr N ops l1 ois i s = some s1 → dops P G rf rr N ops l2 (ois.drop l1.length) (i + l1.length) s1 = some s2 → dops P G rf rr N ops (l1 ++ l2) ois i s = some s2
  | [], l2, ois, i, s, s1, s2, h1, h2 => by
    cases h1
    simpa using h2
  | o :: l1, l2, ois, i, s, s1, s2, h1, h2 => by
    rw [dops_cons] at h1
    rw [List.cons_append, dops_cons]
    split at h1
    · cases h1
    · rename_i oi ois
      split at h1
      · cases h1
      · rename_i s' hs'
        refine dops_app h1 ?_
        rw [List.length_cons, List.drop_succ_cons] at h2
        rw [show i + 1 + l1.length = i + (l1.length + 1) by omega]
        exact h2
/-- A run of a drawn region, through. -/
theorem dend_sound (hm : P.follows .mixedOrders = true) (hrf : SoundF P G rf) (hrr : SoundR P G rr) {rd : Bool} {id : Nat} {opsA : Array Oper} {st st' : St} {s : DS} {x : AX} (ho : opsA.toList = ops) (hr : Rn P G N rf rr ops ois fk S V A) (hfk : ∀ la lb, fk = some (la, lb) → Frk P G rf rr ops S V HB la lb)
    (h1 : S 0 = ⟨st.T, st.H, st.c, [], [st.H], []⟩) (h2 : S ops.length = s) (h : dend st.ms s = some (x, st')) : Walk P G rd (.region id opsA true) N st x st' := by
  unfold dend at h
  split at h
  rotate_left
  · cases h
  cases h
  have hle := hr.le (i := 0) (j := ops.length) (by omega) (Nat.le_refl _)
  rw [h1, h2] at hle
  refine ⟨hle, fun F m a w hF _ hG hfr hS => ?_⟩
  refine wpIn_region_any hm ?_
  have h0 : ∀ n x, (S 0).H.get n = some x → ¬ ((S 0).c ≤ n ∧ n < (S ops.length).c) := by
    rw [h1, h2]
    rintro n x hx ⟨g1, g2⟩
    obtain ⟨k, δ, o, g3, _⟩ := hS.H.blk n x hx
    rw [hfr n g1 g2] at g3
    cases g3
  have hR0 : Rel m st.H.get { w with drawn := w.drawn + 1 } := ⟨hS.H.blk, hS.H.inj⟩
  have hops : opsA = ops.toArray := by rw [← ho]
  rw [hops]
  have hno : ∀ j, ¬ Ls (Array.replicate ops.toArray.size false) j := fun j h => by
    unfold Ls at h
    rcases Nat.lt_or_ge j ops.length with hj | hj
    · simp [hj] at h
    · simp [hj] at h
  have hI : Inv P N ops ois fk S HB V A st.ms m { w with drawn := w.drawn + 1 } (Ls (Array.replicate ops.toArray.size false)) (S 0).H m a { w with drawn := w.drawn + 1 } := by
    refine ⟨fun i h => (hno i h).elim, fun i o e h => (hno i h).elim, hS.T.1, fun i o d h => (hno i h).elim, fun d x hx _ => ?_, hS.ms, Or.inl ⟨0, Nat.zero_le _, rfl, fun l o _ _ => ⟨fun h => (hno l h).elim, fun h => by omega⟩⟩, ?_, ?_, ?_, ?_⟩
    · rw [h1] at hx
      exact hS.T.2 d x hx
    · refine (RelP.of hR0).sub fun n x hx => ?_
      rcases hx with hx | ⟨j, _, hj, _⟩
      · rw [h1] at hx; exact hx
      · exact (hno j hj).elim
    · refine FrP.refl.sub fun n x hx => ?_
      rcases hx with hx | ⟨j, _, hj, _⟩
      · exact hx
      · exact (hno j hj).elim
    · intro i hi _
      have g1 := hr.le (i := 0) (j := i) (by omega) (by omega)
      have g2 := hr.le (i := i + 1) (j := ops.length) (by omega) (by omega)
      rw [h1] at g1
      rw [h2] at g2
      exact hfr.sub g1 g2
    · intro n b hb
      exact Or.inl (by rw [hb]; simp)
  refine any_sound hr hfk hrf hrr hF hG h0 (fun L HX m' a' w' hL hI' => ?_) ops.toArray.size _ (S 0).H m a _ (by simp) (by simp) hI
  have hk : (S ops.length).H = HX := by
    rcases hI'.stg with ⟨k, g1, g2, g3⟩ | ⟨la, lb, g1, g2, g3⟩
    · rw [g2]
      exact hr.quiet_to g1 (Nat.le_refl _) fun p o q1 q2 q3 => by
        cases hq : isLoud P o with
        | false => rfl
        | true => have := (g3 p o q3 hq).1 (hL p q2); omega
    · exfalso
      obtain ⟨q1, q2, _⟩ := hr.txt.fork la lb g1
      obtain ⟨oa, hoa⟩ := get_of_lt (by omega : la < ops.length)
      have := (g3 la oa hoa ((hfk la lb g1).fst oa hoa).1).1 (hL la (by omega))
      omega
  have hsub : ∀ n x, (dall s.pa s.H).get n = some x → KL P ops ois A HX L n x := by
    intro n x hx
    rcases dall_get hx with hx | ⟨j, hx⟩
    · rw [← h2, hk] at hx; exact Or.inl hx
    · rw [← h2] at hx
      obtain ⟨g1, g2, g3⟩ := hr.pend (Nat.le_refl _) hx
      exact Or.inr ⟨j, g2, hL j g1, fun l o ol hl g4 g5 g6 => g3 l o ol (hI'.lt l hl) g4 g5 g6⟩
  refine ⟨rfl, m', ⟨⟨hI'.size, fun d v hv => ?_⟩, hI'.R.rel hsub, hI'.ms⟩, ?_⟩
  · have hv : s.T.get d = some v := hv
    rw [← h2] at hv
    rcases hr.slots (Nat.le_refl _) hv with ⟨j, o, g1, g2, g3, g4, g5⟩ | ⟨g1, g2⟩
    · rw [← g4]
      exact hI'.tv j o d (hL j g1) g2 g3 g5
    · exact hI'.t0 d v g1 fun j o hj hoj => g2 j o (hI'.lt j hj) hoj
  · have hF' := hI'.F.fr hsub
    rw [h1, h2] at hF'
    exact ⟨hF'.os, hF'.tape, hF'.output, hF'.size, hF'.keep, hF'.le, hF'.dom, hF'.back, hF'.hd⟩
theorem stp_store {i : Nat} {oi : OI} {o : Oper} {s s' : DS} {v : AV} {B : Option (Nat × AB)} (h : Stp P G N rf rr ops i oi o s s' v B) {t : TypeId} {x y : Operand} (ho : o.op = .store t x y) (hg : o.guard = none) (hpa : s.pa = []) {b off : Nat} (hx : aOp G s.T x = some (.ptr b off)) :
    ∃ q z, s.H.get b = some z ∧ s'.H = s.H.set b q ∧ v = .tup [] ∧ s'.c = s.c ∧ ∀ (H2 : Tr AB) (c2 : Nat), H2.get b = s.H.get b → aexec P G rf rr s.T H2 c2 o.op = some ⟨.tup [], H2.set b q, c2⟩ := by
  have hl : isLoud P o = true := by unfold isLoud; rw [ho]; rfl
  rcases h.want with ⟨hw, _⟩ | ⟨hw, ⟨hl', _⟩ | ⟨hk, _⟩ | ⟨_, _, he⟩⟩
  · rw [awanted_none hg] at hw; cases hw
  · rw [hl] at hl'; cases hl'
  · unfold isLoud at hl; rw [hk] at hl; cases hl
  · rw [hpa, ho] at he
    simp only [aexec, hx] at he
    obtain ⟨q, z, h1, h2, h3⟩ := store_set (H' := s.H) he
    rw [MR.mk.injEq] at h2
    obtain ⟨e1, e2, e3⟩ := h2
    exact ⟨q, z, h1, e2, e1, e3, fun H2 c2 h => by rw [ho]; simp only [aexec, hx]; exact h3 H2 c2 h⟩
theorem draw_sound (hm : P.follows .mixedOrders = true) : DrawS P G := by
  intro rf rr hrf hrr rd id opsA N st x st' h
  generalize ho : opsA.toList = ops at h
  unfold cDraw at h
  split at h
  · cases h
  · rename_i ois la lb hd
    have htxt := dinfo_txt hd
    obtain ⟨g1, g2, _⟩ := htxt.fork la lb rfl
    unfold cFork at h
    split at h
    · rename_i oa ob hna hnb
      rw [nth_eq] at hna hnb
      split at h
      · rename_i ta xa ya tb xb yb hoa hob hga hgb
        split at h
        · cases h
        · rename_i sa hsa
          split at h
          · cases h
          · rename_i sb hsb
            split at h
            · rename_i b1 f1 b2 f2 hx1 hx2 hp1 hp2
              split at h
              · cases h
              · rename_i hne
                have hne := Nat.ne_of_beq_eq_false hne
                split at h
                · cases h
                · rename_i s hs
                  have e1 : dops P G rf rr N ops (ops.take lb) ois 0 ⟨st.T, st.H, st.c, [], [st.H], []⟩ = some sb := by
                    have := dops_app (l1 := ops.take la) (l2 := (ops.drop la).take (lb - la)) hsa (by simpa [Nat.min_eq_left (by omega : la ≤ ops.length)] using hsb)
                    rwa [← List.drop_take, show ops.take la = (ops.take lb).take la by rw [List.take_take, Nat.min_eq_left (by omega)], List.take_append_drop] at this
                  have e2 : dops P G rf rr N ops ops ois 0 ⟨st.T, st.H, st.c, [], [st.H], []⟩ = some s := by
                    have := dops_app (l1 := ops.take lb) (l2 := ops.drop lb) e1 (by simpa [Nat.min_eq_left (by omega : lb ≤ ops.length)] using hs)
                    rwa [List.take_append_drop] at this
                  have hrd : rdsOk s.outs s.rds = true := by
                    unfold dend at h
                    split at h
                    · assumption
                    · cases h
                  obtain ⟨S, V, A, h1, h2, h3, h4⟩ := dops_sts hrf hrr ops ois 0 _ s e2
                  have ea : S la = sa := by
                    have := h4 la
                    rw [hsa, Nat.min_eq_left (by omega)] at this
                    exact (Option.some.inj this).symm
                  have eb : S lb = sb := by
                    have := h4 lb
                    rw [e1, Nat.min_eq_left (by omega)] at this
                    exact (Option.some.inj this).symm
                  have hr : Rn P G N rf rr ops ois (some (la, lb)) S V A := ⟨htxt, by rw [h1], by rw [h1], fun i o hi => by
                    obtain ⟨oi, h4, h5⟩ := h3 i o hi
                    rw [Nat.zero_add] at h5
                    exact ⟨oi, h4, h5⟩, by rw [h2]; exact hrd⟩
                  obtain ⟨oia, hia, sta⟩ := hr.step la oa hna
                  obtain ⟨oib, hib, stb⟩ := hr.step lb ob hnb
                  obtain ⟨qa, za, a1, a2, a3, a4, a5⟩ := stp_store sta hoa hga (by rw [ea]; exact hp1) (by rw [ea]; exact hx1)
                  obtain ⟨qb, zb, c1, c2, c3, c4, c5⟩ := stp_store stb hob hgb (by rw [eb]; exact hp2) (by rw [eb]; exact hx2)
                  have hla : isLoud P oa = true := by unfold isLoud; rw [hoa]; rfl
                  have hlb : isLoud P ob = true := by unfold isLoud; rw [hob]; rfl
                  have hmid : (S lb).H = (S (la + 1)).H := hr.quiet_to (by omega) (by omega) fun p o q1 q2 q3 => by
                    obtain ⟨_, _, _, _, g4⟩ := htxt.fork la lb rfl
                    cases hq : isLoud P o with
                    | false => rfl
                    | true => rcases (g4 p o q3).2 hq with h | h | h <;> omega
                  have hFk : Frk P G rf rr ops S V ((S la).H.set b2 qb) la lb := by
                    refine ⟨fun o h => by rw [hna] at h; cases h; exact ⟨hla, hga⟩, fun o h => ?_, ⟨((S la).H.set b2 qb).set b1 qa, fun o h => ?_, fun n b h => ?_⟩⟩
                    · rw [hnb] at h; cases h
                      refine ⟨hlb, hgb, ?_⟩
                      rw [c3, c4]
                      refine c5 _ _ ?_
                      rw [hmid, a2, set_ne (fun e => hne e.symm)]
                    · rw [hna] at h; cases h
                      rw [a3, a4]
                      refine a5 _ _ ?_
                      rw [set_ne hne]
                    · rw [c2, hmid, a2] at h
                      have d1 : (S la).H.get b2 = some zb := by rw [hmid, a2, set_ne (fun e => hne e.symm)] at c1; exact c1
                      by_cases e1 : n = b1
                      · subst e1
                        rw [set_ne hne, set_has a1] at h
                        cases h
                        exact set_has (x := za) (by rw [set_ne hne]; exact a1)
                      · rw [set_ne e1]
                        by_cases e2 : n = b2
                        · subst e2
                          rw [set_has (x := zb) (by rw [set_ne e1]; exact d1)] at h
                          cases h
                          exact set_has d1
                        · rw [set_ne e2, set_ne e1] at h
                          rw [set_ne e2]
                          exact h
                  exact dend_sound hm hrf hrr ho hr (fun la' lb' e => by cases e; exact hFk) h1 h2 h
            · cases h
      · cases h
    · cases h
  · rename_i ois hd
    split at h
    · cases h
    · rename_i s hs
      have hrd : rdsOk s.outs s.rds = true := by
        unfold dend at h
        split at h
        · assumption
        · cases h
      obtain ⟨S, V, A, h1, h2, h3, _⟩ := dops_sts hrf hrr ops ois 0 _ s hs
      have hr : Rn P G N rf rr ops ois none S V A := ⟨dinfo_txt hd, by rw [h1], by rw [h1], fun i o hi => by
        obtain ⟨oi, h4, h5⟩ := h3 i o hi
        rw [Nat.zero_add] at h5
        exact ⟨oi, h4, h5⟩, by rw [h2]; exact hrd⟩
      exact dend_sound (HB := .e) hm hrf hrr ho hr (fun la lb e => by cases e) h1 h2 h
/-- The reckoner is sound. -/
theorem ev_ok (hm : P.follows .mixedOrders = true) (n : Nat) : SoundC P G (ev P G n).code ∧ SoundF P G (ev P G n).call ∧ SoundR P G (ev P G n).round := ev_sound (draw_sound hm) n
end
end Go.Proofs.YtknmbmdeilbdkaaGreatDoor.Ev
