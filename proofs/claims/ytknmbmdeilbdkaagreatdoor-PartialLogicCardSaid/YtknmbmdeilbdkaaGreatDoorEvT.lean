/- Regions in the order of the text. -/
import Derived.Test.YtknmbmdeilbdkaaGreatDoorEvS
namespace Go.Proofs.YtknmbmdeilbdkaaGreatDoor.Ev
open Go
section
variable {P : Program} {m : Ren} {w : World} {G N : Nat} {a : Act}

theorem putM_inv {T : Tr AV} {ms : List Nat} {d : Option Nat} {r : Option MR} {st' : St} (h : putM N T ms d r = some st') : ∃ q T', r = some q ∧ aput N T d q.v = some T' ∧ st' = ⟨T', q.H, q.c, ms⟩ := by
  unfold putM at h
  split at h
  · cases h
  · rename_i v H c
    split at h
    · cases h
    · rename_i T' hT
      cases h
      exact ⟨⟨v, H, c⟩, T', rfl, hT, rfl⟩
theorem aoper_le {rf rr : CallF} (hrf : SoundF P G rf) (hrr : SoundR P G rr) {ops : List Oper} {o : Oper} {st st' : St} (h : aoper P G rf rr N ops o st = some st') : st.c ≤ st'.c := by
  obtain ⟨T, H, c, ms⟩ := st
  simp only [aoper] at h
  split at h
  · cases h
  · obtain ⟨q, T', hq, _, rfl⟩ := putM_inv h
    cases hq
    exact Nat.le_refl c
  · obtain ⟨q, T', hq, _, rfl⟩ := putM_inv h
    exact aexec_le hq (fun f args H c r h => (hrf f args H c r h).1) (fun f args H c r h => (hrr f args H c r h).1)
theorem SR.put {m' : Ren} {st : St} {d : Option Nat} {T' : Tr AV} {v : AV} {u : Value} {H' : Tr AB} {c' : Nat} {w' : World} (h : SR N m st a w) (hle : Ren.le m m') (hT : aput N st.T d v = some T') (hv : VR m' v u) (hR : Rel m' H'.get w') : SR N m' ⟨T', H', c', st.ms⟩ (a.put d u) w' :=
  ⟨aput_sound hT (h.T.mono hle) hv, hR, (h.ms.mono hle).put⟩
theorem aoper_sound {rf rr : CallF} (hrf : SoundF P G rf) (hrr : SoundR P G rr) {ops : Array Oper} {o : Oper} {st st' : St} (h : aoper P G rf rr N ops.toList o st = some st') {F : Fence} {K : Act → World → Prop} {Q : Exit → Act → World → Prop}
    (hF : FOk F) (hG : Glob m G) (hfr : Fresh m st.c st'.c) (hS : SR N m st a w) (hK : ∀ m' a' w', SR N m' st' a' w' → Fr m st.H.get w m' st'.H.get w' st.c st'.c → K a' w') :
    if Region.wanted o (yielded ops a.tmps) then o.wpIn F 0 P a w K Q else (∀ f, o.about P w a.eval = some f → F.fn f) ∧ K (a.put o.dst undef) w := by
  obtain ⟨T, H, c, ms⟩ := st
  simp only [aoper] at h
  split at h
  · cases h
  · rename_i hw
    rw [awanted_sound hw hS.T]
    obtain ⟨q, T', hq, hT, rfl⟩ := putM_inv h
    cases hq
    exact ⟨fun f _ => hF.fn f, hK m _ w (hS.put (fun _ _ h => h) hT undef_VR hS.H) (Fr.refl fun _ _ h => h)⟩
  · rename_i hw
    rw [awanted_sound hw hS.T]
    obtain ⟨q, T', hq, hT, rfl⟩ := putM_inv h
    exact oper_sound hrf hrr hq hF hG hfr (OE.of hS.T hG _) hS.H fun m' u w' h1 h2 h3 => hK m' _ w' (hS.put h3.le hT h1 h2) h3
theorem aops_cons {rf rr : CallF} {ops : List Oper} {o : Oper} {l : List Oper} {st : St} : aops P G rf rr N ops (o :: l) st = match aoper P G rf rr N ops o st with
    | none => none
    | some st' => aops P G rf rr N ops l st' := rfl
theorem aops_le {rf rr : CallF} (hrf : SoundF P G rf) (hrr : SoundR P G rr) {ops : List Oper} : ∀ {l : List Oper} {st st' : St}, aops P G rf rr N ops l st = some st' → st.c ≤ st'.c
  | [], st, st', h => by cases h; exact Nat.le_refl _
  | o :: l, st, st', h => by
    rw [aops_cons] at h
    split at h
    · cases h
    · rename_i st1 h1
      exact Nat.le_trans (aoper_le hrf hrr h1) (aops_le hrf hrr h)
theorem Fr.glob {m' : Ren} {H H' : Nat → Option AB} {w' : World} {c c' : Nat} (h : Fr m H w m' H' w' c c') (hG : Glob m G) : Glob m' G := fun g hg => h.le _ _ (hG g hg)
theorem aops_sound {rf rr : CallF} (hrf : SoundF P G rf) (hrr : SoundR P G rr) {ops : Array Oper} {F : Fence} {Q : Exit → Act → World → Prop} (hF : FOk F) : ∀ (l : List Oper) (i : Nat) (st st' : St) (m : Ren) (a : Act) (w : World), (∀ j, l[j]? = ops[i + j]?) → aops P G rf rr N ops.toList l st = some st' →
    Glob m G → Fresh m st.c st'.c → SR N m st a w → (∀ m' a' w', SR N m' st' a' w' → Fr m st.H.get w m' st'.H.get w' st.c st'.c → Q .normal a' w') → wpOpsIn F 0 P ops Q (List.range' i l.length) a w
  | [], i, st, st', m, a, w, _, h, _, _, hS, hK => by
    cases h
    exact hK m a w hS (Fr.refl fun _ _ h => h)
  | o :: l, i, st, st', m, a, w, hl, h, hG, hfr, hS, hK => by
    rw [aops_cons] at h
    split at h
    · cases h
    · rename_i st1 h1
      have ho : ops[i]? = some o := by have := hl 0; simpa using this.symm
      have hc1 := aoper_le hrf hrr h1
      have hc2 := aops_le hrf hrr h
      simp only [List.length_cons, List.range'_succ, wpOpsIn, ho]
      refine aoper_sound hrf hrr h1 hF hG (hfr.sub (Nat.le_refl _) hc2) hS fun m1 a1 w1 k1 k2 => ?_
      refine aops_sound hrf hrr hF l (i + 1) st1 st' m1 a1 w1 (fun j => ?_) h (k2.glob hG) (k2.fresh hfr hc1) k1 fun m' a' w' k3 k4 => hK m' a' w' k3 (k2.trans k4 hc1 hc2)
      have := hl (j + 1)
      rw [show i + 1 + j = i + (j + 1) by omega]
      simpa using this
/-- A region in the order of the text. -/
theorem region_sound {rf rr : CallF} (hrf : SoundF P G rf) (hrr : SoundR P G rr) {ops : Array Oper} {id : Nat} {st st' : St} (h : aops P G rf rr N ops.toList ops.toList st = some st') {F : Fence} {Q : Exit → Act → World → Prop} (hF : FOk F) (hG : Glob m G) (hfr : Fresh m st.c st'.c) (hS : SR N m st a w)
    (hK : ∀ m' a' w', SR N m' st' a' w' → Fr m st.H.get w m' st'.H.get w' st.c st'.c → Q .normal a' w') : (Code.region id ops false).wpIn F 0 P Q a w := by
  refine wpIn_region ?_
  have := aops_sound hrf hrr hF ops.toList 0 st st' m a w (fun j => by simp) h hG hfr hS hK (Q := Q)
  rw [List.range_eq_range']
  simpa using this
end
end Go.Proofs.YtknmbmdeilbdkaaGreatDoor.Ev
