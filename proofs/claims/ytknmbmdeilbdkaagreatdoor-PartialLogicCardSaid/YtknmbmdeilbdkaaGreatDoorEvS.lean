/- Names grow; calls; one operation of a region whole. -/
import Derived.Test.YtknmbmdeilbdkaaGreatDoorEvR
namespace Go.Proofs.YtknmbmdeilbdkaaGreatDoor.Ev
open Go
section
variable {P : Program} {m : Ren} {w : World} {H H' : Tr AB} {G N : Nat} {T : Tr AV} {a : Act}

theorem mkM_le {v : Option AV} {c c' : Nat} {r : MR} (h : mkM v H c' = some r) (hc : c ≤ c') : c ≤ r.c := by
  obtain ⟨_, _, rfl⟩ := mkM_inv h
  exact hc
theorem appNew_le {e size n fz c : Nat} {cs : List AV} {r : MR} (h : appNew H c e size cs n fz = some r) : c ≤ r.c := mkM_le h (Nat.le_succ c)
theorem appSl_le {c e size bytes b off len cap n : Nat} {ex : Bool} {new : List AV} {r : MR} (h : appSl P H c e size bytes b off len cap ex n new = some r) : c ≤ r.c := by
  unfold appSl at h
  repeat' split at h
  all_goals first | cases h; done | exact mkM_le h (Nat.le_refl c) | exact appNew_le h
theorem appZ_le {c e : Nat} {s x : AV} {r : MR} (h : appZ P H c e s x = some r) : c ≤ r.c := by
  unfold appZ at h
  repeat' split at h
  all_goals first | cases h; done | exact appNew_le h
theorem aappend_le {c : Nat} {ts : List TypeId} {s x : AV} {r : MR} (h : aappend P H c ts s x = some r) : c ≤ r.c := by
  unfold aappend at h
  repeat' split at h
  all_goals first | cases h; done | exact mkM_le h (Nat.le_refl c) | exact appNew_le h | exact appSl_le h | exact appZ_le h
theorem acopy_le {c : Nat} {ts : List TypeId} {s x : AV} {r : MR} (h : acopy P H c ts s x = some r) : c ≤ r.c := by
  unfold acopy at h
  repeat' split at h
  all_goals first | cases h; done | exact mkM_le h (Nat.le_refl c)
theorem amApp_le {f : Program → Tr AB → Nat → List TypeId → AV → AV → Option MR} {xs : List Operand} {ts : List TypeId} {c : Nat} {r : MR} (h : amApp P G T H c f xs ts = some r) (hf : ∀ v u r, f P H c ts v u = some r → c ≤ r.c) : c ≤ r.c := by
  obtain ⟨_, _, _, _, _, _, _, h⟩ := amApp_inv h
  exact hf _ _ _ h
theorem aexec_le {rf rr : CallF} {c : Nat} {o : Op} {r : MR} (h : aexec P G rf rr T H c o = some r) (hrf : ∀ f args H c r, rf f args H c = some r → c ≤ r.c) (hrr : ∀ f args H c r, rr f args H c = some r → c ≤ r.c) : c ≤ r.c := by
  unfold aexec at h
  split at h
  · unfold amCall at h
    split at h
    · unfold amVal at h
      split at h
      · exact hrf _ _ _ _ _ h
      · exact hrr _ _ _ _ _ h
      · cases h
    · unfold amBuiltin at h
      split at h
      · exact amApp_le h fun _ _ _ h => aappend_le h
      · exact amApp_le h fun _ _ _ h => acopy_le h
      · split at h
        · split at h
          · unfold amMapLen at h
            repeat' split at h
            all_goals first | cases h; done | exact mkM_le h (Nat.le_refl c)
          · exact mkM_le h (Nat.le_refl c)
        · cases h
      · unfold amSliceData at h
        repeat' split at h
        all_goals first | cases h; done | exact mkM_le h (Nat.le_refl c)
      · unfold amString at h
        repeat' split at h
        all_goals first | cases h; done | exact mkM_le h (Nat.le_refl c)
      · exact mkM_le h (Nat.le_refl c)
    · cases h
  · unfold amLoad at h
    repeat' split at h
    all_goals first | cases h; done | exact mkM_le h (Nat.le_refl c)
  · unfold amStore at h
    repeat' split at h
    all_goals first | cases h; done | exact mkM_le h (Nat.le_refl c)
  · unfold amAlloc at h
    repeat' split at h
    all_goals first | cases h; done | exact mkM_le h (Nat.le_succ c)
  · unfold amBox at h
    repeat' split at h
    all_goals first | cases h; done | exact mkM_le h (Nat.le_succ c)
  · unfold amBuildSlice at h
    repeat' split at h
    all_goals first | cases h; done | exact mkM_le h (Nat.le_succ c)
  · unfold amMakeSlice at h
    repeat' split at h
    all_goals first | cases h; done | exact mkM_le h (Nat.le_succ c)
  · unfold amConv amemConv at h
    repeat' split at h
    all_goals first | cases h; done | exact mkM_le h (Nat.le_refl c) | exact mkM_le h (Nat.le_succ c)
  · unfold amMakeMap at h
    repeat' split at h
    all_goals first | cases h; done | exact mkM_le h (Nat.le_succ c)
  · unfold amMapUpdate at h
    repeat' split at h
    all_goals first | cases h; done | exact mkM_le h (Nat.le_refl c)
  · unfold amMapUpdate at h
    repeat' split at h
    all_goals first | cases h; done | exact mkM_le h (Nat.le_refl c)
  · exact mkM_le h (Nat.le_refl c)

theorem run_enter {f : FuncId} {fn : Func} (hf : P.funcs[f]? = some fn) (hb : fn.body.isSome = true) (hn : (fn.name == noGo) = false) (args : Array Value) (w : World) : (callFunc f args).run P w = .ok (.enter f args) w := by
  have hb' : ¬ fn.body = none := fun e => by rw [e] at hb; cases hb
  have hn' : ¬ fn.name = "runtime.NumGoroutine" := by simpa [noGo] using hn
  simp [callFunc, run_program, hf, hb', hn']
/-- One operation. -/
theorem oper_sound {rf rr : CallF} (hrf : SoundF P G rf) (hrr : SoundR P G rr) {c : Nat} {o : Oper} {r : MR} (h : aexec P G rf rr T H c o.op = some r) {F : Fence} {K : Act → World → Prop} {Q : Exit → Act → World → Prop}
    (hF : FOk F) (hG : Glob m G) (hfr : Fresh m c r.c) (hE : OE G T m a o.op.operands) (hR : Rel m H.get w) (hK : ∀ m' u w', VR m' r.v u → Rel m' r.H.get w' → Fr m H.get w m' r.H.get w' c r.c → K (a.put o.dst u) w') : o.wpIn F 0 P a w K Q := by
  have hd : ∀ c, o.op ≠ .defer c := fun cl e => by rw [e] at h; cases h
  by_cases hv : ∀ cl f, o.op = .call cl → cl.callee ≠ .value f
  · obtain ⟨_, h2⟩ := aexec_ES (a := a) hR h hE hv
    obtain ⟨nx, u, w', m', h3, h4, h5, h6, h7⟩ := h2 hfr
    rcases h4 with rfl | ⟨rfl, rfl⟩
    · exact wpIn_value hF hd h3 (hK m' u w' h5 h6 h7)
    · exact wpIn_skip' hF hd h3 (hK m' _ w' h5 h6 h7)
  · obtain ⟨cl, f, ho, hc⟩ : ∃ cl f, o.op = .call cl ∧ cl.callee = .value f := by
      refine Classical.byContradiction fun hn => hv fun cl f h1 h2 => hn ⟨cl, f, h1, h2⟩
    obtain ⟨ce, ⟨xs⟩, ts⟩ := cl
    have hc : ce = .value f := hc
    subst hc
    rw [ho] at h hE
    simp only [aexec, amCall] at h
    unfold amVal at h
    split at h
    · rename_i g first captured l hf hl
      have h1 := hE f (by simp [Op.operands, Call.operands]) _ hf
      have h2 := aOps_sound (a := a) (m := m) _ _ (fun x hx => hE x (by simp [Op.operands, Call.operands, hx])) hl
      obtain ⟨us, vs, e1, e2, e3⟩ := h1.fn_inv
      have hargs : (us ++ xs.map a.eval ++ vs).toArray = us.toArray ++ (xs.map a.eval).toArray ++ vs.toArray := by simp
      obtain ⟨_, ⟨⟨fn, hfn, hbody, hname⟩, h3⟩ | h3⟩ := hrf _ _ _ _ _ h
      rotate_left
      · obtain ⟨v, w', m', k0, k1, k2, k3⟩ := h3 m w _ ((e2.append h2).append e3) hR
        refine wpIn_value hF hd (r := v) (w' := w') ?_ (hK m' v w' k1 k2 k3)
        simp only [execOp, ho, resolve, e1, Deferred.ofValue, Sem.run_bind, Sem.run_pure, Result.andThen_ok, invoke]
        rw [hargs] at k0
        simpa using k0
      refine wpIn_enter hF hd (f := g) (args := (us ++ xs.map a.eval ++ vs).toArray) (w' := w) ?_ ?_
      · simp only [execOp, ho, resolve, e1, Deferred.ofValue, Sem.run_bind, Sem.run_pure, Result.andThen_ok, invoke]
        rw [run_enter hfn hbody hname]
        simp
      · refine (h3 F m w _ hF hG hfr ((e2.append h2).append e3) hR).mono fun e w'' he => ?_
        obtain ⟨v, m', rfl, k1, k2, k3⟩ := he
        exact ⟨v, rfl, hK m' v w'' k1 k2 k3⟩
    · rename_i q l hf hl
      have h1 := hE f (by simp [Op.operands, Call.operands]) _ hf
      have h2 := aOps_sound (a := a) (m := m) _ _ (fun x hx => hE x (by simp [Op.operands, Call.operands, hx])) hl
      generalize hev : a.eval f = fv at h1
      cases h1 with
      | @yld _ blk δ hm =>
      obtain ⟨_, h3⟩ := hrr _ _ _ _ _ h
      obtain ⟨g, tmps, assign, body, k1, k2⟩ := h3 F m w _ blk δ hF hG hfr h2 hR hm
      refine wpIn_round hF hd (l := blk) (f := g) (tmps := tmps) (assign := assign) (body := body) (w' := w) ?_ ?_
      · simp only [execOp, ho, resolve, hev, Deferred.ofValue, Sem.run_bind, Sem.run_pure, Result.andThen_ok, invoke]
        simpa using k1
      · refine k2.mono fun e w'' he => ?_
        obtain ⟨v, m', rfl, k1, k2, k3⟩ := he
        exact ⟨v, rfl, hK m' v w'' k1 k2 k3⟩
    · cases h
end
end Go.Proofs.YtknmbmdeilbdkaaGreatDoor.Ev
