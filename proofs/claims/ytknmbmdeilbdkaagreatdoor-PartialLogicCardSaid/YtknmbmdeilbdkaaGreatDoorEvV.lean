/- Loops over functions, rounds, calls. -/
import Derived.Test.YtknmbmdeilbdkaaGreatDoorEvU
import Derived.RangeFuncRecord
namespace Go.Proofs.YtknmbmdeilbdkaaGreatDoor.Ev
open Go
section
variable {P : Program} {G N : Nat} {m : Ren} {w : World} {H : Tr AB}

theorem afunc_eq {f : Nat} {fn : Func} (h : afunc P f = some fn) : P.funcs[f]? = some fn ∧ (fn.name == noGo) = false := by
  unfold afunc at h
  split at h
  · cases h
  · rename_i fn' hf
    rw [nth_eq] at hf
    split at h
    · cases h
    · rename_i hn
      cases h
      exact ⟨by simpa using hf, hn⟩
theorem hasBody_eq {f : Nat} (h : hasBody P f = true) : ∃ fn, P.funcs[f]? = some fn ∧ fn.body.isSome = true ∧ (fn.name == noGo) = false := by
  unfold hasBody at h
  split at h
  · rename_i fn hf
    obtain ⟨h1, h2⟩ := afunc_eq hf
    exact ⟨fn, h1, h, h2⟩
  · cases h
/-- A function with a body is entered. -/
theorem SoundF.enters {rf : CallF} (hrf : SoundF P G rf) {f : Nat} {args : List AV} {c : Nat} {r : MR} (h : rf f args H c = some r) (hb : hasBody P f = true) {F : Fence} {us : List Value} (hF : FOk F) (hG : Glob m G) (hfr : Fresh m c r.c) (hl : LR m args us) (hR : Rel m H.get w) :
    (∀ w, (callFunc f us.toArray).run P w = .ok (.enter f us.toArray) w) ∧ CallsIn F 0 P f us.toArray w (FQ m H w c r) := by
  obtain ⟨fn, h1, h2, h3⟩ := hasBody_eq hb
  refine ⟨fun w => run_enter h1 h2 h3 _ w, ?_⟩
  obtain ⟨_, ⟨_, h4⟩ | h4⟩ := hrf _ _ _ _ _ h
  · exact h4 F m w us hF hG hfr hl hR
  · obtain ⟨v, w', m', e, _⟩ := h4 m w us hl hR
    rw [run_enter h1 h2 h3] at e
    cases e
theorem setParams_sound : ∀ {ps : List Nat} {vs : List AV} {T T' : Tr AV} {us : List Value} {tmps : Array Value}, setParams N T ps vs = some T' → TR m T N tmps → LR m vs us → us.length = ps.length ∧ TR m T' N ((ps.zip us).foldl (fun t (p, v) => t.setIfInBounds p v) tmps)
  | [], [], T, T', us, tmps, h, hT, hl => by
    cases h
    rw [hl.nil_inv]
    exact ⟨rfl, hT⟩
  | p :: ps, v :: vs, T, T', us, tmps, h, hT, hl => by
    obtain ⟨u, us', rfl, hv, hl⟩ := hl.cons_inv
    simp only [setParams] at h
    split at h
    · cases h
    · rename_i T1 h1
      unfold aput at h1
      simp only at h1
      split at h1
      · rename_i hp
        have hp : p < N := by simpa [Nat.blt_eq] using hp
        cases h1
        obtain ⟨k1, k2⟩ := setParams_sound h (hT.set hp hv) hl
        exact ⟨by simp [k1], k2⟩
      · cases h1
  | [], _ :: _, _, _, _, _, h, _, _ => by cases h
  | _ :: _, [], _, _, _, _, h, _, _ => by cases h
theorem Rel.loop (hR : Rel m H.get w) {q blk δ : Nat} {s : LoopState} {T : Tr AV} {N : Nat} {ps : List Nat} {assign body : Code} {pd : Option Code} (hq : H.get q = some (.loop s T N ps assign body pd)) (hm : m q = some (blk, δ)) :
    ∃ f tmps defers, w.heap[blk]? = some (.loop { state := s, pending := pd, fn := f, tmps, params := ps.toArray, assign, body, defers }) ∧ TR m T N tmps := by
  obtain ⟨k, d, o, g1, g2, g3⟩ := hR.blk q _ hq
  rw [hm] at g1; cases g1
  obtain ⟨f, tmps, defers, rfl, h⟩ := g3
  exact ⟨f, tmps, defers, g2, h⟩
/-- A loop's record is turned. -/
theorem loop_mod (hR : Rel m H.get w) {q blk δ : Nat} {s s' : LoopState} {T : Tr AV} {N : Nat} {ps : List Nat} {assign body : Code} {pd pd' : Option Code} (hq : H.get q = some (.loop s T N ps assign body pd)) (hm : m q = some (blk, δ)) {f : FuncId} {tmps : Array Value} {defers : Nat}
    (hw : w.heap[blk]? = some (.loop { state := s, pending := pd, fn := f, tmps, params := ps.toArray, assign, body, defers })) (hT : TR m T N tmps) (c : Nat) :
    Rel m (H.set q (.loop s' T N ps assign body pd')).get (w.putObj blk (.loop { state := s', pending := pd', fn := f, tmps, params := ps.toArray, assign, body, defers })) ∧
      Fr m H.get w m (H.set q (.loop s' T N ps assign body pd')).get (w.putObj blk (.loop { state := s', pending := pd', fn := f, tmps, params := ps.toArray, assign, body, defers })) c c :=
  mod_sound (y := .loop s' T N ps assign body pd') (o := .loop { state := s', pending := pd', fn := f, tmps, params := ps.toArray, assign, body, defers }) hR hq rfl hm (World.putObj_heap_same (Array.getElem?_eq_some_iff.1 hw).1) ⟨f, tmps, defers, rfl, hT⟩ (fun k hk => World.putObj_heap_other hk) World.putObj_size rfl rfl rfl c

theorem range_sound {rc : CodeF} {rf : CallF} (hrc : SoundC P G rc) (hrf : SoundF P G rf) {rd : Bool} {f : Operand} {ps : Array Nat} {assign body : Code} {st st' : St} {x : AX} (h : cRange P G rc rf rd f ps.toList assign body N st = some (x, st')) : Walk P G rd (.rangeFunc f ps assign body) N st x st' := by
  unfold cRange at h
  split at h
  · cases h
  · split at h
    · rename_i g first captured hf
      split at h
      · cases h
      · rename_i hb
        split at h
        · cases h
        · rename_i v0 H' c' hcall
          have hle : st.c + 2 ≤ c' := (hrf _ _ _ _ _ hcall).1
          -- what is common to both ways
          have key : ∀ (F : Fence) (m : Ren) (a : Act) (w : World) (Q : Exit → Act → World → Prop), FOk F → F.round = none → Glob m G → Fresh m st.c c' → SR N m st a w →
              (∀ (m2 : Ren) (w2 : World) (a2 : Act), Rel m2 H'.get w2 → Fr m st.H.get w m2 H'.get w2 st.c c' → a2.tmps = a.tmps → MkR m2 (st.c :: st.ms) a2.defers → TR m2 st.T N a2.tmps → m2 (st.c + 1) = some (w.heap.size + 1, 0) →
                ∃ jump w4, (Instr.endLoop (w.heap.size + 1)).run P w2 = .ok jump w4 ∧ (match jump with | none => Q .normal a2 w4 | some c => c.wpIn F 0 P Q a2 w4)) → (Code.rangeFunc f ps assign body).wpIn F 0 P Q a w := by
            intro F m a w Q hF hrd hG hfr hS hend
            have hfv := aOp_sound hS.T hG hf
            obtain ⟨us, vs, e1, e2, e3⟩ := hfv.fn_inv
            refine wpIn_rangeFunc fun fn hfn => ?_
            rw [hrd]
            have hc0 : m st.c = none := hfr _ (Nat.le_refl _) (by omega)
            obtain ⟨A1, A2⟩ := new_sound (H := st.H) hS.H hc0 (x := .defs) rfl (o := .deferred (some [])) (δ := 0) (w' := w.alloc (.deferred (some []))) rfl (heap_alloc_new w _) (fun k hk => heap_alloc_old w _ hk) (by simp) rfl rfl rfl
            have hc1 : (m.put st.c w.heap.size 0) (st.c + 1) = none := by
              have := hfr (st.c + 1) (by omega) (by omega)
              simp [Ren.put, this]
            have hsz : (w.alloc (.deferred (some []))).heap.size = w.heap.size + 1 := World.size_alloc _ _
            obtain ⟨B1, B2⟩ := new_sound (H := st.H.set st.c .defs) A1 hc1 (x := .loop .ready st.T N ps.toList assign body none) rfl (o := .loop { state := .ready, pending := none, fn, tmps := a.tmps, params := ps, assign, body, defers := w.heap.size }) (δ := 0)
              (w' := (w.alloc (.deferred (some []))).alloc (.loop { state := .ready, pending := none, fn, tmps := a.tmps, params := ps, assign, body, defers := w.heap.size }))
              ⟨fn, a.tmps, w.heap.size, by simp, hS.T.mono (fun i p hi => Ren.le_put hc1 i p (Ren.le_put hc0 i p hi))⟩ (heap_alloc_new _ _) (fun k hk => heap_alloc_old _ _ hk) (by simp) rfl rfl rfl
            rw [hsz] at B1 B2
            have hfr1 : Fr m st.H.get w ((m.put st.c w.heap.size 0).put (st.c + 1) (w.heap.size + 1) 0) ((st.H.set st.c .defs).set (st.c + 1) (.loop .ready st.T N ps.toList assign body none)).get
              ((w.alloc (.deferred (some []))).alloc (.loop { state := .ready, pending := none, fn, tmps := a.tmps, params := ps, assign, body, defers := w.heap.size })) st.c (st.c + 2) := A2.trans B2 (by omega) (by omega)
            have hq1 : ((m.put st.c w.heap.size 0).put (st.c + 1) (w.heap.size + 1) 0) (st.c + 1) = some (w.heap.size + 1, 0) := put_self _ _ _ _
            have hq0 : ((m.put st.c w.heap.size 0).put (st.c + 1) (w.heap.size + 1) 0) st.c = some (w.heap.size, 0) := Ren.le_put hc1 _ _ (put_self _ _ _ _)
            have hargs : LR ((m.put st.c w.heap.size 0).put (st.c + 1) (w.heap.size + 1) 0) (first ++ (.yld (st.c + 1) :: captured)) (us ++ (.func (.yield (w.heap.size + 1)) #[] #[] :: vs)) :=
              (e2.mono hfr1.le).append (LR.cons (.yld hq1) (e3.mono hfr1.le))
            obtain ⟨K1, K2⟩ := hrf.enters hcall hb (F := F) hF (hfr1.glob hG) (hfr1.fresh hfr (by omega)) hargs B1
            refine ⟨w.heap.size + 1, [{ target := .collected w.heap.size, args := #[] }], (w.alloc (.deferred (some []))).alloc (.loop { state := .ready, pending := none, fn, tmps := a.tmps, params := ps, assign, body, defers := w.heap.size }), { target := .fn (.func g) vs.toArray, args := us.toArray ++ #[.func (.yield (w.heap.size + 1)) #[] #[]] },
              (w.alloc (.deferred (some []))).alloc (.loop { state := .ready, pending := none, fn, tmps := a.tmps, params := ps, assign, body, defers := w.heap.size }), g, (us ++ (Value.func (.yield (w.heap.size + 1)) #[] #[] :: vs)).toArray, (w.alloc (.deferred (some []))).alloc (.loop { state := .ready, pending := none, fn, tmps := a.tmps, params := ps, assign, body, defers := w.heap.size }), run_enterLoop_outer _ _ _ _ _, ?_, fun f' _ => hF.fn f', ?_, fun hs => (by rw [hF.depth] at hs; simp at hs), K2.mono ?_⟩
            · simp only [resolve, rangeCall, e1, Deferred.ofValue, Sem.run_pure, List.map_toArray, List.map_cons, List.map_nil]
              rfl
            · simp only [invoke]
              have e : us.toArray ++ #[Value.func (.yield (w.heap.size + 1)) #[] #[]] ++ vs.toArray = (us ++ (Value.func (.yield (w.heap.size + 1)) #[] #[] :: vs)).toArray := by simp
              rw [e, K1]
            · rintro e w2 ⟨v, m2, rfl, hv, hR2, hF2⟩
              exact hend m2 w2 _ hR2 (hfr1.trans hF2 (by omega) hle) rfl ⟨⟨w.heap.size, 0, hF2.le _ _ hq0, rfl⟩, (hS.ms.mono hfr1.le).mono hF2.le⟩ ((hS.T.mono hfr1.le).mono hF2.le) (hF2.le _ _ hq1)
          split at h
          · rename_i T' N' ps' as' bd' hq
            cases h
            refine ⟨by show st.c ≤ c'; omega, fun F m a w hF hrd hG hfr hS => key F m a w _ hF (hrd rfl) hG hfr hS fun m2 w2 a2 hR2 hF2 ht hms hT2 hm2 => ?_⟩
            obtain ⟨fn', tmps', defers', hw2, hT'⟩ := hR2.loop hq hm2
            obtain ⟨L1, L2⟩ := loop_mod (s' := .exhausted) (pd' := none) hR2 hq hm2 hw2 hT' c'
            refine ⟨none, _, run_endLoop hw2 (by simp), rfl, m2, ⟨hT2, L1, hms⟩, hF2.trans L2 (by omega) (Nat.le_refl _)⟩
          · rename_i T' N' ps' as' bd' j hq
            obtain ⟨k1, k2⟩ := hrc _ _ _ _ _ _ h
            have k1 : c' ≤ st'.c := k1
            refine ⟨by omega, fun F m a w hF hrd hG hfr hS => key F m a w _ hF (hrd rfl) hG (hfr.sub (Nat.le_refl _) k1) hS fun m2 w2 a2 hR2 hF2 ht hms hT2 hm2 => ?_⟩
            obtain ⟨fn', tmps', defers', hw2, hT'⟩ := hR2.loop hq hm2
            obtain ⟨L1, L2⟩ := loop_mod (s' := .exhausted) (pd' := some j) hR2 hq hm2 hw2 hT' c'
            have hF3 := hF2.trans L2 (by omega) (Nat.le_refl _)
            refine ⟨some j, _, run_endLoop hw2 (by simp), wpIn_mono (k2 F m2 a2 _ hF (fun _ => hrd rfl) (hF3.glob hG) (hF3.fresh hfr (by omega)) ⟨hT2, L1, hms⟩) fun e a' w' hq => CQ.trans (st1 := ⟨st.T, _, c', st.c :: st.ms⟩) hF3 (by show st.c ≤ c'; omega) k1 hq⟩
          · cases h
    · cases h
end
end Go.Proofs.YtknmbmdeilbdkaaGreatDoor.Ev
