/- Calls and rounds. -/
import Derived.Test.YtknmbmdeilbdkaaGreatDoorEvV
import Derived.Laws.Externs
namespace Go.Proofs.YtknmbmdeilbdkaaGreatDoor.Ev
open Go
section
variable {P : Program} {G N : Nat} {m : Ren} {w : World} {H : Tr AB}

theorem unmark_sound {F : Fence} {fn : Func} {tmps : Array Value} {R : Ending → World → Prop} (c : Nat) : ∀ (qs : List Nat) (ds : List Deferred) (H H' : Tr AB) (w : World), unmark H qs = some H' → MkR m qs ds → Rel m H.get w →
    (∀ w', Rel m H'.get w' → Fr m H.get w m H'.get w' c c → LeavesInM F 0 P fn tmps R [] .returning w') → LeavesInM F 0 P fn tmps R ds .returning w
  | [], [], H, H', w, h, _, hR, hK => by
    cases h
    exact hK w hR (Fr.refl fun _ _ h => h)
  | q :: qs, d :: ds, H, H', w, h, hM, hR, hK => by
    obtain ⟨⟨r, δ, hm, rfl⟩, hM⟩ := hM
    simp only [unmark] at h
    split at h
    · rename_i hq
      obtain ⟨k, d, o, g1, g2, g3⟩ := hR.blk q _ hq
      rw [hm] at g1; cases g1
      have g3 : o = .deferred (some []) := g3
      subst g3
      obtain ⟨k1, k2⟩ := del_sound (w' := w.putObj r (.deferred none)) hR hq rfl hm (fun k hk => World.putObj_heap_other hk) World.putObj_size rfl rfl rfl c
      exact ⟨by simp, Or.inl ⟨r, _, rfl, run_takeDeferred g2, unmark_sound c qs ds _ H' _ h hM k1 fun w' h1 h2 => hK w' h1 (k2.trans h2 (Nat.le_refl _) (Nat.le_refl _))⟩⟩
    · cases h
  | [], _ :: _, _, _, _, _, hM, _, _ => hM.elim
  | _ :: _, [], _, _, _, _, hM, _, _ => hM.elim
def resF (tmps : Array Value) (r : ResultVar) : Sem Value := match r with
  | .tmp t => pure (tmps.getD t undef)
  | .cell a t => do loadVar t (← asAddr (tmps.getD a undef))
theorem results_eq (fn : Func) (tmps : Array Value) : results fn tmps = (do
    let vs ← fn.results.mapM (resF tmps)
    pure (if h : vs.size = 1 then vs[0] else .tuple vs)) := rfl
theorem aresult_sound (hR : Rel m H.get w) {T : Tr AV} {tmps : Array Value} (hT : TR m T N tmps) : ∀ (rs : List ResultVar) (l : List AV), aresult P T H rs = some l →
    ∃ us : List Value, LR m l us ∧ (rs.mapM (resF tmps)).run P w = .ok us w
  | [], l, h => by
    cases h
    exact ⟨[], LR.nil, rfl⟩
  | .tmp t :: rs, l, h => by
    simp only [aresult] at h
    split at h
    · rename_i v l' hv hl
      cases h
      obtain ⟨us, h1, h2⟩ := aresult_sound hR hT rs l' hl
      obtain ⟨u, h3, h4⟩ := hT.2 t v hv
      refine ⟨u :: us, LR.cons h4 h1, ?_⟩
      have h5 : (resF tmps (.tmp t)).run P w = .ok u w := by simp [resF, h3]
      simp only [List.mapM_cons, Sem.run_bind, h5, Result.andThen_ok, h2, Sem.run_pure]
    · cases h
  | .cell a t :: rs, l, h => by
    simp only [aresult] at h
    split at h
    · cases h
    · rename_i p hp
      split at h
      · rename_i v l' hv hl
        cases h
        obtain ⟨us, h1, h2⟩ := aresult_sound hR hT rs l' hl
        obtain ⟨u, h3, h4⟩ := hT.2 a p hp
        obtain ⟨r, h5, h6⟩ := aload_sound (P := P) hR hv h4
        refine ⟨r :: us, LR.cons h5 h1, ?_⟩
        have h7 : ∃ ad, u = .pointer (some ad) := by
          unfold aload at hv
          split at hv
          · cases h4; exact ⟨_, rfl⟩
          · cases hv
        obtain ⟨ad, rfl⟩ := h7
        simp only [Instr.loadAt, Instr.sureAddr, Sem.run_bind, Sem.run_pure, Result.andThen_ok] at h6
        have h8 : (resF tmps (.cell a t)).run P w = .ok r w := by simp [resF, h3, asAddr, h6]
        simp only [List.mapM_cons, Sem.run_bind, h8, Result.andThen_ok, h2, Sem.run_pure]
      · cases h
theorem aresults_sound (hR : Rel m H.get w) {T : Tr AV} {tmps : Array Value} (hT : TR m T N tmps) {fn : Func} {v : AV} (h : aresults P fn T H = some v) : ∃ u, (results fn tmps).run P w = .ok u w ∧ VR m v u := by
  unfold aresults at h
  split at h
  · cases h
  · rename_i v' hl
    cases h
    obtain ⟨us, h1, h2⟩ := aresult_sound (N := N) hR hT _ _ hl
    obtain ⟨u, us', rfl, h3, h4⟩ := h1.cons_inv
    rw [h4.nil_inv] at h2
    refine ⟨u, ?_, h3⟩
    rw [results_eq, Array.mapM_eq_mapM_toList]
    simp only [Sem.run_bind, Sem.run_map, h2, Result.andThen_ok, Sem.run_pure]
    rfl
  · rename_i l hn hl
    cases h
    obtain ⟨us, h1, h2⟩ := aresult_sound (N := N) hR hT _ _ hl
    refine ⟨.tuple us.toArray, ?_, VR.tup' h1⟩
    rw [results_eq, Array.mapM_eq_mapM_toList]
    have hne : ¬ us.toArray.size = 1 := fun e => by
      have e : l.length = 1 := by rw [h1.1]; simpa using e
      match l, e with
      | [v], _ => exact hn v rfl
    simp only [Sem.run_bind, Sem.run_map, h2, Result.andThen_ok, Sem.run_pure]
    rw [dif_neg hne]
theorem find_noEscape {fn : Func} (h : fn.name = "internal/abi.NoEscape") : Extern.find fn = some Extern.AbiNoEscape.same := by
  unfold Extern.find
  simp only [h]
  rfl
theorem next_noEscape {fn : Func} (h : fn.name = "internal/abi.NoEscape") (h2 : fn.origin = "") : Extern.findNext fn = none := by
  unfold Extern.findNext
  simp only [h, h2]
  rfl
theorem find_indexByte {fn : Func} (h : fn.name = "internal/bytealg.IndexByteString") : Extern.find fn = some Extern.BytealgIndexByte.indexByte := by
  unfold Extern.find
  simp only [h]
  rfl
theorem next_indexByte {fn : Func} (h : fn.name = "internal/bytealg.IndexByteString") (h2 : fn.origin = "") : Extern.findNext fn = none := by
  unfold Extern.findNext
  simp only [h, h2]
  rfl
theorem find_aidx {s : ByteArray} {b : Nat} (hb : b < 256) : ∀ (n code i : Nat), (∀ j, j < n → s[i + j]! = UInt8.ofNat (code / 256 ^ j % 256)) → (match (List.range' i n).find? (fun i => s[i]! == UInt8.ofNat b) with
    | some i => (i : Int)
    | none => -1) = aidx n code b i
  | 0, code, i, _ => rfl
  | n + 1, code, i, h => by
    have h0 := h 0 (by omega)
    simp only [Nat.add_zero, Nat.pow_zero, Nat.div_one] at h0
    have ih := find_aidx (s := s) hb n (code / 256) (i + 1) fun j hj => by
      have := h (j + 1) (by omega)
      rw [show i + 1 + j = i + (j + 1) by omega, this, Nat.pow_succ', Nat.div_div_eq_div_mul]
    rw [List.range'_succ, List.find?_cons, h0]
    simp only [aidx]
    cases hq : Nat.beq (code % 256) b with
    | true =>
      have hq := Nat.eq_of_beq_eq_true hq
      rw [hq]
      simp
    | false =>
      have hq := Nat.ne_of_beq_eq_false hq
      have : (UInt8.ofNat (code % 256) == UInt8.ofNat b) = false := by
        rw [beq_eq_false_iff_ne]
        intro e
        have := congrArg UInt8.toNat e
        simp at this
        omega
      rw [this]
      exact ih
theorem firstIdx_dec {len code b : Nat} (hb : b < 256) : firstIdx (dec len code) ((b : Int).toNat.toUInt8) = aidx len code b 0 := by
  have h := find_aidx (s := dec len code) hb len code 0 fun j hj => by
    have h1 := decL_get len code j
    rw [if_pos hj] at h1
    obtain ⟨h2, h3⟩ := List.getElem?_eq_some_iff.1 h1
    rw [Nat.zero_add, getElem!_pos (dec len code) j (by rw [dec_size]; exact hj)]
    rw [← h3]
    rfl
  unfold firstIdx
  rw [dec_size, List.range_eq_range']
  exact h
theorem aext2_sound {fn : Func} {f : Nat} {args : List AV} {c : Nat} {r : MR} (h : aext2 fn args H c = some r) (hf : P.funcs[f]? = some fn) (hb : fn.body = none) (hn : (fn.name == noGo) = false) : c ≤ r.c ∧
    ∀ (m : Ren) (w : World) (us : List Value), LR m args us → Rel m H.get w → ∃ v w' m', (callFunc f us.toArray).run P w = .ok (.value v) w' ∧ VR m' r.v v ∧ Rel m' r.H.get w' ∧ Fr m H.get w m' r.H.get w' c r.c := by
  unfold aext2 at h
  split at h
  · rename_i len code b hx
    split at h
    · rename_i hlt
      have hlt : b < 256 := by simpa [Nat.blt_eq] using hlt
      obtain ⟨v, hv, rfl⟩ := mkM_inv h
      rw [mkI_eq] at hv
      cases hv
      refine ⟨Nat.le_refl _, fun m w us hl hR => ?_⟩
      obtain ⟨u1, us', rfl, h1, h2⟩ := hl.cons_inv
      obtain ⟨u2, us'', rfl, h3, h4⟩ := h2.cons_inv
      rw [h4.nil_inv]
      rw [Bool.and_eq_true, beq_iff_eq, beq_iff_eq] at hx
      obtain ⟨rfl, _⟩ := h1.str_inv
      cases h3
      refine ⟨.int .i64 (aidx len code b 0), w, m, ?_, .int _ _, hR, Fr.refl fun _ _ h => h⟩
      rw [run_callFunc_extern hf hn (by rw [hb]; rfl) (next_indexByte hx.1 hx.2) (find_indexByte hx.1)]
      have := run_indexByte_string (P := P) (dec len code) (Int.ofNat b) w
      rw [show (Int.ofNat b).toNat.toUInt8 = ((b : Int)).toNat.toUInt8 from rfl, firstIdx_dec hlt] at this
      rw [this]
      rfl
    · cases h
  · cases h
/-- A function without a body. -/
theorem aext_sound {fn : Func} {f : Nat} {args : List AV} {c : Nat} {r : MR} (h : aext fn args H c = some r) (hf : P.funcs[f]? = some fn) (hb : fn.body = none) (hn : (fn.name == noGo) = false) : c ≤ r.c ∧
    ∀ (m : Ren) (w : World) (us : List Value), LR m args us → Rel m H.get w → ∃ v w' m', (callFunc f us.toArray).run P w = .ok (.value v) w' ∧ VR m' r.v v ∧ Rel m' r.H.get w' ∧ Fr m H.get w m' r.H.get w' c r.c := by
  unfold aext at h
  split at h
  · rename_i x hx
    obtain ⟨v, hv, rfl⟩ := mkM_inv h
    cases hv
    refine ⟨Nat.le_refl _, fun m w us hl hR => ?_⟩
    obtain ⟨u, us', rfl, h1, h2⟩ := hl.cons_inv
    rw [h2.nil_inv]
    rw [Bool.and_eq_true, beq_iff_eq, beq_iff_eq] at hx
    refine ⟨u, w, m, ?_, h1, hR, Fr.refl fun _ _ h => h⟩
    rw [run_callFunc_extern hf hn (by rw [hb]; rfl) (next_noEscape hx.1 hx.2) (find_noEscape hx.1)]
    rfl
  · exact aext2_sound h hf hb hn
theorem callF_sound {rc : CodeF} (hrc : SoundC P G rc) : SoundF P G (callF P rc) := by
  intro f args H c r h
  unfold callF at h
  split at h
  · cases h
  · rename_i fn hfn
    obtain ⟨hf, hname⟩ := afunc_eq hfn
    split at h
    · rename_i code hb hlen
      have hlen := Nat.le_of_ble_eq_true hlen
      have key : ∀ (x : AX) (st : St), (x = .norm ∨ x = .ret) → rc false code fn.ntmps ⟨setC .e 0 args, H, c, []⟩ = some (x, st) → cLeave P fn st = some r → c ≤ r.c ∧
          ((∃ fn, P.funcs[f]? = some fn ∧ fn.body.isSome = true ∧ (fn.name == noGo) = false) ∧ ∀ (F : Fence) (m : Ren) (w : World) (us : List Value), FOk F → Glob m G → Fresh m c r.c → LR m args us → Rel m H.get w → CallsIn F 0 P f us.toArray w (FQ m H w c r)) := by
        intro x st hx hrun hleave
        obtain ⟨k1, k2⟩ := hrc _ _ _ _ _ _ hrun
        unfold cLeave at hleave
        split at hleave
        · cases hleave
        · rename_i H' hun
          obtain ⟨v, hv, rfl⟩ := mkM_inv hleave
          refine ⟨k1, ⟨fn, hf, by rw [hb]; rfl, hname⟩, fun F m w us hF hG hfr hl hR => ?_⟩
          obtain ⟨Ffn, Fd, Fa, Fr0⟩ := F
          show CallsIn { fn := Ffn, depth := Fd, alive := Fa, round := none } 0 P f us.toArray w _
          have hF' : FOk { fn := Ffn, depth := Fd, alive := Fa, round := none } := ⟨hF.fn, hF.depth⟩
          refine callsIn_of_wp_marks hf hb (hF.fn f) ?_ rfl
          have hT : TR m (setC .e 0 args) fn.ntmps (us.toArray ++ Array.replicate (fn.ntmps - us.toArray.size) undef) := by
            refine ⟨by have := hl.1; simp; omega, fun t a ht => ?_⟩
            rcases setC_spec ht with ⟨_, q2⟩ | ⟨_, q2⟩
            · simp only [Nat.sub_zero] at q2
              obtain ⟨u, h1, h2⟩ := hl.get q2
              refine ⟨u, ?_, h2⟩
              rw [Array.getElem?_append_left (by simpa using (List.getElem?_eq_some_iff.1 h1).1)]
              simpa using h1
            · simp [Tr.get_e] at q2
          refine wpIn_mono (k2 _ m _ w hF' (fun _ => rfl) hG hfr ⟨hT, hR, trivial⟩) ?_
          rintro e a1 w1 ⟨rfl, m1, hS1, hf1⟩
          have fin : LeavesInM { fn := Ffn, depth := Fd, alive := Fa, round := none } 0 P fn a1.tmps (FQ m H w c ⟨v, H', st.c⟩) a1.defers .returning w1 := by
            refine unmark_sound st.c _ _ _ _ w1 hun hS1.ms hS1.H fun w2 h3 h4 => ?_
            obtain ⟨u, h5, h6⟩ := aresults_sound h3 hS1.T hv
            exact ⟨u, h5, u, m1, rfl, h6, h3, hf1.trans h4 k1 (Nat.le_refl _)⟩
          rcases hx with rfl | rfl
          · exact fin
          · exact fin
      split at h
      · rename_i st hrun
        obtain ⟨h1, h2⟩ := key _ st (Or.inl rfl) hrun h
        exact ⟨h1, Or.inl h2⟩
      · rename_i st hrun
        obtain ⟨h1, h2⟩ := key _ st (Or.inr rfl) hrun h
        exact ⟨h1, Or.inl h2⟩
      · cases h
    · rename_i hb
      obtain ⟨h1, h2⟩ := aext_sound h hf hb hname
      exact ⟨h1, Or.inr h2⟩
    · cases h
end
end Go.Proofs.YtknmbmdeilbdkaaGreatDoor.Ev
