/- Reading, writing and laying blocks. -/
import Derived.Test.YtknmbmdeilbdkaaGreatDoorEvJ
import Derived.Laws.IdiomCopy
import Derived.Laws.Cells
namespace Go.Proofs.YtknmbmdeilbdkaaGreatDoor.Ev
open Go
section
variable {P : Program} {m : Ren} {w : World}

theorem getC_sound {cells : Tr AV} {C : Array Value} {n : Nat} (hc : ∀ i a, cells.get i = some a → i < n ∧ ∃ v, C[i]? = some v ∧ VR m a v) :
    ∀ (k off : Nat) (l : List AV), getC cells off k = some l → ∃ vs : List Value, LR m l vs ∧ vs.length = k ∧ (k = 0 ∨ off + k ≤ n) ∧ ∀ j v, vs[j]? = some v → C[off + j]? = some v
  | 0, off, l, h => by cases h; exact ⟨[], LR.nil, rfl, Or.inl rfl, fun j v hj => by simp at hj⟩
  | k + 1, off, l, h => by
    rw [getC_succ] at h
    split at h
    · cases h
    · rename_i a ha
      split at h
      · cases h
      · rename_i l' hl
        cases h
        obtain ⟨h1, v, h2, h3⟩ := hc off a ha
        obtain ⟨vs, h4, h5, h6, h7⟩ := getC_sound hc k (off + 1) l' hl
        refine ⟨v :: vs, LR.cons h3 h4, by simp [h5], Or.inr (by omega), fun j u hj => ?_⟩
        cases j with
        | zero => simp at hj; rw [← hj]; exact h2
        | succ j =>
          have := h7 j u (by simpa using hj)
          rwa [show off + (j + 1) = off + 1 + j by omega]
theorem setC_spec : ∀ {l : List AV} {cells : Tr AV} {off i : Nat} {a : AV}, (setC cells off l).get i = some a →
    (off ≤ i ∧ l[i - off]? = some a) ∨ (¬ (off ≤ i ∧ i < off + l.length) ∧ cells.get i = some a)
  | [], cells, off, i, a, hi => Or.inr ⟨by simp only [List.length_nil, Nat.add_zero]; omega, hi⟩
  | b :: l, cells, off, i, a, hi => by
    rw [setC_cons] at hi
    rcases setC_spec hi with ⟨h1, h2⟩ | ⟨h1, h2⟩
    · refine Or.inl ⟨by omega, ?_⟩
      rw [show i - off = (i - (off + 1)) + 1 by omega, List.getElem?_cons_succ]
      exact h2
    · rcases Tr.get_set h2 with ⟨rfl, rfl⟩ | ⟨h3, h4⟩
      · exact Or.inl ⟨Nat.le_refl _, by simp⟩
      · refine Or.inr ⟨?_, h4⟩
        simp only [List.length_cons]
        omega

/-- Where a known row lies. -/
theorem Rel.row {H : Nat → Option AB} (h : Rel m H w) {b ty sz n : Nat} {cells : Tr AV} {opn ro : Bool} {fz : Nat} (hb : H b = some (.row ty sz n cells opn ro fz)) {blk δ : Nat} (hm : m b = some (blk, δ)) :
    ∃ C fr, w.heap[blk]? = some (.cells C ty fr) ∧ C.size = n + δ * sz ∧ (opn = false → δ = 0) ∧ (∀ i, fz ≤ i → i < C.size → ¬ (fr.1 ≤ i ∧ i < fr.2)) ∧ ∀ i a, cells.get i = some a → i < n ∧ ∃ v, C[i]? = some v ∧ VR m a v := by
  obtain ⟨k, δ', o, h1, h2, C, fr, rfl, h4⟩ := h.blk b _ hb
  rw [hm] at h1
  cases h1
  exact ⟨C, fr, h2, h4⟩
theorem cell_at {blk i : Nat} {C : Array Value} {ty : TypeId} {fr : Nat × Nat} (h : w.heap[blk]? = some (.cells C ty fr)) : w.cell? ⟨blk, i, none⟩ = C[i]? := by
  simp [World.cell?, h]
theorem rdC_sound {H : Tr AB} (hR : Rel m H.get w) {b off n : Nat} {l : List AV} (h : rdC H b off n = some l) {blk δ : Nat} (hm : m b = some (blk, δ)) :
    ∃ vs : List Value, LR m l vs ∧ vs.length = n ∧ ∀ j v, vs[j]? = some v → w.cell? ⟨blk, off + j, none⟩ = some v := by
  unfold rdC at h
  split at h
  · rename_i hb
    obtain ⟨C, fr, h1, _, _, _, h5⟩ := hR.row hb hm
    obtain ⟨vs, h6, h7, _, h8⟩ := getC_sound h5 _ _ _ h
    exact ⟨vs, h6, h7, fun j v hj => by rw [cell_at h1]; exact h8 j v hj⟩
  · rename_i hb
    obtain ⟨k, δ', o, g1, g2, C, ty, fr, rfl, _, h5⟩ := hR.blk b _ hb
    rw [hm] at g1
    cases g1
    obtain ⟨vs, h6, h7, _, h8⟩ := getC_sound h5 _ _ _ h
    exact ⟨vs, h6, h7, fun j v hj => by rw [cell_at g2]; exact h8 j v hj⟩
  · cases h
/-- Loads. -/
theorem aload_sound {H : Tr AB} (hR : Rel m H.get w) {t : TypeId} {x v : AV} (h : aload P H t x = some v) {u : Value} (hx : VR m x u) : ∃ r, VR m v r ∧ (Instr.loadAt t u).run P w = .ok r w := by
  unfold aload at h
  split at h
  · rename_i b off
    cases hx with
    | @ptr _ _ blk δ hm =>
      split at h
      · cases h
      · rename_i ht
        split at h
        · cases h
        · rename_i s hs
          split at h
          · cases h
          · rename_i l hl
            cases h
            obtain ⟨vs, h1, h2, h3⟩ := rdC_sound hR hl hm
            refine ⟨_, VR.agg' h1, ?_⟩
            have hr := run_loadCells_list (P := P) w ⟨blk, off, none⟩ vs (fun j v hj => by rw [add_plain]; exact h3 j v hj)
            rw [h2] at hr
            simp only [Instr.loadAt, Sem.run_bind, Instr.sureAddr, Sem.run_pure, Result.andThen_ok, loadVar, run_tagg ht, if_true, run_tsize hs, hr]
      · rename_i ht
        split at h
        · rename_i a ha
          cases h
          obtain ⟨vs, h1, h2, h3⟩ := rdC_sound hR ha hm
          obtain ⟨u, us, rfl, h4, _⟩ := h1.cons_inv
          refine ⟨u, h4, ?_⟩
          have hc := h3 0 u rfl
          simp only [Nat.add_zero] at hc
          simp [Instr.loadAt, Instr.sureAddr, loadVar, run_tagg ht, hc]
        · cases h
  · cases h

/-- A block's cells behind a store. -/
theorem setCells_heap {blk : Nat} {ty : TypeId} {fr : Nat × Nat} : ∀ (vs : List Value) (o : Nat) (w : World) (C : Array Value), w.heap[blk]? = some (.cells C ty fr) → o + vs.length ≤ C.size →
    ∃ C', (w.setCells blk o vs).heap[blk]? = some (.cells C' ty fr) ∧ C'.size = C.size ∧ (∀ i, C'[i]? = if o ≤ i ∧ i < o + vs.length then vs[i - o]? else C[i]?) ∧
      (∀ k, k ≠ blk → (w.setCells blk o vs).heap[k]? = w.heap[k]?) ∧ (w.setCells blk o vs).heap.size = w.heap.size ∧ (w.setCells blk o vs).os = w.os ∧ (w.setCells blk o vs).tape = w.tape ∧ (w.setCells blk o vs).output = w.output
  | [], o, w, C, h, _ => ⟨C, h, rfl, fun i => by simp only [List.length_nil, Nat.add_zero]; rw [if_neg (by omega)], fun _ _ => rfl, rfl, rfl, rfl, rfl⟩
  | v :: vs, o, w, C, h, hl => by
    simp only [List.length_cons] at hl
    have h1 : (w.setCell ⟨blk, o, none⟩ v).heap[blk]? = some (.cells (C.setIfInBounds o v) ty fr) := by
      simp only [World.setCell, Array.getElem?_modify]
      simp [h]
    have h0 : ∀ k, k ≠ blk → (w.setCell ⟨blk, o, none⟩ v).heap[k]? = w.heap[k]? := fun k hk => by
      simp only [World.setCell, Array.getElem?_modify]
      rw [if_neg (fun e => hk e.symm)]
    obtain ⟨C', h2, h3, h4, h5, h6, h7, h8, h9⟩ := setCells_heap vs (o + 1) (w.setCell ⟨blk, o, none⟩ v) _ h1 (by simp; omega)
    refine ⟨C', h2, by simpa using h3, fun i => ?_, fun k hk => (h5 k hk).trans (h0 k hk), by rw [World.setCells, h6]; simp [World.setCell], h7, h8, h9⟩
    rw [h4 i]
    simp only [List.length_cons, Array.getElem?_setIfInBounds]
    by_cases e : i = o
    · subst e
      rw [if_neg (show ¬ (i + 1 ≤ i ∧ i < i + 1 + vs.length) by omega), if_pos rfl, if_pos (show i < C.size by omega), if_pos (show i ≤ i ∧ i < i + (vs.length + 1) by omega)]
      simp
    · by_cases e2 : o + 1 ≤ i ∧ i < o + 1 + vs.length
      · rw [if_pos e2, if_pos (show o ≤ i ∧ i < o + (vs.length + 1) by omega), show i - o = (i - (o + 1)) + 1 by omega, List.getElem?_cons_succ]
      · rw [if_neg e2, if_neg (show ¬ o = i by omega), if_neg (show ¬ (o ≤ i ∧ i < o + (vs.length + 1)) by omega)]
theorem one_cell {a : AV} {v : Value} (h : one a = true) (hv : VR m a v) : v.oneCell' = true := by
  cases hv <;> first | rfl | simp [one] at h
/-- Writes. -/
theorem wrC_sound {H H' : Tr AB} (hR : Rel m H.get w) {b off : Nat} {l : List AV} (h : wrC H b off l = some H') {blk δ : Nat} (hm : m b = some (blk, δ)) {vs : List Value} (hl : LR m l vs) (c : Nat) :
    (storeCells ⟨blk, off, none⟩ vs 0).run P w = .ok () (w.setCells blk off vs) ∧ Rel m H'.get (w.setCells blk off vs) ∧ Fr m H.get w m H'.get (w.setCells blk off vs) c c := by
  unfold wrC at h
  split at h
  · rename_i ty sz n cells opn fz hb
    split at h
    · rename_i hok
      simp only [Bool.and_eq_true, Nat.ble_eq] at hok
      obtain ⟨ho1, ho2, ho3⟩ := hok
      cases h
      · obtain ⟨C, fr, h1, h2, h3, h4, h5⟩ := hR.row hb hm
        have hfit : off + vs.length ≤ C.size := by rw [← hl.1, h2]; omega
        obtain ⟨C', k1, k2, k3, k4, k5, k6, k7, k8⟩ := setCells_heap vs off w C h1 hfit
        refine ⟨?_, ⟨fun i x hi => ?_, fun i j x y k d d' hi hj hmi hmj => ?_⟩, ⟨k6, k7, k8, by omega, fun k _ hn => ?_, fun _ _ h => h, fun _ _ h => Or.inl h, fun i x k d hi hmi => ?_, fun i x hi => ?_⟩⟩
        · have hr := run_storeCells_cells (P := P) blk off vs 0 w (fun j hj => ?_) (fun j hj => ?_) (fun v hv => ?_)
          · simpa using hr
          · rw [cell_at h1, Array.getElem?_eq_getElem (by omega)]; rfl
          · simp only [World.frozen?, h1]
            have := h4 (off + 0 + j) (by omega) (by omega)
            simp only [Bool.and_eq_false_iff, decide_eq_false_iff_not]
            omega
          · obtain ⟨i, hi⟩ := List.getElem?_of_mem hv
            have hlt : i < l.length := by rw [hl.1]; exact (List.getElem?_eq_some_iff.1 hi).1
            exact one_cell (List.all_eq_true.1 ho3 _ (List.getElem_mem hlt)) (hl.2 i _ v (List.getElem?_eq_getElem hlt) hi)
        · rcases Tr.get_set hi with ⟨rfl, rfl⟩ | ⟨hne, hi'⟩
          · refine ⟨blk, δ, _, hm, k1, C', fr, rfl, by rw [k2, h2], h3, fun q h6 h7 => h4 q h6 (by omega), fun q a hq => ?_⟩
            rcases setC_spec hq with ⟨q1, q2⟩ | ⟨q1, q2⟩
            · have hlt := (List.getElem?_eq_some_iff.1 q2).1
              refine ⟨by omega, ?_⟩
              obtain ⟨u, hu, hv⟩ := hl.get q2
              exact ⟨u, by rw [k3, if_pos ⟨q1, by rw [← hl.1]; omega⟩]; exact hu, hv⟩
            · obtain ⟨q3, u, q4, q5⟩ := h5 q a q2
              exact ⟨q3, u, by rw [k3, if_neg (by rw [← hl.1]; exact q1)]; exact q4, q5⟩
          · obtain ⟨k, d, o, g1, g2, g3⟩ := hR.blk i x hi'
            refine ⟨k, d, o, g1, ?_, g3⟩
            rw [k4 k (fun e => hne (hR.inj i b x _ k d δ hi' hb g1 (by rw [e]; exact hm)))]
            exact g2
        · have f : ∀ {i x}, (H.set b (.row ty sz n (setC cells off l) opn false fz)).get i = some x → ∃ x', H.get i = some x' := fun {i x} hi => by
            rcases Tr.get_set hi with ⟨rfl, _⟩ | ⟨_, hi'⟩
            · exact ⟨_, hb⟩
            · exact ⟨_, hi'⟩
          obtain ⟨_, hi'⟩ := f hi
          obtain ⟨_, hj'⟩ := f hj
          exact hR.inj i j _ _ k d d' hi' hj' hmi hmj
        · exact k4 k (fun e => hn b _ δ hb rfl (by rw [e]; exact hm))
        · right
          rcases Tr.get_set hi with ⟨rfl, rfl⟩ | ⟨_, hi'⟩
          · exact ⟨i, _, d, hb, hmi, fun h => h⟩
          · exact ⟨i, x, d, hi', hmi, fun h => h⟩
        · left
          rcases Tr.get_set hi with ⟨rfl, rfl⟩ | ⟨_, hi'⟩
          · exact ⟨_, hb⟩
          · exact ⟨_, hi'⟩
    · cases h
  · cases h

def Ren.put (m : Ren) (c blk δ : Nat) : Ren := fun i => if i = c then some (blk, δ) else m i
theorem Ren.le_put {c blk δ : Nat} (h : m c = none) : Ren.le m (m.put c blk δ) := fun i p hi => by
  unfold Ren.put
  rw [if_neg (fun e => by rw [e, h] at hi; cases hi)]
  exact hi
/-- A new block. -/
theorem new_sound {H : Tr AB} (hR : Rel m H.get w) {c : Nat} {x : AB} (hc : m c = none) (hx : x.ro = false) {o : Obj} {δ : Nat} {w' : World}
    (hb : BR (m.put c w.heap.size δ) x δ o) (hw : w'.heap[w.heap.size]? = some o) (hold : ∀ k, k < w.heap.size → w'.heap[k]? = w.heap[k]?) (hs : w.heap.size ≤ w'.heap.size) (h1 : w'.os = w.os) (h2 : w'.tape = w.tape) (h3 : w'.output = w.output) :
    Rel (m.put c w.heap.size δ) (H.set c x).get w' ∧ Fr m H.get w (m.put c w.heap.size δ) (H.set c x).get w' c (c + 1) := by
  have hle := Ren.le_put (blk := w.heap.size) (δ := δ) hc
  have hself : (m.put c w.heap.size δ) c = some (w.heap.size, δ) := by simp [Ren.put]
  have hsplit : ∀ {i y}, (H.set c x).get i = some y → (i = c ∧ y = x) ∨ (i ≠ c ∧ H.get i = some y ∧ (m.put c w.heap.size δ) i = m i) := fun {i y} hi => by
    rcases Tr.get_set hi with ⟨rfl, rfl⟩ | ⟨hne, hi'⟩
    · exact Or.inl ⟨rfl, rfl⟩
    · exact Or.inr ⟨hne, hi', by simp [Ren.put, hne]⟩
  have hlt : ∀ {i y k d}, H.get i = some y → m i = some (k, d) → k < w.heap.size := fun {i y k d} hi hmi => by
    obtain ⟨k', d', o', g1, g2, _⟩ := hR.blk i y hi
    rw [hmi] at g1; cases g1
    exact (Array.getElem?_eq_some_iff.1 g2).1
  refine ⟨⟨fun i y hi => ?_, fun i j y z k d d' hi hj hmi hmj => ?_⟩, ⟨h1, h2, h3, hs, fun k hk _ => hold k hk, hle, fun i p hi => ?_, fun i y k d hi hmi => ?_, fun i y hi => ?_⟩⟩
  · rcases hsplit hi with ⟨rfl, rfl⟩ | ⟨_, hi', he⟩
    · exact ⟨w.heap.size, δ, o, hself, hw, hb⟩
    · obtain ⟨k, d, o', g1, g2, g3⟩ := hR.blk i y hi'
      refine ⟨k, d, o', by rw [he]; exact g1, ?_, g3.mono hle⟩
      rw [hold k (hlt hi' g1)]
      exact g2
  · rcases hsplit hi with ⟨rfl, rfl⟩ | ⟨_, hi', he⟩
    · rcases hsplit hj with ⟨rfl, rfl⟩ | ⟨_, hj', he'⟩
      · rfl
      · rw [hself] at hmi; cases hmi
        rw [he'] at hmj
        exact absurd (hlt hj' hmj) (by omega)
    · rw [he] at hmi
      rcases hsplit hj with ⟨rfl, rfl⟩ | ⟨_, hj', he'⟩
      · rw [hself] at hmj; cases hmj
        exact absurd (hlt hi' hmi) (by omega)
      · rw [he'] at hmj
        exact hR.inj i j y z k d d' hi' hj' hmi hmj
  · by_cases e : i = c
    · exact Or.inr ⟨by omega, by omega⟩
    · left
      simpa [Ren.put, e] using hi
  · rcases hsplit hi with ⟨rfl, rfl⟩ | ⟨_, hi', he⟩
    · rw [hself] at hmi; cases hmi
      exact Or.inl (Nat.le_refl _)
    · rw [he] at hmi
      exact Or.inr ⟨i, y, d, hi', hmi, fun h => h⟩
  · rcases hsplit hi with ⟨rfl, rfl⟩ | ⟨_, hi', _⟩
    · exact Or.inr ⟨by omega, by omega⟩
    · exact Or.inl ⟨_, hi'⟩
/-- A new row. -/
theorem newB_sound {H : Tr AB} (hR : Rel m H.get w) {c ty sz : Nat} {l : List AV} {opn : Bool} {fz : Nat} (hc : m c = none) {C : Array Value} {δ : Nat} {fr : Nat × Nat} {w' : World}
    (hs : C.size = l.length + δ * sz) (hopn : opn = false → δ = 0) (hfr : ∀ i, fz ≤ i → i < C.size → ¬ (fr.1 ≤ i ∧ i < fr.2)) (hl : ∀ (i : Nat) (a : AV), l[i]? = some a → ∃ v, C[i]? = some v ∧ VR m a v)
    (hw : w'.heap[w.heap.size]? = some (.cells C ty fr)) (hold : ∀ k, k < w.heap.size → w'.heap[k]? = w.heap[k]?) (hsz : w.heap.size ≤ w'.heap.size) (h1 : w'.os = w.os) (h2 : w'.tape = w.tape) (h3 : w'.output = w.output) :
    Rel (m.put c w.heap.size δ) (newB H c ty sz l opn fz).get w' ∧ Fr m H.get w (m.put c w.heap.size δ) (newB H c ty sz l opn fz).get w' c (c + 1) := by
  rw [newB_eq]
  · refine new_sound hR hc rfl (o := .cells C ty fr) ⟨C, fr, rfl, hs, hopn, hfr, fun i a hi => ?_⟩ hw hold hsz h1 h2 h3
    rcases setC_spec hi with ⟨_, q2⟩ | ⟨_, q2⟩
    · simp only [Nat.sub_zero] at q2
      obtain ⟨v, h4, h5⟩ := hl i a q2
      exact ⟨(List.getElem?_eq_some_iff.1 q2).1, v, h4, h5.mono (Ren.le_put hc)⟩
    · simp [Tr.get] at q2
end
end Go.Proofs.YtknmbmdeilbdkaaGreatDoor.Ev
