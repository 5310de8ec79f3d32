/- Maps; every operation but calls of functions. -/
import Derived.Test.YtknmbmdeilbdkaaGreatDoorEvP
import Derived.Lib.UnsafeStr
namespace Go.Proofs.YtknmbmdeilbdkaaGreatDoor.Ev
open Go
section
variable {P : Program} {m : Ren} {w : World} {H H' : Tr AB} {G N : Nat} {T : Tr AV} {a : Act}

/-- What lies in a block becomes another. -/
theorem mod_sound (hR : Rel m H.get w) {b blk δ : Nat} {x y : AB} (hb : H.get b = some x) (hx : x.ro = false) (hm : m b = some (blk, δ)) {o : Obj} {w' : World} (ho : w'.heap[blk]? = some o) (hy : BR m y δ o)
    (hold : ∀ k, k ≠ blk → w'.heap[k]? = w.heap[k]?) (hs : w'.heap.size = w.heap.size) (h1 : w'.os = w.os) (h2 : w'.tape = w.tape) (h3 : w'.output = w.output) (c : Nat) :
    Rel m (H.set b y).get w' ∧ Fr m H.get w m (H.set b y).get w' c c := by
  have f : ∀ {i z}, (H.set b y).get i = some z → ∃ x', H.get i = some x' := fun {i z} hi => by
    rcases Tr.get_set hi with ⟨rfl, _⟩ | ⟨_, hi'⟩
    · exact ⟨_, hb⟩
    · exact ⟨_, hi'⟩
  refine ⟨⟨fun i z hi => ?_, fun i j z z' k d d' hi hj hmi hmj => ?_⟩, ⟨h1, h2, h3, by omega, fun k _ hn => ?_, fun _ _ h => h, fun _ _ h => Or.inl h, fun i z k d hi hmi => ?_, fun i z hi => Or.inl (f hi)⟩⟩
  · rcases Tr.get_set hi with ⟨rfl, rfl⟩ | ⟨hne, hi'⟩
    · exact ⟨blk, δ, o, hm, ho, hy⟩
    · obtain ⟨k, d, o', g1, g2, g3⟩ := hR.blk i z hi'
      refine ⟨k, d, o', g1, ?_, g3⟩
      rw [hold k (fun e => hne (hR.inj i b z _ k d δ hi' hb g1 (by rw [e]; exact hm)))]
      exact g2
  · obtain ⟨_, hi'⟩ := f hi
    obtain ⟨_, hj'⟩ := f hj
    exact hR.inj i j _ _ k d d' hi' hj' hmi hmj
  · exact hold k (fun e => hn b _ δ hb hx (by rw [e]; exact hm))
  · right
    rcases Tr.get_set hi with ⟨rfl, rfl⟩ | ⟨_, hi'⟩
    · exact ⟨i, _, d, hb, hmi, fun h => by rw [hx] at h; cases h⟩
    · exact ⟨i, z, d, hi', hmi, fun h => h⟩

theorem makeMap_VS (hR : Rel m H.get w) {c t : Nat} (hc : m c = none) : VS P m H w c (.mp c) (H.set c (.map [])) (c + 1) (Instr.makeMap t none) := by
  obtain ⟨h1, h2⟩ := new_sound (H := H) hR hc (x := .map []) rfl (o := .map #[] 0) (δ := 0) (w' := w.alloc (.map #[] 0)) ⟨#[], 0, rfl, rfl, fun i k v h => by simp at h⟩ (heap_alloc_new w _) (fun k hk => heap_alloc_old w _ hk) (by simp) rfl rfl rfl
  exact ⟨.map (some w.heap.size), _, _, by simp [Instr.makeMap], .mp (put_self m c _ 0), h1, h2⟩
theorem dec_ne {la ca lb cb : Nat} (ha : ca < 256 ^ la) (hb : cb < 256 ^ lb) (h : (Nat.beq la lb && Nat.beq ca cb) = false) : (dec la ca == dec lb cb) = false := by
  show ((dec la ca).data == (dec lb cb).data) = false
  rw [beq_eq_false_iff_ne]
  intro e
  have e : dec la ca = dec lb cb := ByteArray.ext e
  have hl : la = lb := by rw [← dec_size la ca, e, dec_size]
  subst hl
  have hd : decL la ca = decL la cb := by rw [← dec_toList, e, dec_toList]
  have hc := decL_inj ha hb hd
  subst hc
  simp at h
theorem findNow_none {la ca : Nat} (ha : ca < 256 ^ la) : ∀ (es : List (AV × AV)) (l : List MapEntry) (i : Nat), es.length = l.length → (∀ (i : Nat) (k v : AV), es[i]? = some (k, v) → ∃ e, l[i]? = some e ∧ VR m k e.key ∧ VR m v e.val) →
    noKey la ca es = true → Instr.findNow .string (.string (dec la ca)) l i = some none
  | [], l, i, hl, _, _ => by
    have : l = [] := List.eq_nil_of_length_eq_zero (by simpa using hl.symm)
    subst this; rfl
  | (k, v) :: es, [], i, hl, _, _ => by simp at hl
  | (k, v) :: es, e :: l, i, hl, h, hn => by
    unfold noKey at hn
    split at hn
    · rename_i e'; cases e'
    · rename_i lb cb v' es' e'
      cases e'
      rw [Bool.and_eq_true] at hn
      obtain ⟨e1, h1, h2, _⟩ := h 0 _ _ rfl
      cases h1
      obtain ⟨hk, hb⟩ := h2.str_inv
      have hne := dec_ne ha hb (by cases hq : (Nat.beq la lb && Nat.beq ca cb) with | false => rfl | true => rw [hq] at hn; simp at hn)
      simp only [Instr.findNow, Instr.sameNow, hk, hne]
      exact findNow_none ha es l (i + 1) (by simpa using hl) (fun j k v hj => h (j + 1) k v hj) hn.2
    · cases hn
theorem mapUpdate_ES (hR : Rel m H.get w) {c t : Nat} {x k y : Option AV} {r : MR} (h : amMapUpdate P H c t x k y = some r) {p q v : Value} (hp : ∀ z, x = some z → VR m z p) (hq : ∀ z, k = some z → VR m z q) (hv : ∀ z, y = some z → VR m z v) :
    c ≤ r.c ∧ ES P m H w c r (do Instr.mapUpdate t p q v; pure Next.skip) := by
  unfold amMapUpdate at h
  split at h
  · rename_i b la ca u
    have hp := hp _ rfl
    have hq := hq _ rfl
    have hv := hv _ rfl
    split at h
    · rename_i kt vt es ht hb
      split at h
      · rename_i hkt hno
        obtain ⟨z, hz, rfl⟩ := mkM_inv h
        cases hz
        refine ⟨Nat.le_refl _, ?_⟩
        obtain ⟨rfl, hca⟩ := hq.str_inv
        cases hp with
        | @mp _ blk δ hm =>
        obtain ⟨blk', δ', o, g1, g2, g3⟩ := hR.blk b _ hb
        rw [hm] at g1; cases g1
        obtain ⟨en, cl, rfl, g4, g5⟩ := g3
        have hf := findNow_none (m := m) hca es en.toList 0 (by simpa using g4.symm) (fun i k v hi => by obtain ⟨e, a1, a2, a3⟩ := g5 i k v hi; exact ⟨e, by simpa using a1, a2, a3⟩) hno
        obtain ⟨h1, h2⟩ := mod_sound hR hb rfl hm (y := .map (es ++ [(.str la ca, u)])) (o := .map (en.push { key := .string (dec la ca), val := v, born := cl }) (cl + 1)) (w' := { w with heap := w.heap.setIfInBounds blk (.map (en.push { key := .string (dec la ca), val := v, born := cl }) (cl + 1)) })
          (by rw [Array.getElem?_setIfInBounds_self_of_lt (Array.getElem?_eq_some_iff.1 g2).1]) ⟨_, _, rfl, by simp [g4], fun i k z hi => by
            rcases Nat.lt_or_ge i es.length with hlt | hge
            · rw [List.getElem?_append_left hlt] at hi
              obtain ⟨e, a1, a2, a3⟩ := g5 i k z hi
              exact ⟨e, by rw [Array.getElem?_push_lt (by rw [g4]; exact hlt)]; rw [Array.getElem?_eq_getElem (by rw [g4]; exact hlt)] at a1; exact a1, a2, a3⟩
            · rw [List.getElem?_append_right hge] at hi
              have hi0 : i - es.length = 0 := by
                have := (List.getElem?_eq_some_iff.1 hi).1
                simp at this; omega
              rw [hi0] at hi
              simp at hi
              obtain ⟨rfl, rfl⟩ := hi
              have : i = en.size := by omega
              subst this
              exact ⟨{ key := .string (dec la ca), val := v, born := cl }, by simp, .str hca, hv⟩⟩
          (fun k hk => Array.getElem?_setIfInBounds_ne (fun e => hk e.symm)) (by simp) rfl rfl rfl c
        refine ⟨.skip, undef, _, m, ?_, Or.inr ⟨rfl, rfl⟩, undef_VR, h1, h2⟩
        have hg : (getObj blk).run P w = .ok (.map en cl) w := by simp [getObj, Sem.run, g2]
        have hset : ∀ o : Obj, (setObj blk o).run P w = .ok () { w with heap := w.heap.setIfInBounds blk o } := fun o => by simp [setObj, Sem.run, g2]
        have hck' : ∀ n, (Instr.checkKey false (n + 1) kt (.string (dec la ca))).run P w = .ok () w := fun n => by
          simp only [Instr.checkKey, Sem.run_bind, run_underlying hkt, Result.andThen_ok, Sem.run_pure]
        have hck : (Instr.checkKey false 10000 kt (.string (dec la ca))).run P w = .ok () w := hck' 9999
        have hfk : (Instr.findKey kt (.string (dec la ca)) en.toList).run P w = .ok none w := by
          simp only [Instr.findKey, Sem.run_bind, run_underlying hkt, Result.andThen_ok, hf, Sem.run_pure]
        simp only [Instr.mapUpdate, Sem.run_bind, run_underlying ht, Result.andThen_ok, hg, hck, hfk, hset, Sem.run_pure]
      · cases h
    · cases h
  · cases h
theorem mapLen_VS (hR : Rel m H.get w) {c b : Nat} {ts : List TypeId} {r : MR} (h : amMapLen P H c ts (.mp b) = some r) {u : Value} (hu : VR m (.mp b) u) (ty : TypeId) : c ≤ r.c ∧ VS P m H w c r.v r.H r.c (Builtin.len_ ⟨ts⟩ ty #[u]) := by
  unfold amMapLen at h
  split at h
  · rename_i b' t ts e
    cases e
    split at h
    · rename_i ht hb
      obtain ⟨z, hz, rfl⟩ := mkM_inv h
      rw [mkI_eq] at hz
      cases hz
      refine ⟨Nat.le_refl _, ?_⟩
      cases hu with
      | @mp _ blk δ hm =>
      obtain ⟨blk', δ', o, g1, g2, g3⟩ := hR.blk b _ hb
      rw [hm] at g1; cases g1
      obtain ⟨en, cl, rfl, g4, g5⟩ := g3
      have hg : (getObj blk).run P w = .ok (.map en cl) w := by simp [getObj, Sem.run, g2]
      refine VS.quiet hR (r := .int .i64 (Int.ofNat en.size)) ?_ (by rw [g4]; exact .int _ _)
      simp [Builtin.len_, run_underlying ht, hg, goInt]
    · cases h
  · cases h
theorem sliceData_VS (hR : Rel m H.get w) {c : Nat} {x : Option AV} {r : MR} (h : amSliceData H c x = some r) {u : Value} (hu : ∀ z, x = some z → VR m z u) (ts : Array TypeId) (ty : TypeId) : c ≤ r.c ∧ VS P m H w c r.v r.H r.c (Builtin.unsafeSliceData_ ts ty #[u]) := by
  unfold amSliceData at h
  split at h
  · obtain ⟨z, hz, rfl⟩ := mkM_inv h
    cases hz
    cases hu _ rfl
    exact ⟨Nat.le_refl _, VS.quiet hR (Lib.run_unsafeSliceData_nil w ts ty 0 0) .nilp⟩
  · split at h
    · rename_i b off len cap ex hcap
      rw [blt_dec, decide_eq_true_eq] at hcap
      obtain ⟨z, hz, rfl⟩ := mkM_inv h
      cases hz
      obtain ⟨blk, δ, hm, rfl⟩ := sl_inv (hu _ rfl)
      exact ⟨Nat.le_refl _, VS.quiet hR (Lib.run_unsafeSliceData_row w ts ty _ _ _ (by split <;> omega)) (.ptr hm)⟩
    · cases h
  · cases h
/-- A block changes and is forgotten. -/
theorem del_sound (hR : Rel m H.get w) {b blk δ : Nat} {x : AB} (hb : H.get b = some x) (hx : x.ro = false) (hm : m b = some (blk, δ)) {w' : World} (hold : ∀ k, k ≠ blk → w'.heap[k]? = w.heap[k]?) (hs : w'.heap.size = w.heap.size) (h1 : w'.os = w.os) (h2 : w'.tape = w.tape) (h3 : w'.output = w.output) (c : Nat) :
    Rel m (H.del b).get w' ∧ Fr m H.get w m (H.del b).get w' c c := by
  refine ⟨⟨fun i z hi => ?_, fun i j z z' k d d' hi hj hmi hmj => ?_⟩, ⟨h1, h2, h3, by omega, fun k _ hn => ?_, fun _ _ h => h, fun _ _ h => Or.inl h, fun i z k d hi hmi => ?_, fun i z hi => Or.inl ⟨_, (Tr.get_del hi).2⟩⟩⟩
  · obtain ⟨hne, hi'⟩ := Tr.get_del hi
    obtain ⟨k, d, o', g1, g2, g3⟩ := hR.blk i z hi'
    refine ⟨k, d, o', g1, ?_, g3⟩
    rw [hold k (fun e => hne (hR.inj i b z _ k d δ hi' hb g1 (by rw [e]; exact hm)))]
    exact g2
  · exact hR.inj i j _ _ k d d' (Tr.get_del hi).2 (Tr.get_del hj).2 hmi hmj
  · exact hold k (fun e => hn b _ δ hb hx (by rw [e]; exact hm))
  · exact Or.inr ⟨i, z, d, (Tr.get_del hi).2, hmi, fun h => h⟩
theorem freeze_heap {blk n : Nat} (hn : n ≠ 0) : (∀ k, k ≠ blk → (w.freeze ⟨blk, 0, none⟩ n).heap[k]? = w.heap[k]?) ∧
      (w.freeze ⟨blk, 0, none⟩ n).heap.size = w.heap.size ∧ (w.freeze ⟨blk, 0, none⟩ n).os = w.os ∧ (w.freeze ⟨blk, 0, none⟩ n).tape = w.tape ∧ (w.freeze ⟨blk, 0, none⟩ n).output = w.output := by
  refine ⟨fun k hk => ?_, ?_, ?_, ?_, ?_⟩
  · simp only [World.freeze, hn, if_false, Array.getElem?_modify]
    rw [if_neg (fun e => hk e.symm)]
  all_goals simp [World.freeze, hn]
theorem string_VS (hR : Rel m H.get w) {c : Nat} {ts : List TypeId} {x y : Option AV} {r : MR} (h : amString P H c ts x y = some r) {u v : Value} (hu : ∀ z, x = some z → VR m z u) (hv : ∀ z, y = some z → VR m z v) (ty : TypeId) : c ≤ r.c ∧ VS P m H w c r.v r.H r.c (Builtin.unsafeString_ ⟨ts⟩ ty #[u, v]) := by
  unfold amString at h
  split at h
  · rename_i n pt it
    have hv := hv _ rfl
    cases hv
    split at h
    · rename_i hn
      have hn := Nat.eq_of_beq_eq_true hn
      subst hn
      obtain ⟨z, hz, rfl⟩ := mkM_inv h
      rw [mkStr_eq] at hz
      cases hz
      cases hu _ rfl
      exact ⟨Nat.le_refl _, VS.quiet hR (r := .string (dec 0 0)) (Lib.run_unsafeString_none w pt it ty none) (.str (by simp))⟩
    · rename_i hn
      have hn := Nat.eq_of_beq_eq_true hn
      subst hn
      obtain ⟨z, hz, rfl⟩ := mkM_inv h
      rw [mkStr_eq] at hz
      cases hz
      cases hu _ rfl
      exact ⟨Nat.le_refl _, VS.quiet hR (r := .string (dec 0 0)) (Lib.run_unsafeString_none w pt it ty _) (.str (by simp))⟩
    · rename_i b off hn
      have hn := Nat.ne_of_beq_eq_false hn
      split at h
      · rename_i rt sz k cells opn fz e hb hpt
        split at h
        · rename_i l hok hl
          split at h
          · rename_i n' code hby
            obtain ⟨z, hz, rfl⟩ := mkM_inv h
            rw [mkStr_eq] at hz
            cases hz
            simp only [Bool.and_eq_true, Nat.ble_eq] at hok
            obtain ⟨o1, o2, o3, o4, o5⟩ := hok
            have o2 := Nat.eq_of_beq_eq_true o2
            have o3 := Nat.eq_of_beq_eq_true o3
            have o4 := Nat.eq_of_beq_eq_true o4
            subst o2 o3
            cases hu _ rfl with
            | @ptr _ _ blk δ hm =>
            obtain ⟨blk', δ', o, g1, g2, g3⟩ := hR.blk b _ hb
            rw [hm] at g1; cases g1
            obtain ⟨C, fr, rfl, g4, g5, g6, g7⟩ := g3
            obtain ⟨vs, h1, h2, _, h4⟩ := getC_sound g7 _ _ _ hl
            obtain ⟨h5, bs, rfl, rfl⟩ := bytesOf_sound hby h1
            have hk : n = n' := by simpa [decL_length] using h2.symm
            subst hk
            have hrun := Lib.run_unsafeString_row (P := P) w pt it ty rt hpt o4 blk C.size (run_shape_cells g2) (decL n code) (fun e => hn (by simpa [decL_length] using congrArg List.length e)) (by rw [decL_length]; omega) (by rw [decL_length]; exact o5)
              (fun j x hj => by
                rw [add_plain]
                simp only [Nat.zero_add]
                rw [cell_at g2]
                have := h4 j (.int .u8 x.toNat) (by simp [hj])
                simpa using this)
            rw [decL_length] at hrun
            obtain ⟨f3, f4, f5, f6, f7⟩ := freeze_heap (w := w) (blk := blk) hn
            obtain ⟨k1, k2⟩ := del_sound hR hb rfl hm f3 f4 f5 f6 f7 c
            exact ⟨Nat.le_refl _, .string (dec n code), _, m, hrun, .str h5, k1, k2⟩
          · cases h
        · cases h
      · cases h
    · cases h
  · cases h
end
end Go.Proofs.YtknmbmdeilbdkaaGreatDoor.Ev
