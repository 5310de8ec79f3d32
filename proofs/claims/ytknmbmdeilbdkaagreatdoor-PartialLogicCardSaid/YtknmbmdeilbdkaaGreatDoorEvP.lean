/- Conversions of strings and bytes, loads, stores; every operation but calls of functions. -/
import Derived.Test.YtknmbmdeilbdkaaGreatDoorEvO
import Derived.Test.YtknmbmdeilbdkaaGreatDoorEvM
namespace Go.Proofs.YtknmbmdeilbdkaaGreatDoor.Ev
open Go
section
variable {P : Program} {m : Ren} {w : World} {H H' : Tr AB} {G N : Nat} {T : Tr AV} {a : Act}

theorem bytesOf_sound : ∀ {l : List AV} {n code : Nat} {vs : List Value}, bytesOf l = some (n, code) → LR m l vs → code < 256 ^ n ∧ ∃ bs : List UInt8, bs = decL n code ∧ vs = bs.map (fun b => Value.int .u8 (b.toNat : Int))
  | [], n, code, vs, h, hl => by
    cases h
    rw [hl.nil_inv]
    exact ⟨by simp, [], rfl, rfl⟩
  | a :: l, n, code, vs, h, hl => by
    unfold bytesOf at h
    split at h
    · rename_i e; cases e
    · rename_i b l' e
      cases e
      obtain ⟨v, us, rfl, hv, hl⟩ := hl.cons_inv
      split at h
      · rename_i n' c' hb hlt
        have hlt : b < 256 := by simpa [Nat.blt_eq] using hlt
        cases h
        obtain ⟨h1, bs, rfl, rfl⟩ := bytesOf_sound hb hl
        cases hv
        refine ⟨by rw [Nat.pow_succ]; omega, decL (n' + 1) (b + 256 * c'), rfl, ?_⟩
        simp only [decL, List.map_cons]
        rw [show (b + 256 * c') % 256 = b by omega, show (b + 256 * c') / 256 = c' by omega]
        have : (((UInt8.ofNat b).toNat : Nat) : Int) = Int.ofNat b := by simp; omega
        rw [this]
      · cases h
    · cases h
theorem run_shape_cells {blk ty : Nat} {C : Array Value} {fr : Nat × Nat} (h : w.heap[blk]? = some (.cells C ty fr)) : w.shape? blk = some (ty, C.size) := by
  simp [World.shape?, h]
theorem run_seenAt_cells {blk off ty : Nat} {C : Array Value} {fr : Nat × Nat} (h : w.heap[blk]? = some (.cells C ty fr)) : (Conv.seenAt ⟨blk, off, none⟩).run P w = .ok ⟨blk, off, none⟩ w := by
  simp [Conv.seenAt, viewAt, run_shape_cells h]
theorem toUnsafe {s d t sz blk off ty : Nat} {C : Array Value} {fr : Nat × Nat} (hs : P.underlying s = some (.pointer t)) (hd : P.underlying d = some .unsafePointer) (h : w.heap[blk]? = some (.cells C ty fr)) (hsz : tsize P t = some sz) (h0 : 0 < sz) (ho : off < C.size) :
    (convert s d (.pointer (some ⟨blk, off, none⟩))).run P w = .ok (.pointer (some ⟨blk, off, none⟩)) w := by
  have e1 : ¬ sz = 0 := by omega
  have e2 : ¬ C.size ≤ off := by omega
  simp [convert, Conv.unsafePointer, run_underlying hs, run_underlying hd, run_seenAt_cells h, cellsIn, run_shape_cells h, run_tsize hsz, e1, e2]
theorem fromUnsafe {s d u sz blk off ty : Nat} {C : Array Value} {fr : Nat × Nat} (hs : P.underlying s = some .unsafePointer) (hd : P.underlying d = some (.pointer u)) (h : w.heap[blk]? = some (.cells C ty fr)) (hu : tsize P u = some sz) (hl : liesAt P P.depth ty (C.size / P.cellsOf ty) off u 1 = true) :
    (convert s d (.pointer (some ⟨blk, off, none⟩))).run P w = .ok (.pointer (some ⟨blk, off, none⟩)) w := by
  simp [convert, Conv.unsafePointer, run_underlying hs, run_underlying hd, run_seenAt_cells h, run_shape_cells h, run_tsize hu, variablesAt, hl]
theorem conv_VS (hR : Rel m H.get w) {c s d : Nat} {x : AV} {r : MR} (h : amemConv P H c s d x = some r) {u : Value} (hx : VR m x u) :
    c ≤ r.c ∧ (Fresh m c r.c → VS P m H w c r.v r.H r.c (convert s d u)) := by
  unfold amemConv at h
  split at h
  · rename_i e len code hs hd
    split at h
    · rename_i he
      obtain ⟨v, hv, rfl⟩ := mkM_inv h
      rw [mkS_eq] at hv
      cases hv
      obtain ⟨rfl, hc⟩ := hx.str_inv
      refine ⟨Nat.le_succ c, fun hf => ?_⟩
      have hf := hf c (Nat.le_refl _) (Nat.lt_succ_self _)
      have hrun := run_bytes_of_string (P := P) w s d e (dec len code) hs hd he
      rw [dec_size] at hrun
      have hge : len ≤ grownCap w len 0 e := grownCap_ge w len 0 e
      have hsz : (bytesRow (dec len code) (grownCap w len 0 e)).size = len + (grownCap w len 0 e - len) * 1 := by
        have h1 : (dec len code).data.size = len := dec_size len code
        simp [bytesRow, h1, dec_size]
      have hcl := strC_LR (m := m) len code
      have hlen : (strC len code).length = len := by rw [hcl.1]; simp [decL_length]
      obtain ⟨h1, h2⟩ := newB_sound (H := H) hR (c := c) (ty := e) (sz := 1) (l := strC len code) (opn := true) (fz := 0) hf (C := bytesRow (dec len code) (grownCap w len 0 e)) (δ := grownCap w len 0 e - len)
        (fr := ((bytesRow (dec len code) (grownCap w len 0 e)).size, (bytesRow (dec len code) (grownCap w len 0 e)).size + 1)) (w' := w.drew.alloc (.cells (bytesRow (dec len code) (grownCap w len 0 e)) e ((bytesRow (dec len code) (grownCap w len 0 e)).size, (bytesRow (dec len code) (grownCap w len 0 e)).size + 1)))
        (by rw [hsz, hlen]) (fun h => by cases h) (fun i _ hi => by simp; omega) (fun i a hi => by
          obtain ⟨v, h3, h4⟩ := hcl.get hi
          refine ⟨v, ?_, h4⟩
          have hlt : i < len := by rw [← hlen]; exact (List.getElem?_eq_some_iff.1 hi).1
          unfold bytesRow
          rw [Array.getElem?_append_left (by have h9 : (dec len code).data.size = len := dec_size len code; simp [h9, hlt])]
          simpa [dec] using h3) (heap_alloc_new w.drew _) (fun k hk => heap_alloc_old w.drew _ (by simpa using hk)) (by simp) rfl rfl rfl
      refine ⟨_, _, _, hrun, ?_, h1, h2⟩
      have := VR.sl (off := 0) (len := len) (cap := len) (ex := false) (put_self m c w.heap.size (grownCap w len 0 e - len))
      simpa [show len + (grownCap w len 0 e - len) = grownCap w len 0 e by omega] using this
    · cases h
  · rename_i e hs hd
    split at h
    · rename_i he
      split at h
      · cases h
      · rename_i l hl
        split at h
        · cases h
        · rename_i n code hb
          obtain ⟨v, hv, rfl⟩ := mkM_inv h
          rw [mkStr_eq] at hv
          cases hv
          unfold slC at hl
          split at hl
          · cases hl; cases hx; cases hb
            refine ⟨Nat.le_refl _, fun _ => VS.quiet hR (r := .string (dec 0 0)) ?_ (.str (by simp))⟩
            rw [run_convert_bytes_string w s d e none 0 0 hs he hd]
            rfl
          · rename_i b off k cap ex
            obtain ⟨blk, δ, hm, rfl⟩ := sl_inv hx
            obtain ⟨vs, h1, h2, h3⟩ := rdC_sound hR hl hm
            obtain ⟨h4, bs, rfl, rfl⟩ := bytesOf_sound hb h1
            have hk : k = n := by simpa [decL_length] using h2.symm
            subst hk
            refine ⟨Nat.le_refl _, fun _ => VS.quiet hR (r := .string (dec k code)) ?_ (.str h4)⟩
            have hr := run_convert_bytes_back (P := P) w s d e ⟨blk, off, none⟩ (if ex then cap else cap + δ) (decL k code) hs he hd (fun j hj => by
              rw [add_plain]
              exact h3 j _ (by simp [hj]))
            rw [decL_length] at hr
            exact hr
          · cases hl
    · cases h
  · rename_i t b off hs hd
    split at h
    · rename_i ty sz n cells opn ro fz s hb hsz
      split at h
      · rename_i hok
        rw [Bool.and_eq_true, blt_dec, blt_dec, decide_eq_true_eq, decide_eq_true_eq] at hok
        obtain ⟨v, hv, rfl⟩ := mkM_inv h
        cases hv
        cases hx with
        | @ptr _ _ blk δ hm =>
        obtain ⟨blk', δ', o, g1, g2, g3⟩ := hR.blk b _ hb
        rw [hm] at g1; cases g1
        obtain ⟨C, fr, rfl, g4, _⟩ := g3
        exact ⟨Nat.le_refl _, fun _ => VS.quiet hR (toUnsafe hs hd g2 hsz hok.2 (by omega)) (.ptr hm)⟩
      · cases h
    · cases h
  · rename_i u b off hs hd
    split at h
    · rename_i ty sz n cells ro fz s hb hsz
      split at h
      · rename_i hok
        obtain ⟨v, hv, rfl⟩ := mkM_inv h
        cases hv
        cases hx with
        | @ptr _ _ blk δ hm =>
        obtain ⟨blk', δ', o, g1, g2, g3⟩ := hR.blk b _ hb
        rw [hm] at g1; cases g1
        obtain ⟨C, fr, rfl, g4, g5, _⟩ := g3
        have hC : C.size = n := by rw [g4, g5 rfl]; simp
        exact ⟨Nat.le_refl _, fun _ => VS.quiet hR (fromUnsafe hs hd g2 hsz (by rw [hC]; exact hok)) (.ptr hm)⟩
      · cases h
    · cases h
  · cases h
theorem load_VS (hR : Rel m H.get w) {c t : Nat} {x : AV} {r : MR} (h : amLoad P H c t (some x) = some r) {u : Value} (hx : VR m x u) : c ≤ r.c ∧ VS P m H w c r.v r.H r.c (Instr.loadAt t u) := by
  obtain ⟨v, hv, rfl⟩ := mkM_inv (show mkM (aload P H t x) H c = some r from h)
  obtain ⟨q, h1, h2⟩ := aload_sound (P := P) hR hv hx
  exact ⟨Nat.le_refl _, VS.quiet hR h2 h1⟩
theorem store_ES (hR : Rel m H.get w) {c t : Nat} {x y : AV} {r : MR} (h : amStore P H c t (some x) (some y) = some r) {u v : Value} (hx : VR m x u) (hy : VR m y v) : c ≤ r.c ∧ ES P m H w c r (do Instr.storeAt t u v; pure Next.skip) := by
  simp only [amStore] at h
  split at h
  · rename_i H2 hst
    obtain ⟨q, hq, rfl⟩ := mkM_inv h
    cases hq
    refine ⟨Nat.le_refl _, ?_⟩
    unfold astore at hst
    split at hst
    · rename_i b off l s hcl hsz
      split at hst
      · rename_i hlen
        have hlen := Nat.eq_of_beq_eq_true hlen
        cases hx with
        | @ptr _ _ blk δ hm =>
          have hl := aCells_sound hcl hy
          obtain ⟨h1, h2, h3⟩ := wrC_sound (P := P) hR hst hm hl c
          refine ⟨.skip, undef, _, m, ?_, Or.inr ⟨rfl, rfl⟩, undef_VR, h2, h3⟩
          have hs : v.cells.size = s := by rw [← hlen, hl.1]; simp
          simp only [Instr.storeAt, Sem.run_bind, Instr.sureAddr, Sem.run_pure, Result.andThen_ok, storeVar, run_tsize hsz]
          rw [if_neg (by simp [hs])]
          simp only [h1, Result.andThen_ok]
      · cases hst
    · cases hst
  · cases h
end
end Go.Proofs.YtknmbmdeilbdkaaGreatDoor.Ev
