/- The operations that touch memory are the machine's (but append). -/
import Derived.Test.YtknmbmdeilbdkaaGreatDoorEvK
import Derived.Laws.AppendOwn
import Derived.Laws.BytesString
namespace Go.Proofs.YtknmbmdeilbdkaaGreatDoor.Ev
open Go
section
variable {P : Program} {m : Ren} {w : World} {H H' : Tr AB}

/-- What an operation that hands back a value leaves. -/
def VS (P : Program) (m : Ren) (H : Tr AB) (w : World) (c : Nat) (v : AV) (H' : Tr AB) (c' : Nat) (s : Sem Value) : Prop :=
  ∃ r w' m', s.run P w = .ok r w' ∧ VR m' v r ∧ Rel m' H'.get w' ∧ Fr m H.get w m' H'.get w' c c'
theorem LR.cells {l : List AV} {C : Array Value} (h : LR m l C.toList) : ∀ (i : Nat) (a : AV), l[i]? = some a → ∃ v, C[i]? = some v ∧ VR m a v := fun i a hi => by
  obtain ⟨v, h1, h2⟩ := h.get hi
  exact ⟨v, by simpa using h1, h2⟩
theorem row_new (hR : Rel m H.get w) {c ty sz : Nat} {l : List AV} {opn : Bool} {fz δ : Nat} {C : Array Value} (hc : m c = none) (hs : C.size = l.length + δ * sz) (hopn : opn = false → δ = 0)
    (hl : ∀ (i : Nat) (a : AV), l[i]? = some a → ∃ v, C[i]? = some v ∧ VR m a v) {w0 : World} (e0 : w0.heap = w.heap) (e1 : w0.os = w.os) (e2 : w0.tape = w.tape) (e3 : w0.output = w.output) :
    Rel (m.put c w.heap.size δ) (newB H c ty sz l opn fz).get { w0 with heap := w0.heap.push (.cells C ty) } ∧ Fr m H.get w (m.put c w.heap.size δ) (newB H c ty sz l opn fz).get { w0 with heap := w0.heap.push (.cells C ty) } c (c + 1) :=
  newB_sound hR hc (fr := (0, 0)) hs hopn (fun i _ _ => by simp) hl (by simp [e0]) (fun k hk => by simp [e0, Array.getElem?_push, Nat.ne_of_lt hk]) (by simp [e0]) e1 e2 e3
theorem put_self (m : Ren) (c b δ : Nat) : (m.put c b δ) c = some (b, δ) := by simp [Ren.put]

theorem alloc_VS (hR : Rel m H.get w) {e c : Nat} {z : List AV} (hz : tzero P e = some z) (hc : m c = none) : VS P m H w c (.ptr c 0) (newB H c e 1 z false 0) (c + 1) (Instr.alloc e true (.tuple #[])) := by
  obtain ⟨i, zv, hi, hzv, hl, _⟩ := tzero_sound m hz
  obtain ⟨h1, h2⟩ := row_new hR (ty := e) (sz := 1) (fz := 0) (opn := false) (C := zv.cells) (δ := 0) hc (by have := hl.1; simpa using this.symm) (fun _ => rfl) hl.cells (w0 := w) rfl rfl rfl rfl
  exact ⟨.pointer (some ⟨w.heap.size, 0, none⟩), _, _, by simp [Instr.alloc, zeroValue, typeInfo, hi, hzv, newVar, newRow], .ptr (put_self m c _ 0), h1, h2⟩
theorem box_VS (hR : Rel m H.get w) {e c : Nat} {v : AV} {l : List AV} {u : Value} (hv : VR m v u) (hl : aCells v = some l) (hc : m c = none) : VS P m H w c (.ptr c 0) (newB H c e 1 l false 0) (c + 1) (Instr.box e u) := by
  have hl := aCells_sound hl hv
  obtain ⟨h1, h2⟩ := row_new hR (ty := e) (sz := 1) (fz := 0) (opn := false) (C := u.cells) (δ := 0) hc (by have := hl.1; simpa using this.symm) (fun _ => rfl) hl.cells (w0 := w) rfl rfl rfl rfl
  exact ⟨.pointer (some ⟨w.heap.size, 0, none⟩), _, _, by simp [Instr.box, newVar, newRow], .ptr (put_self m c _ 0), h1, h2⟩

theorem rep_length (z : List AV) (n : Nat) : (rep z n).length = n * z.length := by
  induction n with
  | zero => simp [rep]
  | succ n ih => simp [rep, ih, Nat.add_mul]; omega
theorem rep_get (z : List AV) (n i : Nat) : (rep z n)[i]? = if i < n * z.length then z[i % z.length]? else none := by
  induction n generalizing i with
  | zero => simp [rep]
  | succ n ih =>
    simp only [rep]
    by_cases h : i < z.length
    · rw [List.getElem?_append_left h, Nat.mod_eq_of_lt h, if_pos (by rw [Nat.add_mul]; omega)]
    · rw [List.getElem?_append_right (by omega), ih, Nat.add_mul, Nat.one_mul]
      by_cases h2 : i - z.length < n * z.length
      · rw [if_pos h2, if_pos (show i < n * z.length + z.length by omega), ← Nat.mod_eq_sub_mod (show i ≥ z.length by omega)]
      · rw [if_neg h2, if_neg (show ¬ i < n * z.length + z.length by omega)]
theorem rep_LR {z : List AV} {Z : Array Value} (hl : LR m z Z.toList) (n : Nat) : LR m (rep z n) ((Array.range (n * Z.size)).map (fun i => Z[i % Z.size]!)).toList := by
  have hsz : z.length = Z.size := by have := hl.1; simpa using this
  refine ⟨by simp [rep_length, hsz], fun i a v h1 h2 => ?_⟩
  rw [rep_get] at h1
  split at h1
  · rename_i hi
    rw [hsz] at h1 hi
    have h0 : 0 < Z.size := by
      rcases Nat.eq_zero_or_pos Z.size with e | e
      · rw [e] at hi; simp at hi
      · exact e
    have hm : i % Z.size < Z.size := Nat.mod_lt _ h0
    have h3 : ((Array.range (n * Z.size)).map (fun i => Z[i % Z.size]!)).toList[i]? = some (Z[i % Z.size]'hm) := by
      simp [hi, getElem!_def, hm]
    rw [h3] at h2
    cases h2
    exact hl.2 _ a _ h1 (by simp [hm])
  · cases h1

theorem telem_eq {t e : TypeId} (h : telem P t = some e) : P.underlying t = some (.slice e) := by
  unfold telem at h
  split at h
  · rename_i hu; cases h; exact hu
  · cases h
theorem run_buildSlice0 (w : World) (t e : TypeId) (len : Nat) (parts : Array (Nat × Value)) (cells : Array Value) (ie : TypeInfo) (z : Value)
    (hu : P.underlying t = some (.slice e)) (hie : P.info? e = some ie) (hz : ie.zero = some z) (hsmall : ¬ len * ie.size > 2 ^ 24)
    (h : Instr.fill (fun i => some (i * ie.size, ie.size)) ((Array.range (len * ie.size)).map (z.cells[· % z.cells.size]!)) parts.toList = some cells) :
    (Instr.buildSlice t len parts).run P w = .ok (.slice (some ⟨w.heap.size, 0, none⟩) len len) (w.alloc (.cells cells e)) := by
  by_cases hp : len * ie.size = 0
  · have hr0 : Array.range 0 = #[] := rfl
    rw [hp, hr0] at h
    simp only [List.map_toArray, List.map_nil] at h
    simp [Instr.buildSlice, run_underlying hu, sizeOf, typeInfo, hie, hp, hr0, h, newRow]
  · exact run_buildSlice w t e len parts cells ie z hu hie hz hsmall hp h
theorem buildSlice_VS (hR : Rel m H.get w) {t e c len : Nat} {ie : TypeInfo} {z l cs : List AV} {ps : List (Nat × AV)} {qs : Array (Nat × Value)} (ht : telem P t = some e) (hie : P.info? e = some ie) (hz : tzero P e = some z)
    (hok : Nat.ble (len * ie.size) 16777216 = true) (hf : afill (fun i => some (i * ie.size, ie.size)) (rep z len) ps = some cs) (hp : PR m ps qs.toList) (hc : m c = none) :
    VS P m H w c (.sl c 0 len len true) (newB H c e 1 cs false 0) (c + 1) (Instr.buildSlice t len qs) := by
  obtain ⟨i, zv, hi, hzv, hl, hlen⟩ := tzero_sound m hz
  rw [hie] at hi; cases hi
  rw [Nat.ble_eq] at hok
  have hsz : zv.cells.size = ie.size := by have := hl.1; rw [← hlen, this]; simp
  obtain ⟨cells, h1, h2⟩ := afill_sound hf (cells := (Array.range (len * zv.cells.size)).map (fun i => zv.cells[i % zv.cells.size]!)) (rep_LR hl len) hp
  obtain ⟨h3, h4⟩ := row_new hR (ty := e) (sz := 1) (fz := 0) (opn := false) (C := cells) (δ := 0) hc (by have := h2.1; simpa using this.symm) (fun _ => rfl) h2.cells (w0 := w) rfl rfl rfl rfl
  have hr := run_buildSlice0 (P := P) w t e len qs cells ie zv (telem_eq ht) hie hzv (by omega) (by rw [hsz] at h1; rw [hsz]; exact h1)
  exact ⟨_, _, m.put c w.heap.size 0, hr, by simpa using (VR.sl (off := 0) (len := len) (cap := len) (ex := true) (put_self m c w.heap.size 0)), h3, h4⟩
theorem tbytes_eq {t b : Nat} {i : TypeInfo} (h : tbytes P t = some b) (hi : P.info? t = some i) : i.bytes = b := by
  unfold tbytes at h
  rw [hi] at h
  simpa using h
theorem makeSlice_VS (hR : Rel m H.get w) {t e c l k bytes : Nat} {z : List AV} {q1 q2 : IntKind} (ht : telem P t = some e) (hb : tbytes P e = some bytes) (hz : tzero P e = some z)
    (hok : (Nat.ble l k && Nat.ble (k * (bytes + 1)) 1000000) = true) (hc : m c = none) :
    VS P m H w c (.sl c 0 l k true) (newB H c e 1 (rep z k) false 0) (c + 1) (Instr.makeSlice t (.int q1 (l : Int)) (.int q2 (k : Int))) := by
  obtain ⟨i, zv, hi, hzv, hl, hlen⟩ := tzero_sound m hz
  rw [Bool.and_eq_true, Nat.ble_eq, Nat.ble_eq] at hok
  obtain ⟨hlk, hkb⟩ := hok
  have hbytes := tbytes_eq hb hi
  have hk : k ≤ 1000000 := by rw [Nat.mul_add] at hkb; omega
  have hkb2 : bytes * k ≤ 1000000 := by rw [Nat.mul_add, Nat.mul_comm] at hkb; omega
  have hsz : zv.cells.size = i.size := by have := hl.1; rw [← hlen, this]; simp
  have h2 := rep_LR hl k
  obtain ⟨h3, h4⟩ := row_new hR (ty := e) (sz := 1) (fz := 0) (opn := false) (C := (Array.range (k * zv.cells.size)).map (fun i => zv.cells[i % zv.cells.size]!)) (δ := 0) hc (by rw [h2.1, Array.length_toList, Nat.zero_mul, Nat.add_zero]) (fun _ => rfl) h2.cells (w0 := w) rfl rfl rfl rfl
  have w1 : IntKind.i64.wrap (l : Int) = l := wrap_small (by omega) (by show _ < ((9223372036854775808 : Nat) : Int); omega)
  have w2 : IntKind.i64.wrap (k : Int) = k := wrap_small (by omega) (by show _ < ((9223372036854775808 : Nat) : Int); omega)
  refine ⟨.slice (some ⟨w.heap.size, 0, none⟩) l k, _, _, ?_, by simpa using (VR.sl (off := 0) (len := l) (cap := k) (ex := true) (put_self m c w.heap.size 0)), h3, h4⟩
  have hcond : ¬ ((decide ((k : Int) < 0) || decide ((i.bytes : Int) * (k : Int) > 2 ^ 48) || decide ((l : Int) < 0) || decide ((l : Int) > k)) = true) := by
    have : ((i.bytes : Int) * (k : Int)) ≤ 1000000 := by
      have h9 := Int.ofNat_le.2 hkb2
      rw [Int.natCast_mul] at h9
      rw [hbytes]
      exact h9
    simp
    omega
  simp only [Instr.makeSlice, Sem.run_bind, run_underlying (telem_eq ht), Result.andThen_ok, asInt, asIntOf, Sem.run_pure, typeInfo, run_program, hi, w1, w2]
  rw [if_neg hcond]
  simp only [Sem.run_bind, run_askRoom, Result.andThen_ok, sizeOf, typeInfo, run_program, hi, Sem.run_pure, Int.toNat_natCast]
  by_cases hn : k * i.size = 0
  · have hn2 : k * zv.cells.size = 0 := by rw [hsz]; exact hn
    have hr0 : Array.range 0 = #[] := rfl
    simp [hn, hn2, newRow, hr0]
  · simp [hn, zeroValue, typeInfo, hi, hzv, newRow, hsz]

/-- What can be read of a slice or a string. -/
theorem srcN_sound {x : AV} {n : Nat} (h : srcN x = some n) {u : Value} (hx : VR m x u) (w : World) : (Builtin.lenOf u).run P w = .ok n w := by
  unfold srcN at h
  split at h
  · cases h; cases hx; rfl
  · cases h; cases hx; rfl
  · cases h
    cases hx with
    | str hc => simp [Builtin.lenOf, dec_size]
  · cases h
theorem strC_LR : ∀ (n c : Nat), LR m (strC n c) ((decL n c).map fun b => Value.int .u8 b.toNat)
  | 0, _ => LR.nil
  | n + 1, c => by
    simp only [strC, decL, List.map_cons]
    refine LR.cons ?_ (strC_LR n (c / 256))
    have : (((UInt8.ofNat (c % 256)).toNat : Nat) : Int) = Int.ofNat (c % 256) := by simp
    rw [this]
    exact .int _ _
theorem srcC_sound (hR : Rel m H.get w) {x : AV} {size n : Nat} {l : List AV} (h : srcC H size x = some l) (hn : srcN x = some n) {u : Value} (hx : VR m x u) :
    ∃ vs : List Value, LR m l vs ∧ vs.length = n * size ∧ ∀ w1 : World, w1.heap = w.heap → (Builtin.firstCells size n u).run P w1 = .ok vs.toArray w1 := by
  unfold srcC at h
  split at h
  · cases h; cases hx; cases hn
    exact ⟨[], LR.nil, by simp, fun w1 _ => by simp [Builtin.firstCells]⟩
  · rename_i b off k cap ex
    cases hn
    cases hx with
    | @sl _ _ _ _ _ blk δ hm =>
      obtain ⟨vs, h1, h2, h3⟩ := rdC_sound hR h hm
      refine ⟨vs, h1, h2, fun w1 e => ?_⟩
      have hr := run_loadCells_list (P := P) w1 ⟨blk, off, none⟩ vs (fun j v hj => by
        rw [add_plain]
        have := h3 j v hj
        simp only [World.cell?, e] at this ⊢
        exact this)
      rw [h2] at hr
      exact hr
  · rename_i len code
    split at h
    · rename_i hs1
      have hs1 := Nat.eq_of_beq_eq_true hs1
      subst hs1
      cases h
      cases hn
      obtain ⟨rfl, hc⟩ := hx.str_inv
      refine ⟨_, strC_LR n code, by simp [decL_length], fun w1 _ => ?_⟩
      have e : ((dec n code).extract 0 n) = dec n code := by
        apply ByteArray.ext
        rw [ByteArray.data_extract]
        have : (dec n code).data.size = n := dec_size n code
        apply Array.ext'
        simp [List.extract_eq_take_drop]
        exact List.take_of_length_le (by simp [this])
      simp only [Builtin.firstCells, Sem.run_pure, e]
      congr 1
      simp [dec]
    · cases h
  · cases h

end
end Go.Proofs.YtknmbmdeilbdkaaGreatDoor.Ev
