/- append whole, copy, conversions, loads and stores: operations but calls of functions. -/
import Derived.Test.YtknmbmdeilbdkaaGreatDoorEvN
namespace Go.Proofs.YtknmbmdeilbdkaaGreatDoor.Ev
open Go
section
variable {P : Program} {m : Ren} {w : World} {H H' : Tr AB}

theorem sl_inv {b off len cap : Nat} {ex : Bool} {v : Value} (h : VR m (.sl b off len cap ex) v) : ∃ blk δ, m b = some (blk, δ) ∧ v = .slice (some ⟨blk, off, none⟩) len (if ex then cap else cap + δ) := by
  cases h with
  | sl hb => exact ⟨_, _, hb, rfl⟩
theorem store_nil (a : Addr) : (storeCells a [] 0).run P w = .ok () w := rfl
theorem run_app_zero {st xt e ty : TypeId} {ts : List TypeId} {i : TypeInfo} {z : Value} {k : IntKind} {n : Nat} (ht : P.underlying st = some (.slice e)) (hx : isIntT P xt = some true) (hi : P.info? e = some i) (hz : i.zero = some z)
    (hn : 0 < n) (hs : 0 < i.size) (hb : n * (i.bytes + 1) ≤ 1000000) :
    (Builtin.append_ ⟨st :: xt :: ts⟩ ty #[.slice none 0 0, .int k (n : Int)]).run P w =
      .ok (.slice (some ⟨w.heap.size, 0, none⟩) n (grownCap w n 0 e)) (w.drew.alloc (.cells (Builtin.zeroCells z.cells n ++ Builtin.zeroCells z.cells (grownCap w n 0 e - n)) e)) := by
  obtain ⟨k', hk⟩ : ∃ k', P.underlying xt = some (.int k') := by
    unfold isIntT at hx
    split at hx
    · rename_i k' hu; exact ⟨k', hu⟩
    · cases hx
    · cases hx
  rw [Nat.mul_add, Nat.mul_one] at hb
  have hb1 : n * i.bytes ≤ 1000000 := by omega
  have hn1 : n ≤ 1000000 := by omega
  have hw : IntKind.i64.wrap (n : Int) = n := wrap_small (by omega) (by show _ < ((9223372036854775808 : Nat) : Int); omega)
  have h1 := growslice_fits (old := 0) (need := n) (bytes := i.bytes) hn (by omega)
  have h1' : ¬ 281474976710656 < Builtin.nextslicecap n 0 * i.bytes := by omega
  have h2 : ¬ ((9223372036854775807 : Int) < (n : Int)) := by omega
  have h3 : ¬ ((n : Int) < 0) := by omega
  have h4 : ¬ ((281474976710656 : Int) < (n : Int) * (i.bytes : Int)) := by
    have h9 := Int.ofNat_le.2 hb1
    rw [Int.natCast_mul] at h9
    omega
  have hmax : IntKind.i64.max = 9223372036854775807 := rfl
  have hforce : (Question.appendCap n 0 e).forced = false := rfl
  have hg : (Question.appendCap n 0 e).cut (w.tape w.drawn (Question.appendCap n 0 e)) = grownCap w n 0 e := rfl
  have hne : ¬ n = 0 := by omega
  have hse : ¬ i.size = 0 := by omega
  simp only [Builtin.append_, List.getElem?_toArray, List.getElem?_cons_zero, List.getElem?_cons_succ, Sem.run_bind, run_underlying ht, Result.andThen_ok, sizeOf, typeInfo, run_program, hi, Sem.run_pure, run_underlying hk, asInt, asIntOf, hw, hmax]
  simp [hw, h1', h2, h3, h4, hforce, hg, zeroValue, typeInfo, hi, hz, newRow, hne, hse, Builtin.firstCells]
  exact fun h0 => absurd h0 (Nat.mul_ne_zero hne hse)
theorem appZ_VS (hR : Rel m H.get w) {c e : Nat} {st xt ty : TypeId} {ts : List TypeId} {s x : AV} {r : MR} (ht : telem P st = some e) (hxt : isIntT P xt = some true) (h : appZ P H c e s x = some r) {u y : Value} (hs : VR m s u) (hx : VR m x y) :
    c ≤ r.c ∧ (Fresh m c r.c → VS P m H w c r.v r.H r.c (Builtin.append_ ⟨st :: xt :: ts⟩ ty #[u, y])) := by
  unfold appZ at h
  split at h
  · rename_i k n z bytes hz hby
    split at h
    · rename_i hok
      rw [Bool.and_eq_true, Bool.and_eq_true, Nat.blt_eq, Nat.ble_eq, Nat.blt_eq] at hok
      obtain ⟨hn, hb, hzl⟩ := hok
      unfold appNew at h
      obtain ⟨v, hv, rfl⟩ := mkM_inv h
      rw [mkS_eq] at hv
      cases hv
      refine ⟨Nat.le_succ c, fun hc => ?_⟩
      have hc := hc c (Nat.le_refl _) (Nat.lt_succ_self _)
      obtain ⟨i, zv, hi, hzv, hlz, hzs⟩ := tzero_sound m hz
      have hbi := tbytes_eq hby hi
      cases hs
      cases hx with
      | int _ _ =>
      have hsz : zv.cells.size = z.length := by rw [hlz.1]; simp
      have hge := grownCap_ge w n 0 e
      have hl := rep_LR hlz n
      obtain ⟨h1, h2, h3⟩ := app_row hR (e := e) (size := z.length) (fz := 0) (n := n) (nc := grownCap w n 0 e) (z := zv.cells) hl (rep_length z n) rfl hsz hge hc
      have hrun := run_app_zero (P := P) (w := w) (ts := ts) (ty := ty) (k := k) (n := n) (telem_eq ht) hxt hi hzv hn (by omega) (by rw [hbi]; exact hb)
      refine ⟨_, _, _, hrun, h3, ?_, ?_⟩
      · have hz0 : Builtin.zeroCells zv.cells n = ((Array.range (n * zv.cells.size)).map (fun i => zv.cells[i % zv.cells.size]!)).toList.toArray := (Array.toArray_toList).symm
        rw [hz0]
        exact h1
      · have hz0 : Builtin.zeroCells zv.cells n = ((Array.range (n * zv.cells.size)).map (fun i => zv.cells[i % zv.cells.size]!)).toList.toArray := (Array.toArray_toList).symm
        rw [hz0]
        exact h2
    · cases h
  · cases h
theorem append_VS (hR : Rel m H.get w) {c : Nat} {ts : List TypeId} {ty : TypeId} {s x : AV} {r : MR} (h : aappend P H c ts s x = some r) {u y : Value} (hs : VR m s u) (hx : VR m x y) :
    c ≤ r.c ∧ (Fresh m c r.c → VS P m H w c r.v r.H r.c (Builtin.append_ ⟨ts⟩ ty #[u, y])) := by
  unfold aappend at h
  split at h
  · rename_i st xt ts
    split at h
    · rename_i e hxt ht
      have ht := telem_eq ht
      split at h
      · rename_i z bytes n hz hby hn
        obtain ⟨i, zv, hi, hzv, hlz, hzl⟩ := tzero_sound m hz
        split at h
        · cases h
        · rename_i new hnew
          obtain ⟨vs, hvs, hvl, hvf⟩ := srcC_sound (P := P) hR hnew hn hx
          have hlen := srcN_sound (P := P) hn hx w
          split at h
          · cases hs
            split at h
            · rename_i hn0
              have hn0 := Nat.eq_of_beq_eq_true hn0
              subst hn0
              obtain ⟨v, hv, rfl⟩ := mkM_inv h
              cases hv
              refine ⟨Nat.le_refl _, fun _ => VS.quiet hR ?_ .nils⟩
              have hv0 : vs = [] := src_nil rfl hvl
              subst hv0
              obtain ⟨d, hd, hk⟩ := isIntT_eq hxt
              have hm : (match d with | .int _ => true | _ => false) = false := by cases d <;> first | rfl | exact (hk _ rfl).elim
              have hvf' := hvf w rfl
              rw [hzl] at hvf'
              simp [Builtin.append_, run_underlying ht, sizeOf, typeInfo, hi, run_underlying hd, hm, hlen, hvf']
            · rename_i hn0
              have hn0 := Nat.ne_of_beq_eq_false hn0
              split at h
              · rename_i hok
                rw [Bool.and_eq_true, Nat.ble_eq, Nat.ble_eq] at hok
                exact appNew_VS (len := 0) (cap := 0) (a := none) (olds := []) hR (fun _ _ h => h) ht hxt hz hby hlen hvf (fun w1 _ => by simp [Builtin.firstCells]) (by simpa using hvs) (by rw [hvs.1, hvl, Nat.zero_add]) (by omega) (by rw [Nat.zero_add]; exact hok.1) (by rw [Nat.zero_add]; exact hok.2) (by rw [Nat.zero_add]; exact h)
              · cases h
          · rename_i b off len cap ex
            obtain ⟨blk, δ, hm, rfl⟩ := sl_inv hs
            split at h
            · rename_i hn0
              have hn0 := Nat.eq_of_beq_eq_true hn0
              subst hn0
              split at h
              · rename_i hlc
                have hlc := Nat.le_of_ble_eq_true hlc
                obtain ⟨v, hv, rfl⟩ := mkM_inv h
                cases hv
                refine ⟨Nat.le_refl _, fun _ => VS.quiet hR ?_ hs⟩
                have hv0 : vs = [] := src_nil rfl hvl
                subst hv0
                have hr := run_app_in (ts := ts) (ty := ty) (i := i) (len := len) (n := 0) (cap := if ex then cap else cap + δ) (a := ⟨blk, off, none⟩) (x := y) (news := []) (w' := w) ht hxt hi hlen (by rw [← hzl]; exact hvf w rfl) (by cases ex <;> simp <;> omega) rfl
                exact hr
              · cases h
            · unfold appSl at h
              split at h
              · rename_i hfit
                have hfit := Nat.le_of_ble_eq_true hfit
                split at h
                · rename_i H2 hw2
                  obtain ⟨v, hv, rfl⟩ := mkM_inv h
                  rw [mkS_eq] at hv
                  cases hv
                  refine ⟨Nat.le_refl _, fun _ => ?_⟩
                  obtain ⟨h1, h2, h3⟩ := wrC_sound (P := P) hR hw2 hm hvs c
                  refine ⟨_, _, m, ?_, .sl hm, h2, h3⟩
                  exact run_app_in (ts := ts) (ty := ty) (i := i) ht hxt hi hlen (by rw [← hzl]; exact hvf w rfl) (by cases ex <;> simp <;> omega) (by rw [add_plain, ← hzl]; exact h1)
                · cases h
              · rename_i hnf
                split at h
                · rename_i old hok hold
                  rw [Bool.and_eq_true, Bool.and_eq_true, Nat.ble_eq, Nat.ble_eq, Nat.ble_eq] at hok
                  obtain ⟨hk1, hk2, hk3⟩ := hok
                  obtain ⟨os, ho1, ho2, ho3⟩ := rdC_sound hR hold hm
                  have hof : ∀ w1 : World, w1.heap = w.heap → ∀ cp, (Builtin.firstCells z.length len (.slice (some ⟨blk, off, none⟩) len cp)).run P w1 = .ok os.toArray w1 := fun w1 e1 cp => by
                    have hr := run_loadCells_list (P := P) w1 ⟨blk, off, none⟩ os (fun j v hj => by
                      rw [add_plain]
                      have := ho3 j v hj
                      simp only [World.cell?, e1] at this ⊢
                      exact this)
                    rw [ho2] at hr
                    exact hr
                  have hcl : (old ++ new).length = (len + n) * z.length := by rw [List.length_append, ho1.1, hvs.1, ho2, hvl, Nat.add_mul]
                  have hnf : ¬ len + n ≤ cap := fun h' => by rw [Nat.ble_eq_true_of_le h'] at hnf; cases hnf
                  split at h
                  · exact appNew_VS (len := len) (cap := cap) (a := some ⟨blk, off, none⟩) (olds := os) hR (fun _ _ h => h) ht hxt hz hby hlen hvf (fun w1 e1 => hof w1 e1 _) (ho1.append hvs) hcl hnf hk1 hk2 h
                  · split at h
                    · rename_i ty' sz k cs opn fz hoff hb
                      have hoff := Nat.eq_of_beq_eq_true hoff
                      subst hoff
                      split at h
                      · rename_i hall
                        simp only [Bool.and_eq_true, Nat.ble_eq] at hall
                        obtain ⟨e1, e2, e3, e4, e5⟩ := hall
                        have e1 := Nat.eq_of_beq_eq_true e1
                        have e2 := Nat.eq_of_beq_eq_true e2
                        have e3 := Nat.eq_of_beq_eq_true e3
                        subst e1 e2
                        by_cases hroom : len + n ≤ cap + δ
                        · unfold appNew at h
                          obtain ⟨v, hv, rfl⟩ := mkM_inv h
                          rw [mkS_eq] at hv
                          cases hv
                          refine ⟨Nat.le_succ c, fun hc => ?_⟩
                          have hc := hc c (Nat.le_refl _) (Nat.lt_succ_self _)
                          have hcn : cap * z.length ≤ (len + n) * z.length := Nat.mul_le_mul_right _ (by omega)
                          obtain ⟨h1, h2, h3⟩ := app_grow (P := P) (n := len + n) (len := len) (c := c) hR hb hm (by rw [e3, ← Nat.add_mul]; exact Nat.mul_le_mul_right _ hroom) e4 e5 ho1 hvs ho2 (by rw [hvl]; congr 1; omega) (by omega) (by rw [e3]; exact hcn) ⟨cap, e3, by omega⟩ (fun j v hj => by have := ho3 j v hj; rwa [Nat.zero_add] at this) hc cap e3 hroom
                          refine ⟨_, _, _, run_app_in (ts := ts) (ty := ty) (i := i) ht hxt hi hlen (by rw [← hzl]; exact hvf w rfl) hroom (by rw [add_plain, ← hzl, Nat.zero_add]; exact h1), ?_, h2, h3⟩
                          have := VR.sl (off := 0) (len := len + n) (cap := len + n) (ex := false) (put_self m c blk (cap + δ - (len + n)))
                          simpa [show len + n + (cap + δ - (len + n)) = cap + δ by omega] using this
                        · exact appNew_VS (len := len) (cap := cap + δ) (a := some ⟨blk, 0, none⟩) (olds := os) hR (fun j y hj => (Tr.get_del hj).2) ht hxt hz hby hlen hvf (fun w1 e1 => hof w1 e1 _) (ho1.append hvs) hcl hroom hk1 hk2 h
                      · cases h
                    · cases h
                · cases h
          · cases h
      · cases h
    · rename_i e hxt ht
      exact appZ_VS hR ht hxt h hs hx
    · cases h
  · cases h

theorem srcC_take (hR : Rel m H.get w) {x : AV} {size n k : Nat} {l : List AV} (h : srcC H size x = some l) (hn : srcN x = some n) (hk : k ≤ n) {u : Value} (hx : VR m x u) :
    ∃ vs : List Value, LR m l vs ∧ (Builtin.firstCells size k u).run P w = .ok (vs.take (k * size)).toArray w := by
  unfold srcC at h
  split at h
  · cases h; cases hx; cases hn
    exact ⟨[], LR.nil, by simp [Builtin.firstCells]⟩
  · rename_i b off q cap ex
    cases hn
    cases hx with
    | @sl _ _ _ _ _ blk δ hm =>
      obtain ⟨vs, h1, h2, h3⟩ := rdC_sound hR h hm
      refine ⟨vs, h1, ?_⟩
      have hr := run_loadCells_list (P := P) w ⟨blk, off, none⟩ (vs.take (k * size)) (fun j v hj => by
        rw [add_plain]
        rw [List.getElem?_take] at hj
        split at hj
        · exact h3 j v hj
        · cases hj)
      have hle : k * size ≤ vs.length := by rw [h2]; exact Nat.mul_le_mul_right _ hk
      rw [List.length_take, Nat.min_eq_left hle] at hr
      exact hr
  · rename_i len code
    split at h
    · rename_i hs1
      have hs1 := Nat.eq_of_beq_eq_true hs1
      subst hs1
      cases h
      cases hn
      obtain ⟨rfl, hc⟩ := hx.str_inv
      refine ⟨_, strC_LR n code, ?_⟩
      have ext : (dec n code).extract 0 k = ⟨((decL n code).toArray).extract 0 k⟩ := by
        apply ByteArray.ext
        simp [dec]
      simp only [Builtin.firstCells, Sem.run_pure, ext]
      congr 1
      rw [List.extract_toArray, List.extract_eq_take_drop]
      simp [List.map_take]
    · cases h
  · cases h
theorem copy_VS (hR : Rel m H.get w) {c : Nat} {ts : List TypeId} {ty : TypeId} {d x : AV} {r : MR} (h : acopy P H c ts d x = some r) {u y : Value} (hd : VR m d u) (hx : VR m x y) :
    c ≤ r.c ∧ (Fresh m c r.c → VS P m H w c r.v r.H r.c (Builtin.copy_ ⟨ts⟩ ty #[u, y])) := by
  unfold acopy at h
  split at h
  · rename_i st ts
    split at h
    · cases h
    · rename_i e ht
      have ht := telem_eq ht
      split at h
      · cases h
      · rename_i size hsz
        split at h
        · rename_i n hn
          obtain ⟨v, hv, rfl⟩ := mkM_inv h
          rw [mkI_eq] at hv
          cases hv
          cases hd
          refine ⟨Nat.le_refl _, fun _ => VS.quiet hR (r := .int .i64 0) ?_ (.int _ _)⟩
          have hlen := srcN_sound (P := P) hn hx w
          have hf : (Builtin.firstCells size 0 y).run P w = .ok #[] w := by
            cases hx <;> simp [srcN] at hn <;> simp [Builtin.firstCells, loadCells, loadCellsFrom]
          simp [Builtin.copy_, run_underlying ht, run_tsize hsz, hlen, hf, goInt]
        · rename_i b off len cap ex n hn
          obtain ⟨blk, δ, hm, rfl⟩ := sl_inv hd
          split at h
          · cases h
          · rename_i l hl
            split at h
            · cases h
            · rename_i H2 hw2
              obtain ⟨v, hv, rfl⟩ := mkM_inv h
              rw [mkI_eq] at hv
              cases hv
              refine ⟨Nat.le_refl _, fun _ => ?_⟩
              obtain ⟨vs, hvs, hf⟩ := srcC_take (P := P) hR hl hn (Nat.min_le_left n len) hx
              have hlen := srcN_sound (P := P) hn hx w
              obtain ⟨h1, h2, h3⟩ := wrC_sound (P := P) hR hw2 hm (hvs.take (min n len * size)) c
              refine ⟨.int .i64 (Int.ofNat (min n len)), _, m, ?_, .int _ _, h2, h3⟩
              have hmin : Nat.min n len = min n len := rfl
              simp [Builtin.copy_, run_underlying ht, run_tsize hsz, hlen, hmin, hf, goInt, h1]
        · cases h
  · cases h
end
end Go.Proofs.YtknmbmdeilbdkaaGreatDoor.Ev
