/- slices.ContainsFunc at keys (71), its closure of rank.Joint (72). -/
import Derived.Test.YtemeppfikpafbaaGreatJoin
namespace Go.Proofs.YtemeppfikpafbaaGreat
open Go.RowKit Go.Maps
set_option maxRecDepth 100000 in
set_option maxHeartbeats 1000000 in
theorem indexK_any (l : List K4) (p : K4 → Bool) (v : Value) (B : Addr) (w : World) (hl : l.length < 1000000) (h : Row anyB w 4 l.length v (flatC kC l))
    (hcl : ∀ x ∈ l, ∀ W, More w W → Calls Tryz.prog 46 #[.agg #[.int .u8 x.kind, .int .i64 x.a, .int .i64 x.b, .int .i64 x.n], .pointer (some B)] W fun e w' => e = .returned (.bool (p x)) ∧ More W w') :
    Calls Tryz.prog 74 #[v, .func (.func 46) #[] #[.pointer (some B)]] w fun e w' => (∃ i : Int, e = .returned (.int .i64 i) ∧ decide (0 ≤ i) = l.any p) ∧ More w w' := by
  obtain ⟨a, cap, rfl, _⟩ := h.shape
  have HR := Lib.hid h; clear h
  have HCL := Lib.hid hcl; clear hcl
  go_enter Tryz.func74, Tryz.ntmps74
  go_wp2_with fail
  go_loopw [8] (fun i wr => ∃ j : Nat, j ≤ l.length ∧ i = .int .i64 j ∧ Hid (More w wr) ∧ Hid ((l.take j).any p = false)) (fun i _ => l.length - (intOf i).toNat)
  case atStart => exact ⟨0, Nat.zero_le _, rfl, Lib.hid (World.grownBy.refl _ _), Lib.hid (by simp)⟩
  case round =>
    obtain ⟨j, hj, rfl, HM, HN⟩ := hrel
    by_cases hlt : j < l.length
    · obtain ⟨b, off, rfl, _, hc⟩ := HR.out.atC kC_len hlt
      have g0 := HM.out.cell (hc 0 (.int .u8 l[j].kind) rfl)
      have g1 := HM.out.cell (hc 1 (.int .i64 l[j].a) rfl)
      have g2 := HM.out.cell (hc 2 (.int .i64 l[j].b) rfl)
      have g3 := HM.out.cell (hc 3 (.int .i64 l[j].n) rfl)
      rw [Nat.add_zero] at g0
      clear hc
      have HT := Lib.hid (show l.take (j + 1) = l.take j ++ [l[j]] from List.take_succ_eq_append_getElem hlt)
      have HX := Lib.hid (HCL.out l[j] (List.getElem_mem hlt))
      have HANY := Lib.hid (show p l[j] = true → l.any p = true from fun h => List.any_eq_true.2 ⟨_, List.getElem_mem hlt, h⟩)
      generalize l[j] = x at *
      obtain ⟨q, HQ⟩ : ∃ q, Hid (p x = q) := ⟨_, Lib.hid rfl⟩
      rw [HQ.out] at HX HANY
      have hbg := cell_lt g0
      go_wp2_with fail
      refine (HX.out _ HM.out).mono ?_
      rintro e w2 ⟨rfl, hm2⟩
      have HM2 := Lib.hid (more_trans HM.out hm2)
      clear hm2 g0 g1 g2 g3 hbg
      cases q with
      | true =>
        go_wp2_with fail
        go_ret
        exact ⟨⟨j, rfl, by rw [HANY.out (by simp), decide_eq_true_iff]; omega⟩, HM2.out⟩
      | false =>
        go_wp2_with fail
        go_roundw
        case rel => exact ⟨j + 1, by omega, by go_num, HM2, Lib.hid (by rw [HT.out, List.any_append, HN.out]; simp [HQ.out])⟩
        case measure => simp [intOf]; omega
    · obtain rfl : j = l.length := by omega
      rw [List.take_of_length_le (Nat.le_refl _)] at HN
      go_wp2_with fail
      go_ret
      exact ⟨⟨-1, rfl, by rw [HN.out]; rfl⟩, HM.out⟩
set_option maxRecDepth 100000 in
theorem containsK_any (l : List K4) (p : K4 → Bool) (v : Value) (B : Addr) (w : World) (hl : l.length < 1000000) (h : Row anyB w 4 l.length v (flatC kC l))
    (hcl : ∀ x ∈ l, ∀ W, More w W → Calls Tryz.prog 46 #[.agg #[.int .u8 x.kind, .int .i64 x.a, .int .i64 x.b, .int .i64 x.n], .pointer (some B)] W fun e w' => e = .returned (.bool (p x)) ∧ More W w') :
    Calls Tryz.prog 45 #[v, .func (.func 46) #[] #[.pointer (some B)]] w fun e w' => e = .returned (.bool (l.any p)) ∧ More w w' := by
  obtain ⟨a, cap, rfl, _⟩ := h.shape
  have HI := Lib.hid (indexK_any l p _ B w hl h hcl)
  clear h hcl
  go_enter Tryz.func45, Tryz.ntmps45
  go_wp2_with fail
  refine HI.out.mono ?_
  rintro e w2 ⟨⟨i, rfl, hi⟩, hm⟩
  have HM := Lib.hid hm
  have HD := Lib.hid hi
  clear hm hi
  go_wp2_with fail
  go_ret
  exact ⟨by rw [← HD.out]; rfl, HM.out⟩
/-- Block b is a map to true whose keys are those of X. -/
def HasM (w : World) (b m : Nat) (X : List K4) : Prop :=
  ∃ n D, w.ownsMap (H := Unit) Tryz.prog 54 (plainElem Tryz.prog 4) b n D ∧ n ≤ m ∧ ∀ x : K4, x.Ok → D.atKey (kL x) (boolD false) = boolD (decide (x ∈ X))
theorem HasM.keep {w w' : World} {b m : Nat} {X : List K4} (h : HasM w b m X) (hb : w'.heap[b]? = w.heap[b]?) : HasM w' b m X := by
  obtain ⟨n, D, ⟨es, clock, h1, h2⟩, h3⟩ := h
  exact ⟨n, D, ⟨es, clock, hb.trans h1, h2⟩, h3⟩
theorem HasM.lt {w : World} {b m : Nat} {X : List K4} (h : HasM w b m X) : b < w.heap.size := by
  obtain ⟨n, D, ho, _⟩ := h
  exact ho.lt
theorem HasM.start (w : World) : HasM (w.alloc (.map #[] 0)) w.heap.size 0 [] :=
  ⟨0, .map [], World.ownsMap_made w _ _ _, Nat.le_refl _, fun _x _ => rfl⟩
theorem zero4 (w : World) : (zeroValue 4).run Tryz.prog w = .ok (.bool false) w := by kernel_rfl
theorem plainElem_bool_inv {P : Program} {e : TypeId} (he : P.underlying e = some .bool) {v : Value} {y : DataW Unit × List MemPlace} (h : plainElem (H := Unit) P e v = some y) : ∃ q, v = .bool q ∧ y = (boolD q, []) := by
  unfold plainElem at h
  rw [he] at h
  cases v with
  | bool q => exact ⟨q, rfl, (Option.some.inj h).symm⟩
  | _ => cases h
theorem HasM.look {w : World} {b m : Nat} {X : List K4} (h : HasM w b m X) {x : K4} (hx : x.Ok) : (Instr.lookup 101 (.map (some b)) (kA x) false).run Tryz.prog w = .ok (.bool (decide (x ∈ X))) w := by
  obtain ⟨n, D, ho, _, ha⟩ := h
  obtain ⟨v, ps, hr, hv⟩ := ho.lookup lawK Tryz.underlying101 (zero4 w) (plainElem_bool Tryz.underlying4 false) (keyOf_K x hx)
  rw [show (DataW.lit (Lit.bool false) : DataW Unit) = boolD false from rfl, ha x hx] at hv
  obtain ⟨q, rfl, hy⟩ := plainElem_bool_inv Tryz.underlying4 hv
  have hq : decide (x ∈ X) = q := by simpa [boolD] using (Prod.mk.inj hy).1
  rw [hq]; exact hr
theorem HasM.put {w w' : World} {b n m : Nat} {X : List K4} {D : DataW Unit} {x : K4} (ho : w.ownsMap (H := Unit) Tryz.prog 54 (plainElem Tryz.prog 4) b n D) (hx : x.Ok) (hn : n ≤ m) (ha : ∀ x : K4, x.Ok → D.atKey (kL x) (boolD false) = boolD (decide (x ∈ X)))
    (h : w'.ownsMap (H := Unit) Tryz.prog 54 (plainElem Tryz.prog 4) b (n + 1) (D.put (kL x) (boolD true))) : HasM w' b (m + 1) (X ++ [x]) := by
  refine ⟨n + 1, _, h, by omega, fun y hy => ?_⟩
  by_cases e : y = x
  · subst e
    rw [atKey_put_same ho.isMap (show WideAt.IsKeyLit (kL y) from trivial), decide_eq_true (show y ∈ X ++ [y] by simp)]
  · have hne : kL y ≠ kL x := fun he => e (kL_inj hy hx he)
    rw [atKey_put_other hne, ha y hy]
    congr 1
    rw [decide_eq_decide, List.mem_append, List.mem_singleton]
    exact ⟨Or.inl, fun h => h.elim id (fun h => absurd h e)⟩
set_option maxRecDepth 100000 in
theorem clos72_any (x : K4) (hx : x.Ok) (X : List K4) (HB b m : Nat) (w : World) (hc : w.cell? ⟨HB, 0, none⟩ = some (.map (some b))) (hm : HasM w b m X) :
    Calls Tryz.prog 46 #[.agg #[.int .u8 x.kind, .int .i64 x.a, .int .i64 x.b, .int .i64 x.n], .pointer (some ⟨HB, 0, none⟩)] w fun e w' => e = .returned (.bool (!decide (x ∈ X))) ∧ More w w' := by
  have HL := Lib.hid (Lay.alloc w (.cells #[.int .u8 x.kind, .int .i64 x.a, .int .i64 x.b, .int .i64 x.n] 54)).1
  have hlk : (Instr.lookup 101 (.map (some b)) (.agg #[.int .u8 x.kind, .int .i64 x.a, .int .i64 x.b, .int .i64 x.n]) false).run Tryz.prog (w.alloc (.cells #[.int .u8 x.kind, .int .i64 x.a, .int .i64 x.b, .int .i64 x.n] 54)) = .ok (.bool (decide (x ∈ X))) (w.alloc (.cells #[.int .u8 x.kind, .int .i64 x.a, .int .i64 x.b, .int .i64 x.n] 54)) := (hm.keep (HL.out.block hm.lt)).look hx
  obtain ⟨q, HQ⟩ : ∃ q, Hid (decide (x ∈ X) = q) := ⟨_, Lib.hid rfl⟩
  rw [HQ.out] at hlk ⊢
  have hh := cell_lt hc
  clear hm
  go_enter Tryz.func46, Tryz.ntmps46
  go_wp2_with fail
  go_ret
  exact ⟨rfl, HL.out⟩
end Go.Proofs.YtemeppfikpafbaaGreat
