/- Package-level variables that read as listed data: what their cells are. -/
import Derived.Test.YtknmbmdeilbdkaaGreatDoorEwG
import Derived.Lib.LaidU8
import Derived.Below
namespace Go.Proofs.YtknmbmdeilbdkaaGreatDoor.Ev
open Go
section
variable {P : Program} {H : Type}

/-- The cells of a datum, at a type (data without pointers). -/
def shapeF (sh : TypeId → DataW H → Option (List AV)) (P : Program) : List Field → List (DataW H) → Nat → Option (List AV)
  | [], [], _ => some []
  | f :: fs, d :: ds, off => match Nat.beq f.offset off, sh f.type d with
    | true, some l => match Nat.beq l.length (P.cellsOf f.type), shapeF sh P fs ds (off + P.cellsOf f.type) with
      | true, some r => some (l ++ r)
      | _, _ => none
    | _, _ => none
  | _, _, _ => none
def shapeA (sh : DataW H → Option (List AV)) (n : Nat) : List (DataW H) → Option (List AV)
  | [] => some []
  | d :: ds => match sh d with
    | some l => match Nat.beq l.length n, shapeA sh n ds with
      | true, some r => some (l ++ r)
      | _, _ => none
    | none => none
def shape (P : Program) : Nat → TypeId → DataW H → Option (List AV)
  | 0, _, _ => none
  | f + 1, t, d => match P.underlying t, d with
    | some .bool, .lit (.bool b) => some [.bool b]
    | some (.int _), .lit (.int k n) => some [.int k n]
    | some .string, .lit (.string bs) => some [.str bs.length (encL bs)]
    | some (.struct fs), .agg ds => match shapeF (shape P f) P fs.toList ds 0 with
      | some l => match Nat.beq l.length (P.cellsOf t) with
        | true => some l
        | false => none
      | none => none
    | some (.array _ e), .agg ds => match shapeA (shape P f e) (P.cellsOf e) ds with
      | some l => match Nat.beq l.length (P.cellsOf t) with
        | true => some l
        | false => none
      | none => none
    | _, _ => none
theorem LR.split {m : Ren} {l r : List AV} {cs : List Value} {off a : Nat} (h1 : LR m l ((cs.drop off).take a)) (ha : l.length = a) {b : Nat} (h2 : LR m r ((cs.drop (off + a)).take b)) : LR m (l ++ r) ((cs.drop off).take (a + b)) := by
  rw [List.take_add, List.drop_drop]
  exact h1.append h2
theorem str_of (m : Ren) (s : ByteArray) : VR m (.str s.data.toList.length (encL s.data.toList)) (.string s) := by
  have := VR.str (m := m) (encL_lt s.data.toList)
  rwa [dec_bytes] at this
theorem shape_sound {enc : TypeId × Value → H} {w : World} {base : Nat} {sp : Nat → Bool} {held : Bool} (m : Ren) : ∀ (f fuel : Nat) (t : TypeId) (d : DataW H) (cs : List Value) (p : List MemPlace) (l : List AV), shape P f t d = some l → DataW.trod enc P w base sp held fuel t cs = some (d, p) → LR m l cs
  | 0, _, _, _, _, _, _, h, _ => by cases h
  | _ + 1, 0, _, _, _, _, _, _, h => by cases h
  | f + 1, fuel + 1, t, d, cs, p, l, h, ht => by
    have ih := shape_sound (enc := enc) (w := w) (base := base) (sp := sp) (held := held) m f fuel
    unfold shape at h
    split at h
    · rename_i b hu
      cases h
      simp only [DataW.trod, hu] at ht
      split at ht
      all_goals (rename_i hx _; try (cases hx))
      all_goals first
        | (simp only [Option.some.injEq, Prod.mk.injEq, DataW.lit.injEq, Lit.bool.injEq] at ht; obtain ⟨rfl, _⟩ := ht; exact LR.cons (.bool _) LR.nil)
        | (exfalso; simp_all; done)
    · rename_i kk k n hu
      cases h
      simp only [DataW.trod, hu] at ht
      split at ht
      all_goals (rename_i hx _; try (cases hx))
      all_goals first
        | (split at ht
           · rename_i hk
             simp only [Option.some.injEq, Prod.mk.injEq, DataW.lit.injEq, Lit.int.injEq] at ht
             obtain ⟨⟨rfl, rfl⟩, _⟩ := ht
             obtain ⟨rfl, _⟩ := hk
             exact LR.cons (.int _ _) LR.nil
           · cases ht)
        | (exfalso; simp_all; done)
    · rename_i bs hu
      cases h
      simp only [DataW.trod, hu] at ht
      split at ht
      all_goals (rename_i hx _; try (cases hx))
      all_goals first
        | (split at ht
           · simp only [Option.some.injEq, Prod.mk.injEq, DataW.lit.injEq, Lit.string.injEq] at ht
             obtain ⟨rfl, _⟩ := ht
             exact LR.cons (str_of m _) LR.nil
           · cases ht)
        | (exfalso; simp_all; done)
    · rename_i fs ds hu
      split at h
      · rename_i l' hl
        split at h
        · rename_i hlen
          have hlen := Nat.eq_of_beq_eq_true hlen
          cases h
          simp only [DataW.trod, hu] at ht
          split at ht
          · rename_i hcs
            obtain ⟨xs, hm, hx⟩ := Option.map_eq_some_iff.1 ht
            simp only [Prod.mk.injEq, DataW.agg.injEq] at hx
            obtain ⟨hds, _⟩ := hx
            have key : ∀ (fs : List Field) (ds : List (DataW H)) (xs : List (DataW H × List MemPlace)) (off : Nat) (l : List AV), fs.mapM (fun f => DataW.trod enc P w base sp held fuel f.type ((cs.drop f.offset).take (P.cellsOf f.type))) = some xs → xs.map (·.1) = ds → shapeF (shape P f) P fs ds off = some l → LR m l ((cs.drop off).take l.length) := by
              intro fs
              induction fs with
              | nil =>
                intro ds xs off l h1 h2 h3
                simp at h1
                subst h1
                simp at h2
                subst h2
                cases h3
                exact LR.nil
              | cons x fs ihf =>
                intro ds xs off l h1 h2 h3
                rw [List.mapM_cons] at h1
                simp only [Option.bind_eq_bind, Option.bind_eq_some_iff, Option.pure_def, Option.some.injEq] at h1
                obtain ⟨y, hy, ys, hys, rfl⟩ := h1
                simp at h2
                subst h2
                simp only [shapeF] at h3
                split at h3
                · rename_i l1 ho hs
                  have ho := Nat.eq_of_beq_eq_true ho
                  split at h3
                  · rename_i r hn hr
                    have hn := Nat.eq_of_beq_eq_true hn
                    cases h3
                    rw [ho] at hy
                    have h4 := ih x.type y.1 _ y.2 l1 hs hy
                    have h5 := ihf _ ys _ r hys rfl hr
                    rw [List.length_append, hn]
                    exact h4.split hn h5
                  · cases h3
                · cases h3
            have := key fs.toList ds xs 0 l hm hds hl
            rw [List.drop_zero, hlen, ← hcs, List.take_length] at this
            exact this
          · cases ht
        · cases h
      · cases h
    · rename_i n e ds hu
      split at h
      · rename_i l' hl
        split at h
        · rename_i hlen
          have hlen := Nat.eq_of_beq_eq_true hlen
          cases h
          simp only [DataW.trod, hu] at ht
          split at ht
          · rename_i hcs
            obtain ⟨xs, hm, hx⟩ := Option.map_eq_some_iff.1 ht
            simp only [Prod.mk.injEq, DataW.agg.injEq] at hx
            obtain ⟨hds, _⟩ := hx
            have key : ∀ (is : List Nat) (i0 : Nat) (ds : List (DataW H)) (xs : List (DataW H × List MemPlace)) (l : List AV), is = List.range' i0 is.length → is.mapM (fun i => DataW.trod enc P w base sp held fuel e ((cs.drop (i * P.cellsOf e)).take (P.cellsOf e))) = some xs → xs.map (·.1) = ds → shapeA (shape P f e) (P.cellsOf e) ds = some l → LR m l ((cs.drop (i0 * P.cellsOf e)).take l.length) := by
              intro is
              induction is with
              | nil =>
                intro i0 ds xs l _ h1 h2 h3
                simp at h1
                subst h1
                simp at h2
                subst h2
                cases h3
                exact LR.nil
              | cons x is ihf =>
                intro i0 ds xs l h0 h1 h2 h3
                rw [List.length_cons, List.range'_succ] at h0
                simp only [List.cons.injEq] at h0
                obtain ⟨rfl, h0⟩ := h0
                rw [List.mapM_cons] at h1
                simp only [Option.bind_eq_bind, Option.bind_eq_some_iff, Option.pure_def, Option.some.injEq] at h1
                obtain ⟨y, hy, ys, hys, rfl⟩ := h1
                simp at h2
                subst h2
                simp only [shapeA] at h3
                split at h3
                · rename_i l1 hs
                  split at h3
                  · rename_i r hn hr
                    have hn := Nat.eq_of_beq_eq_true hn
                    cases h3
                    have h4 := ih e y.1 _ y.2 l1 hs hy
                    have h5 := ihf (x + 1) _ ys r h0 hys rfl hr
                    rw [Nat.succ_mul] at h5
                    rw [List.length_append, hn]
                    exact h4.split hn h5
                  · cases h3
                · cases h3
            have := key (List.range n) 0 ds xs l (by rw [List.range_eq_range']; simp) hm hds hl
            rw [Nat.zero_mul, List.drop_zero, hlen, ← hcs, List.take_length] at this
            exact this
          · cases ht
        · cases h
      · cases h
    · cases h
/-- A listed variable's block. -/
theorem glob_of_reads {W : World} {name : String} {d : DataW Unit} {g : Nat} {t : TypeId} {l : List AV} (m : Ren) (hr : Lib.VarReads P W name d) (hg : P.globalNamed name = some g) (ht : (P.globals[g]?).map (·.type) = some t) (hs : shape P 8 t d = some l) :
    ∃ C ty fr, W.heap[g]? = some (.cells C ty fr) ∧ LR m l C.toList := by
  obtain ⟨g', t', cs, fuel, p, h1, h2, h3, h4⟩ := hr
  obtain rfl := Option.some.inj (hg.symm.trans h1)
  obtain rfl := Option.some.inj (ht.symm.trans h2)
  unfold World.var? at h3
  rw [hg] at h3
  simp only [Option.bind_some] at h3
  split at h3
  · rename_i C' ty fr hC
    cases h3
    exact ⟨_, ty, fr, hC, shape_sound m 8 fuel _ d _ p l hs h4⟩
  · cases h3
/-- A listed variable's number and its cells. -/
def gshape (P : Program) (name : String) (d : DataW Unit) : Option (Nat × List AV) := match P.globalNamed name with
  | some g => match (P.globals[g]?).map (·.type) with
    | some t => match shape P 8 t d with
      | some l => some (g, l)
      | none => none
    | none => none
  | none => none
theorem glob_of_gshape {W : World} {name : String} {d : DataW Unit} {g : Nat} {l : List AV} (m : Ren) (hr : Lib.VarReads P W name d) (h : gshape P name d = some (g, l)) : ∃ C ty fr, W.heap[g]? = some (.cells C ty fr) ∧ LR m l C.toList := by
  unfold gshape at h
  split at h
  · rename_i g' hg
    split at h
    · rename_i t ht
      split at h
      · rename_i l' hl
        cases h
        exact glob_of_reads m hr hg ht hl
      · cases h
    · cases h
  · cases h
theorem lk_mem {i : Nat} {b : AB} : ∀ {l : List (Nat × LB)}, lk l i = some b → ∃ p ∈ l, p.1 = i ∧ p.2.ab = b
  | [], h => by cases h
  | p :: l, h => by
    rw [lk_cons] at h
    split at h
    · rename_i e
      cases h
      exact ⟨p, List.mem_cons_self, e.symm, rfl⟩
    · obtain ⟨q, h1, h2⟩ := lk_mem h
      exact ⟨q, List.mem_cons_of_mem _ h1, h2⟩
/-- What a call does that knows the package-level variables alone, and only reads them. -/
theorem orc_calls {o : Orc} {G : Nat} (ho : OrcS P G o) (hc : o.c = G) (hargs : o.args = []) {b : Bool} (hv : o.v = .bool b) {W : World} (hg : ∀ p ∈ o.pre, p.1 < G ∧ p.2.ab.ro = true ∧ ∀ m, ∃ x, W.heap[p.1]? = some x ∧ BR m p.2.ab 0 x) :
    ∀ w1 : World, w1.heap = W.heap → Calls P o.f #[] w1 fun e w' => e = .returned (.bool b) ∧ RowKit.Below w1.heap.size w1 w' := by
  intro w1 hw
  let m : Ren := fun i => if i < G then some (i, 0) else none
  have hm : ∀ i p, m i = some p → i < G ∧ p = (i, 0) := fun i p h => by
    simp only [m] at h
    split at h
    · rename_i hi; cases h; exact ⟨hi, rfl⟩
    · cases h
  have hR : Rel m (lk o.pre) w1 := by
    refine ⟨fun i x hi => ?_, fun i j x y k δ δ' hi hj h1 h2 => ?_⟩
    · obtain ⟨p, h1, rfl, rfl⟩ := lk_mem hi
      obtain ⟨h2, _, h3⟩ := hg p h1
      obtain ⟨x, h4, h5⟩ := h3 m
      exact ⟨p.1, 0, x, by simp [m, h2], by rw [hw]; exact h4, h5⟩
    · have e1 := (hm i _ h1).2
      have e2 := (hm j _ h2).2
      cases e1
      cases e2
      rfl
  have hG : Glob m G := fun g hg => by simp [m, hg]
  have hfr : Fresh m o.c o.c' := fun i h1 h2 => by
    rw [hc] at h1
    simp only [m]
    rw [if_neg (by omega)]
  have := ho.2.2 Fence.wide m w1 [] ⟨fun _ => trivial, rfl⟩ hG hfr (by rw [hargs]; exact LR.nil) hR
  rw [callsIn_wide] at this
  refine this.mono ?_
  rintro e w' ⟨v, m', rfl, h1, _, h3⟩
  rw [hv] at h1
  refine ⟨by rw [h1.bool_inv], ?_⟩
  refine ⟨h3.os, h3.tape, h3.output, h3.size, fun k hk => h3.keep k hk fun i x δ hi hro => ?_⟩
  obtain ⟨p, h4, rfl, rfl⟩ := lk_mem hi
  rw [(hg p h4).2.1] at hro
  cases hro
theorem glob_BR {m : Ren} {n : Nat} {l : List AV} {C : Array Value} {ty : TypeId} {fr : Nat × Nat} (hl : LR m l C.toList) (hn : n = l.length) (δ : Nat) : BR m (LB.glob n l).ab δ (.cells C ty fr) := by
  subst hn
  refine ⟨C, ty, fr, rfl, ?_, fun i a hi => ?_⟩
  · have := hl.1
    simp at this
    omega
  · rcases setC_spec hi with ⟨_, q⟩ | ⟨_, q⟩
    · simp only [Nat.sub_zero] at q
      obtain ⟨v, h1, h2⟩ := hl.get q
      exact ⟨(List.getElem?_eq_some_iff.1 q).1, v, by simpa using h1, h2⟩
    · simp [Tr.get_e] at q
end
end Go.Proofs.YtknmbmdeilbdkaaGreatDoor.Ev
