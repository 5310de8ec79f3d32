/- Lists of causes in memory; maps from keys to degrees. -/
import Derived.Test.YtemeppfikpafbaaShr
import Derived.Maps.RangeWalk
namespace Go.Proofs.Ytemeppfikpafbaa
open Go.RowKit Go.Maps
def anyB : Nat → Prop := fun _ => True
/-- The slice v is a list of causes. -/
def pC (p : Value × Value) : List Value := [p.1, p.2]
theorem pC_len (p : Value × Value) : (pC p).length = 2 := rfl
def CRow (w : World) (l : List Cau) (v : Value) : Prop :=
  ∃ vs : List (Value × Value), vs.length = l.length ∧ Row anyB w 2 l.length v (flatC pC vs) ∧ ∀ (i : Nat) (h : i < l.length) (h' : i < vs.length), (Row anyB w 4 l[i].undo.length vs[i].1 (flatC kC l[i].undo) ∧ Row anyB w 3 l[i].hold.length vs[i].2 (flatC mC l[i].hold)) ∧ (∀ n c, (vs[i].1 = .slice none n c → c = 0) ∧ (vs[i].2 = .slice none n c → c = 0))
theorem CRow.below {w w' : World} {l : List Cau} {v : Value} (hB : Below w.heap.size w w') (h : CRow w l v) : CRow w' l v := by
  obtain ⟨vs, h1, h2, h3⟩ := h
  exact ⟨vs, h1, h2.below hB, fun i a b => ⟨⟨(h3 i a b).1.1.below hB, (h3 i a b).1.2.below hB⟩, (h3 i a b).2⟩⟩
theorem CRow.shape {w : World} {l : List Cau} {v : Value} (h : CRow w l v) : ∃ a cap, v = .slice a l.length cap ∧ l.length ≤ cap := by
  obtain ⟨vs, h1, h2, h3⟩ := h
  obtain ⟨a, cap, rfl, hc⟩ := h2.shape
  exact ⟨a, cap, rfl, hc⟩
/-- The cause at a place. -/
theorem CRow.at' {w : World} {l : List Cau} {a : Option Addr} {len cap : Nat} (h : CRow w l (.slice a len cap)) {i : Nat} (hi : i < l.length) :
    ∃ b off ua uc ha hc, a = some ⟨b, off, none⟩ ∧ w.cell? ⟨b, off + i * 2, none⟩ = some (.slice ua l[i].undo.length uc) ∧ w.cell? ⟨b, off + i * 2 + 1, none⟩ = some (.slice ha l[i].hold.length hc)
      ∧ Row anyB w 4 l[i].undo.length (.slice ua l[i].undo.length uc) (flatC kC l[i].undo) ∧ Row anyB w 3 l[i].hold.length (.slice ha l[i].hold.length hc) (flatC mC l[i].hold) ∧ (ua = none → uc = 0) ∧ (ha = none → hc = 0) := by
  obtain ⟨vs, h1, h2, h3⟩ := h
  have hi' : i < vs.length := by omega
  rw [← h1] at h2
  obtain ⟨b, off, rfl, _, hc⟩ := h2.atC pC_len hi'
  obtain ⟨⟨hu, hh⟩, hnz⟩ := h3 i hi hi'
  obtain ⟨ua, uc, eu, _⟩ := hu.shape
  obtain ⟨ha, hcp, eh, _⟩ := hh.shape
  have g0 := hc 0 vs[i].1 rfl
  have g1 := hc 1 vs[i].2 rfl
  rw [eu] at hu g0
  rw [eh] at hh g1
  rw [Nat.add_zero] at g0
  exact ⟨b, off, ua, uc, ha, hcp, rfl, g0, g1, hu, hh, fun e => (hnz _ uc).1 (by rw [eu, e]), fun e => (hnz _ hcp).2 (by rw [eh, e])⟩
theorem CRow.at {w : World} {l : List Cau} {a : Option Addr} {len cap : Nat} (h : CRow w l (.slice a len cap)) {i : Nat} (hi : i < l.length) :
    ∃ b off ua uc ha hc, a = some ⟨b, off, none⟩ ∧ w.cell? ⟨b, off + i * 2, none⟩ = some (.slice ua l[i].undo.length uc) ∧ w.cell? ⟨b, off + i * 2 + 1, none⟩ = some (.slice ha l[i].hold.length hc)
      ∧ Row anyB w 4 l[i].undo.length (.slice ua l[i].undo.length uc) (flatC kC l[i].undo) ∧ Row anyB w 3 l[i].hold.length (.slice ha l[i].hold.length hc) (flatC mC l[i].hold) := by
  obtain ⟨b, off, ua, uc, ha, hc, h1, h2, h3, h4, h5, _⟩ := h.at' hi
  exact ⟨b, off, ua, uc, ha, hc, h1, h2, h3, h4, h5⟩
/-- Degrees as elements of a map. -/
def ratD (p : Int × Int) : DataW Unit := .agg [.lit (.int .i64 p.1), .lit (.int .i64 p.2)]
def ratElem (v : Value) : Option (DataW Unit × List MemPlace) :=
  match v with
  | .agg ⟨[.int .i64 p, .int .i64 q]⟩ => some (ratD (p, q), [])
  | _ => none
theorem ratElem_mk (p : Int × Int) : ratElem (rA p) = some (ratD p, []) := rfl
theorem ratElem_inv {v : Value} {y : DataW Unit × List MemPlace} (h : ratElem v = some y) : ∃ p, v = rA p ∧ y = (ratD p, []) := by
  unfold ratElem at h
  split at h
  · cases h; exact ⟨(_, _), rfl, rfl⟩
  · cases h
theorem ratD_inj {p q : Int × Int} (h : ratD p = ratD q) : p = q := by
  obtain ⟨a, b⟩ := p
  obtain ⟨c, d⟩ := q
  simp [ratD] at h
  rw [h.1, h.2]
def degV (n : Nat) : Int × Int := if n = 0 then (0, 0) else degR n
theorem degV_pos {n : Nat} (h : 0 < n) : degV n = degR n := by unfold degV; rw [if_neg (by omega)]
theorem sameK {x y : K4} (hx : x.Ok) (hy : y.Ok) : (kL x).sameKey (kL y) = decide (x = y) := by
  by_cases h : x = y
  · subst h
    rw [decide_eq_true rfl]
    simp [kL, Lit.sameKey]
  · rw [decide_eq_false h]
    exact sameKey_ne (fun e => h (kL_inj hx hy e))
/-- Block b is a map from keys to the degrees f (0: the key is not in it). -/
def DegM (w : World) (b m : Nat) (f : K4 → Nat) : Prop :=
  ∃ n D, w.ownsMap (H := Unit) Try.prog 48 ratElem b n D ∧ n ≤ m ∧ (∀ x : K4, x.Ok → D.atKey (kL x) (ratD (0, 0)) = ratD (degV (f x))) ∧ (∀ kl, has D kl = true → ∃ x : K4, x.Ok ∧ kl = kL x ∧ 0 < f x) ∧ (∀ x : K4, x.Ok → 0 < f x → has D (kL x) = true)
theorem DegM.keep {w w' : World} {b m : Nat} {f : K4 → Nat} (h : DegM w b m f) (hb : w'.heap[b]? = w.heap[b]?) : DegM w' b m f := by
  obtain ⟨n, D, ⟨es, clock, h1, h2⟩, h3⟩ := h
  exact ⟨n, D, ⟨es, clock, hb.trans h1, h2⟩, h3⟩
theorem DegM.lt {w : World} {b m : Nat} {f : K4 → Nat} (h : DegM w b m f) : b < w.heap.size := by
  obtain ⟨n, D, ho, _⟩ := h
  exact ho.lt
theorem DegM.start (w : World) : DegM (w.alloc (.map #[] 0)) w.heap.size 0 (fun _ => 0) :=
  ⟨0, .map [], World.ownsMap_made w _ _ _, Nat.le_refl _, fun x _ => rfl, fun kl h => by simp [has_eq] at h, fun x _ h => absurd h (by simp)⟩
theorem zero32 (w : World) : (zeroValue 32).run Try.prog w = .ok (rA (0, 0)) w := by kernel_rfl
theorem DegM.look {w : World} {b m : Nat} {f : K4 → Nat} (h : DegM w b m f) {x : K4} (hx : x.Ok) : (Instr.lookup 128 (.map (some b)) (kA x) false).run Try.prog w = .ok (rA (degV (f x))) w := by
  obtain ⟨n, D, ho, _, ha, _⟩ := h
  obtain ⟨v, ps, hr, hv⟩ := ho.lookup lawK Try.underlying128 (zero32 w) (ratElem_mk (0, 0)) (keyOf_K x hx)
  rw [ha x hx] at hv
  obtain ⟨p, rfl, hy⟩ := ratElem_inv hv
  have := ratD_inj (by simpa using (Prod.mk.inj hy).1)
  rw [this]; exact hr
theorem DegM.put {w w' : World} {b n m : Nat} {f : K4 → Nat} {D : DataW Unit} {x : K4} {s : Nat} (ho : w.ownsMap (H := Unit) Try.prog 48 ratElem b n D) (hx : x.Ok) (hs : 0 < s) (hn : n ≤ m)
    (ha : ∀ x : K4, x.Ok → D.atKey (kL x) (ratD (0, 0)) = ratD (degV (f x))) (hb : ∀ kl, has D kl = true → ∃ x : K4, x.Ok ∧ kl = kL x ∧ 0 < f x) (hc : ∀ x : K4, x.Ok → 0 < f x → has D (kL x) = true)
    (h : w'.ownsMap (H := Unit) Try.prog 48 ratElem b (n + 1) (D.put (kL x) (ratD (degR s)))) : DegM w' b (m + 1) (fun y => if y = x then s else f y) := by
  refine ⟨n + 1, _, h, by omega, fun y hy => ?_, fun kl hkl => ?_, fun y hy hp => ?_⟩
  · by_cases e : y = x
    · subst e
      rw [atKey_put_same ho.isMap (show WideAt.IsKeyLit (kL y) from trivial)]
      simp only [if_true]
      rw [degV_pos hs]
    · have hne : kL y ≠ kL x := fun he => e (kL_inj hy hx he)
      dsimp only
      rw [atKey_put_other hne, if_neg e]
      exact ha y hy
  · by_cases e : kl = kL x
    · exact ⟨x, hx, e, by simpa using hs⟩
    · rw [has_put_other e] at hkl
      obtain ⟨y, hy, rfl, hp⟩ := hb kl hkl
      refine ⟨y, hy, rfl, ?_⟩
      dsimp only
      rw [if_neg (fun (e' : y = x) => e (by rw [e']))]
      exact hp
  · by_cases e : y = x
    · subst e
      exact has_put_same ho.isMap (show WideAt.IsKeyLit (kL y) from trivial) _
    · dsimp only at hp
      rw [if_neg e] at hp
      have hne : kL y ≠ kL x := fun he => e (kL_inj hy hx he)
      rw [has_put_other hne]
      exact hc y hy hp
/-- The loop over a cause's keys. -/
def jv (b s : Nat) : Nat := if 0 < s ∧ (b = 0 ∨ s < b) then s else b
theorem jv_jv (b s : Nat) : jv (jv b s) s = jv b s := by
  unfold jv
  by_cases h : 0 < s ∧ (b = 0 ∨ s < b)
  · rw [if_pos h, if_neg (by omega)]
  · rw [if_neg h, if_neg h]
def fin (prev : K4 → Nat) (c : Cau) (k : Nat) (x : K4) : Nat := if x ∈ c.undo.take k then jv (prev x) c.size else prev x
theorem fin_zero (prev : K4 → Nat) (c : Cau) : fin prev c 0 = prev := by funext x; simp [fin]
theorem fin_succ (prev : K4 → Nat) (c : Cau) (k : Nat) (h : k < c.undo.length) : fin prev c (k + 1) = fun y => if y = c.undo[k] then jv (fin prev c k y) c.size else fin prev c k y := by
  funext y
  unfold fin
  rw [List.take_succ_eq_append_getElem h]
  by_cases e : y = c.undo[k]
  · rw [if_pos (List.mem_append.2 (Or.inr (by rw [e]; exact List.mem_singleton.2 rfl))), if_pos e]
    split
    · rw [jv_jv]
    · rfl
  · rw [if_neg e]
    by_cases h' : y ∈ c.undo.take k
    · rw [if_pos (List.mem_append.2 (Or.inl h')), if_pos h']
    · rw [if_neg (fun e' => (List.mem_append.1 e').elim h' (fun e'' => e (List.mem_singleton.1 e''))), if_neg h']
theorem fin_all (l : List Cau) (j : Nat) (h : j < l.length) : fin (fun k => jointN (l.take j) [k]) l[j] l[j].undo.length = fun k => jointN (l.take (j + 1)) [k] := by
  funext x
  rw [jointN_take l [x] j h]
  unfold fin jstep jv
  rw [List.take_of_length_le (Nat.le_refl _)]
  by_cases h' : x ∈ l[j].undo
  · rw [if_pos h']; simp [h']
  · rw [if_neg h', if_neg (fun e => h' (e.1 x (by simp)))]
theorem run_makeMap128 (w : World) : (Instr.makeMap 128 none).run Try.prog w = .ok (.map (some w.heap.size)) (w.alloc (.map #[] 0)) := by
  simp [Instr.makeMap]
end Go.Proofs.Ytemeppfikpafbaa
