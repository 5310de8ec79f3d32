/- rank.distinct at keys (61). -/
import Derived.Test.YtemeppfikpafbaaKeyOf
namespace Go.Proofs.Ytemeppfikpafbaa
open Go.RowKit Go.Maps
section
variable {α : Type} [DecidableEq α]
def ndStep (acc : List α) (x : α) : List α := if x ∈ acc then acc else acc ++ [x]
/-- The different elements, in the order in which they come first. -/
def nd (l : List α) : List α := l.foldl ndStep []
theorem nd_push (l : List α) (x : α) : nd (l ++ [x]) = ndStep (nd l) x := by unfold nd; rw [List.foldl_append]; rfl
theorem nd_take (l : List α) (j : Nat) (h : j < l.length) : nd (l.take (j + 1)) = ndStep (nd (l.take j)) l[j] := by rw [List.take_succ_eq_append_getElem h, nd_push]
theorem mem_ndStep (acc : List α) (x y : α) : y ∈ ndStep acc x ↔ y ∈ acc ∨ y = x := by
  unfold ndStep
  split
  · rename_i h
    exact ⟨Or.inl, fun h' => h'.elim id (fun e => by rw [e]; exact h)⟩
  · simp
theorem mem_foldl_nd : ∀ (l acc : List α) (y : α), y ∈ l.foldl ndStep acc ↔ y ∈ acc ∨ y ∈ l
  | [], acc, y => by simp
  | x :: r, acc, y => by rw [List.foldl_cons, mem_foldl_nd r, mem_ndStep, List.mem_cons, or_assoc]
theorem mem_nd (l : List α) (y : α) : y ∈ nd l ↔ y ∈ l := by unfold nd; rw [mem_foldl_nd]; simp
theorem nodup_ndStep {acc : List α} (h : acc.Nodup) (x : α) : (ndStep acc x).Nodup := by
  unfold ndStep
  split
  · exact h
  · rename_i hx
    rw [List.nodup_append]
    exact ⟨h, by simp, fun a ha b hb e => by rw [List.mem_singleton] at hb; subst hb; subst e; exact hx ha⟩
theorem nodup_foldl_nd : ∀ (l acc : List α), acc.Nodup → (l.foldl ndStep acc).Nodup
  | [], _, h => h
  | x :: r, _acc, h => nodup_foldl_nd r _ (nodup_ndStep h x)
theorem nodup_nd (l : List α) : (nd l).Nodup := nodup_foldl_nd l [] List.nodup_nil
/-- Block b is a map to true whose keys are those of X. -/
def SetOf (KT : TypeId) (Ok : α → Prop) (kl : α → Lit) (m : Nat) (w : World) (b : Nat) (X : List α) : Prop :=
  ∃ n D, w.ownsMap (H := Unit) Try.prog KT (plainElem Try.prog 4) b n D ∧ n ≤ m ∧ Maps.size D = X.length ∧ ∀ x, Ok x → (has D (kl x) = true ↔ x ∈ X)
omit [DecidableEq α] in
theorem SetOf.keep {KT : TypeId} {Ok : α → Prop} {kl : α → Lit} {m : Nat} {w w' : World} {b : Nat} {X : List α} (h : SetOf KT Ok kl m w b X) (hb : w'.heap[b]? = w.heap[b]?) : SetOf KT Ok kl m w' b X := by
  obtain ⟨n, D, ⟨es, clock, h1, h2⟩, h3⟩ := h
  exact ⟨n, D, ⟨es, clock, hb.trans h1, h2⟩, h3⟩
end
def boolD (b : Bool) : DataW Unit := .lit (.bool b)
theorem kA_inj {x y : K4} (h : kA x = kA y) : x = y := by
  obtain ⟨a, b, c, d⟩ := x
  obtain ⟨a', b', c', d'⟩ := y
  simp [kA] at h
  obtain ⟨rfl, rfl, rfl, rfl⟩ := h
  rfl
theorem kL_inj {x y : K4} (hx : x.Ok) (hy : y.Ok) (h : kL x = kL y) : x = y := kA_inj (lawK.inj (keyOf_K x hx) (by rw [h]; exact keyOf_K y hy))
abbrev SetK (m : Nat) (w : World) (b : Nat) (X : List K4) : Prop := SetOf 48 K4.Ok kL m w b X
theorem SetK.start (w : World) : SetK 0 (w.alloc (.map #[] 0)) w.heap.size [] := ⟨0, .map [], World.ownsMap_made w _ _ _, Nat.zero_le _, rfl, fun s _ => by simp [has_eq]⟩
theorem SetK.put {w w' : World} {b n m : Nat} {X : List K4} {D : DataW Unit} {x : K4} (ho : w.ownsMap (H := Unit) Try.prog 48 (plainElem Try.prog 4) b n D) (hx : x.Ok) (hn : n ≤ m) (hs : Maps.size D = X.length) (hD : ∀ s : K4, s.Ok → (has D (kL s) = true ↔ s ∈ X))
    (h : w'.ownsMap (H := Unit) Try.prog 48 (plainElem Try.prog 4) b (n + 1) (D.put (kL x) (boolD true))) : SetK (m + 1) w' b (ndStep X x) := by
  refine ⟨n + 1, _, h, by omega, ?_, fun s hs' => ?_⟩
  · rw [size_put (ho.tidy lawK)]
    unfold ndStep
    by_cases e : x ∈ X
    · rw [if_pos ((hD x hx).2 e), if_pos e, hs]
    · rw [if_neg (fun h' => e ((hD x hx).1 h')), if_neg e, hs]; simp
  · rw [mem_ndStep]
    by_cases e : s = x
    · rw [e, has_put_same ho.isMap (show WideAt.IsKeyLit (kL x) from trivial)]; simp
    · have hne : kL s ≠ kL x := fun he => e (kL_inj hs' hx he)
      rw [has_put_other hne, hD s hs']
      exact ⟨Or.inl, fun h' => h'.elim id (fun e' => absurd e' e)⟩
theorem run_makeMap133 (n : Int) (w : World) : (Instr.makeMap 133 (some (.int .i64 n))).run Try.prog w = .ok (.map (some w.heap.size)) (w.alloc (.map #[] 0)) := by
  simp [Instr.makeMap, run_underlying Try.underlying133, asInt, asIntOf]
set_option maxRecDepth 100000 in
set_option maxHeartbeats 1000000 in
theorem distinctK_any (S : Nat → Prop) (l : List K4) (v : Value) (w : World) (hl : l.length < 1000000) (hok : ∀ x ∈ l, x.Ok) (h : Row S w 4 l.length v (flatC kC l)) :
    Calls Try.prog 61 #[v] w fun e w' => e = .returned (.int .i64 (nd l).length) ∧ Below w.heap.size w w' := by
  obtain ⟨a, cap, rfl, _⟩ := h.shape
  have HR := Lib.hid h; clear h
  have HOK := Lib.hid hok; clear hok
  have hmm := run_makeMap133
  go_enter Try.func61, Try.ntmps61
  go_wp2_with fail
  clear hmm
  go_loopw [11] (fun i wr => ∃ k : Nat, k ≤ l.length ∧ i = .int .i64 k ∧ Hid (Below w.heap.size w wr) ∧ Hid (SetK k wr w.heap.size (nd (l.take k)))) (fun i _ => l.length - (intOf i).toNat)
  case atStart => exact ⟨0, Nat.zero_le _, rfl, Lib.hid ((Below.refl _ _).alloc (Nat.le_refl _) _), Lib.hid (SetK.start w)⟩
  case round =>
    obtain ⟨k, hk, rfl, HB, HM⟩ := hrel
    by_cases hlt : k < l.length
    · obtain ⟨b, off, rfl, _, hc⟩ := HR.out.atC kC_len hlt
      have g0 := below_cell HB.out (hc 0 (.int .u8 l[k].kind) rfl)
      have g1 := below_cell HB.out (hc 1 (.int .i64 l[k].a) rfl)
      have g2 := below_cell HB.out (hc 2 (.int .i64 l[k].b) rfl)
      have g3 := below_cell HB.out (hc 3 (.int .i64 l[k].n) rfl)
      rw [Nat.add_zero] at g0
      clear hc
      obtain ⟨n, D, ho, hnk, hsz, hD⟩ := HM.out
      have HO := Lib.hid ho
      have HD := Lib.hid (And.intro hnk (And.intro hsz hD))
      have HX := Lib.hid (HOK.out _ (List.getElem_mem hlt))
      have HT := Lib.hid (nd_take l k hlt)
      clear ho hnk hsz hD
      generalize l[k] = x at *
      have hbg := cell_lt g0
      have hs0 := HB.out.size
      have HWV := Lib.hid (show plainElem (H := Unit) Try.prog 4 (.bool true) = some (boolD true, []) from plainElem_bool Try.underlying4 true)
      have hn : n < maxLen := by have := HD.out.1; unfold maxLen; omega
      have HBA := Lib.hid (HB.out.alloc hs0 (.cells #[.int .u8 x.kind, .int .i64 x.a, .int .i64 x.b, .int .i64 x.n] 48))
      have HOA := Lib.hid (show (wr.alloc (.cells #[.int .u8 x.kind, .int .i64 x.a, .int .i64 x.b, .int .i64 x.n] 48)).ownsMap (H := Unit) Try.prog 48 (plainElem Try.prog 4) w.heap.size n D from by
        obtain ⟨es, clock, hb, r⟩ := HO.out
        exact ⟨es, clock, (Below.heap_alloc _ _ _ HO.out.lt).trans hb, r⟩)
      have HK := Lib.hid (show keyOf Try.prog 48 (.agg #[.int .u8 x.kind, .int .i64 x.a, .int .i64 x.b, .int .i64 x.n]) = some (kL x) from keyOf_K x HX.out)
      go_wp2_with (at_mapUpdate; refine wpList_mapUpdate_own _ rfl _ _ _ 133 rfl 48 4 lawK Try.underlying133 _ w.heap.size n D rfl HOA.out hn _ _ _ rfl rfl HK.out _ [] HWV.out ?_; intro w1 hown1 hgrow1)
      have HB1 := Lib.hid (HBA.out.grown hgrow1 HBA.out.size (fun k e => by cases e; exact Nat.le_refl _))
      have HS1 := Lib.hid (SetK.put HOA.out HX.out HD.out.1 HD.out.2.1 HD.out.2.2 hown1)
      clear hown1 hgrow1 g0 g1 g2 g3
      go_wp2_with fail
      go_roundw
      case rel => exact ⟨k + 1, by omega, by go_num, HB1, Lib.hid (by rw [HT.out]; exact HS1.out)⟩
      case measure => simp [intOf]; omega
    · have HTK := Lib.hid (show l.take k = l from List.take_of_length_le (by omega))
      obtain ⟨n, D, ho, hnk, hsz, hD⟩ := HM.out
      rw [HTK.out] at hsz
      have hln := fun ty => ho.len Try.underlying133 ty
      rw [hsz] at hln
      clear ho hnk hsz hD
      go_wp2_with fail
      go_ret
      exact ⟨rfl, HB.out⟩
end Go.Proofs.Ytemeppfikpafbaa
