/- expr.places (95): the map of the first place of each name. -/
import Derived.Test.YtekhoanjpnjaeaaPlace
import Derived.Test.YtekhoanjpnjaeaaHoldE
import Derived.Maps.OwnSet
import Derived.Maps.OwnOps
namespace Go.Proofs.Ytekhoanjpnjaeaa
open Go.RowKit Go.Maps

/-- The first place of a name from k on. -/
def placeFrom (l : List ByteArray) (k : Nat) (s : ByteArray) : Option Nat := (placeN (l.drop k) s).map (· + k)
theorem placeFrom_zero (l : List ByteArray) (s : ByteArray) : placeFrom l 0 s = placeN l s := by
  unfold placeFrom; rw [List.drop_zero]; cases placeN l s <;> rfl
theorem placeFrom_end (l : List ByteArray) (s : ByteArray) : placeFrom l l.length s = none := by
  unfold placeFrom; rw [List.drop_length]; rfl
theorem placeFrom_step (l : List ByteArray) (k : Nat) (hk : k < l.length) (s : ByteArray) : placeFrom l k s = if l[k] = s then some k else placeFrom l (k + 1) s := by
  unfold placeFrom
  rw [List.drop_eq_getElem_cons hk, placeN]
  by_cases e : l[k] = s
  · rw [if_pos e, if_pos (by simp [e])]; simp
  · rw [if_neg e, if_neg (by
      simp only [beq_iff_eq]
      intro h
      rw [ByteArray.toList_eq, ByteArray.toList_eq] at h
      exact e (WideShapes.bytes_inj h))]
    cases placeN (l.drop (k + 1)) s with
    | none => rfl
    | some i => simp; omega
def keyS (s : ByteArray) : Lit := .string s.data.toList
theorem keyS_inj {a b : ByteArray} (h : keyS a = keyS b) : a = b := by
  unfold keyS at h
  exact WideShapes.bytes_inj (by injection h)
def i64D (n : Int) : DataW Unit := .lit (.int .i64 n)

/-- Block b is a map in which each name has its first place from k on. -/
def PlaceMap (w : World) (b : Nat) (l : List ByteArray) (k : Nat) : Prop :=
  ∃ n D, w.ownsMap (H := Unit) Try.prog 9 (plainElem Try.prog 3) b n D ∧ n + k ≤ l.length ∧ ∀ s : ByteArray, has D (keyS s) = (placeFrom l k s).isSome ∧ D.atKey (keyS s) (i64D 0) = i64D (((placeFrom l k s).getD 0 : Nat) : Int)
theorem lawS : Keyed Try.prog 9 := string_keyed Try.underlying9
theorem PlaceMap.start (w : World) (l : List ByteArray) : PlaceMap (w.alloc (.map #[] 0)) w.heap.size l l.length :=
  ⟨0, .map [], World.ownsMap_made w _ _ _, by omega, fun s => by rw [placeFrom_end]; exact ⟨rfl, rfl⟩⟩
theorem PlaceMap.keep {w w' : World} {b k : Nat} {l : List ByteArray} (h : PlaceMap w b l k) (hb : w'.heap[b]? = w.heap[b]?) : PlaceMap w' b l k := by
  obtain ⟨n, D, ⟨es, clock, h1, h2⟩, h3⟩ := h
  exact ⟨n, D, ⟨es, clock, hb.trans h1, h2⟩, h3⟩
theorem PlaceMap.lt {w : World} {b k : Nat} {l : List ByteArray} (h : PlaceMap w b l k) : b < w.heap.size := by
  obtain ⟨n, D, h1, _⟩ := h
  exact h1.lt
theorem PlaceMap.below {w w' : World} {b k : Nat} {l : List ByteArray} (h : PlaceMap w b l k) (hB : Below w.heap.size w w') : PlaceMap w' b l k := h.keep (hB.block _ h.lt)
theorem PlaceMap.step {w' : World} {b k n : Nat} {l : List ByteArray} {D : DataW Unit} (hk : k < l.length) (hm : IsMap D) (hn : n + (k + 1) ≤ l.length)
    (hD : ∀ s : ByteArray, has D (keyS s) = (placeFrom l (k + 1) s).isSome ∧ D.atKey (keyS s) (i64D 0) = i64D (((placeFrom l (k + 1) s).getD 0 : Nat) : Int))
    (h : w'.ownsMap (H := Unit) Try.prog 9 (plainElem Try.prog 3) b (n + 1) (D.put (keyS l[k]) (i64D k))) : PlaceMap w' b l k := by
  refine ⟨n + 1, _, h, by omega, fun s => ?_⟩
  rw [placeFrom_step l k hk]
  by_cases e : l[k] = s
  · rw [if_pos e, e, has_put_same hm (show WideAt.IsKeyLit (keyS s) from trivial), atKey_put_same hm (show WideAt.IsKeyLit (keyS s) from trivial)]
    exact ⟨rfl, rfl⟩
  · have hne : keyS s ≠ keyS l[k] := fun he => e (keyS_inj he).symm
    rw [if_neg e, has_put_other hne, atKey_put_other hne]
    exact hD s
theorem run_makeMap172 (n : Int) (w : World) : (Instr.makeMap 172 (some (.int .i64 n))).run Try.prog w = .ok (.map (some w.heap.size)) (w.alloc (.map #[] 0)) := by
  simp [Instr.makeMap, run_underlying Try.underlying172, asInt, asIntOf]
theorem zero3 (w : World) : (zeroValue 3).run Try.prog w = .ok (.int .i64 0) w := by kernel_rfl

theorem PlaceMap.look {w : World} {b : Nat} {l : List ByteArray} (h : PlaceMap w b l 0) (s : ByteArray) (hs : s.size ≤ maxLen) :
    (Instr.lookup 172 (.map (some b)) (.string s) false).run Try.prog w = .ok (.int .i64 (((placeN l s).getD 0 : Nat) : Int)) w ∧
    (Instr.lookup 172 (.map (some b)) (.string s) true).run Try.prog w = .ok (.tuple #[.int .i64 (((placeN l s).getD 0 : Nat) : Int), .bool (placeN l s).isSome]) w := by
  obtain ⟨n, D, h1, _, h3⟩ := h
  have hk : keyOf Try.prog 9 (.string s) = some (keyS s) := WideMaps.keyOf_string_mk Try.underlying9 hs
  obtain ⟨h4, h5⟩ := h3 s
  rw [placeFrom_zero] at h4 h5
  generalize (((placeN l s).getD 0 : Nat) : Int) = p at *
  have hinj : ∀ c : Int, (DataW.lit (.int .i64 p) : DataW Unit) = .lit (.int .i64 c) → p = c := fun c h => by cases h; rfl
  constructor
  · obtain ⟨c, hr, hc, _⟩ := h1.lookup_int lawS Try.underlying172 Try.underlying3 (zero3 w) hk
    have h6 : D.atKey (keyS s) (.lit (.int .i64 0)) = .lit (.int .i64 p) := h5
    rw [h6] at hc
    rw [hr, hinj c hc]
  · obtain ⟨v, ps, hr, hv⟩ := h1.look_ok lawS Try.underlying172 (zero3 w) (plainElem_int Try.underlying3 (by decide)) hk
    have h6 : D.atKey (keyS s) (.lit (.int .i64 0)) = .lit (.int .i64 p) := h5
    rw [h6] at hv
    obtain ⟨c, rfl, hc, _⟩ := plainElem_int_inv Try.underlying3 hv
    simp only [Prod.mk.injEq] at hc
    rw [hr, h4, hinj c hc.1]

set_option maxRecDepth 100000 in
theorem places_any (S : Nat → Prop) (l : List ByteArray) (v : Value) (w : World) (hl : l.length < 4294967296) (hz : ∀ x ∈ l, x.size ≤ maxLen) (h : Row S w 1 l.length v (l.map .string)) :
    Calls Try.prog 95 #[v] w fun e w' => Below w.heap.size w w' ∧ ∃ b, e = .returned (.map (some b)) ∧ w.heap.size ≤ b ∧ PlaceMap w' b l 0 := by
  obtain ⟨a, cap, rfl, _⟩ := h.shape
  have HR := Lib.hid h; clear h
  have HZ := Lib.hid hz; clear hz
  have hmm := run_makeMap172
  go_enter Try.func95, Try.ntmps95
  go_wp2_with fail
  clear hmm
  go_loopw [4] (fun i wr => ∃ k : Nat, k ≤ l.length ∧ i = .int .i64 ((k : Int) - 1) ∧ Hid (Below w.heap.size w wr) ∧ Hid (PlaceMap wr w.heap.size l k)) (fun i _ => (intOf i + 1).toNat)
  case atStart => exact ⟨l.length, Nat.le_refl _, rfl, Lib.hid ((Below.refl _ _).alloc (Nat.le_refl _) _), Lib.hid (PlaceMap.start w l)⟩
  case round =>
    obtain ⟨k, hk, rfl, HB, HM⟩ := hrel
    by_cases hlt : 0 < k
    · obtain ⟨kp, rfl⟩ : ∃ kp, k = kp + 1 := ⟨k - 1, by omega⟩
      obtain ⟨b, off, rfl, _, _, hc⟩ := HR.out.at (by omega)
      have g0 := below_cell HB.out (hc kp (.string l[kp]) (by simp [show kp < l.length by omega]))
      clear hc
      obtain ⟨n, D, ho, hnk, hD⟩ := HM.out
      have HO := Lib.hid ho
      have HD := Lib.hid (And.intro hnk hD)
      have hn : n < maxLen := by unfold maxLen; omega
      have HS := Lib.hid (show keyOf Try.prog 9 (.string l[kp]) = some (keyS l[kp]) from WideMaps.keyOf_string_mk Try.underlying9 (HZ.out _ (List.getElem_mem _)))
      have HW := Lib.hid (show plainElem (H := Unit) Try.prog 3 (.int .i64 (((kp + 1 : Nat) : Int) - 1)) = some (i64D kp, []) by
        rw [show (((kp + 1 : Nat) : Int) - 1) = (kp : Int) by omega]
        exact plainElem_int Try.underlying3 (by go_wf))
      have HST := Lib.hid (fun (w' : World) (h : w'.ownsMap (H := Unit) Try.prog 9 (plainElem Try.prog 3) w.heap.size (n + 1) (D.put (keyS l[kp]) (i64D kp))) => PlaceMap.step (by omega) ho.isMap hnk hD h)
      clear ho hnk hD
      generalize l[kp] = x at *
      go_wp2_with (at_mapUpdate; refine wpList_mapUpdate_own _ rfl _ _ _ 172 rfl 9 3 lawS Try.underlying172 _ w.heap.size n D rfl HO.out hn _ _ _ rfl rfl HS.out _ [] HW.out ?_; intro w1 hown1 hgrow1)
      have HM1 := Lib.hid (HST.out w1 hown1)
      have HB1 := Lib.hid (HB.out.grown hgrow1 HB.out.size (fun k e => by cases e; exact Nat.le_refl _))
      clear hown1 hgrow1
      go_wp2_with fail
      go_roundw
      case rel => exact ⟨kp, by omega, by first | rfl | go_num, HB1, HM1⟩
      case measure => simp [intOf]
    · obtain rfl : k = 0 := by omega
      go_wp2_with fail
      go_ret
      exact ⟨HB.out, _, rfl, Nat.le_refl _, HM.out⟩
end Go.Proofs.Ytekhoanjpnjaeaa
