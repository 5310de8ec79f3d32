/- Messages as keys of maps; rank.distinct at messages (62). -/
import Derived.Test.YtemeppfikpafbaaDist
namespace Go.Proofs.Ytemeppfikpafbaa
open Go.RowKit Go.Maps
structure M3 where
  f : Int
  t : Int
  n : Int
deriving DecidableEq
instance : Inhabited M3 := ⟨⟨0, 0, 0⟩⟩
def mC (x : M3) : List Value := [.int .i64 x.f, .int .i64 x.t, .int .i64 x.n]
def mA (x : M3) : Value := .agg #[.int .i64 x.f, .int .i64 x.t, .int .i64 x.n]
theorem mC_len (x : M3) : (mC x).length = 3 := rfl
structure M3.Ok (x : M3) : Prop where
  f : In64 x.f
  t : In64 x.t
  n : In64 x.n
def mL (x : M3) : Lit := .string (keyBytes [.int .i64 x.f, .int .i64 x.t, .int .i64 x.n])
theorem lawM : Keyed Try.prog 54 := Keyed.of_law (deep_law_laid kLaid (m := 3) (by omega) (by decide +kernel) (by kernel_rfl) (by kernel_rfl))
theorem cells54 : Try.prog.cellsOf 54 = 3 := by kernel_rfl
theorem typeM : Try.prog.keyType 54 = true := by decide +kernel
theorem keyOf_M (x : M3) (h : x.Ok) : keyOf Try.prog 54 (mA x) = some (mL x) := by
  have hl : Try.prog.keyLits (Try.prog.types.size + 1) 54 (mC x) = some [.int .i64 x.f, .int .i64 x.t, .int .i64 x.n] := by
    rw [sizeK, Nat.add_comm 1]
    conv => lhs; unfold Program.keyLits
    simp only [Try.underlying54, mC]
    simp [cells54, cells3, lits_int Try.underlying3 (wf_i64 h.f), lits_int Try.underlying3 (wf_i64 h.t), lits_int Try.underlying3 (wf_i64 h.n)]
  unfold keyOf
  simp only [Try.underlying54, typeM]
  rw [show (mA x).cells.toList = mC x from rfl, hl]
  simp [mA, Value.formed, Try.underlying54, cells54, mL]
theorem mA_inj {x y : M3} (h : mA x = mA y) : x = y := by
  obtain ⟨a, b, c⟩ := x
  obtain ⟨a', b', c'⟩ := y
  simp [mA] at h
  obtain ⟨rfl, rfl, rfl⟩ := h
  rfl
theorem mL_inj {x y : M3} (hx : x.Ok) (hy : y.Ok) (h : mL x = mL y) : x = y := mA_inj (lawM.inj (keyOf_M x hx) (by rw [h]; exact keyOf_M y hy))
abbrev SetM (m : Nat) (w : World) (b : Nat) (X : List M3) : Prop := SetOf 54 M3.Ok mL m w b X
theorem SetM.start (w : World) : SetM 0 (w.alloc (.map #[] 0)) w.heap.size [] := ⟨0, .map [], World.ownsMap_made w _ _ _, Nat.zero_le _, rfl, fun s _ => by simp [has_eq]⟩
theorem SetM.put {w w' : World} {b n m : Nat} {X : List M3} {D : DataW Unit} {x : M3} (ho : w.ownsMap (H := Unit) Try.prog 54 (plainElem Try.prog 4) b n D) (hx : x.Ok) (hn : n ≤ m) (hs : Maps.size D = X.length) (hD : ∀ s : M3, s.Ok → (has D (mL s) = true ↔ s ∈ X))
    (h : w'.ownsMap (H := Unit) Try.prog 54 (plainElem Try.prog 4) b (n + 1) (D.put (mL x) (boolD true))) : SetM (m + 1) w' b (ndStep X x) := by
  refine ⟨n + 1, _, h, by omega, ?_, fun s hs' => ?_⟩
  · rw [size_put (ho.tidy lawM)]
    unfold ndStep
    by_cases e : x ∈ X
    · rw [if_pos ((hD x hx).2 e), if_pos e, hs]
    · rw [if_neg (fun h' => e ((hD x hx).1 h')), if_neg e, hs]; simp
  · rw [mem_ndStep]
    by_cases e : s = x
    · rw [e, has_put_same ho.isMap (show WideAt.IsKeyLit (mL x) from trivial)]; simp
    · have hne : mL s ≠ mL x := fun he => e (mL_inj hs' hx he)
      rw [has_put_other hne, hD s hs']
      exact ⟨Or.inl, fun h' => h'.elim id (fun e' => absurd e' e)⟩
theorem run_makeMap192 (n : Int) (w : World) : (Instr.makeMap 192 (some (.int .i64 n))).run Try.prog w = .ok (.map (some w.heap.size)) (w.alloc (.map #[] 0)) := by
  simp [Instr.makeMap, run_underlying Try.underlying192, asInt, asIntOf]
set_option maxRecDepth 100000 in
set_option maxHeartbeats 1000000 in
theorem distinctM_any (S : Nat → Prop) (l : List M3) (v : Value) (w : World) (hl : l.length < 1000000) (hok : ∀ x ∈ l, x.Ok) (h : Row S w 3 l.length v (flatC mC l)) :
    Calls Try.prog 62 #[v] w fun e w' => e = .returned (.int .i64 (nd l).length) ∧ Below w.heap.size w w' := by
  obtain ⟨a, cap, rfl, _⟩ := h.shape
  have HR := Lib.hid h; clear h
  have HOK := Lib.hid hok; clear hok
  have hmm := run_makeMap192
  go_enter Try.func62, Try.ntmps62
  go_wp2_with fail
  clear hmm
  go_loopw [11] (fun i wr => ∃ k : Nat, k ≤ l.length ∧ i = .int .i64 k ∧ Hid (Below w.heap.size w wr) ∧ Hid (SetM k wr w.heap.size (nd (l.take k)))) (fun i _ => l.length - (intOf i).toNat)
  case atStart => exact ⟨0, Nat.zero_le _, rfl, Lib.hid ((Below.refl _ _).alloc (Nat.le_refl _) _), Lib.hid (SetM.start w)⟩
  case round =>
    obtain ⟨k, hk, rfl, HB, HM⟩ := hrel
    by_cases hlt : k < l.length
    · obtain ⟨b, off, rfl, _, hc⟩ := HR.out.atC mC_len hlt
      have g0 := below_cell HB.out (hc 0 (.int .i64 l[k].f) rfl)
      have g1 := below_cell HB.out (hc 1 (.int .i64 l[k].t) rfl)
      have g2 := below_cell HB.out (hc 2 (.int .i64 l[k].n) rfl)
      rw [Nat.add_zero] at g0
      clear hc
      obtain ⟨n, D, ho, hnk, hsz, hD⟩ := HM.out
      have HO := Lib.hid ho
      have HD := Lib.hid (And.intro hnk (And.intro hsz hD))
      have HX := Lib.hid (HOK.out _ (List.getElem_mem hlt))
      have HT := Lib.hid (nd_take l k hlt)
      clear ho hnk hsz hD
      generalize l[k] = x at *
      have hbg := cell_lt g0
      have hs0 := HB.out.size
      have HWV := Lib.hid (show plainElem (H := Unit) Try.prog 4 (.bool true) = some (boolD true, []) from plainElem_bool Try.underlying4 true)
      have hn : n < maxLen := by have := HD.out.1; unfold maxLen; omega
      have HBA := Lib.hid (HB.out.alloc hs0 (.cells #[.int .i64 x.f, .int .i64 x.t, .int .i64 x.n] 54))
      have HOA := Lib.hid (show (wr.alloc (.cells #[.int .i64 x.f, .int .i64 x.t, .int .i64 x.n] 54)).ownsMap (H := Unit) Try.prog 54 (plainElem Try.prog 4) w.heap.size n D from by
        obtain ⟨es, clock, hb, r⟩ := HO.out
        exact ⟨es, clock, (Below.heap_alloc _ _ _ HO.out.lt).trans hb, r⟩)
      have HK := Lib.hid (show keyOf Try.prog 54 (.agg #[.int .i64 x.f, .int .i64 x.t, .int .i64 x.n]) = some (mL x) from keyOf_M x HX.out)
      go_wp2_with (at_mapUpdate; refine wpList_mapUpdate_own _ rfl _ _ _ 192 rfl 54 4 lawM Try.underlying192 _ w.heap.size n D rfl HOA.out hn _ _ _ rfl rfl HK.out _ [] HWV.out ?_; intro w1 hown1 hgrow1)
      have HB1 := Lib.hid (HBA.out.grown hgrow1 HBA.out.size (fun k e => by cases e; exact Nat.le_refl _))
      have HS1 := Lib.hid (SetM.put HOA.out HX.out HD.out.1 HD.out.2.1 HD.out.2.2 hown1)
      clear hown1 hgrow1 g0 g1 g2
      go_wp2_with fail
      go_roundw
      case rel => exact ⟨k + 1, by omega, by go_num, HB1, Lib.hid (by rw [HT.out]; exact HS1.out)⟩
      case measure => simp [intOf]; omega
    · have HTK := Lib.hid (show l.take k = l from List.take_of_length_le (by omega))
      obtain ⟨n, D, ho, hnk, hsz, hD⟩ := HM.out
      rw [HTK.out] at hsz
      have hln := fun ty => ho.len Try.underlying192 ty
      rw [hsz] at hln
      clear ho hnk hsz hD
      go_wp2_with fail
      go_ret
      exact ⟨rfl, HB.out⟩
end Go.Proofs.Ytemeppfikpafbaa
