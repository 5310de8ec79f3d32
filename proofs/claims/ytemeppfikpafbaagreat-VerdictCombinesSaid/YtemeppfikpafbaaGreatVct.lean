/- Texts ComV, laid together. -/
import Derived.Deep.QuietTactic
import Derived.BigQuiet
import Derived.Deep.DeepCutAuto
import Derived.Deep.CutBlock
import Derived.Great.BuildSlice
import Derived.Laws.EntriesVeiled
import Derived.Test.YtemeppfikpafbaaGreatVcp
import Derived.Test.YtemeppfikpafbaaGreatVcs
/- verdict.Combine (16) at lists of at most 40 causes together. -/
namespace Go.Proofs.YtemeppfikpafbaaGreat
open Go.RowKit Go.Sort
abbrev CV := Value × Value × Cau
abbrev LV := Value × List CV
def lC (p : LV) : List Value := [p.1]
def qC (q : CV) : List Value := [q.1, q.2.1]
theorem lC_len (p : LV) : (lC p).length = 1 := rfl
theorem qC_len (q : CV) : (qC q).length = 2 := rfl
/-- The causes of lists, with the lists' numbers. -/
def fndL : List LV → Int → List (Cau × Int)
  | [], _ => []
  | p :: r, i => p.2.map (fun q => (q.2.2, i)) ++ fndL r (i + 1)
theorem fndL_append (l m : List LV) : ∀ i, fndL (l ++ m) i = fndL l i ++ fndL m (i + l.length) := by
  induction l with
  | nil => intro i; simp [fndL]
  | cons p r ih =>
    intro i
    rw [List.cons_append, fndL, ih, fndL, List.append_assoc, List.length_cons]
    congr 2
    congr 1
    omega
theorem fndL_take (ls : List LV) (j : Nat) (h : j < ls.length) : fndL (ls.take (j + 1)) 0 = fndL (ls.take j) 0 ++ ls[j].2.map (fun q => (q.2.2, (j : Int))) := by
  rw [List.take_succ_eq_append_getElem h, fndL_append]
  have : ((ls.take j).length : Int) = j := by rw [List.length_take]; omega
  rw [this]
  simp [fndL]
/-- Lists of causes in memory. -/
structure ListsAt (w : World) (ls : List LV) (v : Value) : Prop where
  row : Row anyB w 1 ls.length v (flatC lC ls)
  inner : ∀ p ∈ ls, Row anyB w 2 p.2.length p.1 (flatC qC p.2)
  each : ∀ p ∈ ls, ∀ q ∈ p.2, CauAt w q.2.2 q.1 q.2.1
  len : ls.length ≤ 1000
  lens : ∀ p ∈ ls, p.2.length ≤ 1000
def fPair (f : Fnd) : Cau × Int := (f.c, f.n)
theorem info214 : (Tryz.prog.info? 85).map (fun i => (i.zero, i.size, i.bytes)) = some (some (.agg #[.slice none 0 0, .slice none 0 0, .int .i64 0]), 3, 56) := by kernel_rfl
theorem info159 : (Tryz.prog.info? 81).map (fun i => (i.zero, i.size, i.bytes)) = some (some (.agg #[.slice none 0 0, .slice none 0 0, .int .u8 0, .int .i64 0, .int .i64 0]), 5, 72) := by kernel_rfl
theorem CauAt.below {w w' : World} {c : Cau} {u h : Value} (k : CauAt w c u h) (hb : Below w.heap.size w w') : CauAt w' c u h := ⟨k.ru.below hb, k.rh.below hb, k.nu, k.nh, k.lu, k.lh⟩
theorem wpList_build2 {P : Program} {ops : Array Oper} {rest : List Oper} {o : Oper} {a : Act} {w : World} {Q : Exit → Act → World → Prop} (hg : o.guard = none) (t i j : Nat) (x y : Operand) (ho : o.op = .build t #[(i, x), (j, y)])
    (u v : Value) (hx : a.eval x = u) (hy : a.eval y = v) (cells : Array Value) (hf : P.built t [(i, u), (j, v)] = some cells) (h : wpList P ops Q rest (a.put o.dst (.agg cells)) w) : wpList P ops Q (o :: rest) a w := by
  subst hx hy
  exact wpList_build hg t _ ho (by simp [hf]) (by simpa [hf] using h)
theorem told_built (ua ha : Option Addr) (un uc hn hc : Nat) (n : Int) : Tryz.prog.built 81 [(0, .agg #[.slice ua un uc, .slice ha hn hc]), (3, .int .i64 n)] = some #[.slice ua un uc, .slice ha hn hc, .int .u8 0, .int .i64 0, .int .i64 n] := by kernel_rfl
theorem wpList_lit1 {P : Program} {ops : Array Oper} {rest : List Oper} {o : Oper} {a : Act} {w : World} {Q : Exit → Act → World → Prop} (hg : o.guard = none) (t e : TypeId) (x : Operand) (ho : o.op = .buildSlice t 1 #[(0, x)])
    (u : Value) (hx : a.eval x = u) (cells : Array Value) (ie : TypeInfo) (z : Value) (size : Nat) (hu : P.underlying t = some (.slice e)) (hie : P.info? e = some ie) (hz : ie.zero = some z) (hsz : ie.size = size) (h0 : 0 < size) (h1 : size ≤ 1000)
    (hf : Instr.fill (fun i => some (i * size, size)) ((Array.range (1 * size)).map (z.cells[· % z.cells.size]!)) [(0, u)] = some cells)
    (h : wpList P ops Q rest (a.put o.dst (.slice (some ⟨w.heap.size, 0, none⟩) 1 1)) (w.alloc (.cells cells e))) : wpList P ops Q (o :: rest) a w := by
  subst hx hsz
  exact wpList_buildSlice hg t e 1 _ ho cells ie z hu hie hz (by omega) (by omega) (by simpa using hf) h
theorem told_fill (ua ha : Option Addr) (un uc hn hc : Nat) (n : Int) : Instr.fill (fun i => some (i * 5, 5)) ((Array.range (1 * 5)).map ((Value.agg #[.slice none 0 0, .slice none 0 0, .int .u8 0, .int .i64 0, .int .i64 0]).cells[· % (Value.agg #[.slice none 0 0, .slice none 0 0, .int .u8 0, .int .i64 0, .int .i64 0]).cells.size]!)) [(0, .agg #[.slice ua un uc, .slice ha hn hc, .int .u8 0, .int .i64 0, .int .i64 n])] = some #[.slice ua un uc, .slice ha hn hc, .int .u8 0, .int .i64 0, .int .i64 n] := by kernel_rfl
theorem fndL_asc (ls : List LV) : ∀ i, (∀ x ∈ fndL ls i, i ≤ x.2 ∧ x.2 < i + ls.length) ∧ (fndL ls i).Pairwise fun a b => a.2 ≤ b.2 := by
  induction ls with
  | nil => intro i; exact ⟨fun x hx => by simp [fndL] at hx, List.Pairwise.nil⟩
  | cons p r ih =>
    intro i
    obtain ⟨h1, h2⟩ := ih (i + 1)
    have hp : ∀ x ∈ p.2.map (fun q => (q.2.2, i)), x.2 = i := fun x hx => by obtain ⟨q, _, rfl⟩ := List.mem_map.1 hx; rfl
    constructor
    · intro x hx
      rw [fndL] at hx
      rw [List.length_cons]
      rcases List.mem_append.1 hx with h | h
      · rw [hp x h]; omega
      · have := h1 x h; omega
    · rw [fndL]
      refine List.pairwise_append.2 ⟨?_, h2, fun x hx y hy => ?_⟩
      · exact List.pairwise_of_forall_mem_list fun x hx y hy => by rw [hp x hx, hp y hy]; exact Int.le_refl _
      · rw [hp x hx]; have := (h1 y hy).1; omega
/-- The lists' causes as keys, with the lists' numbers. -/
def keyL (ls : List LV) : List (KC × Int) := (fndL ls 0).map fun x => (keyC x.1, x.2)
def stN (cb : Bool) (o : Nat) (i : Int) : Int := if decide (i = (o : Int)) then (if cb then 1 else 3) else 2
/-- What is told of the lists' causes. -/
structure ToldR (P : List (KC × Int)) (o : Nat) (cb : Bool) (R : List Tld) : Prop where
  srt : R.Pairwise fun x y => cfT x y < 0
  num : ∀ t ∈ R, t.i = cardP o P (keyC t.c) ∧ t.o = o ∧ t.s = stN cb o t.i
  sub : ∀ t ∈ R, ∃ n, (keyC t.c, n) ∈ P
  all : ∀ q ∈ P, ∃ t ∈ R, keyC t.c = q.1
theorem cardP_congr {P P' : List (KC × Int)} (h : ∀ q, q ∈ P ↔ q ∈ P') (o : Nat) (k : KC) : cardP o P k = cardP o P' k := by
  unfold cardP
  congr 2
  funext i
  exact decide_eq_decide.2 (h _)
theorem told_res {ls : List LV} {F DL : List Fnd} {cb : Bool} {R : List Tld} (hF : F.map fPair = fndL ls 0) (hs : (DL.map fK).Pairwise leP) (hm : ∀ f, f ∈ DL ↔ f ∈ F)
    (hp : R.Perm ((toldN ls.length DL DL.length).map (setSt cb ls.length))) (hr : R.Pairwise fun x y => cfT x y < 0) : ToldR (keyL ls) ls.length cb R := by
  have hPm : ∀ q, q ∈ DL.map fK ↔ q ∈ keyL ls := fun q => by
    have e : keyL ls = F.map fK := by unfold keyL; rw [← hF, List.map_map]; rfl
    rw [e]
    constructor
    · intro h; obtain ⟨f, hf, rfl⟩ := List.mem_map.1 h; exact List.mem_map.2 ⟨f, (hm f).1 hf, rfl⟩
    · intro h; obtain ⟨f, hf, rfl⟩ := List.mem_map.1 h; exact List.mem_map.2 ⟨f, (hm f).2 hf, rfl⟩
  have hn : ∀ f ∈ DL, ∃ n : Nat, f.n = n ∧ n < ls.length := fun f hf => by
    have h1 : fPair f ∈ fndL ls 0 := by rw [← hF]; exact List.mem_map.2 ⟨f, (hm f).1 hf, rfl⟩
    have h2 := (fndL_asc ls 0).1 _ h1
    have h3 : (fPair f).2 = f.n := rfl
    rw [h3] at h2
    exact ⟨f.n.toNat, by omega, by omega⟩
  have hT := toldN_plain ls.length DL hs hn DL.length (Nat.le_refl _)
  rw [List.take_of_length_le (Nat.le_refl _)] at hT
  have hmem : ∀ t, t ∈ R ↔ ∃ u ∈ toldN ls.length DL DL.length, setSt cb ls.length u = t := fun t => by rw [hp.mem_iff, List.mem_map]
  refine ⟨hr, fun t ht => ?_, fun t ht => ?_, fun q hq => ?_⟩
  · obtain ⟨u, hu, rfl⟩ := (hmem t).1 ht
    refine ⟨?_, hT.of u hu, rfl⟩
    rw [← cardP_congr hPm]
    exact hT.num u hu
  · obtain ⟨u, hu, rfl⟩ := (hmem t).1 ht
    obtain ⟨n, h⟩ := hT.sub u hu
    exact ⟨n, (hPm _).1 h⟩
  · obtain ⟨u, hu, e⟩ := hT.all q ((hPm q).2 hq)
    exact ⟨setSt cb ls.length u, (hmem _).2 ⟨u, hu, rfl⟩, e⟩
theorem told_asc {ls : List LV} {F DL : List Fnd} (cb : Bool) (hF : F.map fPair = fndL ls 0) (hs : (DL.map fK).Pairwise leP) (hm : ∀ f, f ∈ DL ↔ f ∈ F) : ((toldN ls.length DL DL.length).map (setSt cb ls.length)).Pairwise fun s t => cmpP (keyC s.c) (keyC t.c) < 0 := by
  have hn : ∀ f ∈ DL, ∃ n : Nat, f.n = n ∧ n < ls.length := fun f hf => by
    have h1 : fPair f ∈ fndL ls 0 := by rw [← hF]; exact List.mem_map.2 ⟨f, (hm f).1 hf, rfl⟩
    have h2 := (fndL_asc ls 0).1 _ h1
    have h3 : (fPair f).2 = f.n := rfl
    rw [h3] at h2
    exact ⟨f.n.toNat, by omega, by omega⟩
  have hT := toldN_plain ls.length DL hs hn DL.length (Nat.le_refl _)
  exact List.pairwise_map.2 hT.asc
theorem flatRK (F : List Fnd) : flatC (gC (rkG F)) (rkL F) = flatC fC F := by
  conv => rhs; rw [← rkL_map F]
  unfold flatC gC
  rw [List.flatMap_map]
def CombE (ls : List LV) (cb : Bool) (e : Ending) (w' : World) : Prop :=
  ∃ (R : List Tld) (B cap : Nat), e = .returned (.slice (some ⟨B, 0, none⟩) R.length cap) ∧ R.length ≤ cap ∧ HoldC tC 5 w' B 0 R.toArray ∧ (∀ t ∈ R, TldAt w' t) ∧ ToldR (keyL ls) ls.length cb R
set_option maxRecDepth 100000 in
set_option maxHeartbeats 4000000 in
theorem combine_any (ls : List LV) (v : Value) (cb : Bool) (w : World) (h : ListsAt w ls v) (ht : (fndL ls 0).length ≤ 40) (h0 : 0 < (fndL ls 0).length) :
    Calls Tryz.prog 16 #[v, .bool cb] w fun e w' => CombE ls cb e w' ∧ Below w.heap.size w w' := by
  obtain ⟨va, vc, rfl, _⟩ := h.row.shape
  have HLS := Lib.hid h
  have HT := Lib.hid (And.intro ht h0)
  have hll := h.len
  clear h ht h0
  obtain ⟨i0, hi0, hz0, hz1, hz2⟩ := info_parts info214
  obtain ⟨N, HN⟩ : ∃ N, Hid (N = w.heap.size) := ⟨_, Lib.hid rfl⟩
  go_enter Tryz.func16, Tryz.ntmps16
  go_upto_block 0 with (fail)
  go_cut [5] (fun t wx => ∃ F : List Fnd, Hid (AllF N wx t F) ∧ Hid (F.map fPair = fndL ls 0) ∧ Hid (Below N w wx))
  case first =>
    as_aux_lemma =>
      go_wp2_with fail
      go_loopw [5, 18] (fun t i wr => ∃ (j : Nat) (F : List Fnd), j ≤ ls.length ∧ i = .int .i64 j ∧ Hid (AllF N wr t F) ∧ Hid (F.map fPair = fndL (ls.take j) 0) ∧ Hid (Below N w wr) ∧ Hid (F.length ≤ 1000 * j)) (fun _ i _ => ls.length - (intOf i).toNat)
      case atStart => exact ⟨0, [], Nat.zero_le _, rfl, Lib.hid (AllF.nil _ _), Lib.hid rfl, Lib.hid (Below.refl _ _), Lib.hid (Nat.zero_le _)⟩
      case round =>
        obtain ⟨j, F, hj, rfl, HA, HF, HB, HFL⟩ := hrel
        have HMW := Lib.hid (show More w wr from by have := HB.out; rw [HN.out] at this; exact more_of this)
        by_cases hlt : j < ls.length
        · obtain ⟨b, off, rfl, _, hc⟩ := HLS.out.row.atC lC_len hlt
          have g0 := HMW.out.cell (hc 0 ls[j].1 rfl)
          rw [Nat.add_zero, Nat.mul_one] at g0
          clear hc
          have HFT := Lib.hid (fndL_take ls j hlt)
          have HIN := Lib.hid (HLS.out.inner _ (List.getElem_mem hlt))
          have HEA := Lib.hid (HLS.out.each _ (List.getElem_mem hlt))
          have hln := HLS.out.lens _ (List.getElem_mem hlt)
          generalize ls[j] = p at *
          obtain ⟨pv, pl⟩ := p
          dsimp only at *
          obtain ⟨pa, pc, rfl, _⟩ := HIN.out.shape
          have hbg := cell_lt g0
          obtain ⟨wo, rfl⟩ : ∃ wo : World, wo = wr := ⟨_, rfl⟩
          go_wp2_with fail
          go_loopw [5, 25] (fun t i wr => ∃ (k : Nat) (G : List Fnd), k ≤ pl.length ∧ i = .int .i64 k ∧ Hid (AllF N wr t G) ∧ Hid (G.map fPair = fndL (ls.take j) 0 ++ (pl.take k).map (fun q => (q.2.2, (j : Int)))) ∧ Hid (Below N w wr) ∧ Hid (G.length ≤ 1000 * j + k)) (fun _ i _ => pl.length - (intOf i).toNat)
          case atStart => exact ⟨0, F, Nat.zero_le _, rfl, HA, Lib.hid (by rw [List.take_zero, List.map_nil, List.append_nil]; exact HF.out), HB, HFL⟩
          case round =>
            obtain ⟨k, G, hk, rfl, HA2, HF2, HB2, HGL⟩ := hrel
            have HMW2 := Lib.hid (show More w wr from by have := HB2.out; rw [HN.out] at this; exact more_of this)
            by_cases hlt2 : k < pl.length
            · obtain ⟨b2, off2, hab, _, hc⟩ := HIN.out.atC qC_len hlt2
              subst hab
              have e0 := HMW2.out.cell (hc 0 pl[k].1 rfl)
              have e1 := HMW2.out.cell (hc 1 pl[k].2.1 rfl)
              rw [Nat.add_zero] at e0
              clear hc
              have HPT := Lib.hid (show pl.take (k + 1) = pl.take k ++ [pl[k]] from List.take_succ_eq_append_getElem hlt2)
              have HEQ := Lib.hid (CauAt.more (HEA.out _ (List.getElem_mem hlt2)) HMW2.out)
              generalize pl[k] = q at *
              obtain ⟨qu, qh, qc⟩ := q
              dsimp only at *
              obtain ⟨ua, uc, rfl, _⟩ := HEQ.out.ru.shape
              obtain ⟨ha, hc, rfl, _⟩ := HEQ.out.rh.shape
              obtain ⟨ga, gc, hgv, _⟩ := owns_shape HA2.out.own
              subst hgv
              have hbe := cell_lt e0
              have HXB := Lib.hid (alloc_last wr (.cells #[.slice ua qc.undo.length uc, .slice ha qc.hold.length hc] 34))
              have HM5 := Lib.hid (more_alloc wr (.cells #[.slice ua qc.undo.length uc, .slice ha qc.hold.length hc] 34))
              have HCL := Lib.hid (clone133_any qc (.slice ua qc.undo.length uc) (.slice ha qc.hold.length hc) (wr.alloc (.cells #[.slice ua qc.undo.length uc, .slice ha qc.hold.length hc] 34)) (HEQ.out.more HM5.out))
              clear HEQ
              generalize qc.undo.length = nu at *
              generalize qc.hold.length = nh at *
              have hlt2' := hlt2
              go_upto_region 8 with (fail)
              obtain ⟨XB, HXE⟩ : ∃ XB, Hid (XB = wr.heap.size) := ⟨_, Lib.hid rfl⟩
              rw [← HXE.out] at HXB ⊢
              generalize wr.alloc (.cells #[.slice ua nu uc, .slice ha nh hc] 34) = w5 at *
              clear e0 e1 hbe
              have c0 : w5.cell? ⟨XB, 0, none⟩ = some (.slice ua nu uc) := cell_of_blk HXB.out rfl
              have c1 : w5.cell? ⟨XB, 1, none⟩ = some (.slice ha nh hc) := cell_of_blk HXB.out rfl
              have hxb := cell_lt c0
              go_wp2_with fail
              refine HCL.out.mono ?_
              rintro e w6 ⟨⟨ua6, uc6, ha6, hc6, rfl, hcs6⟩, hb6⟩
              have HM6 := Lib.hid (more_trans HM5.out (more_of hb6))
              have HA6 := Lib.hid (HA2.out.more (more_trans HM6.out (more_alloc w6 (.cells #[.slice ua6 nu uc6, .slice ha6 nh hc6, .int .i64 (j : Int)] 85))))
              have HNW := Lib.hid (show N ≤ wr.heap.size by rw [HN.out]; exact HMW2.out.size)
              have HOZ := Lib.hid (fun z hz => ((owns_shape HA2.out.own).choose_spec.choose_spec.2 z hz))
              have HCS := Lib.hid (show FndS (fun b => (Value.slice ga G.length gc).ownBlock ≠ some b) (w6.alloc (.cells #[.slice ua6 nu uc6, .slice ha6 nh hc6, .int .i64 (j : Int)] 85)) ⟨qc, ua6, nu, uc6, ha6, nh, hc6, j⟩ from CauS.mono hcs6 (fun b hb _ e => by
                have h1 := (HOZ.out b e).2
                have h2 := HM5.out.size
                have h3 : w5.heap.size ≤ b := hb
                omega) (fun b _ hl => (more_alloc w6 _).block hl))
              have HB6 := Lib.hid (show Below N w w6 from HB2.out.trans (HM6.out.below.mono HNW.out))
              have hgl := HGL.out
              have HSZ6 := Lib.hid (Nat.le_trans HNW.out HM6.out.size)
              have hm1 : G.length + 1 ≤ maxLen := by unfold maxLen; omega
              have hm2 : (G.length + 1) * 56 ≤ 140737488355328 := by omega
              clear hcs6 hb6 c0 c1 hxb HCL
              go_wp2_with (at_builtin; refine wpList_append_lies _ rfl _ _ 82 rfl N 85 i0 _ 3 56 Tryz.underlying82 hi0 hz0 hz1 hz2 rfl (by omega) (.slice ga G.length gc) G.length (flatC fC G) rfl HA6.out.own ⟨w6.heap.size, 0, none⟩ 1 1 [.slice ua6 nu uc6, .slice ha6 nh hc6, .int .i64 (j : Int)] rfl rfl (World.news_of_block (cs := #[.slice ua6 nu uc6, .slice ha6 nh hc6, .int .i64 (j : Int)]) (t := 85) (fr := (0, 0)) (alloc_last _ _)) (by simp [Value.oneCell']) (by omega) hm1 hm2 (by rw [World.size_alloc]; exact Nat.le_succ_of_le HSZ6.out) (w6.heap.size + 1) (by simp) ?_; intro gg cap8 w8 hown8 hgrow8 hat8 _)
              have HA8 := Lib.hid (HA6.out.push HCS.out hown8 hgrow8 (fun z hz => by
                have hz' : gg = z := by simpa [Value.ownBlock] using hz
                subst hz'
                rcases hat8 with h | h
                · exact Or.inl h
                · right; rw [h]; simp))
              have HB8 := Lib.hid (show Below N w w8 from (HB6.out.alloc HSZ6.out _).grown hgrow8 (by rw [World.size_alloc]; exact Nat.le_succ_of_le HSZ6.out) (fun z hz => (HOZ.out z hz).1))
              have HF8 := Lib.hid (show (G ++ [(⟨qc, ua6, nu, uc6, ha6, nh, hc6, (j : Int)⟩ : Fnd)]).map fPair = fndL (ls.take j) 0 ++ (pl.take (k + 1)).map (fun q => (q.2.2, (j : Int))) by
                rw [List.map_append, HF2.out, HPT.out, List.map_append, List.append_assoc]; rfl)
              have HL8 := Lib.hid (show (G ++ [(⟨qc, ua6, nu, uc6, ha6, nh, hc6, (j : Int)⟩ : Fnd)]).length = G.length + 1 by rw [List.length_append, List.length_singleton])
              clear hown8 hgrow8 hat8
              go_wp2_with fail
              go_roundw
              case rel => exact ⟨k + 1, G ++ [⟨qc, ua6, nu, uc6, ha6, nh, hc6, (j : Int)⟩], by omega, by go_num, HA8, HF8, HB8, Lib.hid (by rw [HL8.out]; omega)⟩
              case measure => simp [intOf]; omega
            · obtain rfl : k = pl.length := by omega
              rw [List.take_of_length_le (Nat.le_refl _)] at HF2
              have HFZ := Lib.hid (show G.map fPair = fndL (ls.take (j + 1)) 0 by rw [HF2.out, HFT.out])
              have HGL2 := Lib.hid (show G.length ≤ 1000 * (j + 1) by have := HGL.out; omega)
              clear hlt2 hk
              go_wp2_with fail
              go_roundw
              case rel => exact ⟨j + 1, G, by omega, by go_num, HA2, HFZ, HB2, HGL2⟩
              case measure => simp [intOf]; omega
        · obtain rfl : j = ls.length := by omega
          rw [List.take_of_length_le (Nat.le_refl _)] at HF
          clear hlt hj
          go_wp2_with fail
          go_meet
          exact ⟨F, HA, HF, HB⟩
  case rest =>
    obtain ⟨F, HA, HF, HB⟩ := hcut
    obtain ⟨w3, rfl⟩ : ∃ w3 : World, w3 = wc := ⟨_, rfl⟩
    have HFN := Lib.hid (show F.length ≤ 40 ∧ 0 < F.length by
      have := congrArg List.length HF.out
      rw [List.length_map] at this
      rw [this]; exact ⟨Nat.le_trans HT.out.1 (by omega), HT.out.2⟩)
    obtain ⟨_, ⟨hv0, hn0⟩ | ⟨B, cap, cur, rfl, hBg, hg, hnc, hcm, hcs, htk⟩⟩ := HA.out.own
    · exfalso; have := HFN.out.2; omega
    have HBN := Lib.hid hBg
    have HG := Lib.hid hg
    have HCS := Lib.hid (And.intro hcs htk)
    have HNC := Lib.hid hnc
    clear hg hcs htk hBg hcm
    go_wp2_with fail
    refine (compare134_any w3).mono ?_
    rintro e w4 ⟨rfl, hw4⟩
    have HM4 := Lib.hid (show More w3 w4 by rw [hw4]; exact more_alloc _ _)
    have HP4 := Lib.hid (show w4.heap[w3.heap.size]? = some (.cells #[.func (.func 27) #[] #[]] 30) by rw [hw4]; exact alloc_last _ _)
    clear hw4
    obtain ⟨PB, HPE⟩ : ∃ PB, Hid (PB = w3.heap.size) := ⟨_, Lib.hid rfl⟩
    rw [← HPE.out] at HP4 ⊢
    have HCP := Lib.hid (alloc_last w4 (.cells #[.func (.func 61) #[] #[.pointer (some ⟨PB, 0, none⟩)]] 71))
    have HM5 := Lib.hid (more_alloc w4 (.cells #[.func (.func 61) #[] #[.pointer (some ⟨PB, 0, none⟩)]] 71))
    go_upto_region 12 with (fail)
    obtain ⟨CP, HCE⟩ : ∃ CP, Hid (CP = w4.heap.size) := ⟨_, Lib.hid rfl⟩
    rw [← HCE.out] at HCP ⊢
    generalize w4.alloc (.cells #[.func (.func 61) #[] #[.pointer (some ⟨PB, 0, none⟩)]] 71) = w5 at *
    have HP5 := Lib.hid ((HM5.out.block (blk_lt HP4.out)).trans HP4.out)
    have HG5 := Lib.hid ((HM5.out.block (Nat.lt_of_lt_of_le (blk_lt HG.out) HM4.out.size)).trans ((HM4.out.block (blk_lt HG.out)).trans HG.out))
    have HA5 := Lib.hid (HA.out.more (more_trans HM4.out HM5.out))
    have HBL := Lib.hid (blk_lt HG.out)
    have hFP : F.Pairwise fun a b => a.n ≤ b.n := by
      have := (fndL_asc ls 0).2
      rw [← HF.out] at this
      have h2 := List.pairwise_map.1 this
      refine h2.imp ?_
      intro a b hab
      exact hab
    have HHF := Lib.hid (show HoldF CP (fun p => p ∈ rkL F) (rkG F) w5 B 0 (rkL F).toArray from ⟨holdC_of (gC_len _) HG5.out (by rw [rkL_len, flatRK]; exact HCS.out.2), fun i hi => (by
      have hi' : i < (rkL F).length := by simpa using hi
      have e : (rkL F).toArray[i]! = (rkL F)[i] := by simp [hi']
      rw [e]
      exact List.getElem_mem hi'), fun x y W hx hy hW => (by
      obtain ⟨i, hi, _, ei⟩ := rkL_mem hx
      obtain ⟨j, hj, _, ej⟩ := rkL_mem hy
      rw [rkL_cmp hx hy]
      exact combine137_any (rkG F x) (rkG F y) CP PB W (by rw [ei]; exact HA5.out.keep _ (get_memF hi) W hW) (by rw [ej]; exact HA5.out.keep _ (get_memF hj) W hW) ((hW.block PB (blk_lt HP5.out) (fun e => by have := Option.some.inj e; have := HPE.out; have := HBL.out; omega)).trans HP5.out) ((hW.block CP (blk_lt HCP.out) (fun e => by have := Option.some.inj e; have := HCE.out; have := HBL.out; have := HM4.out.size; omega)).trans HCP.out))⟩)
    have HSO := Lib.hid (sortG_any (CP := CP) (V := fun p => p ∈ rkL F) (G := rkG F) (rkL F).toArray B 0 cap F.length w5 (by simp [rkL_len]) HFN.out.1 HHF.out)
    clear HHF
    go_wp2_with fail
    refine HSO.out.mono ?_
    rintro e w6 ⟨rfl, hg6, dd, hwh, hh6⟩
    have HN3 := Lib.hid (show N ≤ w3.heap.size by have := HB.out.size; rw [HN.out]; exact this)
    have HN6 := Lib.hid (show N ≤ w6.heap.size from Nat.le_trans HN3.out (Nat.le_trans HM4.out.size (Nat.le_trans HM5.out.size hg6.size)))
    have HB6 := Lib.hid (show Below N w w6 from (HB.out.trans ((more_trans HM4.out HM5.out).below.mono HN3.out)).grown hg6 (Nat.le_trans HN3.out (Nat.le_trans HM4.out.size HM5.out.size)) (fun z hz => by rw [← Option.some.inj hz]; exact HBN.out))
    have HP6 := Lib.hid ((hg6.block PB (blk_lt HP5.out) (fun e => by have := Option.some.inj e; have := HPE.out; have := HBL.out; omega)).trans HP5.out)
    have HC6 := Lib.hid ((hg6.block CP (blk_lt HCP.out) (fun e => by have := Option.some.inj e; have := HCE.out; have := HBL.out; have := HM4.out.size; omega)).trans HCP.out)
    obtain ⟨hlen, hsrt, hmem⟩ := rk_sorted F hFP dd hwh
    have hdd : ∀ j, j < dd.size → (dd.toList.map (rkG F))[j]! = rkG F dd[j]! := fun j hj => by
      rw [getElem!_pos _ j (by simpa using hj), getElem!_pos dd j hj]
      simp
    have hsz : dd.size = (dd.toList.map (rkG F)).length := by simp
    generalize dd.toList.map (rkG F) = DL at *
    have HDA := Lib.hid (show ∀ j, j < DL.length → FndAt w6 DL[j]! from fun j hj => HA5.out.keep _ ((hmem _).1 (get_memF hj)) w6 hg6)
    have HDC := Lib.hid (show ∀ j, j < DL.length → ∀ r u, (fC DL[j]!)[r]? = some u → w6.cell? ⟨B, j * 3 + r, none⟩ = some u from fun j hj r u hu => by
      have hj' : j < dd.size := by omega
      rw [hdd j hj'] at hu
      have := (hh6.cells j hj' r u hu).1
      rw [Nat.zero_add] at this
      exact this)
    have hl12 : DL.length ≤ 40 ∧ 0 < DL.length := by
      have := congrArg List.length HF.out
      rw [List.length_map, ← hlen] at this
      rw [this]; exact HT.out
    have HRS := Lib.hid (fun (R : List Tld) (hp : R.Perm ((toldN ls.length DL DL.length).map (setSt cb ls.length))) (hr : R.Pairwise fun x y => cfT x y < 0) => told_res (cb := cb) HF.out hsrt hmem hp hr)
    have HAC := Lib.hid (told_asc cb HF.out hsrt hmem)
    clear hsz hdd hwh hsrt hmem hFP
    obtain ⟨hl12, hl0⟩ := hl12
    rw [← hlen]
    obtain ⟨N2, HN2⟩ : ∃ N2, Hid (N2 = w6.heap.size) := ⟨_, Lib.hid rfl⟩
    have HB2 := Lib.hid (show B < N2 by have := HBL.out; have := HM4.out.size; have := HM5.out.size; have := hg6.size; rw [HN2.out]; omega)
    have HPC2 := Lib.hid (show PB < N2 ∧ CP < N2 by rw [HN2.out]; exact ⟨blk_lt HP6.out, blk_lt HC6.out⟩)
    clear hg6 hh6 HSO HA5 HP5 HG5 HG HCS HCP HP4 HA
    obtain ⟨i1, hi1, hy0, hy1, hy2⟩ := info_parts info159
    generalize hlo : ls.length = lo at *
    have HLO := Lib.hid hlo
    have HLEN := Lib.hid hlen
    clear hlo hlen
    generalize F.length = lF at *
    go_upto_block 4 with (fail)
    go_cut [11] (fun t wx => Hid (wx.ownsRow N2 81 5 t (toldN lo DL DL.length).length (flatC tC (toldN lo DL DL.length))) ∧ Hid (Below N2 w6 wx))
    case first =>
      as_aux_lemma =>
        go_wp2_with fail
        go_loopw [11, 44] (fun t i wr => ∃ (j : Nat) (T : List Tld), j ≤ DL.length ∧ i = .int .i64 j ∧ Hid (wr.ownsRow N2 81 5 t T.length (flatC tC T)) ∧ Hid (T = toldN lo DL j) ∧ Hid (Below N2 w6 wr)) (fun _ i _ => DL.length - (intOf i).toNat)
        case atStart => exact ⟨0, [], Nat.zero_le _, rfl, Lib.hid (World.ownsRow_nil _ _ _ _), Lib.hid rfl, Lib.hid (Below.refl _ _)⟩
        case round =>
          obtain ⟨j, T, hj, rfl, HT3, HTE, HB3⟩ := hrel
          by_cases hlt : j < DL.length
          · obtain ⟨ta, tc, rfl, _⟩ := owns_shape HT3.out
            have HTI := Lib.hid (toldN_i lo DL j hj)
            have HTL := Lib.hid (toldN_len lo DL j)
            rw [← HTE.out] at HTI HTL
            obtain ⟨x, HX⟩ : ∃ x : Fnd, Hid (x = DL[j]!) := ⟨_, Lib.hid rfl⟩
            have hx : ∀ r u, (fC x)[r]? = some u → wr.cell? ⟨B, j * 3 + r, none⟩ = some u := fun r u hu => (HB3.out.cell (p := ⟨B, j * 3 + r, none⟩) HB2.out).trans (HDC.out j hlt r u (by rw [← HX.out]; exact hu))
            have HXA := Lib.hid (show FndAt wr x by rw [HX.out]; exact CauAt.below (HDA.out j hlt) (by have := HB3.out; rw [HN2.out] at this; exact this))
            obtain ⟨xc, xua, xun, xuc, xha, xhn, xhc, xn⟩ := x
            have e0 := hx 0 (.slice xua xun xuc) rfl
            have e1 := hx 1 (.slice xha xhn xhc) rfl
            have e2 := hx 2 (.int .i64 xn) rfl
            rw [Nat.add_zero] at e0
            clear hx
            have hbe := cell_lt e0
            have hNw := Lib.hid (show N2 ≤ wr.heap.size by have := HB3.out.size; rw [HN2.out]; exact this)
            have HXB := Lib.hid (alloc_last wr (.cells #[.slice xua xun xuc, .slice xha xhn xhc, .int .i64 xn] 85))
            have HM8 := Lib.hid (more_alloc wr (.cells #[.slice xua xun xuc, .slice xha xhn xhc, .int .i64 xn] 85))
            have HT8 := Lib.hid (HT3.out.alloc (.cells #[.slice xua xun xuc, .slice xha xhn xhc, .int .i64 xn] 85))
            go_upto_region 17 with (fail)
            obtain ⟨XB, HXE⟩ : ∃ XB, Hid (XB = wr.heap.size) := ⟨_, Lib.hid rfl⟩
            rw [← HXE.out] at HXB ⊢
            generalize wr.alloc (.cells #[.slice xua xun xuc, .slice xha xhn xhc, .int .i64 xn] 85) = w8 at *
            clear e0 e1 e2 hbe
            go_cut [14] (fun s wx => s = .bool (sameB DL j) ∧ Hid (More w8 wx))
            case first =>
              as_aux_lemma =>
                rcases j with _ | k
                · go_quiet (fail)
                  go_wp2_with fail
                  go_meet
                  exact ⟨rfl, Lib.hid (grownBy_drewN _ _ _)⟩
                · have HSJ := Lib.hid (show sameB DL (k + 1) = decide (cmpCau DL[k]!.c DL[k + 1]!.c = 0) from rfl)
                  obtain ⟨y, HY⟩ : ∃ y : Fnd, Hid (y = DL[k]!) := ⟨_, Lib.hid rfl⟩
                  have hy : ∀ r u, (fC y)[r]? = some u → ∀ W, More w8 W → W.cell? ⟨B, k * 3 + r, none⟩ = some u := fun r u hu W hW => (more_trans HM8.out hW).cell ((HB3.out.cell (p := ⟨B, k * 3 + r, none⟩) HB2.out).trans (HDC.out k (by omega) r u (by rw [← HY.out]; exact hu)))
                  have HYA := Lib.hid (show FndAt w8 y by rw [HY.out]; exact CauAt.more (CauAt.below (HDA.out k (by omega)) (by have := HB3.out; rw [HN2.out] at this; exact this)) HM8.out)
                  rw [← HY.out, ← HX.out] at HSJ
                  have HEQ := Lib.hid (fun W (hW : More w8 W) => equalCause_any y.c xc (.slice y.ua y.un y.uc) (.slice y.ha y.hn y.hc) (.slice xua xun xuc) (.slice xha xhn xhc) W (CauAt.more HYA.out hW) (CauAt.more (CauAt.more HXA.out HM8.out) hW))
                  generalize decide (cmpCau y.c xc = 0) = q at *
                  obtain ⟨yc, yua, yun, yuc, yha, yhn, yhc, yn⟩ := y
                  dsimp only at *
                  have HK := Lib.hid (show ∀ W, More w8 W → (W.cell? ⟨B, k * 3, none⟩ = some (.slice yua yun yuc) ∧ W.cell? ⟨B, k * 3 + 1, none⟩ = some (.slice yha yhn yhc) ∧ W.cell? ⟨XB, 0, none⟩ = some (.slice xua xun xuc) ∧ W.cell? ⟨XB, 1, none⟩ = some (.slice xha xhn xhc)) from fun W h => ⟨hy 0 _ rfl W h, hy 1 _ rfl W h, h.cell (cell_of_blk HXB.out rfl), h.cell (cell_of_blk HXB.out rfl)⟩)
                  clear hy
                  have HL := Lib.hid (more_drew w8)
                  have hwp : IntKind.i64.wrap (k : Int) = (k : Int) := by rw [IntKind.wrap_i64]; omega
                  have jz1 : (k : Int) < (DL.length : Int) := by omega
                  have z0 : (0 : Int) ≤ (k : Int) + 1 := by omega
                  have hjaz' : (0 : Int) < (k : Int) + 1 := by omega
                  have e0 : ((k : Int) + 1).toNat = k + 1 := by omega
                  go_region_held3 (fun W => W.cell? ⟨B, k * 3, none⟩ = some (.slice yua yun yuc) ∧ W.cell? ⟨B, k * 3 + 1, none⟩ = some (.slice yha yhn yhc) ∧ W.cell? ⟨XB, 0, none⟩ = some (.slice xua xun xuc) ∧ W.cell? ⟨XB, 1, none⟩ = some (.slice xha xhn xhc)) (first | with_reducible exact HK.out _ HL.out) (first | (go_at_call 10; refine (HEQ.out _ HL.out).mono ?_; rintro e w9 ⟨rfl, hm9⟩; have HL := Lib.hid (more_trans HL.out hm9); clear hm9))
                  all_goals (clear hwp e0; go_wp2_with fail; go_meet; exact ⟨congrArg Value.bool HSJ.out.symm, HL⟩)
            case rest =>
              obtain ⟨rfl, HM9⟩ := hcut
              obtain ⟨w9, rfl⟩ : ∃ w9 : World, w9 = wc := ⟨_, rfl⟩
              have HXB9 := Lib.hid ((HM9.out.block (blk_lt HXB.out)).trans HXB.out)
              have HT9 := Lib.hid (owns_keep HT8.out (fun z hz => HM9.out.block (HT8.out.lt z hz).2))
              have HB9 := Lib.hid (show Below N2 w6 w9 from HB3.out.trans ((more_trans HM8.out HM9.out).below.mono hNw.out))
              have HN9 := Lib.hid (show N2 ≤ w9.heap.size from Nat.le_trans hNw.out (more_trans HM8.out HM9.out).size)
              have HXBN := Lib.hid (show N2 ≤ XB by rw [HXE.out]; exact hNw.out)
              have HT1 := Lib.hid (show told1 lo DL T j = if sameB DL j then T else T ++ [mkT lo DL[j]! 0] from rfl)
              have H1L := Lib.hid (told1_len lo DL T j HTL.out.2)
              have H1I := Lib.hid (told1_all (P := fun _ t => 0 ≤ t.i ∧ t.i ≤ j) lo DL T j HTI.out ⟨Int.le_refl _, by show (0 : Int) ≤ j; omega⟩)
              have HTN := Lib.hid (show toldN lo DL (j + 1) = told2 DL (told1 lo DL T j) j by rw [HTE.out]; rfl)
              rw [← HX.out] at HT1
              have HS0 := Lib.hid (show sameB DL j = true → 0 < j from fun h => by
                rcases Nat.eq_zero_or_pos j with rfl | h'
                · cases h
                · exact h')
              have HT2 := Lib.hid (show told2 DL (told1 lo DL T j) j = if !sameB DL j || difB DL j then bumpL (told1 lo DL T j) else told1 lo DL T j from rfl)
              generalize sameB DL j = q at *
              generalize told1 lo DL T j = T1 at *
              go_upto_if 63 with (fail)
              go_cut [11] (fun t wx => Hid (wx.ownsRow N2 81 5 t T1.length (flatC tC T1)) ∧ Hid (Below N2 w6 wx) ∧ Hid (wx.heap[XB]? = some (.cells #[.slice xua xun xuc, .slice xha xhn xhc, .int .i64 xn] 85)))
              case first =>
                cases q with
                | true =>
                  have HE1 := Lib.hid (show T1 = T by rw [HT1.out]; rfl)
                  clear HT1
                  go_wp2_with fail
                  go_meet
                  exact ⟨Lib.hid (by rw [HE1.out]; exact HT9.out), HB9, HXB9⟩
                | false =>
                  have HE1 := Lib.hid (show T1 = T ++ [mkT lo ⟨xc, xua, xun, xuc, xha, xhn, xhc, xn⟩ 0] by rw [HT1.out]; rfl)
                  clear HT1
                  have c0 : w9.cell? ⟨XB, 0, none⟩ = some (.slice xua xun xuc) := cell_of_blk HXB9.out rfl
                  have c1 : w9.cell? ⟨XB, 1, none⟩ = some (.slice xha xhn xhc) := cell_of_blk HXB9.out rfl
                  have hxb := cell_lt c0
                  have htl := HTL.out.1
                  have hm1 : T.length + 1 ≤ maxLen := by unfold maxLen; omega
                  have hm2 : (T.length + 1) * 72 ≤ 140737488355328 := by omega
                  have HTA := Lib.hid (HT9.out.alloc (.cells #[.slice xua xun xuc, .slice xha xhn xhc, .int .u8 0, .int .i64 0, .int .i64 (lo : Int)] 81))
                  have HOZ := Lib.hid (fun z hz => HT3.out.lt z hz)
                  have HSA := Lib.hid (show N2 ≤ (w9.alloc (.cells #[.slice xua xun xuc, .slice xha xhn xhc, .int .u8 0, .int .i64 0, .int .i64 (lo : Int)] 81)).heap.size ∧ (w9.alloc (.cells #[.slice xua xun xuc, .slice xha xhn xhc, .int .u8 0, .int .i64 0, .int .i64 (lo : Int)] 81)).heap.size = w9.heap.size + 1 by rw [World.size_alloc]; exact ⟨Nat.le_succ_of_le HN9.out, rfl⟩)
                  go_wp2_with (first | (refine wpList_build2 (o := ⟨some 69, _, _, _, _, _⟩) rfl 81 0 3 _ _ rfl _ _ rfl rfl _ (told_built xua xha xun xuc xhn xhc lo) ?_) | (refine wpList_lit1 (o := ⟨some 70, _, _, _, _, _⟩) rfl 49 81 _ rfl _ rfl _ i1 _ 5 Tryz.underlying49 hi1 hy0 hy1 (by omega) (by omega) (told_fill xua xha xun xuc xhn xhc lo) ?_) | (at_builtin; refine wpList_append_lies _ rfl _ _ 49 rfl N2 81 i1 _ 5 72 Tryz.underlying49 hi1 hy0 hy1 hy2 rfl (by omega) (.slice ta T.length tc) T.length (flatC tC T) rfl HTA.out ⟨w9.heap.size, 0, none⟩ 1 1 [.slice xua xun xuc, .slice xha xhn xhc, .int .u8 0, .int .i64 0, .int .i64 (lo : Int)] rfl rfl (World.news_of_block (cs := #[.slice xua xun xuc, .slice xha xhn xhc, .int .u8 0, .int .i64 0, .int .i64 (lo : Int)]) (t := 81) (fr := (0, 0)) (alloc_last _ _)) (by simp [Value.oneCell']) (by omega) hm1 hm2 HSA.out.1 (w9.heap.size + 1) HSA.out.2 ?_; intro gg cap8 w10 hown8 hgrow8 hat8 _))
                  have HT10 := Lib.hid (show w10.ownsRow N2 81 5 (.slice (some ⟨gg, 0, none⟩) (T.length + 1) cap8) T1.length (flatC tC T1) by rw [HE1.out, List.length_append, List.length_singleton, flatC_push]; exact hown8)
                  have HB10 := Lib.hid (show Below N2 w6 w10 from (HB9.out.alloc HN9.out _).grown hgrow8 (by rw [World.size_alloc]; exact Nat.le_succ_of_le HN9.out) (fun z hz => (HOZ.out z hz).1))
                  have HXB10 := Lib.hid (show w10.heap[XB]? = some (.cells #[.slice xua xun xuc, .slice xha xhn xhc, .int .i64 xn] 85) from (hgrow8.block XB (by rw [World.size_alloc]; exact Nat.lt_succ_of_lt (blk_lt HXB9.out)) (fun e => by have := (HOZ.out XB e.symm).2; have := HXE.out; omega)).trans ((Below.heap_alloc w9 _ XB (blk_lt HXB9.out)).trans HXB9.out))
                  clear hown8 hgrow8 hat8
                  go_meet
                  exact ⟨HT10, HB10, HXB10⟩
              case rest =>
                obtain ⟨HT10, HB10, HXB10⟩ := hcut
                obtain ⟨w10, rfl⟩ : ∃ w10 : World, w10 = wc := ⟨_, rfl⟩
                obtain ⟨g, tcap, rfl, hg1, hg2⟩ := HT10.out.form H1L.out.2.2
                obtain ⟨R, t, rfl⟩ : ∃ R t, T1 = R ++ [t] := by
                  rcases List.eq_nil_or_concat T1 with e | ⟨R, t, e⟩
                  · have := H1L.out.2.2; rw [e] at this; simp at this
                  · exact ⟨R, t, by rw [e, List.concat_eq_append]⟩
                rw [List.length_append, List.length_singleton] at HT10 ⊢
                have hti := H1I.out t (by simp)
                have hrl : R.length + 1 ≤ 1000 := by have := H1L.out.2.1; rw [List.length_append, List.length_singleton] at this; have := HTL.out.1; omega
                have hrc : (flatC tC (R ++ [t]))[R.length * 5 + 3]? = some (.int .i64 t.i) := by
                  have := flatC_get tC_len (R ++ [t]) R.length (by simp) 3 (.int .i64 t.i) (by simp [tC])
                  exact this
                have HRC := Lib.hid hrc
                have HSE := Lib.hid (show (flatC tC (R ++ [t])).set (R.length * 5 + 3) (.int .i64 (t.i + 1)) = flatC tC (bumpL (R ++ [t])) by rw [bumpL_snoc]; exact flatC_setT (S := []) (r := 3) (by omega) rfl)
                have HBL2 := Lib.hid (show (bumpL (R ++ [t])).length = R.length + 1 by rw [bumpL_len]; simp)
                have HGN := Lib.hid hg1
                clear hrc hg1 hg2
                have HDJ := Lib.hid (show ∀ k, j = k + 1 → difB DL j = decide (DL[k]!.n ≠ DL[k + 1]!.n) from fun k e => by subst e; rfl)
                generalize difB DL j = d at *
                generalize HR0 : R.length = m at *
                have HRM := Lib.hid HR0
                clear HR0
                go_upto_region 20 with (fail)
                go_cut [84] (fun s wx => s = .bool (!q || d) ∧ Hid (wx.heap = w10.heap ∧ Below N2 w6 wx))
                case first =>
                  as_aux_lemma =>
                    cases q with
                    | false =>
                      go_quiet (fail)
                      go_wp2_with fail
                      go_meet
                      exact ⟨rfl, Lib.hid ⟨rfl, HB10.out.trans (below_drewN _ _ _)⟩⟩
                    | true =>
                      have hj0 := HS0.out rfl
                      obtain ⟨k, rfl⟩ : ∃ k, j = k + 1 := ⟨j - 1, by omega⟩
                      obtain ⟨y, HY⟩ : ∃ y : Fnd, Hid (y = DL[k]!) := ⟨_, Lib.hid rfl⟩
                      have y2 : w10.cell? ⟨B, k * 3 + 2, none⟩ = some (.int .i64 y.n) := (HB10.out.cell (p := ⟨B, k * 3 + 2, none⟩) HB2.out).trans (HDC.out k (by omega) 2 _ (by rw [← HY.out]; rfl))
                      have x2 : w10.cell? ⟨XB, 2, none⟩ = some (.int .i64 xn) := cell_of_blk HXB10.out rfl
                      have HDK := Lib.hid (show d = decide (y.n ≠ xn) by
                        rw [HDJ.out k rfl, HY.out, ← HX.out])
                      generalize y.n = yn at *
                      have hbb := cell_lt y2
                      have hxb := cell_lt x2
                      have hwp : IntKind.i64.wrap (k : Int) = (k : Int) := by rw [IntKind.wrap_i64]; omega
                      have jz1 : (k : Int) < (DL.length : Int) := by omega
                      have z0 : (0 : Int) ≤ (k : Int) + 1 := by omega
                      have e0 : ((k : Int) + 1).toNat = k + 1 := by omega
                      by_cases hyx : yn = xn
                      · obtain rfl : d = false := by rw [HDK.out]; simpa using hyx
                        have b1 : (yn == xn) = true := by simpa using hyx
                        have b2 : (yn != xn) = false := by simpa using hyx
                        subst hyx
                        go_quiet (fail)
                        clear hwp e0
                        go_wp2_with fail
                        go_meet
                        exact ⟨rfl, Lib.hid ⟨rfl, HB10.out.trans (below_drewN _ _ _)⟩⟩
                      · obtain rfl : d = true := by rw [HDK.out]; simpa using hyx
                        have b1 : (yn == xn) = false := by simpa using hyx
                        have b2 : (yn != xn) = true := by simpa using hyx
                        go_quiet (fail)
                        clear hwp e0
                        go_wp2_with fail
                        go_meet
                        exact ⟨rfl, Lib.hid ⟨rfl, HB10.out.trans (below_drewN _ _ _)⟩⟩
                case rest =>
                  obtain ⟨rfl, HW11⟩ := hcut
                  obtain ⟨w11, rfl⟩ : ∃ w11 : World, w11 = wc := ⟨_, rfl⟩
                  have HT11 := Lib.hid (owns_keep HT10.out (fun z _ => by rw [HW11.out.1]) : w11.ownsRow N2 81 5 _ _ _)
                  have HB11 := Lib.hid HW11.out.2
                  cases hqd : (!q || d) with
                  | false =>
                    rw [hqd] at HT2
                    have HUP := Lib.hid (show R ++ [t] = toldN lo DL (j + 1) by rw [HTN.out, HT2.out]; rfl)
                    have HLR := Lib.hid (show (R ++ [t]).length = m + 1 by rw [List.length_append, List.length_singleton, HRM.out])
                    clear hqd
                    go_wp2_with fail
                    go_roundw
                    case rel => exact ⟨j + 1, R ++ [t], by omega, by go_num, Lib.hid (by rw [HLR.out]; exact HT11.out), HUP, HB11⟩
                    case measure => simp [intOf]; omega
                  | true =>
                    rw [hqd] at HT2
                    have HUP := Lib.hid (show bumpL (R ++ [t]) = toldN lo DL (j + 1) by rw [HTN.out, HT2.out]; rfl)
                    have HST := Lib.hid (HT11.out.stored (m * 5 + 3) (.int .i64 (t.i + 1)))
                    rw [HSE.out] at HST
                    have g3 := (HT11.out.cellAt (m * 5 + 3) (by omega)).trans HRC.out
                    have f3 := HT11.out.frozenAt (m * 5 + 3)
                    have hg0 := cell_lt g3
                    clear hqd
                    have ha1 := hti.1
                    have ha2 := hti.2
                    generalize t.i = ti at *
                    go_wp2_with fail
                    go_roundw
                    case rel => exact ⟨j + 1, bumpL (R ++ [t]), by omega, by go_num, Lib.hid (by rw [HBL2.out]; exact HST.out.1), HUP, Lib.hid (HB11.out.setCell (p := ⟨g, m * 5 + 3, none⟩) HGN.out _)⟩
                    case measure => simp [intOf]; omega
          · obtain rfl : j = DL.length := by omega
            rw [HTE.out] at HT3
            clear hlt hj
            go_wp2_with fail
            go_meet
            exact ⟨HT3, HB3⟩
    case rest =>
      obtain ⟨HT3, HB3⟩ := hcut
      obtain ⟨w7, rfl⟩ : ∃ w7 : World, w7 = wc := ⟨_, rfl⟩
      have hpos := (toldN_len lo DL DL.length).2 hl0
      have hl13 := (toldN_len lo DL DL.length).1
      have HTI := Lib.hid (toldN_i lo DL DL.length (Nat.le_refl _))
      have HTA := Lib.hid (toldN_at w6 lo DL HDA.out DL.length (Nat.le_refl _))
      generalize toldN lo DL DL.length = T at *
      have hT40 : T.length ≤ 40 := by omega
      clear hl13
      obtain ⟨g, tcap, rfl, hg1, hg2⟩ := HT3.out.form hpos
      have HGN := Lib.hid hg1
      clear hg1 hg2
      go_upto_block 6 with (fail)
      go_cut [] (fun wx => Hid (wx.ownsRow N2 81 5 (.slice (some ⟨g, 0, none⟩) T.length tcap) T.length (flatC tC (T.map (setSt cb lo)))) ∧ Hid (Below N2 w6 wx))
      case first =>
        as_aux_lemma =>
          go_wp2_with fail
          go_loopw [98] (fun i wr => ∃ j : Nat, j ≤ T.length ∧ i = .int .i64 j ∧ Hid (wr.ownsRow N2 81 5 (.slice (some ⟨g, 0, none⟩) T.length tcap) T.length (flatC tC ((T.take j).map (setSt cb lo) ++ T.drop j))) ∧ Hid (Below N2 w6 wr)) (fun i _ => T.length - (intOf i).toNat)
          case atStart => exact ⟨0, Nat.zero_le _, rfl, HT3, HB3⟩
          case round =>
            obtain ⟨j, hj, rfl, HR, HB4⟩ := hrel
            by_cases hlt : j < T.length
            · have HNX := Lib.hid (show (T.take (j + 1)).map (setSt cb lo) ++ T.drop (j + 1) = (T.take j).map (setSt cb lo) ++ setSt cb lo T[j] :: T.drop (j + 1) by rw [List.take_succ_eq_append_getElem hlt, List.map_append, List.append_assoc]; rfl)
              have HPL := Lib.hid (show ((T.take j).map (setSt cb lo)).length = j by rw [List.length_map, List.length_take]; omega)
              have hti := HTI.out T[j] (List.getElem_mem hlt)
              rw [List.drop_eq_getElem_cons hlt] at HR
              generalize (T.take j).map (setSt cb lo) = P at *
              generalize hDS : T.drop (j + 1) = S at HR HNX
              have HDS := Lib.hid hDS
              clear hDS
              generalize T[j] = t at *
              have hrc : (flatC tC (P ++ t :: S))[j * 5 + 3]? = some (.int .i64 t.i) :=
                flatC_get tC_len (P ++ t :: S) j (by rw [List.length_append, HPL.out]; simp) 3 (.int .i64 t.i) (by rw [List.getElem_append_right (by rw [HPL.out]; exact Nat.le_refl _)]; simp [HPL.out, tC])
              have hrc2 : (flatC tC (P ++ t :: S))[j * 5 + 2]? = some (.int .u8 t.s) :=
                flatC_get tC_len (P ++ t :: S) j (by rw [List.length_append, HPL.out]; simp) 2 (.int .u8 t.s) (by rw [List.getElem_append_right (by rw [HPL.out]; exact Nat.le_refl _)]; simp [HPL.out, tC])
              have g3 := (HR.out.cellAt (j * 5 + 3) (by omega)).trans hrc
              have g2 := (HR.out.cellAt (j * 5 + 2) (by omega)).trans hrc2
              have f3 := HR.out.frozenAt (j * 5 + 2)
              have hg0 := cell_lt g3
              have HST := Lib.hid (fun u => HR.out.stored (j * 5 + 2) u)
              have HSE := Lib.hid (show (flatC tC (P ++ t :: S)).set (j * 5 + 2) (.int .u8 (setSt cb lo t).s) = flatC tC (P ++ setSt cb lo t :: S) by
                have := flatC_setT (R := P) (S := S) (t := t) (t' := setSt cb lo t) (r := 2) (u := .int .u8 (setSt cb lo t).s) (by omega) rfl
                rw [HPL.out] at this
                exact this)
              have HSS := Lib.hid (show (setSt cb lo t).s = if decide (t.i = (lo : Int)) then (if cb then 1 else 3) else 2 from rfl)
              rw [← HNX.out] at HSE
              clear hrc hrc2
              have hjz : (j : Int) < (T.length : Int) := by omega
              have ha1 := hti.1
              have ha2 := hti.2
              clear hti
              by_cases hio : t.i = (lo : Int)
              all_goals
                first
                  | (have HS9 := Lib.hid (show (setSt cb lo t).s = if (true = true) then (if cb = true then (1 : Int) else 3) else 2 from by rw [HSS.out, decide_eq_true hio]); have b1 : (t.i == (lo : Int)) = true := by simpa using hio)
                  | (have HS9 := Lib.hid (show (setSt cb lo t).s = if (false = true) then (if cb = true then (1 : Int) else 3) else 2 from by rw [HSS.out, decide_eq_false hio]); have b1 : (t.i == (lo : Int)) = false := by simpa using hio)
                clear HSS hio
                generalize (setSt cb lo t).s = s9 at *
                generalize t.i = ti at *
                go_wp2_with fail
                refine (status138_any _ cb _).mono ?_
                rintro e w8 ⟨rfl, hw8⟩
                subst w8
                first
                  | rw [show (if (true = true) then (if cb = true then (1 : Int) else 3) else 2) = s9 by rw [HS9.out]; first | done | rfl | simp]
                  | rw [show (if (false = true) then (if cb = true then (1 : Int) else 3) else 2) = s9 by rw [HS9.out]; first | done | rfl | simp]
                go_wp2_with fail
                go_roundw
                case rel => exact ⟨j + 1, by omega, by go_num, Lib.hid (by rw [HDS.out, ← HSE.out]; exact (HST.out _).1), Lib.hid (HB4.out.setCell (p := ⟨g, j * 5 + 2, none⟩) HGN.out _)⟩
                case measure => simp [intOf]; omega
            · obtain rfl : j = T.length := by omega
              rw [List.take_of_length_le (Nat.le_refl _), List.drop_of_length_le (Nat.le_refl _), List.append_nil] at HR
              clear hlt hj
              go_wp2_with fail
              go_meet
              exact ⟨HR, HB4⟩
      case rest =>
        obtain ⟨HR, HB4⟩ := hcut
        obtain ⟨w8, rfl⟩ : ∃ w8 : World, w8 = wc := ⟨_, rfl⟩
        obtain ⟨hlf, ⟨hv0, _⟩ | ⟨g', cap', cur, hv, _, hg, hnc, _, hcs, htk⟩⟩ := HR.out
        · cases hv0
        obtain ⟨rfl, rfl⟩ : g = g' ∧ tcap = cap' := by
          have := Value.slice.inj hv
          exact ⟨congrArg Addr.block (Option.some.inj this.1), this.2.2⟩
        have HTL := Lib.hid (show (T.map (setSt cb lo)).length = T.length by rw [List.length_map])
        have HAT := Lib.hid (show ∀ t ∈ T.map (setSt cb lo), ∀ W, w8.grownBy W (some g) → TldAt W t from fun t ht W hW => by
          obtain ⟨u, hu, rfl⟩ := List.mem_map.1 ht
          have hb := (HB4.out.grown hW (by have := HB4.out.size; rw [HN2.out]; exact this) (fun z hz => by rw [← Option.some.inj hz]; exact HGN.out))
          rw [HN2.out] at hb
          exact CauAt.below (HTA.out u hu) hb)
        have HSO := Lib.hid (sortTL_any (T.map (setSt cb lo)) g tcap PB CP cur w8 (by rw [HTL.out]; omega) (by rw [HTL.out]; exact hpos) HAC.out hg hcs (by rw [HTL.out]; exact hnc) (by rw [HTL.out]; exact htk) HAT.out ((HB4.out.block PB HPC2.out.1).trans HP6.out) ((HB4.out.block CP HPC2.out.2).trans HC6.out) (by have := HPC2.out.1; have := HGN.out; omega) (by have := HPC2.out.2; have := HGN.out; omega))
        have HNC := Lib.hid hnc
        rw [HTL.out] at HSO
        clear hg hcs htk hnc hlf hv
        go_wp2_with fail
        refine HSO.out.mono ?_
        rintro e w9 ⟨rfl, hg9, R, hp9, hr9, hh9⟩
        have HG9 := Lib.hid hg9
        have HH9 := Lib.hid hh9
        have HP9 := Lib.hid hp9
        have HRL := Lib.hid (show R.length = T.length by rw [hp9.length_eq, List.length_map])
        have HTR := Lib.hid (HRS.out R hp9 hr9)
        clear hg9 hh9 hp9 hr9
        go_wp2_with fail
        go_ret
        refine ⟨⟨R, g, tcap, ?_, ?_, HH9.out, ?_, ?_⟩, ?_⟩
        · rw [HRL.out]; rfl
        · rw [HRL.out]; exact HNC.out
        · exact fun t ht => HAT.out t (HP9.out.mem_iff.1 ht) w9 HG9.out
        · rw [HLO.out]; exact HTR.out
        · rw [← HN.out]
          exact (HB6.out.trans (HB4.out.mono (by rw [HN2.out]; exact HN6.out))).grown HG9.out (by have := HB4.out.size; have := HN6.out; omega) (fun z hz => by rw [← Option.some.inj hz]; have := HGN.out; have := HN6.out; rw [HN2.out] at *; omega)
end Go.Proofs.YtemeppfikpafbaaGreat

