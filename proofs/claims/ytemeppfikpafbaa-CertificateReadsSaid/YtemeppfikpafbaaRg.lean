/- Texts Degs, EqS, laid together. -/
import Derived.Laws.MakeOwn
import Derived.Test.YtemeppfikpafbaaRe
import Derived.Test.YtemeppfikpafbaaRf
/- rank.Degrees (26). -/
namespace Go.Proofs.Ytemeppfikpafbaa
open Go.RowKit Go.Maps Go.Sort Go.Shelf
theorem info50 : (Try.prog.info? 50).map (fun i => (i.zero, i.size, i.bytes)) = some (some (.agg #[.int .u8 0, .int .i64 0, .int .i64 0, .int .i64 0, .int .i64 0, .int .i64 0]), 6, 48) := by kernel_rfl
theorem agg50 : ∀ w, (isAgg (Try.sortShare_ren.t 24)).run Try.prog w = .ok true w := fun _ => by kernel_rfl
theorem size50 : ∀ w, (Go.sizeOf (Try.sortShare_ren.t 24)).run Try.prog w = .ok 6 w := fun _ => by kernel_rfl
theorem call67 : ∀ args w, (callFunc 67 args).run Try.prog w = .ok (.enter 67 args) w := fun _ _ => by kernel_rfl
theorem run_make38 (n : Nat) (hn : n < 4294967296) (w : World) :
    (Instr.makeSlice 38 (.int .i64 0) (.int .i64 (n : Int))).run Try.prog w = .ok (.slice (some ⟨w.heap.size, 0, none⟩) 0 n) (w.alloc (.cells (madeCells #[.int .u8 0, .int .i64 0, .int .i64 0, .int .i64 0, .int .i64 0, .int .i64 0] (n * 6)) 50)) := by
  obtain ⟨i, hi, hzz⟩ := Option.map_eq_some_iff.1 info50
  simp only [Prod.mk.injEq] at hzz
  obtain ⟨hz, hs, hb⟩ := hzz
  have hr := run_make (P := Try.prog) w 38 50 i _ Try.underlying38 hi hz .i64 .i64 0 n (by omega) (by omega) (by rw [hb]; omega) (by omega)
  simpa [Int.toNat_natCast, hs, Value.cells] using hr
theorem sortShare {s : List Shr} (v : Value) (B : Nat) (w : World) (hl : s.length < 1000000) (hown : w.ownsRow B 50 6 v s.length (flatC sC s)) :
    Calls Try.prog 66 #[v, .func (.func 67) #[] #[]] w fun e w' => e = .returned (.tuple #[]) ∧ w.grownBy w' v.ownBlock ∧ w'.ownsRow B 50 6 v s.length (flatC sC (s.mergeSort fun x y => !(ltOf cfS) y x)) :=
  sortF (ρ := Try.sortShare_ren) Try.sortShare agg50 size50 sC_len (by omega) sC_one cfS cfS_by.swo cfS_by.total 67 call67 cmpShare_any s v B 50 w (by omega) hown
/-- Collected shares of the keys that are not left. -/
def Coll (f : K4 → Nat) (D : DataW Unit) (left : Lit → Bool) (acc : List Shr) : Prop :=
  (acc.map Prod.fst).Nodup ∧ (∀ s ∈ acc, s.1.Ok ∧ 0 < f s.1 ∧ s.2.val = f s.1) ∧ (∀ x : K4, x.Ok → 0 < f x → left (kL x) = false → x ∈ acc.map Prod.fst) ∧ (∀ s ∈ acc, left (kL s.1) = false) ∧ (∀ kl, left kl = true → has D kl = true)
theorem Coll.start {f : K4 → Nat} {D : DataW Unit} (hc : ∀ x : K4, x.Ok → 0 < f x → has D (kL x) = true) : Coll f D (has D) [] :=
  ⟨by simp, by simp, fun x hx hp h => absurd h (by rw [hc x hx hp]; simp), by simp, fun _ h => h⟩
theorem Coll.step {f : K4 → Nat} {D : DataW Unit} {left : Lit → Bool} {acc : List Shr} {x : K4} {m : Fin 1001} (h : Coll f D left acc) (hx : x.Ok) (hp : 0 < f x) (hm : m.val = f x) (hl : left (kL x) = true) : Coll f D (fun z => left z && !z.sameKey (kL x)) (acc ++ [(x, m)]) := by
  obtain ⟨h1, h2, h3, h4, h5⟩ := h
  refine ⟨?_, fun s hs => ?_, fun y hy hpy hly => ?_, fun s hs => ?_, fun kl hkl => ?_⟩
  · rw [List.map_append, List.nodup_append]
    refine ⟨h1, by simp, fun a ha b hb e => ?_⟩
    simp at hb
    subst hb
    subst e
    obtain ⟨s, hs, rfl⟩ := List.mem_map.1 ha
    rw [h4 s hs] at hl; cases hl
  · rcases List.mem_append.1 hs with hs | hs
    · exact h2 s hs
    · rw [List.mem_singleton] at hs; subst hs; exact ⟨hx, hp, hm⟩
  · rw [List.map_append, List.mem_append]
    by_cases e : y = x
    · right; simp [e]
    · left
      refine h3 y hy hpy ?_
      dsimp only at hly
      rw [sameK hy hx, decide_eq_false e] at hly
      simpa using hly
  · rcases List.mem_append.1 hs with hs | hs
    · simp only [h4 s hs, Bool.false_and]
    · rw [List.mem_singleton] at hs; subst hs
      simp only [sameK hx hx]
      simp
  · simp only [Bool.and_eq_true] at hkl
    exact h5 kl hkl.1
/-- All collected, sorted: the shares. -/
theorem Coll.shares {l : List Cau} (hok : ∀ c ∈ l, c.Ok) {D : DataW Unit} {left : Lit → Bool} {acc : List Shr} (h : Coll (fun k => jointN l [k]) D left acc) (hl : ∀ kl, left kl = false) : IsShares l ((acc.mergeSort fun x y => !(ltOf cfS) y x).map shN) := by
  obtain ⟨h1, h2, h3, _, _⟩ := h
  have hn : acc.Nodup := List.Pairwise.of_map (S := fun a b => a ≠ b) Prod.fst (fun a b hab e => hab (by rw [e])) h1
  have hp : ∀ s, s ∈ acc.mergeSort (fun x y => !(ltOf cfS) y x) ↔ s ∈ acc := fun s => (List.mergeSort_perm acc _).mem_iff
  refine ⟨List.pairwise_map.2 (cfS_by.sorted acc hn), fun x => ?_⟩
  rw [List.mem_map]
  constructor
  · rintro ⟨s, hs, rfl⟩
    obtain ⟨_, a, b⟩ := h2 s ((hp s).1 hs)
    exact ⟨a, b⟩
  · rintro ⟨a, b⟩
    obtain ⟨c, hc, hk⟩ := jointN_pos.1 a
    obtain ⟨s, hs, hsx⟩ := List.mem_map.1 (h3 x.1 ((hok c hc).undo _ hk) a (hl _))
    refine ⟨s, (hp s).2 hs, ?_⟩
    obtain ⟨_, _, d⟩ := h2 s hs
    unfold shN
    rw [d, hsx]
    exact Prod.ext rfl b.symm
theorem jv_pos {c b : Nat} (h : 0 < cmpR (degR c) (degV b)) : 0 < c ∧ jv b c = c := by
  have h' : 0 < cmpR (degR c) (degR b) := by
    unfold degV at h
    split at h
    · rename_i e; rw [cmpR_none] at h; rw [e]; exact h
    · exact h
  rw [cmpR_pos] at h'
  unfold jv
  rw [if_pos h']
  exact ⟨h'.1, rfl⟩
theorem jv_neg {c b : Nat} (h : ¬ 0 < cmpR (degR c) (degV b)) : jv b c = b := by
  have h' : ¬ 0 < cmpR (degR c) (degR b) := by
    unfold degV at h
    split at h
    · rename_i e; rw [cmpR_none] at h; rw [e]; exact h
    · exact h
  rw [cmpR_pos] at h'
  unfold jv
  rw [if_neg h']
theorem degV_ok {n : Nat} (h : n ≤ 1000) : OkR (degV n) := by
  unfold degV
  split
  · left; rfl
  · exact degR_ok h
theorem entry_is {f : K4 → Nat} {D : DataW Unit} {x : Value} {p : Int × Int} {kl : Lit} {y : DataW Unit × List MemPlace} (ha : ∀ x : K4, x.Ok → D.atKey (kL x) (ratD (0, 0)) = ratD (degV (f x))) (hb : ∀ kl, has D kl = true → ∃ x : K4, x.Ok ∧ kl = kL x ∧ 0 < f x)
    (hh : has D kl = true) (hkey : keyOf Try.prog 48 x = some kl) (hv : ratElem (rA p) = some y) (hat : ∀ zd, D.atKey kl zd = y.1) : ∃ k : K4, k.Ok ∧ x = kA k ∧ kl = kL k ∧ 0 < f k ∧ p = degR (f k) := by
  obtain ⟨k, hk, rfl, hp⟩ := hb kl hh
  refine ⟨k, hk, lawK.inj hkey (keyOf_K k hk), rfl, hp, ?_⟩
  have h1 := ha k hk
  rw [hat] at h1
  obtain ⟨p', e, hy⟩ := ratElem_inv hv
  have ep : p = p' := by
    obtain ⟨a, b⟩ := p
    obtain ⟨c, d⟩ := p'
    simp [rA] at e
    rw [e.1, e.2]
  rw [hy] at h1
  have := ratD_inj h1
  rw [ep, this, degV_pos hp]
set_option maxRecDepth 100000 in
set_option maxHeartbeats 4000000 in
theorem degrees_any (l : List Cau) (v : Value) (w : World) (hl : l.length ≤ 400) (hok : ∀ c ∈ l, c.Ok) (h : CRow w l v) :
    Calls Try.prog 26 #[v] w fun e w' => ∃ (s : List Shr) (sv : Value), IsShares l (s.map shN) ∧ e = .returned sv ∧ w'.ownsRow w.heap.size 50 6 sv s.length (flatC sC s) ∧ Below w.heap.size w w' := by
  obtain ⟨a, cap, rfl, _⟩ := h.shape
  have HR := Lib.hid h; clear h
  have HOK := Lib.hid hok; clear hok
  have hmm := run_makeMap128 w
  obtain ⟨N, hN⟩ : ∃ N, N = w.heap.size := ⟨_, rfl⟩
  have HN := Lib.hid hN
  go_enter Try.func26, Try.ntmps26
  go_wp2_with fail
  clear hmm
  rw [← hN]
  clear hN
  go_loopw [15] (fun i wr => ∃ j : Nat, j ≤ l.length ∧ i = .int .i64 j ∧ Hid (Below N w wr) ∧ Hid (DegM wr N (j * 400) (fun k => jointN (l.take j) [k]))) (fun i _ => l.length - (intOf i).toNat)
  case atStart => exact ⟨0, Nat.zero_le _, rfl, Lib.hid ((Below.refl _ _).alloc (by rw [HN.out]; exact Nat.le_refl _) _), Lib.hid (by rw [Nat.zero_mul, HN.out]; exact DegM.start w)⟩
  case round =>
    obtain ⟨j, hj, rfl, HB, HM⟩ := hrel
    by_cases hlt : j < l.length
    · obtain ⟨b, off, ua, uc, ha, hc, rfl, g0, g1, hu, hh⟩ := HR.out.at hlt
      have HB' := Lib.hid (show Below w.heap.size w wr by rw [← HN.out]; exact HB.out)
      have g0 := below_cell HB'.out g0
      have g1 := below_cell HB'.out g1
      have HU := Lib.hid hu
      have HH := Lib.hid hh
      have HOC := Lib.hid (HOK.out _ (List.getElem_mem hlt))
      have HF := Lib.hid (fin_all l j hlt)
      have HF0 := Lib.hid (fin_zero (fun k => jointN (l.take j) [k]) l[j])
      have hlu : l[j].undo.length ≤ 400 := HOC.out.lu
      clear hu hh
      generalize l[j] = c at *
      generalize hpv : (fun k => jointN (l.take j) [k]) = prev at *
      have HPL := Lib.hid (show ∀ k, prev k ≤ 800 from fun k => by rw [← hpv]; exact jointN_le (fun c hc => HOK.out c (List.mem_of_mem_take hc)) [k])
      clear hpv
      have hbg := cell_lt g0
      have HLC := Lib.hid (alloc_last wr (.cells #[.slice ua c.undo.length uc, .slice ha c.hold.length hc] 30))
      have HLY := Lib.hid (Lay.alloc wr (.cells #[.slice ua c.undo.length uc, .slice ha c.hold.length hc] 30))
      have HD := Lib.hid (show ∀ W, Lay wr W → Calls Try.prog 22 #[.agg #[.slice ua c.undo.length uc, .slice ha c.hold.length hc]] W fun e w' => e = .returned (rA (degR c.size)) ∧ More W w' from fun W hl => degree_any anyB anyB c _ _ W HOC.out ((HU.out.below HB'.out).below hl.1.below) ((HH.out.below HB'.out).below hl.1.below))
      have HSZ := Lib.hid (Cau.size_le HOC.out)
      obtain ⟨p, q, HPQ⟩ : ∃ p q, Hid (degR c.size = (p, q)) := ⟨_, _, Lib.hid rfl⟩
      rw [show rA (degR c.size) = .agg #[.int .i64 p, .int .i64 q] by rw [HPQ.out]; rfl] at HD
      go_upto_region 5 with (fail)
      generalize hCB : wr.heap.size = CB at *
      generalize wr.alloc (.cells #[.slice ua c.undo.length uc, .slice ha c.hold.length hc] 30) = w1 at *
      have HCB := Lib.hid hCB
      clear hCB
      have k0 : w1.cell? ⟨CB, 0, none⟩ = some (.slice ua c.undo.length uc) := cell_of_blk HLC.out rfl
      have k1 : w1.cell? ⟨CB, 1, none⟩ = some (.slice ha c.hold.length hc) := cell_of_blk HLC.out rfl
      go_wp2_with fail
      refine (HD.out _ HLY.out).mono ?_
      rintro e w2 ⟨rfl, hm2⟩
      have k0 := hm2.cell k0
      have k1 := hm2.cell k1
      have HB2 := Lib.hid (HB.out.trans ((more_trans HLY.out.1 hm2).below.mono (by have := HM.out.lt; omega)))
      have HM2 := Lib.hid (HM.out.keep ((more_trans HLY.out.1 hm2).block HM.out.lt))
      have HNS := Lib.hid (show N < w2.heap.size from HM2.out.lt)
      have hcb := cell_lt k0
      clear hm2 g0 g1 hbg
      go_wp2_with fail
      obtain ⟨DB, hDB⟩ : ∃ DB, DB = w2.heap.size := ⟨_, rfl⟩
      have HDB := Lib.hid hDB
      rw [← hDB]
      have HB3 := Lib.hid (HB2.out.alloc (Nat.le_of_lt HNS.out) (.cells #[.int .i64 p, .int .i64 q] 32))
      have HM3 := Lib.hid (HM2.out.keep (Below.heap_alloc w2 (.cells #[.int .i64 p, .int .i64 q] 32) _ HNS.out))
      have HP3 := Lib.hid (show (w2.alloc (.cells #[.int .i64 p, .int .i64 q] 32)).heap[DB]? = some (.cells #[.int .i64 p, .int .i64 q] 32) from by rw [hDB]; exact alloc_last _ _)
      have HND := Lib.hid (show N < DB from by rw [hDB]; exact HNS.out)
      clear hDB k0 k1 hcb
      generalize w2.alloc (.cells #[.int .i64 p, .int .i64 q] 32) = w3 at *
      obtain ⟨wo, rfl⟩ : ∃ wo : World, wo = wr := ⟨_, rfl⟩
      go_loopw [24] (fun i wx => ∃ k : Nat, k ≤ c.undo.length ∧ i = .int .i64 k ∧ Hid (Below N w wx) ∧ Hid (DegM wx N (j * 400 + k) (fin prev c k)) ∧ Hid (wx.heap[DB]? = some (.cells #[.int .i64 p, .int .i64 q] 32))) (fun i _ => c.undo.length - (intOf i).toNat)
      case atStart => exact ⟨0, Nat.zero_le _, rfl, HB3, Lib.hid (by rw [HF0.out, Nat.add_zero]; exact HM3.out), HP3⟩
      case round =>
        obtain ⟨k, hk, rfl, HBx, HMx, HPx⟩ := hrel
        clear HB3 HM3 HP3 HB2 HM2 HM HB HD
        by_cases hkl : k < c.undo.length
        · have HBw := Lib.hid (show Below w.heap.size w wr by rw [← HN.out]; exact HBx.out)
          obtain ⟨b2, off2, rfl, _, hcell⟩ := HU.out.atC kC_len hkl
          have g0 := below_cell HBw.out (hcell 0 (.int .u8 c.undo[k].kind) rfl)
          have g1 := below_cell HBw.out (hcell 1 (.int .i64 c.undo[k].a) rfl)
          have g2 := below_cell HBw.out (hcell 2 (.int .i64 c.undo[k].b) rfl)
          have g3 := below_cell HBw.out (hcell 3 (.int .i64 c.undo[k].n) rfl)
          rw [Nat.add_zero] at g0
          clear hcell
          have HXO := Lib.hid (HOC.out.undo _ (List.getElem_mem hkl))
          have HXM := Lib.hid (List.getElem_mem hkl)
          have HFS := Lib.hid (fin_succ prev c k hkl)
          generalize c.undo[k] = x at *
          have hbg := cell_lt g0
          go_upto_region 9 with (fail)
          have HLK := Lib.hid (alloc_last wr (.cells #[.int .u8 x.kind, .int .i64 x.a, .int .i64 x.b, .int .i64 x.n] 48))
          have HLY3 := Lib.hid (Lay.alloc wr (.cells #[.int .u8 x.kind, .int .i64 x.a, .int .i64 x.b, .int .i64 x.n] 48))
          have HM5 := Lib.hid (HMx.out.keep (HLY3.out.1.block HMx.out.lt))
          have HP5 := Lib.hid ((HLY3.out.1.block (Array.getElem?_eq_some_iff.1 HPx.out).1).trans HPx.out)
          have HB5 := Lib.hid (HBx.out.trans (HLY3.out.1.below.mono (Nat.le_of_lt HMx.out.lt)))
          clear g0 g1 g2 g3 hbg
          generalize wr.alloc (.cells #[.int .u8 x.kind, .int .i64 x.a, .int .i64 x.b, .int .i64 x.n] 48) = w5 at *
          generalize wr.heap.size = KB at *
          have HV := Lib.hid (show fin prev c k x ≤ 800 from by
            have h1 := HPL.out x
            have h2 := HSZ.out
            unfold fin
            split
            · unfold jv; split <;> omega
            · exact h1)
          have HLOOK := Lib.hid (show ∀ W, W.heap[N]? = w5.heap[N]? → (Instr.lookup 128 (.map (some N)) (.agg #[.int .u8 x.kind, .int .i64 x.a, .int .i64 x.b, .int .i64 x.n]) false).run Try.prog W = .ok (rA (degV (fin prev c k x))) W from fun W hW => (HM5.out.keep hW).look HXO.out)
          have HCM := Lib.hid (show ∀ W, Calls Try.prog 30 #[.agg #[.int .i64 p, .int .i64 q], rA (degV (fin prev c k x))] W fun e w' => e = .returned (.int .i64 (cmpR (degR c.size) (degV (fin prev c k x)))) ∧ Lay W w' from fun W => by
            have := cmpR_any (degR c.size) (degV (fin prev c k x)) W (degR_ok (by have := HSZ.out; omega)) (degV_ok (by have := HV.out; omega))
            rw [show rA (degR c.size) = .agg #[.int .i64 p, .int .i64 q] by rw [HPQ.out]; rfl] at this
            exact this)
          obtain ⟨p', q', HPQ'⟩ : ∃ p q, Hid (degV (fin prev c k x) = (p, q)) := ⟨_, _, Lib.hid rfl⟩
          rw [show rA (degV (fin prev c k x)) = .agg #[.int .i64 p', .int .i64 q'] by rw [HPQ'.out]; rfl] at HCM HLOOK
          have HPOS := Lib.hid (fun h => @jv_pos c.size (fin prev c k x) h)
          have HNEG := Lib.hid (fun h => @jv_neg c.size (fin prev c k x) h)
          obtain ⟨r, HR2⟩ : ∃ r, Hid (cmpR (degR c.size) (degV (fin prev c k x)) = r) := ⟨_, Lib.hid rfl⟩
          rw [HR2.out] at HCM HPOS HNEG
          have HK := Lib.hid (show ∀ W, Lay w5 W → (W.cell? ⟨KB, 0, none⟩ = some (.int .u8 x.kind) ∧ W.cell? ⟨KB, 1, none⟩ = some (.int .i64 x.a) ∧ W.cell? ⟨KB, 2, none⟩ = some (.int .i64 x.b) ∧ W.cell? ⟨KB, 3, none⟩ = some (.int .i64 x.n) ∧ W.cell? ⟨DB, 0, none⟩ = some (.int .i64 p) ∧ W.cell? ⟨DB, 1, none⟩ = some (.int .i64 q)
              ∧ (Instr.lookup 128 (.map (some N)) (.agg #[.int .u8 x.kind, .int .i64 x.a, .int .i64 x.b, .int .i64 x.n]) false).run Try.prog W = .ok (.agg #[.int .i64 p', .int .i64 q']) W) from fun W hl => ⟨hl.1.cell (cell_of_blk HLK.out rfl), hl.1.cell (cell_of_blk HLK.out rfl), hl.1.cell (cell_of_blk HLK.out rfl), hl.1.cell (cell_of_blk HLK.out rfl), hl.1.cell (cell_of_blk HP5.out rfl), hl.1.cell (cell_of_blk HP5.out rfl), HLOOK.out W (hl.1.block HM5.out.lt)⟩)
          have HL := Lib.hid (Lay.drew w5)
          obtain ⟨k0, k1, k2, k3, d0, d1, lk⟩ := HK.out _ HL.out
          go_region_held3 (fun W => W.cell? ⟨KB, 0, none⟩ = some (.int .u8 x.kind) ∧ W.cell? ⟨KB, 1, none⟩ = some (.int .i64 x.a) ∧ W.cell? ⟨KB, 2, none⟩ = some (.int .i64 x.b) ∧ W.cell? ⟨KB, 3, none⟩ = some (.int .i64 x.n) ∧ W.cell? ⟨DB, 0, none⟩ = some (.int .i64 p) ∧ W.cell? ⟨DB, 1, none⟩ = some (.int .i64 q)
              ∧ (Instr.lookup 128 (.map (some N)) (.agg #[.int .u8 x.kind, .int .i64 x.a, .int .i64 x.b, .int .i64 x.n]) false).run Try.prog W = .ok (.agg #[.int .i64 p', .int .i64 q']) W)
            (exact HK.out _ HL.out)
            (first | (go_at_call 30; refine (HCM.out _).mono ?_; rintro e w6 ⟨rfl, hl6⟩; have HL := Lib.hid (HL.out.trans hl6); clear hl6))
          clear k0 k1 k2 k3 d0 d1 lk
          obtain ⟨k0, k1, k2, k3, d0, d1, lk⟩ := HK.out _ HL.out
          have HB6 := Lib.hid (HB5.out.trans (HL.out.1.below.mono (Nat.le_of_lt HM5.out.lt)))
          have HM6 := Lib.hid (HM5.out.keep (HL.out.1.block HM5.out.lt))
          have HP6 := Lib.hid ((HL.out.1.block (Array.getElem?_eq_some_iff.1 HP5.out).1).trans HP5.out)
          clear lk
          by_cases hr0 : 0 < r
          · have t1 : decide (0 < r) = true := by simp [hr0]
            have HJ := Lib.hid (HPOS.out hr0)
            obtain ⟨n, D, ho, hn, ha, hb, hcc⟩ := HM6.out
            have HO := Lib.hid ho
            have HRST := Lib.hid (And.intro hn (And.intro ha (And.intro hb hcc)))
            have hnm : n < maxLen := by
              have := HRST.out.1
              unfold maxLen
              have h1 : j * 400 ≤ 400 * 400 := Nat.mul_le_mul_right _ (by omega)
              omega
            have HWV := Lib.hid (show ratElem (.agg #[.int .i64 p, .int .i64 q]) = some (ratD (degR c.size), []) by rw [HPQ.out]; rfl)
            have HKO := Lib.hid (show keyOf Try.prog 48 (.agg #[.int .u8 x.kind, .int .i64 x.a, .int .i64 x.b, .int .i64 x.n]) = some (kL x) from keyOf_K x HXO.out)
            clear ho hn ha hb hcc
            go_wp2_with (at_mapUpdate; refine wpList_mapUpdate_own _ rfl _ _ _ 128 rfl 48 32 lawK Try.underlying128 _ N n D rfl HO.out hnm _ _ _ rfl rfl HKO.out _ [] HWV.out ?_; intro w7 hown7 hgrow7)
            have HB7 := Lib.hid (HB6.out.grown hgrow7 (Nat.le_of_lt HO.out.lt) (fun k e => by cases e; exact Nat.le_refl _))
            have HP7 := Lib.hid ((hgrow7.block DB (Array.getElem?_eq_some_iff.1 HP6.out).1 (by have := HND.out; intro e; cases e; omega)).trans HP6.out)
            have HM7 := Lib.hid (DegM.put HO.out HXO.out HJ.out.1 HRST.out.1 HRST.out.2.1 HRST.out.2.2.1 HRST.out.2.2.2 hown7)
            clear hown7 hgrow7 k0 k1 k2 k3 d0 d1
            go_wp2_with fail
            go_roundw
            case rel =>
              refine ⟨k + 1, by omega, by go_num, HB7, Lib.hid ?_, HP7⟩
              rw [HFS.out]
              have e : (fun y => if y = x then c.size else fin prev c k y) = (fun y => if y = x then jv (fin prev c k y) c.size else fin prev c k y) := by
                funext y
                by_cases e : y = x
                · rw [if_pos e, if_pos e, e, HJ.out.2]
                · rw [if_neg e, if_neg e]
              rw [← e]
              exact HM7.out
            case measure => simp [intOf]; omega
          · have t1 : decide (0 < r) = false := by simp [hr0]
            have hr1 : r ≤ 0 := by omega
            have HJ := Lib.hid (HNEG.out hr1)
            clear hr0 k0 k1 k2 k3 d0 d1
            go_wp2_with fail
            go_roundw
            case rel =>
              refine ⟨k + 1, by omega, by go_num, HB6, Lib.hid ?_, HP6⟩
              rw [HFS.out]
              have e : (fun y => if y = x then jv (fin prev c k y) c.size else fin prev c k y) = fin prev c k := by
                funext y
                by_cases e : y = x
                · rw [if_pos e, e, HJ.out]
                · rw [if_neg e]
              rw [e]
              obtain ⟨n, D, ho, hn, r⟩ := HM6.out
              exact ⟨n, D, ho, by omega, r⟩
            case measure => simp [intOf]; omega
        · obtain rfl : k = c.undo.length := by omega
          rw [HF.out] at HMx
          go_wp2_with fail
          go_roundw
          case rel =>
            refine ⟨j + 1, by omega, by go_num, HBx, Lib.hid ?_⟩
            obtain ⟨n, D, ho, hn, r⟩ := HMx.out
            exact ⟨n, D, ho, by omega, r⟩
          case measure => simp [intOf]; omega
    · obtain rfl : j = l.length := by omega
      rw [List.take_of_length_le (Nat.le_refl _)] at HM
      have HIS := Lib.hid (fun (D : DataW Unit) left acc (h : Coll (fun k => jointN l [k]) D left acc) hl => Coll.shares HOK.out h hl)
      have HPL := Lib.hid (show ∀ k, jointN l [k] ≤ 800 from fun k => jointN_le HOK.out [k])
      generalize hf : (fun k => jointN l [k]) = f at *
      have HPL := Lib.hid (show ∀ k, f k ≤ 800 from fun k => by rw [← hf]; exact HPL.out k)
      clear hf
      obtain ⟨n, D, ho, hn, ha, hb, hcc⟩ := HM.out
      have hln := fun ty => ho.len Try.underlying128 ty
      have HSD := Lib.hid ho.size_le
      have HSZD := Lib.hid (Nat.le_refl (Maps.size D))
      have hsz : n ≤ 160000 := Nat.le_trans hn (Nat.mul_le_mul_right 400 hl)
      obtain ⟨S, hS⟩ : ∃ S, Maps.size D = S := ⟨_, rfl⟩
      rw [hS] at hln HSD
      have HSZD := Lib.hid (show Maps.size D ≤ S by rw [hS]; exact Nat.le_refl _)
      have hmk := run_make38 S (by have := HSD.out; omega) wr
      have HMAP := Lib.hid (ho.alloc (.cells (madeCells #[.int .u8 0, .int .i64 0, .int .i64 0, .int .i64 0, .int .i64 0, .int .i64 0] (S * 6)) 50))
      have HROW := Lib.hid (World.ownsRow_made (base := N) (e := 50) (size := 6) wr (madeCells #[.int .u8 0, .int .i64 0, .int .i64 0, .int .i64 0, .int .i64 0, .int .i64 0] (S * 6)) S (Nat.le_of_lt ho.lt) (by unfold maxLen; have := HSD.out; omega) (by simp [madeCells]))
      have HB1 := Lib.hid (HB.out.alloc (Nat.le_of_lt ho.lt) (.cells (madeCells #[.int .u8 0, .int .i64 0, .int .i64 0, .int .i64 0, .int .i64 0, .int .i64 0] (S * 6)) 50))
      have HCOL := Lib.hid (Coll.start hcc)
      have HRST := Lib.hid (And.intro ha (And.intro hb hcc))
      have HSB := Lib.hid ho.lt
      clear ho hn ha hb hcc hS HM HB
      go_wp2_with (at_range; refine wpList_range_own _ rfl _ 128 rfl 48 32 lawK Try.underlying128 ratElem N n D rfl HMAP.out ?_; intro w0 hrg0 hg0 hs0)
      have HRG := Lib.hid hrg0
      have HG0 := Lib.hid hg0
      have HB2 := Lib.hid (HB1.out.grown hg0 (by rw [HN.out]; exact HB1.out.size) (by simp))
      have HROW2 := Lib.hid (owns_keep HROW.out (fun x hx => hg0.block x (by have := (owns_shape HROW.out).choose_spec.choose_spec.2 x hx; exact this.2) (by simp)))
      clear hrg0 hg0 hs0 hln hmk
      generalize hRB : (wr.alloc (.cells (madeCells #[.int .u8 0, .int .i64 0, .int .i64 0, .int .i64 0, .int .i64 0, .int .i64 0] (S * 6)) 50)).heap.size = RB at *
      have HSN := Lib.hid (show wr.heap.size < RB from by rw [← hRB]; simp)
      have HW0 := Lib.hid HB2.out
      clear hRB HROW HB1 HG0 HMAP
      generalize wr.heap.size = SB at *
      obtain ⟨i0, hi0, hz0, hz1, hz2⟩ := info_parts info50
      go_frame
      go_loopw [9] (fun v wx => ∃ (left : Lit → Bool) (cnt : Nat) (acc : List Shr) (g cap : Nat), v = .slice (some ⟨g, 0, none⟩) acc.length cap ∧ Hid (g ≠ RB ∧ N < g) ∧ Hid (acc.length + cnt ≤ S) ∧ Hid (wx.ranges Try.prog 48 ratElem N RB n D left cnt) ∧ Hid (Coll f D left acc) ∧ Hid (wx.ownsRow N 50 6 v acc.length (flatC sC acc)) ∧ Hid (Below N w wx)) (fun _ wx => wx.rangeLeft N RB)
      case atStart => exact ⟨_, _, [], SB, S, rfl, Lib.hid ⟨by have := HSN.out; omega, HSB.out⟩, Lib.hid (by have := HSZD.out; simp only [List.length_nil]; omega), HRG, HCOL, HROW2, HB2⟩
      case round =>
        obtain ⟨left, cnt, acc, g, cap, rfl, HNE, HCNT, HRGx, HCx, HOx, HBx⟩ := hrel
        clear HRG HCOL HROW2 HB2
        go_wp2_with (at_next; refine wpList_next_ranges _ rfl _ rfl 48 lawK ratElem (fun v : Value => v) rA (fun key _ _ => ⟨key, rfl⟩) (fun v y h => by obtain ⟨p, e, _⟩ := ratElem_inv h; exact ⟨p, e⟩) N RB n D left cnt rfl HRGx.out ?_ ?_)
        · intro _ hl0
          have HL0 := Lib.hid hl0
          clear hl0
          have HLEN := Lib.hid (show acc.length < 1000000 by have := HCNT.out; have := HSD.out; omega)
          go_wp2_with fail
          refine (sortShare _ N _ HLEN.out HOx.out).mono ?_
          rintro e w3 ⟨rfl, hg3, ho3⟩
          have HB3 := Lib.hid (HBx.out.grown hg3 (by rw [HN.out]; exact HBx.out.size) (fun k e => by cases e; exact Nat.le_of_lt HNE.out.2))
          have HO3 := Lib.hid ho3
          clear hg3 ho3
          go_wp2_with fail
          go_ret
          refine ⟨_, _, HIS.out D left acc HCx.out HL0.out, rfl, ?_, by rw [← HN.out]; exact HB3.out⟩
          rw [List.length_mergeSort, ← HN.out]
          exact HO3.out
        · intro x p1 p2 kl d ps w4 cnt4 hkey hlk hv hat hrg4 hlt4 hg4 hs4 hen
          obtain ⟨k, hk, rfl, rfl, hpos, hp⟩ := entry_is HRST.out.1 HRST.out.2.1 (HCx.out.2.2.2.2 _ hlk) hkey hv hat
          have HKO := Lib.hid (show keyOf Try.prog 48 (kA k) = some (kL k) from hkey)
          have HM1 := Lib.hid (HPL.out k)
          obtain ⟨m, hm⟩ : ∃ m : Fin 1001, m.val = f k := ⟨⟨f k, by have := HM1.out; omega⟩, rfl⟩
          have HC4 := Lib.hid (HCx.out.step hk hpos hm hlk)
          have HSC := Lib.hid (show sC (k, m) = [.int .u8 k.kind, .int .i64 k.a, .int .i64 k.b, .int .i64 k.n, .int .i64 p1, .int .i64 p2] by unfold sC; simp only [hm, ← hp])
          have HO4 := Lib.hid (owns_keep HOx.out (fun y hy => hg4.block y ((owns_shape HOx.out).choose_spec.choose_spec.2 y hy).2 (by have := HNE.out.1; simp [Value.ownBlock] at hy; intro e; cases e; omega)))
          have HB4 := Lib.hid (HBx.out.grown hg4 (by rw [HN.out]; exact HBx.out.size) (fun y e => by cases e; have := HSN.out; have := HSB.out; omega))
          have HR4 := Lib.hid hrg4
          have HLT4 := Lib.hid hlt4
          have HWL := Lib.hid hrg4.lt
          have hgg := ((owns_shape HO4.out).choose_spec.choose_spec.2 g (by simp [Value.ownBlock])).2
          have HGG := Lib.hid hgg
          have HACC := Lib.hid (show acc.length + 1 ≤ 160000 by have := HCNT.out; have := HSD.out; omega)
          have hm1 : acc.length + 1 ≤ maxLen := by unfold maxLen; have := HACC.out; omega
          have hm2 : (acc.length + 1) * 48 ≤ 140737488355328 := by have := HACC.out; omega
          have HNW := Lib.hid (show N ≤ w4.heap.size by have := HWL.out; have := HSN.out; have := HSB.out; omega)
          clear hkey hlk hv hat hrg4 hlt4 hg4 hs4 hp hm hpos hk hgg
          unfold kA at hen
          unfold rA at hen
          go_wp2_with (at_builtin; refine wpList_append_lies _ rfl _ _ _ rfl N 50 i0 _ 6 48 Try.underlying38 hi0 hz0 hz1 hz2 rfl (by omega) (.slice (some ⟨g, 0, none⟩) acc.length cap) acc.length (flatC sC acc) rfl (owns_keep HO4.out (fun y hy => by rw [Below.heap_alloc _ _ _ (by rw [World.size_alloc, World.size_alloc]; have := ((owns_shape HO4.out).choose_spec.choose_spec.2 y hy).2; omega), Below.heap_alloc _ _ _ (by rw [World.size_alloc]; have := ((owns_shape HO4.out).choose_spec.choose_spec.2 y hy).2; omega), Below.heap_alloc _ _ _ ((owns_shape HO4.out).choose_spec.choose_spec.2 y hy).2])) ⟨w4.heap.size + 1 + 1, 0, none⟩ 1 1 [.int .u8 k.kind, .int .i64 k.a, .int .i64 k.b, .int .i64 k.n, .int .i64 p1, .int .i64 p2] rfl rfl (World.news_of_block (cs := #[.int .u8 k.kind, .int .i64 k.a, .int .i64 k.b, .int .i64 k.n, .int .i64 p1, .int .i64 p2]) (t := 50) (fr := (0, 0)) (alloc_at _ _ (by simp))) (by simp [Value.oneCell']) (by omega) hm1 hm2 (by rw [World.size_alloc, World.size_alloc, World.size_alloc]; have := HNW.out; omega) _ rfl ?_; intro gg cap2 w5 hown5 hgrow5 hat5 hlt5)
          have HGN : gg ≠ RB ∧ N < gg := by
            rcases hat5 with h | h
            · simp [Value.ownBlock] at h; subst h; exact HNE.out
            · simp at h; have := HWL.out; have := HSN.out; have := HSB.out; omega
          have hne : ∀ y, (y = N ∨ y = RB) → some y ≠ (Value.slice (some ⟨g, 0, none⟩) acc.length cap).ownBlock := fun y hy => by
            have := HNE.out
            have := HSN.out
            have := HSB.out
            simp [Value.ownBlock]
            omega
          have HR5 := (((HR4.out.alloc (.cells #[.int .u8 k.kind, .int .i64 k.a, .int .i64 k.b, .int .i64 k.n] 48)).alloc (.cells #[.int .i64 p1, .int .i64 p2] 32)).alloc (.cells #[.int .u8 k.kind, .int .i64 k.a, .int .i64 k.b, .int .i64 k.n, .int .i64 p1, .int .i64 p2] 50)).kept hgrow5 (hne N (Or.inl rfl)) (hne RB (Or.inr rfl))
          have hnn := HNW.out
          refine ⟨⟨_, cnt4, acc ++ [(k, m)], gg, cap2, by simp, Lib.hid HGN, Lib.hid (by have := HCNT.out; have := HLT4.out; simp; omega), Lib.hid HR5, HC4, Lib.hid ?_, Lib.hid ?_⟩, ?_⟩
          · rw [flatC_push, HSC.out]
            simpa using hown5
          · refine (((HB4.out.alloc hnn (.cells #[.int .u8 k.kind, .int .i64 k.a, .int .i64 k.b, .int .i64 k.n] 48)).alloc (by rw [World.size_alloc]; omega) (.cells #[.int .i64 p1, .int .i64 p2] 32)).alloc (by rw [World.size_alloc, World.size_alloc]; omega) (.cells #[.int .u8 k.kind, .int .i64 k.a, .int .i64 k.b, .int .i64 k.n, .int .i64 p1, .int .i64 p2] 50)).grown hgrow5 (by rw [World.size_alloc, World.size_alloc, World.size_alloc]; omega) (fun y e => ?_)
            have := HNE.out.2
            simp [Value.ownBlock] at e
            omega
          · rw [HR5.left_eq, HRGx.out.left_eq]
            exact HLT4.out
end Go.Proofs.Ytemeppfikpafbaa

/- '==' of keys, messages and degrees, as run equations. -/
namespace Go.Proofs.Ytemeppfikpafbaa
open Go.RowKit
theorem run_eqK (x y : K4) (w : World) : (binOp .eql 48 (.agg #[.int .u8 x.kind, .int .i64 x.a, .int .i64 x.b, .int .i64 x.n]) (.agg #[.int .u8 y.kind, .int .i64 y.a, .int .i64 y.b, .int .i64 y.n])).run Try.prog w = .ok (.bool (decide (x = y))) w := by
  have e : decide (x = y) = (decide (x.kind = y.kind) && (decide (x.a = y.a) && (decide (x.b = y.b) && decide (x.n = y.n)))) := by
    rw [Bool.eq_iff_iff]
    obtain ⟨a, b, c, d⟩ := x
    obtain ⟨a', b', c', d'⟩ := y
    simp
  rw [e]
  go_simp
  by_cases h1 : x.kind = y.kind <;> by_cases h2 : x.a = y.a <;> by_cases h3 : x.b = y.b <;> by_cases h4 : x.n = y.n <;> simp [h1, h2, h3, h4]
theorem run_eqM (x y : M3) (w : World) : (binOp .eql 54 (.agg #[.int .i64 x.f, .int .i64 x.t, .int .i64 x.n]) (.agg #[.int .i64 y.f, .int .i64 y.t, .int .i64 y.n])).run Try.prog w = .ok (.bool (decide (x = y))) w := by
  have e : decide (x = y) = (decide (x.f = y.f) && (decide (x.t = y.t) && decide (x.n = y.n))) := by
    rw [Bool.eq_iff_iff]
    obtain ⟨a, b, c⟩ := x
    obtain ⟨a', b', c'⟩ := y
    simp
  rw [e]
  go_simp
  by_cases h1 : x.f = y.f <;> by_cases h2 : x.t = y.t <;> by_cases h3 : x.n = y.n <;> simp [h1, h2, h3]
theorem run_eqR (x y : Int × Int) (w : World) : (binOp .eql 32 (.agg #[.int .i64 x.1, .int .i64 x.2]) (.agg #[.int .i64 y.1, .int .i64 y.2])).run Try.prog w = .ok (.bool (decide (x = y))) w := by
  have e : decide (x = y) = (decide (x.1 = y.1) && decide (x.2 = y.2)) := by
    rw [Bool.eq_iff_iff]
    obtain ⟨a, b⟩ := x
    obtain ⟨a', b'⟩ := y
    simp
  rw [e]
  go_simp
  by_cases h1 : x.1 = y.1 <;> by_cases h2 : x.2 = y.2 <;> simp [h1, h2]
theorem run_neK (x y : K4) (w : World) : (binOp .neq 48 (.agg #[.int .u8 x.kind, .int .i64 x.a, .int .i64 x.b, .int .i64 x.n]) (.agg #[.int .u8 y.kind, .int .i64 y.a, .int .i64 y.b, .int .i64 y.n])).run Try.prog w = .ok (.bool (!decide (x = y))) w := by
  have e : decide (x = y) = (decide (x.kind = y.kind) && (decide (x.a = y.a) && (decide (x.b = y.b) && decide (x.n = y.n)))) := by
    rw [Bool.eq_iff_iff]
    obtain ⟨a, b, c, d⟩ := x
    obtain ⟨a', b', c', d'⟩ := y
    simp
  rw [e]
  go_simp
  by_cases h1 : x.kind = y.kind <;> by_cases h2 : x.a = y.a <;> by_cases h3 : x.b = y.b <;> by_cases h4 : x.n = y.n <;> simp [h1, h2, h3, h4]
theorem run_neR (x y : Int × Int) (w : World) : (binOp .neq 32 (.agg #[.int .i64 x.1, .int .i64 x.2]) (.agg #[.int .i64 y.1, .int .i64 y.2])).run Try.prog w = .ok (.bool (!decide (x = y))) w := by
  have e : decide (x = y) = (decide (x.1 = y.1) && decide (x.2 = y.2)) := by
    rw [Bool.eq_iff_iff]
    obtain ⟨a, b⟩ := x
    obtain ⟨a', b'⟩ := y
    simp
  rw [e]
  go_simp
  by_cases h1 : x.1 = y.1 <;> by_cases h2 : x.2 = y.2 <;> simp [h1, h2]
end Go.Proofs.Ytemeppfikpafbaa

