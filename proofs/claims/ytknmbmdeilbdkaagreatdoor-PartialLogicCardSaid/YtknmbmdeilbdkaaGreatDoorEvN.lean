/- append, copy and the conversions of strings and bytes. -/
import Derived.Test.YtknmbmdeilbdkaaGreatDoorEvL
import Derived.Laws.Append
import Derived.Laws.IdiomStrings
namespace Go.Proofs.YtknmbmdeilbdkaaGreatDoor.Ev
open Go
section
variable {P : Program} {m : Ren} {w : World} {H H' : Tr AB}

theorem isIntT_eq {t : TypeId} (h : isIntT P t = some false) : ∃ d, P.underlying t = some d ∧ ∀ k, d ≠ .int k := by
  unfold isIntT at h
  split at h
  · cases h
  · rename_i d hn hu
    exact ⟨d, hu, fun k e => hn k e⟩
  · cases h
theorem run_app_in {st xt e ty : TypeId} {ts : List TypeId} {i : TypeInfo} {len n cap : Nat} {a : Addr} {x : Value} {news : List Value} {w' : World} (ht : P.underlying st = some (.slice e)) (hx : isIntT P xt = some false) (hi : P.info? e = some i)
    (hn : (Builtin.lenOf x).run P w = .ok n w) (hf : (Builtin.firstCells i.size n x).run P w = .ok news.toArray w) (hfit : len + n ≤ cap) (hst : (storeCells (a.add (len * i.size)) news 0).run P w = .ok () w') :
    (Builtin.append_ ⟨st :: xt :: ts⟩ ty #[.slice (some a) len cap, x]).run P w = .ok (.slice (some a) (len + n) cap) w' := by
  obtain ⟨d, hd, hk⟩ := isIntT_eq hx
  have hm : (match d with | .int _ => true | _ => false) = false := by cases d <;> first | rfl | exact (hk _ rfl).elim
  simp [Builtin.append_, run_underlying ht, sizeOf, typeInfo, hi, run_underlying hd, hm, hn, hfit, hf, hst]
theorem run_app_new {st xt e ty : TypeId} {ts : List TypeId} {i : TypeInfo} {z : Value} {len n cap : Nat} {a : Option Addr} {x : Value} {olds news : List Value} (ht : P.underlying st = some (.slice e)) (hx : isIntT P xt = some false) (hi : P.info? e = some i) (hz : i.zero = some z)
    (hn : (Builtin.lenOf x).run P w = .ok n w) (hf : ∀ w1 : World, w1.heap = w.heap → (Builtin.firstCells i.size n x).run P w1 = .ok news.toArray w1) (ho : ∀ w1 : World, w1.heap = w.heap → (Builtin.firstCells i.size len (.slice a len cap)).run P w1 = .ok olds.toArray w1)
    (hfit : ¬ len + n ≤ cap) (hb : (len + n) * i.bytes ≤ 140737488355328) (h63 : len + n ≤ 9223372036854775807) :
    (Builtin.append_ ⟨st :: xt :: ts⟩ ty #[.slice a len cap, x]).run P w =
      .ok (.slice (some ⟨w.heap.size, 0, none⟩) (len + n) (grownCap w (len + n) cap e)) (w.drew.alloc (.cells (olds.toArray ++ (news.toArray ++ Builtin.zeroCells z.cells (grownCap w (len + n) cap e - (len + n)))) e)) := by
  obtain ⟨d, hd, hk⟩ := isIntT_eq hx
  have hm : (match d with | .int _ => true | _ => false) = false := by cases d <;> first | rfl | exact (hk _ rfl).elim
  have h1 := growslice_fits (old := cap) (by omega) hb
  have h1' : ¬ 281474976710656 < Builtin.nextslicecap (len + n) cap * i.bytes := by omega
  have h2 : ¬ ((9223372036854775807 : Int) < (len : Int) + (n : Int)) := by omega
  have hmax : IntKind.i64.max = 9223372036854775807 := rfl
  have hf' := hf w.drew rfl
  have ho' := ho w.drew rfl
  have hforce : (Question.appendCap (len + n) cap e).forced = false := rfl
  have hg : (Question.appendCap (len + n) cap e).cut (w.tape w.drawn (Question.appendCap (len + n) cap e)) = grownCap w (len + n) cap e := rfl
  simp only [Builtin.append_, List.getElem?_toArray, List.getElem?_cons_zero, List.getElem?_cons_succ, Sem.run_bind, run_underlying ht, Result.andThen_ok, sizeOf, typeInfo, run_program, hi, Sem.run_pure, run_underlying hd, hm, Bool.false_eq_true, if_false, hn, hfit, hmax, Bool.not_false]
  simp [h1', h2, hforce, hg, hf', ho', zeroValue, typeInfo, hi, hz, newRow]
/-- What is left behind an operation that hands back a value, or none. -/
def ES (P : Program) (m : Ren) (H : Tr AB) (w : World) (c : Nat) (r : MR) (s : Sem Next) : Prop :=
  ∃ nx u w' m', s.run P w = .ok nx w' ∧ (nx = .value u ∨ (nx = .skip ∧ u = undef)) ∧ VR m' r.v u ∧ Rel m' r.H.get w' ∧ Fr m H.get w m' r.H.get w' c r.c
theorem VS.exec {c c' : Nat} {v : AV} {s : Sem Value} (h : VS P m H w c v H' c' s) : ES P m H w c ⟨v, H', c'⟩ (do pure (Next.value (← s)) : Sem Next) := by
  obtain ⟨r, w', m', h1, h2, h3, h4⟩ := h
  exact ⟨.value r, r, w', m', exec_v h1, Or.inl rfl, h2, h3, h4⟩
theorem VS.quiet (hR : Rel m H.get w) {c : Nat} {v : AV} {s : Sem Value} {r : Value} (h : s.run P w = .ok r w) (hv : VR m v r) : VS P m H w c v H c s :=
  ⟨r, w, m, h, hv, hR, Fr.refl fun _ _ h => h⟩
/-- A row that append lays anew. -/
theorem app_row (hR : Rel m H.get w) {c e size n fz nc : Nat} {cs : List AV} {vs : List Value} {C : Array Value} {z : Array Value} (hl : LR m cs vs) (hlen : cs.length = n * size) (hC : C = vs.toArray ++ Builtin.zeroCells z (nc - n)) (hzs : z.size = size) (hn : n ≤ nc) (hc : m c = none) :
    Rel (m.put c w.heap.size (nc - n)) (newB H c e size cs true fz).get (w.drew.alloc (.cells C e)) ∧ Fr m H.get w (m.put c w.heap.size (nc - n)) (newB H c e size cs true fz).get (w.drew.alloc (.cells C e)) c (c + 1) ∧
      VR (m.put c w.heap.size (nc - n)) (.sl c 0 n n false) (.slice (some ⟨w.heap.size, 0, none⟩) n nc) := by
  have hs : C.size = cs.length + (nc - n) * size := by
    rw [hC, Array.size_append, size_zeroCells, hzs, hl.1]; simp
  obtain ⟨h1, h2⟩ := row_new hR (ty := e) (sz := size) (fz := fz) (opn := true) (C := C) (δ := nc - n) (l := cs) hc hs (fun h => by cases h) (fun i a hi => by
    obtain ⟨v, h3, h4⟩ := hl.get hi
    refine ⟨v, ?_, h4⟩
    have hlt := (List.getElem?_eq_some_iff.1 h3).1
    rw [hC, Array.getElem?_append_left (by simpa using hlt)]
    simpa using h3) (w0 := w.drew) rfl rfl rfl rfl
  refine ⟨h1, h2, ?_⟩
  have := VR.sl (off := 0) (len := n) (cap := n) (ex := false) (put_self m c w.heap.size (nc - n))
  simpa [show n + (nc - n) = nc by omega] using this
theorem src_nil {vs : List Value} {n size : Nat} (hn : n = 0) (hl : vs.length = n * size) : vs = [] := by
  subst hn
  exact List.eq_nil_of_length_eq_zero (by simpa using hl)
theorem appNew_VS (hR : Rel m H.get w) {H2 : Tr AB} (hsub : ∀ i b, H2.get i = some b → H.get i = some b) {c e len n fz cap : Nat} {st xt : TypeId} {ts : List TypeId} {ty : TypeId} {z cs : List AV} {r : MR} {a : Option Addr} {y : Value} {olds news : List Value}
    (ht : P.underlying st = some (.slice e)) (hx : isIntT P xt = some false) (hz : tzero P e = some z) {bytes : Nat} (hby : tbytes P e = some bytes)
    (hn : (Builtin.lenOf y).run P w = .ok n w) (hf : ∀ w1 : World, w1.heap = w.heap → (Builtin.firstCells z.length n y).run P w1 = .ok news.toArray w1) (ho : ∀ w1 : World, w1.heap = w.heap → (Builtin.firstCells z.length len (.slice a len cap)).run P w1 = .ok olds.toArray w1)
    (hl : LR m cs (olds ++ news)) (hlen : cs.length = (len + n) * z.length) (hfit : ¬ len + n ≤ cap) (hb : (len + n) * bytes ≤ 140737488355328) (h63 : len + n ≤ 9223372036854775807) (h : appNew H2 c e z.length cs (len + n) fz = some r) :
    c ≤ r.c ∧ (Fresh m c r.c → VS P m H w c r.v r.H r.c (Builtin.append_ ⟨st :: xt :: ts⟩ ty #[.slice a len cap, y])) := by
  unfold appNew at h
  obtain ⟨v, hv, rfl⟩ := mkM_inv h
  rw [mkS_eq] at hv
  cases hv
  refine ⟨Nat.le_succ c, fun hc => ?_⟩
  have hc := hc c (Nat.le_refl _) (Nat.lt_succ_self _)
  obtain ⟨i, zv, hi, hzv, hlz, hzl⟩ := tzero_sound m hz
  have hbi := tbytes_eq hby hi
  have hR2 : Rel m H2.get w := hR.sub hsub
  have hge := grownCap_ge w (len + n) cap e
  obtain ⟨h1, h2, h3⟩ := app_row hR2 (e := e) (size := z.length) (fz := fz) (n := len + n) (nc := grownCap w (len + n) cap e) (z := zv.cells) hl hlen rfl (by rw [hlz.1]; simp) hge hc
  have hrun := run_app_new (ts := ts) (ty := ty) (a := a) ht hx hi hzv hn (by rw [← hzl]; exact hf) (by rw [← hzl]; exact ho) hfit (by rw [hbi]; exact hb) h63
  have hass : olds.toArray ++ (news.toArray ++ Builtin.zeroCells zv.cells (grownCap w (len + n) cap e - (len + n))) = (olds ++ news).toArray ++ Builtin.zeroCells zv.cells (grownCap w (len + n) cap e - (len + n)) := by
    rw [← Array.append_assoc]
    congr 1
    simp
  refine ⟨_, _, _, hrun, h3, ?_, ?_⟩
  · rw [hass]
    exact h1
  · rw [hass]
    have h0 : Fr m H.get w m H2.get w c c := Fr.refl hsub
    exact h0.trans h2 (Nat.le_refl _) (Nat.le_succ _)
/-- append within the room that an open row has beyond what is known of it. -/
theorem app_grow (hR : Rel m H.get w) {b ty size k c n fz len blk δ : Nat} {cells : Tr AV} {opn : Bool} {old new : List AV} {olds news : List Value} (hb : H.get b = some (.row ty size k cells opn false fz)) (hm : m b = some (blk, δ)) (hk : n * size ≤ k + δ * size)
    (hfz : fz ≤ len * size) (hone : new.all one = true) (ho : LR m old olds) (hn : LR m new news) (hol : olds.length = len * size) (hnl : news.length = (n - len) * size) (hln : len ≤ n) (hkn : k ≤ n * size) (hsz : ∃ q, k = q * size ∧ q ≤ n)
    (hoc : ∀ j v, olds[j]? = some v → w.cell? ⟨blk, j, none⟩ = some v) (hc : m c = none) (cap : Nat) (hcap : k = cap * size) (hcn : n ≤ cap + δ) :
    (storeCells ⟨blk, len * size, none⟩ news 0).run P w = .ok () (w.setCells blk (len * size) news) ∧ Rel (m.put c blk (cap + δ - n)) (newB (H.del b) c ty size (old ++ new) true fz).get (w.setCells blk (len * size) news) ∧
      Fr m H.get w (m.put c blk (cap + δ - n)) (newB (H.del b) c ty size (old ++ new) true fz).get (w.setCells blk (len * size) news) c (c + 1) := by
  obtain ⟨C, fr, h1, h2, h3, h4, h5⟩ := hR.row hb hm
  have hCs : C.size = (cap + δ) * size := by rw [h2, hcap, Nat.add_mul]
  have hns : len * size + news.length = n * size := by rw [hnl, ← Nat.add_mul]; congr 1; omega
  have hnc : n * size ≤ (cap + δ) * size := Nat.mul_le_mul_right _ hcn
  have hfit : len * size + news.length ≤ C.size := by rw [hns, hCs]; exact hnc
  obtain ⟨C', k1, k2, k3, k4, k5, k6, k7, k8⟩ := setCells_heap news (len * size) w C h1 hfit
  have hle := Ren.le_put (blk := blk) (δ := cap + δ - n) hc
  have hself := put_self m c blk (cap + δ - n)
  have hbc : b ≠ c := fun e => by rw [e, hc] at hm; cases hm
  have hsplit : ∀ {i y}, (newB (H.del b) c ty size (old ++ new) true fz).get i = some y → (i = c ∧ y = .row ty size (old ++ new).length (setC .e 0 (old ++ new)) true false fz) ∨ (i ≠ c ∧ i ≠ b ∧ H.get i = some y ∧ (m.put c blk (cap + δ - n)) i = m i) := fun {i y} hi => by
    rw [newB_eq] at hi
    rcases Tr.get_set hi with ⟨rfl, rfl⟩ | ⟨hne, hi'⟩
    · exact Or.inl ⟨rfl, rfl⟩
    · obtain ⟨hne2, hi2⟩ := Tr.get_del hi'
      exact Or.inr ⟨hne, hne2, hi2, by simp [Ren.put, hne]⟩
  refine ⟨?_, ⟨fun i y hi => ?_, fun i j y z p d d' hi hj hmi hmj => ?_⟩, ⟨k6, k7, k8, by omega, fun p _ hnn => ?_, hle, fun i p hi => ?_, fun i y p d hi hmi => ?_, fun i y hi => ?_⟩⟩
  · have hr := run_storeCells_cells (P := P) blk (len * size) news 0 w (fun j hj => ?_) (fun j hj => ?_) (fun v hv => ?_)
    · simpa using hr
    · rw [cell_at h1, Array.getElem?_eq_getElem (by omega)]; rfl
    · simp only [World.frozen?, h1]
      have := h4 (len * size + 0 + j) (by omega) (by omega)
      simp only [Bool.and_eq_false_iff, decide_eq_false_iff_not]
      omega
    · obtain ⟨i, hi⟩ := List.getElem?_of_mem hv
      have hlt : i < new.length := by rw [hn.1]; exact (List.getElem?_eq_some_iff.1 hi).1
      exact one_cell (List.all_eq_true.1 hone _ (List.getElem_mem hlt)) (hn.2 i _ v (List.getElem?_eq_getElem hlt) hi)
  · rcases hsplit hi with ⟨rfl, rfl⟩ | ⟨_, hib, hi', he⟩
    · have htot : (old ++ new).length = n * size := by rw [List.length_append, ho.1, hn.1, hol, hns]
      refine ⟨blk, cap + δ - n, _, hself, k1, C', fr, rfl, ?_, fun h => (by cases h), fun q g1 g2 => h4 q g1 (by omega), fun q a hq => ?_⟩
      · rw [k2, hCs, htot, ← Nat.add_mul]; congr 1; omega
      · rcases setC_spec hq with ⟨_, q2⟩ | ⟨_, q2⟩
        · simp only [Nat.sub_zero] at q2
          obtain ⟨v, g1, g2⟩ := (ho.append hn).get q2
          refine ⟨(List.getElem?_eq_some_iff.1 q2).1, v, ?_, g2.mono hle⟩
          rw [k3]
          by_cases hq2 : q < len * size
          · rw [if_neg (by omega)]
            rw [List.getElem?_append_left (by omega)] at g1
            have := hoc q v g1
            rw [cell_at h1] at this
            exact this
          · rw [List.getElem?_append_right (by omega), hol] at g1
            have hlt := (List.getElem?_eq_some_iff.1 g1).1
            rw [if_pos ⟨by omega, by omega⟩]
            exact g1
        · simp [Tr.get_e] at q2
    · obtain ⟨p, d, o, g1, g2, g3⟩ := hR.blk i y hi'
      refine ⟨p, d, o, by rw [he]; exact g1, ?_, g3.mono hle⟩
      rw [k4 p (fun e => hib (hR.inj i b y _ p d δ hi' hb g1 (by rw [e]; exact hm)))]
      exact g2
  · rcases hsplit hi with ⟨rfl, rfl⟩ | ⟨_, hib, hi', he⟩
    · rcases hsplit hj with ⟨rfl, rfl⟩ | ⟨_, hjb, hj', he'⟩
      · rfl
      · rw [hself] at hmi; cases hmi
        rw [he'] at hmj
        exact absurd (hR.inj j b z _ blk d' δ hj' hb hmj hm) hjb
    · rw [he] at hmi
      rcases hsplit hj with ⟨rfl, rfl⟩ | ⟨_, hjb, hj', he'⟩
      · rw [hself] at hmj; cases hmj
        exact absurd (hR.inj i b y _ blk d δ hi' hb hmi hm) hib
      · rw [he'] at hmj
        exact hR.inj i j y z p d d' hi' hj' hmi hmj
  · exact k4 p (fun e => hnn b _ δ hb rfl (by rw [e]; exact hm))
  · by_cases e : i = c
    · exact Or.inr ⟨by omega, by omega⟩
    · left
      simpa [Ren.put, e] using hi
  · right
    rcases hsplit hi with ⟨rfl, rfl⟩ | ⟨_, hib, hi', he⟩
    · rw [hself] at hmi; cases hmi
      exact ⟨b, _, δ, hb, hm, fun h => by cases h⟩
    · rw [he] at hmi
      exact ⟨i, y, d, hi', hmi, fun h => h⟩
  · rcases hsplit hi with ⟨rfl, rfl⟩ | ⟨_, _, hi', _⟩
    · exact Or.inr ⟨by omega, by omega⟩
    · exact Or.inl ⟨_, hi'⟩
end
end Go.Proofs.YtknmbmdeilbdkaaGreatDoor.Ev
