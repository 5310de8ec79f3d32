/- Texts MkW, laid together. -/
import Derived.Deep.CutBlock
import Derived.Test.YtekhoanjpnjaeaaNy
import Derived.Test.YtekhoanjpnjaeaaNbe
/- rootcauseref05.Build (60). -/
namespace Go.Proofs.Ytekhoanjpnjaeaa
open Go.RowKit
theorem Try.info194b : (Try.prog.info? 194).map (fun i => (i.zero, i.size, i.bytes)) = some (some (.agg #[.string ⟨#[]⟩, .bool false]), 2, 24) := by kernel_rfl
theorem Try.info196b : (Try.prog.info? 196).map (fun i => (i.zero, i.size, i.bytes)) = some (some (.agg #[.string ⟨#[]⟩, .string ⟨#[]⟩, .int .i64 0]), 3, 40) := by kernel_rfl
theorem Try.info198b : (Try.prog.info? 198).map (fun i => (i.zero, i.size, i.bytes)) = some (some (.slice none 0 0), 1, 24) := by kernel_rfl
theorem Try.info201b : (Try.prog.info? 201).map (fun i => (i.zero, i.size, i.bytes)) = some (some (.agg #[.string ⟨#[]⟩, .int .i64 0, .int .i64 0]), 3, 32) := by kernel_rfl
theorem Try.info123b : (Try.prog.info? 123).map (fun i => (i.zero, i.size, i.bytes)) = some (some (.slice none 0 0), 1, 24) := by kernel_rfl
theorem Try.info122b : (Try.prog.info? 122).map (fun i => (i.zero, i.size, i.bytes)) = some (some (.agg #[.string ⟨#[]⟩, .slice none 0 0, .slice none 0 0]), 3, 64) := by kernel_rfl
theorem slice110_to (a : Option Addr) (n cap p : Nat) (hpn : p ≤ n) (hp : p ≤ cap) (hnil : PlainZ a n cap) : ∀ w, (Instr.slice 110 (.slice a n cap) none (some (.int .i64 (p : Int))) none).run Try.prog w = .ok (.slice a p cap) w := by
  intro w
  rcases hnil with (⟨rfl, rfl⟩ | ⟨b, off, rfl⟩) | ⟨rfl, t, rfl⟩
  · obtain rfl : p = 0 := by omega
    simp [go_sem, sliced]
  · simp [go_sem, sliced]
    omega
  · obtain rfl : p = 0 := by omega
    simp [go_sem, sliced]
theorem slice189_to (a : Option Addr) (n cap p : Nat) (hpn : p ≤ n) (hp : p ≤ cap) (hnil : PlainZ a n cap) : ∀ w, (Instr.slice 189 (.slice a n cap) none (some (.int .i64 (p : Int))) none).run Try.prog w = .ok (.slice a p cap) w := by
  intro w
  rcases hnil with (⟨rfl, rfl⟩ | ⟨b, off, rfl⟩) | ⟨rfl, t, rfl⟩
  · obtain rfl : p = 0 := by omega
    simp [go_sem, sliced]
  · simp [go_sem, sliced]
    omega
  · obtain rfl : p = 0 := by omega
    simp [go_sem, sliced]
theorem row_size {S : Nat → Prop} {W : World} {size n : Nat} {v : Value} {xs : List Value} (hz : 0 < size) (h : Row S W size n v xs) : Row (fun b => b < W.heap.size) W size n v xs := h.mono2 hz (fun b off _u _ hc => ⟨World.block_lt_of_cell? W ⟨b, off, none⟩ hc, hc⟩)
theorem rowOf_take {size N M p : Nat} {P : PRd} {S : Nat → Prop} {W : World} {a : Option Addr} {n c : Nat} (h : RowOf size N P S W (.slice a n c)) (hp : p ≤ n) (hM : p ≤ M) (_hz : 0 < size) : RowOf size M P S W (.slice a p c) := by
  obtain ⟨ls, h1, h2, h3, h4⟩ := h
  obtain ⟨_, _, e, _⟩ := h1.shape
  injection e with _ e _
  subst e
  refine ⟨ls.take p, ?_, by rw [List.length_take]; omega, fun l hl => h3 l (List.mem_of_mem_take hl), fun l hl => h4 l (List.mem_of_mem_take hl)⟩
  have e1 : (ls.take p).length = p := by rw [List.length_take]; omega
  have e2 : (ls.take p).flatten = ls.flatten.take (p * size) := by
    have e3 := flat_len (ls.take p) (fun l hl => h3 l (List.mem_of_mem_take hl))
    rw [e1] at e3
    conv => rhs; rw [← List.take_append_drop p ls, List.flatten_append]
    rw [← e3, List.take_left]
  rw [e1, e2]
  exact h1.take hp
theorem shr_flag (x : Int) (k : Nat) (hk : k ≤ 2) : IntKind.i64.wrap (4 + (k : Int)) = 4 + (k : Int) ∧ ∃ y : Int, ∀ W, (Op.shift .shr .u8 x .i64 (4 + (k : Int))).run Try.prog W = .ok (.int .u8 y) W := by
  refine ⟨by rw [IntKind.wrap_i64]; omega, ?_⟩
  have h3 : k = 0 ∨ k = 1 ∨ k = 2 := by omega
  rcases h3 with rfl | rfl | rfl
  · exact ⟨x.fdiv (2 ^ 4), fun W => rfl⟩
  · exact ⟨x.fdiv (2 ^ 5), fun W => rfl⟩
  · exact ⟨x.fdiv (2 ^ 6), fun W => rfl⟩
theorem codes_hrow {S : Nat → Prop} {W : World} {a : Option Addr} {n c : Nat} (h : CodesAt S W (.slice a n c)) : ∃ x : Nat → Int, HRow W a n x := by
  obtain ⟨_, _, _, e, _, hr⟩ := h
  injection e with e1 e2 e3
  subst e1 e2 e3
  obtain ⟨_, _, _, e, _, hc⟩ := hr.at
  injection e with e1 e2 e3
  subst e1 e2 e3
  by_cases hn : 0 < n
  · obtain ⟨b, off, rfl, _, hx⟩ := hc hn
    have hx' : ∀ i, ∃ x : Int, i < n → W.cell? ⟨b, off + i * 2, none⟩ = some (.int .u8 x) ∧ 0 ≤ x ∧ x ≤ 255 := fun i => by
      by_cases hi : i < n
      · obtain ⟨l, _, ⟨p, v, rfl, h0, h1, _⟩, hcell⟩ := hx i hi
        exact ⟨p, fun _ => ⟨hcell 0 _ rfl, h0, h1⟩⟩
      · exact ⟨0, fun h => absurd h hi⟩
    refine ⟨fun i => Classical.choose (hx' i), ⟨fun _ => ⟨b, off, rfl, ?_, fun i hi => Classical.choose_spec (hx' i) hi⟩⟩⟩
    exact cell_lt (Classical.choose_spec (hx' 0) hn).1
  · exact ⟨fun _ => 0, ⟨fun h => absurd h hn⟩⟩
theorem below_g {a w w' : World} {o : Option Nat} (h : Below a.heap.size a w) (hg : w.grownBy w' o) (hr : ∀ k, o = some k → a.heap.size ≤ k) : Below a.heap.size a w' := h.grown hg h.size hr
theorem more_own {a b c : World} {B : Nat} (h : More a b) (hg : b.grownBy c (some B)) (hB : a.heap.size ≤ B) : More a c := more_of (below_g h.below hg (fun z e => by injection e with e; omega))
theorem OwnAr.keep {W W' : World} {MB k k' : Nat} {d : MkD} (h : OwnAr W MB d k) (hb : ∀ x, x < MB → W'.heap[x]? = W.heap[x]?) (hk : k' ≤ k) : OwnAr W' MB d k' := by
  obtain ⟨ab, ao, an, ac, rb, ro, rm, rc, on, h1, h2, h3, h4, h5, h6, h7, h8⟩ := h
  refine ⟨ab, ao, an, ac, rb, ro, rm, rc, on, h1, h2, h3, h4, by rw [World.cell?_of_block (w := W) (a := ⟨ab, ao + on, none⟩) (hb ab h4)]; exact h5, h6, by omega, fun i hi => ?_⟩
  obtain ⟨x, hx, hx2⟩ := h8 i hi
  exact ⟨x, by rw [World.cell?_of_block (w := W) (a := ⟨rb, ro + i, none⟩) (hb rb h6)]; exact hx, hx2⟩
/-- A cell of a component's box that lies before the maker is written. -/
theorem MkAt.box {w : World} {MB CB t : Nat} {d : MkD} {prm left : Int} {l : List Int} {s : ByteArray} {a1 a2 : Option Addr} {n1 n2 c1 c2 o : Nat} {x : Value} (h : MkAt w MB d prm left l) (hb : w.heap[CB]? = some (.cells #[.string s, .slice a1 n1 c1, .slice a2 n2 c2] t)) (hne : CB < MB) : MkAt (w.setCell ⟨CB, o, none⟩ x) MB d prm left l := by
  have hk : ∀ b, b ≠ CB → (w.setCell ⟨CB, o, none⟩ x).heap[b]? = w.heap[b]? := fun b hb => Below.heap_setCell _ _ _ _ hb
  obtain ⟨a, cap, h1, h2⟩ := h.ex
  refine ⟨⟨a, cap, (hk MB (by omega)).trans h1, ?_⟩, h.by', h.len⟩
  have hl := h2.1
  obtain ⟨_, _, e, hcap⟩ := h2.shape
  injection e with e1 e2 e3
  by_cases h0 : l.length = 0
  · exact ⟨hl, _, _, rfl, by omega, fun hn => absurd h0 hn⟩
  · obtain ⟨b, off, rfl, _, hS, hc⟩ := h2.at h0
    have hbc : b ≠ CB := fun e => by
      subst e
      have hc0 := hc 0 (.int .u8 (l[0]'(by omega))) (by unfold bV; simp [show 0 < l.length by omega])
      simp only [World.cell?, hb, Nat.add_zero] at hc0
      match off, hc0 with
      | 0, h => simp at h
      | 1, h => simp at h
      | 2, h => simp at h
      | n + 3, h => simp at h
    exact ⟨hl, _, _, rfl, by omega, fun _ => ⟨b, off, rfl, hS, fun i u hi => by rw [World.cell?_of_block (w := w) (a := ⟨b, off + i, none⟩) (hk b hbc)]; exact hc i u hi⟩⟩
theorem ars_ne {FB K n : Nat} {W : World} {ag ac : Nat} {ps : List (List Value)} (h : ArsAt K W (.slice (some ⟨ag, 0, none⟩) n ac) ps n) (hk : FB ≤ K) (hn : n = ps.length) : ag ≠ FB ∧ ∀ i rb rm rc, W.cell? ⟨ag, i, none⟩ = some (.slice (some ⟨rb, 0, none⟩) rm rc) → i < n → rb ≠ FB := by
  obtain ⟨us, hl, ho, hu⟩ := h
  have hag := (ho.lt ag rfl).1
  refine ⟨by omega, fun i rb rm rc hc hi => ?_⟩
  obtain ⟨g, cap, hv, _, hc'⟩ := owns_cell ho (j := i) (u := us[i]'(by omega)) (by simp [show i < us.length by omega])
  injection hv with hv _ _
  injection hv with hv
  injection hv with hv
  subst hv
  rw [hc] at hc'
  injection hc' with hc'
  obtain ⟨⟨rb', rm', rc', e, h1, _⟩, _⟩ := hu i (by omega) (by omega)
  rw [e] at hc'
  injection hc' with hc' _ _
  injection hc' with hc'
  injection hc' with hc'
  omega
theorem code_to {FB MB N : Nat} {W : World} {v : Value} (hm : FB ≤ MB) (h : RowOf 2 N Code0 (fun b => b < FB) W v) : RowOf 2 N (CodeC MB) (fun b => b ≠ MB) W v := by
  obtain ⟨ls, h1, h2, h3, h4⟩ := h
  refine ⟨ls, h1.mono (fun b hb => by have h9 : b < FB := hb; omega) (fun _ _ _ _ hc => hc), h2, h3, fun l hl => ?_⟩
  obtain ⟨p, v, rfl, hp0, hp1, hb⟩ := h4 l hl
  exact ⟨p, v, rfl, hp0, hp1, bytesAt_keep (fun b off u hS hc => ⟨⟨by have h9 : b < FB := hS; omega, by have h9 : b < FB := hS; omega⟩, hc⟩) hb⟩
theorem ars_open {K n : Nat} {W : World} {aa : Option Addr} {ac : Nat} {ps : List (List Value)} (h : ArsAt K W (.slice aa n ac) ps n) (hn : n = ps.length) (h0 : 0 < n) : ∃ g, aa = some ⟨g, 0, none⟩ ∧ g < W.heap.size ∧ ∀ i, i < n → ∃ rb rm rc, W.cell? ⟨g, i, none⟩ = some (.slice (some ⟨rb, 0, none⟩) rm rc) ∧ rb < W.heap.size ∧ 1 ≤ rm ∧ rm ≤ 3 ∧ (∀ hp : i < ps.length, max (min 3 (cntH ps[i])) (min 3 (cntS ps[i])) ≤ rm) ∧ ∀ j, j < rm → ∃ x : Nat, W.cell? ⟨rb, j, none⟩ = some (.int .i64 (x : Int)) ∧ x ≤ 2 := by
  obtain ⟨us, hl, ho, hu⟩ := h
  have hcell : ∀ i (hi : i < us.length), ∃ g cap, Value.slice aa n ac = .slice (some ⟨g, 0, none⟩) n cap ∧ W.cell? ⟨g, i, none⟩ = some us[i] := fun i hi => by
    obtain ⟨g, cap, hv, _, hc⟩ := owns_cell ho (j := i) (u := us[i]) (by simp [hi])
    exact ⟨g, cap, hv, hc⟩
  obtain ⟨g, cap, hv, hc0⟩ := hcell 0 (by omega)
  injection hv with hv _ _
  refine ⟨g, hv, cell_lt hc0, fun i hi => ?_⟩
  obtain ⟨g', cap', hv', hc⟩ := hcell i (by omega)
  injection hv' with hv' _ _
  rw [hv] at hv'
  injection hv' with hv'
  injection hv' with hv'
  subst hv'
  obtain ⟨⟨rb, rm, rc, e, _, h1, h2, h3, h4⟩, _⟩ := hu i (by omega) (by omega)
  obtain ⟨x, hx, _⟩ := h4 0 (by omega)
  exact ⟨rb, rm, rc, by rw [← e]; exact hc, cell_lt hx, h1, h2, fun _ => h3, h4⟩
set_option maxRecDepth 100000 in
set_option maxHeartbeats 4000000 in
theorem fleet_any (fl : Int) (la ca : Option Addr) (ln lc cn cc : Nat) (w : World) (hf : 0 ≤ fl ∧ fl ≤ 255) (hl : BytesAt (fun _ => True) w (.slice la ln lc)) (hpc : PlainZ ca cn cc) (hc : RowOf 4 maxLen PartC (fun _ => True) w (.slice ca cn cc)) :
    Calls Try.prog 60 #[.agg #[.int .u8 fl, .slice la ln lc, .slice ca cn cc]] w fun e w' => ∃ fa fn fc qa qn qc cv, e = .returned (.agg #[.string ⟨#[102, 108, 101, 101, 116, 49]⟩, .slice fa fn fc, .slice qa qn qc, cv]) ∧ CompsAt (fun _ => True) w' cv ∧ Below w.heap.size w w' := by
  have HF := Lib.hid hf
  have HL := Lib.hid hl
  have HPC := Lib.hid hpc
  have HC := Lib.hid hc
  clear hf hl hpc hc
  have HA1 := Lib.hid (more_allocD w (.cells #[.int .u8 fl, .slice la ln lc, .slice ca cn cc] 112))
  have HPB1 := Lib.hid (alloc_last w (.cells #[.int .u8 fl, .slice la ln lc, .slice ca cn cc] 112))
  obtain ⟨PB, HPE⟩ : ∃ B, Hid (B = w.heap.size) := ⟨_, Lib.hid rfl⟩
  rw [← HPE.out] at HPB1
  have HSZ1 := Lib.hid (show (w.alloc (.cells #[.int .u8 fl, .slice la ln lc, .slice ca cn cc] 112)).heap.size = PB + 1 by rw [World.size_alloc, HPE.out])
  have HSL := Lib.hid (slice110_to ca cn cc (min cn 3) (Nat.min_le_left _ _) (by obtain ⟨_, h, _⟩ := HC.out; obtain ⟨_, _, e, h⟩ := h.shape; cases e; omega) HPC.out)
  go_enter Try.func60, Try.ntmps60
  go_upto_region 1 with fail
  rw [← HPE.out]
  generalize w.alloc (.cells #[.int .u8 fl, .slice la ln lc, .slice ca cn cc] 112) = w1 at *
  have HA2 := Lib.hid (more_allocD w1 (.cells #[.string ⟨#[]⟩, .slice none 0 0, .slice none 0 0, .slice none 0 0] 117))
  have HRB2 := Lib.hid (alloc_last w1 (.cells #[.string ⟨#[]⟩, .slice none 0 0, .slice none 0 0, .slice none 0 0] 117))
  obtain ⟨RB, HRE⟩ : ∃ B, Hid (B = PB + 1) := ⟨_, Lib.hid rfl⟩
  rw [HSZ1.out, ← HRE.out] at HRB2
  rw [← HRE.out]
  generalize w1.alloc (.cells #[.string ⟨#[]⟩, .slice none 0 0, .slice none 0 0, .slice none 0 0] 117) = w2 at *
  have HM2 := Lib.hid (more_trans HA1.out HA2.out)
  have HPB2 := Lib.hid ((HA2.out.block (blk_ltD HPB1.out)).trans HPB1.out)
  have c2 : w2.cell? ⟨PB, 2, none⟩ = some (.slice ca cn cc) := by simp [World.cell?, HPB2.out]
  have hbp := cell_lt c2
  have HLN := Lib.hid (least_nat cn 3 w2)
  have HMN := Lib.hid (show min cn 3 ≤ cn ∧ min cn 3 ≤ 3 ∧ (min cn 3 = 0 → cn = 0) from by omega)
  obtain ⟨m, HME⟩ : ∃ m, Hid (min cn 3 = m) := ⟨_, Lib.hid rfl⟩
  rw [HME.out] at HSL HLN HMN
  have hsl := HSL.out
  go_wp2_with fail
  refine HLN.out.mono ?_
  rintro e wA ⟨rfl, hwA⟩
  have hwA := hwA.symm
  subst hwA
  go_upto_if 31 with (fail)
  go_cut [3, 4] (fun nv pv wx => ∃ (n : Nat) (pa : Option Addr) (pc : Nat) (ps : List (List Value)), nv = .int .i64 (n : Int) ∧ pv = .slice pa n pc ∧ Hid (Parts wx.heap.size wx (.slice pa n pc) ps) ∧ Hid (More w2 wx))
  case first => as_aux_lemma =>
    by_cases hm0 : m = 0
    · subst hm0
      go_wp2_with fail
      go_meet
      have hA := more_allocD w2 (.cells #[.int .u8 0, .int .u8 0, .slice none 0 0, .slice none 0 0] 191)
      have hL := alloc_last w2 (.cells #[.int .u8 0, .int .u8 0, .slice none 0 0, .slice none 0 0] 191)
      have hcd : CodesAt (fun b => b < (w2.alloc (.cells #[.int .u8 0, .int .u8 0, .slice none 0 0, .slice none 0 0] 191)).heap.size) (w2.alloc (.cells #[.int .u8 0, .int .u8 0, .slice none 0 0, .slice none 0 0] 191)) (.slice none 0 0) := ⟨none, 0, 0, rfl, Or.inl (Or.inl ⟨rfl, rfl⟩), [], ⟨rfl, none, 0, rfl, Nat.le_refl _, fun h => absurd rfl h⟩, Nat.zero_le _, fun _ h => absurd h List.not_mem_nil, fun _ h => absurd h List.not_mem_nil⟩
      exact ⟨1, some ⟨w2.heap.size, 0, none⟩, 1, [[.int .u8 0, .int .u8 0, .slice none 0 0, .slice none 0 0]], rfl, rfl, Lib.hid ⟨row_size (by decide) (Row.of_owns (B := w2.heap.size) (e := 191) (owns_lit (n := 1) hL (Nat.le_refl _) rfl (by decide))), fun l hl => by rw [List.mem_singleton] at hl; rw [hl]; rfl, fun l hl => by rw [List.mem_singleton] at hl; rw [hl]; exact ⟨0, 0, _, _, rfl, by omega, by omega, hcd, hcd⟩, by decide, by decide⟩, Lib.hid hA⟩
    · have hmb : ((m : Int) == 0) = false := beq_eq_false_iff_ne.2 (by omega)
      go_wp2_with fail
      go_meet
      have hR : RowOf 4 3 PartC (fun b => b < w2.heap.size) w2 (.slice ca m cc) := RowOf.keep partC_keep (by decide) (fun b off u _ hc => ⟨World.block_lt_of_cell? w2 ⟨b, off, none⟩ (HM2.out.cell hc), HM2.out.cell hc⟩) (rowOf_take HC.out HMN.out.1 HMN.out.2.1 (by decide))
      obtain ⟨ps, h1, h2, h3, h4⟩ := hR
      obtain ⟨_, _, e, _⟩ := h1.shape
      injection e with _ e _
      exact ⟨m, ca, cc, ps, rfl, rfl, Lib.hid ⟨h1, h3, h4, by omega, h2⟩, Lib.hid (more_of (Below.refl _ _))⟩
  case rest => as_aux_lemma =>
    obtain ⟨n, pa, pc, ps, rfl, rfl, HPS3, HM3⟩ := hcut
    obtain ⟨w3, rfl⟩ : ∃ w3 : World, w3 = wc := ⟨_, rfl⟩
    clear HLN hsl HSL c2 hbp HMN
    have HNE := Lib.hid HPS3.out.at.1
    have HN13 := Lib.hid (show 1 ≤ n ∧ n ≤ 3 from by have h1 := HPS3.out.n1; have h2 := HPS3.out.n3; have := HNE.out; omega)
    have HA4 := Lib.hid (more_allocD w3 (.cells #[.string ⟨#[102, 108, 101, 101, 116, 49]⟩, .slice none 0 0, .slice none 0 0, .slice none 0 0] 117))
    have HFB4 := Lib.hid (alloc_last w3 (.cells #[.string ⟨#[102, 108, 101, 101, 116, 49]⟩, .slice none 0 0, .slice none 0 0, .slice none 0 0] 117))
    obtain ⟨FB, HFE⟩ : ∃ B, Hid (B = w3.heap.size) := ⟨_, Lib.hid rfl⟩
    rw [← HFE.out] at HFB4 HPS3
    have HPB4 := Lib.hid (((more_trans HM3.out HA4.out).block (blk_ltD HPB2.out)).trans HPB2.out)
    have HPF := Lib.hid (show PB < FB from by have h1 := blk_ltD HPB2.out; have h2 := HM3.out.size; have := HFE.out; omega)
    have HRF := Lib.hid (show RB < FB from by have h1 := blk_ltD HRB2.out; have h2 := HM3.out.size; have := HFE.out; omega)
    have HRB4 := Lib.hid (((more_trans HM3.out HA4.out).block (blk_ltD HRB2.out)).trans HRB2.out)
    have HPS4 := Lib.hid (HPS3.out.keep (fun x hx => HA4.out.block (by have := HFE.out; omega)))
    have HM4 := Lib.hid (more_trans HM2.out (more_trans HM3.out HA4.out))
    have hnb : ((n : Int) == 0) = false := beq_eq_false_iff_ne.2 (by have := HN13.out; omega)
    go_upto_region 6 with fail
    try rw [← HFE.out]
    generalize w3.alloc (.cells #[.string ⟨#[102, 108, 101, 101, 116, 49]⟩, .slice none 0 0, .slice none 0 0, .slice none 0 0] 117) = w4 at *
    have c0 : w4.cell? ⟨PB, 0, none⟩ = some (.int .u8 fl) := by simp [World.cell?, HPB4.out]
    have hbp := cell_lt c0
    obtain ⟨nf, HNF⟩ : ∃ k : Nat, Hid (fl % 3 = k) := ⟨(fl % 3).toNat, Lib.hid (by have := HF.out; omega)⟩
    have hrm : Int.tmod fl 3 = (nf : Int) := (Int.tmod_eq_emod_of_nonneg HF.out.1).trans HNF.out
    have HNF2 := Lib.hid (show nf ≤ 2 from by have := HNF.out; omega)
    have hw1 : IntKind.i64.wrap (nf : Int) = nf := by rw [IntKind.wrap_i64]; have := HNF2.out; omega
    have hw2 : IntKind.u8.wrap (nf : Int) = nf := by rw [IntKind.wrap_u8]; have := HNF2.out; omega
    go_wp2_with fail
    refine (names_any 102 (nf : Int) 102 nf w4 rfl rfl (by omega) (by have := HNF2.out; omega)).mono ?_
    rintro e w5 ⟨⟨nv, rfl, ho⟩, hm⟩
    have HM5 := Lib.hid hm
    have HO5 := Lib.hid ho
    obtain ⟨na, nc, rfl, hnx⟩ := owns_shape ho
    clear ho hm c0 hbp hw1 hw2 hrm hnx
    have HFB5 := Lib.hid ((HM5.out.block (blk_ltD HFB4.out)).trans HFB4.out)
    have HFL := Lib.hid (show FB < w5.heap.size from blk_ltD HFB5.out)
    go_upto_block 0 with (fail)
    go_cut [] (fun wx => ∃ (qa : Option Addr) (qc : Nat), Hid (FldB w5 wx FB #[.string ⟨#[102, 108, 101, 101, 116, 49]⟩, .slice none 0 0, .slice none 0 0, .slice none 0 0] 117 1 194 2 nf (.slice qa nf qc)))
    case first => as_aux_lemma =>
      obtain ⟨i0, hi0, hz0, hz1, hz2⟩ := info_parts Try.info194b
      go_wp2_with fail
      go_loopw [41] (fun i wr => ∃ (k : Nat) (qv : Value), k ≤ nf ∧ i = .int .i64 (k : Int) ∧ Hid (FldB w5 wr FB #[.string ⟨#[102, 108, 101, 101, 116, 49]⟩, .slice none 0 0, .slice none 0 0, .slice none 0 0] 117 1 194 2 k qv)) (fun i _ => nf - (intOf i).toNat)
      case atStart => exact ⟨0, _, Nat.zero_le _, rfl, Lib.hid (FldB.start HFB5.out)⟩
      case round =>
        obtain ⟨k, qv, hk, rfl, HB⟩ := hrel
        obtain ⟨wo, rfl⟩ : ∃ wo : World, wo = wr := ⟨_, rfl⟩
        obtain ⟨qa, qc, rfl, hown⟩ := HB.out.shape
        have HOW := Lib.hid hown
        clear hown
        by_cases hlt : k < nf
        · skip
          have hkn : (k : Int) < (nf : Int) := by omega
          have HLT := Lib.hid hlt
          have HK2 := Lib.hid (show k ≤ 2 from by have := HNF2.out; omega)
          obtain ⟨nb, nc', hnv, hnb1, hnx⟩ := name_cell HO5.out (r := k) hlt
          injection hnv with e1 _ e3
          subst e1 e3
          have HNBN := Lib.hid (show nb ≠ FB from by have h1 := blk_ltD HFB4.out; omega)
          have e0 : wo.cell? ⟨nb, k, none⟩ = some (.string (nmB 102 k)) := cell_grown HNBN.out HB.out.g hnx
          have hbe := cell_lt e0
          clear hnx hnb1
          obtain ⟨hs2, sy, hs1⟩ := shr_flag fl k HK2.out
          go_upto_region 9 with fail
          clear e0 hbe
          have HDR := Lib.hid (more_drew wo)
          refine wp_region_heldP (S := fun W => W.cell? ⟨PB, 0, none⟩ = some (.int .u8 fl) ∧ W.cell? ⟨FB, 1, none⟩ = some (.slice qa k qc)) 14 (by kernel_rfl) ?_
          generalize wo.drew = w90 at *
          have HB9 := Lib.hid (HB.out.more HDR.out)
          have HK9 := Lib.hid (show w90.cell? ⟨PB, 0, none⟩ = some (.int .u8 fl) ∧ w90.cell? ⟨FB, 1, none⟩ = some (.slice qa k qc) from ⟨HDR.out.cell (cell_grown (Nat.ne_of_lt HPF.out) HB.out.g (HM5.out.cell (by simp [World.cell?, HPB4.out]))), by simp [World.cell?, HB9.out.box]⟩)
          have hbp := cell_lt HK9.out.1
          have hbf := cell_lt HK9.out.2
          refine tkS (i := 0) (v := ?_) (by simp only [opA, op0]; exact rfl) (by kernel_rfl) (by kernel_rfl) HK9.out ?_ ?_
          rotate_left
          · intro w hS
            (try dsimp only at hS); first | (go_simp; done) | (go_simp; with_reducible rfl)
          (try simp only [ptS, stA, st0, stS])
          refine tkS (i := 1) (v := ?_) (by simp only [opA, opS, op0]; exact rfl) (by kernel_rfl) (by kernel_rfl) HK9.out ?_ ?_
          rotate_left
          · intro w hS
            (try dsimp only at hS); first | (go_simp; done) | (go_simp; with_reducible rfl)
          (try simp only [ptS, stA, st0, stS])
          refine tkS (i := 2) (v := ?_) (by simp only [opA, opS, op0]; exact rfl) (by kernel_rfl) (by kernel_rfl) HK9.out ?_ ?_
          rotate_left
          · intro w hS
            (try dsimp only at hS); first | (go_simp; done) | (go_simp; with_reducible rfl)
          (try simp only [ptS, stA, st0, stS])
          refine tkS (i := 3) (v := ?_) (by simp only [opA, opS, op0]; exact rfl) (by kernel_rfl) (by kernel_rfl) HK9.out ?_ ?_
          rotate_left
          · intro w hS
            (try dsimp only at hS); first | (go_simp; done) | (go_simp; with_reducible rfl)
          (try simp only [ptS, stA, st0, stS])
          refine tkS (i := 4) (v := ?_) (by simp only [opA, opS, op0]; exact rfl) (by kernel_rfl) (by kernel_rfl) HK9.out ?_ ?_
          rotate_left
          · intro w hS
            (try dsimp only at hS); first | (go_simp; done) | (go_simp; with_reducible rfl)
          (try simp only [ptS, stA, st0, stS])
          refine tkS (i := 5) (v := ?_) (by simp only [opA, opS, op0]; exact rfl) (by kernel_rfl) (by kernel_rfl) HK9.out ?_ ?_
          rotate_left
          · intro w hS
            (try dsimp only at hS); first | (go_simp; done) | (go_simp; with_reducible rfl)
          (try simp only [ptS, stA, st0, stS])
          refine tkS (i := 6) (v := ?_) (by simp only [opA, opS, op0]; exact rfl) (by kernel_rfl) (by kernel_rfl) HK9.out ?_ ?_
          rotate_left
          · intro w hS
            (try dsimp only at hS); first | (go_simp; done) | (go_simp; with_reducible rfl)
          (try simp only [ptS, stA, st0, stS])
          refine tkS (i := 7) (v := ?_) (by simp only [opA, opS, op0]; exact rfl) (by kernel_rfl) (by kernel_rfl) HK9.out ?_ ?_
          rotate_left
          · intro w hS
            (try dsimp only at hS); first | (go_simp; done) | (go_simp; with_reducible rfl)
          (try simp only [ptS, stA, st0, stS])
          refine tkS (i := 8) (v := ?_) (by simp only [opA, opS, op0]; exact rfl) (by kernel_rfl) (by kernel_rfl) HK9.out ?_ ?_
          rotate_left
          · intro w hS
            (try dsimp only at hS); first | (go_simp; done) | (go_simp; with_reducible rfl)
          (try simp only [ptS, stA, st0, stS])
          refine tkS (i := 9) (v := ?_) (by simp only [opA, opS, op0]; exact rfl) (by kernel_rfl) (by kernel_rfl) HK9.out ?_ ?_
          rotate_left
          · intro w hS
            (try dsimp only at hS); first | (go_simp; done) | (go_simp; with_reducible rfl)
          (try simp only [ptS, stA, st0, stS])
          refine tkS (i := 10) (v := ?_) (by simp only [opA, opS, op0]; exact rfl) (by kernel_rfl) (by kernel_rfl) HK9.out ?_ ?_
          rotate_left
          · intro w hS
            (try dsimp only at hS); first | (go_simp; done) | (go_simp; with_reducible rfl)
          (try simp only [ptS, stA, st0, stS])
          refine wpAnyP_ready (rs := [11]) (by kernel_rfl) (by simp) ?_
          refine (AllReadyP.cons (by simp only [opA, opS, op0]; exact rfl) (fun K hK => ?_) AllReadyP.nil)
          rw [if_pos (by kernel_rfl)]
          have HA91 := Lib.hid (more_allocD w90 (.cells #[.string (nmB 102 k), .bool (Int.tmod sy 2 == 1)] 194))
          have HL91 := Lib.hid (alloc_last w90 (.cells #[.string (nmB 102 k), .bool (Int.tmod sy 2 == 1)] 194))
          obtain ⟨LB, HLE⟩ : ∃ B, Hid (B = w90.heap.size) := ⟨_, Lib.hid rfl⟩
          go_simp
          rw [← HLE.out] at HL91
          try rw [← HLE.out]
          generalize w90.alloc (.cells #[.string (nmB 102 k), .bool (Int.tmod sy 2 == 1)] 194) = w91 at *
          have HB91 := Lib.hid (HB9.out.more HA91.out)
          have HK91 := Lib.hid (show w91.cell? ⟨PB, 0, none⟩ = some (.int .u8 fl) ∧ w91.cell? ⟨FB, 1, none⟩ = some (.slice qa k qc) from ⟨HA91.out.cell HK9.out.1, HA91.out.cell HK9.out.2⟩)
          refine hK.out _ _ (fun _ => HK91.out) ?_
          clear hK K
          (try simp only [ptS, stA, st0, stS])
          refine wpAnyP_ready (rs := [12]) (by kernel_rfl) (by simp) ?_
          refine (AllReadyP.cons (by simp only [opA, opS, op0]; exact rfl) (fun K hK => ?_) AllReadyP.nil)
          obtain ⟨xs, hox⟩ := HB91.out.own
          have hbs : w5.heap.size ≤ w91.heap.size := HB91.out.g.size
          have hm9 : k + 1 ≤ maxLen := by have := HK2.out; unfold maxLen; omega
          have hm8 : (k + 1) * 24 ≤ 140737488355328 := by have := HK2.out; omega
          refine step_append_lies _ (by rfl) _ _ _ (by rfl) w5.heap.size 194 i0 _ 2 24 Try.underlying113 hi0 hz0 hz1 hz2 rfl (by omega) (.slice qa k qc) k xs (by rfl) hox ⟨LB, 0, none⟩ 1 1 [.string (nmB 102 k), .bool (Int.tmod sy 2 == 1)] (by rfl) (by rfl) (World.news_of_block (cs := #[.string (nmB 102 k), .bool (Int.tmod sy 2 == 1)]) (t := 194) (fr := (0, 0)) HL91.out) (by simp [Value.oneCell']) (by omega) hm9 hm8 hbs w91.heap.size (by rfl) ?_
          intro gg cap2 w92 hown hgrow hat _
          obtain ⟨ra, rn, rc, HQ⟩ : ∃ ra rn rc, Hid (Value.slice ra rn rc = Value.slice (some ⟨gg, 0, none⟩) (k + 1) cap2) := ⟨_, _, _, Lib.hid rfl⟩
          rw [← HQ.out] at hown
          rw [← HQ.out]
          have HB92 := Lib.hid (HB91.out.push HFL.out rfl hgrow hown)
          have HOX := Lib.hid hown
          have HK92 := Lib.hid (show w92.cell? ⟨PB, 0, none⟩ = some (.int .u8 fl) ∧ w92.cell? ⟨FB, 1, none⟩ = some (.slice qa k qc) from ⟨(World.cell?_of_block (w := w91) (a := ⟨PB, 0, none⟩) (hgrow.block PB (World.block_lt_of_cell? w91 ⟨PB, 0, none⟩ HK91.out.1) (fun e => by have h1 := (HOW.out PB e.symm).1; have := HPF.out; have := HFL.out; omega))).trans HK91.out.1, (World.cell?_of_block (w := w91) (a := ⟨FB, 1, none⟩) (hgrow.block FB (World.block_lt_of_cell? w91 ⟨FB, 1, none⟩ HK91.out.2) (fun e => by have h1 := (HOW.out FB e.symm).1; have := HFL.out; omega))).trans HK91.out.2⟩)
          have HFZ := Lib.hid (show w92.frozen? ⟨FB, 1, none⟩ = false from thaw ((hgrow.block FB (blk_ltD HB91.out.box) (fun e => by have h1 := (HOW.out FB e.symm).1; have := HFL.out; omega)).trans HB91.out.box) 1)
          clear hown hgrow hat hox
          refine hK.out _ _ (fun _ => HK92.out) ?_
          clear hK K
          (try simp only [ptS, stA, st0, stS])
          refine tkS (i := 13) (v := ?_) (by simp only [opA, opS, op0]; exact rfl) (by kernel_rfl) (by kernel_rfl) HK92.out ?_ ?_
          rotate_left
          · intro w hS
            (try dsimp only at hS); first | (go_simp; done) | (go_simp; with_reducible rfl)
          (try simp only [ptS, stA, st0, stS])
          refine wpAnyP_ready (rs := [14]) (by kernel_rfl) (by simp) ?_
          refine (AllReadyP.cons (by simp only [opA, opS, op0]; exact rfl) (fun K hK => ?_) AllReadyP.nil)
          rw [if_pos (by kernel_rfl)]
          have g1 := HK92.out.2
          have fz := HFZ.out
          have hbf2 := cell_lt g1
          go_simp
          refine hK.out _ _ (gone (by kernel_rfl)) ?_
          clear hK K
          (try simp only [ptN])
          refine wpAnyP_done (by kernel_rfl) ?_ _
          have hlt9 := HLT.out
          clear hbp hbf g1 fz hbf2 hs1 hs2
          go_wp2_with fail
          go_roundw
          case rel => exact ⟨k + 1, _, by have := HLT.out; omega, by go_num, Lib.hid HB92.out⟩
          case measure => have := HLT.out; simp [intOf]; omega
        · have hkn : k = nf := by omega
          subst hkn
          go_wp2_with fail
          go_meet
          exact ⟨qa, qc, HB⟩
    case rest => as_aux_lemma =>
      obtain ⟨qa, qc, HB1⟩ := hcut
      obtain ⟨w6, rfl⟩ : ∃ w6 : World, w6 = wc := ⟨_, rfl⟩
      have HA7 := Lib.hid (more_allocD w6 (.cells #[.string ⟨#[97]⟩, .string ⟨#[98]⟩, .string ⟨#[99]⟩] 9))
      have HAB7 := Lib.hid (alloc_last w6 (.cells #[.string ⟨#[97]⟩, .string ⟨#[98]⟩, .string ⟨#[99]⟩] 9))
      obtain ⟨AB, HABE⟩ : ∃ B, Hid (B = w6.heap.size) := ⟨_, Lib.hid rfl⟩
      rw [← HABE.out] at HAB7
      have HABN := Lib.hid (show FB < AB from by have h1 := blk_ltD HB1.out.box; have := HABE.out; omega)
      go_upto_block 2 with (fail)
      try rw [← HABE.out]
      generalize w6.alloc (.cells #[.string ⟨#[97]⟩, .string ⟨#[98]⟩, .string ⟨#[99]⟩] 9) = w7 at *
      have HFB7 := Lib.hid (show w7.heap[FB]? = some (.cells #[.string ⟨#[102, 108, 101, 101, 116, 49]⟩, .slice qa nf qc, .slice none 0 0, .slice none 0 0] 117) from (HA7.out.block (blk_ltD HB1.out.box)).trans HB1.out.box)
      have HFL7 := Lib.hid (show FB < w7.heap.size from blk_ltD HFB7.out)
      have HLOW := Lib.hid (show ∀ b o u, b < FB → w4.cell? ⟨b, o, none⟩ = some u → w7.cell? ⟨b, o, none⟩ = some u from fun b o u hx hc => HA7.out.cell (cell_grown (Nat.ne_of_lt hx) HB1.out.g (HM5.out.cell hc)))
      go_cut [] (fun wx => ∃ (ka : Option Addr) (kn kc : Nat), Hid (FldB w7 wx FB #[.string ⟨#[102, 108, 101, 101, 116, 49]⟩, .slice qa nf qc, .slice none 0 0, .slice none 0 0] 117 2 196 3 kn (.slice ka kn kc)))
      case first => as_aux_lemma =>
        obtain ⟨i0, hi0, hz0, hz1, hz2⟩ := info_parts Try.info196b
        obtain ⟨nn, HNN⟩ : ∃ k : Nat, Hid (n * n = k) := ⟨_, Lib.hid rfl⟩
        have HNN9 := Lib.hid (show nn ≤ 9 from by have h1 := HN13.out; have h2 := HNN.out; have : n * n ≤ 3 * 3 := Nat.mul_le_mul h1.2 h1.2; omega)
        have hmul : (n : Int) * (n : Int) = (nn : Int) := by rw [← HNN.out]; push_cast; rfl
        have hwn : IntKind.i64.wrap (nn : Int) = nn := by rw [IntKind.wrap_i64]; have := HNN9.out; omega
        have cl : w7.cell? ⟨PB, 1, none⟩ = some (.slice la ln lc) := HLOW.out _ _ _ HPF.out (by simp [World.cell?, HPB4.out])
        have HCL := Lib.hid cl
        clear cl
        go_wp2_with fail
        go_loopw [9] (fun i wr => ∃ (k kk : Nat) (lv : Value), k ≤ nn ∧ i = .int .i64 (k : Int) ∧ Hid (kk ≤ k) ∧ Hid (FldB w7 wr FB #[.string ⟨#[102, 108, 101, 101, 116, 49]⟩, .slice qa nf qc, .slice none 0 0, .slice none 0 0] 117 2 196 3 kk lv)) (fun i _ => nn - (intOf i).toNat)
        case atStart => exact ⟨0, 0, _, Nat.zero_le _, rfl, Lib.hid (Nat.le_refl _), Lib.hid (FldB.start HFB7.out)⟩
        case round =>
          obtain ⟨k, kk, lv, hk, rfl, HKK, HB⟩ := hrel
          obtain ⟨wo, rfl⟩ : ∃ wo : World, wo = wr := ⟨_, rfl⟩
          obtain ⟨xa, xc, rfl, hown⟩ := HB.out.shape
          have HOW := Lib.hid hown
          clear hown
          have c1 : wo.cell? ⟨PB, 1, none⟩ = some (.slice la ln lc) := cell_grown (Nat.ne_of_lt HPF.out) HB.out.g HCL.out
          have hbp := cell_lt c1
          by_cases hl1 : k < ln
          · skip
            have hl1i : (k : Int) < (ln : Int) := by omega
            by_cases hl2 : k < nn
            · skip
              have hl2i : (k : Int) < (nn : Int) := by omega
              have hk9 : (k : Int) < 9 := by have := HNN9.out; omega
              have HLT := Lib.hid hl2
              obtain ⟨_, _, _, bs, e, hbl, _, hbr, hby⟩ := HL.out
              injection e with e1 e2 e3
              subst e1 e2 e3
              obtain ⟨lb, lo, rfl, _, _, hcb⟩ := hbr.at (by omega)
              have hkb : k < bs.length := by omega
              have cb0 : w.cell? ⟨lb, lo + k, none⟩ = some (.int .u8 bs[k]) := hcb k _ (by unfold bV; simp [hkb])
              have hb0 := hby _ (List.getElem_mem hkb)
              generalize bs[k] = bv at *
              have HBV := Lib.hid hb0
              have HLBF := Lib.hid (show lb < FB from by have h1 := cell_lt cb0; have h2 := HPE.out; have h3 := HPF.out; omega)
              have HCB0 := Lib.hid (HLOW.out lb (lo + k) _ HLBF.out (HM4.out.cell cb0))
              clear hcb hbr hby hbl hkb cb0 hb0
              have cb : wo.cell? ⟨lb, lo + k, none⟩ = some (.int .u8 bv) := cell_grown (Nat.ne_of_lt HLBF.out) HB.out.g HCB0.out
              have hbb := cell_lt cb
              obtain ⟨q, HQE⟩ : ∃ x : Nat, Hid (bv % 4 = x) := ⟨(bv % 4).toNat, Lib.hid (by have := HBV.out; omega)⟩
              have HQ4 := Lib.hid (show q < 4 from by have := HQE.out; omega)
              have hrm : Int.tmod bv 4 = (q : Int) := (Int.tmod_eq_emod_of_nonneg HBV.out.1).trans HQE.out
              by_cases hq0 : q = 0
              · subst hq0
                go_wp2_with fail
                go_roundw
                case rel => exact ⟨k + 1, kk, _, by have := HLT.out; omega, by go_num, Lib.hid (by have := HKK.out; omega), HB⟩
                case measure => have := HLT.out; simp [intOf]; omega
              · have hq1 : (0 : Int) < (q : Int) := by omega
                have HQ1 := Lib.hid hq1
                obtain ⟨r1, HR1⟩ : ∃ r : Nat, Hid (k / n = r) := ⟨_, Lib.hid rfl⟩
                obtain ⟨r2, HR2⟩ : ∃ r : Nat, Hid (k % n = r) := ⟨_, Lib.hid rfl⟩
                have HR13 := Lib.hid (show r1 < 3 from by have h1 := HN13.out; have h2 := HNN.out; have h3 := HLT.out; have h4 : k / n < n := (Nat.div_lt_iff_lt_mul (by omega)).2 (by omega); have := HR1.out; omega)
                have HR23 := Lib.hid (show r2 < 3 from by have h1 := HN13.out; have h4 : k % n < n := Nat.mod_lt _ (by omega); have := HR2.out; omega)
                go_upto_region 16 with fail
                clear c1 hbp cb hbb hrm hq0
                have HDR := Lib.hid (more_drew wo)
                refine wp_region_heldP (S := fun W => W.cell? ⟨FB, 2, none⟩ = some (.slice xa kk xc) ∧ W.cell? ⟨AB, r1, none⟩ = some (.string (abcB r1)) ∧ W.cell? ⟨AB, r2, none⟩ = some (.string (abcB r2)) ∧ W.cell? ⟨PB, 1, none⟩ = some (.slice (some ⟨lb, lo, none⟩) ln lc) ∧ W.cell? ⟨lb, lo + k, none⟩ = some (.int .u8 bv)) 25 (by kernel_rfl) ?_
                generalize wo.drew = w90 at *
                have HB9 := Lib.hid (HB.out.more HDR.out)
                have HK9 := Lib.hid (show w90.cell? ⟨FB, 2, none⟩ = some (.slice xa kk xc) ∧ w90.cell? ⟨AB, r1, none⟩ = some (.string (abcB r1)) ∧ w90.cell? ⟨AB, r2, none⟩ = some (.string (abcB r2)) ∧ w90.cell? ⟨PB, 1, none⟩ = some (.slice (some ⟨lb, lo, none⟩) ln lc) ∧ w90.cell? ⟨lb, lo + k, none⟩ = some (.int .u8 bv) from ⟨by simp [World.cell?, HB9.out.box], HDR.out.cell (cell_grown (Nat.ne_of_gt HABN.out) HB.out.g (abc_cell HAB7.out HR13.out)), HDR.out.cell (cell_grown (Nat.ne_of_gt HABN.out) HB.out.g (abc_cell HAB7.out HR23.out)), HDR.out.cell (cell_grown (Nat.ne_of_lt HPF.out) HB.out.g HCL.out), HDR.out.cell (cell_grown (Nat.ne_of_lt HLBF.out) HB.out.g HCB0.out)⟩)
                have hs1 := cell_lt HK9.out.1
                have hs2 := cell_lt HK9.out.2.1
                have hs3 := cell_lt HK9.out.2.2.2.1
                have hs4 := cell_lt HK9.out.2.2.2.2
                have hrm : Int.tmod bv 4 = (q : Int) := (Int.tmod_eq_emod_of_nonneg HBV.out.1).trans HQE.out
                have hwq : IntKind.i64.wrap (q : Int) = q := by rw [IntKind.wrap_i64]; have := HQ4.out; omega
                have hdv : Int.tdiv (k : Int) (n : Int) = (r1 : Int) := by rw [← HR1.out]; rfl
                have hdm : Int.tmod (k : Int) (n : Int) = (r2 : Int) := by rw [← HR2.out]; rfl
                have hw1 : IntKind.i64.wrap (r1 : Int) = r1 := by rw [IntKind.wrap_i64]; have := HR13.out; omega
                have hn0 : n ≠ 0 := by have := HN13.out; omega
                have h13 : r1 < 3 := HR13.out
                have h23 : r2 < 3 := HR23.out
                have h13i : (r1 : Int) < 3 := by omega
                have h23i : (r2 : Int) < 3 := by omega
                refine tkS (i := 0) (v := ?_) (by simp only [opA, op0]; exact rfl) (by kernel_rfl) (by kernel_rfl) HK9.out ?_ ?_
                rotate_left
                · intro w hS
                  (try dsimp only at hS); first | (go_simp; done) | (go_simp; with_reducible rfl)
                (try simp only [ptS, stA, st0, stS])
                refine tkS (i := 1) (v := ?_) (by simp only [opA, opS, op0]; exact rfl) (by kernel_rfl) (by kernel_rfl) HK9.out ?_ ?_
                rotate_left
                · intro w hS
                  (try dsimp only at hS); first | (go_simp; done) | (go_simp; with_reducible rfl)
                (try simp only [ptS, stA, st0, stS])
                refine tkS (i := 2) (v := ?_) (by simp only [opA, opS, op0]; exact rfl) (by kernel_rfl) (by kernel_rfl) HK9.out ?_ ?_
                rotate_left
                · intro w hS
                  (try dsimp only at hS); first | (go_simp; done) | (go_simp; with_reducible rfl)
                (try simp only [ptS, stA, st0, stS])
                refine tkS (i := 3) (v := ?_) (by simp only [opA, opS, op0]; exact rfl) (by kernel_rfl) (by kernel_rfl) HK9.out ?_ ?_
                rotate_left
                · intro w hS
                  (try dsimp only at hS); first | (go_simp; done) | (go_simp; with_reducible rfl)
                (try simp only [ptS, stA, st0, stS])
                refine tkS (i := 4) (v := ?_) (by simp only [opA, opS, op0]; exact rfl) (by kernel_rfl) (by kernel_rfl) HK9.out ?_ ?_
                rotate_left
                · intro w hS
                  (try dsimp only at hS); first | (go_simp; done) | (go_simp; with_reducible rfl)
                (try simp only [ptS, stA, st0, stS])
                refine tkS (i := 5) (v := ?_) (by simp only [opA, opS, op0]; exact rfl) (by kernel_rfl) (by kernel_rfl) HK9.out ?_ ?_
                rotate_left
                · intro w hS
                  (try dsimp only at hS); first | (go_simp; done) | (go_simp; with_reducible rfl)
                (try simp only [ptS, stA, st0, stS])
                refine tkS (i := 6) (v := ?_) (by simp only [opA, opS, op0]; exact rfl) (by kernel_rfl) (by kernel_rfl) HK9.out ?_ ?_
                rotate_left
                · intro w hS
                  (try dsimp only at hS); first | (go_simp; done) | (go_simp; with_reducible rfl)
                (try simp only [ptS, stA, st0, stS])
                refine tkS (i := 7) (v := ?_) (by simp only [opA, opS, op0]; exact rfl) (by kernel_rfl) (by kernel_rfl) HK9.out ?_ ?_
                rotate_left
                · intro w hS
                  (try dsimp only at hS); first | (go_simp; done) | (go_simp; with_reducible rfl)
                (try simp only [ptS, stA, st0, stS])
                refine tkS (i := 8) (v := ?_) (by simp only [opA, opS, op0]; exact rfl) (by kernel_rfl) (by kernel_rfl) HK9.out ?_ ?_
                rotate_left
                · intro w hS
                  (try dsimp only at hS); first | (go_simp; done) | (go_simp; with_reducible rfl)
                (try simp only [ptS, stA, st0, stS])
                refine tkS (i := 9) (v := ?_) (by simp only [opA, opS, op0]; exact rfl) (by kernel_rfl) (by kernel_rfl) HK9.out ?_ ?_
                rotate_left
                · intro w hS
                  (try dsimp only at hS); first | (go_simp; done) | (go_simp; with_reducible rfl)
                (try simp only [ptS, stA, st0, stS])
                refine tkS (i := 10) (v := ?_) (by simp only [opA, opS, op0]; exact rfl) (by kernel_rfl) (by kernel_rfl) HK9.out ?_ ?_
                rotate_left
                · intro w hS
                  (try dsimp only at hS); first | (go_simp; done) | (go_simp; with_reducible rfl)
                (try simp only [ptS, stA, st0, stS])
                refine tkS (i := 11) (v := ?_) (by simp only [opA, opS, op0]; exact rfl) (by kernel_rfl) (by kernel_rfl) HK9.out ?_ ?_
                rotate_left
                · intro w hS
                  (try dsimp only at hS); first | (go_simp; done) | (go_simp; with_reducible rfl)
                (try simp only [ptS, stA, st0, stS])
                refine tkS (i := 12) (v := ?_) (by simp only [opA, opS, op0]; exact rfl) (by kernel_rfl) (by kernel_rfl) HK9.out ?_ ?_
                rotate_left
                · intro w hS
                  (try dsimp only at hS); first | (go_simp; done) | (go_simp; with_reducible rfl)
                (try simp only [ptS, stA, st0, stS])
                refine tkS (i := 13) (v := ?_) (by simp only [opA, opS, op0]; exact rfl) (by kernel_rfl) (by kernel_rfl) HK9.out ?_ ?_
                rotate_left
                · intro w hS
                  (try dsimp only at hS); first | (go_simp; done) | (go_simp; with_reducible rfl)
                (try simp only [ptS, stA, st0, stS])
                refine tkS (i := 14) (v := ?_) (by simp only [opA, opS, op0]; exact rfl) (by kernel_rfl) (by kernel_rfl) HK9.out ?_ ?_
                rotate_left
                · intro w hS
                  (try dsimp only at hS); first | (go_simp; done) | (go_simp; with_reducible rfl)
                (try simp only [ptS, stA, st0, stS])
                refine tkS (i := 15) (v := ?_) (by simp only [opA, opS, op0]; exact rfl) (by kernel_rfl) (by kernel_rfl) HK9.out ?_ ?_
                rotate_left
                · intro w hS
                  (try dsimp only at hS); first | (go_simp; done) | (go_simp; with_reducible rfl)
                (try simp only [ptS, stA, st0, stS])
                refine tkS (i := 16) (v := ?_) (by simp only [opA, opS, op0]; exact rfl) (by kernel_rfl) (by kernel_rfl) HK9.out ?_ ?_
                rotate_left
                · intro w hS
                  (try dsimp only at hS); first | (go_simp; done) | (go_simp; with_reducible rfl)
                (try simp only [ptS, stA, st0, stS])
                refine tkS (i := 17) (v := ?_) (by simp only [opA, opS, op0]; exact rfl) (by kernel_rfl) (by kernel_rfl) HK9.out ?_ ?_
                rotate_left
                · intro w hS
                  (try dsimp only at hS); first | (go_simp; done) | (go_simp; with_reducible rfl)
                (try simp only [ptS, stA, st0, stS])
                refine tkS (i := 18) (v := ?_) (by simp only [opA, opS, op0]; exact rfl) (by kernel_rfl) (by kernel_rfl) HK9.out ?_ ?_
                rotate_left
                · intro w hS
                  (try dsimp only at hS); first | (go_simp; done) | (go_simp; with_reducible rfl)
                (try simp only [ptS, stA, st0, stS])
                refine tkS (i := 19) (v := ?_) (by simp only [opA, opS, op0]; exact rfl) (by kernel_rfl) (by kernel_rfl) HK9.out ?_ ?_
                rotate_left
                · intro w hS
                  (try dsimp only at hS); first | (go_simp; done) | (go_simp; with_reducible rfl)
                (try simp only [ptS, stA, st0, stS])
                refine tkS (i := 20) (v := ?_) (by simp only [opA, opS, op0]; exact rfl) (by kernel_rfl) (by kernel_rfl) HK9.out ?_ ?_
                rotate_left
                · intro w hS
                  (try dsimp only at hS); first | (go_simp; done) | (go_simp; with_reducible rfl)
                (try simp only [ptS, stA, st0, stS])
                refine tkS (i := 21) (v := ?_) (by simp only [opA, opS, op0]; exact rfl) (by kernel_rfl) (by kernel_rfl) HK9.out ?_ ?_
                rotate_left
                · intro w hS
                  (try dsimp only at hS); first | (go_simp; done) | (go_simp; with_reducible rfl)
                (try simp only [ptS, stA, st0, stS])
                refine wpAnyP_ready (rs := [22]) (by kernel_rfl) (by simp) ?_
                refine (AllReadyP.cons (by simp only [opA, opS, op0]; exact rfl) (fun K hK => ?_) AllReadyP.nil)
                rw [if_pos (by kernel_rfl)]
                have HA91 := Lib.hid (more_allocD w90 (.cells #[.string (abcB r1), .string (abcB r2), .int .i64 (q : Int)] 196))
                have HL91 := Lib.hid (alloc_last w90 (.cells #[.string (abcB r1), .string (abcB r2), .int .i64 (q : Int)] 196))
                obtain ⟨LB, HLE⟩ : ∃ B, Hid (B = w90.heap.size) := ⟨_, Lib.hid rfl⟩
                go_simp
                rw [← HLE.out] at HL91
                try rw [← HLE.out]
                generalize w90.alloc (.cells #[.string (abcB r1), .string (abcB r2), .int .i64 (q : Int)] 196) = w91 at *
                have HB91 := Lib.hid (HB9.out.more HA91.out)
                have HK91 := Lib.hid (show w91.cell? ⟨FB, 2, none⟩ = some (.slice xa kk xc) ∧ w91.cell? ⟨AB, r1, none⟩ = some (.string (abcB r1)) ∧ w91.cell? ⟨AB, r2, none⟩ = some (.string (abcB r2)) ∧ w91.cell? ⟨PB, 1, none⟩ = some (.slice (some ⟨lb, lo, none⟩) ln lc) ∧ w91.cell? ⟨lb, lo + k, none⟩ = some (.int .u8 bv) from ⟨HA91.out.cell HK9.out.1, HA91.out.cell HK9.out.2.1, HA91.out.cell HK9.out.2.2.1, HA91.out.cell HK9.out.2.2.2.1, HA91.out.cell HK9.out.2.2.2.2⟩)
                refine hK.out _ _ (fun _ => HK91.out) ?_
                clear hK K
                (try simp only [ptS, stA, st0, stS])
                refine wpAnyP_ready (rs := [23]) (by kernel_rfl) (by simp) ?_
                refine (AllReadyP.cons (by simp only [opA, opS, op0]; exact rfl) (fun K hK => ?_) AllReadyP.nil)
                obtain ⟨xs, hox⟩ := HB91.out.own
                have hbs : w7.heap.size ≤ w91.heap.size := HB91.out.g.size
                have hm9 : kk + 1 ≤ maxLen := by have h1 := HKK.out; have h2 := HLT.out; have h3 := HNN9.out; unfold maxLen; omega
                have hm8 : (kk + 1) * 40 ≤ 140737488355328 := by have h1 := HKK.out; have h2 := HLT.out; have h3 := HNN9.out; omega
                refine step_append_lies _ (by rfl) _ _ _ (by rfl) w7.heap.size 196 i0 _ 3 40 Try.underlying114 hi0 hz0 hz1 hz2 rfl (by omega) (.slice xa kk xc) kk xs (by rfl) hox ⟨LB, 0, none⟩ 1 1 [.string (abcB r1), .string (abcB r2), .int .i64 (q : Int)] (by rfl) (by rfl) (World.news_of_block (cs := #[.string (abcB r1), .string (abcB r2), .int .i64 (q : Int)]) (t := 196) (fr := (0, 0)) HL91.out) (by simp [Value.oneCell']) (by omega) hm9 hm8 hbs w91.heap.size (by rfl) ?_
                intro gg cap2 w92 hown hgrow hat _
                obtain ⟨ra, rn, rc, HQ⟩ : ∃ ra rn rc, Hid (Value.slice ra rn rc = Value.slice (some ⟨gg, 0, none⟩) (kk + 1) cap2) := ⟨_, _, _, Lib.hid rfl⟩
                rw [← HQ.out] at hown
                rw [← HQ.out]
                have HB92 := Lib.hid (HB91.out.push HFL7.out rfl hgrow hown)
                have HK92 := Lib.hid (show w92.cell? ⟨FB, 2, none⟩ = some (.slice xa kk xc) ∧ w92.cell? ⟨AB, r1, none⟩ = some (.string (abcB r1)) ∧ w92.cell? ⟨AB, r2, none⟩ = some (.string (abcB r2)) ∧ w92.cell? ⟨PB, 1, none⟩ = some (.slice (some ⟨lb, lo, none⟩) ln lc) ∧ w92.cell? ⟨lb, lo + k, none⟩ = some (.int .u8 bv) from ⟨(World.cell?_of_block (w := w91) (a := ⟨FB, 2, none⟩) (hgrow.block FB (World.block_lt_of_cell? w91 ⟨FB, 2, none⟩ HK91.out.1) (fun e => by have h1 := (HOW.out FB e.symm).1; have h2 := HFL7.out; have h3 := HFL7.out; omega))).trans HK91.out.1, (World.cell?_of_block (w := w91) (a := ⟨AB, r1, none⟩) (hgrow.block AB (World.block_lt_of_cell? w91 ⟨AB, r1, none⟩ HK91.out.2.1) (fun e => by have h1 := (HOW.out AB e.symm).1; have h2 := HFL7.out; have h3 := blk_ltD HAB7.out; omega))).trans HK91.out.2.1, (World.cell?_of_block (w := w91) (a := ⟨AB, r2, none⟩) (hgrow.block AB (World.block_lt_of_cell? w91 ⟨AB, r2, none⟩ HK91.out.2.2.1) (fun e => by have h1 := (HOW.out AB e.symm).1; have h2 := HFL7.out; have h3 := blk_ltD HAB7.out; omega))).trans HK91.out.2.2.1, (World.cell?_of_block (w := w91) (a := ⟨PB, 1, none⟩) (hgrow.block PB (World.block_lt_of_cell? w91 ⟨PB, 1, none⟩ HK91.out.2.2.2.1) (fun e => by have h1 := (HOW.out PB e.symm).1; have h2 := HFL7.out; have h3 := HPF.out; omega))).trans HK91.out.2.2.2.1, (World.cell?_of_block (w := w91) (a := ⟨lb, lo + k, none⟩) (hgrow.block lb (World.block_lt_of_cell? w91 ⟨lb, lo + k, none⟩ HK91.out.2.2.2.2) (fun e => by have h1 := (HOW.out lb e.symm).1; have h2 := HFL7.out; have h3 := HLBF.out; omega))).trans HK91.out.2.2.2.2⟩)
                have HFZ := Lib.hid (show w92.frozen? ⟨FB, 2, none⟩ = false from thaw ((hgrow.block FB (blk_ltD HB91.out.box) (fun e => by have h1 := (HOW.out FB e.symm).1; have := HFL7.out; omega)).trans HB91.out.box) 2)
                clear hown hgrow hat hox
                refine hK.out _ _ (fun _ => HK92.out) ?_
                clear hK K
                (try simp only [ptS, stA, st0, stS])
                refine tkS (i := 24) (v := ?_) (by simp only [opA, opS, op0]; exact rfl) (by kernel_rfl) (by kernel_rfl) HK92.out ?_ ?_
                rotate_left
                · intro w hS
                  (try dsimp only at hS); first | (go_simp; done) | (go_simp; with_reducible rfl)
                (try simp only [ptS, stA, st0, stS])
                refine wpAnyP_ready (rs := [25]) (by kernel_rfl) (by simp) ?_
                refine (AllReadyP.cons (by simp only [opA, opS, op0]; exact rfl) (fun K hK => ?_) AllReadyP.nil)
                rw [if_pos (by kernel_rfl)]
                have g1 := HK92.out.1
                have fz := HFZ.out
                have hbf2 := cell_lt g1
                go_simp
                refine hK.out _ _ (gone (by kernel_rfl)) ?_
                clear hK K
                (try simp only [ptN])
                refine wpAnyP_done (by kernel_rfl) ?_ _
                clear hn0 hs1 hs2 hs3 hs4 g1 fz hbf2 hrm hwq hdv hdm hw1 h13 h23 h13i h23i
                go_wp2_with fail
                go_roundw
                case rel => exact ⟨k + 1, kk + 1, _, by have := HLT.out; omega, by go_num, Lib.hid (by have := HKK.out; omega), Lib.hid HB92.out⟩
                case measure => have := HLT.out; simp [intOf]; omega
            · go_wp2_with fail
              go_meet
              exact ⟨xa, kk, xc, HB⟩
          · go_wp2_with fail
            go_meet
            exact ⟨xa, kk, xc, HB⟩
      case rest => as_aux_lemma =>
        obtain ⟨ka, kn, kc, HB2⟩ := hcut
        obtain ⟨w8, rfl⟩ : ∃ w8 : World, w8 = wc := ⟨_, rfl⟩
        obtain ⟨K8, HK8⟩ : ∃ K, Hid (w8.heap.size = K + 1) := ⟨w8.heap.size - 1, Lib.hid (by have := blk_ltD HB2.out.box; omega)⟩
        have HLOW8 := Lib.hid (show ∀ b o u, b < FB → w4.cell? ⟨b, o, none⟩ = some u → w8.cell? ⟨b, o, none⟩ = some u from fun b o u hx hc => cell_grown (Nat.ne_of_lt hx) HB2.out.g (HLOW.out b o u hx hc))
        have HBL8 := Lib.hid (show ∀ b, b < FB → w8.heap[b]? = w4.heap[b]? from fun b hb => by
          have h4 := blk_ltD HFB4.out
          have h5 := HM5.out.size
          have h6 := HB1.out.g.size
          have h7 := HA7.out.size
          exact (HB2.out.g.block b (by omega) (fun e => by injection e with e; omega)).trans ((HA7.out.block (by omega)).trans ((HB1.out.g.block b (by omega) (fun e => by injection e with e; omega)).trans (HM5.out.block (by omega)))))
        have HPS8 := Lib.hid (HPS4.out.keep (fun x hx => HBL8.out x hx))
        have HAB8 := Lib.hid ((HB2.out.g.block AB (blk_ltD HAB7.out) (fun e => by have := HABN.out; injection e with e; omega)).trans HAB7.out)
        have HFB8 := Lib.hid (show w8.heap[FB]? = some (.cells #[.string ⟨#[102, 108, 101, 101, 116, 49]⟩, .slice qa nf qc, .slice ka kn kc, .slice none 0 0] 117) from HB2.out.box)
        go_upto_block 4 with (fail)
        go_cut [10] (fun av wx => ∃ (aa : Option Addr) (ac : Nat), av = .slice aa n ac ∧ Hid (ArsAt K8 wx (.slice aa n ac) ps n) ∧ Hid (More w8 wx))
        case first => as_aux_lemma =>
          obtain ⟨i0, hi0, hz0, hz1, hz2⟩ := info_parts Try.info198b
          go_wp2_with fail
          go_loopw [10, 110] (fun av i wr => ∃ (k : Nat), k ≤ n ∧ i = .int .i64 (k : Int) ∧ Hid (ArsAt K8 wr av ps k) ∧ Hid (More w8 wr)) (fun _ i _ => n - (intOf i).toNat)
          case atStart => exact ⟨0, Nat.zero_le _, rfl, Lib.hid ArsAt.nil, Lib.hid (more_of (Below.refl _ _))⟩
          case round =>
            obtain ⟨k, hk, rfl, HAR, HMW⟩ := hrel
            obtain ⟨wo, rfl⟩ : ∃ wo : World, wo = wr := ⟨_, rfl⟩
            obtain ⟨oa, oc, rfl, hown⟩ := HAR.out.shape
            have HOW := Lib.hid hown
            clear hown
            by_cases hlt : k < n
            · skip
              have hkn : (k : Int) < (n : Int) := by omega
              have HLT := Lib.hid hlt
              have hkp : k < ps.length := by have := HNE.out; omega
              have HN3 := Lib.hid (show n ≤ 3 from HN13.out.2)
              obtain ⟨pb, po, rfl, hpb, hps⟩ := HPS8.out.at.2
              obtain ⟨p, q, ha, hn, hc, sa, sn, sc, e0, e1, e2, e3, _, _, hch, hcs, hnh, hns⟩ := hps k hkp
              have HCN := Lib.hid (And.intro hnh hns)
              have e0 := HMW.out.cell e0
              have e1 := HMW.out.cell e1
              have e2 := HMW.out.cell e2
              have e3 := HMW.out.cell e3
              have hbe := cell_lt e0
              clear hps hnh hns hpb
              obtain ⟨x2, hx2⟩ := codes_hrow (codesAt_keep (S' := fun _ => True) (W' := wo) (fun b off u _ hc => ⟨trivial, HMW.out.cell hc⟩) hch)
              obtain ⟨x3, hx3⟩ := codes_hrow (codesAt_keep (S' := fun _ => True) (W' := wo) (fun b off u _ hc => ⟨trivial, HMW.out.cell hc⟩) hcs)
              clear hch hcs
              have HA1' := Lib.hid (more_allocD wo (.cells #[.int .u8 p, .int .u8 q, .slice ha hn hc, .slice sa sn sc] 191))
              have HX1' := Lib.hid (alloc_last wo (.cells #[.int .u8 p, .int .u8 q, .slice ha hn hc, .slice sa sn sc] 191))
              obtain ⟨XB, HXE⟩ : ∃ B, Hid (B = wo.heap.size) := ⟨_, Lib.hid rfl⟩
              rw [← HXE.out] at HX1'
              have hr2 : HRow (wo.alloc (.cells #[.int .u8 p, .int .u8 q, .slice ha hn hc, .slice sa sn sc] 191)) ha hn x2 := ⟨fun h0 => by obtain ⟨b, off, h1, h2, h3⟩ := hx2.at' h0; exact ⟨b, off, h1, by rw [World.size_alloc]; omega, fun i hi => ⟨HA1'.out.cell (h3 i hi).1, (h3 i hi).2⟩⟩⟩
              have hr3 : HRow (wo.alloc (.cells #[.int .u8 p, .int .u8 q, .slice ha hn hc, .slice sa sn sc] 191)) sa sn x3 := ⟨fun h0 => by obtain ⟨b, off, h1, h2, h3⟩ := hx3.at' h0; exact ⟨b, off, h1, by rw [World.size_alloc]; omega, fun i hi => ⟨HA1'.out.cell (h3 i hi).1, (h3 i hi).2⟩⟩⟩
              have HCA := Lib.hid (arityM_any p q ha sa hn sn hc sc x2 x3 _ hr2 hr3)
              clear hx2 hx3 hr2 hr3
              have HAR1 := Lib.hid (HAR.out.keep (fun x _ hx => HA1'.out.block hx))
              have HMW1 := Lib.hid (more_trans HMW.out HA1'.out)
              have HSZ1' := Lib.hid HA1'.out.size
              go_upto_region 21 with fail
              try rw [← HXE.out]
              generalize wo.alloc (.cells #[.int .u8 p, .int .u8 q, .slice ha hn hc, .slice sa sn sc] 191) = w9 at *
              clear e0 e1 e2 e3 hbe
              have f0 : w9.cell? ⟨XB, 0, none⟩ = some (.int .u8 p) := by simp [World.cell?, HX1'.out]
              have f1 : w9.cell? ⟨XB, 1, none⟩ = some (.int .u8 q) := by simp [World.cell?, HX1'.out]
              have f2 : w9.cell? ⟨XB, 2, none⟩ = some (.slice ha hn hc) := by simp [World.cell?, HX1'.out]
              have f3 : w9.cell? ⟨XB, 3, none⟩ = some (.slice sa sn sc) := by simp [World.cell?, HX1'.out]
              have hbx := cell_lt f0
              go_wp2_with fail
              refine HCA.out.mono ?_
              rintro e wA ⟨⟨v, rfl, ho⟩, hm⟩
              have HMA := Lib.hid hm
              have HON := Lib.hid (ar_one (FB := K8) (by have h1 := HMW.out.size; have h2 := HK8.out; have h3 := HSZ1'.out; omega) ho)
              obtain ⟨vb, vm, vc, rfl, hvb, _⟩ := HON.out
              have HVB := Lib.hid (ho.lt vb rfl)
              clear ho hm hvb f0 f1 f2 f3 hbx HCA
              rw [← HCN.out.1, ← HCN.out.2] at HON
              have HAR2 := Lib.hid (HAR1.out.keep (fun x _ hx => HMA.out.block hx))
              have HMW2 := Lib.hid (more_trans HMW1.out HMA.out)
              have HA3 := Lib.hid (more_allocD wA (.cells #[.slice (some ⟨vb, 0, none⟩) vm vc] 198))
              have HL3 := Lib.hid (alloc_last wA (.cells #[.slice (some ⟨vb, 0, none⟩) vm vc] 198))
              have HAR3 := Lib.hid (HAR2.out.keep (W' := wA.alloc (.cells #[.slice (some ⟨vb, 0, none⟩) vm vc] 198)) (fun x _ hx => HA3.out.block hx))
              have HON3 := Lib.hid (HON.out.keep (W' := wA.alloc (.cells #[.slice (some ⟨vb, 0, none⟩) vm vc] 198)) (fun x _ hx _ => HA3.out.block hx))
              have HMW3 := Lib.hid (more_trans HMW2.out HA3.out)
              obtain ⟨us, hox, hpush⟩ := HAR3.out.open
              have HOX := Lib.hid hox
              have HPU := Lib.hid hpush
              clear hox hpush
              have hm9 : k + 1 ≤ maxLen := by have := HN3.out; have := HLT.out; unfold maxLen; omega
              have hm8 : (k + 1) * 24 ≤ 140737488355328 := by have := HN3.out; have := HLT.out; omega
              have hbs : K8 + 1 ≤ (wA.alloc (.cells #[.slice (some ⟨vb, 0, none⟩) vm vc] 198)).heap.size := by have h1 := HMW3.out.size; have h2 := HK8.out; omega
              have HNS := Lib.hid (fun (w2 : World) (gg cap2 : Nat) (h1 : w2.ownsRow (K8 + 1) 198 1 (.slice (some ⟨gg, 0, none⟩) (k + 1) cap2) (k + 1) (us ++ [.slice (some ⟨vb, 0, none⟩) vm vc])) (h2 : (wA.alloc (.cells #[.slice (some ⟨vb, 0, none⟩) vm vc] 198)).grownBy w2 (Value.slice oa k oc).ownBlock) (h3 : (Value.slice oa k oc).ownBlock = some gg ∨ gg = (wA.alloc (.cells #[.slice (some ⟨vb, 0, none⟩) vm vc] 198)).heap.size) =>
                show ArsAt K8 w2 (.slice (some ⟨gg, 0, none⟩) (k + 1) cap2) ps (k + 1) ∧ More w8 w2 from
                  ⟨HPU.out w2 gg cap2 _ _ h1 h2 h3 (Nat.le_refl _) (fun _ => HON3.out) (fun b hb => by
                    have e : vb = b := by simpa [Value.ownBlock] using hb
                    subst e
                    exact ⟨fun e => by have h4 := (HOW.out vb e).2; have h5 := HVB.out.1; have h6 := HSZ1'.out; omega, by rw [World.size_alloc]; have := HVB.out.2; omega⟩),
                   more_of (HMW3.out.below.grown h2 HMW3.out.size (fun z hz => by have h4 := (HOW.out z hz).1; have h5 := HK8.out; omega))⟩)
              have hn3 := HN3.out
              have hlt8 := HLT.out
              have hn3i : (n : Int) ≤ 3 := by omega
              have hlt8i : (k : Int) < (n : Int) := by omega
              go_wp2_with (at_builtin; refine wpList_append_lies _ rfl _ _ _ rfl (K8 + 1) 198 i0 _ 1 24 Try.underlying197 hi0 hz0 hz1 hz2 rfl (by omega) (.slice oa k oc) k us rfl HOX.out ⟨wA.heap.size, 0, none⟩ 1 1 [.slice (some ⟨vb, 0, none⟩) vm vc] rfl rfl (World.news_of_block (cs := #[.slice (some ⟨vb, 0, none⟩) vm vc]) (t := 198) (fr := (0, 0)) HL3.out) (by simp [Value.oneCell']) (by omega) hm9 hm8 hbs _ rfl ?_; intro gg cap2 w2 hown2 hgrow2 hat2 hlt2; have HNX := Lib.hid (HNS.out w2 gg cap2 hown2 hgrow2 hat2); clear hown2 hgrow2 hat2)
              have hlt9 := HLT.out
              go_roundw
              case rel => exact ⟨k + 1, by have := HLT.out; omega, by go_num, Lib.hid HNX.out.1, Lib.hid HNX.out.2⟩
              case measure => have := HLT.out; simp [intOf]; omega
            · have hkn : k = n := by omega
              subst hkn
              go_wp2_with fail
              go_meet
              exact ⟨oa, oc, rfl, HAR, HMW⟩
        case rest => as_aux_lemma =>
          obtain ⟨aa, ac, rfl, HAR9, HM9⟩ := hcut
          obtain ⟨w9, rfl⟩ : ∃ w9 : World, w9 = wc := ⟨_, rfl⟩
          have HPS9 := Lib.hid (HPS8.out.keep (fun x hx => HM9.out.block (by have := blk_ltD HFB8.out; omega)))
          have HAB9 := Lib.hid ((HM9.out.block (blk_ltD HAB8.out)).trans HAB8.out)
          have HFB9 := Lib.hid (show w9.heap[FB]? = some (.cells #[.string ⟨#[102, 108, 101, 101, 116, 49]⟩, .slice qa nf qc, .slice ka kn kc, .slice none 0 0] 117) from (HM9.out.block (blk_ltD HFB8.out)).trans HFB8.out)
          have HFL9 := Lib.hid (show FB < w9.heap.size from blk_ltD HFB9.out)
          have HPB9 := Lib.hid (show RB < FB ∧ w9.heap[RB]? = _ from ⟨HRF.out, (HM9.out.block (by have h1 := HRF.out; have h2 := blk_ltD HFB8.out; omega)).trans ((HBL8.out RB HRF.out).trans HRB4.out)⟩)
          have HBW9 := Lib.hid (below_g (below_g (below_g (below_g (below_g (below_g (Below.refl _ w) HM4.out (fun _ e => by cases e)) HM5.out (fun _ e => by cases e)) HB1.out.g (fun z e => by have := HPE.out; have := HPF.out; injection e with e; omega)) HA7.out (fun _ e => by cases e)) HB2.out.g (fun z e => by have := HPE.out; have := HPF.out; injection e with e; omega)) HM9.out (fun _ e => by cases e))
          go_upto_block 6 with (fail)
          go_cut [] (fun wx => ∃ (xa : Option Addr) (xc : Nat), Hid (w9.grownBy wx (some FB)) ∧ Hid (wx.heap[FB]? = some (.cells #[.string ⟨#[102, 108, 101, 101, 116, 49]⟩, .slice qa nf qc, .slice ka kn kc, .slice xa n xc] 117)) ∧ Hid (OwnOf 122 3 CompC w9.heap.size wx (.slice xa n xc) n))
          case first => as_aux_lemma =>
            go_wp2_with fail
            go_loopw [122] (fun i wr => ∃ (k : Nat) (xa : Option Addr) (xc : Nat), k ≤ n ∧ i = .int .i64 (k : Int) ∧ Hid (w9.grownBy wr (some FB)) ∧ Hid (wr.heap[FB]? = some (.cells #[.string ⟨#[102, 108, 101, 101, 116, 49]⟩, .slice qa nf qc, .slice ka kn kc, .slice xa k xc] 117)) ∧ Hid (OwnOf 122 3 CompC w9.heap.size wr (.slice xa k xc) k)) (fun i _ => n - (intOf i).toNat)
            case atStart => exact ⟨0, none, 0, Nat.zero_le _, rfl, Lib.hid ⟨rfl, rfl, rfl, Nat.le_refl _, fun _ _ _ => rfl⟩, HFB9, Lib.hid OwnOf.nil⟩
            case round =>
              obtain ⟨k, xa, xc, hk, rfl, HG10, HFB10, HOC⟩ := hrel
              obtain ⟨w10, rfl⟩ : ∃ wo : World, wo = wr := ⟨_, rfl⟩
              by_cases hlt : k < n
              · skip
                have hkn : (k : Int) < (n : Int) := by omega
                have HLT := Lib.hid hlt
                have HN3 := Lib.hid (show n ≤ 3 from HN13.out.2)
                have HK3 := Lib.hid (show k < 3 from by have := HN3.out; omega)
                have HKP := Lib.hid (show k < ps.length from by have := HNE.out; omega)
                obtain ⟨pb, po, rfl, hpb, hps⟩ := HPS9.out.at.2
                obtain ⟨p, q, ha, hn, hc, sa, sn, sc, e0, e1, e2, e3, hp, hq, hch, hcs, hnh, hns⟩ := hps k HKP.out
                have HCN := Lib.hid (And.intro hnh hns)
                have HPQ := Lib.hid (And.intro hp hq)
                have HCH := Lib.hid hch
                have HCS := Lib.hid hcs
                have hpf : pb ≠ FB := Nat.ne_of_lt hpb
                have e0 := cell_grown (x := ⟨pb, _, none⟩) hpf HG10.out e0
                have e1 := cell_grown (x := ⟨pb, _, none⟩) hpf HG10.out e1
                have e2 := cell_grown (x := ⟨pb, _, none⟩) hpf HG10.out e2
                have e3 := cell_grown (x := ⟨pb, _, none⟩) hpf HG10.out e3
                have hbe := cell_lt e0
                clear hps hnh hns hpb hp hq hch hcs hpf
                have HA11 := Lib.hid (more_allocD w10 (.cells #[.int .u8 p, .int .u8 q, .slice ha hn hc, .slice sa sn sc] 191))
                have HXB11 := Lib.hid (alloc_last w10 (.cells #[.int .u8 p, .int .u8 q, .slice ha hn hc, .slice sa sn sc] 191))
                obtain ⟨XB, HXE⟩ : ∃ B, Hid (B = w10.heap.size) := ⟨_, Lib.hid rfl⟩
                rw [← HXE.out] at HXB11
                go_upto_region 26 with fail
                try rw [← HXE.out]
                generalize w10.alloc (.cells #[.int .u8 p, .int .u8 q, .slice ha hn hc, .slice sa sn sc] 191) = w11 at *
                clear e0 e1 e2 e3 hbe
                have g0 : w11.cell? ⟨AB, k, none⟩ = some (.string (abcB k)) := HA11.out.cell (cell_grown (Nat.ne_of_gt HABN.out) HG10.out (abc_cell HAB9.out HK3.out))
                have hbg := cell_lt g0
                have hk3 : k < 3 := HK3.out
                have hk3i : (k : Int) < 3 := by omega
                have HA12 := Lib.hid (more_allocD w11 (.cells #[.string (abcB k), .slice none 0 0, .slice none 0 0] 122))
                have HCB12 := Lib.hid (alloc_last w11 (.cells #[.string (abcB k), .slice none 0 0, .slice none 0 0] 122))
                obtain ⟨CB, HCE⟩ : ∃ B, Hid (B = w11.heap.size) := ⟨_, Lib.hid rfl⟩
                rw [← HCE.out] at HCB12
                have HXB12 := Lib.hid ((HA12.out.block (blk_ltD HXB11.out)).trans HXB11.out)
                have HMR12 := Lib.hid (more_trans HA11.out HA12.out)
                have HXC := Lib.hid (show XB < CB from by rw [HCE.out]; exact blk_ltD HXB11.out)
                go_upto_region 27 with fail
                try rw [← HCE.out]
                generalize w11.alloc (.cells #[.string (abcB k), .slice none 0 0, .slice none 0 0] 122) = w12 at *
                clear g0 hbg
                have f0 : w12.cell? ⟨XB, 0, none⟩ = some (.int .u8 p) := by simp [World.cell?, HXB12.out]
                have hbx := cell_lt f0
                obtain ⟨m3, HM3E⟩ : ∃ x : Nat, Hid (p % 3 = x) := ⟨(p % 3).toNat, Lib.hid (by have := HPQ.out; omega)⟩
                have HM33 := Lib.hid (show m3 ≤ 2 from by have := HM3E.out; omega)
                have hrm : Int.tmod p 3 = (m3 : Int) := (Int.tmod_eq_emod_of_nonneg HPQ.out.1.1).trans HM3E.out
                have hw1 : IntKind.i64.wrap (m3 : Int) = m3 := by rw [IntKind.wrap_i64]; have := HM33.out; omega
                have hw2 : IntKind.u8.wrap (m3 : Int) = m3 := by rw [IntKind.wrap_u8]; have := HM33.out; omega
                have hw3 : IntKind.i64.wrap (1 + (m3 : Int)) = 1 + m3 := by rw [IntKind.wrap_i64]; have := HM33.out; omega
                obtain ⟨xi, HXI⟩ : ∃ x : Nat, Hid (m3 + 1 = x) := ⟨_, Lib.hid rfl⟩
                go_wp2_with fail
                refine (names_any 120 _ 120 xi w12 rfl (by have := HXI.out; omega) (by omega) (by have := HXI.out; have := HM33.out; omega)).mono ?_
                rintro e w13 ⟨⟨nv, rfl, ho⟩, hm⟩
                have HM13 := Lib.hid hm
                have HO13 := Lib.hid ho
                obtain ⟨na2, nc2, rfl, hnx⟩ := owns_shape ho
                clear ho hm f0 hbx hw1 hw2 hw3 hrm hnx
                have HCB13 := Lib.hid ((HM13.out.block (blk_ltD HCB12.out)).trans HCB12.out)
                have HXB13 := Lib.hid ((HM13.out.block (blk_ltD HXB12.out)).trans HXB12.out)
                have HMR13 := Lib.hid (more_trans HMR12.out HM13.out)
                have HCL := Lib.hid (show CB < w13.heap.size from blk_ltD HCB13.out)
                have HXI3 := Lib.hid (show xi ≤ 3 from by have := HXI.out; have := HM33.out; omega)
                go_upto_block 8 with (fail)
                go_cut [] (fun wx => ∃ (va : Option Addr) (vc : Nat), Hid (FldB w13 wx CB #[.string (abcB k), .slice none 0 0, .slice none 0 0] 122 1 201 3 xi (.slice va xi vc)))
                case first => as_aux_lemma =>
                  obtain ⟨i0, hi0, hz0, hz1, hz2⟩ := info_parts Try.info201b
                  go_wp2_with fail
                  go_loopw [139] (fun i wr => ∃ (k5 : Nat) (va : Option Addr) (vc : Nat), k5 ≤ xi ∧ i = .int .i64 (k5 : Int) ∧ Hid (FldB w13 wr CB #[.string (abcB k), .slice none 0 0, .slice none 0 0] 122 1 201 3 k5 (.slice va k5 vc))) (fun i _ => xi - (intOf i).toNat)
                  case atStart => exact ⟨0, none, 0, Nat.zero_le _, rfl, Lib.hid (FldB.start HCB13.out)⟩
                  case round =>
                    obtain ⟨k5, va, vc, hk5, rfl, HB⟩ := hrel
                    obtain ⟨wo, rfl⟩ : ∃ wo : World, wo = wr := ⟨_, rfl⟩
                    by_cases hlt5 : k5 < xi
                    · skip
                      have HLT5 := Lib.hid hlt5
                      have hxi3 := HXI3.out
                      have hk5i : (k5 : Int) < (xi : Int) := by omega
                      obtain ⟨nb, nc', hnv, hnb1, hnx⟩ := name_cell HO13.out (r := k5) hlt5
                      injection hnv with e1 _ e3
                      subst e1 e3
                      have HNBN := Lib.hid (show nb ≠ CB from by have h1 := blk_ltD HCB12.out; omega)
                      have e0 : wo.cell? ⟨nb, k5, none⟩ = some (.string (nmB 120 k5)) := cell_grown HNBN.out HB.out.g hnx
                      have hbe := cell_lt e0
                      clear hnx hnb1
                      go_upto_region 30 with fail
                      clear e0 hbe
                      have HAL := Lib.hid (more_allocD wo (.cells #[.string (nmB 120 k5), .int .i64 1, .int .i64 (k5 : Int)] 201))
                      have HLL := Lib.hid (alloc_last wo (.cells #[.string (nmB 120 k5), .int .i64 1, .int .i64 (k5 : Int)] 201))
                      have HBA := Lib.hid (HB.out.more HAL.out)
                      obtain ⟨xs, hox⟩ := HBA.out.own
                      have HOX := Lib.hid hox
                      clear hox
                      have c1 : wo.cell? ⟨CB, 1, none⟩ = some (.slice va k5 vc) := by simp [World.cell?, HB.out.box]
                      have hbc := cell_lt c1
                      have hm9 : k5 + 1 ≤ maxLen := by have := HXI3.out; have := HLT5.out; unfold maxLen; omega
                      have hm8 : (k5 + 1) * 32 ≤ 140737488355328 := by have := HXI3.out; have := HLT5.out; omega
                      have hbs := HBA.out.g.size
                      have HNS := Lib.hid (fun (w2 : World) (gg cap2 : Nat) (h1 : w2.ownsRow w13.heap.size 201 3 (.slice (some ⟨gg, 0, none⟩) (k5 + 1) cap2) (k5 + 1) (xs ++ [.string (nmB 120 k5), .int .i64 1, .int .i64 (k5 : Int)])) (h2 : (wo.alloc (.cells #[.string (nmB 120 k5), .int .i64 1, .int .i64 (k5 : Int)] 201)).grownBy w2 (Value.slice va k5 vc).ownBlock) =>
                        show FldB w13 (w2.setCell ⟨CB, 1, none⟩ (.slice (some ⟨gg, 0, none⟩) (k5 + 1) cap2)) CB #[.string (abcB k), .slice none 0 0, .slice none 0 0] 122 1 201 3 (k5 + 1) (.slice (some ⟨gg, 0, none⟩) (k5 + 1) cap2) ∧ w2.heap[CB]? = some (.cells ((#[.string (abcB k), .slice none 0 0, .slice none 0 0] : Array Value).setIfInBounds 1 (.slice va k5 vc)) 122) from
                          ⟨HBA.out.push HCL.out rfl h2 h1, (h2.block CB (blk_ltD HBA.out.box) (fun e => by have h4 := HBA.out.own; obtain ⟨_, h4⟩ := h4; have h5 := (h4.lt CB e.symm).1; have h6 := HCL.out; omega)).trans HBA.out.box⟩)
                      go_wp2_with (at_builtin; refine wpList_append_lies _ rfl _ _ _ rfl w13.heap.size 201 i0 _ 3 32 Try.underlying119 hi0 hz0 hz1 hz2 rfl (by omega) (.slice va k5 vc) k5 xs rfl HOX.out ⟨wo.heap.size, 0, none⟩ 1 1 [.string (nmB 120 k5), .int .i64 1, .int .i64 (k5 : Int)] rfl rfl (World.news_of_block (cs := #[.string (nmB 120 k5), .int .i64 1, .int .i64 (k5 : Int)]) (t := 201) (fr := (0, 0)) HLL.out) (by simp [Value.oneCell']) (by omega) hm9 hm8 hbs _ rfl ?_; intro gg cap2 w2 hown2 hgrow2 hat2 hlt2; have HNX := Lib.hid (HNS.out w2 gg cap2 hown2 hgrow2); clear hown2 hgrow2 hat2; obtain ⟨ra, rn, rc, HQ⟩ : ∃ ra rn rc, Hid (Value.slice ra rn rc = Value.slice (some ⟨gg, 0, none⟩) (k5 + 1) cap2) := ⟨_, _, _, Lib.hid rfl⟩; rw [← HQ.out] at HNX; rw [← HQ.out]; have g1 : w2.cell? ⟨CB, 1, none⟩ = some (.slice va k5 vc) := (by simp [World.cell?, HNX.out.2]); have fz := thaw HNX.out.2 1; have hbc2 := cell_lt g1)
                      have hlt9 := HLT5.out
                      clear c1 hbc
                      go_roundw
                      case rel => (have e := HQ.out; injection e with _ e2 _; subst e2; exact ⟨k5 + 1, ra, rc, by have := HLT5.out; omega, by go_num, Lib.hid HNX.out.1⟩)
                      case measure => have := HLT5.out; simp [intOf]; omega
                    · have hkn : k5 = xi := by omega
                      subst hkn
                      go_wp2_with fail
                      go_meet
                      exact ⟨va, vc, HB⟩
                case rest => as_aux_lemma =>
                  obtain ⟨va, vc, HB14⟩ := hcut
                  obtain ⟨w14, rfl⟩ : ∃ wo : World, wo = wc := ⟨_, rfl⟩
                  obtain ⟨i0, hi0, hz0, hz1, hz2⟩ := info_parts Try.info201b
                  have HXNC := Lib.hid (show XB ≠ CB from Nat.ne_of_lt HXC.out)
                  have HXB14 := Lib.hid (show w14.heap[XB]? = some (.cells #[.int .u8 p, .int .u8 q, .slice ha hn hc, .slice sa sn sc] 191) from (HB14.out.g.block XB (blk_ltD HXB13.out) (fun e => by injection e with e; exact HXNC.out e)).trans HXB13.out)
                  have hxc2 : XB ≠ CB := HXNC.out
                  have hxc3 : CB ≠ XB := Ne.symm hxc2
                  obtain ⟨m2, HM2E⟩ : ∃ x : Nat, Hid (q % 2 = x) := ⟨(q % 2).toNat, Lib.hid (by have := HPQ.out; omega)⟩
                  have HM23 := Lib.hid (show m2 ≤ 1 from by have := HM2E.out; omega)
                  have hrm : Int.tmod q 2 = (m2 : Int) := (Int.tmod_eq_emod_of_nonneg HPQ.out.2.1).trans HM2E.out
                  have hw1 : IntKind.i64.wrap (m2 : Int) = m2 := by rw [IntKind.wrap_i64]; have := HM23.out; omega
                  have hw2 : IntKind.u8.wrap (m2 : Int) = m2 := by rw [IntKind.wrap_u8]; have := HM23.out; omega
                  have HAL := Lib.hid (more_allocD w14 (.cells #[.string ⟨#[98, 48]⟩, .int .i64 2, .int .i64 0] 201))
                  have HLL := Lib.hid (alloc_last w14 (.cells #[.string ⟨#[98, 48]⟩, .int .i64 2, .int .i64 0] 201))
                  have HBA := Lib.hid (HB14.out.more HAL.out)
                  obtain ⟨xs, hox⟩ := HBA.out.own
                  have HOX := Lib.hid hox
                  clear hox
                  have c1 : w14.cell? ⟨CB, 1, none⟩ = some (.slice va xi vc) := by simp [World.cell?, HB14.out.box]
                  have hbc := cell_lt c1
                  have hm9 : xi + 1 ≤ maxLen := by have := HXI3.out; unfold maxLen; omega
                  have hm8 : (xi + 1) * 32 ≤ 140737488355328 := by have := HXI3.out; omega
                  have hbs := HBA.out.g.size
                  have HNS := Lib.hid (fun (w2 : World) (gg cap2 : Nat) (h1 : w2.ownsRow w13.heap.size 201 3 (.slice (some ⟨gg, 0, none⟩) (xi + 1) cap2) (xi + 1) (xs ++ [.string ⟨#[98, 48]⟩, .int .i64 2, .int .i64 0])) (h2 : (w14.alloc (.cells #[.string ⟨#[98, 48]⟩, .int .i64 2, .int .i64 0] 201)).grownBy w2 (Value.slice va xi vc).ownBlock) =>
                    show FldB w13 (w2.setCell ⟨CB, 1, none⟩ (.slice (some ⟨gg, 0, none⟩) (xi + 1) cap2)) CB #[.string (abcB k), .slice none 0 0, .slice none 0 0] 122 1 201 3 (xi + 1) (.slice (some ⟨gg, 0, none⟩) (xi + 1) cap2) ∧ w2.heap[CB]? = some (.cells ((#[.string (abcB k), .slice none 0 0, .slice none 0 0] : Array Value).setIfInBounds 1 (.slice va xi vc)) 122) ∧ w2.heap[XB]? = some (.cells #[.int .u8 p, .int .u8 q, .slice ha hn hc, .slice sa sn sc] 191) from
                      ⟨HBA.out.push HCL.out rfl h2 h1, (h2.block CB (blk_ltD HBA.out.box) (fun e => by have h4 := HBA.out.own; obtain ⟨_, h4⟩ := h4; have h5 := (h4.lt CB e.symm).1; have h6 := HCL.out; omega)).trans HBA.out.box, (h2.block XB (by have h4 := blk_ltD HXB14.out; have h5 := HAL.out.size; omega) (fun e => by have h4 := HBA.out.own; obtain ⟨_, h4⟩ := h4; have h5 := (h4.lt XB e.symm).1; have h6 := HCL.out; have h7 := HXC.out; omega)).trans ((HAL.out.block (blk_ltD HXB14.out)).trans HXB14.out)⟩)
                  go_wp2_with (at_builtin; refine wpList_append_lies _ rfl _ _ _ rfl w13.heap.size 201 i0 _ 3 32 Try.underlying119 hi0 hz0 hz1 hz2 rfl (by omega) (.slice va xi vc) xi xs rfl HOX.out ⟨w14.heap.size, 0, none⟩ 1 1 [.string ⟨#[98, 48]⟩, .int .i64 2, .int .i64 0] rfl rfl (World.news_of_block (cs := #[.string ⟨#[98, 48]⟩, .int .i64 2, .int .i64 0]) (t := 201) (fr := (0, 0)) HLL.out) (by simp [Value.oneCell']) (by omega) hm9 hm8 hbs _ rfl ?_; intro gg cap2 w2 hown2 hgrow2 hat2 hlt2; have HNX := Lib.hid (HNS.out w2 gg cap2 hown2 hgrow2); clear hown2 hgrow2 hat2; obtain ⟨ra, rn, rc, HQ⟩ : ∃ ra rn rc, Hid (Value.slice ra rn rc = Value.slice (some ⟨gg, 0, none⟩) (xi + 1) cap2) := ⟨_, _, _, Lib.hid rfl⟩; rw [← HQ.out] at HNX; rw [← HQ.out]; have g1 : w2.cell? ⟨CB, 1, none⟩ = some (.slice va xi vc) := (by simp [World.cell?, HNX.out.2.1]); have fz := thaw HNX.out.2.1 1; have hbc2 := cell_lt g1; have x1 : w2.cell? ⟨XB, 1, none⟩ = some (.int .u8 q) := (by simp [World.cell?, HNX.out.2.2]); have hbx2 := cell_lt x1)
                  have HB15 := Lib.hid HNX.out.1
                  have HXB15 := Lib.hid (show (w2.setCell ⟨CB, 1, none⟩ (.slice ra rn rc)).heap[XB]? = _ from (Below.heap_setCell _ _ _ _ hxc2).trans HNX.out.2.2)
                  clear x1 hbx2 g1 fz hbc2 c1 hbc hrm hw2
                  generalize w2.setCell ⟨CB, 1, none⟩ (.slice ra rn rc) = w15 at *
                  have hrn : rn = xi + 1 := (by have e := HQ.out; injection e)
                  have HRN := Lib.hid hrn
                  clear hrn
                  rw [← HRN.out] at HB15
                  refine (names_any 116 (m2 : Int) 116 m2 w15 rfl rfl (by omega) (by have := HM23.out; omega)).mono ?_
                  rintro e w16 ⟨⟨tv, rfl, ho⟩, hm⟩
                  have HM16 := Lib.hid hm
                  have HO16 := Lib.hid ho
                  obtain ⟨ta, tc, rfl, _⟩ := owns_shape ho
                  clear ho hm hw1
                  have HB16 := Lib.hid (HB15.out.more HM16.out)
                  clear HB14 HNX HQ HAL HLL HBA HOX HNS
                  have HRN6 := Lib.hid (show rn ≤ 4 from by have := HRN.out; have := HXI3.out; omega)
                  have HCL15 := Lib.hid (show CB < w15.heap.size from blk_ltD HB15.out.box)
                  go_upto_block 10 with (fail)
                  go_cut [] (fun wx => ∃ (va : Option Addr) (vn vc : Nat), Hid (FldB w13 wx CB #[.string (abcB k), .slice none 0 0, .slice none 0 0] 122 1 201 3 vn (.slice va vn vc)))
                  case first => as_aux_lemma =>
                    go_wp2_with fail
                    go_loopw [165] (fun i wr => ∃ (k6 vn : Nat) (va : Option Addr) (vc : Nat), k6 ≤ m2 ∧ i = .int .i64 (k6 : Int) ∧ Hid (vn ≤ 4 + k6) ∧ Hid (FldB w13 wr CB #[.string (abcB k), .slice none 0 0, .slice none 0 0] 122 1 201 3 vn (.slice va vn vc)) ∧ Hid (wr.ownsRow w15.heap.size 9 1 (.slice ta m2 tc) m2 ((namesL 116 m2).map .string))) (fun i _ => m2 - (intOf i).toNat)
                    case atStart => exact ⟨0, rn, ra, rc, Nat.zero_le _, rfl, Lib.hid (by have := HRN6.out; omega), HB16, HO16⟩
                    case round =>
                      obtain ⟨k6, vn, va, vc, hk6, rfl, HVN, HB, HOT⟩ := hrel
                      obtain ⟨wo, rfl⟩ : ∃ wo : World, wo = wr := ⟨_, rfl⟩
                      by_cases hlt6 : k6 < m2
                      · skip
                        have HLT6 := Lib.hid hlt6
                        have hm23 := HM23.out
                        have hk6i : (k6 : Int) < (m2 : Int) := by omega
                        obtain ⟨nb, nc', hnv, hnb1, hnx⟩ := name_cell HOT.out (r := k6) hlt6
                        injection hnv with e1 _ e3
                        subst e1 e3
                        have e0 : wo.cell? ⟨nb, k6, none⟩ = some (.string (nmB 116 k6)) := hnx
                        have hbe := cell_lt e0
                        clear hnx hnb1
                        go_upto_region 36 with fail
                        clear e0 hbe
                        have HAL := Lib.hid (more_allocD wo (.cells #[.string (nmB 116 k6), .int .i64 3, .int .i64 0] 201))
                        have HLL := Lib.hid (alloc_last wo (.cells #[.string (nmB 116 k6), .int .i64 3, .int .i64 0] 201))
                        have HBA := Lib.hid (HB.out.more HAL.out)
                        obtain ⟨xs, hox⟩ := HBA.out.own
                        have HOX := Lib.hid hox
                        clear hox
                        have c1 : wo.cell? ⟨CB, 1, none⟩ = some (.slice va vn vc) := by simp [World.cell?, HB.out.box]
                        have hbc := cell_lt c1
                        have hm9 : vn + 1 ≤ maxLen := by have := HVN.out; have := HLT6.out; have := HM23.out; unfold maxLen; omega
                        have hm8 : (vn + 1) * 32 ≤ 140737488355328 := by have := HVN.out; have := HLT6.out; have := HM23.out; omega
                        have hbs := HBA.out.g.size
                        have HNS := Lib.hid (fun (w2 : World) (gg cap2 : Nat) (h1 : w2.ownsRow w13.heap.size 201 3 (.slice (some ⟨gg, 0, none⟩) (vn + 1) cap2) (vn + 1) (xs ++ [.string (nmB 116 k6), .int .i64 3, .int .i64 0])) (h2 : (wo.alloc (.cells #[.string (nmB 116 k6), .int .i64 3, .int .i64 0] 201)).grownBy w2 (Value.slice va vn vc).ownBlock) =>
                          show FldB w13 (w2.setCell ⟨CB, 1, none⟩ (.slice (some ⟨gg, 0, none⟩) (vn + 1) cap2)) CB #[.string (abcB k), .slice none 0 0, .slice none 0 0] 122 1 201 3 (vn + 1) (.slice (some ⟨gg, 0, none⟩) (vn + 1) cap2) ∧ w2.heap[CB]? = some (.cells ((#[.string (abcB k), .slice none 0 0, .slice none 0 0] : Array Value).setIfInBounds 1 (.slice va vn vc)) 122) ∧ w2.ownsRow w15.heap.size 9 1 (.slice (some ⟨nb, 0, none⟩) m2 tc) m2 ((namesL 116 m2).map .string) from
                            ⟨HBA.out.push HCL.out rfl h2 h1, (h2.block CB (blk_ltD HBA.out.box) (fun e => by have h4 := HBA.out.own; obtain ⟨_, h4⟩ := h4; have h5 := (h4.lt CB e.symm).1; have h6 := HCL.out; omega)).trans HBA.out.box, owns_keep (owns_keep HOT.out (fun z hz => HAL.out.block (HOT.out.lt z hz).2)) (fun z hz => h2.block z (by have h4 := (HOT.out.lt z hz).2; have h5 := HAL.out.size; omega) (fun e => owns_ne (owns_keep HOT.out (fun z hz => HAL.out.block (HOT.out.lt z hz).2)) HOX.out (by decide) hz e.symm))⟩)
                        go_wp2_with (at_builtin; refine wpList_append_lies _ rfl _ _ _ rfl w13.heap.size 201 i0 _ 3 32 Try.underlying119 hi0 hz0 hz1 hz2 rfl (by omega) (.slice va vn vc) vn xs rfl HOX.out ⟨wo.heap.size, 0, none⟩ 1 1 [.string (nmB 116 k6), .int .i64 3, .int .i64 0] rfl rfl (World.news_of_block (cs := #[.string (nmB 116 k6), .int .i64 3, .int .i64 0]) (t := 201) (fr := (0, 0)) HLL.out) (by simp [Value.oneCell']) (by omega) hm9 hm8 hbs _ rfl ?_; intro gg cap2 w2 hown2 hgrow2 hat2 hlt2; have HNX := Lib.hid (HNS.out w2 gg cap2 hown2 hgrow2); clear hown2 hgrow2 hat2; obtain ⟨ra, rn, rc, HQ⟩ : ∃ ra rn rc, Hid (Value.slice ra rn rc = Value.slice (some ⟨gg, 0, none⟩) (vn + 1) cap2) := ⟨_, _, _, Lib.hid rfl⟩; rw [← HQ.out] at HNX; rw [← HQ.out]; have g1 : w2.cell? ⟨CB, 1, none⟩ = some (.slice va vn vc) := (by simp [World.cell?, HNX.out.2.1]); have fz := thaw HNX.out.2.1 1; have hbc2 := cell_lt g1)
                        have hlt9 := HLT6.out
                        clear c1 hbc
                        go_roundw
                        case rel => (have e := HQ.out; injection e with _ e2 _; subst e2; exact ⟨k6 + 1, vn + 1, ra, rc, by have := HLT6.out; omega, by go_num, Lib.hid (by have := HVN.out; omega), Lib.hid HNX.out.1, Lib.hid (owns_keep HNX.out.2.2 (fun z hz => Below.heap_setCell _ _ _ _ (show z ≠ CB from by have := (HNX.out.2.2.lt z hz).1; have := HCL15.out; omega)))⟩)
                        case measure => have := HLT6.out; simp [intOf]; omega
                      · have hkn : k6 = m2 := by omega
                        subst hkn
                        go_wp2_with fail
                        go_meet
                        exact ⟨va, vn, vc, HB⟩
                  case rest => as_aux_lemma =>
                    clear HB15 HB16 HO16 HRN HRN6
                    obtain ⟨va, vn, vc, HB17⟩ := hcut
                    obtain ⟨w17, rfl⟩ : ∃ wo : World, wo = wc := ⟨_, rfl⟩
                    have HMR17 := Lib.hid (more_own HMR13.out HB17.out.g (by have h1 := HA11.out.size; have h2 := HCE.out; omega))
                    have HXB17 := Lib.hid (show w17.heap[XB]? = some (.cells #[.int .u8 p, .int .u8 q, .slice ha hn hc, .slice sa sn sc] 191) from (HB17.out.g.block XB (blk_ltD HXB13.out) (fun e => by injection e with e; exact HXNC.out e)).trans HXB13.out)
                    have HFL10 := Lib.hid (show FB < w10.heap.size from blk_ltD HFB10.out)
                    have HFB17 := Lib.hid (show w17.heap[FB]? = some (.cells #[.string ⟨#[102, 108, 101, 101, 116, 49]⟩, .slice qa nf qc, .slice ka kn kc, .slice xa k xc] 117) from (HMR17.out.block HFL10.out).trans HFB10.out)
                    have HCB17 := Lib.hid (show w17.heap[CB]? = some (.cells #[.string (abcB k), .slice va vn vc, .slice none 0 0] 122) from HB17.out.box)
                    have HXW := Lib.hid (show w10.heap.size ≤ XB ∧ XB < CB from ⟨by rw [HXE.out]; exact Nat.le_refl _, HXC.out⟩)
                    have x0 : w17.cell? ⟨XB, 0, none⟩ = some (.int .u8 p) := by simp [World.cell?, HXB17.out]
                    have x1 : w17.cell? ⟨XB, 1, none⟩ = some (.int .u8 q) := by simp [World.cell?, HXB17.out]
                    have c1 : w17.cell? ⟨FB, 1, none⟩ = some (.slice qa nf qc) := by simp [World.cell?, HFB17.out]
                    have hbx := cell_lt x0
                    have hbf := cell_lt c1
                    have hrm : Int.tmod p 3 = (m3 : Int) := (Int.tmod_eq_emod_of_nonneg HPQ.out.1.1).trans HM3E.out
                    have hw1 : IntKind.i64.wrap (m3 : Int) = m3 := by rw [IntKind.wrap_i64]; have := HM33.out; omega
                    have hw2 : IntKind.u8.wrap (m3 : Int) = m3 := by rw [IntKind.wrap_u8]; have := HM33.out; omega
                    have hw3 : IntKind.i64.wrap (1 + (m3 : Int)) = 1 + m3 := by rw [IntKind.wrap_i64]; have := HM33.out; omega
                    have hrm2 : Int.tmod q 2 = (m2 : Int) := (Int.tmod_eq_emod_of_nonneg HPQ.out.2.1).trans HM2E.out
                    have hw4 : IntKind.i64.wrap (m2 : Int) = m2 := by rw [IntKind.wrap_i64]; have := HM23.out; omega
                    have hw5 : IntKind.u8.wrap (m2 : Int) = m2 := by rw [IntKind.wrap_u8]; have := HM23.out; omega
                    have HA18 := Lib.hid (more_allocD w17 (.cells #[.int .i64 (1 + (m3 : Int)), .int .i64 (m2 : Int), .int .i64 (nf : Int), .int .i64 (k : Int), .slice aa n ac, .int .i64 0, .slice none 0 0, .int .i64 0] 203))
                    have HMB18 := Lib.hid (alloc_last w17 (.cells #[.int .i64 (1 + (m3 : Int)), .int .i64 (m2 : Int), .int .i64 (nf : Int), .int .i64 (k : Int), .slice aa n ac, .int .i64 0, .slice none 0 0, .int .i64 0] 203))
                    obtain ⟨MB, HMBE⟩ : ∃ B, Hid (B = w17.heap.size) := ⟨_, Lib.hid rfl⟩
                    rw [← HMBE.out] at HMB18
                    go_upto_region 39 with fail
                    try rw [← HMBE.out]
                    generalize w17.alloc (.cells #[.int .i64 (1 + (m3 : Int)), .int .i64 (m2 : Int), .int .i64 (nf : Int), .int .i64 (k : Int), .slice aa n ac, .int .i64 0, .slice none 0 0, .int .i64 0] 203) = w18 at *
                    clear x0 x1 c1 hbx hbf hrm hw1 hw2 hw3 hrm2 hw4 hw5
                    have HMR18 := Lib.hid (more_trans HMR17.out HA18.out)
                    have HXB18 := Lib.hid (show w18.heap[XB]? = some (.cells #[.int .u8 p, .int .u8 q, .slice ha hn hc, .slice sa sn sc] 191) from (HA18.out.block (blk_ltD HXB17.out)).trans HXB17.out)
                    have HCB18 := Lib.hid (show w18.heap[CB]? = some (.cells #[.string (abcB k), .slice va vn vc, .slice none 0 0] 122) from (HA18.out.block (blk_ltD HCB17.out)).trans HCB17.out)
                    have HCM := Lib.hid (show CB < MB from by rw [HMBE.out]; exact blk_ltD HCB17.out)
                    have HW10 := Lib.hid (show w10.heap.size ≤ MB from by have h1 := HXW.out; have h2 := HCM.out; omega)
                    have HW9 := Lib.hid (show w9.heap.size ≤ w10.heap.size from HG10.out.size)
                    obtain ⟨d, HDE⟩ : ∃ d : MkD, Hid (d = ⟨1 + (m3 : Int), (m2 : Int), (nf : Int), (k : Int), .slice aa n ac⟩) := ⟨_, Lib.hid rfl⟩
                    have HMK18 := Lib.hid (show MkAt w18 MB d 0 0 [] from by
                      rw [HDE.out]
                      exact ⟨⟨none, 0, HMB18.out, ⟨rfl, _, _, rfl, Nat.le_refl _, fun h => absurd rfl h⟩⟩, fun b hb => absurd hb List.not_mem_nil, Nat.zero_le _⟩)
                    have HDO := Lib.hid (show d.Ok 0 from by rw [HDE.out]; exact ⟨by show (0:Int) < 1 + (m3 : Int); omega, by show 1 + (m3 : Int) ≤ 3; have := HM33.out; omega, by show (0:Int) ≤ (m2 : Int); omega, by omega, by omega⟩)
                    have HDF := Lib.hid (show 0 ≤ d.flags ∧ d.flags ≤ 2 from by rw [HDE.out]; exact ⟨by show (0:Int) ≤ (nf : Int); omega, by show (nf : Int) ≤ 2; have := HNF2.out; omega⟩)
                    have HTR := Lib.hid (show ∀ W, More w10 W → ∀ b o u, b < w9.heap.size → b ≠ FB → w9.cell? ⟨b, o, none⟩ = some u → W.cell? ⟨b, o, none⟩ = some u from fun W hW b o u _ hn hc => hW.cell (cell_grown hn HG10.out hc))
                    obtain ⟨ag, hag, hagl, hars⟩ := ars_open HAR9.out HNE.out (by have := HN13.out; omega)
                    subst hag
                    have HK8F := Lib.hid (show FB ≤ K8 from by have h1 := blk_ltD HFB8.out; have h2 := HK8.out; omega)
                    have HNF9 := Lib.hid (show ag ≠ FB ∧ ∀ i rb rm rc, w9.cell? ⟨ag, i, none⟩ = some (.slice (some ⟨rb, 0, none⟩) rm rc) → i < n → rb ≠ FB from ars_ne HAR9.out HK8F.out HNE.out)
                    obtain ⟨rm, HRM⟩ : ∃ rm : Nat, Hid ((∀ W, More w10 W → OwnAr W MB d rm) ∧ 1 ≤ rm ∧ max (min 3 hn) (min 3 sn) ≤ rm) := by
                      obtain ⟨rb, rm, rc, h1, h2, h3, h4, h5, h6⟩ := hars k HLT.out
                      have h7 := h5 HKP.out
                      rw [HCN.out.1, HCN.out.2] at h7
                      refine ⟨rm, Lib.hid ⟨fun W hW => ?_, h3, h7⟩⟩
                      rw [HDE.out]
                      exact ⟨ag, 0, n, ac, rb, 0, rm, rc, k, rfl, rfl, HLT.out, by have := HW10.out; have := HW9.out; omega, by rw [Nat.zero_add]; exact HTR.out W hW _ _ _ hagl HNF9.out.1 h1, by have := HW10.out; have := HW9.out; omega, Nat.le_refl _, fun i hi => by rw [Nat.zero_add]; obtain ⟨x, hx, hx2⟩ := h6 i hi; exact ⟨x, HTR.out W hW _ _ _ h2 (HNF9.out.2 _ _ _ _ h1 (by omega)) hx, hx2⟩⟩
                    have HAO := Lib.hid (show ∀ W, More w10 W → ArOk W MB d from by
                      intro W hW
                      rw [HDE.out]
                      refine ⟨ag, 0, n, ac, rfl, HN13.out.2, by show (0:Int) ≤ (k : Int); omega, by show (k : Int) < (n : Int); have := HLT.out; omega, by have := HW10.out; have := HW9.out; omega, fun i hi => ?_⟩
                      obtain ⟨rb, rm', rc, h1, h2, h3, h4, _, h6⟩ := hars i hi
                      refine ⟨_, by rw [Nat.zero_add]; exact HTR.out W hW _ _ _ hagl HNF9.out.1 h1, rb, 0, rm', rc, rfl, h3, h4, by have := HW10.out; have := HW9.out; omega, fun j hj => ?_⟩
                      obtain ⟨x, hx, hx2⟩ := h6 j hj
                      exact ⟨(x : Int), by rw [Nat.zero_add]; exact HTR.out W hW _ _ _ h2 (HNF9.out.2 _ _ _ _ h1 (by omega)) hx, by omega, by omega⟩)
                    have HCH18 := Lib.hid (show CodesAt (fun b => b < FB) w18 (.slice ha hn hc) from codesAt_keep (fun b o u hb hc => ⟨hb, HTR.out w18 HMR18.out _ _ _ (by have h9 : b < FB := hb; have := HFL9.out; omega) (Nat.ne_of_lt hb) hc⟩) HCH.out)
                    have HCS18 := Lib.hid (show CodesAt (fun b => b < FB) w18 (.slice sa sn sc) from codesAt_keep (fun b o u hb hc => ⟨hb, HTR.out w18 HMR18.out _ _ _ (by have h9 : b < FB := hb; have := HFL9.out; omega) (Nat.ne_of_lt hb) hc⟩) HCS.out)
                    have HCW := Lib.hid (show ∀ W, More w10 W → CodesAt (fun b => b < FB) W (.slice sa sn sc) from fun W hW => codesAt_keep (fun b o u hb hc => ⟨hb, HTR.out W hW _ _ _ (by have h9 : b < FB := hb; have := HFL9.out; omega) (Nat.ne_of_lt hb) hc⟩) HCS.out)
                    clear hars hagl HCS18
                    have HDR := Lib.hid (more_drew w18)
                    have HLS := Lib.hid (fun W => least_nat hn 3 W)
                    have HMN := Lib.hid (show min hn 3 ≤ hn ∧ min hn 3 ≤ 3 ∧ min hn 3 ≤ rm from by have := HRM.out.2.2; omega)
                    obtain ⟨m4, HM4E⟩ : ∃ m, Hid (min hn 3 = m) := ⟨_, Lib.hid rfl⟩
                    rw [HM4E.out] at HLS HMN
                    have hsl := slice189_to ha hn hc m4 HMN.out.1 (by obtain ⟨_, _, _, e, _, hr⟩ := HCH.out; injection e with e1 e2 e3; subst e1 e2 e3; obtain ⟨_, h, _⟩ := hr; obtain ⟨_, _, e, h⟩ := h.shape; injection e with e1 e2 e3; have := HMN.out.1; omega) (by obtain ⟨_, _, _, e, h, _⟩ := HCH.out; injection e with e1 e2 e3; subst e1 e2 e3; exact h)
                    refine wp_region_heldP (S := fun W => W.cell? ⟨XB, 2, none⟩ = some (.slice ha hn hc)) 7 (by kernel_rfl) ?_
                    generalize w18.drew = w19 at *
                    have HK19 := Lib.hid (show w19.cell? ⟨XB, 2, none⟩ = some (.slice ha hn hc) from HDR.out.cell (by simp [World.cell?, HXB18.out]))
                    have hs1 := cell_lt HK19.out
                    refine tkS (i := 0) (v := ?_) (by simp only [opA, op0]; exact rfl) (by kernel_rfl) (by kernel_rfl) HK19.out ?_ ?_
                    rotate_left
                    · intro w hS
                      (try dsimp only at hS); first | (go_simp; done) | (go_simp; with_reducible rfl)
                    (try simp only [ptS, stA, st0, stS])
                    refine tkS (i := 1) (v := ?_) (by simp only [opA, opS, op0]; exact rfl) (by kernel_rfl) (by kernel_rfl) HK19.out ?_ ?_
                    rotate_left
                    · intro w hS
                      (try dsimp only at hS); first | (go_simp; done) | (go_simp; with_reducible rfl)
                    (try simp only [ptS, stA, st0, stS])
                    refine tkS (i := 2) (v := ?_) (by simp only [opA, opS, op0]; exact rfl) (by kernel_rfl) (by kernel_rfl) HK19.out ?_ ?_
                    rotate_left
                    · intro w hS
                      (try dsimp only at hS); first | (go_simp; done) | (go_simp; with_reducible rfl)
                    (try simp only [ptS, stA, st0, stS])
                    refine tkS (i := 3) (v := ?_) (by simp only [opA, opS, op0]; exact rfl) (by kernel_rfl) (by kernel_rfl) HK19.out ?_ ?_
                    rotate_left
                    · intro w hS
                      (try dsimp only at hS); first | (go_simp; done) | (go_simp; with_reducible rfl)
                    (try simp only [ptS, stA, st0, stS])
                    refine tkS (i := 4) (v := ?_) (by simp only [opA, opS, op0]; exact rfl) (by kernel_rfl) (by kernel_rfl) HK19.out ?_ ?_
                    rotate_left
                    · intro w hS
                      (try dsimp only at hS); first | (go_simp; done) | (go_simp; with_reducible rfl)
                    (try simp only [ptS, stA, st0, stS])
                    refine wpAnyP_ready (rs := [5]) (by kernel_rfl) (by simp) ?_
                    refine (AllReadyP.cons (by simp only [opA, opS, op0]; exact rfl) (fun K hK => ?_) AllReadyP.nil)
                    rw [if_pos (by kernel_rfl)]
                    go_simp
                    refine (HLS.out w19).mono ?_
                    rintro e wA ⟨rfl, hwA⟩
                    have hwA := hwA.symm
                    subst hwA
                    try go_wp2_with fail
                    refine hK.out _ _ (fun _ => HK19.out) ?_
                    clear hK K
                    (try simp only [ptS, stA, st0, stS])
                    refine tkS (i := 6) (v := ?_) (by simp only [opA, opS, op0]; exact rfl) (by kernel_rfl) (by kernel_rfl) HK19.out ?_ ?_
                    rotate_left
                    · intro w hS
                      (try dsimp only at hS); first | (go_simp; done) | (go_simp; with_reducible rfl)
                    (try simp only [ptS, stA, st0, stS])
                    refine wpAnyP_ready (rs := [7]) (by kernel_rfl) (by simp) ?_
                    refine (AllReadyP.cons (by simp only [opA, opS, op0]; exact rfl) (fun K hK => ?_) AllReadyP.nil)
                    rw [if_pos (by kernel_rfl)]
                    go_simp
                    refine hK.out _ _ (gone (by kernel_rfl)) ?_
                    clear hK K
                    (try simp only [ptS, stA, st0, stS])
                    refine wpAnyP_done (by kernel_rfl) ?_ _
                    clear hs1 hsl HLS
                    have HMR19 := Lib.hid (more_trans HMR18.out HDR.out)
                    have HXB19 := Lib.hid (show w19.heap[XB]? = some (.cells #[.int .u8 p, .int .u8 q, .slice ha hn hc, .slice sa sn sc] 191) from (HDR.out.block (blk_ltD HXB18.out)).trans HXB18.out)
                    have HCB19 := Lib.hid (show w19.heap[CB]? = some (.cells #[.string (abcB k), .slice va vn vc, .slice none 0 0] 122) from (HDR.out.block (blk_ltD HCB18.out)).trans HCB18.out)
                    have HMK19 := Lib.hid (HMK18.out.more HDR.out)
                    go_upto_if 201 with (fail)
                    go_cut [21] (fun hv wx => ∃ (h2 : Option Addr) (n2 c2 : Nat), hv = .slice h2 n2 c2 ∧ Hid (n2 ≤ 3 ∧ n2 ≤ rm) ∧ Hid (RowOf 2 maxLen (CodeC MB) (fun b => b ≠ MB) wx (.slice h2 n2 c2)) ∧ Hid (More w19 wx))
                    case first => as_aux_lemma =>
                      by_cases hm0 : m4 = 0
                      · subst hm0
                        go_wp2_with fail
                        go_meet
                        have hA := more_allocD w19 (.cells #[.int .u8 1, .slice none 0 0] 205)
                        have hL := alloc_last w19 (.cells #[.int .u8 1, .slice none 0 0] 205)
                        exact ⟨some ⟨w19.heap.size, 0, none⟩, 1, 1, rfl, Lib.hid ⟨by decide, HRM.out.2.1⟩, Lib.hid ⟨[[.int .u8 1, .slice none 0 0]], Row.mono (fun b hb => by have h9 : w19.heap.size ≤ b := hb; have := HMK19.out.lt; omega) (fun _ _ _ _ hc => hc) (Row.of_owns (B := w19.heap.size) (e := 205) (owns_lit (n := 1) hL (Nat.le_refl _) rfl (by decide))), by decide, fun l hl => (by rw [List.mem_singleton] at hl; rw [hl]; rfl), fun l hl => (by rw [List.mem_singleton] at hl; rw [hl]; exact ⟨1, _, rfl, by omega, by omega, none, 0, 0, [], rfl, rfl, Or.inl (Or.inl ⟨rfl, rfl⟩), ⟨rfl, none, 0, rfl, Nat.le_refl _, fun h => absurd rfl h⟩, fun b hb => absurd hb List.not_mem_nil⟩)⟩, Lib.hid hA⟩
                      · have hmb : ((m4 : Int) == 0) = false := beq_eq_false_iff_ne.2 (by omega)
                        go_wp2_with fail
                        go_meet
                        exact ⟨ha, m4, hc, rfl, Lib.hid ⟨HMN.out.2.1, HMN.out.2.2⟩, Lib.hid (by
                          obtain ⟨_, _, _, e, _, hr⟩ := HCH18.out
                          injection e with e1 e2 e3
                          subst e1 e2 e3
                          exact (rowOf_take (code_to (by have := HFL10.out; have := HW10.out; omega) hr) HMN.out.1 (Nat.le_trans HMN.out.2.1 (by decide)) (by decide)).keep (codeC_keep MB) (by decide) (fun b off u hb hc => ⟨hb, HDR.out.cell hc⟩)), Lib.hid (more_of (Below.refl _ _))⟩
                    case rest => as_aux_lemma =>
                      obtain ⟨h2, n2, c2, rfl, HN2, HCO, HM20⟩ := hcut
                      obtain ⟨w20, rfl⟩ : ∃ wo : World, wo = wc := ⟨_, rfl⟩
                      have HMR20 := Lib.hid (more_trans HMR19.out HM20.out)
                      have HXB20 := Lib.hid (show w20.heap[XB]? = some (.cells #[.int .u8 p, .int .u8 q, .slice ha hn hc, .slice sa sn sc] 191) from (HM20.out.block (blk_ltD HXB19.out)).trans HXB19.out)
                      have HCB20 := Lib.hid (show w20.heap[CB]? = some (.cells #[.string (abcB k), .slice va vn vc, .slice none 0 0] 122) from (HM20.out.block (blk_ltD HCB19.out)).trans HCB19.out)
                      have HMK20 := Lib.hid (HMK19.out.more HM20.out)
                      have HVS20 := Lib.hid (show OwnOf 123 1 VerC (MB + 1) w20 (.slice none 0 0) 0 from OwnOf.nil)
                      obtain ⟨v0, hv0, hy0, hy1, hy2⟩ := info_parts Try.info123b
                      have HXM := Lib.hid (show XB ≠ MB from by have h1 := HXC.out; have h2 := HCM.out; omega)
                      have HCNM := Lib.hid (show CB ≠ MB from Nat.ne_of_lt HCM.out)
                      have HMW := Lib.hid HW10.out
                      go_upto_region 42 with fail
                      have HDR42 := Lib.hid (more_drew w20)
                      refine wp_region_heldP (S := fun W => W.cell? ⟨CB, 2, none⟩ = some (.slice none 0 0)) 7 (by kernel_rfl) ?_
                      generalize w20.drew = w421 at *
                      have HMR421 := Lib.hid (more_trans HMR20.out HDR42.out)
                      have HXB421 := Lib.hid (show w421.heap[XB]? = some (.cells #[.int .u8 p, .int .u8 q, .slice ha hn hc, .slice sa sn sc] 191) from (HDR42.out.block (blk_ltD HXB20.out)).trans HXB20.out)
                      have HCB421 := Lib.hid (show w421.heap[CB]? = some (.cells #[.string (abcB k), .slice va vn vc, .slice none 0 0] 122) from (HDR42.out.block (blk_ltD HCB20.out)).trans HCB20.out)
                      have HMK421 := Lib.hid (HMK20.out.more HDR42.out)
                      have HVS421 := Lib.hid (HVS20.out.keep verC_keep (fun z _ hz => HDR42.out.block hz))
                      have HK421 := Lib.hid (show w421.cell? ⟨CB, 2, none⟩ = some (.slice none 0 0) from (by simp [World.cell?, HCB421.out]))
                      have hs1 := cell_lt HK421.out
                      refine tkS (i := 0) (v := ?_) (by simp only [opA, op0]; exact rfl) (by kernel_rfl) (by kernel_rfl) HK421.out ?_ ?_
                      rotate_left
                      · intro w hS
                        (try dsimp only at hS); first | (go_simp; done) | (go_simp; with_reducible rfl)
                      (try simp only [ptS, stA, st0, stS])
                      refine tkS (i := 1) (v := ?_) (by simp only [opA, opS, op0]; exact rfl) (by kernel_rfl) (by kernel_rfl) HK421.out ?_ ?_
                      rotate_left
                      · intro w hS
                        (try dsimp only at hS); first | (go_simp; done) | (go_simp; with_reducible rfl)
                      (try simp only [ptS, stA, st0, stS])
                      refine tkS (i := 2) (v := ?_) (by simp only [opA, opS, op0]; exact rfl) (by kernel_rfl) (by kernel_rfl) HK421.out ?_ ?_
                      rotate_left
                      · intro w hS
                        (try dsimp only at hS); first | (go_simp; done) | (go_simp; with_reducible rfl)
                      (try simp only [ptS, stA, st0, stS])
                      refine wpAnyP_ready (rs := [3]) (by kernel_rfl) (by simp) ?_
                      refine (AllReadyP.cons (by simp only [opA, opS, op0]; exact rfl) (fun K hK => ?_) AllReadyP.nil)
                      rw [if_pos (by kernel_rfl)]
                      have HC1 := Lib.hid (handlers_any (body_all 3) MB d 0 0 [] h2 n2 c2 w421 HMK421.out HDO.out HDF.out (HAO.out w421 HMR421.out) ((HRM.out.1 w421 HMR421.out).keep (fun _ _ => rfl) HN2.out.2) HN2.out.1 (HCO.out.keep (codeC_keep MB) (by decide) (fun b off u hb hc => ⟨hb, HDR42.out.cell hc⟩)))
                      go_simp
                      refine HC1.out.mono ?_
                      rintro e w422 ⟨v422, prm422, left422, l422, rfl, hhs, hmk, hdo, hg⟩
                      have HHS422 := Lib.hid hhs
                      have HMK422 := Lib.hid hmk
                      have HDO422 := Lib.hid hdo
                      have HMR422 := Lib.hid (more_own HMR421.out hg HMW.out)
                      have HXB422 := Lib.hid (show w422.heap[XB]? = some (.cells #[.int .u8 p, .int .u8 q, .slice ha hn hc, .slice sa sn sc] 191) from (hg.block XB (blk_ltD HXB421.out) (fun e => by injection e with e; exact HXM.out e)).trans HXB421.out)
                      have HCB422 := Lib.hid (show w422.heap[CB]? = some (.cells #[.string (abcB k), .slice va vn vc, .slice none 0 0] 122) from (hg.block CB (blk_ltD HCB421.out) (fun e => by injection e with e; exact HCNM.out e)).trans HCB421.out)
                      have HVS422 := Lib.hid (HVS421.out.keep verC_keep (fun z hz1 hz2 => hg.block z hz2 (fun e => by injection e with e; omega)))
                      have HSZ422 := Lib.hid (show MB + 1 ≤ w421.heap.size from HMK421.out.lt)
                      have HK422 := Lib.hid (show w422.cell? ⟨CB, 2, none⟩ = some (.slice none 0 0) from (by simp [World.cell?, HCB422.out]))
                      obtain ⟨va422, vn422, vc422, hsh, _⟩ := hhs.at
                      subst hsh
                      clear hhs hmk hdo hg HC1
                      try go_wp2_with fail
                      refine hK.out _ _ (fun _ => HK422.out) ?_
                      clear hK K
                      (try simp only [ptS, stA, st0, stS])
                      refine wpAnyP_ready (rs := [4]) (by kernel_rfl) (by simp) ?_
                      refine (AllReadyP.cons (by simp only [opA, opS, op0]; exact rfl) (fun K hK => ?_) AllReadyP.nil)
                      rw [if_pos (by kernel_rfl)]
                      have HA423 := Lib.hid (more_allocD w422 (.cells #[.slice va422 vn422 vc422] 123))
                      have HL423 := Lib.hid (alloc_last w422 (.cells #[.slice va422 vn422 vc422] 123))
                      obtain ⟨LB, HLE⟩ : ∃ B, Hid (B = w422.heap.size) := ⟨_, Lib.hid rfl⟩
                      go_simp
                      rw [← HLE.out] at HL423
                      try rw [← HLE.out]
                      generalize w422.alloc (.cells #[.slice va422 vn422 vc422] 123) = w423 at *
                      have HMR423 := Lib.hid (more_trans HMR422.out HA423.out)
                      have HXB423 := Lib.hid (show w423.heap[XB]? = some (.cells #[.int .u8 p, .int .u8 q, .slice ha hn hc, .slice sa sn sc] 191) from (HA423.out.block (blk_ltD HXB422.out)).trans HXB422.out)
                      have HCB423 := Lib.hid (show w423.heap[CB]? = some (.cells #[.string (abcB k), .slice va vn vc, .slice none 0 0] 122) from (HA423.out.block (blk_ltD HCB422.out)).trans HCB422.out)
                      have HMK423 := Lib.hid (HMK422.out.more HA423.out)
                      have HVS423 := Lib.hid (HVS422.out.keep verC_keep (fun z _ hz => HA423.out.block hz))
                      have HK423 := Lib.hid (show w423.cell? ⟨CB, 2, none⟩ = some (.slice none 0 0) from (by simp [World.cell?, HCB423.out]))
                      refine hK.out _ _ (fun _ => HK423.out) ?_
                      clear hK K
                      (try simp only [ptS, stA, st0, stS])
                      refine wpAnyP_ready (rs := [5]) (by kernel_rfl) (by simp) ?_
                      refine (AllReadyP.cons (by simp only [opA, opS, op0]; exact rfl) (fun K hK => ?_) AllReadyP.nil)
                      obtain ⟨xs, hox, hpush⟩ := HVS423.out.open verC_keep
                      have hbs : MB + 1 ≤ w423.heap.size := HMK423.out.lt
                      have HOWV := Lib.hid (show ∀ z, (.slice none 0 0 : Value).ownBlock = some z → MB + 1 ≤ z ∧ z < w421.heap.size from fun z hz => (by obtain ⟨_, _, _, h⟩ := HVS421.out.shape; exact h z hz))
                      have hm9 : 0 + 1 ≤ maxLen := by skip; unfold maxLen; omega
                      have hm8 : (0 + 1) * 24 ≤ 140737488355328 := by skip; omega
                      refine step_append_lies _ (by rfl) _ _ _ (by rfl) (MB + 1) 123 v0 _ 1 24 Try.underlying120 hv0 hy0 hy1 hy2 rfl (by omega) (.slice none 0 0) 0 xs (by rfl) hox ⟨LB, 0, none⟩ 1 1 [.slice va422 vn422 vc422] (by rfl) (by rfl) (World.news_of_block (cs := #[.slice va422 vn422 vc422]) (t := 123) (fr := (0, 0)) HL423.out) (by simp [Value.oneCell']) (by omega) hm9 hm8 hbs w423.heap.size (by rfl) ?_
                      intro gg cap2 w424 hown hgrow hat _
                      have hp9 := hpush w424 gg cap2 _ [.slice va422 vn422 vc422] hown hgrow hat (Nat.le_refl _) rfl ⟨_, rfl, HHS422.out.keep handC_keep (by decide) (fun b off u hb hc => ⟨⟨by have h9 : w421.heap.size ≤ b := hb; have h1 := HSZ422.out; omega, fun e => by have h9 : w421.heap.size ≤ b := hb; have h1 := (HOWV.out b e).2; omega⟩, HA423.out.cell hc⟩)⟩
                      obtain ⟨ra, rn, rc, HQ⟩ : ∃ ra rn rc, Hid (Value.slice ra rn rc = Value.slice (some ⟨gg, 0, none⟩) (0 + 1) cap2) := ⟨_, _, _, Lib.hid rfl⟩
                      rw [← HQ.out] at hp9
                      rw [← HQ.out]
                      have hrn : rn = 0 + 1 := (by have e := HQ.out; injection e)
                      rw [← hrn] at hp9
                      have HRN := Lib.hid hrn
                      clear hrn
                      have HVS424 := Lib.hid hp9
                      have hbb : ∀ z, z ≤ MB → z < w423.heap.size → w424.heap[z]? = w423.heap[z]? := fun z hz hlt => hgrow.block z hlt (fun e => by have h1 := (HOWV.out z e.symm).1; omega)
                      have HMR424 := Lib.hid (show More w10 w424 from more_of (below_g HMR423.out.below hgrow (fun z hz => by have h1 := (HOWV.out z hz).1; have h2 := HMW.out; omega)))
                      have HXB424 := Lib.hid (show w424.heap[XB]? = some (.cells #[.int .u8 p, .int .u8 q, .slice ha hn hc, .slice sa sn sc] 191) from (hbb XB (by have h1 := HXC.out; have h2 := HCM.out; omega) (blk_ltD HXB423.out)).trans HXB423.out)
                      have HCB424 := Lib.hid (show w424.heap[CB]? = some (.cells #[.string (abcB k), .slice va vn vc, .slice none 0 0] 122) from (hbb CB (Nat.le_of_lt HCM.out) (blk_ltD HCB423.out)).trans HCB423.out)
                      have HMK424 := Lib.hid (HMK423.out.keep (fun z hz => hbb z hz (by have := HMK423.out.lt; omega)))
                      have HK424 := Lib.hid (show w424.cell? ⟨CB, 2, none⟩ = some (.slice none 0 0) from (by simp [World.cell?, HCB424.out]))
                      clear hown hgrow hat hpush hox hp9 hbb
                      refine hK.out _ _ (fun _ => HK424.out) ?_
                      clear hK K
                      (try simp only [ptS, stA, st0, stS])
                      refine tkS (i := 6) (v := ?_) (by simp only [opA, opS, op0]; exact rfl) (by kernel_rfl) (by kernel_rfl) HK424.out ?_ ?_
                      rotate_left
                      · intro w hS
                        (try dsimp only at hS); first | (go_simp; done) | (go_simp; with_reducible rfl)
                      (try simp only [ptS, stA, st0, stS])
                      refine wpAnyP_ready (rs := [7]) (by kernel_rfl) (by simp) ?_
                      refine (AllReadyP.cons (by simp only [opA, opS, op0]; exact rfl) (fun K hK => ?_) AllReadyP.nil)
                      rw [if_pos (by kernel_rfl)]
                      have g1 := HK424.out
                      have fz := thaw HCB424.out 2
                      have hbc2 := cell_lt g1
                      go_simp
                      refine hK.out _ _ (gone (by kernel_rfl)) ?_
                      clear hK K
                      (try simp only [ptN])
                      refine wpAnyP_done (by kernel_rfl) ?_ _
                      have HMR425 := Lib.hid (more_own HMR424.out (set1_grown w424 CB 2 (.slice ra rn rc)) (by have h1 := HXW.out; omega))
                      have HXB425 := Lib.hid (show (w424.setCell ⟨CB, 2, none⟩ (.slice ra rn rc)).heap[XB]? = some (.cells #[.int .u8 p, .int .u8 q, .slice ha hn hc, .slice sa sn sc] 191) from (Below.heap_setCell _ _ _ _ (show XB ≠ CB from HXNC.out)).trans HXB424.out)
                      have HCB425 := Lib.hid (show (w424.setCell ⟨CB, 2, none⟩ (.slice ra rn rc)).heap[CB]? = some (.cells #[.string (abcB k), .slice va vn vc, .slice ra rn rc] 122) from setCell_heapD (o := 2) (v := .slice ra rn rc) HCB424.out)
                      have HMK425 := Lib.hid (HMK424.out.box (o := 2) (x := .slice ra rn rc) HCB424.out HCM.out)
                      have HVS425 := Lib.hid (HVS424.out.keep verC_keep (w' := w424.setCell ⟨CB, 2, none⟩ (.slice ra rn rc)) (fun z hz _ => Below.heap_setCell _ _ _ _ (show z ≠ CB from by have := HCM.out; omega)))
                      clear g1 fz hbc2 hs1
                      skip
                      generalize w424.setCell ⟨CB, 2, none⟩ (.slice ra rn rc) = w425 at *
                      have HYN := Lib.hid (show rn ≤ 1 from by have := HRN.out; omega)
                      clear HQ HRN
                      have x3 : w425.cell? ⟨XB, 3, none⟩ = some (.slice sa sn sc) := by simp [World.cell?, HXB425.out]
                      have hbx := cell_lt x3
                      go_upto_if 214 with (fail)
                      go_cut [] (fun wx => ∃ (ya : Option Addr) (yn yc : Nat), Hid (yn ≤ 2) ∧ Hid (wx.heap[CB]? = some (.cells #[.string (abcB k), .slice va vn vc, .slice ya yn yc] 122)) ∧ Hid (OwnOf 123 1 VerC (MB + 1) wx (.slice ya yn yc) yn) ∧ Hid (More w10 wx))
                      case first => as_aux_lemma =>
                        by_cases hs0 : sn = 0
                        · subst hs0
                          go_wp2_with fail
                          go_meet
                          exact ⟨ra, rn, rc, Lib.hid (by have := HYN.out; omega), HCB425, HVS425, HMR425⟩
                        · have hs0i : (0 : Int) < (sn : Int) := by omega
                          obtain ⟨ya, yn, yc, HYE⟩ : ∃ ya yn yc, Hid (ya = ra ∧ yn = rn ∧ yc = rc) := ⟨_, _, _, Lib.hid ⟨rfl, rfl, rfl⟩⟩
                          rw [← HYE.out.1, ← HYE.out.2.1, ← HYE.out.2.2] at HCB425 HVS425
                          rw [← HYE.out.2.1] at HYN
                          clear HYE
                          have HLS5 := Lib.hid (fun W => least_nat sn 3 W)
                          have HMN5 := Lib.hid (show min sn 3 ≤ sn ∧ min sn 3 ≤ 3 ∧ min sn 3 ≤ rm from by have := HRM.out.2.2; omega)
                          obtain ⟨m5, HM5E⟩ : ∃ m, Hid (min sn 3 = m) := ⟨_, Lib.hid rfl⟩
                          rw [HM5E.out] at HLS5 HMN5
                          have hsl := slice189_to sa sn sc m5 HMN5.out.1 (by obtain ⟨_, _, _, e, _, hr⟩ := HCS.out; injection e with e1 e2 e3; subst e1 e2 e3; obtain ⟨_, h, _⟩ := hr; obtain ⟨_, _, e, h⟩ := h.shape; injection e with e1 e2 e3; have := HMN5.out.1; omega) (by obtain ⟨_, _, _, e, h, _⟩ := HCS.out; injection e with e1 e2 e3; subst e1 e2 e3; exact h)
                          go_upto_region 44 with fail
                          clear x3 hbx
                          have HDR44 := Lib.hid (more_drew w425)
                          refine wp_region_heldP (S := fun W => W.cell? ⟨CB, 2, none⟩ = some (.slice ya yn yc) ∧ W.cell? ⟨XB, 3, none⟩ = some (.slice sa sn sc)) 13 (by kernel_rfl) ?_
                          generalize w425.drew = w441 at *
                          have HMR441 := Lib.hid (more_trans HMR425.out HDR44.out)
                          have HXB441 := Lib.hid (show w441.heap[XB]? = some (.cells #[.int .u8 p, .int .u8 q, .slice ha hn hc, .slice sa sn sc] 191) from (HDR44.out.block (blk_ltD HXB425.out)).trans HXB425.out)
                          have HCB441 := Lib.hid (show w441.heap[CB]? = some (.cells #[.string (abcB k), .slice va vn vc, .slice ya yn yc] 122) from (HDR44.out.block (blk_ltD HCB425.out)).trans HCB425.out)
                          have HMK441 := Lib.hid (HMK425.out.more HDR44.out)
                          have HVS441 := Lib.hid (HVS425.out.keep verC_keep (fun z _ hz => HDR44.out.block hz))
                          have HK441 := Lib.hid (show w441.cell? ⟨CB, 2, none⟩ = some (.slice ya yn yc) ∧ w441.cell? ⟨XB, 3, none⟩ = some (.slice sa sn sc) from ⟨by simp [World.cell?, HCB441.out], by simp [World.cell?, HXB441.out]⟩)
                          have hs1 := cell_lt HK441.out.1
                          have hs2 := cell_lt HK441.out.2
                          refine tkS (i := 0) (v := ?_) (by simp only [opA, op0]; exact rfl) (by kernel_rfl) (by kernel_rfl) HK441.out ?_ ?_
                          rotate_left
                          · intro w hS
                            (try dsimp only at hS); first | (go_simp; done) | (go_simp; with_reducible rfl)
                          (try simp only [ptS, stA, st0, stS])
                          refine tkS (i := 1) (v := ?_) (by simp only [opA, opS, op0]; exact rfl) (by kernel_rfl) (by kernel_rfl) HK441.out ?_ ?_
                          rotate_left
                          · intro w hS
                            (try dsimp only at hS); first | (go_simp; done) | (go_simp; with_reducible rfl)
                          (try simp only [ptS, stA, st0, stS])
                          refine tkS (i := 2) (v := ?_) (by simp only [opA, opS, op0]; exact rfl) (by kernel_rfl) (by kernel_rfl) HK441.out ?_ ?_
                          rotate_left
                          · intro w hS
                            (try dsimp only at hS); first | (go_simp; done) | (go_simp; with_reducible rfl)
                          (try simp only [ptS, stA, st0, stS])
                          refine tkS (i := 3) (v := ?_) (by simp only [opA, opS, op0]; exact rfl) (by kernel_rfl) (by kernel_rfl) HK441.out ?_ ?_
                          rotate_left
                          · intro w hS
                            (try dsimp only at hS); first | (go_simp; done) | (go_simp; with_reducible rfl)
                          (try simp only [ptS, stA, st0, stS])
                          refine tkS (i := 4) (v := ?_) (by simp only [opA, opS, op0]; exact rfl) (by kernel_rfl) (by kernel_rfl) HK441.out ?_ ?_
                          rotate_left
                          · intro w hS
                            (try dsimp only at hS); first | (go_simp; done) | (go_simp; with_reducible rfl)
                          (try simp only [ptS, stA, st0, stS])
                          refine tkS (i := 5) (v := ?_) (by simp only [opA, opS, op0]; exact rfl) (by kernel_rfl) (by kernel_rfl) HK441.out ?_ ?_
                          rotate_left
                          · intro w hS
                            (try dsimp only at hS); first | (go_simp; done) | (go_simp; with_reducible rfl)
                          (try simp only [ptS, stA, st0, stS])
                          refine tkS (i := 6) (v := ?_) (by simp only [opA, opS, op0]; exact rfl) (by kernel_rfl) (by kernel_rfl) HK441.out ?_ ?_
                          rotate_left
                          · intro w hS
                            (try dsimp only at hS); first | (go_simp; done) | (go_simp; with_reducible rfl)
                          (try simp only [ptS, stA, st0, stS])
                          refine wpAnyP_ready (rs := [7]) (by kernel_rfl) (by simp) ?_
                          refine (AllReadyP.cons (by simp only [opA, opS, op0]; exact rfl) (fun K hK => ?_) AllReadyP.nil)
                          rw [if_pos (by kernel_rfl)]
                          go_simp
                          refine (HLS5.out w441).mono ?_
                          rintro e wA ⟨rfl, hwA⟩
                          have hwA := hwA.symm
                          subst hwA
                          try go_wp2_with fail
                          refine hK.out _ _ (fun _ => HK441.out) ?_
                          clear hK K
                          (try simp only [ptS, stA, st0, stS])
                          refine tkS (i := 8) (v := ?_) (by simp only [opA, opS, op0]; exact rfl) (by kernel_rfl) (by kernel_rfl) HK441.out ?_ ?_
                          rotate_left
                          · intro w hS
                            (try dsimp only at hS); first | (go_simp; done) | (go_simp; with_reducible rfl)
                          (try simp only [ptS, stA, st0, stS])
                          refine wpAnyP_ready (rs := [9]) (by kernel_rfl) (by simp) ?_
                          refine (AllReadyP.cons (by simp only [opA, opS, op0]; exact rfl) (fun K hK => ?_) AllReadyP.nil)
                          rw [if_pos (by kernel_rfl)]
                          have HC1 := Lib.hid (handlers_any (body_all 3) MB d prm422 left422 l422 sa m5 sc w441 HMK441.out HDO422.out HDF.out (HAO.out w441 HMR441.out) ((HRM.out.1 w441 HMR441.out).keep (fun _ _ => rfl) HMN5.out.2.2) HMN5.out.2.1 (by
                            obtain ⟨_, _, _, e, _, hr⟩ := HCW.out w441 HMR441.out
                            injection e with e1 e2 e3
                            subst e1 e2 e3
                            exact rowOf_take (code_to (by have := HFL10.out; have := HW10.out; omega) hr) HMN5.out.1 (Nat.le_trans HMN5.out.2.1 (by decide)) (by decide)))
                          go_simp
                          refine HC1.out.mono ?_
                          rintro e w442 ⟨v442, prm442, left442, l442, rfl, hhs, hmk, hdo, hg⟩
                          have HHS442 := Lib.hid hhs
                          have HMK442 := Lib.hid hmk
                          have HDO442 := Lib.hid hdo
                          have HMR442 := Lib.hid (more_own HMR441.out hg HMW.out)
                          have HXB442 := Lib.hid (show w442.heap[XB]? = some (.cells #[.int .u8 p, .int .u8 q, .slice ha hn hc, .slice sa sn sc] 191) from (hg.block XB (blk_ltD HXB441.out) (fun e => by injection e with e; exact HXM.out e)).trans HXB441.out)
                          have HCB442 := Lib.hid (show w442.heap[CB]? = some (.cells #[.string (abcB k), .slice va vn vc, .slice ya yn yc] 122) from (hg.block CB (blk_ltD HCB441.out) (fun e => by injection e with e; exact HCNM.out e)).trans HCB441.out)
                          have HVS442 := Lib.hid (HVS441.out.keep verC_keep (fun z hz1 hz2 => hg.block z hz2 (fun e => by injection e with e; omega)))
                          have HSZ442 := Lib.hid (show MB + 1 ≤ w441.heap.size from HMK441.out.lt)
                          have HK442 := Lib.hid (show w442.cell? ⟨CB, 2, none⟩ = some (.slice ya yn yc) ∧ w442.cell? ⟨XB, 3, none⟩ = some (.slice sa sn sc) from ⟨by simp [World.cell?, HCB442.out], by simp [World.cell?, HXB442.out]⟩)
                          obtain ⟨va442, vn442, vc442, hsh, _⟩ := hhs.at
                          subst hsh
                          clear hhs hmk hdo hg HC1
                          try go_wp2_with fail
                          refine hK.out _ _ (fun _ => HK442.out) ?_
                          clear hK K
                          (try simp only [ptS, stA, st0, stS])
                          refine wpAnyP_ready (rs := [10]) (by kernel_rfl) (by simp) ?_
                          refine (AllReadyP.cons (by simp only [opA, opS, op0]; exact rfl) (fun K hK => ?_) AllReadyP.nil)
                          rw [if_pos (by kernel_rfl)]
                          have HA443 := Lib.hid (more_allocD w442 (.cells #[.slice va442 vn442 vc442] 123))
                          have HL443 := Lib.hid (alloc_last w442 (.cells #[.slice va442 vn442 vc442] 123))
                          obtain ⟨LB, HLE⟩ : ∃ B, Hid (B = w442.heap.size) := ⟨_, Lib.hid rfl⟩
                          go_simp
                          rw [← HLE.out] at HL443
                          try rw [← HLE.out]
                          generalize w442.alloc (.cells #[.slice va442 vn442 vc442] 123) = w443 at *
                          have HMR443 := Lib.hid (more_trans HMR442.out HA443.out)
                          have HXB443 := Lib.hid (show w443.heap[XB]? = some (.cells #[.int .u8 p, .int .u8 q, .slice ha hn hc, .slice sa sn sc] 191) from (HA443.out.block (blk_ltD HXB442.out)).trans HXB442.out)
                          have HCB443 := Lib.hid (show w443.heap[CB]? = some (.cells #[.string (abcB k), .slice va vn vc, .slice ya yn yc] 122) from (HA443.out.block (blk_ltD HCB442.out)).trans HCB442.out)
                          have HMK443 := Lib.hid (HMK442.out.more HA443.out)
                          have HVS443 := Lib.hid (HVS442.out.keep verC_keep (fun z _ hz => HA443.out.block hz))
                          have HK443 := Lib.hid (show w443.cell? ⟨CB, 2, none⟩ = some (.slice ya yn yc) ∧ w443.cell? ⟨XB, 3, none⟩ = some (.slice sa sn sc) from ⟨by simp [World.cell?, HCB443.out], by simp [World.cell?, HXB443.out]⟩)
                          refine hK.out _ _ (fun _ => HK443.out) ?_
                          clear hK K
                          (try simp only [ptS, stA, st0, stS])
                          refine wpAnyP_ready (rs := [11]) (by kernel_rfl) (by simp) ?_
                          refine (AllReadyP.cons (by simp only [opA, opS, op0]; exact rfl) (fun K hK => ?_) AllReadyP.nil)
                          obtain ⟨xs, hox, hpush⟩ := HVS443.out.open verC_keep
                          have hbs : MB + 1 ≤ w443.heap.size := HMK443.out.lt
                          have HOWV := Lib.hid (show ∀ z, (.slice ya yn yc : Value).ownBlock = some z → MB + 1 ≤ z ∧ z < w441.heap.size from fun z hz => (by obtain ⟨_, _, _, h⟩ := HVS441.out.shape; exact h z hz))
                          have hm9 : yn + 1 ≤ maxLen := by have := HYN.out; unfold maxLen; omega
                          have hm8 : (yn + 1) * 24 ≤ 140737488355328 := by have := HYN.out; omega
                          refine step_append_lies _ (by rfl) _ _ _ (by rfl) (MB + 1) 123 v0 _ 1 24 Try.underlying120 hv0 hy0 hy1 hy2 rfl (by omega) (.slice ya yn yc) yn xs (by rfl) hox ⟨LB, 0, none⟩ 1 1 [.slice va442 vn442 vc442] (by rfl) (by rfl) (World.news_of_block (cs := #[.slice va442 vn442 vc442]) (t := 123) (fr := (0, 0)) HL443.out) (by simp [Value.oneCell']) (by omega) hm9 hm8 hbs w443.heap.size (by rfl) ?_
                          intro gg cap2 w444 hown hgrow hat _
                          have hp9 := hpush w444 gg cap2 _ [.slice va442 vn442 vc442] hown hgrow hat (Nat.le_refl _) rfl ⟨_, rfl, HHS442.out.keep handC_keep (by decide) (fun b off u hb hc => ⟨⟨by have h9 : w441.heap.size ≤ b := hb; have h1 := HSZ442.out; omega, fun e => by have h9 : w441.heap.size ≤ b := hb; have h1 := (HOWV.out b e).2; omega⟩, HA443.out.cell hc⟩)⟩
                          obtain ⟨ra, rn, rc, HQ⟩ : ∃ ra rn rc, Hid (Value.slice ra rn rc = Value.slice (some ⟨gg, 0, none⟩) (yn + 1) cap2) := ⟨_, _, _, Lib.hid rfl⟩
                          rw [← HQ.out] at hp9
                          rw [← HQ.out]
                          have hrn : rn = yn + 1 := (by have e := HQ.out; injection e)
                          rw [← hrn] at hp9
                          have HRN := Lib.hid hrn
                          clear hrn
                          have HVS444 := Lib.hid hp9
                          have hbb : ∀ z, z ≤ MB → z < w443.heap.size → w444.heap[z]? = w443.heap[z]? := fun z hz hlt => hgrow.block z hlt (fun e => by have h1 := (HOWV.out z e.symm).1; omega)
                          have HMR444 := Lib.hid (show More w10 w444 from more_of (below_g HMR443.out.below hgrow (fun z hz => by have h1 := (HOWV.out z hz).1; have h2 := HMW.out; omega)))
                          have HXB444 := Lib.hid (show w444.heap[XB]? = some (.cells #[.int .u8 p, .int .u8 q, .slice ha hn hc, .slice sa sn sc] 191) from (hbb XB (by have h1 := HXC.out; have h2 := HCM.out; omega) (blk_ltD HXB443.out)).trans HXB443.out)
                          have HCB444 := Lib.hid (show w444.heap[CB]? = some (.cells #[.string (abcB k), .slice va vn vc, .slice ya yn yc] 122) from (hbb CB (Nat.le_of_lt HCM.out) (blk_ltD HCB443.out)).trans HCB443.out)
                          have HMK444 := Lib.hid (HMK443.out.keep (fun z hz => hbb z hz (by have := HMK443.out.lt; omega)))
                          have HK444 := Lib.hid (show w444.cell? ⟨CB, 2, none⟩ = some (.slice ya yn yc) ∧ w444.cell? ⟨XB, 3, none⟩ = some (.slice sa sn sc) from ⟨by simp [World.cell?, HCB444.out], by simp [World.cell?, HXB444.out]⟩)
                          clear hown hgrow hat hpush hox hp9 hbb
                          refine hK.out _ _ (fun _ => HK444.out) ?_
                          clear hK K
                          (try simp only [ptS, stA, st0, stS])
                          refine tkS (i := 12) (v := ?_) (by simp only [opA, opS, op0]; exact rfl) (by kernel_rfl) (by kernel_rfl) HK444.out ?_ ?_
                          rotate_left
                          · intro w hS
                            (try dsimp only at hS); first | (go_simp; done) | (go_simp; with_reducible rfl)
                          (try simp only [ptS, stA, st0, stS])
                          refine wpAnyP_ready (rs := [13]) (by kernel_rfl) (by simp) ?_
                          refine (AllReadyP.cons (by simp only [opA, opS, op0]; exact rfl) (fun K hK => ?_) AllReadyP.nil)
                          rw [if_pos (by kernel_rfl)]
                          have g1 := HK444.out.1
                          have fz := thaw HCB444.out 2
                          have hbc2 := cell_lt g1
                          go_simp
                          refine hK.out _ _ (gone (by kernel_rfl)) ?_
                          clear hK K
                          (try simp only [ptN])
                          refine wpAnyP_done (by kernel_rfl) ?_ _
                          have HMR445 := Lib.hid (more_own HMR444.out (set1_grown w444 CB 2 (.slice ra rn rc)) (by have h1 := HXW.out; omega))
                          have HXB445 := Lib.hid (show (w444.setCell ⟨CB, 2, none⟩ (.slice ra rn rc)).heap[XB]? = some (.cells #[.int .u8 p, .int .u8 q, .slice ha hn hc, .slice sa sn sc] 191) from (Below.heap_setCell _ _ _ _ (show XB ≠ CB from HXNC.out)).trans HXB444.out)
                          have HCB445 := Lib.hid (show (w444.setCell ⟨CB, 2, none⟩ (.slice ra rn rc)).heap[CB]? = some (.cells #[.string (abcB k), .slice va vn vc, .slice ra rn rc] 122) from setCell_heapD (o := 2) (v := .slice ra rn rc) HCB444.out)
                          have HMK445 := Lib.hid (HMK444.out.box (o := 2) (x := .slice ra rn rc) HCB444.out HCM.out)
                          have HVS445 := Lib.hid (HVS444.out.keep verC_keep (w' := w444.setCell ⟨CB, 2, none⟩ (.slice ra rn rc)) (fun z hz _ => Below.heap_setCell _ _ _ _ (show z ≠ CB from by have := HCM.out; omega)))
                          clear g1 fz hbc2 hs1 hs2 hsl
                          go_wp2_with fail
                          go_meet
                          exact ⟨ra, rn, rc, Lib.hid (by have h1 := HYN.out; have h2 := HRN.out; omega), HCB445, HVS445, HMR445⟩
                      case rest => as_aux_lemma =>
                        obtain ⟨ya, yn, yc, HYN2, HCB26, HVS26, HMR26⟩ := hcut
                        obtain ⟨w26, rfl⟩ : ∃ wo : World, wo = wc := ⟨_, rfl⟩
                        have HFB26 := Lib.hid (show w26.heap[FB]? = some (.cells #[.string ⟨#[102, 108, 101, 101, 116, 49]⟩, .slice qa nf qc, .slice ka kn kc, .slice xa k xc] 117) from (HMR26.out.block HFL10.out).trans HFB10.out)
                        have HOC26 := Lib.hid (HOC.out.keep compC_keep (fun z _ hz => HMR26.out.block hz))
                        have HOWX := Lib.hid (show ∀ z, (Value.slice xa k xc).ownBlock = some z → w9.heap.size ≤ z ∧ z < w10.heap.size from fun z hz => by obtain ⟨_, _, _, h⟩ := HOC.out.shape; exact h z hz)
                        obtain ⟨u0, hu0, ht0, ht1, ht2⟩ := info_parts Try.info122b
                        have HAL := Lib.hid (more_allocD w26 (.cells #[.string (abcB k), .slice va vn vc, .slice ya yn yc] 122))
                        have HLL := Lib.hid (alloc_last w26 (.cells #[.string (abcB k), .slice va vn vc, .slice ya yn yc] 122))
                        have HOC27 := Lib.hid (HOC26.out.keep compC_keep (w' := w26.alloc (.cells #[.string (abcB k), .slice va vn vc, .slice ya yn yc] 122)) (fun z _ hz => HAL.out.block hz))
                        obtain ⟨xs, hox, hpush⟩ := HOC27.out.open compC_keep
                        have HOX := Lib.hid hox
                        have HPU := Lib.hid hpush
                        clear hox hpush
                        have c3 : w26.cell? ⟨FB, 3, none⟩ = some (.slice xa k xc) := by simp [World.cell?, HFB26.out]
                        have b0 : w26.cell? ⟨CB, 0, none⟩ = some (.string (abcB k)) := by simp [World.cell?, HCB26.out]
                        have b1 : w26.cell? ⟨CB, 1, none⟩ = some (.slice va vn vc) := by simp [World.cell?, HCB26.out]
                        have b2 : w26.cell? ⟨CB, 2, none⟩ = some (.slice ya yn yc) := by simp [World.cell?, HCB26.out]
                        have hbf := cell_lt c3
                        have hbc := cell_lt b0
                        have hm9 : k + 1 ≤ maxLen := by have := HK3.out; unfold maxLen; omega
                        have hm8 : (k + 1) * 64 ≤ 140737488355328 := by have := HK3.out; omega
                        have hbs : w9.heap.size ≤ (w26.alloc (.cells #[.string (abcB k), .slice va vn vc, .slice ya yn yc] 122)).heap.size := by have h1 := HMR26.out.size; have h2 := HG10.out.size; have h3 := HAL.out.size; omega
                        have HNS := Lib.hid (fun (w2 : World) (gg cap2 : Nat) (h1 : w2.ownsRow w9.heap.size 122 3 (.slice (some ⟨gg, 0, none⟩) (k + 1) cap2) (k + 1) (xs ++ [.string (abcB k), .slice va vn vc, .slice ya yn yc])) (h2 : (w26.alloc (.cells #[.string (abcB k), .slice va vn vc, .slice ya yn yc] 122)).grownBy w2 (Value.slice xa k xc).ownBlock) (h3 : (Value.slice xa k xc).ownBlock = some gg ∨ gg = (w26.alloc (.cells #[.string (abcB k), .slice va vn vc, .slice ya yn yc] 122)).heap.size) =>
                          show OwnOf 122 3 CompC w9.heap.size w2 (.slice (some ⟨gg, 0, none⟩) (k + 1) cap2) (k + 1) ∧ w2.heap[FB]? = some (.cells #[.string ⟨#[102, 108, 101, 101, 116, 49]⟩, .slice qa nf qc, .slice ka kn kc, .slice xa k xc] 117) ∧ w9.grownBy w2 (some FB) from
                            ⟨HPU.out w2 gg cap2 _ _ h1 h2 h3 (Nat.le_refl _) rfl ⟨_, _, _, _, _, rfl, RowOf.keep verC_keep (by decide) (fun b off u hb hc => ⟨⟨by have h9 : MB + 1 ≤ b := hb; have h4 := HW10.out; have h5 := HG10.out.size; omega, fun e => by have h9 : MB + 1 ≤ b := hb; have h4 := (HOWX.out b e).2; have h5 := HW10.out; omega⟩, HAL.out.cell hc⟩) (HVS26.out.row verC_keep HYN2.out)⟩,
                             (h2.block FB (by have h4 := blk_ltD HFB26.out; have h5 := HAL.out.size; omega) (fun e => by have h4 := (HOWX.out FB e.symm).1; have h5 := HFL9.out; omega)).trans ((HAL.out.block (blk_ltD HFB26.out)).trans HFB26.out),
                             grow_own (grow_trans HG10.out (grow_more (more_trans HMR26.out HAL.out))) h2 (fun z hz => (HOWX.out z hz).1)⟩)
                        go_wp2_with (at_builtin; refine wpList_append_lies _ rfl _ _ _ rfl w9.heap.size 122 u0 _ 3 64 Try.underlying115 hu0 ht0 ht1 ht2 rfl (by omega) (.slice xa k xc) k xs rfl HOX.out ⟨w26.heap.size, 0, none⟩ 1 1 [.string (abcB k), .slice va vn vc, .slice ya yn yc] rfl rfl (World.news_of_block (cs := #[.string (abcB k), .slice va vn vc, .slice ya yn yc]) (t := 122) (fr := (0, 0)) HLL.out) (by simp [Value.oneCell']) (by omega) hm9 hm8 hbs _ rfl ?_; intro gg cap2 w2 hown2 hgrow2 hat2 hlt2; have HNX := Lib.hid (HNS.out w2 gg cap2 hown2 hgrow2 hat2); clear hown2 hgrow2 hat2; obtain ⟨ra, rn, rc, HQ⟩ : ∃ ra rn rc, Hid (Value.slice ra rn rc = Value.slice (some ⟨gg, 0, none⟩) (k + 1) cap2) := ⟨_, _, _, Lib.hid rfl⟩; rw [← HQ.out] at HNX; rw [← HQ.out]; have g1 : w2.cell? ⟨FB, 3, none⟩ = some (.slice xa k xc) := (by simp [World.cell?, HNX.out.2.1]); have fz := thaw HNX.out.2.1 3; have hbc2 := cell_lt g1; have hlt9 := HLT.out; have hn39 := HN3.out; have hltj : (k : Int) < (n : Int) := (by omega))
                        clear c3 b0 b1 b2 hbf hbc
                        go_roundw
                        case rel => (have e := HQ.out; injection e with _ e2 _; subst e2; exact ⟨k + 1, ra, rc, by have := HLT.out; omega, by go_num, Lib.hid (grow_trans HNX.out.2.2 (set1_grown w2 FB 3 (.slice ra (k + 1) rc))), Lib.hid (setCell_heapD (o := 3) (v := .slice ra (k + 1) rc) HNX.out.2.1), Lib.hid (HNX.out.1.keep compC_keep (fun z hz _ => Below.heap_setCell _ _ _ _ (show z ≠ FB from by have := HFL9.out; omega)))⟩)
                        case measure => have := HLT.out; simp [intOf]; omega
              · have hkn : k = n := by omega
                subst hkn
                go_wp2_with fail
                go_meet
                exact ⟨xa, xc, HG10, HFB10, HOC⟩
          case rest => as_aux_lemma =>
            obtain ⟨xa, xc, HG20, HFB20, HOC20⟩ := hcut
            obtain ⟨w20, rfl⟩ : ∃ wo : World, wo = wc := ⟨_, rfl⟩
            have c0 : w20.cell? ⟨FB, 0, none⟩ = some (.string ⟨#[102, 108, 101, 101, 116, 49]⟩) := by simp [World.cell?, HFB20.out]
            have c1 : w20.cell? ⟨FB, 1, none⟩ = some (.slice qa nf qc) := by simp [World.cell?, HFB20.out]
            have c2 : w20.cell? ⟨FB, 2, none⟩ = some (.slice ka kn kc) := by simp [World.cell?, HFB20.out]
            have c3 : w20.cell? ⟨FB, 3, none⟩ = some (.slice xa n xc) := by simp [World.cell?, HFB20.out]
            have HRB20 := Lib.hid ((HG20.out.block RB (by have := HFL9.out; have := HRF.out; omega) (fun e => by have := HRF.out; injection e with e; omega)).trans HPB9.out.2)
            have r0 : w20.cell? ⟨RB, 0, none⟩ = some (.string ⟨#[]⟩) := by simp [World.cell?, HRB20.out]
            have z0 := thaw HRB20.out 0
            have r1 : w20.cell? ⟨RB, 1, none⟩ = some (.slice none 0 0) := by simp [World.cell?, HRB20.out]
            have z1 := thaw HRB20.out 1
            have r2 : w20.cell? ⟨RB, 2, none⟩ = some (.slice none 0 0) := by simp [World.cell?, HRB20.out]
            have z2 := thaw HRB20.out 2
            have r3 : w20.cell? ⟨RB, 3, none⟩ = some (.slice none 0 0) := by simp [World.cell?, HRB20.out]
            have z3 := thaw HRB20.out 3
            have hbf := cell_lt c0
            have hbr := cell_lt r0
            go_wp2_with fail
            have hk : ∀ b, b ≠ RB → ((((w20.setCell ⟨RB, 0, none⟩ (.string ⟨#[102, 108, 101, 101, 116, 49]⟩)).setCell ⟨RB, 1, none⟩ (.slice qa nf qc)).setCell ⟨RB, 2, none⟩ (.slice ka kn kc)).setCell ⟨RB, 3, none⟩ (.slice xa n xc)).heap[b]? = w20.heap[b]? := fun b hb => set4_otherD _ _ _ _ hb
            have HW : ((((w20.setCell ⟨RB, 0, none⟩ (.string ⟨#[102, 108, 101, 101, 116, 49]⟩)).setCell ⟨RB, 1, none⟩ (.slice qa nf qc)).setCell ⟨RB, 2, none⟩ (.slice ka kn kc)).setCell ⟨RB, 3, none⟩ (.slice xa n xc)).heap[RB]? = some (.cells #[.string ⟨#[102, 108, 101, 101, 116, 49]⟩, .slice qa nf qc, .slice ka kn kc, .slice xa n xc] 117) := setCell_heapD (setCell_heapD (setCell_heapD (setCell_heapD HRB20.out)))
            refine bodyPost_ret (v := .agg #[.string ⟨#[102, 108, 101, 101, 116, 49]⟩, .slice qa nf qc, .slice ka kn kc, .slice xa n xc]) (results_cell_row Try.results60 _ _ RB 117 _ (0, 0) _ rfl HW Try.underlying117 rfl (by kernel_rfl)) rfl ?_
            refine ⟨_, _, _, _, _, _, _, rfl, RowOf.keep compC_keep (by decide) (fun b off u hb hc => ⟨trivial, ?_⟩) (HOC20.out.row compC_keep HN13.out.2), ?_⟩
            · have h9 : w9.heap.size ≤ b := hb
              rw [World.cell?_of_block (w := w20) (a := ⟨b, off, none⟩) (hk b (by have := HRF.out; have := HFL9.out; omega))]
              exact hc
            · have hRB : w.heap.size ≤ RB := by have h1 := HRE.out; have h2 := HPE.out; omega
              have hFB : w.heap.size ≤ FB := by have := HRF.out; omega
              exact (below_g HBW9.out HG20.out (fun z e => by injection e with e; omega)).setCell hRB _ |>.setCell hRB _ |>.setCell hRB _ |>.setCell hRB _
end Go.Proofs.Ytekhoanjpnjaeaa

