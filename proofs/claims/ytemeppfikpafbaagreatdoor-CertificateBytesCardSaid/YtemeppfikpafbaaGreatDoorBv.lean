/- Texts RdpG, EbyG, EqbG, laid together. -/
import Derived.Test.YtemeppfikpafbaaGreatDoorBu
/- certificate.Read: the plain laws of its end. -/
namespace Go.Proofs.YtemeppfikpafbaaGreatDoor
open Go.RowKit
/-- No certificate has these bytes. -/
def NoCert (l : List Int) : Prop := ∀ fl c, fl.length = 32 → (∀ p ∈ c.S, CgOk p.2) → AscG c.S → c.S.length ≤ 96 → (∀ p ∈ c.S, ∀ n ∈ p.2.l, In64 n) → (∀ p ∈ c.H, ∀ a ∈ p.2.al, ∀ n ∈ a.2.l, In64 n) → Chk c 0 → encCt fl c ≠ l
theorem noCert_of {l : List Int} (h : rCert l = none) : NoCert l := fun fl c h1 h2 h3 h4 h5 h6 h7 e => by
  have := rCert_enc h1 h7 h2 h3 h4 h5 h6
  rw [e, h] at this
  cases this
theorem noCert_chk {l fl : List Int} {d : Cert} (h : rCert l = some (rcOf fl d)) (h0 : 0 ≤ d.hor) (h1 : 0 ≤ d.wit) (h2 : 0 ≤ d.spl) (hk : ¬ Chk d 0) : NoCert l := fun fl' c k1 k2 k3 k4 k5 k6 k7 e => by
  have h9 := rCert_enc k1 k7 k2 k3 k4 k5 k6
  rw [e, h] at h9
  exact hk (rcOf_chk (c := c) (fl := fl') (d := d) (fl' := fl) (Option.some.inj h9).symm h0 h1 h2 k7)
theorem noCert_enc {l fl : List Int} {d : Cert} (h : rCert l = some (rcOf fl d)) (hk : encCt fl d ≠ l) : NoCert l := fun fl' c k1 k2 k3 k4 k5 k6 k7 e => by
  have h9 := rCert_enc k1 k7 k2 k3 k4 k5 k6
  rw [e, h] at h9
  exact hk ((rcOf_enc (c := c) (fl := fl') (d := d) (fl' := fl) (Option.some.inj h9).symm).symm.trans e)
/-- One hold more. -/
theorem hoP_push {o : List HV} {hs : List (M3 × List Ar)} {rh : M3 × List Ar} {p : HV} (h : o.map hoP = hs) (h1 : p.2.m = rh.1) (h2 : p.2.al.map (·.2) = rh.2) : (o ++ [p]).map hoP = hs ++ [rh] := by
  rw [List.map_append, h]
  congr 1
  show [(p.2.m, p.2.al.map (·.2))] = [rh]
  rw [h1, h2]
/-- Read in plain words, step by step. -/
theorem rCert_eq {l : List Int} {s0 s1 s2 s3 s4 n1 sU n5 sT n6 n7 : RS} {fl qb sb : List Int} {nh u1 u5 u6 u7 : Nat} {S : List Cg} {ks : List K4} {hs : List (M3 × List Ar)}
    (h0 : (rByte (l, 0)).1 = 1) (h1 : (rByte (l, 0)).2 = s0) (h2 : (rBys 32 s0).1 = fl) (h3 : (rBys 32 s0).2 = s1) (h4 : (rBytes 2000 s1).1 = qb) (h5 : (rBytes 2000 s1).2 = s2) (h6 : (rUint 200 s2).1 = nh) (h7 : (rUint 200 s2).2 = s3)
    (h8 : (rBytes l.length s3).1 = sb) (h9 : (rBytes l.length s3).2 = s4) (h10 : rSet sb = some S) (h11 : (rUint 3 s4).1 = u1) (h12 : (rUint 3 s4).2 = n1) (h13 : (rKeys u1 n1).1 = ks) (h14 : (rKeys u1 n1).2 = sU)
    (h15 : (rUint 2 sU).1 = u5) (h16 : (rUint 2 sU).2 = n5) (h17 : (rHolds u5 n5).1 = hs) (h18 : (rHolds u5 n5).2 = sT) (h19 : (rUint 2 sT).1 = u6) (h20 : (rUint 2 sT).2 = n6) (h21 : (rUint 200 n6).1 = u7) (h22 : (rUint 200 n6).2 = n7) :
    rCert l = if rEnd n7 = 0 then some ⟨fl, qb, nh, S, ks, hs, u6, u7⟩ else none := by
  unfold rCert
  simp only [h0, if_true, h1, h2, h3, h4, h5, h6, h7, h8, h9, h10, h11, h12, h13, h14, h15, h16, h17, h18, h19, h20, h21, h22]
theorem rAr_64 {s : RS} (h : Byts s.1) : (∀ n ∈ (rAr s).1.l, In64 n) ∧ Byts (rAr s).2.1 := rInts_64 (rUint_byts 4 (rUint_byts 2147483647 (rUint_byts 200 h))) _
theorem rArs_64 {s : RS} (h : Byts s.1) : ∀ n, (∀ a ∈ (rArs n s).1, ∀ x ∈ a.l, In64 x) ∧ Byts (rArs n s).2.1
  | 0 => ⟨fun a ha => (by cases ha), h⟩
  | n + 1 => by
    have ih := rArs_64 h n
    have h2 := rAr_64 ih.2
    refine ⟨fun a ha => ?_, h2.2⟩
    rcases List.mem_append.1 (show a ∈ (rArs n s).1 ++ [(rAr (rArs n s).2).1] from ha) with k | k
    · exact ih.1 a k
    · rw [List.mem_singleton] at k; subst k; exact h2.1
theorem rHold_64 {s : RS} (h : Byts s.1) : (∀ a ∈ (rHold s).1.2, ∀ x ∈ a.l, In64 x) ∧ Byts (rHold s).2.1 := rArs_64 (rUint_byts 2 (rUint_byts 2147483647 (rUint_byts 2147483647 (rUint_byts 2147483647 h)))) _
theorem rHolds_64 {s : RS} (h : Byts s.1) : ∀ n, (∀ p ∈ (rHolds n s).1, ∀ a ∈ p.2, ∀ x ∈ a.l, In64 x) ∧ Byts (rHolds n s).2.1
  | 0 => ⟨fun a ha => (by cases ha), h⟩
  | n + 1 => by
    have ih := rHolds_64 h n
    have h2 := rHold_64 ih.2
    refine ⟨fun a ha => ?_, h2.2⟩
    rcases List.mem_append.1 (show a ∈ (rHolds n s).1 ++ [(rHold (rHolds n s).2).1] from ha) with k | k
    · exact ih.1 a k
    · rw [List.mem_singleton] at k; subst k; exact h2.1
theorem hoP_64 {o : List HV} {hs : List (M3 × List Ar)} (h : o.map hoP = hs) (k : ∀ p ∈ hs, ∀ a ∈ p.2, ∀ x ∈ a.l, In64 x) : ∀ p ∈ o, ∀ a ∈ p.2.al, ∀ n ∈ a.2.l, In64 n := fun p hp a ha => by
  subst h
  exact k _ (List.mem_map.2 ⟨p, hp, rfl⟩) a.2 (List.mem_map.2 ⟨a, ha, rfl⟩)
/-- A certificate in memory, its rows in blocks of S, in an older world. -/
structure CertS (S : Nat → Prop) (w : World) (arr : Array Value) (c : Cert) : Prop where
  size : arr.size = 39
  q : arr[32]? = some (.string c.q)
  hor : arr[33]? = some (.int .i64 c.hor)
  sv : arr[34]? = some c.sv
  uv : arr[35]? = some c.uv
  hv : arr[36]? = some c.hv
  wit : arr[37]? = some (.int .i64 c.wit)
  spl : arr[38]? = some (.int .i64 c.spl)
  set : SetAt S w c.sv c.S
  und : Row S w 4 c.U.length c.uv (flatC kC c.U)
  hol : Row S w 4 c.H.length c.hv (flatC hC c.H)
  each : ∀ p ∈ c.H, HAt S w p
  ulen : c.U.length ≤ 16
  hlen : c.H.length ≤ 16
theorem CertS.cert {S : Nat → Prop} {w w' : World} {arr : Array Value} {c : Cert} (h : CertS S w arr c) (hw : ∀ b, S b → b < w.heap.size → w'.heap[b]? = w.heap[b]?) : CertAt w' arr c :=
  ⟨h.size, h.q, h.hor, h.sv, h.uv, h.hv, h.wit, h.spl, h.set.mono (fun _ _ _ => trivial) hw, (h.und.lt (by omega)).mono (fun _ _ => trivial) (fun b off x hb hc => by
    rw [← hc]; exact World.cell?_of_block (w := w) (a := ⟨b, off, none⟩) (hw b hb.1 hb.2)), (h.hol.lt (by omega)).mono (fun _ _ => trivial) (fun b off x hb hc => by
    rw [← hc]; exact World.cell?_of_block (w := w) (a := ⟨b, off, none⟩) (hw b hb.1 hb.2)), fun p hp => (h.each p hp).mono (fun _ _ _ => trivial) hw, h.ulen, h.hlen⟩
theorem CertS.ones {S : Nat → Prop} {w : World} {arr : Array Value} {c : Cert} (h : CertS S w arr c) (k : ∀ i, i < 32 → ∃ n : Int, arr[i]? = some (.int .u8 n)) : arr.all (·.oneCell') = true := by
  obtain ⟨a1, c1, e1, _⟩ := h.set.row.shape
  obtain ⟨a2, c2, e2, _⟩ := h.und.shape
  obtain ⟨a3, c3, e3, _⟩ := h.hol.shape
  rw [Array.all_eq_true_iff_forall_mem]
  intro v hv
  obtain ⟨i, hi, e⟩ := Array.getElem_of_mem hv
  have hsz := h.size
  have hg : arr[i]? = some v := by rw [← e]; exact Array.getElem?_eq_getElem hi
  by_cases h32 : i < 32
  · obtain ⟨n, hn⟩ := k i h32
    rw [hn] at hg; cases hg; rfl
  · have hj : i = 32 ∨ i = 33 ∨ i = 34 ∨ i = 35 ∨ i = 36 ∨ i = 37 ∨ i = 38 := by omega
    rcases hj with rfl | rfl | rfl | rfl | rfl | rfl | rfl
    · rw [h.q] at hg; cases hg; rfl
    · rw [h.hor] at hg; cases hg; rfl
    · rw [h.sv, e1] at hg; cases hg; rfl
    · rw [h.uv, e2] at hg; cases hg; rfl
    · rw [h.hv, e3] at hg; cases hg; rfl
    · rw [h.wit] at hg; cases hg; rfl
    · rw [h.spl] at hg; cases hg; rfl
end Go.Proofs.YtemeppfikpafbaaGreatDoor

/- The bytes of a certificate are bytes, and few. -/
namespace Go.Proofs.YtemeppfikpafbaaGreatDoor
open Go.RowKit
theorem Byts.append {l m : List Int} (h : Byts l) (k : Byts m) : Byts (l ++ m) := fun b hb => (List.mem_append.1 hb).elim (h b) (k b)
theorem Byts.nil : Byts [] := fun b hb => by cases hb
theorem Byts.cons {x : Int} {l : List Int} (h0 : 0 ≤ x ∧ x ≤ 255) (h : Byts l) : Byts (x :: l) := fun b hb => (List.mem_cons.1 hb).elim (fun e => e ▸ h0) (h b)
theorem Byts.flat {α : Type} {f : α → List Int} : ∀ {l : List α}, (∀ x ∈ l, Byts (f x)) → Byts (l.flatMap f)
  | [], _ => by rw [List.flatMap_nil]; exact Byts.nil
  | x :: r, h => by
    rw [List.flatMap_cons]
    exact (h x (by simp)).append (Byts.flat fun y hy => h y (List.mem_cons_of_mem _ hy))
theorem encU_byts (v : Nat) : Byts (encU v) := by
  induction v using Nat.strongRecOn with
  | _ v ih =>
    by_cases h : v < 128
    · rw [encU_lt h]; exact Byts.cons (by omega) Byts.nil
    · rw [encU_ge h]; exact Byts.cons (by omega) (ih (v / 128) (by omega))
theorem qB_byts (q : ByteArray) : Byts (qB q) := fun b hb => by
  unfold qB at hb
  obtain ⟨x, _, rfl⟩ := List.mem_map.1 hb
  have := x.toNat_lt
  omega
theorem encK_byts {k : K4} (h : KeyOk k) : Byts (encK k) := Byts.cons ⟨by have := h.k0; omega, by have := h.k1; omega⟩ (((encU_byts _).append (encU_byts _)).append (encU_byts _))
theorem encC_byts {x : Cg} (h : CgOk x) : Byts (encC x) := Byts.cons ⟨by have := h.key.k0; omega, by have := h.key.k1; omega⟩ ((Byts.flat fun _ _ => encU_byts _).append (Byts.flat fun _ _ => encU_byts _))
theorem encS_byts {l : List Cg} (h : ∀ x ∈ l, CgOk x) : Byts (encS l) := (encU_byts _).append (Byts.flat fun x hx => encC_byts (h x hx))
theorem encAr_byts (a : AV) : Byts (encAr a) := (((encU_byts _).append (encU_byts _)).append (encU_byts _)).append (Byts.flat fun _ _ => encU_byts _)
theorem encHo_byts (p : HV) : Byts (encHo p) := ((((encU_byts _).append (encU_byts _)).append (encU_byts _)).append (encU_byts _)).append (Byts.flat fun a _ => encAr_byts a)
theorem encCt_byts {fl : List Int} {c : Cert} (hf : Byts fl) (hok : ∀ p ∈ c.S, CgOk p.2) (hk : Chk c 0) : Byts (encCt fl c) := by
  obtain ⟨_, _, _, _, k5⟩ := chk0 hk
  have h1 : Byts (encS (c.S.map (·.2))) := encS_byts fun x hx => by
    obtain ⟨p, hp, rfl⟩ := List.mem_map.1 hx
    exact hok p hp
  have h2 : Byts (c.U.flatMap encK) := Byts.flat fun k hm => encK_byts (key_of_hs hok (k5 k hm))
  have h3 : Byts (c.H.flatMap encHo) := Byts.flat fun p _ => encHo_byts p
  have h0 : Byts [1] := Byts.cons (by omega) Byts.nil
  unfold encCt encCs
  exact (((((((((((h0.append hf).append (encU_byts _)).append (qB_byts _)).append (encU_byts _)).append (encU_byts _)).append h1).append (encU_byts _)).append h2).append (encU_byts _)).append h3).append (encU_byts _)).append (encU_byts _)
theorem rBys_byts {s : RS} (h : Byts s.1) : ∀ n, Byts (rBys n s).1 ∧ Byts (rBys n s).2.1
  | 0 => ⟨Byts.nil, h⟩
  | n + 1 => by
    have ih := rBys_byts h n
    have h2 := rByte_byts ih.2
    exact ⟨ih.1.append (Byts.cons ⟨h2.1, h2.2.1⟩ Byts.nil), h2.2.2⟩
/-- A bound of their number. -/
theorem encCt_len {fl : List Int} {c : Cert} (hf : fl.length = 32) (hsl : c.S.length ≤ 96) (hok : ∀ p ∈ c.S, CgOk p.2) (hi : ∀ p ∈ c.S, ∀ n ∈ p.2.l, In64 n) (hh : ∀ p ∈ c.H, ∀ a ∈ p.2.al, ∀ n ∈ a.2.l, In64 n) (hk : Chk c 0) : (encCt fl c).length ≤ 100000 := by
  obtain ⟨k1, k2, k3, ⟨_, k4⟩, k5⟩ := chk0 hk
  unfold R2 at k2
  unfold R1 at k3
  have h1 := encS_len hsl hok hi
  have hq := qB_len c.q
  have hU : (c.U.flatMap encK).length ≤ c.U.length * 31 := flat_len_le fun k hm => by
    have hk := key_of_hs hok (k5 k hm)
    unfold encK
    have ha := encU_len k.a.toNat (by have := hk.a1; omega)
    have hb := encU_len k.b.toNat (by have := key_small hk; omega)
    have hn := encU_len k.n.toNat (by have := hk.n1; omega)
    simp only [List.length_cons, List.length_append]
    omega
  have hH : (c.H.flatMap encHo).length ≤ c.H.length * 240 := flat_len_le fun p hp => by
    have ho := k4.ok p hp
    have ht := k4.tk p hp
    unfold hoOkb at ho
    rw [Bool.and_eq_true, Bool.and_eq_true, decide_eq_true_eq] at ho
    obtain ⟨m1, m2, m3⟩ := ho
    unfold msgOkb at m1
    rw [Bool.and_eq_true, Bool.and_eq_true, decide_eq_true_eq, decide_eq_true_eq, decide_eq_true_eq] at m1
    have he := arOkb_each (by omega) m3
    have hA : (p.2.al.flatMap encAr).length ≤ p.2.al.length * 70 := flat_len_le fun a ha => by
      obtain ⟨e1, e2, e3, e4⟩ := he a ha
      have e5 := ht a ha
      unfold encAr
      have b1 := encU_len a.2.tk.toNat (by omega)
      have b2 := encU_len a.2.hd.toNat (by omega)
      have b3 := encU_len a.2.l.length (by omega)
      have b4 : (a.2.l.flatMap fun v => encU (zz v)).length ≤ a.2.l.length * 10 := flat_len_le fun v hv => encU_len _ (zz_lt (hh p hp a ha v hv).1 (hh p hp a ha v hv).2)
      simp only [List.length_append]
      omega
    unfold encHo
    have b1 := encU_len p.2.m.f.toNat (by omega)
    have b2 := encU_len p.2.m.t.toNat (by omega)
    have b3 := encU_len p.2.m.n.toNat (by omega)
    have b4 := encU_len p.2.al.length (by omega)
    simp only [List.length_append]
    omega
  have a1 := encU_len (qB c.q).length (by omega)
  have a2 := encU_len c.hor.toNat (by omega)
  have a3 := encU_len (encS (c.S.map (·.2))).length (by omega)
  have a4 := encU_len c.U.length (by omega)
  have a5 := encU_len c.H.length (by omega)
  have a6 := encU_len c.wit.toNat (by omega)
  have a7 := encU_len c.spl.toNat (by omega)
  unfold encCt encCs
  simp only [List.length_append, List.length_singleton]
  omega
end Go.Proofs.YtemeppfikpafbaaGreatDoor

/- bytes.Equal (112). -/
namespace Go.Proofs.YtemeppfikpafbaaGreatDoor
open Go.RowKit
theorem conv_str (w : World) (m : List Int) (v : Value) (hm : Byts m) (h : ByG w m v) : ∃ q : ByteArray, qB q = m ∧ ∀ W, More w W → (convert 26 9 v).run Tryz.prog W = .ok (.string q) W := by
  obtain ⟨a, cap, rfl, _⟩ := h.row.shape
  have e8 : ∀ b ∈ m, ((UInt8.ofNat b.toNat).toNat : Int) = b := fun b hb => by
    have := hm b hb
    have h2 : (UInt8.ofNat b.toNat).toNat = b.toNat % 256 := by first | rfl | simp
    rw [h2]
    omega
  have em : (m.map fun b => UInt8.ofNat b.toNat).map (fun x => (x.toNat : Int)) = m := by
    rw [List.map_map]
    conv => rhs; rw [← List.map_id m]
    exact List.map_congr_left (fun b hb => e8 b hb)
  refine ⟨⟨(m.map fun b => UInt8.ofNat b.toNat).toArray⟩, (by unfold qB; exact em), fun W hW => ?_⟩
  by_cases hn : m = []
  · subst hn
    cases a with
    | none =>
      rw [run_convert_bytes_string W 26 9 5 none _ _ Tryz.underlying26 Tryz.underlying5 Tryz.underlying9]
      simp [Conv.bytesToString]
      rfl
    | some ad =>
      exact run_convert_bytes_back (P := Tryz.prog) W 26 9 5 ad cap [] Tryz.underlying26 Tryz.underlying5 Tryz.underlying9 (fun j hj => absurd hj (by simp))
  · have hpos : 0 < m.length := List.length_pos_iff.2 hn
    obtain ⟨b, off, rfl, _, _, hc⟩ := h.row.at (by omega)
    have hr := run_convert_bytes_back (P := Tryz.prog) W 26 9 5 ⟨b, off, none⟩ cap (m.map fun b => UInt8.ofNat b.toNat) Tryz.underlying26 Tryz.underlying5 Tryz.underlying9 (fun j hj => by
      have hj2 : j < m.length := by simpa using hj
      rw [Addr.add_mid, hW.cell (hc j (.int .u8 m[j]) (by simp [bV, hj2])), List.getElem_map, e8 _ (List.getElem_mem hj2)])
    rw [List.length_map] at hr
    exact hr
theorem qB_inj {p q : ByteArray} (h : qB p = qB q) : p = q := by
  unfold qB at h
  have h2 := (List.map_inj_right (fun (a b : UInt8) (e : (a.toNat : Int) = b.toNat) => UInt8.toNat_inj.1 (by omega))).1 h
  obtain ⟨⟨a⟩⟩ := p
  obtain ⟨⟨b⟩⟩ := q
  have h3 : a = b := h2
  rw [h3]
theorem bytes_beq (p q : ByteArray) : (p == q) = decide (p = q) := by
  by_cases h : p = q
  · subst h
    rw [decide_eq_true rfl, beq_toListBytes]
    exact beq_self_eq_true _
  · rw [decide_eq_false h, beq_toListBytes]
    rw [beq_eq_false_iff_ne]
    intro e
    apply h
    rw [ByteArray.toList_eq, ByteArray.toList_eq] at e
    obtain ⟨⟨a⟩⟩ := p
    obtain ⟨⟨b⟩⟩ := q
    have e2 : a = b := e
    rw [e2]
theorem qB_beq (p q : ByteArray) : (p == q) = decide (qB p = qB q) := by
  rw [bytes_beq]
  by_cases h : p = q
  · subst h; simp
  · rw [decide_eq_false (fun e => h (qB_inj e)), decide_eq_false h]
set_option maxRecDepth 100000 in
theorem equal112_any (l m : List Int) (v x : Value) (w : World) (hl : Byts l) (hm : Byts m) (h : ByG w l v) (hx : ByG w m x) :
    Calls Tryz.prog 38 #[v, x] w fun e w' => e = .returned (.bool (decide (l = m))) ∧ w' = w := by
  obtain ⟨p, hp, hcp⟩ := conv_str w l v hl h
  obtain ⟨q, hq, hcq⟩ := conv_str w m x hm hx
  have h1 := hcp w (World.grownBy.refl _ _)
  have h2 := hcq w (World.grownBy.refl _ _)
  clear hcp hcq
  obtain ⟨a, cap, rfl, _⟩ := h.row.shape
  obtain ⟨xa, xc, rfl, _⟩ := hx.row.shape
  have HE := Lib.hid (show decide (qB p = qB q) = decide (l = m) by rw [hp, hq])
  have HD := Lib.hid (show (p.toList == q.toList) = decide (qB p = qB q) by rw [← beq_toListBytes]; exact qB_beq p q)
  clear h hx hp hq hl hm
  go_enter Tryz.func38, Tryz.ntmps38
  go_wp2_with fail
  go_ret
  exact ⟨by rw [← HE.out, ← HD.out]; rfl, rfl⟩
end Go.Proofs.YtemeppfikpafbaaGreatDoor

