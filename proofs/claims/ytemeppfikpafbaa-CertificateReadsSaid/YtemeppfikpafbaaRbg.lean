/- Texts RtpG, RtcG, RcoG, RdpG, EbyG, EqbG, laid together. -/
import Derived.Test.YtemeppfikpafbaaRbe
import Derived.Test.YtemeppfikpafbaaRbf
/- Numbers, choices and holds that were encoded are read back. -/
namespace Go.Proofs.Ytemeppfikpafbaa
open Go.RowKit
theorem zz_uz (u : Nat) : zz (uz u) = u := by
  unfold zz uz
  by_cases h : u % 2 = 1
  · rw [if_pos h, if_pos (by omega)]; omega
  · rw [if_neg h, if_neg (by omega)]; omega
theorem uz_zz (x : Int) : uz (zz x) = x := by
  unfold zz uz
  by_cases h : x < 0
  · rw [if_pos h, if_pos (by omega)]; omega
  · rw [if_neg h, if_neg (by omega)]; omega
theorem enc_decA (v : Nat) : ∀ (i acc : Nat) (rest : List Int), (i = 0 ∨ 0 < v) → i ≤ 9 → v * 2 ^ (7 * i) < 18446744073709551616 → decA i acc (encU v ++ rest) = some (acc + v * 2 ^ (7 * i), i + (encU v).length) := by
  induction v using Nat.strongRecOn with
  | _ v ih =>
    intro i acc rest h0 hi hf
    by_cases hv : v < 128
    · rw [encU_lt hv]
      have h9 : ¬ ((i = 9 ∧ 1 < (v : Int)) ∨ (0 < i ∧ (v : Int) = 0)) := by
        rintro (⟨e, h⟩ | ⟨h, e⟩)
        · subst e
          rw [show (2 : Nat) ^ (7 * 9) = 9223372036854775808 by decide] at hf
          omega
        · omega
      rw [List.cons_append, decA_end h9 (by omega)]
      simp
    · have hi8 : i ≤ 8 := by
        by_cases e : i = 9
        · subst e
          rw [show (2 : Nat) ^ (7 * 9) = 9223372036854775808 by decide] at hf
          omega
        · omega
      rw [encU_ge hv, List.cons_append, decA_on (by omega) (by omega), show (((v % 128 + 128 : Nat) : Int)).toNat % 128 = v % 128 by omega]
      have e1 : v % 128 * 2 ^ (7 * i) + v / 128 * (128 * 2 ^ (7 * i)) = v * 2 ^ (7 * i) := by
        rw [← Nat.mul_assoc, ← Nat.add_mul]; congr 1; omega
      rw [ih (v / 128) (by omega) (i + 1) _ rest (Or.inr (by omega)) (by omega) (by rw [pow7]; omega), pow7]
      rw [List.length_cons]
      congr 2
      · omega
      · omega
theorem enc_dec {v : Nat} (h : v < 18446744073709551616) (rest : List Int) : decU (encU v ++ rest) = some (v, (encU v).length) := by
  have := enc_decA v 0 0 rest (Or.inl rfl) (by omega) (by simpa using h)
  simpa [decU] using this
theorem rUint_enc {v most : Nat} (h : v ≤ most) (hv : v < 18446744073709551616) (r : List Int) : rUint most (encU v ++ r, 0) = (v, (r, 0)) := by
  unfold rUint
  rw [if_pos rfl]
  dsimp only
  rw [enc_dec hv r]
  dsimp only
  rw [if_pos h, List.drop_left]
theorem rInt_enc {x : Int} (h : In64 x) (r : List Int) : rInt (encU (zz x) ++ r, 0) = (x, (r, 0)) := by
  unfold rInt
  rw [if_pos rfl]
  dsimp only
  rw [enc_dec (zz_lt h.1 h.2) r]
  dsimp only
  rw [uz_zz, List.drop_left]
theorem rByte_enc (b : Int) (r : List Int) : rByte (b :: r, 0) = (b, (r, 0)) := rfl
theorem rBytes_enc {m : List Int} {most : Nat} (h : m.length ≤ most) (hm : m.length < 18446744073709551616) (r : List Int) : rBytes most (encU m.length ++ m ++ r, 0) = (m, (r, 0)) := by
  unfold rBytes
  rw [if_pos rfl]
  dsimp only
  rw [List.append_assoc, enc_dec hm (m ++ r)]
  dsimp only
  rw [if_pos h, if_pos (by simp), List.drop_left, List.take_left, ← List.drop_drop, List.drop_left, List.drop_left]
theorem rInts_head (n : Nat) (s : RS) : rInts (n + 1) s = ((rInt s).1 :: (rInts n (rInt s).2).1, (rInts n (rInt s).2).2) := by
  induction n with
  | zero => rfl
  | succ n ih =>
    show ((rInts (n + 1) s).1 ++ [(rInt (rInts (n + 1) s).2).1], (rInt (rInts (n + 1) s).2).2) = _
    rw [ih]
    rfl
theorem rUs_head (most n : Nat) (s : RS) : rUs most (n + 1) s = ((rUint most s).1 :: (rUs most n (rUint most s).2).1, (rUs most n (rUint most s).2).2) := by
  induction n with
  | zero => rfl
  | succ n ih =>
    show ((rUs most (n + 1) s).1 ++ [(rUint most (rUs most (n + 1) s).2).1], (rUint most (rUs most (n + 1) s).2).2) = _
    rw [ih]
    rfl
theorem rArs_head (n : Nat) (s : RS) : rArs (n + 1) s = ((rAr s).1 :: (rArs n (rAr s).2).1, (rArs n (rAr s).2).2) := by
  induction n with
  | zero => rfl
  | succ n ih =>
    show ((rArs (n + 1) s).1 ++ [(rAr (rArs (n + 1) s).2).1], (rAr (rArs (n + 1) s).2).2) = _
    rw [ih]
    rfl
theorem rInts_enc : ∀ (l : List Int) (r : List Int), (∀ x ∈ l, In64 x) → rInts l.length (l.flatMap (fun v => encU (zz v)) ++ r, 0) = (l, (r, 0))
  | [], r, _ => rfl
  | x :: l, r, h => by
    rw [List.length_cons, rInts_head, List.flatMap_cons, List.append_assoc, rInt_enc (h x (by simp)), rInts_enc l r (fun y hy => h y (List.mem_cons_of_mem _ hy))]
theorem rUs_enc (most : Nat) : ∀ (l : List Nat) (r : List Int), (∀ x ∈ l, x ≤ most ∧ x < 18446744073709551616) → rUs most l.length (l.flatMap encU ++ r, 0) = (l, (r, 0))
  | [], r, _ => rfl
  | x :: l, r, h => by
    rw [List.length_cons, rUs_head, List.flatMap_cons, List.append_assoc, rUint_enc (h x (by simp)).1 (h x (by simp)).2, rUs_enc most l r (fun y hy => h y (List.mem_cons_of_mem _ hy))]
theorem rOne_enc {x : Cg} (h : CgOk x) (hi : ∀ v ∈ x.l, In64 v) (r : List Int) : rOne (encC x ++ r, 0) = (x, (r, 0)) := by
  obtain ⟨⟨kd, ka, kb, kn⟩, t, d, l⟩ := x
  have hl := h.args
  have h1 := h.key.a0
  have h2 := h.key.a1
  have h3 := h.key.b0
  have h4 := key_small h.key
  have h5 := h.key.n0
  have h6 := h.key.n1
  have h7 := h.t0
  have h8 := h.t1
  have h9 := h.d0
  have h10 := h.d1
  unfold topT at h8
  unfold lowD at h9
  unfold topD at h10
  dsimp only at *
  have h8' : t ≤ 200 := by split at h8 <;> omega
  have h9' : 0 ≤ d := by split at h9 <;> omega
  have h10' : d ≤ 200 := by split at h10 <;> (try split at h10) <;> (try split at h10) <;> omega
  obtain ⟨na, rfl⟩ : ∃ n : Nat, ka = n := ⟨ka.toNat, by omega⟩
  obtain ⟨nb, rfl⟩ : ∃ n : Nat, kb = n := ⟨kb.toNat, by omega⟩
  obtain ⟨nn, rfl⟩ : ∃ n : Nat, kn = n := ⟨kn.toNat, by omega⟩
  obtain ⟨nt, rfl⟩ : ∃ n : Nat, t = n := ⟨t.toNat, by omega⟩
  obtain ⟨nd, rfl⟩ : ∃ n : Nat, d = n := ⟨d.toNat, by omega⟩
  have e : encC ⟨⟨kd, na, nb, nn⟩, nt, nd, l⟩ ++ r = kd :: (([na, nb, nn, nt, nd] : List Nat).flatMap encU ++ (encU l.length ++ (l.flatMap (fun v => encU (zz v)) ++ r))) := by
    simp [encC, l6, List.flatMap_cons, List.append_assoc]
  rw [e]
  have e5 := rUs_enc 65535 [na, nb, nn, nt, nd] (encU l.length ++ (l.flatMap (fun v => encU (zz v)) ++ r)) (fun x hx => by
    simp only [List.mem_cons, List.not_mem_nil, or_false] at hx
    rcases hx with rfl | rfl | rfl | rfl | rfl <;> omega)
  unfold rOne
  rw [rByte_enc]
  dsimp only
  rw [show (5 : Nat) = ([na, nb, nn, nt, nd] : List Nat).length from rfl, e5]
  dsimp only
  rw [rUint_enc hl (by omega)]
  dsimp only
  rw [rInts_enc l r hi]
  rfl
theorem rGo_enc : ∀ (m o : List Cg), (∀ x ∈ m, CgOk x ∧ ∀ v ∈ x.l, In64 v) → (o ++ m).Pairwise (fun x y => ltK x.k y.k) → rGo m.length o (m.flatMap encC, 0) = some (o ++ m)
  | [], o, _, _ => by
    show (if rEnd ([], 0) = 0 then some o else none) = _
    rw [if_pos (show rEnd ([], 0) = 0 from rfl), List.append_nil]
  | x :: m, o, h, hp => by
    obtain ⟨hx, hxi⟩ := h x (by simp)
    have e : ((x :: m).flatMap encC, (0 : Int)) = (encC x ++ m.flatMap encC, 0) := by rw [List.flatMap_cons]
    rw [List.length_cons, e]
    show (if goodC o (rOne _) = true then rGo m.length (o ++ [(rOne _).1]) (rOne _).2 else none) = _
    rw [rOne_enc hx hxi]
    have hg : goodC o (x, (m.flatMap encC, 0)) = true := by
      unfold goodC lastOk
      rw [(cgOkb_iff x).2 hx]
      cases ho : o.getLast? with
      | none => rfl
      | some y =>
        have hy : y ∈ o := List.mem_of_getLast? ho
        have h2 : ltK y.k x.k := (List.pairwise_append.1 hp).2.2 y hy x (by simp)
        simp [h2]
    rw [if_pos hg]
    dsimp only
    rw [rGo_enc m (o ++ [x]) (fun y hy => h y (List.mem_cons_of_mem _ hy)) (by rw [List.append_assoc]; exact hp), List.append_assoc]
    rfl
/-- The bytes of a set are read as that set. -/
theorem rSet_enc {l : List Cg} (hl : l.length ≤ 96) (h : ∀ x ∈ l, CgOk x ∧ ∀ v ∈ x.l, In64 v) (hp : l.Pairwise (fun x y => ltK x.k y.k)) : rSet (encS l) = some l := by
  unfold rSet encS
  rw [rUint_enc hl (by omega)]
  exact rGo_enc l [] h hp
/-- An arrival in bounds. -/
def ArIn (a : AV) : Prop := (0 ≤ a.2.tk ∧ a.2.tk ≤ 200) ∧ (0 ≤ a.2.hd ∧ a.2.hd ≤ 2147483647) ∧ a.2.l.length ≤ 4 ∧ ∀ n ∈ a.2.l, In64 n
theorem rAr_enc {a : AV} (h : ArIn a) (r : List Int) : rAr (encAr a ++ r, 0) = (a.2, (r, 0)) := by
  obtain ⟨v, ⟨t, d, l⟩⟩ := a
  obtain ⟨h1, h2, h3, h4⟩ := h
  dsimp only at *
  obtain ⟨nt, rfl⟩ : ∃ n : Nat, t = n := ⟨t.toNat, by omega⟩
  obtain ⟨nd, rfl⟩ : ∃ n : Nat, d = n := ⟨d.toNat, by omega⟩
  have e : encAr (v, ⟨nt, nd, l⟩) ++ r = encU nt ++ (encU nd ++ (encU l.length ++ (l.flatMap (fun v => encU (zz v)) ++ r))) := by simp [encAr, List.append_assoc]
  rw [e]
  unfold rAr
  rw [rUint_enc (by omega) (by omega)]
  dsimp only
  rw [rUint_enc (by omega) (by omega)]
  dsimp only
  rw [rUint_enc h3 (by omega)]
  dsimp only
  rw [rInts_enc l r h4]
theorem rArs_enc : ∀ (l : List AV) (r : List Int), (∀ a ∈ l, ArIn a) → rArs l.length (l.flatMap encAr ++ r, 0) = (l.map (·.2), (r, 0))
  | [], r, _ => rfl
  | x :: l, r, h => by
    rw [List.length_cons, rArs_head, List.flatMap_cons, List.append_assoc, rAr_enc (h x (by simp)), rArs_enc l r (fun y hy => h y (List.mem_cons_of_mem _ hy)), List.map_cons]
/-- The bytes of a hold are read as that hold. -/
theorem rHold_enc {p : HV} (hok : hoOkb p.2 = true) (ht : ∀ a ∈ p.2.al, a.2.tk ≤ 200) (hi : ∀ a ∈ p.2.al, ∀ n ∈ a.2.l, In64 n) (r : List Int) : rHold (encHo p ++ r, 0) = ((p.2.m, p.2.al.map (·.2)), (r, 0)) := by
  obtain ⟨v, ⟨⟨f, t, n⟩, al⟩⟩ := p
  obtain ⟨p1, p1b, p2, p2b, p3, p4, p5, p6⟩ := ho_parts hok
  dsimp only at *
  have hea := arOkb_each (by omega) p6
  obtain ⟨nf, rfl⟩ : ∃ n : Nat, f = n := ⟨f.toNat, by omega⟩
  obtain ⟨nt, rfl⟩ : ∃ n : Nat, t = n := ⟨t.toNat, by omega⟩
  obtain ⟨nn, rfl⟩ : ∃ k : Nat, n = k := ⟨n.toNat, by omega⟩
  have e : encHo (v, ⟨⟨nf, nt, nn⟩, al⟩) ++ r = encU nf ++ (encU nt ++ (encU nn ++ (encU al.length ++ (al.flatMap encAr ++ r)))) := by simp [encHo, List.append_assoc]
  rw [e]
  unfold rHold
  rw [rUint_enc (by omega) (by omega)]
  dsimp only
  rw [rUint_enc (by omega) (by omega)]
  dsimp only
  rw [rUint_enc (by omega) (by omega)]
  dsimp only
  rw [rUint_enc p5 (by omega)]
  dsimp only
  rw [rArs_enc al r (fun a ha => by
    have h1 := hea a ha
    have h2 := ht a ha
    exact ⟨by omega, by omega, h1.2.2.2, hi a ha⟩)]
end Go.Proofs.Ytemeppfikpafbaa

/- certificate.Read in plain words; the bytes of a certificate are read back. -/
namespace Go.Proofs.Ytemeppfikpafbaa
open Go.RowKit
def rBys : Nat → RS → List Int × RS
  | 0, s => ([], s)
  | n + 1, s => let r := rBys n s; let q := rByte r.2; (r.1 ++ [q.1], q.2)
def rKey (s : RS) : K4 × RS :=
  let k := rByte s
  let a := rUint 2147483647 k.2
  let b := rUint 2147483647 a.2
  let n := rUint 2147483647 b.2
  (⟨k.1, (a.1 : Nat), (b.1 : Nat), (n.1 : Nat)⟩, n.2)
def rKeys : Nat → RS → List K4 × RS
  | 0, s => ([], s)
  | n + 1, s => let r := rKeys n s; let q := rKey r.2; (r.1 ++ [q.1], q.2)
def rHolds : Nat → RS → List (M3 × List Ar) × RS
  | 0, s => ([], s)
  | n + 1, s => let r := rHolds n s; let q := rHold r.2; (r.1 ++ [q.1], q.2)
/-- What is read ahead of the tests. -/
structure RC where
  fl : List Int
  q : List Int
  hor : Nat
  S : List Cg
  U : List K4
  H : List (M3 × List Ar)
  wit : Nat
  spl : Nat
def rCert (l : List Int) : Option RC :=
  let b := rByte (l, 0)
  if b.1 = 1 then
    let f := rBys 32 b.2
    let q := rBytes 2000 f.2
    let h := rUint 200 q.2
    let c := rBytes l.length h.2
    match rSet c.1 with
    | none => none
    | some S =>
      let nu := rUint 3 c.2
      let u := rKeys nu.1 nu.2
      let nh := rUint 2 u.2
      let hs := rHolds nh.1 nh.2
      let w := rUint 2 hs.2
      let p := rUint 200 w.2
      if rEnd p.2 = 0 then some ⟨f.1, q.1, h.1, S, u.1, hs.1, w.1, p.1⟩ else none
  else none
theorem rBys_head (n : Nat) (s : RS) : rBys (n + 1) s = ((rByte s).1 :: (rBys n (rByte s).2).1, (rBys n (rByte s).2).2) := by
  induction n with
  | zero => rfl
  | succ n ih =>
    show ((rBys (n + 1) s).1 ++ [(rByte (rBys (n + 1) s).2).1], (rByte (rBys (n + 1) s).2).2) = _
    rw [ih]
    rfl
theorem rKeys_head (n : Nat) (s : RS) : rKeys (n + 1) s = ((rKey s).1 :: (rKeys n (rKey s).2).1, (rKeys n (rKey s).2).2) := by
  induction n with
  | zero => rfl
  | succ n ih =>
    show ((rKeys (n + 1) s).1 ++ [(rKey (rKeys (n + 1) s).2).1], (rKey (rKeys (n + 1) s).2).2) = _
    rw [ih]
    rfl
theorem rHolds_head (n : Nat) (s : RS) : rHolds (n + 1) s = ((rHold s).1 :: (rHolds n (rHold s).2).1, (rHolds n (rHold s).2).2) := by
  induction n with
  | zero => rfl
  | succ n ih =>
    show ((rHolds (n + 1) s).1 ++ [(rHold (rHolds (n + 1) s).2).1], (rHold (rHolds (n + 1) s).2).2) = _
    rw [ih]
    rfl
theorem rBys_enc : ∀ (l r : List Int), rBys l.length (l ++ r, 0) = (l, (r, 0))
  | [], r => rfl
  | x :: l, r => by
    rw [List.length_cons, rBys_head, List.cons_append, rByte_enc, rBys_enc l r]
theorem rKey_enc {k : K4} (h : KeyOk k) (r : List Int) : rKey (encK k ++ r, 0) = (k, (r, 0)) := by
  obtain ⟨kd, ka, kb, kn⟩ := k
  have h1 := h.a0
  have h2 := h.a1
  have h3 := h.b0
  have h4 := key_small h
  have h5 := h.n0
  have h6 := h.n1
  dsimp only at *
  obtain ⟨na, rfl⟩ : ∃ n : Nat, ka = n := ⟨ka.toNat, by omega⟩
  obtain ⟨nb, rfl⟩ : ∃ n : Nat, kb = n := ⟨kb.toNat, by omega⟩
  obtain ⟨nn, rfl⟩ : ∃ n : Nat, kn = n := ⟨kn.toNat, by omega⟩
  have e : encK ⟨kd, na, nb, nn⟩ ++ r = kd :: (encU na ++ (encU nb ++ (encU nn ++ r))) := by simp [encK, List.append_assoc]
  rw [e]
  unfold rKey
  rw [rByte_enc]
  dsimp only
  rw [rUint_enc (by omega) (by omega)]
  dsimp only
  rw [rUint_enc (by omega) (by omega)]
  dsimp only
  rw [rUint_enc (by omega) (by omega)]
theorem rKeys_enc : ∀ (l : List K4) (r : List Int), (∀ k ∈ l, KeyOk k) → rKeys l.length (l.flatMap encK ++ r, 0) = (l, (r, 0))
  | [], r, _ => rfl
  | x :: l, r, h => by
    rw [List.length_cons, rKeys_head, List.flatMap_cons, List.append_assoc, rKey_enc (h x (by simp)), rKeys_enc l r (fun y hy => h y (List.mem_cons_of_mem _ hy))]
theorem rHolds_enc : ∀ (l : List HV) (r : List Int), (∀ p ∈ l, hoOkb p.2 = true ∧ (∀ a ∈ p.2.al, a.2.tk ≤ 200) ∧ ∀ a ∈ p.2.al, ∀ n ∈ a.2.l, In64 n) → rHolds l.length (l.flatMap encHo ++ r, 0) = (l.map fun p => (p.2.m, p.2.al.map (·.2)), (r, 0))
  | [], r, _ => rfl
  | x :: l, r, h => by
    obtain ⟨h1, h2, h3⟩ := h x (by simp)
    rw [List.length_cons, rHolds_head, List.flatMap_cons, List.append_assoc, rHold_enc h1 h2 h3, rHolds_enc l r (fun y hy => h y (List.mem_cons_of_mem _ hy)), List.map_cons]
/-- The bytes of a certificate that Check accepts are read as that certificate. -/
theorem rCert_enc {fl : List Int} {c : Cert} (hfl : fl.length = 32) (hk : Chk c 0) (hok : ∀ p ∈ c.S, CgOk p.2) (hasc : AscG c.S) (hsl : c.S.length ≤ 96) (hi : ∀ p ∈ c.S, ∀ n ∈ p.2.l, In64 n) (hh : ∀ p ∈ c.H, ∀ a ∈ p.2.al, ∀ n ∈ a.2.l, In64 n) :
    rCert (encCt fl c) = some ⟨fl, qB c.q, c.hor.toNat, c.S.map (·.2), c.U, c.H.map fun p => (p.2.m, p.2.al.map (·.2)), c.wit.toNat, c.spl.toNat⟩ := by
  obtain ⟨k1, k2, k3, ⟨_, k4⟩, k5⟩ := chk0 hk
  unfold R2 at k2
  unfold R1 at k3
  have hsb := encS_len hsl hok hi
  have hset := rSet_enc (l := c.S.map (·.2)) (by rw [List.length_map]; exact hsl) (fun x hx => by
    obtain ⟨p, hp, rfl⟩ := List.mem_map.1 hx
    exact ⟨hok p hp, hi p hp⟩) (by rw [List.pairwise_map]; exact hasc)
  have hkk : ∀ k ∈ c.U, KeyOk k := fun k hm => key_of_hs hok (k5 k hm)
  have hq := qB_len c.q
  obtain ⟨T1, hT1⟩ : ∃ T, T = encU c.U.length ++ (c.U.flatMap encK ++ (encU c.H.length ++ (c.H.flatMap encHo ++ (encU c.wit.toNat ++ (encU c.spl.toNat ++ []))))) := ⟨_, rfl⟩
  have e : encCt fl c = 1 :: (fl ++ (encU (qB c.q).length ++ qB c.q ++ (encU c.hor.toNat ++ (encU (encS (c.S.map (·.2))).length ++ encS (c.S.map (·.2)) ++ T1)))) := by
    rw [hT1]
    simp [encCt, encCs, List.append_assoc]
  have hlen : (encS (c.S.map (·.2))).length ≤ (encCt fl c).length := by
    rw [e]
    simp only [List.length_cons, List.length_append]
    omega
  generalize (encCt fl c).length = L at *
  unfold rCert
  rw [e, rByte_enc]
  dsimp only
  rw [if_pos rfl, ← hfl, rBys_enc]
  dsimp only
  rw [rBytes_enc (by omega) (by omega)]
  dsimp only
  rw [rUint_enc (by omega) (by omega)]
  dsimp only
  rw [rBytes_enc (by simp only [List.length_cons, List.length_append]; omega) (by omega)]
  dsimp only
  rw [hset]
  dsimp only
  rw [hT1, rUint_enc (by omega) (by omega)]
  dsimp only
  rw [rKeys_enc c.U _ hkk]
  dsimp only
  rw [rUint_enc (by omega) (by omega)]
  dsimp only
  rw [rHolds_enc c.H _ (fun p hp => ⟨k4.ok p hp, fun a ha => by have := k4.tk p hp a ha; omega, hh p hp⟩)]
  dsimp only
  rw [rUint_enc (by omega) (by omega)]
  dsimp only
  rw [rUint_enc (by omega) (by omega)]
  dsimp only
  rw [if_pos (show rEnd ([], 0) = 0 from rfl)]
end Go.Proofs.Ytemeppfikpafbaa

/- What Check and Bytes say hangs on the content alone. -/
namespace Go.Proofs.Ytemeppfikpafbaa
open Go.RowKit
def hoP (p : HV) : M3 × List Ar := (p.2.m, p.2.al.map (·.2))
/-- A certificate's content, as Read has it. -/
def rcOf (fl : List Int) (c : Cert) : RC := ⟨fl, qB c.q, c.hor.toNat, c.S.map (·.2), c.U, c.H.map hoP, c.wit.toNat, c.spl.toNat⟩
def arOkP : Int → List Ar → Bool
  | _, [] => true
  | last, a :: r => if a.tk < last ∨ a.hd < 0 ∨ 8 ≤ a.hd ∨ 4 < a.l.length then false else arOkP a.tk r
theorem arOkP_eq : ∀ (l : List AV) (last : Int), arOkb last l = arOkP last (l.map (·.2))
  | [], _ => rfl
  | a :: r, last => by
    rw [List.map_cons, arOkb, arOkP, arOkP_eq r]
def hoOkP (h : M3 × List Ar) : Bool := msgOkb h.1 && (decide (h.2.length ≤ 2) && arOkP 1 h.2)
theorem hoOkP_eq (p : HV) : hoOkb p.2 = hoOkP (hoP p) := by
  unfold hoOkb hoOkP hoP
  dsimp only
  rw [arOkP_eq, List.length_map]
structure HoldsP (hor : Int) (l : List (M3 × List Ar)) : Prop where
  asc : ∀ i (h : i + 1 < l.length), ltM l[i].1 l[i + 1].1
  tk : ∀ p ∈ l, ∀ a ∈ p.2, a.tk ≤ hor
  ok : ∀ p ∈ l, hoOkP p = true
theorem holdsP_iff (hor : Int) (l : List HV) : HoldsOk hor l ↔ HoldsP hor (l.map hoP) := by
  constructor
  · intro h
    refine ⟨fun i hi => ?_, fun p hp a ha => ?_, fun p hp => ?_⟩
    · rw [List.length_map] at hi
      simp only [List.getElem_map]
      exact h.asc i hi
    · obtain ⟨x, hx, rfl⟩ := List.mem_map.1 hp
      obtain ⟨y, hy, rfl⟩ := List.mem_map.1 ha
      exact h.tk x hx y hy
    · obtain ⟨x, hx, rfl⟩ := List.mem_map.1 hp
      rw [← hoOkP_eq]; exact h.ok x hx
  · intro h
    refine ⟨fun i hi => ?_, fun p hp a ha => ?_, fun p hp => ?_⟩
    · have := h.asc i (by rw [List.length_map]; exact hi)
      simp only [List.getElem_map] at this
      exact this
    · exact h.tk _ (List.mem_map.2 ⟨p, hp, rfl⟩) _ (List.mem_map.2 ⟨a, ha, rfl⟩)
    · rw [hoOkP_eq]; exact h.ok _ (List.mem_map.2 ⟨p, hp, rfl⟩)
def encArP (a : Ar) : List Int := encU a.tk.toNat ++ encU a.hd.toNat ++ encU a.l.length ++ a.l.flatMap fun v => encU (zz v)
def encHoP (h : M3 × List Ar) : List Int := encU h.1.f.toNat ++ encU h.1.t.toNat ++ encU h.1.n.toNat ++ encU h.2.length ++ h.2.flatMap encArP
theorem encHoP_eq (p : HV) : encHo p = encHoP (hoP p) := by
  unfold encHo encHoP hoP
  dsimp only
  rw [List.length_map, List.flatMap_map]
  rfl
theorem encHoPs (l : List HV) : l.flatMap encHo = (l.map hoP).flatMap encHoP := by
  rw [List.flatMap_map]
  congr 1
  funext p
  exact encHoP_eq p
theorem rcOf_enc {fl fl' : List Int} {c d : Cert} (h : rcOf fl c = rcOf fl' d) : encCt fl c = encCt fl' d := by
  unfold rcOf at h
  simp only [RC.mk.injEq] at h
  obtain ⟨h1, h2, h3, h4, h5, h6, h7, h8⟩ := h
  have h9 : c.H.length = d.H.length := by have := congrArg List.length h6; simpa using this
  unfold encCt encCs
  rw [h1, h2, h3, h4, h5, h7, h8, h9, encHoPs, encHoPs, h6]
theorem hasG_map (l : List GV) (k : K4) : hasG l k = (l.map (·.2)).any (fun x => decide (x.k = k)) := by
  unfold hasG
  rw [List.any_map]
  rfl
theorem rcOf_chk {fl fl' : List Int} {c d : Cert} (h : rcOf fl c = rcOf fl' d) (h0 : 0 ≤ d.hor) (h1 : 0 ≤ d.wit) (h2 : 0 ≤ d.spl) (hk : Chk c 0) : Chk d 0 := by
  obtain ⟨k1, k2, k3, ⟨k4, k5⟩, k6⟩ := chk0 hk
  unfold rcOf at h
  simp only [RC.mk.injEq] at h
  obtain ⟨_, e2, e3, e4, e5, e6, e7, e8⟩ := h
  unfold R2 at k2
  have a1 : d.hor = c.hor := by omega
  have a2 : d.wit = c.wit := by omega
  have a3 : d.spl = c.spl := by omega
  have a4 : d.q.size = c.q.size := by rw [← qB_len, ← qB_len, e2]
  have a5 : c.H.length = d.H.length := by have := congrArg List.length e6; simpa using this
  refine Or.inr ⟨by rw [a4]; exact k1, Or.inr ⟨by unfold R2; rw [a1, a2, a3]; exact k2, Or.inr ⟨by unfold R1 at k3 ⊢; rw [a2, ← e5, ← a5]; exact k3, Or.inr ⟨⟨?_, ?_⟩, Or.inr ⟨?_, rfl⟩⟩⟩⟩⟩
  · have key : ∀ U V : List K4, U = V → (∀ i (h : i + 1 < U.length), ltK U[i] U[i + 1]) → ∀ i (h : i + 1 < V.length), ltK V[i] V[i + 1] := by
      intro U V e
      subst e
      exact id
    exact key _ _ e5 k4
  · rw [a1]
    exact (holdsP_iff _ _).2 (by rw [← e6]; exact (holdsP_iff _ _).1 k5)
  · unfold HS at k6 ⊢
    rw [← e5]
    intro k hm
    rw [hasG_map, ← e4, ← hasG_map]
    exact k6 k hm
end Go.Proofs.Ytemeppfikpafbaa

/- certificate.Read: the plain laws of its end. -/
namespace Go.Proofs.Ytemeppfikpafbaa
open Go.RowKit
/-- No certificate has these bytes. -/
def NoCert (l : List Int) : Prop := ∀ fl c, fl.length = 32 → (∀ p ∈ c.S, CgOk p.2) → AscG c.S → c.S.length ≤ 96 → (∀ p ∈ c.S, ∀ n ∈ p.2.l, In64 n) → (∀ p ∈ c.H, ∀ a ∈ p.2.al, ∀ n ∈ a.2.l, In64 n) → Chk c 0 → encCt fl c ≠ l
theorem noCert_of {l : List Int} (h : rCert l = none) : NoCert l := fun fl c h1 h2 h3 h4 h5 h6 h7 e => by
  have := rCert_enc h1 h7 h2 h3 h4 h5 h6
  rw [e, h] at this
  cases this
theorem noCert_chk {l fl : List Int} {d : Cert} (h : rCert l = some (rcOf fl d)) (h0 : 0 ≤ d.hor) (h1 : 0 ≤ d.wit) (h2 : 0 ≤ d.spl) (hk : ¬ Chk d 0) : NoCert l := fun fl' c k1 k2 k3 k4 k5 k6 k7 e => by
  have h9 := rCert_enc k1 k7 k2 k3 k4 k5 k6
  rw [e, h] at h9
  exact hk (rcOf_chk (c := c) (fl := fl') (d := d) (fl' := fl) (Option.some.inj h9).symm h0 h1 h2 k7)
theorem noCert_enc {l fl : List Int} {d : Cert} (h : rCert l = some (rcOf fl d)) (hk : encCt fl d ≠ l) : NoCert l := fun fl' c k1 k2 k3 k4 k5 k6 k7 e => by
  have h9 := rCert_enc k1 k7 k2 k3 k4 k5 k6
  rw [e, h] at h9
  exact hk ((rcOf_enc (c := c) (fl := fl') (d := d) (fl' := fl) (Option.some.inj h9).symm).symm.trans e)
/-- One hold more. -/
theorem hoP_push {o : List HV} {hs : List (M3 × List Ar)} {rh : M3 × List Ar} {p : HV} (h : o.map hoP = hs) (h1 : p.2.m = rh.1) (h2 : p.2.al.map (·.2) = rh.2) : (o ++ [p]).map hoP = hs ++ [rh] := by
  rw [List.map_append, h]
  congr 1
  show [(p.2.m, p.2.al.map (·.2))] = [rh]
  rw [h1, h2]
/-- Read in plain words, step by step. -/
theorem rCert_eq {l : List Int} {s0 s1 s2 s3 s4 n1 sU n5 sT n6 n7 : RS} {fl qb sb : List Int} {nh u1 u5 u6 u7 : Nat} {S : List Cg} {ks : List K4} {hs : List (M3 × List Ar)}
    (h0 : (rByte (l, 0)).1 = 1) (h1 : (rByte (l, 0)).2 = s0) (h2 : (rBys 32 s0).1 = fl) (h3 : (rBys 32 s0).2 = s1) (h4 : (rBytes 2000 s1).1 = qb) (h5 : (rBytes 2000 s1).2 = s2) (h6 : (rUint 200 s2).1 = nh) (h7 : (rUint 200 s2).2 = s3)
    (h8 : (rBytes l.length s3).1 = sb) (h9 : (rBytes l.length s3).2 = s4) (h10 : rSet sb = some S) (h11 : (rUint 3 s4).1 = u1) (h12 : (rUint 3 s4).2 = n1) (h13 : (rKeys u1 n1).1 = ks) (h14 : (rKeys u1 n1).2 = sU)
    (h15 : (rUint 2 sU).1 = u5) (h16 : (rUint 2 sU).2 = n5) (h17 : (rHolds u5 n5).1 = hs) (h18 : (rHolds u5 n5).2 = sT) (h19 : (rUint 2 sT).1 = u6) (h20 : (rUint 2 sT).2 = n6) (h21 : (rUint 200 n6).1 = u7) (h22 : (rUint 200 n6).2 = n7) :
    rCert l = if rEnd n7 = 0 then some ⟨fl, qb, nh, S, ks, hs, u6, u7⟩ else none := by
  unfold rCert
  simp only [h0, if_true, h1, h2, h3, h4, h5, h6, h7, h8, h9, h10, h11, h12, h13, h14, h15, h16, h17, h18, h19, h20, h21, h22]
theorem rAr_64 {s : RS} (h : Byts s.1) : (∀ n ∈ (rAr s).1.l, In64 n) ∧ Byts (rAr s).2.1 := rInts_64 (rUint_byts 4 (rUint_byts 2147483647 (rUint_byts 200 h))) _
theorem rArs_64 {s : RS} (h : Byts s.1) : ∀ n, (∀ a ∈ (rArs n s).1, ∀ x ∈ a.l, In64 x) ∧ Byts (rArs n s).2.1
  | 0 => ⟨fun a ha => (by cases ha), h⟩
  | n + 1 => by
    have ih := rArs_64 h n
    have h2 := rAr_64 ih.2
    refine ⟨fun a ha => ?_, h2.2⟩
    rcases List.mem_append.1 (show a ∈ (rArs n s).1 ++ [(rAr (rArs n s).2).1] from ha) with k | k
    · exact ih.1 a k
    · rw [List.mem_singleton] at k; subst k; exact h2.1
theorem rHold_64 {s : RS} (h : Byts s.1) : (∀ a ∈ (rHold s).1.2, ∀ x ∈ a.l, In64 x) ∧ Byts (rHold s).2.1 := rArs_64 (rUint_byts 2 (rUint_byts 2147483647 (rUint_byts 2147483647 (rUint_byts 2147483647 h)))) _
theorem rHolds_64 {s : RS} (h : Byts s.1) : ∀ n, (∀ p ∈ (rHolds n s).1, ∀ a ∈ p.2, ∀ x ∈ a.l, In64 x) ∧ Byts (rHolds n s).2.1
  | 0 => ⟨fun a ha => (by cases ha), h⟩
  | n + 1 => by
    have ih := rHolds_64 h n
    have h2 := rHold_64 ih.2
    refine ⟨fun a ha => ?_, h2.2⟩
    rcases List.mem_append.1 (show a ∈ (rHolds n s).1 ++ [(rHold (rHolds n s).2).1] from ha) with k | k
    · exact ih.1 a k
    · rw [List.mem_singleton] at k; subst k; exact h2.1
theorem hoP_64 {o : List HV} {hs : List (M3 × List Ar)} (h : o.map hoP = hs) (k : ∀ p ∈ hs, ∀ a ∈ p.2, ∀ x ∈ a.l, In64 x) : ∀ p ∈ o, ∀ a ∈ p.2.al, ∀ n ∈ a.2.l, In64 n := fun p hp a ha => by
  subst h
  exact k _ (List.mem_map.2 ⟨p, hp, rfl⟩) a.2 (List.mem_map.2 ⟨a, ha, rfl⟩)
/-- A certificate in memory, its rows in blocks of S, in an older world. -/
structure CertS (S : Nat → Prop) (w : World) (arr : Array Value) (c : Cert) : Prop where
  size : arr.size = 39
  q : arr[32]? = some (.string c.q)
  hor : arr[33]? = some (.int .i64 c.hor)
  sv : arr[34]? = some c.sv
  uv : arr[35]? = some c.uv
  hv : arr[36]? = some c.hv
  wit : arr[37]? = some (.int .i64 c.wit)
  spl : arr[38]? = some (.int .i64 c.spl)
  set : SetAt S w c.sv c.S
  und : Row S w 4 c.U.length c.uv (flatC kC c.U)
  hol : Row S w 4 c.H.length c.hv (flatC hC c.H)
  each : ∀ p ∈ c.H, HAt S w p
  ulen : c.U.length ≤ 16
  hlen : c.H.length ≤ 16
theorem CertS.cert {S : Nat → Prop} {w w' : World} {arr : Array Value} {c : Cert} (h : CertS S w arr c) (hw : ∀ b, S b → b < w.heap.size → w'.heap[b]? = w.heap[b]?) : CertAt w' arr c :=
  ⟨h.size, h.q, h.hor, h.sv, h.uv, h.hv, h.wit, h.spl, h.set.mono (fun _ _ _ => trivial) hw, (h.und.lt (by omega)).mono (fun _ _ => trivial) (fun b off x hb hc => by
    rw [← hc]; exact World.cell?_of_block (w := w) (a := ⟨b, off, none⟩) (hw b hb.1 hb.2)), (h.hol.lt (by omega)).mono (fun _ _ => trivial) (fun b off x hb hc => by
    rw [← hc]; exact World.cell?_of_block (w := w) (a := ⟨b, off, none⟩) (hw b hb.1 hb.2)), fun p hp => (h.each p hp).mono (fun _ _ _ => trivial) hw, h.ulen, h.hlen⟩
theorem CertS.ones {S : Nat → Prop} {w : World} {arr : Array Value} {c : Cert} (h : CertS S w arr c) (k : ∀ i, i < 32 → ∃ n : Int, arr[i]? = some (.int .u8 n)) : arr.all (·.oneCell') = true := by
  obtain ⟨a1, c1, e1, _⟩ := h.set.row.shape
  obtain ⟨a2, c2, e2, _⟩ := h.und.shape
  obtain ⟨a3, c3, e3, _⟩ := h.hol.shape
  rw [Array.all_eq_true_iff_forall_mem]
  intro v hv
  obtain ⟨i, hi, e⟩ := Array.getElem_of_mem hv
  have hsz := h.size
  have hg : arr[i]? = some v := by rw [← e]; exact Array.getElem?_eq_getElem hi
  by_cases h32 : i < 32
  · obtain ⟨n, hn⟩ := k i h32
    rw [hn] at hg; cases hg; rfl
  · have hj : i = 32 ∨ i = 33 ∨ i = 34 ∨ i = 35 ∨ i = 36 ∨ i = 37 ∨ i = 38 := by omega
    rcases hj with rfl | rfl | rfl | rfl | rfl | rfl | rfl
    · rw [h.q] at hg; cases hg; rfl
    · rw [h.hor] at hg; cases hg; rfl
    · rw [h.sv, e1] at hg; cases hg; rfl
    · rw [h.uv, e2] at hg; cases hg; rfl
    · rw [h.hv, e3] at hg; cases hg; rfl
    · rw [h.wit] at hg; cases hg; rfl
    · rw [h.spl] at hg; cases hg; rfl
end Go.Proofs.Ytemeppfikpafbaa

/- The bytes of a certificate are bytes, and few. -/
namespace Go.Proofs.Ytemeppfikpafbaa
open Go.RowKit
theorem Byts.append {l m : List Int} (h : Byts l) (k : Byts m) : Byts (l ++ m) := fun b hb => (List.mem_append.1 hb).elim (h b) (k b)
theorem Byts.nil : Byts [] := fun b hb => by cases hb
theorem Byts.cons {x : Int} {l : List Int} (h0 : 0 ≤ x ∧ x ≤ 255) (h : Byts l) : Byts (x :: l) := fun b hb => (List.mem_cons.1 hb).elim (fun e => e ▸ h0) (h b)
theorem Byts.flat {α : Type} {f : α → List Int} : ∀ {l : List α}, (∀ x ∈ l, Byts (f x)) → Byts (l.flatMap f)
  | [], _ => by rw [List.flatMap_nil]; exact Byts.nil
  | x :: r, h => by
    rw [List.flatMap_cons]
    exact (h x (by simp)).append (Byts.flat fun y hy => h y (List.mem_cons_of_mem _ hy))
theorem encU_byts (v : Nat) : Byts (encU v) := by
  induction v using Nat.strongRecOn with
  | _ v ih =>
    by_cases h : v < 128
    · rw [encU_lt h]; exact Byts.cons (by omega) Byts.nil
    · rw [encU_ge h]; exact Byts.cons (by omega) (ih (v / 128) (by omega))
theorem qB_byts (q : ByteArray) : Byts (qB q) := fun b hb => by
  unfold qB at hb
  obtain ⟨x, _, rfl⟩ := List.mem_map.1 hb
  have := x.toNat_lt
  omega
theorem encK_byts {k : K4} (h : KeyOk k) : Byts (encK k) := Byts.cons ⟨by have := h.k0; omega, by have := h.k1; omega⟩ (((encU_byts _).append (encU_byts _)).append (encU_byts _))
theorem encC_byts {x : Cg} (h : CgOk x) : Byts (encC x) := Byts.cons ⟨by have := h.key.k0; omega, by have := h.key.k1; omega⟩ ((Byts.flat fun _ _ => encU_byts _).append (Byts.flat fun _ _ => encU_byts _))
theorem encS_byts {l : List Cg} (h : ∀ x ∈ l, CgOk x) : Byts (encS l) := (encU_byts _).append (Byts.flat fun x hx => encC_byts (h x hx))
theorem encAr_byts (a : AV) : Byts (encAr a) := (((encU_byts _).append (encU_byts _)).append (encU_byts _)).append (Byts.flat fun _ _ => encU_byts _)
theorem encHo_byts (p : HV) : Byts (encHo p) := ((((encU_byts _).append (encU_byts _)).append (encU_byts _)).append (encU_byts _)).append (Byts.flat fun a _ => encAr_byts a)
theorem encCt_byts {fl : List Int} {c : Cert} (hf : Byts fl) (hok : ∀ p ∈ c.S, CgOk p.2) (hk : Chk c 0) : Byts (encCt fl c) := by
  obtain ⟨_, _, _, _, k5⟩ := chk0 hk
  have h1 : Byts (encS (c.S.map (·.2))) := encS_byts fun x hx => by
    obtain ⟨p, hp, rfl⟩ := List.mem_map.1 hx
    exact hok p hp
  have h2 : Byts (c.U.flatMap encK) := Byts.flat fun k hm => encK_byts (key_of_hs hok (k5 k hm))
  have h3 : Byts (c.H.flatMap encHo) := Byts.flat fun p _ => encHo_byts p
  have h0 : Byts [1] := Byts.cons (by omega) Byts.nil
  unfold encCt encCs
  exact (((((((((((h0.append hf).append (encU_byts _)).append (qB_byts _)).append (encU_byts _)).append (encU_byts _)).append h1).append (encU_byts _)).append h2).append (encU_byts _)).append h3).append (encU_byts _)).append (encU_byts _)
theorem rBys_byts {s : RS} (h : Byts s.1) : ∀ n, Byts (rBys n s).1 ∧ Byts (rBys n s).2.1
  | 0 => ⟨Byts.nil, h⟩
  | n + 1 => by
    have ih := rBys_byts h n
    have h2 := rByte_byts ih.2
    exact ⟨ih.1.append (Byts.cons ⟨h2.1, h2.2.1⟩ Byts.nil), h2.2.2⟩
/-- A bound of their number. -/
theorem encCt_len {fl : List Int} {c : Cert} (hf : fl.length = 32) (hsl : c.S.length ≤ 96) (hok : ∀ p ∈ c.S, CgOk p.2) (hi : ∀ p ∈ c.S, ∀ n ∈ p.2.l, In64 n) (hh : ∀ p ∈ c.H, ∀ a ∈ p.2.al, ∀ n ∈ a.2.l, In64 n) (hk : Chk c 0) : (encCt fl c).length ≤ 100000 := by
  obtain ⟨k1, k2, k3, ⟨_, k4⟩, k5⟩ := chk0 hk
  unfold R2 at k2
  unfold R1 at k3
  have h1 := encS_len hsl hok hi
  have hq := qB_len c.q
  have hU : (c.U.flatMap encK).length ≤ c.U.length * 31 := flat_len_le fun k hm => by
    have hk := key_of_hs hok (k5 k hm)
    unfold encK
    have ha := encU_len k.a.toNat (by have := hk.a1; omega)
    have hb := encU_len k.b.toNat (by have := key_small hk; omega)
    have hn := encU_len k.n.toNat (by have := hk.n1; omega)
    simp only [List.length_cons, List.length_append]
    omega
  have hH : (c.H.flatMap encHo).length ≤ c.H.length * 240 := flat_len_le fun p hp => by
    have ho := k4.ok p hp
    have ht := k4.tk p hp
    unfold hoOkb at ho
    rw [Bool.and_eq_true, Bool.and_eq_true, decide_eq_true_eq] at ho
    obtain ⟨m1, m2, m3⟩ := ho
    unfold msgOkb at m1
    rw [Bool.and_eq_true, Bool.and_eq_true, decide_eq_true_eq, decide_eq_true_eq, decide_eq_true_eq] at m1
    have he := arOkb_each (by omega) m3
    have hA : (p.2.al.flatMap encAr).length ≤ p.2.al.length * 70 := flat_len_le fun a ha => by
      obtain ⟨e1, e2, e3, e4⟩ := he a ha
      have e5 := ht a ha
      unfold encAr
      have b1 := encU_len a.2.tk.toNat (by omega)
      have b2 := encU_len a.2.hd.toNat (by omega)
      have b3 := encU_len a.2.l.length (by omega)
      have b4 : (a.2.l.flatMap fun v => encU (zz v)).length ≤ a.2.l.length * 10 := flat_len_le fun v hv => encU_len _ (zz_lt (hh p hp a ha v hv).1 (hh p hp a ha v hv).2)
      simp only [List.length_append]
      omega
    unfold encHo
    have b1 := encU_len p.2.m.f.toNat (by omega)
    have b2 := encU_len p.2.m.t.toNat (by omega)
    have b3 := encU_len p.2.m.n.toNat (by omega)
    have b4 := encU_len p.2.al.length (by omega)
    simp only [List.length_append]
    omega
  have a1 := encU_len (qB c.q).length (by omega)
  have a2 := encU_len c.hor.toNat (by omega)
  have a3 := encU_len (encS (c.S.map (·.2))).length (by omega)
  have a4 := encU_len c.U.length (by omega)
  have a5 := encU_len c.H.length (by omega)
  have a6 := encU_len c.wit.toNat (by omega)
  have a7 := encU_len c.spl.toNat (by omega)
  unfold encCt encCs
  simp only [List.length_append, List.length_singleton]
  omega
end Go.Proofs.Ytemeppfikpafbaa

/- bytes.Equal (112). -/
namespace Go.Proofs.Ytemeppfikpafbaa
open Go.RowKit
theorem conv_str (w : World) (m : List Int) (v : Value) (hm : Byts m) (h : ByG w m v) : ∃ q : ByteArray, qB q = m ∧ ∀ W, More w W → (convert 92 9 v).run Try.prog W = .ok (.string q) W := by
  obtain ⟨a, cap, rfl, _⟩ := h.row.shape
  have e8 : ∀ b ∈ m, ((UInt8.ofNat b.toNat).toNat : Int) = b := fun b hb => by
    have := hm b hb
    have h2 : (UInt8.ofNat b.toNat).toNat = b.toNat % 256 := by first | rfl | simp
    rw [h2]
    omega
  have em : (m.map fun b => UInt8.ofNat b.toNat).map (fun x => (x.toNat : Int)) = m := by
    rw [List.map_map]
    conv => rhs; rw [← List.map_id m]
    exact List.map_congr_left (fun b hb => e8 b hb)
  refine ⟨⟨(m.map fun b => UInt8.ofNat b.toNat).toArray⟩, (by unfold qB; exact em), fun W hW => ?_⟩
  by_cases hn : m = []
  · subst hn
    cases a with
    | none =>
      rw [run_convert_bytes_string W 92 9 5 none _ _ Try.underlying92 Try.underlying5 Try.underlying9]
      simp [Conv.bytesToString]
      rfl
    | some ad =>
      exact run_convert_bytes_back (P := Try.prog) W 92 9 5 ad cap [] Try.underlying92 Try.underlying5 Try.underlying9 (fun j hj => absurd hj (by simp))
  · have hpos : 0 < m.length := List.length_pos_iff.2 hn
    obtain ⟨b, off, rfl, _, _, hc⟩ := h.row.at (by omega)
    have hr := run_convert_bytes_back (P := Try.prog) W 92 9 5 ⟨b, off, none⟩ cap (m.map fun b => UInt8.ofNat b.toNat) Try.underlying92 Try.underlying5 Try.underlying9 (fun j hj => by
      have hj2 : j < m.length := by simpa using hj
      rw [Addr.add_mid, hW.cell (hc j (.int .u8 m[j]) (by simp [bV, hj2])), List.getElem_map, e8 _ (List.getElem_mem hj2)])
    rw [List.length_map] at hr
    exact hr
theorem qB_inj {p q : ByteArray} (h : qB p = qB q) : p = q := by
  unfold qB at h
  have h2 := (List.map_inj_right (fun (a b : UInt8) (e : (a.toNat : Int) = b.toNat) => UInt8.toNat_inj.1 (by omega))).1 h
  obtain ⟨⟨a⟩⟩ := p
  obtain ⟨⟨b⟩⟩ := q
  have h3 : a = b := h2
  rw [h3]
theorem bytes_beq (p q : ByteArray) : (p == q) = decide (p = q) := by
  by_cases h : p = q
  · subst h
    rw [decide_eq_true rfl, beq_toListBytes]
    exact beq_self_eq_true _
  · rw [decide_eq_false h, beq_toListBytes]
    rw [beq_eq_false_iff_ne]
    intro e
    apply h
    rw [ByteArray.toList_eq, ByteArray.toList_eq] at e
    obtain ⟨⟨a⟩⟩ := p
    obtain ⟨⟨b⟩⟩ := q
    have e2 : a = b := e
    rw [e2]
theorem qB_beq (p q : ByteArray) : (p == q) = decide (qB p = qB q) := by
  rw [bytes_beq]
  by_cases h : p = q
  · subst h; simp
  · rw [decide_eq_false (fun e => h (qB_inj e)), decide_eq_false h]
set_option maxRecDepth 100000 in
theorem equal112_any (l m : List Int) (v x : Value) (w : World) (hl : Byts l) (hm : Byts m) (h : ByG w l v) (hx : ByG w m x) :
    Calls Try.prog 112 #[v, x] w fun e w' => e = .returned (.bool (decide (l = m))) ∧ w' = w := by
  obtain ⟨p, hp, hcp⟩ := conv_str w l v hl h
  obtain ⟨q, hq, hcq⟩ := conv_str w m x hm hx
  have h1 := hcp w (World.grownBy.refl _ _)
  have h2 := hcq w (World.grownBy.refl _ _)
  clear hcp hcq
  obtain ⟨a, cap, rfl, _⟩ := h.row.shape
  obtain ⟨xa, xc, rfl, _⟩ := hx.row.shape
  have HE := Lib.hid (show decide (qB p = qB q) = decide (l = m) by rw [hp, hq])
  have HD := Lib.hid (show (p.toList == q.toList) = decide (qB p = qB q) by rw [← beq_toListBytes]; exact qB_beq p q)
  clear h hx hp hq hl hm
  go_enter Try.func112, Try.ntmps112
  go_wp2_with fail
  go_ret
  exact ⟨by rw [← HE.out, ← HD.out]; rfl, rfl⟩
end Go.Proofs.Ytemeppfikpafbaa

