/- expr.collect (100). -/
import Derived.Test.YtekhoanjpnjaeaaSetM
import Derived.Deep.DeepCutAuto
namespace Go.Proofs.Ytekhoanjpnjaeaa
open Go.RowKit Go.Maps

def CollSaid (d : Nat) : Prop := ∀ (S : Nat → Prop) (t : Ex) (b off : Nat) (w : World) (b1 b2 : Nat) (X Y : List ByteArray), RepAt .u8 S w d t b off → SetMap w b1 X → SetMap w b2 Y → b1 ≠ b2 → (∀ x, S x → x ≠ b1 ∧ x ≠ b2) → b ≠ b1 → b ≠ b2 →
    X.length + (nms false t).length ≤ 1000000 → Y.length + (nms true t).length ≤ 1000000 →
    Calls Try.prog 100 #[.pointer (some ⟨b, off, none⟩), .map (some b1), .map (some b2)] w fun r w' => r = .returned (.tuple #[]) ∧ Two w w' b1 b2 ∧ SetMap w' b1 (X ++ nms false t) ∧ SetMap w' b2 (Y ++ nms true t)
theorem RepAt.two {S : Nat → Prop} {w w' : World} {d : Nat} {t : Ex} {b off b1 b2 : Nat} (h : RepAt .u8 S w d t b off) (ht : Two w w' b1 b2) (hS : ∀ x, S x → x ≠ b1 ∧ x ≠ b2) (h1 : b ≠ b1) (h2 : b ≠ b2) : RepAt .u8 S w' d t b off :=
  h.mono (fun _ h => h) (fun x _ _ hx hc => ht.cell hc (hS x hx).1 (hS x hx).2) (fun _ _ _ hc => ht.cell hc h1 h2) (Nat.le_refl _)
/-- The set that the operator's own name makes. -/
theorem nms_len_n (k : Bool) (t : Ex) : (nmsN k t.op t.name).length ≤ (nms k t).length := by rw [nms_eq, List.length_append]; omega

theorem nmsL_le (k : Bool) : ∀ (l : List Ex) (i : Nat), (nmsL k (l.take i)).length ≤ (nmsL k l).length
  | [], i => by rw [List.take_nil]; exact Nat.le_refl _
  | t :: ts, 0 => Nat.zero_le _
  | t :: ts, i + 1 => by
    rw [List.take_succ_cons, nmsL, nmsL, List.length_append, List.length_append]
    have := nmsL_le k ts i
    omega
theorem sum_le {k : Bool} {t : Ex} {X : List ByteArray} {M i : Nat} (hX : X.length + (nms k t).length ≤ M) (hi : i < t.args.length) : ((X ++ nmsN k t.op t.name) ++ nmsL k (t.args.take i)).length + (nms k t.args[i]).length ≤ M := by
  have h1 := nmsL_le k t.args (i + 1)
  rw [nmsL_take k t.args i hi, List.length_append] at h1
  rw [nms_eq, List.length_append] at hX
  rw [List.length_append, List.length_append]
  omega

set_option maxHeartbeats 2000000 in
set_option maxRecDepth 100000 in
theorem collect_any (d : Nat) : CollSaid d := by
  induction d using Nat.strongRecOn with
  | _ d ih =>
    intro S t b off w b1 b2 X Y h hX hY hb hS hb1 hb2 hXl hYl
    have IH := Lib.hid ih; clear ih
    have HAT := Lib.hid h
    obtain ⟨h0, h1, h2, hf, c, h3, hc⟩ := h
    obtain ⟨a, cap, rfl⟩ := hc.shape
    have hlen := hf.len
    have HNS := Lib.hid hf.name
    have HX := Lib.hid hX; clear hX
    have HY := Lib.hid hY; clear hY
    have HB := Lib.hid hb; clear hb
    have HS := Lib.hid hS; clear hS
    have HB1 := Lib.hid hb1; clear hb1
    have HB2 := Lib.hid hb2; clear hb2
    have HXL := Lib.hid hXl; clear hXl
    have HYL := Lib.hid hYl; clear hYl
    have HNA := Lib.hid (nms_eq false t)
    have HNB := Lib.hid (nms_eq true t)
    clear hc
    have hcases : t.op = 5 ∨ t.op = 6 ∨ t.op = 7 ∨ t.op = 8 ∨ ¬ (5 ≤ t.op ∧ t.op ≤ 8) := by omega
    rcases hcases with h5 | h5 | h5 | h5 | h5
    case' inl =>
      have t5 : (t.op == 5) = true := by simp [h5]
      have HPA := Lib.hid (show nmsN false t.op t.name = [t.name] by unfold nmsN; simp [h5])
      have HPB := Lib.hid (show nmsN true t.op t.name = [] by unfold nmsN; simp [h5])
      clear h5
      obtain ⟨n, D, ho, hn, hD⟩ := HX.out
      have HO := Lib.hid ho
      have HD := Lib.hid (And.intro hn hD)
      have hnm : n < maxLen := by have := HXL.out; unfold maxLen; omega
      have HK := Lib.hid (show keyOf Try.prog 9 (.string t.name) = some (keyS t.name) from WideMaps.keyOf_string_mk Try.underlying9 HNS.out)
      have HW := Lib.hid (show plainElem (H := Unit) Try.prog 4 (.bool true) = some (boolD true, []) from plainElem_bool Try.underlying4 true)
      clear ho hn hD
      go_enter Try.func100, Try.ntmps100
      go_wp2_with (at_mapUpdate; refine wpList_mapUpdate_own _ rfl _ _ _ 181 rfl 9 4 lawS Try.underlying181 _ b1 n D rfl HO.out hnm _ _ _ rfl rfl HK.out _ [] HW.out ?_; intro w1 hown1 hgrow1; have g3 : w1.cell? ⟨b, off + 3, none⟩ = some (.slice a t.args.length cap) := ((Two.of_grown hgrow1 (b2 := b2) (Or.inl rfl)).cell h3 HB1.out HB2.out))
      have HT1 := Lib.hid (Two.of_grown hgrow1 (b2 := b2) (Or.inl rfl))
      have HX1 := Lib.hid (show SetMap w1 b1 (X ++ nmsN false t.op t.name) by rw [HPA.out]; exact SetMap.put HO.out.isMap HD.out.1 HD.out.2 hown1)
      have HY1 := Lib.hid (show SetMap w1 b2 (Y ++ nmsN true t.op t.name) by rw [HPB.out, List.append_nil]; exact HY.out.keep (hgrow1.block _ HY.out.lt (fun e => by cases e; exact HB.out rfl)))
      clear hown1 hgrow1 hnm
      go_wp2_with fail
    case' inr.inl =>
      have t5 : (t.op == 5) = false := by simp [h5]
      have t6 : (t.op == 6) = true := by simp [h5]
      have HPA := Lib.hid (show nmsN false t.op t.name = [] by unfold nmsN; simp [h5])
      have HPB := Lib.hid (show nmsN true t.op t.name = [t.name] by unfold nmsN; simp [h5])
    case' inr.inr.inl =>
      have t5 : (t.op == 5) = false := by simp [h5]
      have t6 : (t.op == 6) = false := by simp [h5]
      have t7 : (t.op == 7) = true := by simp [h5]
      have HPA := Lib.hid (show nmsN false t.op t.name = [] by unfold nmsN; simp [h5])
      have HPB := Lib.hid (show nmsN true t.op t.name = [t.name] by unfold nmsN; simp [h5])
    case' inr.inr.inr.inl =>
      have t5 : (t.op == 5) = false := by simp [h5]
      have t6 : (t.op == 6) = false := by simp [h5]
      have t7 : (t.op == 7) = false := by simp [h5]
      have t8 : (t.op == 8) = true := by simp [h5]
      have HPA := Lib.hid (show nmsN false t.op t.name = [] by unfold nmsN; simp [h5])
      have HPB := Lib.hid (show nmsN true t.op t.name = [t.name] by unfold nmsN; simp [h5])
    case' inr.inr.inr.inr =>
      have t5 : (t.op == 5) = false := by simp; omega
      have t6 : (t.op == 6) = false := by simp; omega
      have t7 : (t.op == 7) = false := by simp; omega
      have t8 : (t.op == 8) = false := by simp; omega
      have HX1 := Lib.hid (show SetMap w b1 (X ++ nmsN false t.op t.name) by rw [show nmsN false t.op t.name = [] by unfold nmsN; simp; omega, List.append_nil]; exact HX.out)
      have HY1 := Lib.hid (show SetMap w b2 (Y ++ nmsN true t.op t.name) by rw [show nmsN true t.op t.name = [] by unfold nmsN; simp; omega, List.append_nil]; exact HY.out)
      clear h5
      have HT1 := Lib.hid (Two.refl w b1 b2)
      go_enter Try.func100, Try.ntmps100
      go_wp2_with fail
    all_goals try (
      clear h5
      obtain ⟨n, D, ho, hn, hD⟩ := HY.out
      have HO := Lib.hid ho
      have HD := Lib.hid (And.intro hn hD)
      have hnm : n < maxLen := by have := HYL.out; unfold maxLen; omega
      have HK := Lib.hid (show keyOf Try.prog 9 (.string t.name) = some (keyS t.name) from WideMaps.keyOf_string_mk Try.underlying9 HNS.out)
      have HW := Lib.hid (show plainElem (H := Unit) Try.prog 4 (.bool true) = some (boolD true, []) from plainElem_bool Try.underlying4 true)
      clear ho hn hD
      go_enter Try.func100, Try.ntmps100
      go_wp2_with (at_mapUpdate; refine wpList_mapUpdate_own _ rfl _ _ _ 181 rfl 9 4 lawS Try.underlying181 _ b2 n D rfl HO.out hnm _ _ _ rfl rfl HK.out _ [] HW.out ?_; intro w1 hown1 hgrow1; have g3 : w1.cell? ⟨b, off + 3, none⟩ = some (.slice a t.args.length cap) := ((Two.of_grown hgrow1 (b1 := b1) (Or.inr rfl)).cell h3 HB1.out HB2.out))
      have HT1 := Lib.hid (Two.of_grown hgrow1 (b1 := b1) (Or.inr rfl))
      have HY1 := Lib.hid (show SetMap w1 b2 (Y ++ nmsN true t.op t.name) by rw [HPB.out]; exact SetMap.put HO.out.isMap HD.out.1 HD.out.2 hown1)
      have HX1 := Lib.hid (show SetMap w1 b1 (X ++ nmsN false t.op t.name) by rw [HPA.out, List.append_nil]; exact HX.out.keep (hgrow1.block _ HX.out.lt (fun e => by cases e; exact HB.out rfl)))
      clear hown1 hgrow1 hnm
      go_wp2_with fail)
    all_goals
      clear h0 h1 h2 h3
      try clear g3
      go_loopw [32] (fun i wr => ∃ k : Nat, k ≤ t.args.length ∧ i = .int .i64 k ∧ Hid (Two w wr b1 b2) ∧ Hid (SetMap wr b1 ((X ++ nmsN false t.op t.name) ++ nmsL false (t.args.take k))) ∧ Hid (SetMap wr b2 ((Y ++ nmsN true t.op t.name) ++ nmsL true (t.args.take k)))) (fun i _ => t.args.length - (intOf i).toNat)
      case atStart => exact ⟨0, Nat.zero_le _, rfl, HT1, Lib.hid (by rw [List.take_zero, nmsL, List.append_nil]; exact HX1.out), Lib.hid (by rw [List.take_zero, nmsL, List.append_nil]; exact HY1.out)⟩
      case round =>
        obtain ⟨k, hk, rfl, HT, HXk, HYk⟩ := hrel
        by_cases hlt : k < t.args.length
        · have hne : t.args ≠ [] := by intro e; rw [e] at hlt; simp at hlt
          have hat := HAT.out.two HT.out HS.out HB1.out HB2.out
          obtain ⟨_, _, _, _, c', g3, hc'⟩ := hat
          obtain ⟨_, _, e'⟩ := hc'.shape
          subst e'
          obtain ⟨d', b', off', rfl, rfl, _, hSb, hat'⟩ := hc'.at hne
          have HKT := Lib.hid (hat' k hlt)
          have HSB := Lib.hid hSb
          have HTA := Lib.hid (nmsL_take false t.args k hlt)
          have HTB := Lib.hid (nmsL_take true t.args k hlt)
          have HLA := Lib.hid (sum_le HXL.out hlt)
          have HLB := Lib.hid (sum_le HYL.out hlt)
          clear hat' hc' hSb hne
          go_wp2_with fail
          refine (IH.out d' (by omega) S t.args[k] b' (off' + k * 4) wr b1 b2 _ _ HKT.out HXk.out HYk.out HB.out HS.out (HS.out _ HSB.out).1 (HS.out _ HSB.out).2 HLA.out HLB.out).mono ?_
          rintro r w' ⟨rfl, ht', hx', hy'⟩
          rw [List.append_assoc, ← HTA.out] at hx'
          rw [List.append_assoc, ← HTB.out] at hy'
          have HT' := Lib.hid (HT.out.trans ht')
          have HX' := Lib.hid hx'
          have HY' := Lib.hid hy'
          clear ht' hx' hy'
          go_wp2_with fail
          go_roundw
          case rel => exact ⟨k + 1, by omega, by go_num, HT', HX', HY'⟩
          case measure => simp [intOf]; omega
        · have HKK := Lib.hid (show t.args.take k = t.args from List.take_of_length_le (by omega))
          go_wp2_with fail
          go_end0
          refine ⟨rfl, HT.out, ?_, ?_⟩
          · have := HXk.out; rw [HKK.out] at this; rw [HNA.out, ← List.append_assoc]; exact this
          · have := HYk.out; rw [HKK.out] at this; rw [HNB.out, ← List.append_assoc]; exact this
end Go.Proofs.Ytekhoanjpnjaeaa
