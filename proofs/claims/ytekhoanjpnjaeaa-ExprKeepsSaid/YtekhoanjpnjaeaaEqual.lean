/- syntax.EqualExpr returns true for two values that hold one tree. -/
import Derived.Test.YtekhoanjpnjaeaaFoldTop
namespace Go.Proofs.Ytekhoanjpnjaeaa
open Go.RowKit

def EqSaid (d : Nat) : Prop := ∀ (S S' : Nat → Prop) (d2 : Nat) (t : Ex) (c c' : Value) (w : World), Flds .u8 t → RepS .u8 S w d t.args c → RepS .u8 S' w d2 t.args c' →
    Calls Try.prog 25 #[agg .u8 t c, agg .u8 t c'] w fun e w' => e = .returned (.bool true) ∧ Below w.heap.size w w'

theorem eqF_any (d : Nat) (ts : List Ex) (IH : ts.length ≠ 0 → EqSaid d) (S S' : Nat → Prop) (d2 : Nat) (c c' : Value) (w : World) (hlen : ts.length < 4294967296) (h1 : RepS .u8 S w (d + 1) ts c) (h2 : RepS .u8 S' w d2 ts c') :
    Calls Try.prog 68 #[c, c', .func (.func 25) #[] #[]] w fun e w' => e = .returned (.bool true) ∧ Below w.heap.size w w' := by
  obtain ⟨a, cap, rfl⟩ := h1.shape
  obtain ⟨a', cap', rfl⟩ := h2.shape
  have H1 := Lib.hid h1; clear h1
  have H2 := Lib.hid h2; clear h2
  have HIH := Lib.hid IH; clear IH
  go_enter Try.func68, Try.ntmps68
  go_wp2_with fail
  go_loopw [17] (fun i wr => ∃ k : Nat, k ≤ ts.length ∧ i = .int .i64 k ∧ Hid (Below w.heap.size w wr)) (fun i _ => ts.length - (intOf i).toNat)
  case atStart => exact ⟨0, Nat.zero_le _, rfl, Lib.hid (Below.refl _ _)⟩
  case round =>
    obtain ⟨k, hk, rfl, HB⟩ := hrel
    by_cases hlt : k < ts.length
    · have hne : ts ≠ [] := by intro e; rw [e] at hlt; simp at hlt
      obtain ⟨d', b, off, hd, rfl, _, _, hat⟩ := H1.out.at hne
      obtain ⟨d2', b', off', rfl, rfl, _, _, hat'⟩ := H2.out.at hne
      obtain rfl : d = d' := by omega
      clear hd hne
      obtain ⟨g0, g1, g2, gf, cc, g3, gc⟩ := (hat k hlt).below HB.out
      obtain ⟨k0, k1, k2, _, cc', k3, kc⟩ := (hat' k hlt).below HB.out
      obtain ⟨ac, capc, rfl⟩ := gc.shape
      obtain ⟨ac', capc', rfl⟩ := kc.shape
      clear hat hat'
      have HG := Lib.hid (And.intro gf (And.intro gc kc)); clear gf gc kc
      generalize ts[k] = x at *
      have hb := cell_lt g0
      have hb' := cell_lt k0
      have hb1 : b' < wr.heap.size + 1 := by omega
      go_wp2_with fail
      generalize hw2 : (wr.alloc (.cells #[.int .u8 x.op, .string x.name, .int .i64 x.n, .slice ac x.args.length capc] 41)).alloc (.cells #[.int .u8 x.op, .string x.name, .int .i64 x.n, .slice ac' x.args.length capc'] 41) = w2
      have hB2 : Below wr.heap.size wr w2 := by rw [← hw2]; exact ((Below.refl _ _).alloc (Nat.le_refl _) _).alloc (by simp) _
      clear hw2
      have HB2 := Lib.hid hB2; clear hB2
      refine (HIH.out (by omega) S S' d2' x (.slice ac x.args.length capc) (.slice ac' x.args.length capc') w2 HG.out.1 (HG.out.2.1.below HB2.out) (HG.out.2.2.below HB2.out)).mono ?_
      rintro e w3 ⟨rfl, hb3⟩
      have HB3 := Lib.hid (HB.out.trans ((HB2.out.trans (hb3.mono HB2.out.size)).mono HB.out.size)); clear hb3
      go_wp2_with fail
      go_roundw
      case rel => exact ⟨k + 1, by omega, by go_num, HB3⟩
      case measure => simp [intOf]; omega
    · go_wp2_with fail
      go_ret
      exact ⟨rfl, HB.out⟩

theorem equal_any (d : Nat) : EqSaid d := by
  induction d using Nat.strongRecOn with
  | _ d ih =>
    intro S S' d2 t c c' w hf h1 h2
    have IH := Lib.hid ih; clear ih
    obtain ⟨a, cap, rfl⟩ := h1.shape
    obtain ⟨a', cap', rfl⟩ := h2.shape
    have H1 := Lib.hid h1; clear h1
    have H2 := Lib.hid h2; clear h2
    have HF := Lib.hid hf; clear hf
    unfold agg
    go_enter Try.func25, Try.ntmps25
    go_wp2_with fail
    generalize hw2 : (w.alloc (.cells #[.int .u8 t.op, .string t.name, .int .i64 t.n, .slice a t.args.length cap] 41)).alloc (.cells #[.int .u8 t.op, .string t.name, .int .i64 t.n, .slice a' t.args.length cap'] 41) = w2
    have hB2 : Below w.heap.size w w2 := by rw [← hw2]; exact ((Below.refl _ _).alloc (Nat.le_refl _) _).alloc (by simp) _
    clear hw2
    have HB2 := Lib.hid hB2; clear hB2
    have HC : Hid (Calls Try.prog 68 #[.slice a t.args.length cap, .slice a' t.args.length cap', .func (.func 25) #[] #[]] w2 fun e w' => e = .returned (.bool true) ∧ Below w2.heap.size w2 w') := by
      cases d with
      | zero =>
        have he := H1.out.zero.1
        exact Lib.hid (eqF_any 0 t.args (fun h => absurd (by rw [he]; rfl) h) S S' d2 _ _ w2 HF.out.len ((H1.out.below HB2.out).mono (fun _ h => h) (fun _ _ _ _ h => h) (Nat.zero_le _)) (H2.out.below HB2.out))
      | succ d => exact Lib.hid (eqF_any d t.args (fun _ => IH.out d (by omega)) S S' d2 _ _ w2 HF.out.len (H1.out.below HB2.out) (H2.out.below HB2.out))
    refine HC.out.mono ?_
    rintro e w3 ⟨rfl, hb3⟩
    have HB3 := Lib.hid (HB2.out.trans (hb3.mono HB2.out.size)); clear hb3
    go_wp2_with fail
    go_ret
    exact ⟨rfl, HB3.out⟩
end Go.Proofs.Ytekhoanjpnjaeaa
