/- The contract of ref10.place. -/
import Derived.Test.YtekhoanjpnjaeaaFoldTop
import Derived.Test.YtekhoanjpnjaeaaRow
namespace Go.Proofs.Ytekhoanjpnjaeaa
open Go.RowKit

def placeN : List ByteArray → ByteArray → Option Nat
  | [], _ => none
  | x :: xs, s => if (x.toList == s.toList) = true then some 0 else (placeN xs s).map (· + 1)
def placeV (l : List ByteArray) (s : ByteArray) : Int := match placeN l s with | some i => i | none => -1
theorem placeN_some : ∀ (l : List ByteArray) (s : ByteArray) (k : Nat) (hk : k < l.length), (∀ i (h : i < k), (l[i].toList == s.toList) = false) → (l[k].toList == s.toList) = true → placeN l s = some k
  | x :: xs, s, 0, _, _, h => by simp only [List.getElem_cons_zero] at h; simp only [placeN, h, if_true]
  | x :: xs, s, k + 1, hk, hn, h => by
    have h0 := hn 0 (by omega)
    simp only [List.getElem_cons_zero] at h0
    simp only [List.getElem_cons_succ] at h
    have := placeN_some xs s k (by simpa using hk) (fun i hi => by have := hn (i + 1) (by omega); simpa using this) h
    simp only [placeN, h0, this, Option.map_some]
    rfl
  | [], _, _, hk, _, _ => by simp at hk
theorem placeN_none : ∀ (l : List ByteArray) (s : ByteArray), (∀ i (h : i < l.length), (l[i].toList == s.toList) = false) → placeN l s = none
  | [], _, _ => rfl
  | x :: xs, s, hn => by
    have h0 := hn 0 (by simp)
    simp only [List.getElem_cons_zero] at h0
    have := placeN_none xs s (fun i hi => by have := hn (i + 1) (by simpa using hi); simpa using this)
    simp only [placeN, h0, this, Option.map_none]
    rfl
theorem placeN_lt : ∀ (l : List ByteArray) (s : ByteArray) (k : Nat), placeN l s = some k → ∃ h : k < l.length, (l[k].toList == s.toList) = true
  | [], _, _, h => by cases h
  | x :: xs, s, k, h => by
    simp only [placeN] at h
    split at h
    · rename_i hx; cases h; exact ⟨by simp, hx⟩
    · cases hp : placeN xs s with
      | none => rw [hp] at h; cases h
      | some j =>
        rw [hp] at h
        cases h
        obtain ⟨hj, hm⟩ := placeN_lt xs s j hp
        exact ⟨by simpa using hj, by simpa using hm⟩

theorem place_any (S : Nat → Prop) (l : List ByteArray) (s : ByteArray) (v : Value) (w : World) (hl : l.length < 4294967296) (h : Row S w 1 l.length v (l.map .string)) :
    Calls Try.prog 128 #[v, .string s] w fun e w' => e = .returned (.int .i64 (placeV l s)) ∧ w = w' := by
  obtain ⟨a, cap, rfl, _⟩ := h.shape
  have HR := Lib.hid h; clear h
  generalize hp : placeV l s = pv
  have HP := Lib.hid hp; clear hp
  go_enter Try.func128, Try.ntmps128
  go_wp2_with fail
  go_loop [9] (fun i => ∃ k : Nat, k ≤ l.length ∧ i = .int .i64 k ∧ Hid (∀ i (h : i < l.length), i < k → (l[i].toList == s.toList) = false)) (fun i => l.length - (intOf i).toNat)
  case atStart => exact ⟨0, Nat.zero_le _, rfl, Lib.hid fun i _ h => absurd h (Nat.not_lt_zero _)⟩
  case round =>
    obtain ⟨k, hk, rfl, HN⟩ := hrel
    by_cases hlt : k < l.length
    · obtain ⟨b, off, rfl, _, _, hc⟩ := HR.out.at (by omega)
      have g0 := hc k (.string l[k]) (by simp [hlt])
      clear hc
      have HS := Lib.hid (placeN_some l s k hlt (fun i h => HN.out i (by omega) h))
      have HK := Lib.hid (fun (h : (l[k].toList == s.toList) = false) i (hi : i < l.length) (hik : i < k + 1) => show (l[i].toList == s.toList) = false by
        by_cases e : i = k
        · subst e; exact h
        · exact HN.out i hi (by omega))
      generalize l[k] = x at *
      cases hx : (x.toList == s.toList) with
      | true =>
        have HX := Lib.hid hx
        go_wp2_with fail
        go_ret
        exact ⟨by rw [← HP.out]; unfold placeV; rw [HS.out HX.out]; rfl, rfl⟩
      | false =>
        have HX := Lib.hid hx
        go_wp2_with fail
        go_round
        case rel => exact ⟨k + 1, by omega, by go_num, Lib.hid (HK.out HX.out)⟩
        case measure => simp [intOf]; omega
    · go_wp2_with fail
      go_ret
      exact ⟨by rw [← HP.out]; unfold placeV; rw [placeN_none l s (fun i h => HN.out i h (by omega))]; rfl, rfl⟩
end Go.Proofs.Ytekhoanjpnjaeaa
