/- Texts Word, laid together. -/
import Derived.Test.YtekhoanjpnjaeaaDc
/- The contract of ref06.Word. -/
namespace Go.Proofs.Ytekhoanjpnjaeaa
open Go.RowKit

def wordL : List ByteArray := [⟨#[97]⟩, ⟨#[98]⟩, ⟨#[120, 48]⟩, ⟨#[116, 48]⟩, ⟨#[102, 95, 49]⟩, ⟨#[97, 98, 99, 100, 101, 102, 103, 104, 105, 106, 107, 108]⟩, ⟨#[110, 111, 119]⟩, ⟨#[]⟩, ⟨#[97, 98, 99, 100, 101, 102, 103, 104, 105, 106, 107, 108, 109]⟩, ⟨#[95, 120]⟩, ⟨#[120, 45, 121]⟩]
def wordV (n : Int) : ByteArray := wordL.getD (n % 11).toNat ByteArray.empty
theorem wordV_size (n : Int) (_h : 0 ≤ n) : (wordV n).size ≤ maxLen := by
  have h1 : 0 ≤ n % 11 ∧ n % 11 < 11 := by omega
  unfold wordV
  rcases (show n % 11 = 0 ∨ n % 11 = 1 ∨ n % 11 = 2 ∨ n % 11 = 3 ∨ n % 11 = 4 ∨ n % 11 = 5 ∨ n % 11 = 6 ∨ n % 11 = 7 ∨ n % 11 = 8 ∨ n % 11 = 9 ∨ n % 11 = 10 by omega) with e | e | e | e | e | e | e | e | e | e | e <;> rw [e] <;> decide

set_option maxRecDepth 100000 in
set_option maxHeartbeats 2000000 in
theorem word_any (n : Int) (w : World) (h0 : 0 ≤ n) (h1 : n ≤ 255) : Calls Try.prog 110 #[.int .u8 n] w fun e w' => e = .returned (.string (wordV n)) ∧ Below w.heap.size w w' := by
  rcases (show n % 11 = 0 ∨ n % 11 = 1 ∨ n % 11 = 2 ∨ n % 11 = 3 ∨ n % 11 = 4 ∨ n % 11 = 5 ∨ n % 11 = 6 ∨ n % 11 = 7 ∨ n % 11 = 8 ∨ n % 11 = 9 ∨ n % 11 = 10 by omega) with e | e | e | e | e | e | e | e | e | e | e
  all_goals
    go_enter Try.func110, Try.ntmps110
    go_wp2
    go_ret
    exact ⟨by unfold wordV; rw [e]; rfl, (Below.refl _ _).alloc (Nat.le_refl _) _⟩

end Go.Proofs.Ytekhoanjpnjaeaa

