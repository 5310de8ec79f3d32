/- Texts Word, laid together. -/
import Derived.Test.YtekhoanjpnjaeaaNc
/- The contract of ref06.Word. -/
namespace Go.Proofs.Ytekhoanjpnjaeaa
open Go.RowKit

def wordL : List ByteArray := [⟨#[97]⟩, ⟨#[98]⟩, ⟨#[120, 48]⟩, ⟨#[116, 48]⟩, ⟨#[102, 95, 49]⟩, ⟨#[97, 98, 99, 100, 101, 102, 103, 104, 105, 106, 107, 108]⟩, ⟨#[110, 111, 119]⟩, ⟨#[]⟩, ⟨#[97, 98, 99, 100, 101, 102, 103, 104, 105, 106, 107, 108, 109]⟩, ⟨#[95, 120]⟩, ⟨#[120, 45, 121]⟩]
def wordV (n : Int) : ByteArray := wordL.getD (n % 11).toNat ByteArray.empty
end Go.Proofs.Ytekhoanjpnjaeaa

