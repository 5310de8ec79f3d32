/- Texts BuildTop, laid together. -/
import Derived.Test.YtekhoanjpnjaeaaNa
import Derived.Test.YtekhoanjpnjaeaaNj
/- The contract of ref06.Build, and its argument's reading. -/
namespace Go.Proofs.Ytekhoanjpnjaeaa
open Go.RowKit

instance : Inhabited Nd := ⟨⟨0, 0, 0, false, 0⟩⟩
end Go.Proofs.Ytekhoanjpnjaeaa

