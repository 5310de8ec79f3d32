/- The law's same (25), where the shares are the wanted ones. -/
import Derived.Test.YtemeppfikpafbaaGreatCaus
namespace Go.Proofs.YtemeppfikpafbaaGreat
open Go.RowKit
end Go.Proofs.YtemeppfikpafbaaGreat
