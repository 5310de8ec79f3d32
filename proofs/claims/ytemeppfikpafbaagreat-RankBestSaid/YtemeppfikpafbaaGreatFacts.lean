/- Closed facts on the loaded program, each by itself: every row of this seat asks them. -/
import Derived.Test.YtemeppfikpafbaaGreatRows
import Derived.JoinedOf
import Derived.KernelRfl
import Derived.Test.YtemeppfikpafbaaGreatKeyOf
namespace Go.Proofs.YtemeppfikpafbaaGreat
theorem kOwn : ownKnob Tryz.prog.godebug = none := by kernel_rfl
theorem kMaps : mapsRowed Tryz.prog = true := by kernel_rfl
theorem kStops : (Tryz.prog.stops == []) = true := by kernel_rfl
theorem kKnobs : (Tryz.prog.stopKnobs == []) = true := by kernel_rfl
theorem kKeys : (Rows.rankBestRow.plainKeys == Tryz.prog.plainKeys) = true := by kernel_rfl
theorem kHeard : Tryz.prog.stopsHeard = true := by kernel_rfl
theorem kEnter : Tryz.prog.mayEnter = true := by kernel_rfl
theorem kMake : (Tryz.prog.make == some Rows.rankBestRow.make) = true := by kernel_rfl
theorem kLift : (Rows.rankBestRow.lifted == Tryz.prog.liftsFinal) = true := by kernel_rfl
end Go.Proofs.YtemeppfikpafbaaGreat
