/- Closed facts on the loaded program, each by itself: every row of this seat asks them. -/
import Derived.Test.YtemeppfikpafbaaRows
import Derived.JoinedOf
import Derived.KernelRfl
import Derived.Test.YtemeppfikpafbaaKeyOf
namespace Go.Proofs.Ytemeppfikpafbaa
theorem kOwn : ownKnob Try.prog.godebug = none := by kernel_rfl
theorem kMaps : mapsRowed Try.prog = true := by kernel_rfl
theorem kStops : (Try.prog.stops == []) = true := by kernel_rfl
theorem kKnobs : (Try.prog.stopKnobs == []) = true := by kernel_rfl
theorem kKeys : (Rows.rankDegreesRow.plainKeys == Try.prog.plainKeys) = true := by kernel_rfl
theorem kHeard : Try.prog.stopsHeard = true := by kernel_rfl
theorem kEnter : Try.prog.mayEnter = true := by kernel_rfl
theorem kMake : (Try.prog.make == some Rows.rankDegreesRow.make) = true := by kernel_rfl
theorem kLift : (Rows.rankDegreesRow.lifted == Try.prog.liftsFinal) = true := by kernel_rfl
end Go.Proofs.Ytemeppfikpafbaa
