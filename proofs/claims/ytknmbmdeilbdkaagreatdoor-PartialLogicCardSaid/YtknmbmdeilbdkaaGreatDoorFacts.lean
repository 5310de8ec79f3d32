/- Closed facts on the loaded program, each by itself. -/
import Derived.Test.YtknmbmdeilbdkaaGreatDoorRows
import Derived.JoinedOf
import Derived.ChangeSame
import Derived.KernelRfl
namespace Go.Proofs.YtknmbmdeilbdkaaGreatDoor
theorem kOwn : ownKnob Tryz.prog.godebug = none := by kernel_rfl
theorem kLaid : laidOutB Tryz.prog = true := by kernel_rfl
theorem kMaps : mapsRowed Tryz.prog = true := by kernel_rfl
theorem kStops : (Tryz.prog.stops == []) = true := by kernel_rfl
theorem kKnobs : (Tryz.prog.stopKnobs == []) = true := by kernel_rfl
theorem kKeys : (Rows.partialLogicRow.plainKeys == Tryz.prog.plainKeys) = true := by kernel_rfl
theorem kHeard : Tryz.prog.stopsHeard = true := by kernel_rfl
theorem kEnter : Tryz.prog.mayEnter = true := by kernel_rfl
theorem kMake : (Tryz.prog.make == some Rows.partialLogicRow.make) = true := by kernel_rfl
theorem kLift : (Rows.partialLogicRow.lifted == Tryz.prog.liftsFinal) = true := by kernel_rfl
theorem mixed : Tryz.prog.follows .mixedOrders = true := by kernel_rfl
end Go.Proofs.YtknmbmdeilbdkaaGreatDoor
