/- Closed facts on the loaded program, each by itself: every row of this seat asks them. -/
import Derived.Test.YtekhoanjpnjaeaaRows
import Derived.JoinedOf
import Derived.KernelRfl
namespace Go.Proofs.Ytekhoanjpnjaeaa
theorem kOwn : ownKnob Try.prog.godebug = none := by kernel_rfl
theorem kLaid : laidOutB Try.prog = true := by kernel_rfl
theorem kMaps : mapsRowed Try.prog = true := by kernel_rfl
theorem kStops : (Try.prog.stops == []) = true := by kernel_rfl
theorem kKnobs : (Try.prog.stopKnobs == []) = true := by kernel_rfl
theorem kKeys : (Rows.exprOpsRow.plainKeys == Try.prog.plainKeys) = true := by kernel_rfl
theorem kHeard : Try.prog.stopsHeard = true := by kernel_rfl
theorem kEnter : Try.prog.mayEnter = true := by kernel_rfl
theorem kMake : (Try.prog.make == some Rows.exprOpsRow.make) = true := by kernel_rfl
theorem kLift : (Rows.exprOpsRow.lifted == Try.prog.liftsFinal) = true := by kernel_rfl
end Go.Proofs.Ytekhoanjpnjaeaa
