/-
  Closed facts of the program, by the kernel.
-/
import Derived.Test.YtecfhgemkbnggaaGreatDoorRows
import Derived.JoinedOf
import Derived.KernelRfl
set_option linter.unusedVariables false
set_option linter.unusedSimpArgs false
set_option maxRecDepth 100000
namespace Go.Proofs.YtecfhgemkbnggaaGreatDoor
open Go

theorem fcNamed : Tryz.prog.funcNamed Rows.studioNilRow.func = some (nat_lit 3) := by kernel_rfl
theorem fcMaps : mapsRowed Tryz.prog = true := by kernel_rfl
theorem fcHeard : Tryz.prog.stopsHeard = true := by kernel_rfl
theorem fcEnter : Tryz.prog.mayEnter = true := by kernel_rfl

end Go.Proofs.YtecfhgemkbnggaaGreatDoor
