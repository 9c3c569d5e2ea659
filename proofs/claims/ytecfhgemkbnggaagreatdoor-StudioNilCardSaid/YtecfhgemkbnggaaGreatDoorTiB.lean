/-
  Closed facts of the tie, second part: the run of the variables own initialisers.
-/
import Derived.Test.YtecfhgemkbnggaaGreatDoorTiA
set_option linter.unusedVariables false
set_option linter.unusedSimpArgs false
set_option maxRecDepth 100000
namespace Go.Proofs.YtecfhgemkbnggaaGreatDoor
open Go

theorem ti7 : ∀ os tape, varsDone Tryz.prog 400 (varsId Tryz.prog) os tape = true := fun _ _ => by kernel_rfl
theorem ti8 : ∀ os tape, (DataW.laidRun Tryz.prog (varsWorld Tryz.prog 400 (varsId Tryz.prog) os tape).memory 8 (tiLaid.map (·.1))).map (·.1) = some tiLaid := fun _ _ => by kernel_rfl
theorem ti9 : ∀ os tape, (DataW.laidRun Tryz.prog (varsWorld Tryz.prog 400 (varsId Tryz.prog) os tape).memory 8 (tiLaid.map (·.1))).map (fun x => decide x.2.Nodup && laidRowsB Tryz.prog (varsWorld Tryz.prog 400 (varsId Tryz.prog) os tape).memory x.2) = some true := fun _ _ => by kernel_rfl

end Go.Proofs.YtecfhgemkbnggaaGreatDoor
