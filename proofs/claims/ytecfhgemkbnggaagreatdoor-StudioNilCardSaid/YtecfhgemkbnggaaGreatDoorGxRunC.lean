/-
  The kernel runs calls of the closed program to their ends.
-/
import Derived.Test.YtecfhgemkbnggaaGreatDoorGxVals
set_option linter.unusedVariables false
set_option linter.unusedSimpArgs false
set_option maxRecDepth 100000
namespace Go.Proofs.YtecfhgemkbnggaaGreatDoor
open Go Go.Gx

theorem gxRun6 : ends (acallR (gxEnv []) (nat_lit 1000000) (nat_lit 387) gxArg6 ⟨.nil, nat_lit 0⟩) = some gxVal6 := by kernel_rfl

end Go.Proofs.YtecfhgemkbnggaaGreatDoor
