/-
  The kernel runs calls of the closed program to their ends.
-/
import Derived.Test.YtecfhgemkbnggaaGreatDoorGxVals
set_option linter.unusedVariables false
set_option linter.unusedSimpArgs false
set_option maxRecDepth 100000
namespace Go.Proofs.YtecfhgemkbnggaaGreatDoor
open Go Go.Gx

theorem gxRun3 : ends (acallR (gxEnv []) (nat_lit 1000000) (nat_lit 387) gxArg3 ⟨.nil, nat_lit 0⟩) = some gxVal3 := by kernel_rfl
theorem gxRun4 : ends (acallR (gxEnv []) (nat_lit 1000000) (nat_lit 387) gxArg4 ⟨.nil, nat_lit 0⟩) = some gxVal4 := by kernel_rfl
theorem gxRun5 : ends (acallR (gxEnv []) (nat_lit 1000000) (nat_lit 387) gxArg5 ⟨.nil, nat_lit 0⟩) = some gxVal5 := by kernel_rfl

end Go.Proofs.YtecfhgemkbnggaaGreatDoor
