/-
  The kernel runs calls of the closed program to their ends.
-/
import Derived.Test.YtecfhgemkbnggaaGreatDoorGxVals
set_option linter.unusedVariables false
set_option linter.unusedSimpArgs false
set_option maxRecDepth 100000
namespace Go.Proofs.YtecfhgemkbnggaaGreatDoor
open Go Go.Gx

theorem gxRun0 : ends (acallR (gxEnv []) (nat_lit 1000000) (nat_lit 359) gxArg0 ⟨.nil, nat_lit 0⟩) = some gxVal0 := by kernel_rfl
theorem gxRun1 : ends (acallR (gxEnv []) (nat_lit 1000000) (nat_lit 387) gxArg1 ⟨.nil, nat_lit 0⟩) = some gxVal1 := by kernel_rfl
theorem gxRun2 : ends (acallR (gxEnv []) (nat_lit 1000000) (nat_lit 387) gxArg2 ⟨.nil, nat_lit 0⟩) = some gxVal2 := by kernel_rfl

end Go.Proofs.YtecfhgemkbnggaaGreatDoor
