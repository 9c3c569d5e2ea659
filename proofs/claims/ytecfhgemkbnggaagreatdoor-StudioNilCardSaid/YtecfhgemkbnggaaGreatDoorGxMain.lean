/-
  The kernel runs the law itself, at an integer that is not known, to its end: it yields true.
-/
import Derived.Test.YtecfhgemkbnggaaGreatDoorGxVals
set_option linter.unusedVariables false
set_option linter.unusedSimpArgs false
set_option maxRecDepth 100000
namespace Go.Proofs.YtecfhgemkbnggaaGreatDoor
open Go Go.Gx

theorem gxMain : ends (acallR (gxEnv gxMemo) (nat_lit 1000000) (nat_lit 3) [.anyi .i64] ⟨.nil, nat_lit 0⟩) = some (.bool true) := by kernel_rfl

end Go.Proofs.YtecfhgemkbnggaaGreatDoor
