/-
  The closed facts that the row asks, joined.
-/
import Derived.Test.YtecfhgemkbnggaaGreatDoorFcA
import Derived.Test.YtecfhgemkbnggaaGreatDoorFcB
import Derived.KernelRfl
set_option linter.unusedVariables false
set_option linter.unusedSimpArgs false
set_option maxRecDepth 100000
namespace Go.Proofs.YtecfhgemkbnggaaGreatDoor
open Go Go.Gx

theorem fcJoined : joinedFacts Tryz.prog (nat_lit 3) Tryz.f3 Rows.studioNilSpec Rows.studioNilRow = true := by
  unfold joinedFacts
  simp only [Bool.and_eq_true]
  refine ⟨⟨⟨⟨⟨⟨⟨⟨⟨⟨⟨⟨⟨⟨⟨⟨⟨⟨⟨⟨⟨⟨⟨⟨⟨⟨⟨⟨⟨⟨⟨?_, fcLaidOut⟩, fcMaps⟩, ?_⟩, ?_⟩, ?_⟩, ?_⟩, ?_⟩, ?_⟩, ?_⟩, ?_⟩, ?_⟩, ?_⟩, ?_⟩, ?_⟩, ?_⟩, ?_⟩, ?_⟩, ?_⟩, ?_⟩, ?_⟩, ?_⟩, ?_⟩, ?_⟩, fcHeard⟩, fcEnter⟩, ?_⟩, ?_⟩, ?_⟩, ?_⟩, ?_⟩, ?_⟩
  case refine_8 => rw [fcPlace]; exact beq_self_eq_true _
  case refine_9 => rw [fcUnf]; rfl
  case refine_10 => rw [fcRec]; rfl
  case refine_11 => rw [fcVars]; exact beq_self_eq_true _
  all_goals kernel_rfl
theorem fcInst : Tryz.f3.isInstance Tryz.prog Rows.studioNilRow.origin Rows.studioNilRow.targs := of_decide_eq_true (by kernel_rfl)
theorem fcWrap : Tryz.f3.isWrapper Tryz.prog Rows.studioNilRow.wrapper Rows.studioNilRow.mainSum := by unfold Func.isWrapper; first | (rw [if_pos (by decide +kernel)]; kernel_rfl) | (rw [if_neg (by decide +kernel)]; exact ⟨rfl, rfl⟩)

end Go.Proofs.YtecfhgemkbnggaaGreatDoor
