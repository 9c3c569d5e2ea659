/-
  Closed facts of the witness and of the card, by the kernel.
-/
import Derived.Test.YtecfhgemkbnggaaGreatDoorRows
import Derived.ProofKit
import Derived.LaidMore
import Derived.Lay
import Derived.SevenTiedAt
import Derived.Stop.Joined
import Derived.KernelRfl
set_option linter.unusedVariables false
set_option linter.unusedSimpArgs false
set_option maxRecDepth 100000
namespace Go.Proofs.YtecfhgemkbnggaaGreatDoor
open Go Go.ChangeShapes Go.WideShapes Go.ChangeAt Go.RowKit

theorem wi1 (os : Os) : (((World.laidAll Tryz.prog os Rows.studioNilRow.laid).forCall (fun _ _ => 0) ⟨#[], #[.int .i64 0], []⟩)).variablesZipB Tryz.prog = true := by kernel_rfl
theorem wi2 (os : Os) : (((World.laidAll Tryz.prog os Rows.studioNilRow.laid).forCall (fun _ _ => 0) ⟨#[], #[.int .i64 0], []⟩).heap.toList.drop Tryz.prog.globals.size).take ((begin Tryz.prog (fun _ _ => 0) default).world.heap.size - Tryz.prog.globals.size) = (begin Tryz.prog (fun _ _ => 0) default).world.heap.toList.drop Tryz.prog.globals.size := by kernel_rfl
theorem wi3 (os : Os) : Input.okWideB Tryz.prog ((World.laidAll Tryz.prog os Rows.studioNilRow.laid).forCall (fun _ _ => 0) ⟨#[], #[.int .i64 0], []⟩) (nat_lit 3) ⟨#[], #[.int .i64 0], []⟩ = true := by kernel_rfl
theorem wi4 (H : Type) (enc : TypeId × Value → H) (os : Os) : Rows.studioNilSpec.preB enc Tryz.prog Tryz.f3 [] false ((World.laidAll Tryz.prog os Rows.studioNilRow.laid).forCall (fun _ _ => 0) ⟨#[], #[.int .i64 0], []⟩).memory #[.int .i64 0] 8 = true := by kernel_rfl
theorem wi5 (H : Type) (enc : TypeId × Value → H) (os : Os) : Rows.studioNilSpec.sizedB enc Tryz.prog Tryz.f3 false ((World.laidAll Tryz.prog os Rows.studioNilRow.laid).forCall (fun _ _ => 0) ⟨#[], #[.int .i64 0], []⟩).memory #[.int .i64 0] 8 = true := by kernel_rfl
theorem wi6 (os : Os) : (World.holding Tryz.prog os ⟨#[], #[], []⟩).layFits Tryz.prog Rows.studioNilRow.laid [] = true := by kernel_rfl
theorem wi7 (os : Os) : (World.holding Tryz.prog os ⟨#[], #[], []⟩).layIfaces Tryz.prog Rows.studioNilRow.laid (World.laidAll Tryz.prog os Rows.studioNilRow.laid) = true := by kernel_rfl
theorem wi8 : (Rows.studioNilRow.laid.all fun x => x.2.handleName?.isNone) = true := by kernel_rfl
theorem caWf : Rows.studioNilRow.wfByText (OpenSpec.ofChange Rows.studioNilSpec) = true := by kernel_rfl
theorem caMain : Tryz.pinned.checked.prog.mainIs = some ((true, "27d14d6ae10ca6dd9d40d0e2c305d219ecfc7f423b14d60f067b4101ea5adb6c").1, (true, "27d14d6ae10ca6dd9d40d0e2c305d219ecfc7f423b14d60f067b4101ea5adb6c").2.toList) := by kernel_rfl
theorem caLooks : Tryz.prog.looks [] = true := by kernel_rfl
theorem caStand : ([(nat_lit 3)].all fun u => !Tryz.prog.wantsStandIn u) = true := by kernel_rfl
theorem own : ownKnob Tryz.prog.godebug = none := by kernel_rfl
theorem caInits : Tryz.prog.inits.idxOf? (nat_lit 3) = none := by kernel_rfl

end Go.Proofs.YtecfhgemkbnggaaGreatDoor
