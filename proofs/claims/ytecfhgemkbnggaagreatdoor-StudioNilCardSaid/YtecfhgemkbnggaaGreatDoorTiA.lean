/-
  Closed facts of the tie of the listed variables to the program text, first part.
-/
import Derived.Test.YtecfhgemkbnggaaGreatDoorRows
import Derived.LaidByTextLater
import Derived.SevenTiedAt
import Derived.KernelRfl
set_option linter.unusedVariables false
set_option linter.unusedSimpArgs false
set_option maxRecDepth 100000
namespace Go.Proofs.YtecfhgemkbnggaaGreatDoor
open Go

def tiLaid : List (String × DataW Unit) := [("unicode/utf8.acceptRanges", Rows.laid_unicode_utf8_acceptRanges), ("gouache/stroke.limits", Rows.laid_gouache_stroke_limits), ("gouache/digest.start", Rows.laid_gouache_digest_start), ("gouache/digest.round", Rows.laid_gouache_digest_round)]
def tiKinds : List LaidKind := [.data, .data, .data, .data]
theorem tiPin : Tryz.prog.pinnedFits "unicode/utf8.first" = true := by kernel_rfl
theorem tiFits : Tryz.prog.listedFits Rows.studioNilRow.laid = true := by kernel_rfl
theorem ti1 : Tryz.prog.worded (varsWordLater true) = true := by kernel_rfl
theorem ti2 : Tryz.prog.worded (varsWordLater !true) = false := by kernel_rfl
theorem ti3 : Tryz.prog.worded rootWordLater = true := by kernel_rfl
theorem ti4 : tiLaid.map (fun x => Tryz.prog.kindOfLater x.1) = tiKinds.map some := by kernel_rfl
theorem ti5 : (Tryz.prog.funcNamed "gosem.cut.vars").isSome = true := by kernel_rfl
theorem ti6 : varsNamedLaterB Tryz.prog (varsId Tryz.prog) tiLaid = true := by kernel_rfl

end Go.Proofs.YtecfhgemkbnggaaGreatDoor
