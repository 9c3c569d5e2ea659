/-
  What the runs tell: the law returns true at every integer, in every memory in which the listed variables hold their data.
-/
import Derived.Test.YtecfhgemkbnggaaGreatDoorGxRunA
import Derived.Test.YtecfhgemkbnggaaGreatDoorGxRunB
import Derived.Test.YtecfhgemkbnggaaGreatDoorGxRunC
import Derived.Test.YtecfhgemkbnggaaGreatDoorGxMain
set_option linter.unusedVariables false
set_option linter.unusedSimpArgs false
set_option maxRecDepth 100000
namespace Go.Proofs.YtecfhgemkbnggaaGreatDoor
open Go Go.Gx

theorem gxPlain : (gxMemo.all fun e => plainL e.2.1 && Gx.plain e.2.2) = true := by kernel_rfl
theorem gxPlain' : ∀ e ∈ gxMemo, plainL e.2.1 = true ∧ Gx.plain e.2.2 = true := fun e he => by
  have := List.all_eq_true.1 gxPlain e he
  simpa [Bool.and_eq_true] using this
theorem gxExts0 (B : Nat) : Exts (gxEnv []) B := gxExts (fun _ h => by cases h) (fun _ h => by cases h)
theorem gxMemo_mem {e : FuncId × List AV × AV} (h : e ∈ gxMemo) : ends (acallR (gxEnv []) (nat_lit 1000000) e.1 e.2.1 ⟨.nil, nat_lit 0⟩) = some e.2.2 := by
  simp only [gxMemo, List.mem_cons, List.not_mem_nil, or_false] at h
  rcases h with rfl | rfl | rfl | rfl | rfl | rfl | rfl
  · exact gxRun0
  · exact gxRun1
  · exact gxRun2
  · exact gxRun3
  · exact gxRun4
  · exact gxRun5
  · exact gxRun6

theorem gxExtsM (B : Nat) : Exts (gxEnv gxMemo) B :=
  gxExts gxPlain' fun e he _ hG hB _ ha cs => memo_of (gxOk []) gxMixed (gxExts0 B) (gxMemo_mem he) (gxPlain' e he).2 hG hB ha cs

/-- The law's call returns true, and leaves what was there as it was. -/
theorem gxCalls {B : Nat} {w : World} (hG : Globs (gxEnv gxMemo) B w) (hB : B ≤ w.heap.size) (n : Int) :
    Calls Tryz.prog 3 #[.int .i64 n] w fun e w' => e = .returned (.bool true) ∧ Fr (fun _ => none) ⟨.nil, 0⟩ w w' := by
  refine (calls_of (gxOk gxMemo) gxMixed (gxExtsM B) gxMain rfl hG hB (argv := #[.int .i64 n]) (.cons (.anyi _ _) .nil)).mono fun e w' h => ?_
  obtain ⟨vv, rfl, h2, h3⟩ := h
  cases h2
  exact ⟨rfl, h3⟩

end Go.Proofs.YtecfhgemkbnggaaGreatDoor
