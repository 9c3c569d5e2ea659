/-
  For every integer the law of the studio that concerns a nil studio and a studio on a nil store returns true, in whatever memory, on every schedule; the listed variables (tables of the program) are tied to the program text. Conditions: none beyond those of the given row.
-/
import Derived.Test.YtecfhgemkbnggaaGreatDoorCards
import Derived.Test.YtecfhgemkbnggaaGreatDoorGxAll
import Derived.Test.YtecfhgemkbnggaaGreatDoorFcC
import Derived.Test.YtecfhgemkbnggaaGreatDoorFcD
import Derived.Test.YtecfhgemkbnggaaGreatDoorTiB
import Derived.ProofKit
import Derived.OpenShut
import Derived.LaidMore
import Derived.Lay
import Derived.SevenTiedAt
import Derived.Stop.Joined
set_option linter.unusedVariables false
set_option linter.unusedSimpArgs false
set_option maxRecDepth 100000
namespace Go.Proofs.YtecfhgemkbnggaaGreatDoor
open Go Go.Gx Go.ChangeShapes Go.WideShapes Go.ChangeAt Go.RowKit

def zs1 : List Int := [1779033703, 3144134277, 1013904242, 2773480762, 1359893119, 2600822924, 528734635, 1541459225]
theorem gN1 : Tryz.prog.globalNamed "gouache/digest.start" = some 1 := by kernel_rfl
theorem gT1 : (Tryz.prog.globals[1]?).map (·.type) = some 473 := by kernel_rfl
theorem gU1 : Tryz.prog.underlying 473 = some (.array 8 340) := by kernel_rfl
theorem gE1 : Tryz.prog.underlying 340 = some (.int .u32) := by kernel_rfl
theorem gC1 : Tryz.prog.cellsOf 340 = 1 := by kernel_rfl
theorem gL1 : (gxG1.list 1 0).map (fun p => (zs1[p.1]?).map fun z => AV.int .u32 z) = (gxG1.list 1 0).map fun p => some p.2 := by kernel_rfl
theorem gM1 : ("gouache/digest.start", (.agg (zs1.map fun z => .lit (.int .u32 z)) : DataW Unit)) ∈ Rows.studioNilRow.laid := by
  show _ ∈ [("unicode/utf8.first", Rows.laid_unicode_utf8_first), ("unicode/utf8.acceptRanges", Rows.laid_unicode_utf8_acceptRanges), ("gouache/stroke.limits", Rows.laid_gouache_stroke_limits), ("gouache/digest.start", Rows.laid_gouache_digest_start), ("gouache/digest.round", Rows.laid_gouache_digest_round)]
  simp only [List.mem_cons]
  exact .inr (.inr (.inr (.inl rfl)))
def zs2 : List Int := [1116352408, 1899447441, 3049323471, 3921009573, 961987163, 1508970993, 2453635748, 2870763221, 3624381080, 310598401, 607225278, 1426881987, 1925078388, 2162078206, 2614888103, 3248222580, 3835390401, 4022224774, 264347078, 604807628, 770255983, 1249150122, 1555081692, 1996064986, 2554220882, 2821834349, 2952996808, 3210313671, 3336571891, 3584528711, 113926993, 338241895, 666307205, 773529912, 1294757372, 1396182291, 1695183700, 1986661051, 2177026350, 2456956037, 2730485921, 2820302411, 3259730800, 3345764771, 3516065817, 3600352804, 4094571909, 275423344, 430227734, 506948616, 659060556, 883997877, 958139571, 1322822218, 1537002063, 1747873779, 1955562222, 2024104815, 2227730452, 2361852424, 2428436474, 2756734187, 3204031479, 3329325298]
theorem gN2 : Tryz.prog.globalNamed "gouache/digest.round" = some 2 := by kernel_rfl
theorem gT2 : (Tryz.prog.globals[2]?).map (·.type) = some 559 := by kernel_rfl
theorem gU2 : Tryz.prog.underlying 559 = some (.array 64 340) := by kernel_rfl
theorem gE2 : Tryz.prog.underlying 340 = some (.int .u32) := by kernel_rfl
theorem gC2 : Tryz.prog.cellsOf 340 = 1 := by kernel_rfl
theorem gL2 : (gxG2.list 1 0).map (fun p => (zs2[p.1]?).map fun z => AV.int .u32 z) = (gxG2.list 1 0).map fun p => some p.2 := by kernel_rfl
theorem gM2 : ("gouache/digest.round", (.agg (zs2.map fun z => .lit (.int .u32 z)) : DataW Unit)) ∈ Rows.studioNilRow.laid := by
  show _ ∈ [("unicode/utf8.first", Rows.laid_unicode_utf8_first), ("unicode/utf8.acceptRanges", Rows.laid_unicode_utf8_acceptRanges), ("gouache/stroke.limits", Rows.laid_gouache_stroke_limits), ("gouache/digest.start", Rows.laid_gouache_digest_start), ("gouache/digest.round", Rows.laid_gouache_digest_round)]
  simp only [List.mem_cons]
  exact .inr (.inr (.inr (.inr (.inl rfl))))
theorem gxGlo_list : gxGlo.list 1 0 = [(1, gxG1), (2, gxG2)] := by kernel_rfl

theorem globs {w : World} (h : laidMetH Tryz.prog Rows.studioNilRow.laid w) : Globs (gxEnv gxMemo) 3 w ∧ 3 ≤ w.heap.size := by
  rw [MakeChecks.laidMetH_plain _ _ _ wi8] at h
  have r1 : ∀ {i : Nat} {z : Int}, zs1[i]? = some z → w.cell? ⟨1, i, none⟩ = some (.int .u32 z) := fun hz => ints_of_reads (Lib.laidMet.reads h gM1) gN1 gT1 gU1 gE1 gC1 rfl hz
  have r2 : ∀ {i : Nat} {z : Int}, zs2[i]? = some z → w.cell? ⟨2, i, none⟩ = some (.int .u32 z) := fun hz => ints_of_reads (Lib.laidMet.reads h gM2) gN2 gT2 gU2 gE2 gC2 rfl hz
  refine ⟨fun g c off a hg ha => ?_, ?_⟩
  · have hm := Tr.mem_list0 (t := gxGlo) hg
    rw [gxGlo_list] at hm
    simp only [List.mem_cons, Prod.mk.injEq, List.not_mem_nil, or_false] at hm
    rcases hm with ⟨rfl, rfl⟩ | ⟨rfl, rfl⟩
    · have h1 := map_mem gL1 (Tr.mem_list0 ha)
      simp only at h1
      cases hz : zs1[off]? with
      | none => rw [hz] at h1; cases h1
      | some z =>
        rw [hz] at h1
        cases h1
        exact ⟨by decide, _, r1 hz, .int _ _⟩
    · have h1 := map_mem gL2 (Tr.mem_list0 ha)
      simp only at h1
      cases hz : zs2[off]? with
      | none => rw [hz] at h1; cases h1
      | some z =>
        rw [hz] at h1
        cases h1
        exact ⟨by decide, _, r2 hz, .int _ _⟩
  · have hc := r2 (i := 0) (z := 1116352408) rfl
    apply Classical.byContradiction
    intro hn
    unfold World.cell? at hc
    rw [Array.getElem?_eq_none (by simp only; omega)] at hc
    cases hc

theorem lifted (os : Os) (started : os.Started) (H : Type) (enc : TypeId × Value → H) :
    ReturnsInHanded {} Tryz.checked os (nat_lit 3) .any (fun w args => (Rows.studioNilSpec.pre enc Tryz.prog Tryz.f3 [] false w args ∧ laidMetH Tryz.prog Rows.studioNilRow.laid w) ∧ sizedMet enc Tryz.prog Tryz.f3 (OpenSpec.ofChange Rows.studioNilSpec) false w args)
      (Rows.studioNilSpec.post enc Tryz.prog Tryz.f3 false true false false) := by
  refine returnsInHanded_of_change_and (C := Tryz.checked) (X := fun w _ => laidMetH Tryz.prog Rows.studioNilRow.laid w) (fun _ _ _ hh h => h.of_heap hh) own started caInits Tryz.func3
    (ChangeSpec.witness_shaped (enc := enc) (C := Tryz.checked) (os := os) (X := fun w _ => laidMetH Tryz.prog Rows.studioNilRow.laid w) false (World.laidAll Tryz.prog os Rows.studioNilRow.laid) #[.int .i64 0] 8 (World.laidAll_os _ _ _)
      (World.shaped_of_ZipB (wi1 os) (wi2 os)) (wi3 os) (wi4 H enc os) (wi5 H enc os)
      (by rw [MakeChecks.laidMetH_plain _ _ _ wi8]; exact laidMet_laidAll _ (wi6 os) (wi7 os))) ?_
  intro W base args ds gs before hval0 hW _ _ hL _
  have hval : ∀ (j : Nat) t v, Tryz.f3.params[j]? = some t → args[j]? = some v → Value.okWide Tryz.prog W .any base t v := hval0
  have hW' := hW
  obtain ⟨p, q, hA0, hV, rfl, _, _⟩ := hW
  have hA : DataW.TrodAll enc Tryz.prog W 0 (fun _ => true) true Tryz.f3.params.toList args.toList ds p := hA0
  rw [Tryz.params3] at hA hval
  obtain ⟨v0, d0, rfl, rfl, h0⟩ := trodAll_one hA
  obtain ⟨rfl, rfl⟩ := trodVars_none hV
  obtain ⟨x, rfl, rfl, rfl, wx⟩ := open_int Tryz.underlying3 (hval 0 3 v0 rfl rfl) h0
  simp only [List.append_nil] at hW'
  obtain ⟨hG, hB⟩ := globs hL
  refine (gxCalls hG hB x).mono fun e W' ⟨he, hb⟩ => ?_
  subst he
  exact ⟨_, rfl, _, _, _, [], [], [], hW', trodAll_mk1 (shut_bool Tryz.underlying4 _), trodAll_mk1 (shut_int Tryz.underlying3 wx), rfl, hb.below.frame _, fun h => by cases h⟩

theorem row_holds : Rows.StudioNilSaid :=
  OpenClaim.holds_of_wide (nat_lit 3) Tryz.f3 rfl rfl rfl rfl rfl rfl rfl ⟨rfl, rfl, rfl, rfl, rfl⟩ rfl rfl rfl rfl rfl fcNamed Tryz.func3 fcJoined fcInst fcWrap
    (fun os started H enc _ => lifted os started H enc)

theorem theTie : Tryz.prog.laidByTextLater tiLaid tiKinds true := Program.laidByTextLater_by_run 400 8 ti1 ti2 ti3 ti4 ti5 ti6 ti7 ti8 ti9
theorem rowTie : Rows.studioNilRow.laidByTextAt .later Tryz.pinned [.pinned, .data, .data, .data, .data] true :=
  OpenClaim.laidByTextAt_pinned rfl rfl theTie rfl rfl rfl rfl (fun y hy e => by
    simp only [Rows.studioNilRow, List.zip_cons_cons, List.zip_nil_right, List.mem_cons, List.mem_nil_iff, or_false] at hy
    rcases hy with rfl | rfl | rfl | rfl | rfl
    · exact ⟨tiPin, by kernel_rfl⟩
    · cases e
    · cases e
    · cases e
    · cases e) tiFits

theorem caGoes : false = Rows.studioNilRow.goesBy Tryz.pinned.checked.prog := by
  show false = (Tryz.prog.goesFrom Rows.studioNilRow.func || false)
  rw [Bool.or_false]
  unfold Program.goesFrom
  rw [fcNamed, Option.any_some, goes_of fcGoesK]

/-- For every integer the law returns true, and what it lists is tied to the program's text. -/
theorem card_holds : Rows.StudioNilCardSaid := by
  unfold Rows.StudioNilCardSaid Rows.studioNilCard
  exact Claim7.holds_tied_plain_at .later [] [.pinned, .data, .data, .data, .data] true (true, "27d14d6ae10ca6dd9d40d0e2c305d219ecfc7f423b14d60f067b4101ea5adb6c") true row_holds (fun _ h => by cases h) caWf (fun _ h => by cases h) rowTie rfl ⟨rfl, rfl⟩ caMain rfl
    (fun f fn hf hfn => by
      obtain rfl : f = (nat_lit 3) := Option.some.inj (fcNamed.symm.trans hf) |>.symm
      obtain rfl : fn = Tryz.f3 := (Option.some.inj (Tryz.func3.symm.trans hfn)).symm
      exact ⟨caLooks.symm, fun j t ht => by
        rw [Tryz.params3] at ht
        have hm : t ∈ [3] := by simpa using Array.mem_of_getElem? ht
        exact (show Tryz.prog.wantsStandIn t = false by simpa using List.all_eq_true.1 caStand t hm)⟩)
    caGoes
#print axioms card_holds

end Go.Proofs.YtecfhgemkbnggaaGreatDoor
