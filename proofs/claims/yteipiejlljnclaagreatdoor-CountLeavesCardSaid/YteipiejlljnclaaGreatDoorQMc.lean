/- CountLeaves: the masses of all leaves of the maker's diagram sum to 1: for every list of numbers the law returns true, and the list reads afterwards as it read before. Conditions: the three listed tables of the library read as the program's text lays them (the card ties them); each slice that comes in is one that fits a machine, as the row says. -/
import Derived.Test.YteipiejlljnclaaGreatDoorQMa
import Derived.Test.YteipiejlljnclaaGreatDoorQKh
set_option linter.unusedVariables false
set_option linter.unusedSimpArgs false
namespace Go.Proofs.YteipiejlljnclaaGreatDoor
open Go Go.AL Go.ChangeShapes Go.WideShapes Go.ChangeAt Go.WideMaps Go.WideElems Go.RowKit
set_option maxRecDepth 100000 in
theorem liftedL (os : Os) (started : os.Started) (H : Type) (enc : TypeId × Value → H) :
  ReturnsInHanded {} Tryz.checked os 5 .any (fun w args => (Rows.countLeavesSpec.pre enc Tryz.prog Tryz.f5 [] false w args ∧ laidMetH Tryz.prog laid3 w) ∧ sizedMet enc Tryz.prog Tryz.f5 (OpenSpec.ofChange Rows.countLeavesSpec) false w args)
   (Rows.countLeavesSpec.post enc Tryz.prog Tryz.f5 false true false false) := by
 refine returnsInHanded_of_change_and (C := Tryz.checked) (X := fun w _ => laidMetH Tryz.prog laid3 w) (fun _ _ _ hh h => h.of_heap hh) own_knob started (by kernel_rfl) Tryz.func5
  (ChangeSpec.witness_shaped (enc := enc) (C := Tryz.checked) (os := os) (X := fun w _ => laidMetH Tryz.prog laid3 w) false (World.doorLaid Tryz.prog 24 os) #[.slice none 0 0] 8 rfl (World.shaped_of_RefB (by kernel_rfl) (by kernel_rfl)) (by kernel_rfl) (by kernel_rfl) (by kernel_rfl) (door_met os _)) ?_
 intro W base args ds gs before hval hW _ hsz _ _
 exact law_post rfl rfl rfl (fun _ _ => rfl) c_Leaves W args ds gs before hval hW hsz
theorem f_wfL : Rows.countLeavesRow.wf (OpenSpec.ofChange Rows.countLeavesSpec) = true := by kernel_rfl
theorem f_laidOutL : laidOutB Tryz.pinned.checked.prog = true := by kernel_rfl
theorem f_rowedL : mapsRowed Tryz.pinned.checked.prog = true := by kernel_rfl
theorem f_readsL : Tryz.f5.params.all (Tryz.pinned.checked.prog.readableRec ·) = true := by kernel_rfl
theorem f_tie0L : namedTie Tryz.pinned.checked.prog Rows.countLeavesRow.named Rows.countLeavesSpec.vars = true := by kernel_rfl
theorem f_stopsL : (Rows.countLeavesRow.stops == []) = true := by kernel_rfl
theorem f_pstopsL : (Tryz.pinned.checked.prog.stops == []) = true := by kernel_rfl
theorem f_knobsL : (Rows.countLeavesRow.knobs == []) = true := by kernel_rfl
theorem f_pknobsL : (Tryz.pinned.checked.prog.stopKnobs == []) = true := by kernel_rfl
theorem f_inPlaceL : (Rows.countLeavesRow.inPlace == Tryz.pinned.checked.prog.inPlace 5) = true := by kernel_rfl
theorem f_unfL : (Rows.countLeavesRow.unfollowed == Tryz.pinned.checked.prog.unfollowed 5) = true := by kernel_rfl
theorem f_recL : (Rows.countLeavesRow.recurses == Tryz.pinned.checked.prog.recurses 5) = true := by kernel_rfl
theorem f_namedL : (Rows.countLeavesRow.named == Tryz.pinned.checked.prog.varsNamed 5) = true := by kernel_rfl
theorem f_mapsL : (Rows.countLeavesRow.maps == (Tryz.f5.params.toList ++ Rows.countLeavesSpec.plain.varTypes Tryz.pinned.checked.prog).any (Tryz.pinned.checked.prog.mapsRec ·)) = true := by kernel_rfl
theorem f_ifacesL : (Rows.countLeavesRow.ifaces == (Tryz.f5.params.toList ++ Rows.countLeavesSpec.plain.varTypes Tryz.pinned.checked.prog).any (Tryz.pinned.checked.prog.ifacesRec ·)) = true := by kernel_rfl
theorem f_mapsOutL : (Rows.countLeavesRow.mapsOut == Tryz.pinned.checked.prog.mapsAmong Tryz.f5.resultTypes.toList) = true := by kernel_rfl
theorem f_loopsL : (Rows.countLeavesRow.loops == (Tryz.f5.params.toList ++ Rows.countLeavesSpec.plain.varTypes Tryz.pinned.checked.prog).any (Tryz.pinned.checked.prog.loopsFrom ·)) = true := by kernel_rfl
theorem f_wideL : (Rows.countLeavesRow.wideKeys == (Tryz.f5.params.toList ++ Rows.countLeavesSpec.plain.varTypes Tryz.pinned.checked.prog ++ Tryz.f5.resultTypes.toList).any (Tryz.pinned.checked.prog.wideKeysFrom ·)) = true := by kernel_rfl
theorem f_varsL : Rows.countLeavesSpec.vars.all (Tryz.pinned.checked.prog.varReadable ·) = true := by kernel_rfl
theorem f_resL : Tryz.f5.resultTypes.all (fun t => Tryz.pinned.checked.prog.readableRec t && decide (t < Tryz.pinned.checked.prog.types.size)) = true := by kernel_rfl
theorem f_ifacesOutL : (Rows.countLeavesRow.ifacesOut == Tryz.f5.resultTypes.toList.any (Tryz.pinned.checked.prog.ifacesRec ·)) = true := by kernel_rfl
theorem f_loopsOutL : (Rows.countLeavesRow.loopsOut == Tryz.f5.resultTypes.toList.any (Tryz.pinned.checked.prog.loopsFrom ·)) = true := by kernel_rfl
theorem f_plainL : (Rows.countLeavesRow.plainKeys == Tryz.pinned.checked.prog.plainKeys) = true := by kernel_rfl
theorem f_shortL : Rows.countLeavesRow.shortTexts.isNone = true := by kernel_rfl
theorem f_heardL : Tryz.pinned.checked.prog.stopsHeard = true := by kernel_rfl
theorem f_enterL : Tryz.pinned.checked.prog.mayEnter = true := by kernel_rfl
theorem f_lifted0L : (Rows.countLeavesRow.lifted == Tryz.pinned.checked.prog.liftsFinal) = true := by kernel_rfl
theorem f_makeL : (Tryz.pinned.checked.prog.make == some Rows.countLeavesRow.make) = true := by kernel_rfl
theorem f_kindsL : (Rows.countLeavesRow.kinds == (if Rows.countLeavesRow.domain.isEmpty then [] else Tryz.f5.params.toList.map fun t => match Tryz.pinned.checked.prog.underlying t with | some (.int k) => some k | _ => none)) = true := by kernel_rfl
theorem f_pinnedL : (Rows.countLeavesRow.pinned == Rows.countLeavesRow.pinnedBy) = true := by kernel_rfl
theorem f_veiledL : (Rows.countLeavesRow.veiled == (Tryz.f5.params.toList ++ Rows.countLeavesSpec.plain.varTypes Tryz.pinned.checked.prog ++ Tryz.f5.resultTypes.toList).any (Tryz.pinned.checked.prog.veiledRec ·)) = true := by kernel_rfl
theorem f_fitsL : Rows.countLeavesRow.veiledFits Tryz.pinned.checked.prog Tryz.f5.params.toList (Tryz.f5.params.toList ++ Rows.countLeavesSpec.plain.varTypes Tryz.pinned.checked.prog ++ Tryz.f5.resultTypes.toList) = true := by kernel_rfl
set_option maxRecDepth 100000 in
theorem closedL : joinedFacts Tryz.pinned.checked.prog 5 Tryz.f5 Rows.countLeavesSpec Rows.countLeavesRow = true := and_t (and_t (and_t (and_t (and_t (and_t (and_t (and_t (and_t (and_t (and_t (and_t (and_t (and_t (and_t (and_t (and_t (and_t (and_t (and_t (and_t (and_t (and_t (and_t (and_t (and_t (and_t (and_t (and_t (and_t (and_t (f_wfL) f_laidOutL) f_rowedL) f_readsL) f_tie0L) f_stopsL) f_pstopsL) f_knobsL) f_pknobsL) f_inPlaceL) f_unfL) f_recL) f_namedL) f_mapsL) f_ifacesL) f_mapsOutL) f_loopsL) f_wideL) f_varsL) f_resL) f_ifacesOutL) f_loopsOutL) f_plainL) f_shortL) f_heardL) f_enterL) f_lifted0L) f_makeL) f_kindsL) f_pinnedL) f_veiledL) f_fitsL
theorem namedL : Tryz.pinned.checked.prog.funcNamed Rows.countLeavesRow.func = some 5 := by kernel_rfl
theorem instL : Tryz.f5.isInstance Tryz.pinned.checked.prog Rows.countLeavesRow.origin Rows.countLeavesRow.targs := of_decide_eq_true (by kernel_rfl)
theorem wrapL : Tryz.f5.isWrapper Tryz.pinned.checked.prog Rows.countLeavesRow.wrapper Rows.countLeavesRow.mainSum := by unfold Func.isWrapper; first | (rw [if_pos (by decide +kernel)]; kernel_rfl) | (rw [if_neg (by decide +kernel)]; exact ⟨rfl, rfl⟩)
theorem saidL : Rows.CountLeavesSaid :=
 OpenClaim.holds_of_wide 5 Tryz.f5 rfl rfl rfl rfl rfl rfl rfl ⟨rfl, rfl, rfl, rfl, rfl⟩ rfl rfl rfl rfl rfl namedL Tryz.func5 closedL instL wrapL (fun os started H enc _ => liftedL os started H enc)
theorem byTextL : Rows.countLeavesRow.wfByText (OpenSpec.ofChange Rows.countLeavesSpec) = true := by kernel_rfl
theorem mainL : Tryz.pinned.checked.prog.mainIs = some (true, "81a4779245602e4505bb550610c11db015e9e05c9fff45316808e0d4e8a5c7e9".toList) := by kernel_rfl
theorem looksL : false = Tryz.pinned.checked.prog.looks [] := by kernel_rfl
theorem goesL : false = Rows.countLeavesRow.goesBy Tryz.pinned.checked.prog := by kernel_rfl
theorem parL : Tryz.f5.params = #[22] := by kernel_rfl
theorem wantL : Tryz.prog.wantsStandIn 22 = false := by kernel_rfl
theorem countLeaves_holds : Rows.CountLeavesCardSaid :=
 Claim7.holds_tied_plain_at .later [] [.data, .data, .data] true (true, "81a4779245602e4505bb550610c11db015e9e05c9fff45316808e0d4e8a5c7e9") false
  saidL (fun _ h => by cases h) byTextL (fun _ h => by cases h) countLeaves_row_tie rfl ⟨rfl, rfl⟩ mainL rfl
  (fun f fn hf hfn => by
   obtain rfl : f = 5 := Option.some.inj (namedL.symm.trans hf) |>.symm
   obtain rfl : fn = Tryz.f5 := (Option.some.inj (Tryz.func5.symm.trans hfn)).symm
   exact ⟨looksL, fun j t ht => by
    rw [parL] at ht
    have hm : t ∈ [22] := by simpa using Array.mem_of_getElem? ht
    rw [List.mem_singleton.1 hm]
    exact wantL⟩)
  goesL
#print axioms countLeaves_holds
end Go.Proofs.YteipiejlljnclaaGreatDoor
