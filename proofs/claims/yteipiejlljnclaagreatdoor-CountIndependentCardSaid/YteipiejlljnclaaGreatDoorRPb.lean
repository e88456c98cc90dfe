/- CountIndependent: the expected value of a product of diagrams without a common site is the product of their expected values: for every list of numbers the law returns true, and the list reads afterwards as before. Conditions: the three listed tables of the library read as the program's text lays them (the card ties them); each slice that comes in fits a machine, as the row says. -/
import Derived.Test.YteipiejlljnclaaGreatDoorRMa
import Derived.Test.YteipiejlljnclaaGreatDoorRNa
set_option linter.unusedVariables false
set_option linter.unusedSimpArgs false
namespace Go.Proofs.YteipiejlljnclaaGreatDoor
open Go Go.AL Go.ChangeShapes Go.WideShapes Go.ChangeAt Go.WideMaps Go.WideElems Go.RowKit
set_option maxRecDepth 100000 in
theorem liftedI (os : Os) (started : os.Started) (H : Type) (enc : TypeId × Value → H) :
  ReturnsInHanded {} Tryz.checked os 9 .any (fun w args => (Rows.countIndependentSpec.pre enc Tryz.prog Tryz.f9 [] false w args ∧ laidMetH Tryz.prog laid3 w) ∧ sizedMet enc Tryz.prog Tryz.f9 (OpenSpec.ofChange Rows.countIndependentSpec) false w args)
   (Rows.countIndependentSpec.post enc Tryz.prog Tryz.f9 false true false false) := by
 refine returnsInHanded_of_change_and (C := Tryz.checked) (X := fun w _ => laidMetH Tryz.prog laid3 w) (fun _ _ _ hh h => h.of_heap hh) own_knob started (by kernel_rfl) Tryz.func9
  (ChangeSpec.witness_shaped (enc := enc) (C := Tryz.checked) (os := os) (X := fun w _ => laidMetH Tryz.prog laid3 w) false (World.doorLaid Tryz.prog 24 os) #[.slice none 0 0] 8 rfl (World.shaped_of_RefB (by kernel_rfl) (by kernel_rfl)) (by kernel_rfl) (by kernel_rfl) (by kernel_rfl) (door_met os _)) ?_
 intro W base args ds gs before hval hW _ hsz _ _
 exact law_post rfl rfl rfl (fun _ _ => rfl) c_Indep W args ds gs before hval hW hsz
theorem f_wfI : Rows.countIndependentRow.wf (OpenSpec.ofChange Rows.countIndependentSpec) = true := by kernel_rfl
theorem f_laidOutI : laidOutB Tryz.pinned.checked.prog = true := by kernel_rfl
theorem f_rowedI : mapsRowed Tryz.pinned.checked.prog = true := by kernel_rfl
theorem f_readsI : Tryz.f9.params.all (Tryz.pinned.checked.prog.readableRec ·) = true := by kernel_rfl
theorem f_tie0I : namedTie Tryz.pinned.checked.prog Rows.countIndependentRow.named Rows.countIndependentSpec.vars = true := by kernel_rfl
theorem f_stopsI : (Rows.countIndependentRow.stops == []) = true := by kernel_rfl
theorem f_pstopsI : (Tryz.pinned.checked.prog.stops == []) = true := by kernel_rfl
theorem f_knobsI : (Rows.countIndependentRow.knobs == []) = true := by kernel_rfl
theorem f_pknobsI : (Tryz.pinned.checked.prog.stopKnobs == []) = true := by kernel_rfl
theorem f_inPlaceI : (Rows.countIndependentRow.inPlace == Tryz.pinned.checked.prog.inPlace 9) = true := by kernel_rfl
theorem f_unfI : (Rows.countIndependentRow.unfollowed == Tryz.pinned.checked.prog.unfollowed 9) = true := by kernel_rfl
theorem f_recI : (Rows.countIndependentRow.recurses == Tryz.pinned.checked.prog.recurses 9) = true := by kernel_rfl
theorem f_namedI : (Rows.countIndependentRow.named == Tryz.pinned.checked.prog.varsNamed 9) = true := by kernel_rfl
theorem f_mapsI : (Rows.countIndependentRow.maps == (Tryz.f9.params.toList ++ Rows.countIndependentSpec.plain.varTypes Tryz.pinned.checked.prog).any (Tryz.pinned.checked.prog.mapsRec ·)) = true := by kernel_rfl
theorem f_ifacesI : (Rows.countIndependentRow.ifaces == (Tryz.f9.params.toList ++ Rows.countIndependentSpec.plain.varTypes Tryz.pinned.checked.prog).any (Tryz.pinned.checked.prog.ifacesRec ·)) = true := by kernel_rfl
theorem f_mapsOutI : (Rows.countIndependentRow.mapsOut == Tryz.pinned.checked.prog.mapsAmong Tryz.f9.resultTypes.toList) = true := by kernel_rfl
theorem f_loopsI : (Rows.countIndependentRow.loops == (Tryz.f9.params.toList ++ Rows.countIndependentSpec.plain.varTypes Tryz.pinned.checked.prog).any (Tryz.pinned.checked.prog.loopsFrom ·)) = true := by kernel_rfl
theorem f_wideI : (Rows.countIndependentRow.wideKeys == (Tryz.f9.params.toList ++ Rows.countIndependentSpec.plain.varTypes Tryz.pinned.checked.prog ++ Tryz.f9.resultTypes.toList).any (Tryz.pinned.checked.prog.wideKeysFrom ·)) = true := by kernel_rfl
theorem f_varsI : Rows.countIndependentSpec.vars.all (Tryz.pinned.checked.prog.varReadable ·) = true := by kernel_rfl
theorem f_resI : Tryz.f9.resultTypes.all (fun t => Tryz.pinned.checked.prog.readableRec t && decide (t < Tryz.pinned.checked.prog.types.size)) = true := by kernel_rfl
theorem f_ifacesOutI : (Rows.countIndependentRow.ifacesOut == Tryz.f9.resultTypes.toList.any (Tryz.pinned.checked.prog.ifacesRec ·)) = true := by kernel_rfl
theorem f_loopsOutI : (Rows.countIndependentRow.loopsOut == Tryz.f9.resultTypes.toList.any (Tryz.pinned.checked.prog.loopsFrom ·)) = true := by kernel_rfl
theorem f_plainI : (Rows.countIndependentRow.plainKeys == Tryz.pinned.checked.prog.plainKeys) = true := by kernel_rfl
theorem f_shortI : Rows.countIndependentRow.shortTexts.isNone = true := by kernel_rfl
theorem f_heardI : Tryz.pinned.checked.prog.stopsHeard = true := by kernel_rfl
theorem f_enterI : Tryz.pinned.checked.prog.mayEnter = true := by kernel_rfl
theorem f_lifted0I : (Rows.countIndependentRow.lifted == Tryz.pinned.checked.prog.liftsFinal) = true := by kernel_rfl
theorem f_makeI : (Tryz.pinned.checked.prog.make == some Rows.countIndependentRow.make) = true := by kernel_rfl
theorem f_kindsI : (Rows.countIndependentRow.kinds == (if Rows.countIndependentRow.domain.isEmpty then [] else Tryz.f9.params.toList.map fun t => match Tryz.pinned.checked.prog.underlying t with | some (.int k) => some k | _ => none)) = true := by kernel_rfl
theorem f_pinnedI : (Rows.countIndependentRow.pinned == Rows.countIndependentRow.pinnedBy) = true := by kernel_rfl
theorem f_veiledI : (Rows.countIndependentRow.veiled == (Tryz.f9.params.toList ++ Rows.countIndependentSpec.plain.varTypes Tryz.pinned.checked.prog ++ Tryz.f9.resultTypes.toList).any (Tryz.pinned.checked.prog.veiledRec ·)) = true := by kernel_rfl
theorem f_fitsI : Rows.countIndependentRow.veiledFits Tryz.pinned.checked.prog Tryz.f9.params.toList (Tryz.f9.params.toList ++ Rows.countIndependentSpec.plain.varTypes Tryz.pinned.checked.prog ++ Tryz.f9.resultTypes.toList) = true := by kernel_rfl
set_option maxRecDepth 100000 in
theorem closedI : joinedFacts Tryz.pinned.checked.prog 9 Tryz.f9 Rows.countIndependentSpec Rows.countIndependentRow = true := and_t (and_t (and_t (and_t (and_t (and_t (and_t (and_t (and_t (and_t (and_t (and_t (and_t (and_t (and_t (and_t (and_t (and_t (and_t (and_t (and_t (and_t (and_t (and_t (and_t (and_t (and_t (and_t (and_t (and_t (and_t (f_wfI) f_laidOutI) f_rowedI) f_readsI) f_tie0I) f_stopsI) f_pstopsI) f_knobsI) f_pknobsI) f_inPlaceI) f_unfI) f_recI) f_namedI) f_mapsI) f_ifacesI) f_mapsOutI) f_loopsI) f_wideI) f_varsI) f_resI) f_ifacesOutI) f_loopsOutI) f_plainI) f_shortI) f_heardI) f_enterI) f_lifted0I) f_makeI) f_kindsI) f_pinnedI) f_veiledI) f_fitsI
theorem namedI : Tryz.pinned.checked.prog.funcNamed Rows.countIndependentRow.func = some 9 := by kernel_rfl
theorem instI : Tryz.f9.isInstance Tryz.pinned.checked.prog Rows.countIndependentRow.origin Rows.countIndependentRow.targs := of_decide_eq_true (by kernel_rfl)
theorem wrapI : Tryz.f9.isWrapper Tryz.pinned.checked.prog Rows.countIndependentRow.wrapper Rows.countIndependentRow.mainSum := by unfold Func.isWrapper; first | (rw [if_pos (by decide +kernel)]; kernel_rfl) | (rw [if_neg (by decide +kernel)]; exact ⟨rfl, rfl⟩)
theorem saidI : Rows.CountIndependentSaid :=
 OpenClaim.holds_of_wide 9 Tryz.f9 rfl rfl rfl rfl rfl rfl rfl ⟨rfl, rfl, rfl, rfl, rfl⟩ rfl rfl rfl rfl rfl namedI Tryz.func9 closedI instI wrapI (fun os started H enc _ => liftedI os started H enc)
theorem byTextI : Rows.countIndependentRow.wfByText (OpenSpec.ofChange Rows.countIndependentSpec) = true := by kernel_rfl
theorem mainI : Tryz.pinned.checked.prog.mainIs = some (true, "81a4779245602e4505bb550610c11db015e9e05c9fff45316808e0d4e8a5c7e9".toList) := by kernel_rfl
theorem looksI : false = Tryz.pinned.checked.prog.looks [] := by kernel_rfl
theorem goesI : false = Rows.countIndependentRow.goesBy Tryz.pinned.checked.prog := by kernel_rfl
theorem parI : Tryz.f9.params = #[22] := by kernel_rfl
theorem wantI : Tryz.prog.wantsStandIn 22 = false := by kernel_rfl
theorem countIndependent_holds : Rows.CountIndependentCardSaid :=
 Claim7.holds_tied_plain_at .later [] [.data, .data, .data] true (true, "81a4779245602e4505bb550610c11db015e9e05c9fff45316808e0d4e8a5c7e9") false
  saidI (fun _ h => by cases h) byTextI (fun _ h => by cases h) countIndependent_row_tie rfl ⟨rfl, rfl⟩ mainI rfl
  (fun f fn hf hfn => by
   obtain rfl : f = 9 := Option.some.inj (namedI.symm.trans hf) |>.symm
   obtain rfl : fn = Tryz.f9 := (Option.some.inj (Tryz.func9.symm.trans hfn)).symm
   exact ⟨looksI, fun j t ht => by
    rw [parI] at ht
    have hm : t ∈ [22] := by simpa using Array.mem_of_getElem? ht
    rw [List.mem_singleton.1 hm]
    exact wantI⟩)
  goesI
end Go.Proofs.YteipiejlljnclaaGreatDoor
