/- CountImages: the expected value of the diagram with squared values is the second moment of the leaves: for every list of numbers the law returns true, and the list reads afterwards as before. Conditions: the three listed tables of the library read as the program's text lays them (the card ties them); each slice that comes in fits a machine, as the row says. -/
import Derived.Test.YteipiejlljnclaaGreatDoorRMa
import Derived.Test.YteipiejlljnclaaGreatDoorSNa
set_option linter.unusedVariables false
set_option linter.unusedSimpArgs false
namespace Go.Proofs.YteipiejlljnclaaGreatDoor
open Go Go.AL Go.ChangeShapes Go.WideShapes Go.ChangeAt Go.WideMaps Go.WideElems Go.RowKit
set_option maxRecDepth 100000 in
theorem liftedM (os : Os) (started : os.Started) (H : Type) (enc : TypeId × Value → H) :
  ReturnsInHanded {} Tryz.checked os 10 .any (fun w args => (Rows.countImagesSpec.pre enc Tryz.prog Tryz.f10 [] false w args ∧ laidMetH Tryz.prog laid3 w) ∧ sizedMet enc Tryz.prog Tryz.f10 (OpenSpec.ofChange Rows.countImagesSpec) false w args)
   (Rows.countImagesSpec.post enc Tryz.prog Tryz.f10 false true false false) := by
 refine returnsInHanded_of_change_and (C := Tryz.checked) (X := fun w _ => laidMetH Tryz.prog laid3 w) (fun _ _ _ hh h => h.of_heap hh) own_knob started (by kernel_rfl) Tryz.func10
  (ChangeSpec.witness_shaped (enc := enc) (C := Tryz.checked) (os := os) (X := fun w _ => laidMetH Tryz.prog laid3 w) false (World.doorLaid Tryz.prog 24 os) #[.slice none 0 0] 8 rfl (World.shaped_of_RefB (by kernel_rfl) (by kernel_rfl)) (by kernel_rfl) (by kernel_rfl) (by kernel_rfl) (door_met os _)) ?_
 intro W base args ds gs before hval hW _ hsz _ _
 exact law_post rfl rfl rfl (fun _ _ => rfl) c_Images W args ds gs before hval hW hsz
theorem f_wfM : Rows.countImagesRow.wf (OpenSpec.ofChange Rows.countImagesSpec) = true := by kernel_rfl
theorem f_laidOutM : laidOutB Tryz.pinned.checked.prog = true := by kernel_rfl
theorem f_rowedM : mapsRowed Tryz.pinned.checked.prog = true := by kernel_rfl
theorem f_readsM : Tryz.f10.params.all (Tryz.pinned.checked.prog.readableRec ·) = true := by kernel_rfl
theorem f_tie0M : namedTie Tryz.pinned.checked.prog Rows.countImagesRow.named Rows.countImagesSpec.vars = true := by kernel_rfl
theorem f_stopsM : (Rows.countImagesRow.stops == []) = true := by kernel_rfl
theorem f_pstopsM : (Tryz.pinned.checked.prog.stops == []) = true := by kernel_rfl
theorem f_knobsM : (Rows.countImagesRow.knobs == []) = true := by kernel_rfl
theorem f_pknobsM : (Tryz.pinned.checked.prog.stopKnobs == []) = true := by kernel_rfl
theorem f_inPlaceM : (Rows.countImagesRow.inPlace == Tryz.pinned.checked.prog.inPlace 10) = true := by kernel_rfl
theorem f_unfM : (Rows.countImagesRow.unfollowed == Tryz.pinned.checked.prog.unfollowed 10) = true := by kernel_rfl
theorem f_recM : (Rows.countImagesRow.recurses == Tryz.pinned.checked.prog.recurses 10) = true := by kernel_rfl
theorem f_namedM : (Rows.countImagesRow.named == Tryz.pinned.checked.prog.varsNamed 10) = true := by kernel_rfl
theorem f_mapsM : (Rows.countImagesRow.maps == (Tryz.f10.params.toList ++ Rows.countImagesSpec.plain.varTypes Tryz.pinned.checked.prog).any (Tryz.pinned.checked.prog.mapsRec ·)) = true := by kernel_rfl
theorem f_ifacesM : (Rows.countImagesRow.ifaces == (Tryz.f10.params.toList ++ Rows.countImagesSpec.plain.varTypes Tryz.pinned.checked.prog).any (Tryz.pinned.checked.prog.ifacesRec ·)) = true := by kernel_rfl
theorem f_mapsOutM : (Rows.countImagesRow.mapsOut == Tryz.pinned.checked.prog.mapsAmong Tryz.f10.resultTypes.toList) = true := by kernel_rfl
theorem f_loopsM : (Rows.countImagesRow.loops == (Tryz.f10.params.toList ++ Rows.countImagesSpec.plain.varTypes Tryz.pinned.checked.prog).any (Tryz.pinned.checked.prog.loopsFrom ·)) = true := by kernel_rfl
theorem f_wideM : (Rows.countImagesRow.wideKeys == (Tryz.f10.params.toList ++ Rows.countImagesSpec.plain.varTypes Tryz.pinned.checked.prog ++ Tryz.f10.resultTypes.toList).any (Tryz.pinned.checked.prog.wideKeysFrom ·)) = true := by kernel_rfl
theorem f_varsM : Rows.countImagesSpec.vars.all (Tryz.pinned.checked.prog.varReadable ·) = true := by kernel_rfl
theorem f_resM : Tryz.f10.resultTypes.all (fun t => Tryz.pinned.checked.prog.readableRec t && decide (t < Tryz.pinned.checked.prog.types.size)) = true := by kernel_rfl
theorem f_ifacesOutM : (Rows.countImagesRow.ifacesOut == Tryz.f10.resultTypes.toList.any (Tryz.pinned.checked.prog.ifacesRec ·)) = true := by kernel_rfl
theorem f_loopsOutM : (Rows.countImagesRow.loopsOut == Tryz.f10.resultTypes.toList.any (Tryz.pinned.checked.prog.loopsFrom ·)) = true := by kernel_rfl
theorem f_plainM : (Rows.countImagesRow.plainKeys == Tryz.pinned.checked.prog.plainKeys) = true := by kernel_rfl
theorem f_shortM : Rows.countImagesRow.shortTexts.isNone = true := by kernel_rfl
theorem f_heardM : Tryz.pinned.checked.prog.stopsHeard = true := by kernel_rfl
theorem f_enterM : Tryz.pinned.checked.prog.mayEnter = true := by kernel_rfl
theorem f_lifted0M : (Rows.countImagesRow.lifted == Tryz.pinned.checked.prog.liftsFinal) = true := by kernel_rfl
theorem f_makeM : (Tryz.pinned.checked.prog.make == some Rows.countImagesRow.make) = true := by kernel_rfl
theorem f_kindsM : (Rows.countImagesRow.kinds == (if Rows.countImagesRow.domain.isEmpty then [] else Tryz.f10.params.toList.map fun t => match Tryz.pinned.checked.prog.underlying t with | some (.int k) => some k | _ => none)) = true := by kernel_rfl
theorem f_pinnedM : (Rows.countImagesRow.pinned == Rows.countImagesRow.pinnedBy) = true := by kernel_rfl
theorem f_veiledM : (Rows.countImagesRow.veiled == (Tryz.f10.params.toList ++ Rows.countImagesSpec.plain.varTypes Tryz.pinned.checked.prog ++ Tryz.f10.resultTypes.toList).any (Tryz.pinned.checked.prog.veiledRec ·)) = true := by kernel_rfl
theorem f_fitsM : Rows.countImagesRow.veiledFits Tryz.pinned.checked.prog Tryz.f10.params.toList (Tryz.f10.params.toList ++ Rows.countImagesSpec.plain.varTypes Tryz.pinned.checked.prog ++ Tryz.f10.resultTypes.toList) = true := by kernel_rfl
set_option maxRecDepth 100000 in
theorem closedM : joinedFacts Tryz.pinned.checked.prog 10 Tryz.f10 Rows.countImagesSpec Rows.countImagesRow = true := and_t (and_t (and_t (and_t (and_t (and_t (and_t (and_t (and_t (and_t (and_t (and_t (and_t (and_t (and_t (and_t (and_t (and_t (and_t (and_t (and_t (and_t (and_t (and_t (and_t (and_t (and_t (and_t (and_t (and_t (and_t (f_wfM) f_laidOutM) f_rowedM) f_readsM) f_tie0M) f_stopsM) f_pstopsM) f_knobsM) f_pknobsM) f_inPlaceM) f_unfM) f_recM) f_namedM) f_mapsM) f_ifacesM) f_mapsOutM) f_loopsM) f_wideM) f_varsM) f_resM) f_ifacesOutM) f_loopsOutM) f_plainM) f_shortM) f_heardM) f_enterM) f_lifted0M) f_makeM) f_kindsM) f_pinnedM) f_veiledM) f_fitsM
theorem namedM : Tryz.pinned.checked.prog.funcNamed Rows.countImagesRow.func = some 10 := by kernel_rfl
theorem instM : Tryz.f10.isInstance Tryz.pinned.checked.prog Rows.countImagesRow.origin Rows.countImagesRow.targs := of_decide_eq_true (by kernel_rfl)
theorem wrapM : Tryz.f10.isWrapper Tryz.pinned.checked.prog Rows.countImagesRow.wrapper Rows.countImagesRow.mainSum := by unfold Func.isWrapper; first | (rw [if_pos (by decide +kernel)]; kernel_rfl) | (rw [if_neg (by decide +kernel)]; exact ⟨rfl, rfl⟩)
theorem saidM : Rows.CountImagesSaid :=
 OpenClaim.holds_of_wide 10 Tryz.f10 rfl rfl rfl rfl rfl rfl rfl ⟨rfl, rfl, rfl, rfl, rfl⟩ rfl rfl rfl rfl rfl namedM Tryz.func10 closedM instM wrapM (fun os started H enc _ => liftedM os started H enc)
theorem byTextM : Rows.countImagesRow.wfByText (OpenSpec.ofChange Rows.countImagesSpec) = true := by kernel_rfl
theorem mainM : Tryz.pinned.checked.prog.mainIs = some (true, "81a4779245602e4505bb550610c11db015e9e05c9fff45316808e0d4e8a5c7e9".toList) := by kernel_rfl
theorem looksM : false = Tryz.pinned.checked.prog.looks [] := by kernel_rfl
theorem goesM : false = Rows.countImagesRow.goesBy Tryz.pinned.checked.prog := by kernel_rfl
theorem parM : Tryz.f10.params = #[22] := by kernel_rfl
theorem wantM : Tryz.prog.wantsStandIn 22 = false := by kernel_rfl
theorem countImages_holds : Rows.CountImagesCardSaid :=
 Claim7.holds_tied_plain_at .later [] [.data, .data, .data] true (true, "81a4779245602e4505bb550610c11db015e9e05c9fff45316808e0d4e8a5c7e9") false
  saidM (fun _ h => by cases h) byTextM (fun _ h => by cases h) countImages_row_tie rfl ⟨rfl, rfl⟩ mainM rfl
  (fun f fn hf hfn => by
   obtain rfl : f = 10 := Option.some.inj (namedM.symm.trans hf) |>.symm
   obtain rfl : fn = Tryz.f10 := (Option.some.inj (Tryz.func10.symm.trans hfn)).symm
   exact ⟨looksM, fun j t ht => by
    rw [parM] at ht
    have hm : t ∈ [22] := by simpa using Array.mem_of_getElem? ht
    rw [List.mem_singleton.1 hm]
    exact wantM⟩)
  goesM
end Go.Proofs.YteipiejlljnclaaGreatDoor
