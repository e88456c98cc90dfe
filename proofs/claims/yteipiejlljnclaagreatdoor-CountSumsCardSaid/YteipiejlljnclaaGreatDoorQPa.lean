/- CountSums: the expected value of a sum of diagrams is the sum of their expected values: for every list of numbers the law returns true, and the list reads afterwards as it read before. Conditions: the three listed tables of the library read as the program's text lays them (the card ties them); each slice that comes in is one that fits a machine, as the row says. -/
import Derived.Test.YteipiejlljnclaaGreatDoorQMa
import Derived.Test.YteipiejlljnclaaGreatDoorQNa
set_option linter.unusedVariables false
set_option linter.unusedSimpArgs false
namespace Go.Proofs.YteipiejlljnclaaGreatDoor
open Go Go.AL Go.ChangeShapes Go.WideShapes Go.ChangeAt Go.WideMaps Go.WideElems Go.RowKit
set_option maxRecDepth 100000 in
theorem liftedS (os : Os) (started : os.Started) (H : Type) (enc : TypeId × Value → H) :
  ReturnsInHanded {} Tryz.checked os 8 .any (fun w args => (Rows.countSumsSpec.pre enc Tryz.prog Tryz.f8 [] false w args ∧ laidMetH Tryz.prog laid3 w) ∧ sizedMet enc Tryz.prog Tryz.f8 (OpenSpec.ofChange Rows.countSumsSpec) false w args)
   (Rows.countSumsSpec.post enc Tryz.prog Tryz.f8 false true false false) := by
 refine returnsInHanded_of_change_and (C := Tryz.checked) (X := fun w _ => laidMetH Tryz.prog laid3 w) (fun _ _ _ hh h => h.of_heap hh) own_knob started (by kernel_rfl) Tryz.func8
  (ChangeSpec.witness_shaped (enc := enc) (C := Tryz.checked) (os := os) (X := fun w _ => laidMetH Tryz.prog laid3 w) false (World.doorLaid Tryz.prog 24 os) #[.slice none 0 0] 8 rfl (World.shaped_of_RefB (by kernel_rfl) (by kernel_rfl)) (by kernel_rfl) (by kernel_rfl) (by kernel_rfl) (door_met os _)) ?_
 intro W base args ds gs before hval hW _ hsz _ _
 exact law_post rfl rfl rfl (fun _ _ => rfl) c_Sums W args ds gs before hval hW hsz
theorem f_wfS : Rows.countSumsRow.wf (OpenSpec.ofChange Rows.countSumsSpec) = true := by kernel_rfl
theorem f_laidOutS : laidOutB Tryz.pinned.checked.prog = true := by kernel_rfl
theorem f_rowedS : mapsRowed Tryz.pinned.checked.prog = true := by kernel_rfl
theorem f_readsS : Tryz.f8.params.all (Tryz.pinned.checked.prog.readableRec ·) = true := by kernel_rfl
theorem f_tie0S : namedTie Tryz.pinned.checked.prog Rows.countSumsRow.named Rows.countSumsSpec.vars = true := by kernel_rfl
theorem f_stopsS : (Rows.countSumsRow.stops == []) = true := by kernel_rfl
theorem f_pstopsS : (Tryz.pinned.checked.prog.stops == []) = true := by kernel_rfl
theorem f_knobsS : (Rows.countSumsRow.knobs == []) = true := by kernel_rfl
theorem f_pknobsS : (Tryz.pinned.checked.prog.stopKnobs == []) = true := by kernel_rfl
theorem f_inPlaceS : (Rows.countSumsRow.inPlace == Tryz.pinned.checked.prog.inPlace 8) = true := by kernel_rfl
theorem f_unfS : (Rows.countSumsRow.unfollowed == Tryz.pinned.checked.prog.unfollowed 8) = true := by kernel_rfl
theorem f_recS : (Rows.countSumsRow.recurses == Tryz.pinned.checked.prog.recurses 8) = true := by kernel_rfl
theorem f_namedS : (Rows.countSumsRow.named == Tryz.pinned.checked.prog.varsNamed 8) = true := by kernel_rfl
theorem f_mapsS : (Rows.countSumsRow.maps == (Tryz.f8.params.toList ++ Rows.countSumsSpec.plain.varTypes Tryz.pinned.checked.prog).any (Tryz.pinned.checked.prog.mapsRec ·)) = true := by kernel_rfl
theorem f_ifacesS : (Rows.countSumsRow.ifaces == (Tryz.f8.params.toList ++ Rows.countSumsSpec.plain.varTypes Tryz.pinned.checked.prog).any (Tryz.pinned.checked.prog.ifacesRec ·)) = true := by kernel_rfl
theorem f_mapsOutS : (Rows.countSumsRow.mapsOut == Tryz.pinned.checked.prog.mapsAmong Tryz.f8.resultTypes.toList) = true := by kernel_rfl
theorem f_loopsS : (Rows.countSumsRow.loops == (Tryz.f8.params.toList ++ Rows.countSumsSpec.plain.varTypes Tryz.pinned.checked.prog).any (Tryz.pinned.checked.prog.loopsFrom ·)) = true := by kernel_rfl
theorem f_wideS : (Rows.countSumsRow.wideKeys == (Tryz.f8.params.toList ++ Rows.countSumsSpec.plain.varTypes Tryz.pinned.checked.prog ++ Tryz.f8.resultTypes.toList).any (Tryz.pinned.checked.prog.wideKeysFrom ·)) = true := by kernel_rfl
theorem f_varsS : Rows.countSumsSpec.vars.all (Tryz.pinned.checked.prog.varReadable ·) = true := by kernel_rfl
theorem f_resS : Tryz.f8.resultTypes.all (fun t => Tryz.pinned.checked.prog.readableRec t && decide (t < Tryz.pinned.checked.prog.types.size)) = true := by kernel_rfl
theorem f_ifacesOutS : (Rows.countSumsRow.ifacesOut == Tryz.f8.resultTypes.toList.any (Tryz.pinned.checked.prog.ifacesRec ·)) = true := by kernel_rfl
theorem f_loopsOutS : (Rows.countSumsRow.loopsOut == Tryz.f8.resultTypes.toList.any (Tryz.pinned.checked.prog.loopsFrom ·)) = true := by kernel_rfl
theorem f_plainS : (Rows.countSumsRow.plainKeys == Tryz.pinned.checked.prog.plainKeys) = true := by kernel_rfl
theorem f_shortS : Rows.countSumsRow.shortTexts.isNone = true := by kernel_rfl
theorem f_heardS : Tryz.pinned.checked.prog.stopsHeard = true := by kernel_rfl
theorem f_enterS : Tryz.pinned.checked.prog.mayEnter = true := by kernel_rfl
theorem f_lifted0S : (Rows.countSumsRow.lifted == Tryz.pinned.checked.prog.liftsFinal) = true := by kernel_rfl
theorem f_makeS : (Tryz.pinned.checked.prog.make == some Rows.countSumsRow.make) = true := by kernel_rfl
theorem f_kindsS : (Rows.countSumsRow.kinds == (if Rows.countSumsRow.domain.isEmpty then [] else Tryz.f8.params.toList.map fun t => match Tryz.pinned.checked.prog.underlying t with | some (.int k) => some k | _ => none)) = true := by kernel_rfl
theorem f_pinnedS : (Rows.countSumsRow.pinned == Rows.countSumsRow.pinnedBy) = true := by kernel_rfl
theorem f_veiledS : (Rows.countSumsRow.veiled == (Tryz.f8.params.toList ++ Rows.countSumsSpec.plain.varTypes Tryz.pinned.checked.prog ++ Tryz.f8.resultTypes.toList).any (Tryz.pinned.checked.prog.veiledRec ·)) = true := by kernel_rfl
theorem f_fitsS : Rows.countSumsRow.veiledFits Tryz.pinned.checked.prog Tryz.f8.params.toList (Tryz.f8.params.toList ++ Rows.countSumsSpec.plain.varTypes Tryz.pinned.checked.prog ++ Tryz.f8.resultTypes.toList) = true := by kernel_rfl
set_option maxRecDepth 100000 in
theorem closedS : joinedFacts Tryz.pinned.checked.prog 8 Tryz.f8 Rows.countSumsSpec Rows.countSumsRow = true := and_t (and_t (and_t (and_t (and_t (and_t (and_t (and_t (and_t (and_t (and_t (and_t (and_t (and_t (and_t (and_t (and_t (and_t (and_t (and_t (and_t (and_t (and_t (and_t (and_t (and_t (and_t (and_t (and_t (and_t (and_t (f_wfS) f_laidOutS) f_rowedS) f_readsS) f_tie0S) f_stopsS) f_pstopsS) f_knobsS) f_pknobsS) f_inPlaceS) f_unfS) f_recS) f_namedS) f_mapsS) f_ifacesS) f_mapsOutS) f_loopsS) f_wideS) f_varsS) f_resS) f_ifacesOutS) f_loopsOutS) f_plainS) f_shortS) f_heardS) f_enterS) f_lifted0S) f_makeS) f_kindsS) f_pinnedS) f_veiledS) f_fitsS
theorem namedS : Tryz.pinned.checked.prog.funcNamed Rows.countSumsRow.func = some 8 := by kernel_rfl
theorem instS : Tryz.f8.isInstance Tryz.pinned.checked.prog Rows.countSumsRow.origin Rows.countSumsRow.targs := of_decide_eq_true (by kernel_rfl)
theorem wrapS : Tryz.f8.isWrapper Tryz.pinned.checked.prog Rows.countSumsRow.wrapper Rows.countSumsRow.mainSum := by unfold Func.isWrapper; first | (rw [if_pos (by decide +kernel)]; kernel_rfl) | (rw [if_neg (by decide +kernel)]; exact ⟨rfl, rfl⟩)
theorem saidS : Rows.CountSumsSaid :=
 OpenClaim.holds_of_wide 8 Tryz.f8 rfl rfl rfl rfl rfl rfl rfl ⟨rfl, rfl, rfl, rfl, rfl⟩ rfl rfl rfl rfl rfl namedS Tryz.func8 closedS instS wrapS (fun os started H enc _ => liftedS os started H enc)
theorem byTextS : Rows.countSumsRow.wfByText (OpenSpec.ofChange Rows.countSumsSpec) = true := by kernel_rfl
theorem mainS : Tryz.pinned.checked.prog.mainIs = some (true, "81a4779245602e4505bb550610c11db015e9e05c9fff45316808e0d4e8a5c7e9".toList) := by kernel_rfl
theorem looksS : false = Tryz.pinned.checked.prog.looks [] := by kernel_rfl
theorem goesS : false = Rows.countSumsRow.goesBy Tryz.pinned.checked.prog := by kernel_rfl
theorem parS : Tryz.f8.params = #[22] := by kernel_rfl
theorem wantS : Tryz.prog.wantsStandIn 22 = false := by kernel_rfl
theorem countSums_holds : Rows.CountSumsCardSaid :=
 Claim7.holds_tied_plain_at .later [] [.data, .data, .data] true (true, "81a4779245602e4505bb550610c11db015e9e05c9fff45316808e0d4e8a5c7e9") false
  saidS (fun _ h => by cases h) byTextS (fun _ h => by cases h) countSums_row_tie rfl ⟨rfl, rfl⟩ mainS rfl
  (fun f fn hf hfn => by
   obtain rfl : f = 8 := Option.some.inj (namedS.symm.trans hf) |>.symm
   obtain rfl : fn = Tryz.f8 := (Option.some.inj (Tryz.func8.symm.trans hfn)).symm
   exact ⟨looksS, fun j t ht => by
    rw [parS] at ht
    have hm : t ∈ [22] := by simpa using Array.mem_of_getElem? ht
    rw [List.mem_singleton.1 hm]
    exact wantS⟩)
  goesS
#print axioms countSums_holds
end Go.Proofs.YteipiejlljnclaaGreatDoor
